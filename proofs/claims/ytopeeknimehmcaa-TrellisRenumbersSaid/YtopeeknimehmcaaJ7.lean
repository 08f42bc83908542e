/- slices.Index, Contains over bools; trellis.Proper. Conditions: none. -/
import Derived.Test.YtopeeknimehmcaaJ6
set_option linter.unusedVariables false
set_option linter.unusedSimpArgs false
namespace Go.AM
open Go Go.Proofs
attribute [local go_sem] c_skip c_ops c_seq c_ite c_blk c_exit c_ret t_normal t_exit t_ret b_normal b_exit b_ret i_nil i_cons s_guard s_mov s_pick s_new s_zero s_ld s_ldr s_st s_bin s_beq s_isnil s_eqs s_un s_conv s_fa s_fld s_ia s_sli s_ext s_ifc s_mkf s_agg s_len s_mm s_nilchk s_bsl s_mk s_app s_cpy s_call s_inv cells_agg cells_int cells_bool p_get p_none o_s o_c e_0 e_1 e_2 e_3 e_4 iteC_true iteC_false grd_tt grd_tf grd_ft grd_ff grd_und bindV_some pickV_t pickV_f beq_bool conv_int un_not not_dec mm_min mm_max bv_add bv_sub bv_mul bv_eql bv_neq bv_lss bv_leq bv_gtr bv_geq f_normal f_one f_two f_three f_none fa_ptr fld_one ext_tup len_sl len_nils decide_true decide_false not_true_eq_false not_false_eq_true List.map_cons List.map_nil List.append_nil List.cons_append List.nil_append Nat.zero_add Nat.add_zero Nat.mul_one Nat.succ_ne_self if_true if_false List.getElem?_cons_zero List.getElem?_cons_succ

/-- slices.Index[[]bool,bool] -/
def F83 : AF := ⟨19, [(4, none)], (.seq (.ops [⟨none, false, (some 4), (.mov (.c (.int .i64 (0))))⟩]) (.seq (.seq (.ops [⟨none, false, (some 6), (.mov (.s 0))⟩, ⟨none, false, (some 7), (.len (.s 6))⟩, ⟨none, false, (some 8), (.mov (.c (.int .i64 (0))))⟩]) (.blk 0 (.loop (.seq (.ops [⟨none, false, (some 9), (.bin .lss (.s 8) (.s 7))⟩]) (.seq (.ite (.s 9) .skip (.exit 0)) (.seq (.blk 1 (.seq (.ops [⟨none, false, (some 10), (.mov (.s 8))⟩, ⟨none, false, (some 5), (.mov (.s 10))⟩]) (.seq (.ops [⟨none, false, (some 11), (.mov (.s 1))⟩, ⟨none, false, (some 12), (.mov (.s 0))⟩, ⟨none, false, (some 13), (.mov (.s 5))⟩, ⟨none, false, (some 14), (.ia 1 (.s 12) (.s 13))⟩, ⟨none, false, (some 15), (.ld false 1 (.s 14) none)⟩, ⟨none, false, (some 16), (.beq false (.s 11) (.s 15))⟩]) (.ite (.s 16) (.seq (.ops [⟨none, false, (some 17), (.mov (.s 5))⟩, ⟨none, false, (some 4), (.mov (.s 17))⟩]) .ret) .skip)))) (.ops [⟨none, false, (some 18), (.bin .add (.s 8) (.c (.int .i64 (1))))⟩, ⟨none, false, (some 8), (.mov (.s 18))⟩]))))))) (.seq (.ops [⟨none, false, (some 4), (.mov (.c (.int .i64 (-1))))⟩]) .ret)))⟩
theorem cv83 : cvF Try.prog 83 = some F83 := by kernel_rfl

/-- slices.Contains[[]bool,bool] -/
def F49 : AF := ⟨9, [(4, none)], (.seq (.ops [⟨none, false, (some 4), (.mov (.c (.bool false)))⟩]) (.seq (.ops [⟨none, false, (some 5), (.mov (.s 0))⟩, ⟨none, false, (some 6), (.mov (.s 1))⟩, ⟨none, false, (some 7), (.call (.c (.fn 83 [])) [(.s 5), (.s 6)])⟩, ⟨none, false, (some 8), (.bin .geq (.s 7) (.c (.int .i64 (0))))⟩, ⟨none, false, (some 4), (.mov (.s 8))⟩]) .ret))⟩
theorem cv49 : cvF Try.prog 49 = some F49 := by kernel_rfl

/-- trellis.Proper -/
def F18 : AF := ⟨98, [(2, none)], (.seq (.ops [⟨none, false, (some 1), (.new (.s 0))⟩, ⟨none, false, (some 2), (.mov (.c (.int .i64 (0))))⟩]) (.seq (.seq (.ops [⟨none, false, (some 11), (.ld true 2 (.s 1) none)⟩, ⟨none, false, (some 12), (.call (.c (.fn 47 [])) [(.s 11)])⟩, ⟨none, false, (some 3), (.mov (.s 12))⟩]) (.seq (.ops [⟨none, false, (some 13), (.mov (.s 3))⟩, ⟨none, false, (some 14), (.bin .neq (.s 13) (.c (.int .i64 (0))))⟩]) (.ite (.s 14) (.seq (.ops [⟨none, false, (some 15), (.mov (.s 3))⟩, ⟨none, false, (some 2), (.mov (.s 15))⟩]) .ret) .skip))) (.seq (.ops [⟨none, false, (some 16), (.fa 1 (.s 1))⟩, ⟨none, false, (some 17), (.ld false 1 (.s 16) none)⟩, ⟨none, false, (some 18), (.len (.s 17))⟩, ⟨none, false, (some 4), (.mov (.s 18))⟩]) (.seq (.seq (.ops [⟨none, false, (some 19), (.fa 0 (.s 1))⟩, ⟨none, false, (some 20), (.ld false 1 (.s 19) none)⟩, ⟨none, false, (some 21), (.ia 1 (.s 20) (.c (.int .i64 (0))))⟩, ⟨none, false, (some 22), (.ld false 1 (.s 21) none)⟩, ⟨none, false, (some 23), (.bin .neq (.s 22) (.c (.int .i64 (1))))⟩, ⟨none, false, (some 24), (.mov (.s 23))⟩, ⟨(some (24, false)), false, (some 25), (.fa 0 (.s 1))⟩, ⟨(some (24, false)), false, (some 26), (.ld false 1 (.s 25) none)⟩, ⟨(some (24, false)), false, (some 27), (.mov (.s 4))⟩, ⟨(some (24, false)), false, (some 28), (.ia 1 (.s 26) (.s 27))⟩, ⟨(some (24, false)), false, (some 29), (.ld false 1 (.s 28) none)⟩, ⟨(some (24, false)), false, (some 30), (.bin .neq (.s 29) (.c (.int .i64 (1))))⟩, ⟨none, false, (some 31), (.pick (.s 24) (.c (.bool true)) (.s 30))⟩]) (.ite (.s 31) (.seq (.ops [⟨none, false, (some 2), (.mov (.c (.int .i64 (5))))⟩]) .ret) .skip)) (.seq (.seq (.ops [⟨none, false, (some 32), (.fa 1 (.s 1))⟩, ⟨none, false, (some 33), (.ld false 1 (.s 32) none)⟩, ⟨none, false, (some 34), (.len (.s 33))⟩, ⟨none, false, (some 35), (.mov (.c (.int .i64 (0))))⟩]) (.blk 0 (.loop (.seq (.ops [⟨none, false, (some 36), (.bin .lss (.s 35) (.s 34))⟩]) (.seq (.ite (.s 36) .skip (.exit 0)) (.seq (.blk 1 (.seq (.ops [⟨none, false, (some 37), (.mov (.s 35))⟩, ⟨none, false, (some 38), (.ia 1 (.s 33) (.s 35))⟩, ⟨none, false, (some 39), (.ld false 1 (.s 38) none)⟩, ⟨none, false, (some 5), (.mov (.s 37))⟩, ⟨none, false, (some 6), (.mov (.s 39))⟩]) (.seq (.ops [⟨none, false, (some 40), (.fa 0 (.s 1))⟩, ⟨none, false, (some 41), (.ld false 1 (.s 40) none)⟩, ⟨none, false, (some 42), (.mov (.s 5))⟩, ⟨none, false, (some 43), (.ia 1 (.s 41) (.s 42))⟩, ⟨none, false, (some 44), (.ld false 1 (.s 43) none)⟩, ⟨none, false, (some 45), (.mk 1 1 [(.bool false)] (.s 44) (.s 44))⟩, ⟨none, false, (some 7), (.mov (.s 45))⟩]) (.seq (.ops [⟨none, false, (some 46), (.fa 0 (.s 1))⟩, ⟨none, false, (some 47), (.ld false 1 (.s 46) none)⟩, ⟨none, false, (some 48), (.mov (.s 5))⟩, ⟨none, false, (some 49), (.bin .add (.s 48) (.c (.int .i64 (1))))⟩, ⟨none, false, (some 50), (.ia 1 (.s 47) (.s 49))⟩, ⟨none, false, (some 51), (.ld false 1 (.s 50) none)⟩, ⟨none, false, (some 52), (.mk 1 1 [(.bool false)] (.s 51) (.s 51))⟩, ⟨none, false, (some 8), (.mov (.s 52))⟩]) (.seq (.seq (.ops [⟨none, false, (some 53), (.mov (.s 6))⟩, ⟨none, false, (some 54), (.len (.s 53))⟩, ⟨none, false, (some 55), (.mov (.c (.int .i64 (0))))⟩]) (.blk 2 (.loop (.seq (.ops [⟨none, false, (some 56), (.bin .lss (.s 55) (.s 54))⟩]) (.seq (.ite (.s 56) .skip (.exit 2)) (.seq (.blk 3 (.seq (.ops [⟨none, false, (some 57), (.mov (.s 55))⟩, ⟨none, false, (some 58), (.ia 3 (.s 53) (.s 55))⟩, ⟨none, false, (some 59), (.ld true 3 (.s 58) none)⟩, ⟨none, false, (some 10), (.zero [(.int .i64 (0)), (.int .i64 (0)), (.int .i64 (0))])⟩, ⟨none, false, (some 9), (.mov (.s 57))⟩, ⟨none, false, none, (.st 3 (.s 10) (.s 59) [])⟩]) (.seq (.seq (.ops [⟨none, false, (some 60), (.fa 1 (.s 10))⟩, ⟨none, false, (some 61), (.ld false 1 (.s 60) none)⟩, ⟨none, false, (some 62), (.bin .lss (.s 61) (.c (.int .i64 (0))))⟩, ⟨none, false, (some 63), (.mov (.s 62))⟩, ⟨(some (63, false)), false, (some 64), (.fa 1 (.s 10))⟩, ⟨(some (63, false)), false, (some 65), (.ld false 1 (.s 64) none)⟩, ⟨(some (63, false)), false, (some 66), (.bin .geq (.s 65) (.c (.int .i64 (256))))⟩, ⟨none, false, (some 67), (.pick (.s 63) (.c (.bool true)) (.s 66))⟩, ⟨none, false, (some 68), (.mov (.s 67))⟩, ⟨(some (68, false)), false, (some 69), (.mov (.s 9))⟩, ⟨(some (68, false)), false, (some 70), (.bin .gtr (.s 69) (.c (.int .i64 (0))))⟩, ⟨(some (68, false)), false, (some 71), (.mov (.s 70))⟩, ⟨(some (71, true)), false, (some 72), (.mov (.s 6))⟩, ⟨(some (71, true)), false, (some 73), (.mov (.s 9))⟩, ⟨(some (71, true)), false, (some 74), (.bin .sub (.s 73) (.c (.int .i64 (1))))⟩, ⟨(some (71, true)), false, (some 75), (.ia 3 (.s 72) (.s 74))⟩, ⟨(some (71, true)), false, (some 76), (.ld true 3 (.s 75) none)⟩, ⟨(some (71, true)), false, (some 77), (.ld true 3 (.s 10) none)⟩, ⟨(some (71, true)), false, (some 78), (.call (.c (.fn 48 [])) [(.s 76), (.s 77)])⟩, ⟨(some (71, true)), false, (some 79), (.bin .geq (.s 78) (.c (.int .i64 (0))))⟩, ⟨(some (68, false)), false, (some 80), (.pick (.s 71) (.s 79) (.c (.bool false)))⟩, ⟨none, false, (some 81), (.pick (.s 68) (.c (.bool true)) (.s 80))⟩]) (.ite (.s 81) (.seq (.ops [⟨none, false, (some 2), (.mov (.c (.int .i64 (5))))⟩]) .ret) .skip)) (.ops [⟨none, false, (some 82), (.mov (.s 7))⟩, ⟨none, false, (some 83), (.fa 0 (.s 10))⟩, ⟨none, false, (some 85), (.mov (.s 8))⟩, ⟨none, false, (some 86), (.fa 2 (.s 10))⟩, ⟨none, false, (some 84), (.ld false 1 (.s 83) none)⟩, ⟨none, false, (some 88), (.ia 1 (.s 82) (.s 84))⟩, ⟨none, false, (some 87), (.ld false 1 (.s 86) (some 10))⟩, ⟨none, false, none, (.st 1 (.s 88) (.c (.bool true)) [10])⟩, ⟨none, false, (some 89), (.ia 1 (.s 85) (.s 87))⟩, ⟨none, false, none, (.st 1 (.s 89) (.c (.bool true)) [])⟩])))) (.ops [⟨none, false, (some 90), (.bin .add (.s 55) (.c (.int .i64 (1))))⟩, ⟨none, false, (some 55), (.mov (.s 90))⟩]))))))) (.seq (.ops [⟨none, false, (some 91), (.mov (.s 7))⟩, ⟨none, false, (some 92), (.call (.c (.fn 49 [])) [(.s 91), (.c (.bool false))])⟩, ⟨none, false, (some 93), (.mov (.s 92))⟩, ⟨(some (93, false)), false, (some 94), (.mov (.s 8))⟩, ⟨(some (93, false)), false, (some 95), (.call (.c (.fn 49 [])) [(.s 94), (.c (.bool false))])⟩, ⟨none, false, (some 96), (.pick (.s 93) (.c (.bool true)) (.s 95))⟩]) (.ite (.s 96) (.seq (.ops [⟨none, false, (some 2), (.mov (.c (.int .i64 (5))))⟩]) .ret) .skip))))))) (.ops [⟨none, false, (some 97), (.bin .add (.s 35) (.c (.int .i64 (1))))⟩, ⟨none, false, (some 35), (.mov (.s 97))⟩]))))))) (.seq (.ops [⟨none, false, (some 2), (.mov (.c (.int .i64 (0))))⟩]) .ret))))))⟩
theorem cv18 : cvF Try.prog 18 = some F18 := by kernel_rfl


def bools (bs : List Bool) : List V := bs.map .bool
theorem bools_get {xs : List Bool} {k : Nat} (h : k < xs.length) : (bools xs)[k]? = some (.bool xs[k]) := by simp [bools, h]
theorem bools_len (xs : List Bool) : (bools xs).length = xs.length := by simp [bools]

/-- the first place of b, or -1 -/
theorem Index_spec {v : V} {bs : List Bool} {b : Bool} {H : Heap} (hv : Sl H v 1 bs.length (bools bs)) : ACalls Try.prog 83 [v, .bool b] H fun u H' => (∃ n : Int, u = .int .i64 n ∧ (0 ≤ n ↔ b ∈ bs)) ∧ H' = H := by
  refine ACalls.of_body hm cv83 (by simp only [List.length_cons, List.length_nil]; decide) ?_
  simp only [F83, go_sem, ↓reduceIte, Nat.reduceEqDiff, Nat.reduceAdd, reduceCtorEq, hv.len]
  have := hv.lt
  refine range_loop bs.length (fun k env H' => H = H' ∧ env 0 = v ∧ env 1 = .bool b ∧ env 7 = .int .i64 bs.length ∧ env 8 = .int .i64 k ∧ ∀ j, (h : j < bs.length) → j < k → bs[j] ≠ b) (by omega) (by decide) (by decide) ?_ ?_ ?_ ?_
  · rintro k env H' ⟨_, _, _, h7, h8, _⟩; exact ⟨h8, h7⟩
  · simp only [go_sem, ↓reduceIte, Nat.reduceEqDiff, Nat.reduceAdd, reduceCtorEq]; simp
  · rintro k env H' hk ⟨rfl, h0, h1, h7, h8, hz⟩
    obtain ⟨p, a1, a2⟩ := hv.at1 (kd := .i64) hk
    rw [bools_get hk] at a2
    simp only [go_sem, ↓reduceIte, Nat.reduceEqDiff, Nat.reduceAdd, reduceCtorEq, h0, h1, h7, h8, a1, a2]
    refine iteC_b (fun hx => ?_) (fun hx => ?_)
    · simp only [go_sem, ↓reduceIte, Nat.reduceEqDiff, Nat.reduceAdd, reduceCtorEq]
      refine finO_self ⟨⟨k, rfl, ?_⟩, rfl⟩
      have : b = bs[k] := by simpa using hx
      exact ⟨fun _ => this ▸ List.getElem_mem hk, fun _ => by omega⟩
    · simp only [go_sem, ↓reduceIte, Nat.reduceEqDiff, Nat.reduceAdd, reduceCtorEq, h0, h1, h7, h8]
      refine ⟨by trivial, by trivial, by trivial, by trivial, by trivial, by trivial, fun j h hj => ?_⟩
      rcases Nat.lt_succ_iff_lt_or_eq.1 hj with hj | rfl
      · exact hz j h hj
      · intro e
        rw [e] at hx; simp at hx
  · rintro env H' ⟨rfl, h0, h1, h7, h8, hz⟩
    simp only [go_sem, ↓reduceIte, Nat.reduceEqDiff, Nat.reduceAdd, reduceCtorEq]
    refine finO_self ⟨⟨-1, rfl, by omega, fun hb => ?_⟩, rfl⟩
    obtain ⟨j, hj, e⟩ := List.getElem_of_mem hb
    exact absurd e (hz j hj hj)

theorem Contains_spec {v : V} {bs : List Bool} {b : Bool} {H : Heap} (hv : Sl H v 1 bs.length (bools bs)) : ACalls Try.prog 49 [v, .bool b] H fun u H' => u = .bool (decide (b ∈ bs)) ∧ H' = H := by
  refine ACalls.of_body hm cv49 (by simp only [List.length_cons, List.length_nil]; decide) ?_
  simp only [F49, go_sem, ↓reduceIte, Nat.reduceEqDiff, Nat.reduceAdd, reduceCtorEq]
  refine callC_any (Index_spec hv) ?_
  rintro u H' ⟨⟨n, rfl, hn⟩, rfl⟩
  simp only [go_sem, ↓reduceIte, Nat.reduceEqDiff, Nat.reduceAdd, reduceCtorEq]
  exact finO_self ⟨by simp [hn], rfl⟩

/-! ### the plain words -/

theorem mem_le_sumI {l : List Int} (h : ∀ x ∈ l, 0 ≤ x) : ∀ x ∈ l, x ≤ sumI l := by
  induction l with
  | nil => intro x hx; cases hx
  | cons y r ih =>
    intro x hx
    have h0 := h y (List.mem_cons_self ..)
    have hr : ∀ x ∈ r, 0 ≤ x := fun z hz => h z (List.mem_cons_of_mem _ hz)
    have := sumI_nonneg hr
    simp only [sumI]
    rcases List.mem_cons.1 hx with rfl | hx
    · omega
    · have := ih hr x hx; omega

structure Shaped (ws : List Int) (es : List (List Ed)) : Prop where
  n : es.length ≤ 64
  len : ws.length = es.length + 1
  pos : ∀ i, (h : i < ws.length) → 1 ≤ ws[i] ∧ ws[i] ≤ 65536
  nodes : sumI ws ≤ 65536
  edges : sumI (lensI es) ≤ 262144
  each : ∀ i, (h : i < es.length) → es[i].length ≤ 262144
  good : ∀ i, (h : i < es.length) → ∀ e ∈ es[i], 0 ≤ e.fr ∧ e.fr < ws[i]?.getD 0 ∧ 0 ≤ e.to ∧ e.to < ws[i+1]?.getD 0

theorem shaped_of {ws : List Int} {es : List (List Ed)} (h : shapeI ws es = 0) : Shaped ws es := by
  unfold shapeI at h
  split at h
  · omega
  rename_i c1
  split at h
  · omega
  rename_i c2
  split at h
  · omega
  rename_i c3
  split at h
  · omega
  rename_i c4
  split at h
  · omega
  rename_i c5
  have pos : ∀ x ∈ ws, 1 ≤ x := fun x hx => by
    have : ¬ x < 1 := fun h => c2 ⟨x, hx, h⟩
    omega
  have nn : ∀ x ∈ ws, 0 ≤ x := fun x hx => by have := pos x hx; omega
  refine ⟨by omega, by omega, fun i hi => ⟨pos _ (List.getElem_mem hi), ?_⟩, by omega, by omega, fun i hi => ?_, fun i hi e he => ?_⟩
  · have := mem_le_sumI nn _ (List.getElem_mem hi); omega
  · have := mem_le_sumI (lens_nonneg es) (es[i].length) (List.mem_map_of_mem (f := fun l : List Ed => (l.length : Int)) (List.getElem_mem hi)); omega
  · have : ¬ BadE ws i e := fun hb => c5 ⟨i, hi, e, he, hb⟩
    unfold BadE at this
    omega

def LexLt (a b : Ed) : Prop := a.fr < b.fr ∨ (a.fr = b.fr ∧ a.lb < b.lb)
theorem less_ge (a b : Ed) : 0 ≤ lessI a b ↔ ¬ LexLt a b := by
  unfold lessI LexLt cmpI
  simp only [orL]
  by_cases h1 : a.fr < b.fr
  · simp [h1]
  · by_cases h2 : b.fr < a.fr
    · simp [h1, h2]; omega
    · by_cases h3 : a.lb < b.lb
      · simp [h1, h2, h3]; omega
      · by_cases h4 : b.lb < a.lb
        · simp [h1, h2, h3, h4]
        · simp [h1, h2, h3, h4]

structure GoodSec (w w' : Int) (l : List Ed) : Prop where
  lab : ∀ e ∈ l, 0 ≤ e.lb ∧ e.lb < 256
  up : ∀ j, (h : j + 1 < l.length) → LexLt l[j] l[j+1]
  out : ∀ v : Int, 0 ≤ v → v < w → ∃ e ∈ l, e.fr = v
  inn : ∀ v : Int, 0 ≤ v → v < w' → ∃ e ∈ l, e.to = v
open Classical in
noncomputable def properI (ws : List Int) (es : List (List Ed)) : Int :=
  if shapeI ws es ≠ 0 then shapeI ws es
  else if ws[0]?.getD 0 ≠ 1 ∨ ws[es.length]?.getD 0 ≠ 1 then 5
  else if ∀ i, (h : i < es.length) → GoodSec (ws[i]?.getD 0) (ws[i+1]?.getD 0) es[i] then 0 else 5

/-- which of the first w numbers are among these -/
def marks (w : Nat) (xs : List Int) : List Bool := (List.range w).map fun (v : Nat) => decide ((v : Int) ∈ xs)
theorem marks_len (w : Nat) (xs : List Int) : (marks w xs).length = w := by simp [marks]
theorem marks_nil (w : Nat) : bools (marks w []) = List.replicate w (.bool false) := by
  apply List.ext_getElem?
  intro i
  by_cases h : i < w <;> simp [bools, marks, h]
theorem marks_snoc (w : Nat) (xs : List Int) (v : Nat) : (marks w xs).set v true = marks w (xs ++ [(v : Int)]) := by
  apply List.ext_getElem?
  intro i
  simp only [List.getElem?_set, marks_len]
  by_cases h : i < w
  · by_cases e : v = i
    · subst e; simp [marks, h]
    · have e' : ¬ (i : Int) = v := by omega
      simp [marks, h, e, e']
  · have : ¬ v < w ∨ ¬ v = i := by omega
    by_cases e : v = i
    · subst e; simp [marks, h]
    · simp [marks, h, e]
theorem marks_false (w : Nat) (xs : List Int) : false ∈ marks w xs ↔ ∃ v : Int, 0 ≤ v ∧ v < w ∧ v ∉ xs := by
  simp only [marks, List.mem_map, List.mem_range, decide_eq_false_iff_not]
  constructor
  · rintro ⟨v, h1, h2⟩; exact ⟨v, by omega, by omega, h2⟩
  · rintro ⟨v, h1, h2, h3⟩; exact ⟨v.toNat, by omega, by rwa [Int.toNat_of_nonneg h1]⟩
theorem splice_one (l : List V) (o : Nat) (x : V) (h : o < l.length) : splice l o [x] = l.set o x := by
  unfold splice
  rw [List.set_eq_take_append_cons_drop, if_pos h]
  simp
theorem bools_set (bs : List Bool) (o : Nat) (b : Bool) : (bools bs).set o (.bool b) = bools (bs.set o b) := by
  simp [bools, List.map_set]
theorem flat_rep (n : Nat) (v : V) : (List.replicate n [v]).flatten = List.replicate n v := by
  induction n with
  | zero => rfl
  | succ n ih => simp [List.replicate_succ, ih]
end Go.AM

/- What a proper trellis is; the small trellis that the laws look at. Conditions: none. -/
set_option linter.unusedVariables false
set_option linter.unusedSimpArgs false
namespace Go.AM
open Go Go.Proofs

theorem proper_of {ws : List Int} {es : List (List Ed)} (h : properI ws es = 0) : shapeI ws es = 0 ∧ ws[0]?.getD 0 = 1 ∧ ws[es.length]?.getD 0 = 1 ∧ ∀ i, (h : i < es.length) → GoodSec (ws[i]?.getD 0) (ws[i+1]?.getD 0) es[i] := by
  unfold properI at h
  split at h
  · rename_i c; exact absurd h c
  rename_i c0
  split at h
  · omega
  rename_i c1
  split at h
  · rename_i c2
    exact ⟨by omega, by omega, by omega, c2⟩
  · omega

theorem sl_block {H : Heap} {n sz len : Nat} {own f : Bool} {cs : List V} (h : H n = some ⟨own, sz, cs⟩) (hl : cs.length = len * sz) (hb : len ≤ 281474976710656) : Sl H (.sl n 0 len f) sz len cs :=
  ⟨hl, hb, .inr ⟨n, 0, f, _, rfl, h, rfl, .inr (by simp [hl]), fun j hj => by simp⟩⟩

def exW : List Int := [1, 1]
def exE : List (List Ed) := [[⟨0, 0, 0⟩, ⟨0, 1, 0⟩]]
theorem ex_shape : shapeI exW exE = 0 := by
  unfold shapeI
  rw [if_neg (by decide), if_neg (by decide), if_neg (by decide), if_neg (by decide), if_neg]
  rintro ⟨i, hi, e, he, hb⟩
  obtain rfl : i = 0 := by simp [exE] at hi; omega
  have : e = ⟨0, 0, 0⟩ ∨ e = ⟨0, 1, 0⟩ := by simpa [exE] using he
  rcases this with rfl | rfl <;> simp [BadE, exW] at hb
theorem ex_proper : properI exW exE = 0 := by
  unfold properI
  rw [if_neg (by rw [ex_shape]; decide), if_neg (by decide), if_pos]
  intro i hi
  obtain rfl : i = 0 := by simp [exE] at hi; omega
  refine ⟨fun e he => ?_, fun j h => ?_, fun v v0 v1 => ?_, fun v v0 v1 => ?_⟩
  · have : e = ⟨0, 0, 0⟩ ∨ e = ⟨0, 1, 0⟩ := by simpa [exE] using he
    rcases this with rfl | rfl <;> decide
  · obtain rfl : j = 0 := by simp [exE] at h; omega
    exact .inr ⟨rfl, show (0 : Int) < 1 by decide⟩
  · have e1 : (exW[0]?.getD 0 : Int) = 1 := rfl
    rw [e1] at v1
    exact ⟨⟨0, 0, 0⟩, by simp [exE], by show (0 : Int) = v; omega⟩
  · have e1 : (exW[0+1]?.getD 0 : Int) = 1 := rfl
    rw [e1] at v1
    exact ⟨⟨0, 0, 0⟩, by simp [exE], by show (0 : Int) = v; omega⟩
end Go.AM

/- Natural numbers as lists of limbs. Conditions: none. -/
set_option linter.unusedVariables false
set_option linter.unusedSimpArgs false
namespace Go.AM
open Go

def u32s (xs : List Int) : List V := xs.map (.int .u32)
theorem u32s_get {xs : List Int} {k : Nat} (h : k < xs.length) : (u32s xs)[k]? = some (.int .u32 xs[k]) := by simp [u32s, h]
theorem u32s_len (xs : List Int) : (u32s xs).length = xs.length := by simp [u32s]
/-- the value of a list of limbs, the least one first -/
def nval : List Int → Int
  | [] => 0
  | x :: r => x + 4294967296 * nval r
def Limbs (xs : List Int) : Prop := ∀ x ∈ xs, 0 ≤ x ∧ x < 4294967296
/-- no zero at the end -/
def Canon (xs : List Int) : Prop := ∀ x, xs.getLast? = some x → x ≠ 0
theorem nval_append (a b : List Int) : nval (a ++ b) = nval a + 4294967296 ^ a.length * nval b := by
  induction a with
  | nil => simp [nval]
  | cons x r ih =>
    simp only [List.cons_append, nval, ih, List.length_cons, Int.pow_succ]
    rw [Int.mul_add, ← Int.mul_assoc, Int.mul_comm (4294967296 : Int) (4294967296 ^ r.length)]
    omega
theorem nval_nonneg {xs : List Int} (h : Limbs xs) : 0 ≤ nval xs := by
  induction xs with
  | nil => simp [nval]
  | cons x r ih =>
    have h0 := h x (List.mem_cons_self ..)
    have := ih fun y hy => h y (List.mem_cons_of_mem _ hy)
    simp only [nval]; omega
theorem nval_zeros : ∀ {xs : List Int}, (∀ x ∈ xs, x = 0) → nval xs = 0
  | [], _ => rfl
  | x :: r, h => by
    have := nval_zeros (xs := r) fun y hy => h y (List.mem_cons_of_mem _ hy)
    have := h x (List.mem_cons_self ..)
    simp only [nval]; omega
theorem nval_pos {xs : List Int} (h : Limbs xs) (hc : Canon xs) (hne : xs ≠ []) : 0 < nval xs := by
  induction xs with
  | nil => exact absurd rfl hne
  | cons x r ih =>
    have h0 := h x (List.mem_cons_self ..)
    have hr : Limbs r := fun y hy => h y (List.mem_cons_of_mem _ hy)
    simp only [nval]
    by_cases e : r = []
    · subst e
      have := hc x (by simp)
      simp only [nval]; omega
    · have := ih hr (fun y hy => hc y (by rw [List.getLast?_cons, hy]; rfl)) e
      omega
/-- canonical lists of one value are the same -/
theorem nval_inj : ∀ {xs ys : List Int}, Limbs xs → Limbs ys → Canon xs → Canon ys → nval xs = nval ys → xs = ys
  | [], [], _, _, _, _, _ => rfl
  | [], y :: s, _, h2, _, c2, e => by
    have := nval_pos h2 c2 (by simp)
    simp only [nval] at e this; omega
  | x :: r, [], h1, _, c1, _, e => by
    have := nval_pos h1 c1 (by simp)
    simp only [nval] at e this; omega
  | x :: r, y :: s, h1, h2, c1, c2, e => by
    have hx := h1 x (List.mem_cons_self ..)
    have hy := h2 y (List.mem_cons_self ..)
    have hr : Limbs r := fun y hy => h1 y (List.mem_cons_of_mem _ hy)
    have hs : Limbs s := fun y hy => h2 y (List.mem_cons_of_mem _ hy)
    have cr : Canon r := fun y hy => c1 y (by rw [List.getLast?_cons, hy]; rfl)
    have cs : Canon s := fun y hy => c2 y (by rw [List.getLast?_cons, hy]; rfl)
    simp only [nval] at e
    have e1 : x = y := by omega
    have e2 : nval r = nval s := by omega
    rw [e1, nval_inj hr hs cr cs e2]

theorem wrap32 (n : Int) : IntKind.u32.wrap n = n % 4294967296 := by simp [IntKind.wrap, IntKind.bits, IntKind.signed]
theorem wrap64 (n : Int) : IntKind.u64.wrap n = n % 18446744073709551616 := by simp [IntKind.wrap, IntKind.bits, IntKind.signed]
theorem bv_shr32 (a : Int) : binV .shr (.int .u64 a) (.int .u64 32) = some (.int .u64 (a / 4294967296)) := by
  have : a.fdiv 4294967296 = a / 4294967296 := Int.fdiv_eq_ediv_of_nonneg a (by decide)
  simp [binV, IntKind.bits, this]
theorem nval_take_succ {l : List Int} {k : Nat} (h : k < l.length) : nval (l.take (k+1)) = nval (l.take k) + 4294967296 ^ k * l[k] := by
  rw [List.take_add_one, List.getElem?_eq_getElem h, nval_append]
  have : (l.take k).length = k := by rw [List.length_take]; omega
  rw [this]
  simp [nval]
theorem carry_step (A X Y P c s : Int) (h : A + c * P = X + Y) : A + P * (s % 4294967296) + (s / 4294967296) * (4294967296 * P) = X + Y + P * (s - c) := by
  have e : s = 4294967296 * (s / 4294967296) + s % 4294967296 := by omega
  have e1 : P * (s - c) = P * s - c * P := by rw [Int.mul_sub, Int.mul_comm P c]
  have e2 : P * s = P * (s % 4294967296) + (s / 4294967296) * (4294967296 * P) := by
    conv => lhs; rw [e]
    rw [Int.mul_add, Int.add_comm]
    congr 1
    rw [← Int.mul_assoc, Int.mul_comm P, Int.mul_assoc, Int.mul_comm P, ← Int.mul_assoc, Int.mul_comm 4294967296, Int.mul_assoc]
  omega
/-- a number in the heap: in any form; in the canonical one -/
def SLimbs (H : Heap) (u : V) (xs : List Int) : Prop := Sl H u 1 xs.length (u32s xs)
def SNat (H : Heap) (u : V) (n : Int) (L : Nat) : Prop := ∃ xs, SLimbs H u xs ∧ Limbs xs ∧ nval xs = n ∧ xs.length ≤ L
def CNat (H : Heap) (u : V) (n : Int) (L : Nat) : Prop := ∃ xs, SLimbs H u xs ∧ Limbs xs ∧ Canon xs ∧ nval xs = n ∧ xs.length ≤ L
theorem SLimbs.mono {H H' : Heap} {v : V} {xs : List Int} (h : SLimbs H v xs) (hs : Heap.sub H H') : SLimbs H' v xs := Sl.mono h hs
theorem SLimbs.len {H : Heap} {v : V} {xs : List Int} (h : SLimbs H v xs) : lenR v = some (.int .i64 xs.length) := Sl.len h
theorem SLimbs.lt {H : Heap} {v : V} {xs : List Int} (h : SLimbs H v xs) : xs.length ≤ 281474976710656 := Sl.lt h
theorem SLimbs.get {H : Heap} {v : V} {xs : List Int} (h : SLimbs H v xs) {k : Nat} (hk : k < xs.length) (kd : IntKind) : ∃ p, iaV 1 v (.int kd k) = some p ∧ ldV H false 1 p = some (.int .u32 xs[k]) := by
  obtain ⟨p, h1, h2⟩ := Sl.at1 h (kd := kd) hk
  exact ⟨p, h1, by rw [h2, u32s_get hk]⟩
theorem CNat.nat {H : Heap} {u : V} {n : Int} {L : Nat} (h : CNat H u n L) : SNat H u n L := by obtain ⟨xs, a, b, _, c⟩ := h; exact ⟨xs, a, b, c⟩
theorem CNat.mono {H H' : Heap} {v : V} {n : Int} {L : Nat} (h : CNat H v n L) (hs : Heap.sub H H') : CNat H' v n L := by obtain ⟨xs, a, b, c, d⟩ := h; exact ⟨xs, a.mono hs, b, c, d⟩
theorem SNat.mono {H H' : Heap} {v : V} {n : Int} {L : Nat} (h : SNat H v n L) (hs : Heap.sub H H') : SNat H' v n L := by obtain ⟨xs, a, b, d⟩ := h; exact ⟨xs, a.mono hs, b, d⟩
theorem CNat.up {H : Heap} {v : V} {n : Int} {L L' : Nat} (h : CNat H v n L) (hl : L ≤ L') : CNat H v n L' := by obtain ⟨xs, a, b, c, d, e⟩ := h; exact ⟨xs, a, b, c, d, by omega⟩

/-- a slice's first n items, and no room behind them -/
theorem sli_take {H : Heap} {v : V} {xs : List Int} {n : Nat} {k1 k2 : IntKind} (h : SLimbs H v xs) (hn : n ≤ xs.length) : ∃ u, sliV H 1 v none (some (.int k1 n)) (some (.int k2 n)) = some u ∧ SLimbs H u (xs.take n) := by
  obtain ⟨h1, h2, ⟨rfl, h3⟩ | ⟨m, o, f, b, rfl, hb, hz, hl, hj⟩⟩ := h
  · obtain rfl : n = 0 := by omega
    exact ⟨.nils, by simp [sliV, cutOf], by simp [SLimbs, u32s, Sl]⟩
  · refine ⟨.sl m o n true, ?_, ?_⟩
    · simp [sliV, hb, cutOf, hz, hn]
    · have hlen : (xs.take n).length = n := by rw [List.length_take]; omega
      refine ⟨by rw [u32s_len]; omega, by omega, .inr ⟨m, o, true, b, by rw [hlen], hb, hz, ?_, fun j hj' => ?_⟩⟩
      · rw [hlen]
        rcases hl with hl | hl
        · exact .inl (by omega)
        · exact .inr (by omega)
      · rw [hj j (by omega)]
        have : j < n := by omega
        simp [u32s, this]

/-- a copy: append(nil, a...) -/
theorem appC_nils {H : Heap} {env : Env} {d : Option Nat} {K : Env → Heap → Prop} {u : V} {xs : List Int} {bytes : Nat} (hx : SLimbs H u xs) (hb : xs.length * bytes ≤ 140737488355328) (hb2 : xs.length ≤ 140737488355328)
    (hk : ∀ u' H', Heap.sub H H' → SLimbs H' u' xs → K (env.put d u') H') : appC H env 1 bytes .nils u [] d K := by
  have hlen : lenV u = xs.length := Sl.lenV hx
  have h0 : lenV .nils = 0 := rfl
  have hc : cellsAt H 1 u = some (u32s xs) := by
    obtain ⟨h1, h2, ⟨rfl, h3⟩ | ⟨m, o, f, b, rfl, hbk, hz, hl, hj⟩⟩ := hx
    · have : xs = [] := List.length_eq_zero_iff.1 h3
      subst this; rfl
    · unfold cellsAt
      by_cases e : xs.length = 0
      · have : xs = [] := List.length_eq_zero_iff.1 e
        subst this; simp [u32s]
      · have hle := hl.resolve_left e
        simp only [e, if_false, hbk, if_pos hle]
        congr 1
        apply List.ext_getElem?
        intro j
        simp only [List.getElem?_take, List.getElem?_drop]
        by_cases hjl : j < xs.length * 1
        · rw [if_pos hjl, hj j hjl]
        · rw [if_neg hjl, List.getElem?_eq_none (by rw [u32s_len]; omega)]
  unfold appC
  rw [hc, hlen, h0, Nat.zero_add]
  refine ⟨hb, hb2, ?_⟩
  by_cases e : xs.length = 0
  · rw [if_pos e]
    have : xs = [] := List.length_eq_zero_iff.1 e
    subst this
    exact ⟨hk _ _ Heap.sub.rfl' ⟨by simp [u32s], by simp, .inl ⟨rfl, rfl⟩⟩, .inl rfl⟩
  · rw [if_neg e]
    intro m hm
    refine hk _ _ (Heap.sub.upd' Heap.sub.rfl' hm _) ⟨by rw [u32s_len]; omega, by omega, .inr ⟨m, 0, false, ⟨true, 1, u32s xs⟩, rfl, by simp [Heap.upd], rfl, .inr (by simp [u32s]), fun j hj => by simp⟩⟩
end Go.AM

set_option linter.unusedVariables false
set_option linter.unusedSimpArgs false
namespace Go.AM
open Go Go.Proofs
attribute [local go_sem] c_skip c_ops c_seq c_ite c_blk c_exit c_ret t_normal t_exit t_ret b_normal b_exit b_ret i_nil i_cons s_guard s_mov s_pick s_new s_zero s_ld s_ldr s_st s_bin s_beq s_isnil s_eqs s_un s_conv s_fa s_fld s_ia s_sli s_ext s_ifc s_mkf s_agg s_len s_mm s_nilchk s_bsl s_mk s_app s_cpy s_call s_inv cells_agg cells_int cells_bool p_get p_none o_s o_c e_0 e_1 e_2 e_3 e_4 iteC_true iteC_false grd_tt grd_tf grd_ft grd_ff grd_und bindV_some pickV_t pickV_f beq_bool conv_int un_not not_dec mm_min mm_max bv_add bv_sub bv_mul bv_eql bv_neq bv_lss bv_leq bv_gtr bv_geq f_normal f_one f_two f_three f_none fa_ptr fld_one ext_tup len_sl len_nils decide_true decide_false not_true_eq_false not_false_eq_true List.map_cons List.map_nil List.append_nil List.cons_append List.nil_append Nat.zero_add Nat.add_zero Nat.mul_one Nat.succ_ne_self if_true if_false List.getElem?_cons_zero List.getElem?_cons_succ

/-- nat.short -/
def F95 : AF := ⟨22, [(2, none)], (.seq (.ops [⟨none, false, (some 2), (.mov (.c .nils))⟩]) (.seq (.ops [⟨none, false, (some 4), (.mov (.s 0))⟩, ⟨none, false, (some 5), (.len (.s 4))⟩, ⟨none, false, (some 3), (.mov (.s 5))⟩]) (.seq (.blk 0 (.loop (.seq (.seq (.ops [⟨none, false, (some 6), (.mov (.s 3))⟩, ⟨none, false, (some 7), (.bin .gtr (.s 6) (.c (.int .i64 (0))))⟩, ⟨none, false, (some 8), (.mov (.s 7))⟩, ⟨(some (8, true)), false, (some 9), (.mov (.s 0))⟩, ⟨(some (8, true)), false, (some 10), (.mov (.s 3))⟩, ⟨(some (8, true)), false, (some 11), (.bin .sub (.s 10) (.c (.int .i64 (1))))⟩, ⟨(some (8, true)), false, (some 12), (.ia 1 (.s 9) (.s 11))⟩, ⟨(some (8, true)), false, (some 13), (.ld false 1 (.s 12) none)⟩, ⟨(some (8, true)), false, (some 14), (.bin .eql (.s 13) (.c (.int .u32 (0))))⟩, ⟨none, false, (some 15), (.pick (.s 8) (.s 14) (.c (.bool false)))⟩]) (.ite (.s 15) .skip (.exit 0))) (.blk 1 (.ops [⟨none, false, (some 16), (.mov (.s 3))⟩, ⟨none, false, (some 17), (.bin .sub (.s 16) (.c (.int .i64 (1))))⟩, ⟨none, false, (some 3), (.mov (.s 17))⟩]))))) (.seq (.ops [⟨none, false, (some 18), (.mov (.s 0))⟩, ⟨none, false, (some 19), (.mov (.s 3))⟩, ⟨none, false, (some 20), (.mov (.s 3))⟩, ⟨none, false, (some 21), (.sli 1 (.s 18) none (some (.s 19)) (some (.s 20)))⟩, ⟨none, false, (some 2), (.mov (.s 21))⟩]) .ret))))⟩
theorem cv95 : cvF Try.prog 95 = some F95 := by kernel_rfl

/-- nat.Trim -/
def F84 : AF := ⟨6, [(2, none)], (.seq (.ops [⟨none, false, (some 2), (.mov (.c .nils))⟩]) (.seq (.ops [⟨none, false, (some 3), (.mov (.s 0))⟩, ⟨none, false, (some 4), (.call (.c (.fn 95 [])) [(.s 3)])⟩, ⟨none, false, (some 5), (.app 1 4 (.c .nils) (.s 4) [])⟩, ⟨none, false, (some 2), (.mov (.s 5))⟩]) .ret))⟩
theorem cv84 : cvF Try.prog 84 = some F84 := by kernel_rfl

/-- nat.Of -/
def F50 : AF := ⟨10, [(2, none)], (.seq (.ops [⟨none, false, (some 2), (.mov (.c .nils))⟩]) (.seq (.ops [⟨none, false, (some 3), (.mov (.s 0))⟩, ⟨none, false, (some 4), (.conv .u32 (.s 3))⟩, ⟨none, false, (some 5), (.mov (.s 0))⟩, ⟨none, false, (some 6), (.bin .shr (.s 5) (.c (.int .u64 (32))))⟩, ⟨none, false, (some 7), (.conv .u32 (.s 6))⟩, ⟨none, false, (some 8), (.bsl 1 2 [(.int .u32 (0)), (.int .u32 (0))] [(0, (1, (.s 4))), (1, (1, (.s 7)))])⟩, ⟨none, false, (some 9), (.call (.c (.fn 84 [])) [(.s 8)])⟩, ⟨none, false, (some 2), (.mov (.s 9))⟩]) .ret))⟩
theorem cv50 : cvF Try.prog 50 = some F50 := by kernel_rfl


theorem take_canon {xs : List Int} {n : Nat} (hn : n ≤ xs.length) (hz : ∀ x ∈ xs.drop n, x = 0) (hl : Limbs xs) (hc : ∀ (h : n - 1 < xs.length), 0 < n → xs[n-1] ≠ 0) : Limbs (xs.take n) ∧ Canon (xs.take n) ∧ nval (xs.take n) = nval xs := by
  refine ⟨fun x hx => hl x (List.mem_of_mem_take hx), fun x hx => ?_, ?_⟩
  · rw [List.getLast?_eq_getElem?, List.length_take, Nat.min_eq_left hn] at hx
    by_cases h0 : n = 0
    · subst h0; simp at hx
    · rw [List.getElem?_take, if_pos (by omega), List.getElem?_eq_getElem (by omega)] at hx
      obtain rfl := Option.some.inj hx
      exact hc (by omega) (by omega)
  · have := nval_append (xs.take n) (xs.drop n)
    rw [List.take_append_drop, nval_zeros hz] at this
    omega

theorem short_spec {v : V} {n : Int} {L : Nat} {H : Heap} (hv : SNat H v n L) : ACalls Try.prog 95 [v] H fun u H' => CNat H u n L ∧ H' = H := by
  obtain ⟨xs, hx, hl, rfl, hL⟩ := hv
  refine ACalls.of_body hm cv95 (by simp only [List.length_cons, List.length_nil]; decide) ?_
  have hlt := hx.lt
  simp only [F95, go_sem, ↓reduceIte, Nat.reduceEqDiff, Nat.reduceAdd, reduceCtorEq, hx.len]
  have tail : ∀ m : Nat, m ≤ xs.length → (∀ x ∈ xs.drop m, x = 0) → (∀ (h : m - 1 < xs.length), 0 < m → xs[m-1] ≠ 0) → ∃ u, sliV H 1 v none (some (.int .i64 m)) (some (.int .i64 m)) = some u ∧ CNat H u (nval xs) L := by
    intro m h1 h2 h3
    obtain ⟨u, hu, hu2⟩ := sli_take (k1 := .i64) (k2 := .i64) hx h1
    obtain ⟨a, b, c⟩ := take_canon h1 h2 hl h3
    exact ⟨u, hu, _, hu2, a, b, c, by rw [List.length_take]; omega⟩
  refine loop_count xs.length (fun k env H' => H = H' ∧ env 0 = v ∧ ∃ m : Nat, m + k = xs.length ∧ env 3 = .int .i64 m ∧ ∀ x ∈ xs.drop m, x = 0) ?_ ?_ ?_
  · simp only [go_sem, ↓reduceIte, Nat.reduceEqDiff, Nat.reduceAdd, reduceCtorEq]
    exact ⟨by trivial, by trivial, xs.length, by omega, rfl, by simp⟩
  · rintro k env H' hk ⟨rfl, h0, m, hm', h3, hz⟩
    obtain ⟨m', rfl⟩ : ∃ m', m = m' + 1 := ⟨m - 1, by omega⟩
    have hpos : (0 : Int) < ((m' + 1 : Nat) : Int) := by omega
    have hw : IntKind.i64.wrap (((m' + 1 : Nat) : Int) - 1) = (m' : Int) := by rw [wrapI (by omega) (by omega)]; omega
    obtain ⟨p, a1, a2⟩ := hx.get (k := m') (by omega) .i64
    simp only [go_sem, ↓reduceIte, Nat.reduceEqDiff, Nat.reduceAdd, reduceCtorEq, h0, h3, hpos, hw, a1, a2]
    refine iteC_if (fun c => ?_) (fun c => ?_)
    · simp only [go_sem, ↓reduceIte, Nat.reduceEqDiff, Nat.reduceAdd, reduceCtorEq, h0, h3, hw]
      refine ⟨by trivial, by trivial, m', by omega, by trivial, fun x hx' => ?_⟩
      rw [List.drop_eq_getElem_cons (by omega)] at hx'
      rcases List.mem_cons.1 hx' with rfl | hx'
      · exact c
      · exact hz x hx'
    · obtain ⟨u, hu, hcn⟩ := tail (m'+1) (by omega) hz (fun h _ => by simpa using c)
      simp only [go_sem, ↓reduceIte, Nat.reduceEqDiff, Nat.reduceAdd, reduceCtorEq, h0, h3, Option.map_some, Option.map_none, hu]
      exact finO_self ⟨hcn, rfl⟩
  · rintro env H' ⟨rfl, h0, m, hm', h3, hz⟩
    obtain rfl : m = 0 := by omega
    obtain ⟨u, hu, hcn⟩ := tail 0 (by omega) hz (fun h hh => by omega)
    have hneg : ¬ (0 : Int) < ((0 : Nat) : Int) := by decide
    simp only [go_sem, ↓reduceIte, Nat.reduceEqDiff, Nat.reduceAdd, reduceCtorEq, h0, h3, hneg, Option.map_some, Option.map_none, hu]
    exact finO_self ⟨hcn, rfl⟩

theorem Trim_spec {v : V} {n : Int} {L : Nat} {H : Heap} (hL : L ≤ 1099511627776) (hv : SNat H v n L) : ACalls Try.prog 84 [v] H fun u H' => Heap.sub H H' ∧ CNat H' u n L := by
  refine ACalls.of_body hm cv84 (by simp only [List.length_cons, List.length_nil]; decide) ?_
  simp only [F84, go_sem, ↓reduceIte, Nat.reduceEqDiff, Nat.reduceAdd, reduceCtorEq]
  refine callC_any (short_spec hv) ?_
  rintro u H' ⟨⟨xs, hx, hl, hc, hn, hxl⟩, rfl⟩
  simp only [go_sem, ↓reduceIte, Nat.reduceEqDiff, Nat.reduceAdd, reduceCtorEq]
  refine appC_nils hx (by omega) (by omega) fun u' H'' hs hu => ?_
  simp only [go_sem, ↓reduceIte, Nat.reduceEqDiff, Nat.reduceAdd, reduceCtorEq]
  exact finO_self ⟨hs, xs, hu, hl, hc, hn, hxl⟩
end Go.AM

set_option linter.unusedVariables false
set_option linter.unusedSimpArgs false
namespace Go.AM
open Go Go.Proofs
attribute [local go_sem] c_skip c_ops c_seq c_ite c_blk c_exit c_ret t_normal t_exit t_ret b_normal b_exit b_ret i_nil i_cons s_guard s_mov s_pick s_new s_zero s_ld s_ldr s_st s_bin s_beq s_isnil s_eqs s_un s_conv s_fa s_fld s_ia s_sli s_ext s_ifc s_mkf s_agg s_len s_mm s_nilchk s_bsl s_mk s_app s_cpy s_call s_inv cells_agg cells_int cells_bool p_get p_none o_s o_c e_0 e_1 e_2 e_3 e_4 iteC_true iteC_false grd_tt grd_tf grd_ft grd_ff grd_und bindV_some pickV_t pickV_f beq_bool conv_int un_not not_dec mm_min mm_max bv_add bv_sub bv_mul bv_eql bv_neq bv_lss bv_leq bv_gtr bv_geq f_normal f_one f_two f_three f_none fa_ptr fld_one ext_tup len_sl len_nils decide_true decide_false not_true_eq_false not_false_eq_true List.map_cons List.map_nil List.append_nil List.cons_append List.nil_append Nat.zero_add Nat.add_zero Nat.mul_one Nat.succ_ne_self if_true if_false List.getElem?_cons_zero List.getElem?_cons_succ

/-- nat.plus -/
def F159 : AF := ⟨59, [(4, none)], (.seq (.ops [⟨none, false, (some 4), (.mov (.c .nils))⟩]) (.seq (.seq (.ops [⟨none, false, (some 9), (.mov (.s 0))⟩, ⟨none, false, (some 10), (.len (.s 9))⟩, ⟨none, false, (some 11), (.mov (.s 1))⟩, ⟨none, false, (some 12), (.len (.s 11))⟩, ⟨none, false, (some 13), (.bin .lss (.s 10) (.s 12))⟩]) (.ite (.s 13) (.ops [⟨none, false, (some 14), (.mov (.s 1))⟩, ⟨none, false, (some 15), (.mov (.s 0))⟩, ⟨none, false, (some 0), (.mov (.s 14))⟩, ⟨none, false, (some 1), (.mov (.s 15))⟩]) .skip)) (.seq (.ops [⟨none, false, (some 16), (.mov (.s 0))⟩, ⟨none, false, (some 17), (.len (.s 16))⟩, ⟨none, false, (some 18), (.bin .add (.s 17) (.c (.int .i64 (1))))⟩, ⟨none, false, (some 19), (.mk 1 4 [(.int .u32 (0))] (.s 18) (.s 18))⟩, ⟨none, false, (some 5), (.mov (.s 19))⟩]) (.seq (.ops [⟨none, false, (some 6), (.mov (.c (.int .u64 (0))))⟩]) (.seq (.seq (.ops [⟨none, false, (some 20), (.mov (.s 0))⟩, ⟨none, false, (some 21), (.len (.s 20))⟩, ⟨none, false, (some 22), (.mov (.c (.int .i64 (0))))⟩]) (.blk 0 (.loop (.seq (.ops [⟨none, false, (some 23), (.bin .lss (.s 22) (.s 21))⟩]) (.seq (.ite (.s 23) .skip (.exit 0)) (.seq (.blk 1 (.seq (.ops [⟨none, false, (some 24), (.mov (.s 22))⟩, ⟨none, false, (some 7), (.mov (.s 24))⟩]) (.seq (.ops [⟨none, false, (some 25), (.mov (.s 0))⟩, ⟨none, false, (some 26), (.mov (.s 7))⟩, ⟨none, false, (some 27), (.ia 1 (.s 25) (.s 26))⟩, ⟨none, false, (some 28), (.ld false 1 (.s 27) none)⟩, ⟨none, false, (some 29), (.conv .u64 (.s 28))⟩, ⟨none, false, (some 30), (.mov (.s 6))⟩, ⟨none, false, (some 31), (.bin .add (.s 29) (.s 30))⟩, ⟨none, false, (some 8), (.mov (.s 31))⟩]) (.seq (.seq (.ops [⟨none, false, (some 32), (.mov (.s 7))⟩, ⟨none, false, (some 33), (.mov (.s 1))⟩, ⟨none, false, (some 34), (.len (.s 33))⟩, ⟨none, false, (some 35), (.bin .lss (.s 32) (.s 34))⟩]) (.ite (.s 35) (.ops [⟨none, false, (some 36), (.mov (.s 8))⟩, ⟨none, false, (some 37), (.mov (.s 1))⟩, ⟨none, false, (some 38), (.mov (.s 7))⟩, ⟨none, false, (some 39), (.ia 1 (.s 37) (.s 38))⟩, ⟨none, false, (some 40), (.ld false 1 (.s 39) none)⟩, ⟨none, false, (some 41), (.conv .u64 (.s 40))⟩, ⟨none, false, (some 42), (.bin .add (.s 36) (.s 41))⟩, ⟨none, false, (some 8), (.mov (.s 42))⟩]) .skip)) (.seq (.ops [⟨none, false, (some 43), (.mov (.s 5))⟩, ⟨none, false, (some 44), (.mov (.s 7))⟩, ⟨none, false, (some 45), (.mov (.s 8))⟩, ⟨none, false, (some 46), (.conv .u32 (.s 45))⟩, ⟨none, false, (some 47), (.ia 1 (.s 43) (.s 44))⟩, ⟨none, false, none, (.st 1 (.s 47) (.s 46) [])⟩]) (.ops [⟨none, false, (some 48), (.mov (.s 8))⟩, ⟨none, false, (some 49), (.bin .shr (.s 48) (.c (.int .u64 (32))))⟩, ⟨none, false, (some 6), (.mov (.s 49))⟩])))))) (.ops [⟨none, false, (some 50), (.bin .add (.s 22) (.c (.int .i64 (1))))⟩, ⟨none, false, (some 22), (.mov (.s 50))⟩]))))))) (.seq (.ops [⟨none, false, (some 51), (.mov (.s 5))⟩, ⟨none, false, (some 52), (.mov (.s 0))⟩, ⟨none, false, (some 53), (.len (.s 52))⟩, ⟨none, false, (some 54), (.mov (.s 6))⟩, ⟨none, false, (some 55), (.conv .u32 (.s 54))⟩, ⟨none, false, (some 56), (.ia 1 (.s 51) (.s 53))⟩, ⟨none, false, none, (.st 1 (.s 56) (.s 55) [])⟩]) (.seq (.ops [⟨none, false, (some 57), (.mov (.s 5))⟩, ⟨none, false, (some 58), (.call (.c (.fn 95 [])) [(.s 57)])⟩, ⟨none, false, (some 4), (.mov (.s 58))⟩]) .ret)))))))⟩
theorem cv159 : cvF Try.prog 159 = some F159 := by kernel_rfl


theorem iteC_join {P : Program} {c : Prop} [Decidable c] {A B : IC} {X : Env → Heap → Prop} {Q : Qt} {env : Env} {H : Heap} (Mid : Env → Heap → Prop) (h1 : c → cwp P A (thenE Mid Q) env H) (h2 : ¬ c → cwp P B (thenE Mid Q) env H) (k : ∀ env' H', Mid env' H' → X env' H') : iteC (.bool (decide c)) P A B (thenE X Q) env H := by
  refine iteC_if (fun h => cwp_mono A ?_ (h1 h)) (fun h => cwp_mono B ?_ (h2 h))
  all_goals
    intro e env' H' hh
    cases e
    · exact k _ _ hh
    all_goals exact hh

theorem plus_spec {av bv : V} {a b : Int} {L : Nat} {H : Heap} (hL : L ≤ 1099511627776) (ha : SNat H av a L) (hb : SNat H bv b L) : ACalls Try.prog 159 [av, bv] H fun u H' => Heap.sub H H' ∧ CNat H' u (a + b) (L + 1) := by
  obtain ⟨xs0, hx0, lx0, rfl, hxL0⟩ := ha
  obtain ⟨ys0, hy0, ly0, rfl, hyL0⟩ := hb
  refine ACalls.of_body hm cv159 (by simp only [List.length_cons, List.length_nil]; decide) ?_
  simp only [F159, go_sem, ↓reduceIte, Nat.reduceEqDiff, Nat.reduceAdd, reduceCtorEq, hx0.len, hy0.len]
  refine iteC_join (fun env' H' => H = H' ∧ ∃ av bv xs ys, env' 0 = av ∧ env' 1 = bv ∧ SLimbs H av xs ∧ SLimbs H bv ys ∧ Limbs xs ∧ Limbs ys ∧ xs.length ≤ L ∧ ys.length ≤ xs.length ∧ nval xs + nval ys = nval xs0 + nval ys0) (fun h => ?_) (fun h => ?_) ?_
  · simp only [go_sem, ↓reduceIte, Nat.reduceEqDiff, Nat.reduceAdd, reduceCtorEq]
    exact ⟨by trivial, bv, av, ys0, xs0, rfl, rfl, hy0, hx0, ly0, lx0, hyL0, by omega, by omega⟩
  · simp only [go_sem, ↓reduceIte, Nat.reduceEqDiff, Nat.reduceAdd, reduceCtorEq]
    exact ⟨by trivial, av, bv, xs0, ys0, rfl, rfl, hx0, hy0, lx0, ly0, hxL0, by omega, rfl⟩
  rintro env H' ⟨rfl, av, bv, xs, ys, h0, h1, hx, hy, lx, ly, hxL, hyx, hsum⟩
  rw [← hsum]
  clear hsum hx0 hy0 lx0 ly0 hxL0 hyL0
  simp only [go_sem, ↓reduceIte, Nat.reduceEqDiff, Nat.reduceAdd, reduceCtorEq, h0, h1, hx.len]
  rw [wrapN1 (by omega)]
  refine mkC_intro (Nat.le_refl _) (by omega) (by omega) fun N H1 hN hs1 hbN => ?_
  rw [flat_rep] at hbN
  simp only [go_sem, ↓reduceIte, Nat.reduceEqDiff, Nat.reduceAdd, reduceCtorEq, h0, h1, hx.len, beq_self_eq_true]
  refine range_loop xs.length (fun k env H' => env 0 = av ∧ env 1 = bv ∧ env 5 = .sl N 0 (xs.length + 1) true ∧ env 21 = .int .i64 xs.length ∧ env 22 = .int .i64 k ∧ Heap.sub H H' ∧
      ∃ (c : Int) (os : List Int), env 6 = .int .u64 c ∧ 0 ≤ c ∧ c ≤ 1 ∧ H' N = some ⟨true, 1, u32s os⟩ ∧ os.length = xs.length + 1 ∧ Limbs os ∧ nval (os.take k) + c * 4294967296 ^ k = nval (xs.take k) + nval (ys.take k)) (by omega) (by decide) (by decide) ?_ ?_ ?_ ?_
  · rintro k env H' ⟨_, _, _, h7, h8, _⟩; exact ⟨h8, h7⟩
  · simp only [go_sem, ↓reduceIte, Nat.reduceEqDiff, Nat.reduceAdd, reduceCtorEq, h0, h1]
    exact ⟨by trivial, by trivial, by trivial, by trivial, by trivial, hs1, 0, List.replicate (xs.length + 1) 0, rfl, by decide, by decide, by simpa [u32s] using hbN, by simp, fun x hx => by rw [(List.mem_replicate.1 hx).2]; decide, by simp [nval]⟩
  · rintro k env H2 hk ⟨h0, h1, h5, h21, h22, hs2, c, os, h6, hc0, hc1, hbo, hol, lo, hinv⟩
    obtain ⟨p, a1, a2⟩ := (hx.mono hs2).get hk .i64
    have hxk := lx _ (List.getElem_mem hk)
    have hw1 : IntKind.u64.wrap xs[k] = xs[k] := by rw [wrap64]; omega
    have hw2 : IntKind.u64.wrap (xs[k] + c) = xs[k] + c := by rw [wrap64]; omega
    simp only [go_sem, ↓reduceIte, Nat.reduceEqDiff, Nat.reduceAdd, reduceCtorEq, h0, h1, h5, h6, h21, h22, a1, a2, hw1, hw2, hy.len]
    -- the sum of this place
    refine iteC_join (fun env' H' => H2 = H' ∧ env' 0 = av ∧ env' 1 = bv ∧ env' 5 = .sl N 0 (xs.length + 1) true ∧ env' 21 = .int .i64 xs.length ∧ env' 22 = .int .i64 k ∧ env' 7 = .int .i64 k ∧ ∃ s : Int, env' 8 = .int .u64 s ∧ 0 ≤ s ∧ s < 8589934592 ∧ nval (xs.take (k+1)) + nval (ys.take (k+1)) = nval (xs.take k) + nval (ys.take k) + 4294967296 ^ k * (s - c)) (fun h => ?_) (fun h => ?_) ?_
    · have hky : k < ys.length := by omega
      obtain ⟨q, b1, b2⟩ := (hy.mono hs2).get hky .i64
      have hyk := ly _ (List.getElem_mem hky)
      have hw3 : IntKind.u64.wrap ys[k] = ys[k] := by rw [wrap64]; omega
      have hw4 : IntKind.u64.wrap (xs[k] + c + ys[k]) = xs[k] + c + ys[k] := by rw [wrap64]; omega
      simp only [go_sem, ↓reduceIte, Nat.reduceEqDiff, Nat.reduceAdd, reduceCtorEq, h0, h1, h5, h6, h21, h22, b1, b2, hw3, hw4]
      refine ⟨by trivial, by trivial, by trivial, by trivial, by trivial, by trivial, by trivial, _, rfl, by omega, by omega, ?_⟩
      rw [nval_take_succ hk, nval_take_succ hky, show xs[k] + c + ys[k] - c = xs[k] + ys[k] by omega, Int.mul_add]
      omega
    · simp only [go_sem, ↓reduceIte, Nat.reduceEqDiff, Nat.reduceAdd, reduceCtorEq, h0, h1, h5, h6, h21, h22]
      refine ⟨by trivial, by trivial, by trivial, by trivial, by trivial, by trivial, by trivial, _, rfl, by omega, by omega, ?_⟩
      rw [nval_take_succ hk, show xs[k] + c - c = xs[k] by omega, List.take_of_length_le (by omega : ys.length ≤ k), List.take_of_length_le (by omega : ys.length ≤ k + 1)]
      omega
    rintro env' H' ⟨rfl, h0, h1, h5, h21, h22, h7, s, h8, hs0, hs9, hsum⟩
    have hw5 : IntKind.u32.wrap s = s % 4294967296 := wrap32 s
    simp only [go_sem, ↓reduceIte, Nat.reduceEqDiff, Nat.reduceAdd, reduceCtorEq, h0, h1, h5, h21, h22, h7, h8, hw5, ia_nat (show k < xs.length + 1 by omega)]
    refine stC_intro hbo trivial rfl (by decide) (by show k + 1 ≤ _; rw [u32s_len]; omega) fun H3 hb3 hf3 hs3 => ?_
    rw [cells_int, splice_one _ _ _ (by rw [u32s_len]; omega)] at hb3
    simp only [go_sem, ↓reduceIte, Nat.reduceEqDiff, Nat.reduceAdd, reduceCtorEq, h0, h1, h5, h21, h22, h7, h8, bv_shr32]
    refine ⟨by trivial, by trivial, by trivial, by trivial, by trivial, by trivial, hs3 H hs2 hN, s / 4294967296, os.set k (s % 4294967296), rfl, by omega, by omega, ?_, by simpa using hol, ?_, ?_⟩
    · rw [hb3]; simp [u32s, List.map_set]
    · intro x hx'
      rcases List.mem_or_eq_of_mem_set hx' with h | rfl
      · exact lo x h
      · omega
    · rw [nval_take_succ (by rw [List.length_set]; omega), List.getElem_set_self, List.take_set_of_le (Nat.le_refl k), Int.pow_succ, hsum]
      have := carry_step _ _ _ _ _ s hinv
      rw [Int.mul_comm (4294967296 ^ k) 4294967296]
      exact this
  · rintro env H2 ⟨h0, h1, h5, h21, h22, hs2, c, os, h6, hc0, hc1, hbo, hol, lo, hinv⟩
    have hw5 : IntKind.u32.wrap c = c := by rw [wrap32]; omega
    simp only [go_sem, ↓reduceIte, Nat.reduceEqDiff, Nat.reduceAdd, reduceCtorEq, h0, h1, h5, h6, hx.len, hw5, ia_nat (show xs.length < xs.length + 1 by omega)]
    refine stC_intro hbo trivial rfl (by decide) (by show xs.length + 1 ≤ _; rw [u32s_len]; omega) fun H3 hb3 hf3 hs3 => ?_
    rw [cells_int, splice_one _ _ _ (by rw [u32s_len]; omega)] at hb3
    have hs03 := hs3 H hs2 hN
    have hlen : (os.set xs.length c).length = xs.length + 1 := by simpa using hol
    have hn : SNat H3 (.sl N 0 (xs.length + 1) true) (nval xs + nval ys) (L+1) := by
      refine ⟨os.set xs.length c, ?_, fun x hx' => ?_, ?_, by omega⟩
      · rw [show (u32s os).set xs.length (.int .u32 c) = u32s (os.set xs.length c) by simp [u32s, List.map_set]] at hb3
        unfold SLimbs
        rw [hlen]
        exact ⟨by rw [u32s_len]; omega, by omega, .inr ⟨N, 0, true, _, rfl, hb3, rfl, .inr (by rw [u32s_len]; omega), fun j hj => by simp⟩⟩
      · rcases List.mem_or_eq_of_mem_set hx' with h | rfl
        · exact lo x h
        · omega
      · have e : os.set xs.length c = (os.set xs.length c).take (xs.length + 1) := by rw [List.take_of_length_le (by omega)]
        rw [e, nval_take_succ (by omega), List.getElem_set_self, List.take_set_of_le (Nat.le_refl _)]
        rw [List.take_length, List.take_of_length_le hyx] at hinv
        rw [Int.mul_comm]
        exact hinv
    simp only [go_sem, ↓reduceIte, Nat.reduceEqDiff, Nat.reduceAdd, reduceCtorEq, h5]
    refine callC_any (short_spec hn) ?_
    rintro u H' ⟨hc, rfl⟩
    simp only [go_sem, ↓reduceIte, Nat.reduceEqDiff, Nat.reduceAdd, reduceCtorEq]
    exact finO_self ⟨hs03, hc⟩
end Go.AM

set_option linter.unusedVariables false
set_option linter.unusedSimpArgs false
namespace Go.AM
open Go Go.Proofs
attribute [local go_sem] c_skip c_ops c_seq c_ite c_blk c_exit c_ret t_normal t_exit t_ret b_normal b_exit b_ret i_nil i_cons s_guard s_mov s_pick s_new s_zero s_ld s_ldr s_st s_bin s_beq s_isnil s_eqs s_un s_conv s_fa s_fld s_ia s_sli s_ext s_ifc s_mkf s_agg s_len s_mm s_nilchk s_bsl s_mk s_app s_cpy s_call s_inv cells_agg cells_int cells_bool p_get p_none o_s o_c e_0 e_1 e_2 e_3 e_4 iteC_true iteC_false grd_tt grd_tf grd_ft grd_ff grd_und bindV_some pickV_t pickV_f beq_bool conv_int un_not not_dec mm_min mm_max bv_add bv_sub bv_mul bv_eql bv_neq bv_lss bv_leq bv_gtr bv_geq f_normal f_one f_two f_three f_none fa_ptr fld_one ext_tup len_sl len_nils decide_true decide_false not_true_eq_false not_false_eq_true List.map_cons List.map_nil List.append_nil List.cons_append List.nil_append Nat.zero_add Nat.add_zero Nat.mul_one Nat.succ_ne_self if_true if_false List.getElem?_cons_zero List.getElem?_cons_succ

/-- nat.Add -/
def F156 : AF := ⟨19, [(2, none)], (.seq (.ops [⟨none, false, (some 2), (.mov (.c .nils))⟩]) (.seq (.ops [⟨none, false, (some 3), (.mov (.c .nils))⟩]) (.seq (.seq (.ops [⟨none, false, (some 6), (.mov (.s 0))⟩, ⟨none, false, (some 7), (.len (.s 6))⟩, ⟨none, false, (some 8), (.mov (.c (.int .i64 (0))))⟩]) (.blk 0 (.loop (.seq (.ops [⟨none, false, (some 9), (.bin .lss (.s 8) (.s 7))⟩]) (.seq (.ite (.s 9) .skip (.exit 0)) (.seq (.blk 1 (.seq (.ops [⟨none, false, (some 10), (.ia 1 (.s 6) (.s 8))⟩, ⟨none, false, (some 11), (.ld false 1 (.s 10) none)⟩, ⟨none, false, (some 5), (.mov (.s 11))⟩]) (.ops [⟨none, false, (some 12), (.mov (.s 3))⟩, ⟨none, false, (some 13), (.mov (.s 5))⟩, ⟨none, false, (some 14), (.call (.c (.fn 95 [])) [(.s 13)])⟩, ⟨none, false, (some 15), (.call (.c (.fn 159 [])) [(.s 12), (.s 14)])⟩, ⟨none, false, (some 3), (.mov (.s 15))⟩]))) (.ops [⟨none, false, (some 16), (.bin .add (.s 8) (.c (.int .i64 (1))))⟩, ⟨none, false, (some 8), (.mov (.s 16))⟩]))))))) (.seq (.ops [⟨none, false, (some 17), (.mov (.s 3))⟩, ⟨none, false, (some 18), (.call (.c (.fn 84 [])) [(.s 17)])⟩, ⟨none, false, (some 2), (.mov (.s 18))⟩]) .ret))))⟩
theorem cv156 : cvF Try.prog 156 = some F156 := by kernel_rfl


theorem SNat.up {H : Heap} {v : V} {n : Int} {L L' : Nat} (h : SNat H v n L) (hl : L ≤ L') : SNat H v n L' := by obtain ⟨xs, a, b, c, e⟩ := h; exact ⟨xs, a, b, c, by omega⟩

theorem natAdd_spec {v : V} {us : List V} {ns : List Int} {L : Nat} {H : Heap} (hL : L + ns.length ≤ 1099511627776) (hv : SCells H v us) (hl : ns.length = us.length) (each : ∀ i, (h : i < us.length) → SNat H us[i] (ns[i]'(by omega)) L) :
    ACalls Try.prog 156 [v] H fun u H' => Heap.sub H H' ∧ CNat H' u (sumI ns) (L + ns.length) := by
  refine ACalls.of_body hm cv156 (by simp only [List.length_cons, List.length_nil]; decide) ?_
  simp only [F156, go_sem, ↓reduceIte, Nat.reduceEqDiff, Nat.reduceAdd, reduceCtorEq, hv.len]
  refine range_loop us.length (fun k env H' => env 6 = v ∧ env 7 = .int .i64 us.length ∧ env 8 = .int .i64 k ∧ Heap.sub H H' ∧ ∃ u, env 3 = u ∧ SNat H' u (sumI (ns.take k)) (L + k)) (by omega) (by decide) (by decide) ?_ ?_ ?_ ?_
  · rintro k env H' ⟨_, h7, h8, _⟩; exact ⟨h8, h7⟩
  · simp only [go_sem, ↓reduceIte, Nat.reduceEqDiff, Nat.reduceAdd, reduceCtorEq]
    exact ⟨by trivial, by trivial, by trivial, Heap.sub.rfl', _, rfl, [], ⟨by simp [u32s], by simp, .inl ⟨rfl, rfl⟩⟩, fun x hx => (by cases hx), by simp [nval, sumI], by simp⟩
  · rintro k env H1 hk ⟨h6, h7, h8, hs1, u, h3, hu⟩
    obtain ⟨p, a1, a2⟩ := (hv.mono hs1).get hk .i64
    simp only [go_sem, ↓reduceIte, Nat.reduceEqDiff, Nat.reduceAdd, reduceCtorEq, h6, h7, h8, h3, a1, a2]
    refine callC_any (short_spec ((each k hk).mono hs1)) ?_
    rintro w H' ⟨hw, rfl⟩
    simp only [go_sem, ↓reduceIte, Nat.reduceEqDiff, Nat.reduceAdd, reduceCtorEq]
    refine callC_grow (plus_spec (L := L + k) (by omega) hu (hw.nat.up (by omega))) ?_
    intro x H2 hs2 hx
    simp only [go_sem, ↓reduceIte, Nat.reduceEqDiff, Nat.reduceAdd, reduceCtorEq, h6, h7, h8]
    refine ⟨by trivial, by trivial, by trivial, by trivial, hs1.trans' hs2, x, rfl, ?_⟩
    rw [sumI_take_succ (by omega)]
    exact hx.nat
  · rintro env H1 ⟨h6, h7, h8, hs1, u, h3, hu⟩
    simp only [go_sem, ↓reduceIte, Nat.reduceEqDiff, Nat.reduceAdd, reduceCtorEq, h3]
    refine callC_grow (Trim_spec (by omega) hu) ?_
    intro x H2 hs2 hx
    simp only [go_sem, ↓reduceIte, Nat.reduceEqDiff, Nat.reduceAdd, reduceCtorEq]
    rw [← hl, List.take_length] at hx
    exact finO_self ⟨hs1.trans' hs2, hx⟩

theorem Of_spec {n : Int} (h0 : 0 ≤ n) (h1 : n < 18446744073709551616) (H : Heap) : ACalls Try.prog 50 [.int .u64 n] H fun u H' => Heap.sub H H' ∧ CNat H' u n 2 := by
  refine ACalls.of_body hm cv50 (by simp only [List.length_cons, List.length_nil]; decide) ?_
  have w1 : IntKind.u32.wrap n = n % 4294967296 := wrap32 n
  have w2 : IntKind.u32.wrap (n / 4294967296) = n / 4294967296 := by rw [wrap32]; omega
  simp only [F50, go_sem, ↓reduceIte, Nat.reduceEqDiff, Nat.reduceAdd, reduceCtorEq, bv_shr32, w1, w2, fillV, List.length_cons, List.length_nil, splice, Nat.reduceLeDiff, Nat.zero_lt_one, and_self, List.take_zero, List.take_succ_cons, List.drop_succ_cons, List.drop_zero, List.drop_nil, Nat.reduceLT, Nat.le_refl]
  refine newC_intro fun m H1 hm1 hs1 hb1 => ?_
  simp only [go_sem, ↓reduceIte, Nat.reduceEqDiff, Nat.reduceAdd, reduceCtorEq]
  have hn : SNat H1 (.sl m 0 2 true) n 2 := by
    refine ⟨[n % 4294967296, n / 4294967296], ⟨rfl, by simp, .inr ⟨m, 0, true, _, rfl, hb1, rfl, .inr (by simp), fun j hj => by simp [u32s]⟩⟩, fun x hx => ?_, ?_, by simp⟩
    · rcases List.mem_cons.1 hx with rfl | hx
      · omega
      · rcases List.mem_cons.1 hx with rfl | hx
        · omega
        · cases hx
    · simp only [nval]; omega
  refine callC_grow (Trim_spec (by decide) hn) ?_
  intro x H2 hs2 hx
  simp only [go_sem, ↓reduceIte, Nat.reduceEqDiff, Nat.reduceAdd, reduceCtorEq]
  exact finO_self ⟨hs1.trans' hs2, hx⟩
end Go.AM
