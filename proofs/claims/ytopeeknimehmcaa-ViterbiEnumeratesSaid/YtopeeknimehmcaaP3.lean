/- slices.Index, Contains over bools; trellis.Proper. Conditions: none. -/
import Derived.Test.YtopeeknimehmcaaP2
set_option linter.unusedVariables false
set_option linter.unusedSimpArgs false
namespace Go.AM
open Go Go.Proofs
attribute [local go_sem] c_skip c_ops c_seq c_ite c_blk c_exit c_ret t_normal t_exit t_ret b_normal b_exit b_ret i_nil i_cons s_guard s_mov s_pick s_new s_zero s_ld s_ldr s_st s_bin s_beq s_isnil s_eqs s_un s_conv s_fa s_fld s_ia s_sli s_ext s_ifc s_mkf s_agg s_len s_mm s_nilchk s_bsl s_mk s_app s_cpy s_call s_inv cells_agg cells_int cells_bool p_get p_none o_s o_c e_0 e_1 e_2 e_3 e_4 iteC_true iteC_false grd_tt grd_tf grd_ft grd_ff grd_und bindV_some pickV_t pickV_f beq_bool conv_int un_not not_dec mm_min mm_max bv_add bv_sub bv_mul bv_eql bv_neq bv_lss bv_leq bv_gtr bv_geq f_normal f_one f_two f_three f_none fa_ptr fld_one ext_tup len_sl len_nils decide_true decide_false not_true_eq_false not_false_eq_true List.map_cons List.map_nil List.append_nil List.cons_append List.nil_append Nat.zero_add Nat.add_zero Nat.mul_one Nat.succ_ne_self if_true if_false List.getElem?_cons_zero List.getElem?_cons_succ

/-- slices.Index[[]bool,bool] -/
def F83 : AF := ⟨19, [(4, none)], (.seq (.ops [⟨none, false, (some 4), (.mov (.c (.int .i64 (0))))⟩]) (.seq (.seq (.ops [⟨none, false, (some 6), (.mov (.s 0))⟩, ⟨none, false, (some 7), (.len (.s 6))⟩, ⟨none, false, (some 8), (.mov (.c (.int .i64 (0))))⟩]) (.blk 0 (.loop (.seq (.ops [⟨none, false, (some 9), (.bin .lss (.s 8) (.s 7))⟩]) (.seq (.ite (.s 9) .skip (.exit 0)) (.seq (.blk 1 (.seq (.ops [⟨none, false, (some 10), (.mov (.s 8))⟩, ⟨none, false, (some 5), (.mov (.s 10))⟩]) (.seq (.ops [⟨none, false, (some 11), (.mov (.s 1))⟩, ⟨none, false, (some 12), (.mov (.s 0))⟩, ⟨none, false, (some 13), (.mov (.s 5))⟩, ⟨none, false, (some 14), (.ia 1 (.s 12) (.s 13))⟩, ⟨none, false, (some 15), (.ld false 1 (.s 14) none)⟩, ⟨none, false, (some 16), (.beq false (.s 11) (.s 15))⟩]) (.ite (.s 16) (.seq (.ops [⟨none, false, (some 17), (.mov (.s 5))⟩, ⟨none, false, (some 4), (.mov (.s 17))⟩]) .ret) .skip)))) (.ops [⟨none, false, (some 18), (.bin .add (.s 8) (.c (.int .i64 (1))))⟩, ⟨none, false, (some 8), (.mov (.s 18))⟩]))))))) (.seq (.ops [⟨none, false, (some 4), (.mov (.c (.int .i64 (-1))))⟩]) .ret)))⟩
theorem cv83 : cvF Try.prog 83 = some F83 := by kernel_rfl

/-- slices.Contains[[]bool,bool] -/
def F49 : AF := ⟨9, [(4, none)], (.seq (.ops [⟨none, false, (some 4), (.mov (.c (.bool false)))⟩]) (.seq (.ops [⟨none, false, (some 5), (.mov (.s 0))⟩, ⟨none, false, (some 6), (.mov (.s 1))⟩, ⟨none, false, (some 7), (.call (.c (.fn 83 [])) [(.s 5), (.s 6)])⟩, ⟨none, false, (some 8), (.bin .geq (.s 7) (.c (.int .i64 (0))))⟩, ⟨none, false, (some 4), (.mov (.s 8))⟩]) .ret))⟩
theorem cv49 : cvF Try.prog 49 = some F49 := by kernel_rfl

/-- trellis.Proper -/
def F18 : AF := ⟨98, [(2, none)], (.seq (.ops [⟨none, false, (some 1), (.new (.s 0))⟩, ⟨none, false, (some 2), (.mov (.c (.int .i64 (0))))⟩]) (.seq (.seq (.ops [⟨none, false, (some 11), (.ld true 2 (.s 1) none)⟩, ⟨none, false, (some 12), (.call (.c (.fn 47 [])) [(.s 11)])⟩, ⟨none, false, (some 3), (.mov (.s 12))⟩]) (.seq (.ops [⟨none, false, (some 13), (.mov (.s 3))⟩, ⟨none, false, (some 14), (.bin .neq (.s 13) (.c (.int .i64 (0))))⟩]) (.ite (.s 14) (.seq (.ops [⟨none, false, (some 15), (.mov (.s 3))⟩, ⟨none, false, (some 2), (.mov (.s 15))⟩]) .ret) .skip))) (.seq (.ops [⟨none, false, (some 16), (.fa 1 (.s 1))⟩, ⟨none, false, (some 17), (.ld false 1 (.s 16) none)⟩, ⟨none, false, (some 18), (.len (.s 17))⟩, ⟨none, false, (some 4), (.mov (.s 18))⟩]) (.seq (.seq (.ops [⟨none, false, (some 19), (.fa 0 (.s 1))⟩, ⟨none, false, (some 20), (.ld false 1 (.s 19) none)⟩, ⟨none, false, (some 21), (.ia 1 (.s 20) (.c (.int .i64 (0))))⟩, ⟨none, false, (some 22), (.ld false 1 (.s 21) none)⟩, ⟨none, false, (some 23), (.bin .neq (.s 22) (.c (.int .i64 (1))))⟩, ⟨none, false, (some 24), (.mov (.s 23))⟩, ⟨(some (24, false)), false, (some 25), (.fa 0 (.s 1))⟩, ⟨(some (24, false)), false, (some 26), (.ld false 1 (.s 25) none)⟩, ⟨(some (24, false)), false, (some 27), (.mov (.s 4))⟩, ⟨(some (24, false)), false, (some 28), (.ia 1 (.s 26) (.s 27))⟩, ⟨(some (24, false)), false, (some 29), (.ld false 1 (.s 28) none)⟩, ⟨(some (24, false)), false, (some 30), (.bin .neq (.s 29) (.c (.int .i64 (1))))⟩, ⟨none, false, (some 31), (.pick (.s 24) (.c (.bool true)) (.s 30))⟩]) (.ite (.s 31) (.seq (.ops [⟨none, false, (some 2), (.mov (.c (.int .i64 (5))))⟩]) .ret) .skip)) (.seq (.seq (.ops [⟨none, false, (some 32), (.fa 1 (.s 1))⟩, ⟨none, false, (some 33), (.ld false 1 (.s 32) none)⟩, ⟨none, false, (some 34), (.len (.s 33))⟩, ⟨none, false, (some 35), (.mov (.c (.int .i64 (0))))⟩]) (.blk 0 (.loop (.seq (.ops [⟨none, false, (some 36), (.bin .lss (.s 35) (.s 34))⟩]) (.seq (.ite (.s 36) .skip (.exit 0)) (.seq (.blk 1 (.seq (.ops [⟨none, false, (some 37), (.mov (.s 35))⟩, ⟨none, false, (some 38), (.ia 1 (.s 33) (.s 35))⟩, ⟨none, false, (some 39), (.ld false 1 (.s 38) none)⟩, ⟨none, false, (some 5), (.mov (.s 37))⟩, ⟨none, false, (some 6), (.mov (.s 39))⟩]) (.seq (.ops [⟨none, false, (some 40), (.fa 0 (.s 1))⟩, ⟨none, false, (some 41), (.ld false 1 (.s 40) none)⟩, ⟨none, false, (some 42), (.mov (.s 5))⟩, ⟨none, false, (some 43), (.ia 1 (.s 41) (.s 42))⟩, ⟨none, false, (some 44), (.ld false 1 (.s 43) none)⟩, ⟨none, false, (some 45), (.mk 1 1 [(.bool false)] (.s 44) (.s 44))⟩, ⟨none, false, (some 7), (.mov (.s 45))⟩]) (.seq (.ops [⟨none, false, (some 46), (.fa 0 (.s 1))⟩, ⟨none, false, (some 47), (.ld false 1 (.s 46) none)⟩, ⟨none, false, (some 48), (.mov (.s 5))⟩, ⟨none, false, (some 49), (.bin .add (.s 48) (.c (.int .i64 (1))))⟩, ⟨none, false, (some 50), (.ia 1 (.s 47) (.s 49))⟩, ⟨none, false, (some 51), (.ld false 1 (.s 50) none)⟩, ⟨none, false, (some 52), (.mk 1 1 [(.bool false)] (.s 51) (.s 51))⟩, ⟨none, false, (some 8), (.mov (.s 52))⟩]) (.seq (.seq (.ops [⟨none, false, (some 53), (.mov (.s 6))⟩, ⟨none, false, (some 54), (.len (.s 53))⟩, ⟨none, false, (some 55), (.mov (.c (.int .i64 (0))))⟩]) (.blk 2 (.loop (.seq (.ops [⟨none, false, (some 56), (.bin .lss (.s 55) (.s 54))⟩]) (.seq (.ite (.s 56) .skip (.exit 2)) (.seq (.blk 3 (.seq (.ops [⟨none, false, (some 57), (.mov (.s 55))⟩, ⟨none, false, (some 58), (.ia 3 (.s 53) (.s 55))⟩, ⟨none, false, (some 59), (.ld true 3 (.s 58) none)⟩, ⟨none, false, (some 10), (.zero [(.int .i64 (0)), (.int .i64 (0)), (.int .i64 (0))])⟩, ⟨none, false, (some 9), (.mov (.s 57))⟩, ⟨none, false, none, (.st 3 (.s 10) (.s 59) [])⟩]) (.seq (.seq (.ops [⟨none, false, (some 60), (.fa 1 (.s 10))⟩, ⟨none, false, (some 61), (.ld false 1 (.s 60) none)⟩, ⟨none, false, (some 62), (.bin .lss (.s 61) (.c (.int .i64 (0))))⟩, ⟨none, false, (some 63), (.mov (.s 62))⟩, ⟨(some (63, false)), false, (some 64), (.fa 1 (.s 10))⟩, ⟨(some (63, false)), false, (some 65), (.ld false 1 (.s 64) none)⟩, ⟨(some (63, false)), false, (some 66), (.bin .geq (.s 65) (.c (.int .i64 (256))))⟩, ⟨none, false, (some 67), (.pick (.s 63) (.c (.bool true)) (.s 66))⟩, ⟨none, false, (some 68), (.mov (.s 67))⟩, ⟨(some (68, false)), false, (some 69), (.mov (.s 9))⟩, ⟨(some (68, false)), false, (some 70), (.bin .gtr (.s 69) (.c (.int .i64 (0))))⟩, ⟨(some (68, false)), false, (some 71), (.mov (.s 70))⟩, ⟨(some (71, true)), false, (some 72), (.mov (.s 6))⟩, ⟨(some (71, true)), false, (some 73), (.mov (.s 9))⟩, ⟨(some (71, true)), false, (some 74), (.bin .sub (.s 73) (.c (.int .i64 (1))))⟩, ⟨(some (71, true)), false, (some 75), (.ia 3 (.s 72) (.s 74))⟩, ⟨(some (71, true)), false, (some 76), (.ld true 3 (.s 75) none)⟩, ⟨(some (71, true)), false, (some 77), (.ld true 3 (.s 10) none)⟩, ⟨(some (71, true)), false, (some 78), (.call (.c (.fn 48 [])) [(.s 76), (.s 77)])⟩, ⟨(some (71, true)), false, (some 79), (.bin .geq (.s 78) (.c (.int .i64 (0))))⟩, ⟨(some (68, false)), false, (some 80), (.pick (.s 71) (.s 79) (.c (.bool false)))⟩, ⟨none, false, (some 81), (.pick (.s 68) (.c (.bool true)) (.s 80))⟩]) (.ite (.s 81) (.seq (.ops [⟨none, false, (some 2), (.mov (.c (.int .i64 (5))))⟩]) .ret) .skip)) (.ops [⟨none, false, (some 82), (.mov (.s 7))⟩, ⟨none, false, (some 83), (.fa 0 (.s 10))⟩, ⟨none, false, (some 85), (.mov (.s 8))⟩, ⟨none, false, (some 86), (.fa 2 (.s 10))⟩, ⟨none, false, (some 84), (.ld false 1 (.s 83) none)⟩, ⟨none, false, (some 88), (.ia 1 (.s 82) (.s 84))⟩, ⟨none, false, (some 87), (.ld false 1 (.s 86) (some 10))⟩, ⟨none, false, none, (.st 1 (.s 88) (.c (.bool true)) [10])⟩, ⟨none, false, (some 89), (.ia 1 (.s 85) (.s 87))⟩, ⟨none, false, none, (.st 1 (.s 89) (.c (.bool true)) [])⟩])))) (.ops [⟨none, false, (some 90), (.bin .add (.s 55) (.c (.int .i64 (1))))⟩, ⟨none, false, (some 55), (.mov (.s 90))⟩]))))))) (.seq (.ops [⟨none, false, (some 91), (.mov (.s 7))⟩, ⟨none, false, (some 92), (.call (.c (.fn 49 [])) [(.s 91), (.c (.bool false))])⟩, ⟨none, false, (some 93), (.mov (.s 92))⟩, ⟨(some (93, false)), false, (some 94), (.mov (.s 8))⟩, ⟨(some (93, false)), false, (some 95), (.call (.c (.fn 49 [])) [(.s 94), (.c (.bool false))])⟩, ⟨none, false, (some 96), (.pick (.s 93) (.c (.bool true)) (.s 95))⟩]) (.ite (.s 96) (.seq (.ops [⟨none, false, (some 2), (.mov (.c (.int .i64 (5))))⟩]) .ret) .skip))))))) (.ops [⟨none, false, (some 97), (.bin .add (.s 35) (.c (.int .i64 (1))))⟩, ⟨none, false, (some 35), (.mov (.s 97))⟩]))))))) (.seq (.ops [⟨none, false, (some 2), (.mov (.c (.int .i64 (0))))⟩]) .ret))))))⟩
theorem cv18 : cvF Try.prog 18 = some F18 := by kernel_rfl


def bools (bs : List Bool) : List V := bs.map .bool
theorem bools_get {xs : List Bool} {k : Nat} (h : k < xs.length) : (bools xs)[k]? = some (.bool xs[k]) := by simp [bools, h]
theorem bools_len (xs : List Bool) : (bools xs).length = xs.length := by simp [bools]

/-- the first place of b, or -1 -/
theorem Index_spec {v : V} {bs : List Bool} {b : Bool} {H : Heap} (hv : Sl H v 1 bs.length (bools bs)) : ACalls Try.prog 83 [v, .bool b] H fun u H' => (∃ n : Int, u = .int .i64 n ∧ (0 ≤ n ↔ b ∈ bs)) ∧ H' = H := by
  refine ACalls.of_body hm cv83 (by simp only [List.length_cons, List.length_nil]; decide) ?_
  simp only [F83, go_sem, ↓reduceIte, Nat.reduceEqDiff, Nat.reduceAdd, reduceCtorEq, hv.len]
  have := hv.lt
  refine range_loop bs.length (fun k env H' => H = H' ∧ env 0 = v ∧ env 1 = .bool b ∧ env 7 = .int .i64 bs.length ∧ env 8 = .int .i64 k ∧ ∀ j, (h : j < bs.length) → j < k → bs[j] ≠ b) (by omega) (by decide) (by decide) ?_ ?_ ?_ ?_
  · rintro k env H' ⟨_, _, _, h7, h8, _⟩; exact ⟨h8, h7⟩
  · simp only [go_sem, ↓reduceIte, Nat.reduceEqDiff, Nat.reduceAdd, reduceCtorEq]; simp
  · rintro k env H' hk ⟨rfl, h0, h1, h7, h8, hz⟩
    obtain ⟨p, a1, a2⟩ := hv.at1 (kd := .i64) hk
    rw [bools_get hk] at a2
    simp only [go_sem, ↓reduceIte, Nat.reduceEqDiff, Nat.reduceAdd, reduceCtorEq, h0, h1, h7, h8, a1, a2]
    refine iteC_b (fun hx => ?_) (fun hx => ?_)
    · simp only [go_sem, ↓reduceIte, Nat.reduceEqDiff, Nat.reduceAdd, reduceCtorEq]
      refine finO_self ⟨⟨k, rfl, ?_⟩, rfl⟩
      have : b = bs[k] := by simpa using hx
      exact ⟨fun _ => this ▸ List.getElem_mem hk, fun _ => by omega⟩
    · simp only [go_sem, ↓reduceIte, Nat.reduceEqDiff, Nat.reduceAdd, reduceCtorEq, h0, h1, h7, h8]
      refine ⟨by trivial, by trivial, by trivial, by trivial, by trivial, by trivial, fun j h hj => ?_⟩
      rcases Nat.lt_succ_iff_lt_or_eq.1 hj with hj | rfl
      · exact hz j h hj
      · intro e
        rw [e] at hx; simp at hx
  · rintro env H' ⟨rfl, h0, h1, h7, h8, hz⟩
    simp only [go_sem, ↓reduceIte, Nat.reduceEqDiff, Nat.reduceAdd, reduceCtorEq]
    refine finO_self ⟨⟨-1, rfl, by omega, fun hb => ?_⟩, rfl⟩
    obtain ⟨j, hj, e⟩ := List.getElem_of_mem hb
    exact absurd e (hz j hj hj)

theorem Contains_spec {v : V} {bs : List Bool} {b : Bool} {H : Heap} (hv : Sl H v 1 bs.length (bools bs)) : ACalls Try.prog 49 [v, .bool b] H fun u H' => u = .bool (decide (b ∈ bs)) ∧ H' = H := by
  refine ACalls.of_body hm cv49 (by simp only [List.length_cons, List.length_nil]; decide) ?_
  simp only [F49, go_sem, ↓reduceIte, Nat.reduceEqDiff, Nat.reduceAdd, reduceCtorEq]
  refine callC_any (Index_spec hv) ?_
  rintro u H' ⟨⟨n, rfl, hn⟩, rfl⟩
  simp only [go_sem, ↓reduceIte, Nat.reduceEqDiff, Nat.reduceAdd, reduceCtorEq]
  exact finO_self ⟨by simp [hn], rfl⟩

/-! ### the plain words -/

theorem mem_le_sumI {l : List Int} (h : ∀ x ∈ l, 0 ≤ x) : ∀ x ∈ l, x ≤ sumI l := by
  induction l with
  | nil => intro x hx; cases hx
  | cons y r ih =>
    intro x hx
    have h0 := h y (List.mem_cons_self ..)
    have hr : ∀ x ∈ r, 0 ≤ x := fun z hz => h z (List.mem_cons_of_mem _ hz)
    have := sumI_nonneg hr
    simp only [sumI]
    rcases List.mem_cons.1 hx with rfl | hx
    · omega
    · have := ih hr x hx; omega

structure Shaped (ws : List Int) (es : List (List Ed)) : Prop where
  n : es.length ≤ 64
  len : ws.length = es.length + 1
  pos : ∀ i, (h : i < ws.length) → 1 ≤ ws[i] ∧ ws[i] ≤ 65536
  nodes : sumI ws ≤ 65536
  edges : sumI (lensI es) ≤ 262144
  each : ∀ i, (h : i < es.length) → es[i].length ≤ 262144
  good : ∀ i, (h : i < es.length) → ∀ e ∈ es[i], 0 ≤ e.fr ∧ e.fr < ws[i]?.getD 0 ∧ 0 ≤ e.to ∧ e.to < ws[i+1]?.getD 0

theorem shaped_of {ws : List Int} {es : List (List Ed)} (h : shapeI ws es = 0) : Shaped ws es := by
  unfold shapeI at h
  split at h
  · omega
  rename_i c1
  split at h
  · omega
  rename_i c2
  split at h
  · omega
  rename_i c3
  split at h
  · omega
  rename_i c4
  split at h
  · omega
  rename_i c5
  have pos : ∀ x ∈ ws, 1 ≤ x := fun x hx => by
    have : ¬ x < 1 := fun h => c2 ⟨x, hx, h⟩
    omega
  have nn : ∀ x ∈ ws, 0 ≤ x := fun x hx => by have := pos x hx; omega
  refine ⟨by omega, by omega, fun i hi => ⟨pos _ (List.getElem_mem hi), ?_⟩, by omega, by omega, fun i hi => ?_, fun i hi e he => ?_⟩
  · have := mem_le_sumI nn _ (List.getElem_mem hi); omega
  · have := mem_le_sumI (lens_nonneg es) (es[i].length) (List.mem_map_of_mem (f := fun l : List Ed => (l.length : Int)) (List.getElem_mem hi)); omega
  · have : ¬ BadE ws i e := fun hb => c5 ⟨i, hi, e, he, hb⟩
    unfold BadE at this
    omega

def LexLt (a b : Ed) : Prop := a.fr < b.fr ∨ (a.fr = b.fr ∧ a.lb < b.lb)
theorem less_ge (a b : Ed) : 0 ≤ lessI a b ↔ ¬ LexLt a b := by
  unfold lessI LexLt cmpI
  simp only [orL]
  by_cases h1 : a.fr < b.fr
  · simp [h1]
  · by_cases h2 : b.fr < a.fr
    · simp [h1, h2]; omega
    · by_cases h3 : a.lb < b.lb
      · simp [h1, h2, h3]; omega
      · by_cases h4 : b.lb < a.lb
        · simp [h1, h2, h3, h4]
        · simp [h1, h2, h3, h4]

structure GoodSec (w w' : Int) (l : List Ed) : Prop where
  lab : ∀ e ∈ l, 0 ≤ e.lb ∧ e.lb < 256
  up : ∀ j, (h : j + 1 < l.length) → LexLt l[j] l[j+1]
  out : ∀ v : Int, 0 ≤ v → v < w → ∃ e ∈ l, e.fr = v
  inn : ∀ v : Int, 0 ≤ v → v < w' → ∃ e ∈ l, e.to = v
open Classical in
noncomputable def properI (ws : List Int) (es : List (List Ed)) : Int :=
  if shapeI ws es ≠ 0 then shapeI ws es
  else if ws[0]?.getD 0 ≠ 1 ∨ ws[es.length]?.getD 0 ≠ 1 then 5
  else if ∀ i, (h : i < es.length) → GoodSec (ws[i]?.getD 0) (ws[i+1]?.getD 0) es[i] then 0 else 5

/-- which of the first w numbers are among these -/
def marks (w : Nat) (xs : List Int) : List Bool := (List.range w).map fun (v : Nat) => decide ((v : Int) ∈ xs)
theorem marks_len (w : Nat) (xs : List Int) : (marks w xs).length = w := by simp [marks]
theorem marks_nil (w : Nat) : bools (marks w []) = List.replicate w (.bool false) := by
  apply List.ext_getElem?
  intro i
  by_cases h : i < w <;> simp [bools, marks, h]
theorem marks_snoc (w : Nat) (xs : List Int) (v : Nat) : (marks w xs).set v true = marks w (xs ++ [(v : Int)]) := by
  apply List.ext_getElem?
  intro i
  simp only [List.getElem?_set, marks_len]
  by_cases h : i < w
  · by_cases e : v = i
    · subst e; simp [marks, h]
    · have e' : ¬ (i : Int) = v := by omega
      simp [marks, h, e, e']
  · have : ¬ v < w ∨ ¬ v = i := by omega
    by_cases e : v = i
    · subst e; simp [marks, h]
    · simp [marks, h, e]
theorem marks_false (w : Nat) (xs : List Int) : false ∈ marks w xs ↔ ∃ v : Int, 0 ≤ v ∧ v < w ∧ v ∉ xs := by
  simp only [marks, List.mem_map, List.mem_range, decide_eq_false_iff_not]
  constructor
  · rintro ⟨v, h1, h2⟩; exact ⟨v, by omega, by omega, h2⟩
  · rintro ⟨v, h1, h2, h3⟩; exact ⟨v.toNat, by omega, by rwa [Int.toNat_of_nonneg h1]⟩
theorem splice_one (l : List V) (o : Nat) (x : V) (h : o < l.length) : splice l o [x] = l.set o x := by
  unfold splice
  rw [List.set_eq_take_append_cons_drop, if_pos h]
  simp
theorem bools_set (bs : List Bool) (o : Nat) (b : Bool) : (bools bs).set o (.bool b) = bools (bs.set o b) := by
  simp [bools, List.map_set]
theorem flat_rep (n : Nat) (v : V) : (List.replicate n [v]).flatten = List.replicate n v := by
  induction n with
  | zero => rfl
  | succ n ih => simp [List.replicate_succ, ih]
end Go.AM
