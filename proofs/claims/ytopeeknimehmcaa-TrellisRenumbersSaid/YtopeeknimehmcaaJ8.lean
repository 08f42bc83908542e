/- slices.BinarySearchFunc and IndexFunc over edges; trellis.from. Conditions: as stated. -/
import Derived.Test.YtopeeknimehmcaaJ7
set_option linter.unusedVariables false
set_option linter.unusedSimpArgs false
namespace Go.AM
open Go Go.Proofs
attribute [local go_sem] c_skip c_ops c_seq c_ite c_blk c_exit c_ret t_normal t_exit t_ret b_normal b_exit b_ret i_nil i_cons s_guard s_mov s_pick s_new s_zero s_ld s_ldr s_st s_bin s_beq s_isnil s_eqs s_un s_conv s_fa s_fld s_ia s_sli s_ext s_ifc s_mkf s_agg s_len s_mm s_nilchk s_bsl s_mk s_app s_cpy s_call s_inv cells_agg cells_int cells_bool p_get p_none o_s o_c e_0 e_1 e_2 e_3 e_4 iteC_true iteC_false grd_tt grd_tf grd_ft grd_ff grd_und bindV_some pickV_t pickV_f beq_bool conv_int un_not not_dec mm_min mm_max bv_add bv_sub bv_mul bv_eql bv_neq bv_lss bv_leq bv_gtr bv_geq f_normal f_one f_two f_three f_none fa_ptr fld_one ext_tup len_sl len_nils decide_true decide_false not_true_eq_false not_false_eq_true List.map_cons List.map_nil List.append_nil List.cons_append List.nil_append Nat.zero_add Nat.add_zero Nat.mul_one Nat.succ_ne_self if_true if_false List.getElem?_cons_zero List.getElem?_cons_succ

/-- slices.BinarySearchFunc[[]api.Edge,api.Edge,int] -/
def F90 : AF := ⟨49, [(6, none), (7, none)], (.seq (.ops [⟨none, false, (some 6), (.mov (.c (.int .i64 (0))))⟩, ⟨none, false, (some 7), (.mov (.c (.bool false)))⟩]) (.seq (.ops [⟨none, false, (some 12), (.mov (.s 0))⟩, ⟨none, false, (some 13), (.len (.s 12))⟩, ⟨none, false, (some 8), (.mov (.s 13))⟩]) (.seq (.ops [⟨none, false, (some 14), (.mov (.s 8))⟩, ⟨none, false, (some 9), (.mov (.c (.int .i64 (0))))⟩, ⟨none, false, (some 10), (.mov (.s 14))⟩]) (.seq (.blk 0 (.loop (.seq (.seq (.ops [⟨none, false, (some 15), (.mov (.s 9))⟩, ⟨none, false, (some 16), (.mov (.s 10))⟩, ⟨none, false, (some 17), (.bin .lss (.s 15) (.s 16))⟩]) (.ite (.s 17) .skip (.exit 0))) (.blk 1 (.seq (.ops [⟨none, false, (some 18), (.mov (.s 9))⟩, ⟨none, false, (some 19), (.mov (.s 10))⟩, ⟨none, false, (some 20), (.bin .add (.s 18) (.s 19))⟩, ⟨none, false, (some 21), (.conv .u64 (.s 20))⟩, ⟨none, false, (some 22), (.bin .shr (.s 21) (.c (.int .u64 (1))))⟩, ⟨none, false, (some 23), (.conv .i64 (.s 22))⟩, ⟨none, false, (some 11), (.mov (.s 23))⟩]) (.seq (.ops [⟨none, false, (some 24), (.mov (.s 2))⟩, ⟨none, false, (some 25), (.mov (.s 0))⟩, ⟨none, false, (some 26), (.mov (.s 11))⟩, ⟨none, false, (some 27), (.ia 3 (.s 25) (.s 26))⟩, ⟨none, false, (some 28), (.ld true 3 (.s 27) none)⟩, ⟨none, false, (some 29), (.mov (.s 1))⟩, ⟨none, false, (some 30), (.call (.s 24) [(.s 28), (.s 29)])⟩, ⟨none, false, (some 31), (.bin .lss (.s 30) (.c (.int .i64 (0))))⟩]) (.ite (.s 31) (.ops [⟨none, false, (some 32), (.mov (.s 11))⟩, ⟨none, false, (some 33), (.bin .add (.s 32) (.c (.int .i64 (1))))⟩, ⟨none, false, (some 9), (.mov (.s 33))⟩]) (.ops [⟨none, false, (some 34), (.mov (.s 11))⟩, ⟨none, false, (some 10), (.mov (.s 34))⟩])))))))) (.seq (.ops [⟨none, false, (some 35), (.mov (.s 9))⟩, ⟨none, false, (some 36), (.mov (.s 9))⟩, ⟨none, false, (some 37), (.mov (.s 8))⟩, ⟨none, false, (some 38), (.bin .lss (.s 36) (.s 37))⟩, ⟨none, false, (some 39), (.mov (.s 38))⟩, ⟨(some (39, true)), false, (some 40), (.mov (.s 2))⟩, ⟨(some (39, true)), false, (some 41), (.mov (.s 0))⟩, ⟨(some (39, true)), false, (some 42), (.mov (.s 9))⟩, ⟨(some (39, true)), false, (some 43), (.ia 3 (.s 41) (.s 42))⟩, ⟨(some (39, true)), false, (some 44), (.ld true 3 (.s 43) none)⟩, ⟨(some (39, true)), false, (some 45), (.mov (.s 1))⟩, ⟨(some (39, true)), false, (some 46), (.call (.s 40) [(.s 44), (.s 45)])⟩, ⟨(some (39, true)), false, (some 47), (.bin .eql (.s 46) (.c (.int .i64 (0))))⟩, ⟨none, false, (some 48), (.pick (.s 39) (.s 47) (.c (.bool false)))⟩, ⟨none, false, (some 6), (.mov (.s 35))⟩, ⟨none, false, (some 7), (.mov (.s 48))⟩]) .ret)))))⟩
theorem cv90 : cvF Try.prog 90 = some F90 := by kernel_rfl

/-- trellis.from$1 -/
def F91 : AF := ⟨9, [(4, none)], (.seq (.ops [⟨none, false, (some 2), (.new (.s 0))⟩, ⟨none, false, (some 4), (.mov (.c (.int .i64 (0))))⟩]) (.seq (.ops [⟨none, false, (some 5), (.fa 0 (.s 2))⟩, ⟨none, false, (some 6), (.ld false 1 (.s 5) none)⟩, ⟨none, false, (some 7), (.mov (.s 1))⟩, ⟨none, false, (some 8), (.call (.c (.fn 82 [])) [(.s 6), (.s 7)])⟩, ⟨none, false, (some 4), (.mov (.s 8))⟩]) .ret))⟩
theorem cv91 : cvF Try.prog 91 = some F91 := by kernel_rfl

/-- trellis.from -/
def F59 : AF := ⟨34, [(4, none)], (.seq (.ops [⟨none, false, (some 4), (.mov (.c .nils))⟩]) (.seq (.ops [⟨none, false, (some 9), (.mov (.s 0))⟩, ⟨none, false, (some 10), (.mov (.s 1))⟩, ⟨none, false, (some 11), (.call (.c (.fn 90 [])) [(.s 9), (.s 10), (.c (.fn 91 []))])⟩, ⟨none, false, (some 8), (.mov (.s 11))⟩, ⟨none, false, (some 12), (.ext (.s 8) 0)⟩, ⟨none, false, (some 13), (.ext (.s 8) 1)⟩, ⟨none, false, (some 5), (.mov (.s 12))⟩, ⟨none, false, (some 6), (.mov (.s 13))⟩]) (.seq (.ops [⟨none, false, (some 14), (.mov (.s 5))⟩, ⟨none, false, (some 7), (.mov (.s 14))⟩]) (.seq (.blk 0 (.loop (.seq (.seq (.ops [⟨none, false, (some 15), (.mov (.s 7))⟩, ⟨none, false, (some 16), (.mov (.s 0))⟩, ⟨none, false, (some 17), (.len (.s 16))⟩, ⟨none, false, (some 18), (.bin .lss (.s 15) (.s 17))⟩, ⟨none, false, (some 19), (.mov (.s 18))⟩, ⟨(some (19, true)), false, (some 20), (.mov (.s 0))⟩, ⟨(some (19, true)), false, (some 21), (.mov (.s 7))⟩, ⟨(some (19, true)), false, (some 22), (.ia 3 (.s 20) (.s 21))⟩, ⟨(some (19, true)), false, (some 23), (.fa 0 (.s 22))⟩, ⟨(some (19, true)), false, (some 24), (.ld false 1 (.s 23) none)⟩, ⟨(some (19, true)), false, (some 25), (.mov (.s 1))⟩, ⟨(some (19, true)), false, (some 26), (.bin .eql (.s 24) (.s 25))⟩, ⟨none, false, (some 27), (.pick (.s 19) (.s 26) (.c (.bool false)))⟩]) (.ite (.s 27) .skip (.exit 0))) (.blk 1 (.ops [⟨none, false, (some 28), (.mov (.s 7))⟩, ⟨none, false, (some 29), (.bin .add (.s 28) (.c (.int .i64 (1))))⟩, ⟨none, false, (some 7), (.mov (.s 29))⟩]))))) (.seq (.ops [⟨none, false, (some 30), (.mov (.s 0))⟩, ⟨none, false, (some 31), (.mov (.s 5))⟩, ⟨none, false, (some 32), (.mov (.s 7))⟩, ⟨none, false, (some 33), (.sli 3 (.s 30) (some (.s 31)) (some (.s 32)) none)⟩, ⟨none, false, (some 4), (.mov (.s 33))⟩]) .ret)))))⟩
theorem cv59 : cvF Try.prog 59 = some F59 := by kernel_rfl

/-- slices.IndexFunc[[]api.Edge,api.Edge] -/
def F60 : AF := ⟨19, [(4, none)], (.seq (.ops [⟨none, false, (some 4), (.mov (.c (.int .i64 (0))))⟩]) (.seq (.seq (.ops [⟨none, false, (some 6), (.mov (.s 0))⟩, ⟨none, false, (some 7), (.len (.s 6))⟩, ⟨none, false, (some 8), (.mov (.c (.int .i64 (0))))⟩]) (.blk 0 (.loop (.seq (.ops [⟨none, false, (some 9), (.bin .lss (.s 8) (.s 7))⟩]) (.seq (.ite (.s 9) .skip (.exit 0)) (.seq (.blk 1 (.seq (.ops [⟨none, false, (some 10), (.mov (.s 8))⟩, ⟨none, false, (some 5), (.mov (.s 10))⟩]) (.seq (.ops [⟨none, false, (some 11), (.mov (.s 1))⟩, ⟨none, false, (some 12), (.mov (.s 0))⟩, ⟨none, false, (some 13), (.mov (.s 5))⟩, ⟨none, false, (some 14), (.ia 3 (.s 12) (.s 13))⟩, ⟨none, false, (some 15), (.ld true 3 (.s 14) none)⟩, ⟨none, false, (some 16), (.call (.s 11) [(.s 15)])⟩]) (.ite (.s 16) (.seq (.ops [⟨none, false, (some 17), (.mov (.s 5))⟩, ⟨none, false, (some 4), (.mov (.s 17))⟩]) .ret) .skip)))) (.ops [⟨none, false, (some 18), (.bin .add (.s 8) (.c (.int .i64 (1))))⟩, ⟨none, false, (some 8), (.mov (.s 18))⟩]))))))) (.seq (.ops [⟨none, false, (some 4), (.mov (.c (.int .i64 (-1))))⟩]) .ret)))⟩
theorem cv60 : cvF Try.prog 60 = some F60 := by kernel_rfl

/-- trellis.Accepts$1 -/
def F61 : AF := ⟨8, [(3, none)], (.seq (.ops [⟨none, false, (some 2), (.new (.s 0))⟩, ⟨none, false, (some 3), (.mov (.c (.bool false)))⟩]) (.seq (.ops [⟨none, false, (some 4), (.fa 1 (.s 2))⟩, ⟨none, false, (some 5), (.ld false 1 (.s 4) none)⟩, ⟨none, false, (some 6), (.ld false 1 (.s 1) none)⟩, ⟨none, false, (some 7), (.bin .eql (.s 5) (.s 6))⟩, ⟨none, false, (some 3), (.mov (.s 7))⟩]) .ret))⟩
theorem cv61 : cvF Try.prog 61 = some F61 := by kernel_rfl


def Sorted (l : List Ed) : Prop := ∀ i j, (h : j < l.length) → (_ : i ≤ j) → (l[i]'(by omega)).fr ≤ l[j].fr
theorem sorted_of {l : List Ed} (h : ∀ j, (h : j + 1 < l.length) → LexLt l[j] l[j+1]) : Sorted l := by
  intro i j hj hi
  obtain ⟨d, rfl⟩ : ∃ d, j = i + d := ⟨j - i, by omega⟩
  induction d with
  | zero => exact Int.le_refl _
  | succ d ih =>
    have h1 := ih (by omega) (by omega)
    have h2 := h (i + d) (by omega)
    have e : i + (d + 1) = i + d + 1 := rfl
    simp only [e]
    rcases h2 with h2 | h2
    · omega
    · omega
/-- an edge is known by its node and its label -/
theorem lex_mono {l : List Ed} (h : ∀ j, (h : j + 1 < l.length) → LexLt l[j] l[j+1]) {i j : Nat} (hij : i < j) (hj : j < l.length) : LexLt (l[i]'(by omega)) l[j] := by
  obtain ⟨d, rfl⟩ : ∃ d, j = i + 1 + d := ⟨j - i - 1, by omega⟩
  induction d with
  | zero => exact h i hj
  | succ d ih =>
    have h1 := ih (by omega) (by omega)
    have h2 := h (i + 1 + d) (by omega)
    have e : i + 1 + (d + 1) = i + 1 + d + 1 := rfl
    simp only [e]
    unfold LexLt at *
    omega
theorem lex_unique {l : List Ed} (h : ∀ j, (h : j + 1 < l.length) → LexLt l[j] l[j+1]) {i j : Nat} (hi : i < l.length) (hj : j < l.length) (e1 : l[i].fr = l[j].fr) (e2 : l[i].lb = l[j].lb) : i = j := by
  rcases Nat.lt_trichotomy i j with h1 | h1 | h1
  · have := lex_mono h h1 hj
    unfold LexLt at this; omega
  · exact h1
  · have := lex_mono h h1 hi
    unfold LexLt at this; omega

/-- what a block leads to, by the way of a word on where it ends -/
theorem blk_join {P : Program} {C : IC} {id : Nat} {X : Env → Heap → Prop} {Q : Qt} {env : Env} {H : Heap} (Mid : Env → Heap → Prop) (h : cwp P C (inBlk id (thenE Mid Q)) env H) (k : ∀ env' H', Mid env' H' → X env' H') : cwp P C (inBlk id (thenE X Q)) env H := by
  refine cwp_mono C (inBlk_mono ?_) h
  intro e env' H' hh
  cases e
  · exact k _ _ hh
  all_goals exact hh
theorem bv_shr1 (a : Int) : binV .shr (.int .u64 a) (.int .u64 1) = some (.int .u64 (a / 2)) := by
  have : a.fdiv 2 = a / 2 := Int.fdiv_eq_ediv_of_nonneg a (by decide)
  simp [binV, IntKind.bits, this]

theorem fromC_spec (e : Ed) (v : Int) (H : Heap) : ACalls Try.prog 91 [.agg e.cells, .int .i64 v] H fun u H' => u = .int .i64 (cmpI e.fr v) ∧ H' = H := by
  refine ACalls.of_body hm cv91 (by simp only [List.length_cons, List.length_nil]; decide) ?_
  simp only [F91, go_sem, ↓reduceIte, Nat.reduceEqDiff, Nat.reduceAdd, reduceCtorEq]
  refine newC_intro fun n1 H1 hn1 hs1 hb1 => ?_
  simp only [Ed.cells, go_sem, ↓reduceIte, Nat.reduceEqDiff, Nat.reduceAdd, reduceCtorEq] at hb1
  simp only [go_sem, ↓reduceIte, Nat.reduceEqDiff, Nat.reduceAdd, reduceCtorEq, ld_box hb1]
  refine callC_pure (Compare_spec _ _ _) ?_
  simp only [go_sem, ↓reduceIte, Nat.reduceEqDiff, Nat.reduceAdd, reduceCtorEq]
  exact finO_sub hs1 ⟨rfl, rfl⟩

theorem BSearch_spec {u0 : V} {l : List Ed} {v : Int} {H : Heap} (hv : SEds H u0 l) (hl : l.length ≤ 262144) (hs : Sorted l) :
    ACalls Try.prog 90 [u0, .int .i64 v, .fn 91 []] H fun u H' => (∃ lo : Nat, ∃ b, u = .tup [.int .i64 lo, .bool b] ∧ lo ≤ l.length ∧ (∀ i, (h : i < l.length) → i < lo → l[i].fr < v) ∧ (∀ i, (h : i < l.length) → lo ≤ i → v ≤ l[i].fr)) ∧ H' = H := by
  refine ACalls.of_body hm cv90 (by simp only [List.length_cons, List.length_nil]; decide) ?_
  simp only [F90, go_sem, ↓reduceIte, Nat.reduceEqDiff, Nat.reduceAdd, reduceCtorEq, hv.len]
  refine blk_join (fun env H' => H = H' ∧ env 0 = u0 ∧ env 1 = .int .i64 v ∧ env 2 = .fn 91 [] ∧ env 8 = .int .i64 l.length ∧ ∃ lo : Nat, env 9 = .int .i64 lo ∧ lo ≤ l.length ∧ (∀ i, (h : i < l.length) → i < lo → l[i].fr < v) ∧ (∀ i, (h : i < l.length) → lo ≤ i → v ≤ l[i].fr)) ?_ ?_
  · refine loop_count l.length (fun k env H' => H = H' ∧ env 0 = u0 ∧ env 1 = .int .i64 v ∧ env 2 = .fn 91 [] ∧ env 8 = .int .i64 l.length ∧ ∃ i j : Nat, env 9 = .int .i64 i ∧ env 10 = .int .i64 j ∧ i ≤ j ∧ j ≤ l.length ∧ j + k ≤ i + l.length ∧ (∀ m, (h : m < l.length) → m < i → l[m].fr < v) ∧ (∀ m, (h : m < l.length) → j ≤ m → v ≤ l[m].fr)) ?_ ?_ ?_
    · simp only [go_sem, ↓reduceIte, Nat.reduceEqDiff, Nat.reduceAdd, reduceCtorEq]
      refine ⟨by trivial, by trivial, by trivial, by trivial, by trivial, 0, l.length, rfl, by trivial, by omega, by omega, by omega, fun m h h' => by omega, fun m h h' => by omega⟩
    · rintro k env H' hk ⟨rfl, h0, h1, h2, h8, i, j, h9, h10, hij, hjl, hjk, hlo, hhi⟩
      simp only [go_sem, ↓reduceIte, Nat.reduceEqDiff, Nat.reduceAdd, reduceCtorEq, h9, h10]
      refine iteC_if (fun c => ?_) (fun c => ?_)
      · obtain ⟨m, hm⟩ : ∃ m : Nat, m = (i + j) / 2 := ⟨_, rfl⟩
        have hml : m < l.length := by omega
        have w1 : IntKind.i64.wrap ((i : Int) + j) = ((i + j : Nat) : Int) := by rw [← Int.natCast_add]; exact wrapN (by omega)
        have w2 : IntKind.u64.wrap ((i + j : Nat) : Int) = ((i + j : Nat) : Int) := by rw [wrap64]; omega
        have w3 : IntKind.i64.wrap (((i + j : Nat) : Int) / 2) = (m : Int) := by
          have : (((i + j : Nat) : Int) / 2) = (m : Int) := by omega
          rw [this]; exact wrapN (by omega)
        obtain ⟨p, q0, q1, q2, c1, c2, _⟩ := hv.get hml .i64
        simp only [go_sem, ↓reduceIte, Nat.reduceEqDiff, Nat.reduceAdd, reduceCtorEq, h0, h1, h2, h9, h10, w1, w2, bv_shr1, w3, c1, c2]
        refine callC_pure (fromC_spec _ _ _) ?_
        simp only [go_sem, ↓reduceIte, Nat.reduceEqDiff, Nat.reduceAdd, reduceCtorEq]
        refine iteC_if (fun d => ?_) (fun d => ?_)
        · have hlt : l[m].fr < v := by unfold cmpI at d; split at d <;> first | assumption | (split at d <;> omega)
          simp only [go_sem, ↓reduceIte, Nat.reduceEqDiff, Nat.reduceAdd, reduceCtorEq, h0, h1, h2, h8, h9, h10]
          rw [wrapN1 (by omega)]
          refine ⟨by trivial, by trivial, by trivial, by trivial, by trivial, m+1, j, rfl, by trivial, by omega, by omega, by omega, fun x hx hxm => ?_, hhi⟩
          have := hs x m hml (by omega)
          omega
        · have hge : v ≤ l[m].fr := by unfold cmpI at d; split at d <;> omega
          simp only [go_sem, ↓reduceIte, Nat.reduceEqDiff, Nat.reduceAdd, reduceCtorEq, h0, h1, h2, h8, h9, h10]
          refine ⟨by trivial, by trivial, by trivial, by trivial, by trivial, i, m, rfl, by trivial, by omega, by omega, by omega, hlo, fun x hx hxm => ?_⟩
          have := hs m x hx (by omega)
          omega
      · have : i = j := by omega
        subst this
        simp only [go_sem, ↓reduceIte, Nat.reduceEqDiff, Nat.reduceAdd, reduceCtorEq]
        exact ⟨by trivial, by first | assumption | trivial, by first | assumption | trivial, by first | assumption | trivial, by first | assumption | trivial, i, (by first | assumption | trivial), hjl, hlo, hhi⟩
    · rintro env H' ⟨rfl, h0, h1, h2, h8, i, j, h9, h10, hij, hjl, hjk, hlo, hhi⟩
      have : i = j := by omega
      subst this
      simp only [go_sem, ↓reduceIte, Nat.reduceEqDiff, Nat.reduceAdd, reduceCtorEq, h9, h10, Int.lt_irrefl]
      exact ⟨by trivial, by first | assumption | trivial, by first | assumption | trivial, by first | assumption | trivial, by first | assumption | trivial, i, (by first | assumption | trivial), hjl, hlo, hhi⟩
  · rintro env H' ⟨rfl, h0, h1, h2, h8, lo, h9, hl0, hlo, hhi⟩
    simp only [go_sem, ↓reduceIte, Nat.reduceEqDiff, Nat.reduceAdd, reduceCtorEq, h0, h1, h2, h8, h9]
    by_cases c : (lo : Int) < l.length
    · obtain ⟨p, q0, q1, q2, c1, c2, _⟩ := hv.get (k := lo) (by omega) .i64
      simp only [go_sem, ↓reduceIte, Nat.reduceEqDiff, Nat.reduceAdd, reduceCtorEq, h0, h1, h2, h8, h9, c, c1, c2]
      refine callC_pure (fromC_spec _ _ _) ?_
      simp only [go_sem, ↓reduceIte, Nat.reduceEqDiff, Nat.reduceAdd, reduceCtorEq]
      exact finO_self ⟨⟨lo, _, rfl, hl0, hlo, hhi⟩, rfl⟩
    · simp only [go_sem, ↓reduceIte, Nat.reduceEqDiff, Nat.reduceAdd, reduceCtorEq, h0, h1, h2, h8, h9, c]
      exact finO_self ⟨⟨lo, _, rfl, hl0, hlo, hhi⟩, rfl⟩

theorem Sl.sli {H : Heap} {v : V} {sz len a b : Nat} {cs : List V} {k1 k2 : IntKind} (h : Sl H v sz len cs) (h0 : 0 < sz) (hab : a ≤ b) (hb : b ≤ len) : ∃ u, sliV H sz v (some (.int k1 a)) (some (.int k2 b)) none = some u ∧ Sl H u sz (b - a) ((cs.drop (a * sz)).take ((b - a) * sz)) := by
  obtain ⟨h1, h2, ⟨rfl, h3⟩ | ⟨m, o, f, blk, rfl, hb', hz, hl, hj⟩⟩ := h
  · obtain rfl : b = 0 := by omega
    obtain rfl : a = 0 := by omega
    exact ⟨.nils, by simp [sliV, cutOf, h0], by simp [Sl]⟩
  · have e1 : (a + (b - a)) * sz ≤ len * sz := Nat.mul_le_mul_right _ (by omega)
    rw [Nat.add_mul] at e1
    refine ⟨.sl m (o + a * sz) (b - a) (f && b == len), ?_, ?_⟩
    · simp [sliV, cutOf, hb', hz, h0, hab, hb]
    · refine ⟨by simp only [List.length_take, List.length_drop]; omega, by omega, .inr ⟨m, o + a * sz, _, blk, rfl, hb', hz, ?_, fun j hj' => ?_⟩⟩
      · by_cases e : b - a = 0
        · exact .inl e
        · rcases hl with hl | hl
          · omega
          · exact .inr (by omega)
      · rw [List.getElem?_take, if_pos hj', List.getElem?_drop, Nat.add_assoc, hj _ (by omega)]
theorem ecells_take (l : List Ed) (k : Nat) : (ecells l).take (k * 3) = ecells (l.take k) := by
  induction k generalizing l with
  | zero => simp [ecells]
  | succ k ih =>
    cases l with
    | nil => simp [ecells]
    | cons e r =>
      have : (k + 1) * 3 = k * 3 + 3 := by omega
      rw [this, List.take_succ_cons]
      show (e.cells ++ ecells r).take (k * 3 + 3) = e.cells ++ ecells (r.take k)
      rw [← ih r]
      rfl
theorem SEds.sli {H : Heap} {v : V} {l : List Ed} {a b : Nat} {k1 k2 : IntKind} (h : SEds H v l) (hab : a ≤ b) (hb : b ≤ l.length) : ∃ u, sliV H 3 v (some (.int k1 a)) (some (.int k2 b)) none = some u ∧ SEds H u ((l.drop a).take (b - a)) := by
  obtain ⟨u, h1, h2⟩ := Sl.sli (k1 := k1) (k2 := k2) h (by decide) hab hb
  refine ⟨u, h1, ?_⟩
  unfold SEds
  have : ((l.drop a).take (b - a)).length = b - a := by simp only [List.length_take, List.length_drop]; omega
  rw [this, ← ecells_take, ← ecells_drop]
  exact h2

/-- the edges that lead from a node -/
def fromI (l : List Ed) (v : Int) : List Ed := l.filter fun e => decide (e.fr = v)
theorem fromI_eq {l : List Ed} {v : Int} {lo hi : Nat} (h1 : lo ≤ hi) (h2 : hi ≤ l.length) (hlo : ∀ i, (h : i < l.length) → i < lo → l[i].fr ≠ v) (hin : ∀ i, (h : i < l.length) → lo ≤ i → i < hi → l[i].fr = v) (hhi : ∀ i, (h : i < l.length) → hi ≤ i → l[i].fr ≠ v) :
    fromI l v = (l.drop lo).take (hi - lo) := by
  have e : l = l.take lo ++ ((l.drop lo).take (hi - lo) ++ (l.drop lo).drop (hi - lo)) := by rw [List.take_append_drop, List.take_append_drop]
  have f1 : (l.take lo).filter (fun e => decide (e.fr = v)) = [] := by
    rw [List.filter_eq_nil_iff]
    intro x hx
    obtain ⟨i, hi', rfl⟩ := List.getElem_of_mem hx
    rw [List.length_take] at hi'
    simpa using hlo i (by omega) (by omega)
  have f2 : ((l.drop lo).take (hi - lo)).filter (fun e => decide (e.fr = v)) = (l.drop lo).take (hi - lo) := by
    rw [List.filter_eq_self]
    intro x hx
    obtain ⟨i, hi', rfl⟩ := List.getElem_of_mem hx
    simp only [List.length_take, List.length_drop] at hi'
    simpa using hin (lo + i) (by omega) (by omega) (by omega)
  have f3 : ((l.drop lo).drop (hi - lo)).filter (fun e => decide (e.fr = v)) = [] := by
    rw [List.filter_eq_nil_iff]
    intro x hx
    obtain ⟨i, hi', rfl⟩ := List.getElem_of_mem hx
    simp only [List.length_drop] at hi'
    simpa [Nat.add_assoc] using hhi (lo + (hi - lo + i)) (by omega) (by omega)
  conv => lhs; rw [fromI, e]
  rw [List.filter_append, List.filter_append, f1, f2, f3]
  simp

theorem from_spec {u0 : V} {l : List Ed} {v : Int} {H : Heap} (hv : SEds H u0 l) (hl : l.length ≤ 262144) (hs : Sorted l) :
    ACalls Try.prog 59 [u0, .int .i64 v] H fun u H' => SEds H u (fromI l v) ∧ H' = H := by
  refine ACalls.of_body hm cv59 (by simp only [List.length_cons, List.length_nil]; decide) ?_
  simp only [F59, go_sem, ↓reduceIte, Nat.reduceEqDiff, Nat.reduceAdd, reduceCtorEq]
  refine callC_any (BSearch_spec hv hl hs) ?_
  rintro u H0 ⟨⟨lo, b, rfl, hlo0, hlo, hhi⟩, rfl⟩
  simp only [go_sem, ↓reduceIte, Nat.reduceEqDiff, Nat.reduceAdd, reduceCtorEq]
  refine blk_join (fun env H' => True ∧ H0 = H' ∧ env 0 = u0 ∧ env 5 = .int .i64 lo ∧ ∃ hi : Nat, env 7 = .int .i64 hi ∧ lo ≤ hi ∧ hi ≤ l.length ∧ (∀ i, (h : i < l.length) → lo ≤ i → i < hi → l[i].fr = v) ∧ (∀ i, (h : i < l.length) → hi ≤ i → l[i].fr ≠ v)) ?_ ?_
  · refine loop_count (l.length - lo) (fun k env H' => H0 = H' ∧ env 0 = u0 ∧ env 1 = .int .i64 v ∧ env 5 = .int .i64 lo ∧ env 7 = .int .i64 ((lo + k : Nat) : Int) ∧ (∀ i, (h : i < l.length) → lo ≤ i → i < lo + k → l[i].fr = v)) ?_ ?_ ?_
    · simp only [go_sem, ↓reduceIte, Nat.reduceEqDiff, Nat.reduceAdd, reduceCtorEq]
      exact ⟨by trivial, by trivial, by trivial, by trivial, by trivial, fun i h h1 h2 => by omega⟩
    · rintro k env H' hk ⟨rfl, h0, h1, h5, h7, hin⟩
      have hlt : ((lo + k : Nat) : Int) < l.length := by omega
      obtain ⟨p, q0, q1, q2, c1, c2, c3, _, _, c4, _⟩ := hv.get (k := lo + k) (by omega) .i64
      simp only [go_sem, ↓reduceIte, Nat.reduceEqDiff, Nat.reduceAdd, reduceCtorEq, h0, h1, h5, h7, hv.len, hlt, c1, c3, c4]
      refine iteC_if (fun d => ?_) (fun d => ?_)
      · simp only [go_sem, ↓reduceIte, Nat.reduceEqDiff, Nat.reduceAdd, reduceCtorEq, h0, h1, h5, h7]
        rw [wrapN1 (by omega)]
        refine ⟨by trivial, by trivial, by trivial, by trivial, by trivial, fun i h a b => ?_⟩
        rcases Nat.lt_or_ge i (lo + k) with c | c
        · exact hin i h a c
        · have : i = lo + k := by omega
          subst this; exact d
      · simp only [go_sem, ↓reduceIte, Nat.reduceEqDiff, Nat.reduceAdd, reduceCtorEq, h0, h1, h5, h7]
        refine ⟨by trivial, by trivial, by trivial, by trivial, lo + k, rfl, by omega, by omega, hin, fun i h a e => d ?_⟩
        have t1 := hs (lo + k) i h (by omega)
        have t2 := hhi (lo + k) (by omega) (by omega)
        omega
    · rintro env H' ⟨rfl, h0, h1, h5, h7, hin⟩
      have e : lo + (l.length - lo) = l.length := by omega
      rw [e] at h7
      simp only [go_sem, ↓reduceIte, Nat.reduceEqDiff, Nat.reduceAdd, reduceCtorEq, h0, h1, h5, h7, hv.len, Int.lt_irrefl]
      exact ⟨by trivial, by trivial, by trivial, by trivial, l.length, rfl, by omega, by omega, fun i h a b => hin i h a (by omega), fun i h a => by omega⟩
  · rintro env H' ⟨_, rfl, h0, h5, hi, h7, a1, a2, a3, a4⟩
    obtain ⟨u, e1, e2⟩ := hv.sli (k1 := .i64) (k2 := .i64) a1 a2
    simp only [go_sem, ↓reduceIte, Nat.reduceEqDiff, Nat.reduceAdd, reduceCtorEq, h0, h5, h7, Option.map_some, Option.map_none, e1]
    refine finO_self ⟨?_, rfl⟩
    rw [fromI_eq a1 a2 (fun i h h' => by have := hlo i h h'; omega) a3 a4]
    exact e2

theorem IndexFunc_spec {u0 : V} {l : List Ed} {g : FuncId} {caps : List V} {p : Ed → Prop} {H : Heap} (hv : SEds H u0 l) (hg : ∀ e ∈ l, ACalls Try.prog g ([.agg e.cells] ++ caps) H fun u H' => (∃ b, u = .bool b ∧ (b = true ↔ p e)) ∧ H' = H) :
    ACalls Try.prog 60 [u0, .fn g caps] H fun u H' => ((u = .int .i64 (-1) ∧ ∀ e ∈ l, ¬ p e) ∨ ∃ i, ∃ h : i < l.length, u = .int .i64 (i : Nat) ∧ p l[i] ∧ ∀ j, (hj : j < i) → ¬ p l[j]) ∧ H' = H := by
  refine ACalls.of_body hm cv60 (by simp only [List.length_cons, List.length_nil]; decide) ?_
  have hlt := hv.lt
  simp only [F60, go_sem, ↓reduceIte, Nat.reduceEqDiff, Nat.reduceAdd, reduceCtorEq, hv.len]
  refine range_loop l.length (fun k env H' => H = H' ∧ env 0 = u0 ∧ env 1 = .fn g caps ∧ env 7 = .int .i64 l.length ∧ env 8 = .int .i64 k ∧ ∀ j, (h : j < l.length) → j < k → ¬ p l[j]) (by omega) (by decide) (by decide) ?_ ?_ ?_ ?_
  · rintro k env H' ⟨_, _, _, h7, h8, _⟩; exact ⟨h8, h7⟩
  · simp only [go_sem, ↓reduceIte, Nat.reduceEqDiff, Nat.reduceAdd, reduceCtorEq]
    exact ⟨by trivial, by trivial, by trivial, by trivial, rfl, fun j h h' => by omega⟩
  · rintro k env H' hk ⟨rfl, h0, h1, h7, h8, hz⟩
    obtain ⟨pp, q0, q1, q2, c1, c2, _⟩ := hv.get hk .i64
    simp only [go_sem, ↓reduceIte, Nat.reduceEqDiff, Nat.reduceAdd, reduceCtorEq, h0, h1, h7, h8, c1, c2]
    refine callC_any (hg _ (List.getElem_mem hk)) ?_
    rintro u H' ⟨⟨b, rfl, hb⟩, rfl⟩
    simp only [go_sem, ↓reduceIte, Nat.reduceEqDiff, Nat.reduceAdd, reduceCtorEq]
    refine iteC_b (fun d => ?_) (fun d => ?_)
    · simp only [go_sem, ↓reduceIte, Nat.reduceEqDiff, Nat.reduceAdd, reduceCtorEq]
      exact finO_self ⟨.inr ⟨k, hk, rfl, hb.1 d, fun j hj => hz j (by omega) hj⟩, rfl⟩
    · simp only [go_sem, ↓reduceIte, Nat.reduceEqDiff, Nat.reduceAdd, reduceCtorEq, h0, h1, h7, h8]
      refine ⟨by trivial, by trivial, by trivial, by trivial, by trivial, by trivial, fun j h hj => ?_⟩
      rcases Nat.lt_succ_iff_lt_or_eq.1 hj with hj | rfl
      · exact hz j h hj
      · exact fun e => by rw [hb.2 e] at d; cases d
  · rintro env H' ⟨rfl, h0, h1, h7, h8, hz⟩
    simp only [go_sem, ↓reduceIte, Nat.reduceEqDiff, Nat.reduceAdd, reduceCtorEq]
    refine finO_self ⟨.inl ⟨rfl, fun e he => ?_⟩, rfl⟩
    obtain ⟨j, hj, rfl⟩ := List.getElem_of_mem he
    exact hz j hj hj

theorem accC_spec {e : Ed} {a : Int} {n : Nat} {own : Bool} {H : Heap} (hb : H n = some ⟨own, 1, [.int .i64 a]⟩) : ACalls Try.prog 61 [.agg e.cells, .ptr n 0] H fun u H' => (∃ b, u = .bool b ∧ (b = true ↔ e.lb = a)) ∧ H' = H := by
  refine ACalls.of_body hm cv61 (by simp only [List.length_cons, List.length_nil]; decide) ?_
  simp only [F61, go_sem, ↓reduceIte, Nat.reduceEqDiff, Nat.reduceAdd, reduceCtorEq]
  refine newC_intro fun n1 H1 hn1 hs1 hb1 => ?_
  simp only [Ed.cells, go_sem, ↓reduceIte, Nat.reduceEqDiff, Nat.reduceAdd, reduceCtorEq] at hb1
  simp only [go_sem, ↓reduceIte, Nat.reduceEqDiff, Nat.reduceAdd, reduceCtorEq, ld_box hb1, ld_box (hs1 _ _ hb)]
  exact finO_sub hs1 ⟨⟨_, rfl, by simp⟩, rfl⟩
end Go.AM

/- slices.siftDownCmpFunc, heapSortCmpFunc. Conditions: as stated. -/
set_option linter.unusedVariables false
set_option linter.unusedSimpArgs false
namespace Go.AM
open Go Go.Proofs
attribute [local go_sem] c_skip c_ops c_seq c_ite c_blk c_exit c_ret t_normal t_exit t_ret b_normal b_exit b_ret i_nil i_cons s_guard s_mov s_pick s_new s_zero s_ld s_ldr s_st s_bin s_beq s_isnil s_eqs s_un s_conv s_fa s_fld s_ia s_sli s_ext s_ifc s_mkf s_agg s_len s_mm s_nilchk s_bsl s_mk s_app s_cpy s_call s_inv cells_agg cells_int cells_bool p_get p_none o_s o_c e_0 e_1 e_2 e_3 e_4 iteC_true iteC_false grd_tt grd_tf grd_ft grd_ff grd_und bindV_some pickV_t pickV_f beq_bool conv_int un_not not_dec mm_min mm_max bv_add bv_sub bv_mul bv_eql bv_neq bv_lss bv_leq bv_gtr bv_geq f_normal f_one f_two f_three f_none fa_ptr fld_one ext_tup len_sl len_nils decide_true decide_false not_true_eq_false not_false_eq_true List.map_cons List.map_nil List.append_nil List.cons_append List.nil_append Nat.zero_add Nat.add_zero Nat.mul_one Nat.succ_ne_self if_true if_false List.getElem?_cons_zero List.getElem?_cons_succ

/-- slices.siftDownCmpFunc[int], of elements of any size -/
def sdC (k : Nat) (ag : Bool) : AF := ⟨82, [], (.seq (.ops [⟨none, false, (some 12), (.mov (.s 1))⟩, ⟨none, false, (some 10), (.mov (.s 12))⟩]) (.blk 0 (.loop (.blk 1 (.seq (.ops [⟨none, false, (some 13), (.mov (.s 10))⟩, ⟨none, false, (some 14), (.bin .mul (.c (.int .i64 (2))) (.s 13))⟩, ⟨none, false, (some 15), (.bin .add (.s 14) (.c (.int .i64 (1))))⟩, ⟨none, false, (some 11), (.mov (.s 15))⟩]) (.seq (.seq (.ops [⟨none, false, (some 16), (.mov (.s 11))⟩, ⟨none, false, (some 17), (.mov (.s 2))⟩, ⟨none, false, (some 18), (.bin .geq (.s 16) (.s 17))⟩]) (.ite (.s 18) (.exit 0) .skip)) (.seq (.seq (.ops [⟨none, false, (some 19), (.mov (.s 11))⟩, ⟨none, false, (some 20), (.bin .add (.s 19) (.c (.int .i64 (1))))⟩, ⟨none, false, (some 21), (.mov (.s 2))⟩, ⟨none, false, (some 22), (.bin .lss (.s 20) (.s 21))⟩, ⟨none, false, (some 23), (.mov (.s 22))⟩, ⟨(some (23, true)), false, (some 24), (.mov (.s 4))⟩, ⟨(some (23, true)), false, (some 25), (.mov (.s 0))⟩, ⟨(some (23, true)), false, (some 26), (.mov (.s 3))⟩, ⟨(some (23, true)), false, (some 27), (.mov (.s 11))⟩, ⟨(some (23, true)), false, (some 28), (.bin .add (.s 26) (.s 27))⟩, ⟨(some (23, true)), false, (some 29), (.ia k (.s 25) (.s 28))⟩, ⟨(some (23, true)), false, (some 31), (.mov (.s 0))⟩, ⟨(some (23, true)), false, (some 32), (.mov (.s 3))⟩, ⟨(some (23, true)), false, (some 33), (.mov (.s 11))⟩, ⟨(some (23, true)), false, (some 34), (.bin .add (.s 32) (.s 33))⟩, ⟨(some (23, true)), false, (some 35), (.bin .add (.s 34) (.c (.int .i64 (1))))⟩, ⟨(some (23, true)), false, (some 36), (.ia k (.s 31) (.s 35))⟩, ⟨(some (23, true)), false, (some 30), (.ld ag k (.s 29) none)⟩, ⟨(some (23, true)), false, (some 37), (.ld ag k (.s 36) none)⟩, ⟨(some (23, true)), false, (some 38), (.call (.s 24) [(.s 30), (.s 37)])⟩, ⟨(some (23, true)), false, (some 39), (.bin .lss (.s 38) (.c (.int .i64 (0))))⟩, ⟨none, false, (some 40), (.pick (.s 23) (.s 39) (.c (.bool false)))⟩]) (.ite (.s 40) (.ops [⟨none, false, (some 41), (.mov (.s 11))⟩, ⟨none, false, (some 42), (.bin .add (.s 41) (.c (.int .i64 (1))))⟩, ⟨none, false, (some 11), (.mov (.s 42))⟩]) .skip)) (.seq (.seq (.ops [⟨none, false, (some 43), (.mov (.s 4))⟩, ⟨none, false, (some 44), (.mov (.s 0))⟩, ⟨none, false, (some 45), (.mov (.s 3))⟩, ⟨none, false, (some 46), (.mov (.s 10))⟩, ⟨none, false, (some 47), (.bin .add (.s 45) (.s 46))⟩, ⟨none, false, (some 48), (.ia k (.s 44) (.s 47))⟩, ⟨none, false, (some 50), (.mov (.s 0))⟩, ⟨none, false, (some 51), (.mov (.s 3))⟩, ⟨none, false, (some 52), (.mov (.s 11))⟩, ⟨none, false, (some 53), (.bin .add (.s 51) (.s 52))⟩, ⟨none, false, (some 54), (.ia k (.s 50) (.s 53))⟩, ⟨none, false, (some 49), (.ld ag k (.s 48) none)⟩, ⟨none, false, (some 55), (.ld ag k (.s 54) none)⟩, ⟨none, false, (some 56), (.call (.s 43) [(.s 49), (.s 55)])⟩, ⟨none, false, (some 57), (.bin .lss (.s 56) (.c (.int .i64 (0))))⟩, ⟨none, false, (some 58), (.un .not (.s 57))⟩]) (.ite (.s 58) .ret .skip)) (.seq (.ops [⟨none, false, (some 59), (.mov (.s 0))⟩, ⟨none, false, (some 60), (.mov (.s 3))⟩, ⟨none, false, (some 61), (.mov (.s 10))⟩, ⟨none, false, (some 62), (.bin .add (.s 60) (.s 61))⟩, ⟨none, false, (some 63), (.mov (.s 0))⟩, ⟨none, false, (some 64), (.mov (.s 3))⟩, ⟨none, false, (some 65), (.mov (.s 11))⟩, ⟨none, false, (some 66), (.bin .add (.s 64) (.s 65))⟩, ⟨none, false, (some 67), (.mov (.s 0))⟩, ⟨none, false, (some 68), (.mov (.s 3))⟩, ⟨none, false, (some 69), (.mov (.s 11))⟩, ⟨none, false, (some 70), (.bin .add (.s 68) (.s 69))⟩, ⟨none, false, (some 71), (.ia k (.s 67) (.s 70))⟩, ⟨none, false, (some 73), (.mov (.s 0))⟩, ⟨none, false, (some 74), (.mov (.s 3))⟩, ⟨none, false, (some 75), (.mov (.s 10))⟩, ⟨none, false, (some 76), (.bin .add (.s 74) (.s 75))⟩, ⟨none, false, (some 77), (.ia k (.s 73) (.s 76))⟩, ⟨none, false, (some 72), (.ld ag k (.s 71) none)⟩, ⟨none, false, (some 78), (.ld ag k (.s 77) none)⟩, ⟨none, false, (some 79), (.ia k (.s 59) (.s 62))⟩, ⟨none, false, none, (.st k (.s 79) (.s 72) [])⟩, ⟨none, false, (some 80), (.ia k (.s 63) (.s 66))⟩, ⟨none, false, none, (.st k (.s 80) (.s 78) [])⟩]) (.ops [⟨none, false, (some 81), (.mov (.s 11))⟩, ⟨none, false, (some 10), (.mov (.s 81))⟩]))))))))))⟩
/-- slices.heapSortCmpFunc[int], of elements of any size -/
def hsC (k : Nat) (ag : Bool) (siftDown : Nat) : AF := ⟨60, [], (.seq (.ops [⟨none, false, (some 13), (.mov (.s 1))⟩, ⟨none, false, (some 8), (.mov (.s 13))⟩]) (.seq (.ops [⟨none, false, (some 9), (.mov (.c (.int .i64 (0))))⟩]) (.seq (.ops [⟨none, false, (some 14), (.mov (.s 2))⟩, ⟨none, false, (some 15), (.mov (.s 1))⟩, ⟨none, false, (some 16), (.bin .sub (.s 14) (.s 15))⟩, ⟨none, false, (some 10), (.mov (.s 16))⟩]) (.seq (.seq (.ops [⟨none, false, (some 17), (.mov (.s 10))⟩, ⟨none, false, (some 18), (.bin .sub (.s 17) (.c (.int .i64 (1))))⟩, ⟨none, false, (some 19), (.bin .quo (.s 18) (.c (.int .i64 (2))))⟩, ⟨none, false, (some 11), (.mov (.s 19))⟩]) (.blk 0 (.loop (.seq (.seq (.ops [⟨none, false, (some 20), (.mov (.s 11))⟩, ⟨none, false, (some 21), (.bin .geq (.s 20) (.c (.int .i64 (0))))⟩]) (.ite (.s 21) .skip (.exit 0))) (.seq (.blk 1 (.ops [⟨none, false, (some 24), (.mov (.s 0))⟩, ⟨none, false, (some 25), (.mov (.s 11))⟩, ⟨none, false, (some 26), (.mov (.s 10))⟩, ⟨none, false, (some 27), (.mov (.s 8))⟩, ⟨none, false, (some 28), (.mov (.s 3))⟩, ⟨none, false, (some 29), (.call (.c (.fn siftDown [])) [(.s 24), (.s 25), (.s 26), (.s 27), (.s 28)])⟩])) (.ops [⟨none, false, (some 22), (.mov (.s 11))⟩, ⟨none, false, (some 23), (.bin .sub (.s 22) (.c (.int .i64 (1))))⟩, ⟨none, false, (some 11), (.mov (.s 23))⟩])))))) (.seq (.ops [⟨none, false, (some 30), (.mov (.s 10))⟩, ⟨none, false, (some 31), (.bin .sub (.s 30) (.c (.int .i64 (1))))⟩, ⟨none, false, (some 12), (.mov (.s 31))⟩]) (.blk 2 (.loop (.seq (.seq (.ops [⟨none, false, (some 32), (.mov (.s 12))⟩, ⟨none, false, (some 33), (.bin .geq (.s 32) (.c (.int .i64 (0))))⟩]) (.ite (.s 33) .skip (.exit 2))) (.seq (.blk 3 (.seq (.ops [⟨none, false, (some 36), (.mov (.s 0))⟩, ⟨none, false, (some 37), (.mov (.s 8))⟩, ⟨none, false, (some 38), (.mov (.s 0))⟩, ⟨none, false, (some 39), (.mov (.s 8))⟩, ⟨none, false, (some 40), (.mov (.s 12))⟩, ⟨none, false, (some 41), (.bin .add (.s 39) (.s 40))⟩, ⟨none, false, (some 42), (.mov (.s 0))⟩, ⟨none, false, (some 43), (.mov (.s 8))⟩, ⟨none, false, (some 44), (.mov (.s 12))⟩, ⟨none, false, (some 45), (.bin .add (.s 43) (.s 44))⟩, ⟨none, false, (some 46), (.ia k (.s 42) (.s 45))⟩, ⟨none, false, (some 48), (.mov (.s 0))⟩, ⟨none, false, (some 49), (.mov (.s 8))⟩, ⟨none, false, (some 50), (.ia k (.s 48) (.s 49))⟩, ⟨none, false, (some 47), (.ld ag k (.s 46) none)⟩, ⟨none, false, (some 51), (.ld ag k (.s 50) none)⟩, ⟨none, false, (some 52), (.ia k (.s 36) (.s 37))⟩, ⟨none, false, none, (.st k (.s 52) (.s 47) [])⟩, ⟨none, false, (some 53), (.ia k (.s 38) (.s 41))⟩, ⟨none, false, none, (.st k (.s 53) (.s 51) [])⟩]) (.ops [⟨none, false, (some 54), (.mov (.s 0))⟩, ⟨none, false, (some 55), (.mov (.s 9))⟩, ⟨none, false, (some 56), (.mov (.s 12))⟩, ⟨none, false, (some 57), (.mov (.s 8))⟩, ⟨none, false, (some 58), (.mov (.s 3))⟩, ⟨none, false, (some 59), (.call (.c (.fn siftDown [])) [(.s 54), (.s 55), (.s 56), (.s 57), (.s 58)])⟩]))) (.ops [⟨none, false, (some 34), (.mov (.s 12))⟩, ⟨none, false, (some 35), (.bin .sub (.s 34) (.c (.int .i64 (1))))⟩, ⟨none, false, (some 12), (.mov (.s 35))⟩]))))))))))⟩

def Child (p c : Nat) : Prop := c = 2 * p + 1 ∨ c = 2 * p + 2
section
variable {α : Type} [Inhabited α]
/-- no child is greater than its parent, of the parents from lo on but x -/
def HeapX (cf : α → α → Int) (ys : List α) (first lo hi x : Nat) : Prop := ∀ p c, lo ≤ p → Child p c → c < hi → p ≠ x → ¬ cf (el ys (first + p)) (el ys (first + c)) < 0
def HeapP (cf : α → α → Int) (ys : List α) (first lo hi : Nat) : Prop := ∀ p c, lo ≤ p → Child p c → c < hi → ¬ cf (el ys (first + p)) (el ys (first + c)) < 0
def HeapG (cf : α → α → Int) (ys : List α) (first lo hi r : Nat) : Prop := ∀ p c, lo ≤ p → Child p r → Child r c → c < hi → ¬ cf (el ys (first + p)) (el ys (first + c)) < 0
theorem heap_step {cf : α → α → Int} (s : Swo cf) {ys : List α} {first lo hi r m : Nat} (hX : HeapX cf ys first lo hi r) (hG : HeapG cf ys first lo hi r) (hr : lo ≤ r) (hrm : Child r m) (hm : m < hi) (hb : first + hi ≤ ys.length)
    (hbig : ∀ c, Child r c → c < hi → ¬ cf (el ys (first + m)) (el ys (first + c)) < 0) (hlt : cf (el ys (first + r)) (el ys (first + m)) < 0) :
    HeapX cf (swapL ys (first + r) (first + m)) first lo hi m ∧ HeapG cf (swapL ys (first + r) (first + m)) first lo hi m := by
  have hrm' : r < m := by unfold Child at hrm; omega
  have e := fun i => el_swap (xs := ys) (i := first + r) (j := first + m) (by omega) (by omega) (first + i)
  have er : el (swapL ys (first + r) (first + m)) (first + r) = el ys (first + m) := by rw [e, if_neg (by omega), if_pos rfl]
  have em : el (swapL ys (first + r) (first + m)) (first + m) = el ys (first + r) := by rw [e, if_pos rfl]
  have eo : ∀ i, i ≠ r → i ≠ m → el (swapL ys (first + r) (first + m)) (first + i) = el ys (first + i) := fun i h1 h2 => by rw [e, if_neg (by omega), if_neg (by omega)]
  refine ⟨fun p c hp hc hci hpm => ?_, fun p c hp hpm hmc hci => ?_⟩
  · have hpc : p < c := by unfold Child at hc; omega
    by_cases h1 : p = r
    · subst h1
      rw [er]
      by_cases h2 : c = m
      · rw [h2, em]; exact s.asym hlt
      · rw [eo c (by omega) h2]; exact hbig c hc hci
    · rw [eo p h1 hpm]
      by_cases h2 : c = r
      · subst h2
        rw [er]; exact hG p m hp hc hrm hm
      · have h3 : c ≠ m := by
          rintro rfl
          unfold Child at hc hrm; omega
        rw [eo c h2 h3]; exact hX p c hp hc hci h1
  · have : p = r := by unfold Child at hpm hrm; omega
    subst this
    have hmc' : m < c := by unfold Child at hmc; omega
    rw [er, eo c (by omega) (by omega)]
    exact hX m c (by omega) hmc hci (by omega)
theorem heap_done {cf : α → α → Int} (s : Swo cf) {ys : List α} {first lo hi r : Nat} (hX : HeapX cf ys first lo hi r) (h : ∀ c, Child r c → c < hi → ¬ cf (el ys (first + r)) (el ys (first + c)) < 0) : HeapP cf ys first lo hi := by
  intro p c hp hc hci
  by_cases e : p = r
  · subst e; exact h c hc hci
  · exact hX p c hp hc hci e
/-- the root is a greatest one -/
theorem heap_top {cf : α → α → Int} (s : Swo cf) {ys : List α} {first hi : Nat} (h : HeapP cf ys first 0 hi) : ∀ i, i < hi → ¬ cf (el ys (first + 0)) (el ys (first + i)) < 0 := by
  intro i
  induction i using Nat.strongRecOn with
  | _ i ih =>
    intro hi'
    rcases Nat.eq_zero_or_pos i with h0 | h0
    · subst h0; exact s.irr _
    · have hc : Child ((i - 1) / 2) i := by unfold Child; omega
      exact s.ntrans (ih ((i-1)/2) (by omega) (by omega)) (h _ _ (Nat.zero_le _) hc hi')

variable {k : Nat} {ag : Bool} {E : Elem α k ag} {G H : Heap} {g : FuncId} {caps : List V} {cf : α → α → Int} {Pr : α → Prop}

theorem siftDown_spec {f N n lo hi first : Nat} {fl : Bool} {xs : List α} (C : Cmp E G g caps cf Pr) (hcv : cvF Try.prog f = some (sdC k ag)) (hG : Heap.sub G H) (hN : G N = none) (hP : ∀ x ∈ xs, Pr x) (hn : xs.length = n) (hn2 : n ≤ 1099511627776) (hlo2 : lo ≤ n) (hb : first + hi ≤ n) (hX : HeapX cf xs first lo hi lo) :
    ACalls Try.prog f [.sl N 0 n fl, .int .i64 lo, .int .i64 hi, .int .i64 first, .fn g caps] (E.put H N xs) fun u H' => ∃ ys, H' = E.put H N ys ∧ PermIn first (first + hi) xs ys ∧ HeapP cf ys first lo hi := by
  refine ACalls.of_body hm hcv (by simp [sdC]) ?_
  simp only [sdC, go_sem, ↓reduceIte, Nat.reduceEqDiff, Nat.reduceAdd, reduceCtorEq]
  by_cases hlo : hi ≤ lo
  · refine loop_count 1 (fun t env H' => t = 0 ∧ env 2 = .int .i64 hi ∧ env 10 = .int .i64 lo ∧ H' = E.put H N xs) ?_ ?_ ?_
    · simp only [go_sem, ↓reduceIte, Nat.reduceEqDiff, Nat.reduceAdd, reduceCtorEq]
      exact ⟨by trivial, by trivial, by trivial, by trivial⟩
    · rintro t env H' ht ⟨rfl, h2, h10, rfl⟩
      have w1 : IntKind.i64.wrap ((2 : Int) * (lo : Int)) = ((2 * lo : Nat) : Int) := by rw [wrapI (by omega) (by omega)]; omega
      have w2 : IntKind.i64.wrap (((2 * lo : Nat) : Int) + 1) = ((2 * lo + 1 : Nat) : Int) := wrapN1 (by omega)
      have c : (hi : Int) ≤ ((2 * lo + 1 : Nat) : Int) := by omega
      simp only [go_sem, ↓reduceIte, Nat.reduceEqDiff, Nat.reduceAdd, reduceCtorEq, h2, h10, w1, w2, c]
      exact finO_self ⟨xs, rfl, .refl _, fun p c hp hc hci => by unfold Child at hc; omega⟩
    · rintro env H' ⟨h, _⟩
      cases h
  refine loop_count hi (fun t env H' => env 0 = .sl N 0 n fl ∧ env 2 = .int .i64 hi ∧ env 3 = .int .i64 first ∧ env 4 = .fn g caps ∧ ∃ r ys, env 10 = .int .i64 ((r : Nat) : Int) ∧ lo ≤ r ∧ lo + t ≤ r ∧ r < hi ∧ H' = E.put H N ys ∧ PermIn first (first + hi) xs ys ∧ HeapX cf ys first lo hi r ∧ HeapG cf ys first lo hi r) ?_ ?_ ?_
  · simp only [go_sem, ↓reduceIte, Nat.reduceEqDiff, Nat.reduceAdd, reduceCtorEq]
    exact ⟨by trivial, by trivial, by trivial, by trivial, lo, xs, rfl, Nat.le_refl _, by omega, by omega, rfl, .refl _, hX, fun p c hp hpr _ _ => by unfold Child at hpr; omega⟩
  · rintro t env H' ht ⟨h0, h2, h3, h4, r, ys, h10, hr, htr, hrh, rfl, hp, hXr, hGr⟩
    have hl := hp.length
    have w1 : IntKind.i64.wrap ((2 : Int) * (r : Int)) = ((2 * r : Nat) : Int) := by rw [wrapI (by omega) (by omega)]; omega
    have w2 : IntKind.i64.wrap (((2 * r : Nat) : Int) + 1) = ((2 * r + 1 : Nat) : Int) := wrapN1 (by omega)
    simp only [go_sem, ↓reduceIte, Nat.reduceEqDiff, Nat.reduceAdd, reduceCtorEq, h0, h2, h3, h4, h10, w1, w2]
    refine iteC_if (fun c => ?_) (fun c => ?_)
    · simp only [go_sem, ↓reduceIte, Nat.reduceEqDiff, Nat.reduceAdd, reduceCtorEq]
      exact finO_self ⟨ys, rfl, hp, heap_done C.swo hXr fun c hc hci => by unfold Child at hc; omega⟩
    · have hc1 : 2 * r + 1 < hi := by omega
      have w3 : IntKind.i64.wrap (((2 * r + 1 : Nat) : Int) + 1) = ((2 * r + 1 + 1 : Nat) : Int) := wrapN1 (by omega)
      have w4 : IntKind.i64.wrap ((first : Int) + ((2 * r + 1 : Nat) : Int)) = ((first + (2 * r + 1) : Nat) : Int) := by rw [wrapI (by omega) (by omega)]; omega
      have w5 : IntKind.i64.wrap (((first + (2 * r + 1) : Nat) : Int) + 1) = ((first + (2 * r + 1) + 1 : Nat) : Int) := wrapN1 (by omega)
      have w6 : IntKind.i64.wrap ((first : Int) + (r : Int)) = ((first + r : Nat) : Int) := by rw [wrapI (by omega) (by omega)]; omega
      have hsub := E.put_sub ys hG hN
      have hr0 := E.read (E.put_at H N ys) (i := first + r) (by omega)
      have hr1 := E.read (E.put_at H N ys) (i := first + (2 * r + 1)) (by omega)
      by_cases hc2 : ((2 * r + 1 + 1 : Nat) : Int) < hi
      · have hr2 := E.read (E.put_at H N ys) (i := first + (2 * r + 1) + 1) (by omega)
        simp only [go_sem, ↓reduceIte, Nat.reduceEqDiff, Nat.reduceAdd, reduceCtorEq, h0, h2, h3, h4, h10, w3, hc2, w4, w5, ia_el (show first + (2 * r + 1) < n by omega), ia_el (show first + (2 * r + 1) + 1 < n by omega), hr1, hr2]
        refine callC_pure (C.at (hp.pr hP) hsub (i := first + (2 * r + 1)) (j := first + (2 * r + 1) + 1) (by omega) (by omega)) ?_
        simp only [go_sem, ↓reduceIte, Nat.reduceEqDiff, Nat.reduceAdd, reduceCtorEq]
        refine iteC_join (fun env' H' => H' = E.put H N ys ∧ env' 0 = .sl N 0 n fl ∧ env' 2 = .int .i64 hi ∧ env' 3 = .int .i64 first ∧ env' 4 = .fn g caps ∧ env' 10 = .int .i64 (r : Int) ∧ ∃ m : Nat, env' 11 = .int .i64 (m : Int) ∧ Child r m ∧ m < hi ∧ ∀ c, Child r c → c < hi → ¬ cf (el ys (first + m)) (el ys (first + c)) < 0) (fun d => ?_) (fun d => ?_) ?_
        · simp only [go_sem, ↓reduceIte, Nat.reduceEqDiff, Nat.reduceAdd, reduceCtorEq, h0, h2, h3, h4, h10, w3]
          refine ⟨by trivial, by trivial, by trivial, by trivial, by trivial, by trivial, 2 * r + 1 + 1, by first | rfl | trivial, .inr rfl, by omega, fun c hc hci => ?_⟩
          rcases hc with rfl | rfl
          · exact C.swo.asym d
          · exact C.swo.irr _
        · simp only [go_sem, ↓reduceIte, Nat.reduceEqDiff, Nat.reduceAdd, reduceCtorEq, h0, h2, h3, h4, h10]
          refine ⟨by trivial, by trivial, by trivial, by trivial, by trivial, by trivial, 2 * r + 1, by first | rfl | trivial, .inl rfl, by omega, fun c hc hci => ?_⟩
          rcases hc with rfl | rfl
          · exact C.swo.irr _
          · exact d
        rintro env' H' ⟨rfl, h0, h2, h3, h4, h10, m, h11, hcm, hmh, hbig⟩
        have w7 : IntKind.i64.wrap ((first : Int) + ((m : Nat) : Int)) = ((first + m : Nat) : Int) := by rw [wrapI (by omega) (by omega)]; omega
        have hrm := E.read (E.put_at H N ys) (i := first + m) (by omega)
        have hrm' : r < m := by unfold Child at hcm; omega
        simp only [go_sem, ↓reduceIte, Nat.reduceEqDiff, Nat.reduceAdd, reduceCtorEq, h0, h2, h3, h4, h10, h11, w6, w7, ia_el (show first + r < n by omega), ia_el (show first + m < n by omega), hr0, hrm]
        refine callC_pure (C.at (hp.pr hP) hsub (i := first + r) (j := first + m) (by omega) (by omega)) ?_
        by_cases hlt : cf (el ys (first + r)) (el ys (first + m)) < 0
        · simp only [go_sem, ↓reduceIte, Nat.reduceEqDiff, Nat.reduceAdd, reduceCtorEq, hlt, Bool.not_true, h0, h2, h3, h4, h10, h11, w6, w7, ia_el (show first + r < n by omega), ia_el (show first + m < n by omega), hr0, hrm]
          refine E.st (i := first + r) (xs := ys) (by omega) ?_
          simp only [go_sem, ↓reduceIte, Nat.reduceEqDiff, Nat.reduceAdd, reduceCtorEq, ia_el (show first + m < n by omega)]
          refine E.st (i := first + m) (xs := ys.set (first + r) ys[first + m]) (by rw [List.length_set]; omega) ?_
          simp only [go_sem, ↓reduceIte, Nat.reduceEqDiff, Nat.reduceAdd, reduceCtorEq, h0, h2, h3, h4, h10, h11]
          rw [show (ys.set (first + r) ys[first + m]).set (first + m) ys[first + r] = swapL ys (first + r) (first + m) from (swapL_eq (by omega) (by omega)).symm]
          obtain ⟨hX', hG'⟩ := heap_step C.swo hXr hGr hr hcm hmh (by omega) hbig hlt
          exact ⟨by trivial, by trivial, by trivial, by trivial, m, _, by first | rfl | trivial, by omega, by omega, hmh, rfl, hp.trans (.one _ _ (by omega) (by omega) (by omega) (by omega) (by omega) (by omega)), hX', hG'⟩
        · simp only [go_sem, ↓reduceIte, Nat.reduceEqDiff, Nat.reduceAdd, reduceCtorEq, hlt, Bool.not_false]
          exact finO_self ⟨ys, rfl, hp, heap_done C.swo hXr fun c hc hci => C.swo.ntrans hlt (hbig c hc hci)⟩
      · have hcm : Child r (2 * r + 1) := .inl rfl
        have hmh : 2 * r + 1 < hi := hc1
        have hbig : ∀ c, Child r c → c < hi → ¬ cf (el ys (first + (2 * r + 1))) (el ys (first + c)) < 0 := fun c hc hci => by
          rcases hc with rfl | rfl
          · exact C.swo.irr _
          · omega
        simp only [go_sem, ↓reduceIte, Nat.reduceEqDiff, Nat.reduceAdd, reduceCtorEq, h0, h2, h3, h4, h10, w3, hc2]
        have w7 : IntKind.i64.wrap ((first : Int) + (((2 * r + 1) : Nat) : Int)) = ((first + (2 * r + 1) : Nat) : Int) := by rw [wrapI (by omega) (by omega)]; omega
        have hrm := E.read (E.put_at H N ys) (i := first + (2 * r + 1)) (by omega)
        have hrm' : r < (2 * r + 1) := by unfold Child at hcm; omega
        simp only [go_sem, ↓reduceIte, Nat.reduceEqDiff, Nat.reduceAdd, reduceCtorEq, h0, h2, h3, h4, h10, w6, w7, ia_el (show first + r < n by omega), ia_el (show first + (2 * r + 1) < n by omega), hr0, hrm]
        refine callC_pure (C.at (hp.pr hP) hsub (i := first + r) (j := first + (2 * r + 1)) (by omega) (by omega)) ?_
        by_cases hlt : cf (el ys (first + r)) (el ys (first + (2 * r + 1))) < 0
        · simp only [go_sem, ↓reduceIte, Nat.reduceEqDiff, Nat.reduceAdd, reduceCtorEq, hlt, Bool.not_true, h0, h2, h3, h4, h10, w6, w7, ia_el (show first + r < n by omega), ia_el (show first + (2 * r + 1) < n by omega), hr0, hrm]
          refine E.st (i := first + r) (xs := ys) (by omega) ?_
          simp only [go_sem, ↓reduceIte, Nat.reduceEqDiff, Nat.reduceAdd, reduceCtorEq, ia_el (show first + (2 * r + 1) < n by omega)]
          refine E.st (i := first + (2 * r + 1)) (xs := ys.set (first + r) ys[first + (2 * r + 1)]) (by rw [List.length_set]; omega) ?_
          simp only [go_sem, ↓reduceIte, Nat.reduceEqDiff, Nat.reduceAdd, reduceCtorEq, h0, h2, h3, h4, h10]
          rw [show (ys.set (first + r) ys[first + (2 * r + 1)]).set (first + (2 * r + 1)) ys[first + r] = swapL ys (first + r) (first + (2 * r + 1)) from (swapL_eq (by omega) (by omega)).symm]
          obtain ⟨hX', hG'⟩ := heap_step C.swo hXr hGr hr hcm hmh (by omega) hbig hlt
          exact ⟨by trivial, by trivial, by trivial, by trivial, (2 * r + 1), _, by first | rfl | trivial, by omega, by omega, hmh, rfl, hp.trans (.one _ _ (by omega) (by omega) (by omega) (by omega) (by omega) (by omega)), hX', hG'⟩
        · simp only [go_sem, ↓reduceIte, Nat.reduceEqDiff, Nat.reduceAdd, reduceCtorEq, hlt, Bool.not_false]
          exact finO_self ⟨ys, rfl, hp, heap_done C.swo hXr fun c hc hci => C.swo.ntrans hlt (hbig c hc hci)⟩
  · rintro env H' ⟨h0, h2, h3, h4, r, ys, h10, hr, htr, hrh, rfl, hp, hXr, hGr⟩
    omega

theorem bv_quoI2 {a : Int} (h : 0 ≤ a) (h1 : a < 9223372036854775808) : binV .quo (.int .i64 a) (.int .i64 2) = some (.int .i64 (a / 2)) := by
  have : a.tdiv 2 = a / 2 := Int.tdiv_eq_ediv_of_nonneg h
  have w : IntKind.i64.wrap (a / 2) = a / 2 := wrapI (by omega) (by omega)
  simp [binV, this, w]

theorem heapSort_spec {f sd N n a b : Nat} {fl : Bool} {xs : List α} (C : Cmp E G g caps cf Pr) (hcv : cvF Try.prog f = some (hsC k ag sd)) (hsd : cvF Try.prog sd = some (sdC k ag)) (hG : Heap.sub G H) (hN : G N = none) (hP : ∀ x ∈ xs, Pr x) (hn : xs.length = n) (hn2 : n ≤ 1099511627776) (hab : a < b) (hb : b ≤ n) :
    ACalls Try.prog f [.sl N 0 n fl, .int .i64 a, .int .i64 b, .fn g caps] (E.put H N xs) fun u H' => ∃ ys, H' = E.put H N ys ∧ PermIn a b xs ys ∧ SortedAB cf a b ys := by
  refine ACalls.of_body hm hcv (by simp [hsC]) ?_
  obtain ⟨hi, hhi⟩ : ∃ hi, b = a + (hi + 1) := ⟨b - a - 1, by omega⟩
  have w1 : IntKind.i64.wrap ((b : Int) - a) = ((hi + 1 : Nat) : Int) := by rw [wrapI (by omega) (by omega)]; omega
  have w2 : IntKind.i64.wrap (((hi + 1 : Nat) : Int) - 1) = (hi : Int) := by rw [wrapI (by omega) (by omega)]; omega
  obtain ⟨m0, hm0⟩ : ∃ m0 : Nat, m0 = hi / 2 := ⟨_, rfl⟩
  have e0 : (hi : Int) / 2 = (m0 : Int) := by omega
  simp only [hsC, go_sem, ↓reduceIte, Nat.reduceEqDiff, Nat.reduceAdd, reduceCtorEq, w1, w2, bv_quoI2 (show (0 : Int) ≤ hi by omega) (by omega), e0]
  refine blk_join (fun env H' => env 0 = .sl N 0 n fl ∧ env 3 = .fn g caps ∧ env 8 = .int .i64 a ∧ env 9 = .int .i64 0 ∧ env 10 = .int .i64 ((hi + 1 : Nat) : Int) ∧ ∃ ys, H' = E.put H N ys ∧ PermIn a b xs ys ∧ HeapP cf ys a 0 (hi + 1)) ?_ ?_
  · refine loop_count (m0 + 1) (fun t env H' => env 0 = .sl N 0 n fl ∧ env 3 = .fn g caps ∧ env 8 = .int .i64 a ∧ env 9 = .int .i64 0 ∧ env 10 = .int .i64 ((hi + 1 : Nat) : Int) ∧ env 11 = .int .i64 ((m0 : Int) - t) ∧ ∃ ys, H' = E.put H N ys ∧ PermIn a b xs ys ∧ HeapP cf ys a (m0 + 1 - t) (hi + 1)) ?_ ?_ ?_
    · simp only [go_sem, ↓reduceIte, Nat.reduceEqDiff, Nat.reduceAdd, reduceCtorEq]
      exact ⟨by trivial, by trivial, by trivial, by trivial, by trivial, by simp, xs, rfl, .refl _, fun p c hp hc hci => by unfold Child at hc; omega⟩
    · rintro t env H' ht ⟨h0, h3, h8, h9, h10, h11, ys, rfl, hp, hh⟩
      obtain ⟨i, hi'⟩ : ∃ i, m0 = i + t := ⟨m0 - t, by omega⟩
      have e1 : (m0 : Int) - t = (i : Int) := by omega
      have e2 : m0 + 1 - t = i + 1 := by omega
      have e3 : m0 + 1 - (t + 1) = i := by omega
      rw [e1] at h11
      rw [e2] at hh
      have hl := hp.length
      have hge : (0 : Int) ≤ (i : Int) := by omega
      simp only [go_sem, ↓reduceIte, Nat.reduceEqDiff, Nat.reduceAdd, reduceCtorEq, h0, h3, h8, h9, h10, h11, hge]
      refine callC_any (siftDown_spec (first := a) (lo := i) (hi := hi + 1) C hsd hG hN (hp.pr hP) (by omega) hn2 (by omega) (by omega) fun p c hpl hc hci hpx => hh p c (by omega) hc hci) ?_
      rintro u H' ⟨zs, rfl, hp2, hh2⟩
      simp only [go_sem, ↓reduceIte, Nat.reduceEqDiff, Nat.reduceAdd, reduceCtorEq, h0, h3, h8, h9, h10, h11]
      rw [wrapI (by omega) (by omega), e3]
      exact ⟨by trivial, by trivial, by trivial, by trivial, by trivial, congrArg (V.int .i64) (by omega), zs, rfl, hp.trans (hp2.wider (Nat.le_refl _) (by omega)), hh2⟩
    · rintro env H' ⟨h0, h3, h8, h9, h10, h11, ys, rfl, hp, hh⟩
      have e1 : (m0 : Int) - ((m0 + 1 : Nat) : Int) = -1 := by omega
      rw [e1] at h11
      have hneg : ¬ (0 : Int) ≤ -1 := by decide
      simp only [go_sem, ↓reduceIte, Nat.reduceEqDiff, Nat.reduceAdd, reduceCtorEq, h0, h3, h8, h9, h10, h11, hneg]
      rw [Nat.sub_self] at hh
      exact ⟨by trivial, by trivial, by trivial, by trivial, by trivial, ys, rfl, hp, hh⟩
  rintro env H' ⟨h0, h3, h8, h9, h10, ys, rfl, hp, hh⟩
  simp only [go_sem, ↓reduceIte, Nat.reduceEqDiff, Nat.reduceAdd, reduceCtorEq, h0, h3, h8, h9, h10, w2]
  refine loop_count (hi + 1) (fun t env H' => env 0 = .sl N 0 n fl ∧ env 3 = .fn g caps ∧ env 8 = .int .i64 a ∧ env 9 = .int .i64 0 ∧ env 12 = .int .i64 ((hi : Int) - t) ∧ ∃ ys, H' = E.put H N ys ∧ PermIn a b xs ys ∧ HeapP cf ys a 0 (hi + 1 - t) ∧ ∀ p q, p < q → hi + 1 - t ≤ q → q < hi + 1 → ¬ cf (el ys (a + q)) (el ys (a + p)) < 0) ?_ ?_ ?_
  · simp only [go_sem, ↓reduceIte, Nat.reduceEqDiff, Nat.reduceAdd, reduceCtorEq, h0, h3, h8, h9]
    exact ⟨by trivial, by trivial, by trivial, by trivial, by simp, ys, rfl, hp, hh, fun p q h1 h2 h3 => by omega⟩
  · rintro t env H' ht ⟨h0, h3, h8, h9, h12, ys, rfl, hp, hh, hs⟩
    obtain ⟨i, hi'⟩ : ∃ i, hi = i + t := ⟨hi - t, by omega⟩
    have e1 : (hi : Int) - t = (i : Int) := by omega
    have e2 : hi + 1 - t = i + 1 := by omega
    have e3 : hi + 1 - (t + 1) = i := by omega
    rw [e1] at h12
    rw [e2] at hh hs
    have hl := hp.length
    have hge : (0 : Int) ≤ (i : Int) := by omega
    have w3 : IntKind.i64.wrap ((a : Int) + (i : Int)) = ((a + i : Nat) : Int) := by rw [wrapI (by omega) (by omega)]; omega
    have hr0 := E.read (E.put_at H N ys) (i := a) (by omega)
    have hri := E.read (E.put_at H N ys) (i := a + i) (by omega)
    simp only [go_sem, ↓reduceIte, Nat.reduceEqDiff, Nat.reduceAdd, reduceCtorEq, h0, h3, h8, h9, h12, hge, w3, ia_el (show a < n by omega), ia_el (show a + i < n by omega), hr0, hri]
    refine E.st (i := a) (xs := ys) (by omega) ?_
    simp only [go_sem, ↓reduceIte, Nat.reduceEqDiff, Nat.reduceAdd, reduceCtorEq, ia_el (show a + i < n by omega)]
    refine E.st (i := a + i) (xs := ys.set a ys[a + i]) (by rw [List.length_set]; omega) ?_
    rw [show (ys.set a ys[a + i]).set (a + i) ys[a] = swapL ys a (a + i) from (swapL_eq (by omega) (by omega)).symm]
    have hp1 : PermIn a b xs (swapL ys a (a + i)) := hp.trans (.one _ _ (by omega) (by omega) (by omega) (by omega) (by omega) (by omega))
    have es := fun m => el_swap (xs := ys) (i := a) (j := a + i) (by omega) (by omega) m
    simp only [go_sem, ↓reduceIte, Nat.reduceEqDiff, Nat.reduceAdd, reduceCtorEq, h0, h3, h8, h9, h12]
    refine callC_any (siftDown_spec (first := a) (lo := 0) (hi := i) C hsd hG hN (hp1.pr hP) (by rw [hp1.length, hn]) hn2 (by omega) (by omega) fun p c hpl hc hci hpx => ?_) ?_
    · have hpc : p < c := by unfold Child at hc; omega
      rw [es, es, if_neg (by omega), if_neg (by omega), if_neg (by omega), if_neg (by omega)]
      exact hh p c hpl hc (by omega)
    rintro u H' ⟨zs, rfl, hp2, hh2⟩
    simp only [go_sem, ↓reduceIte, Nat.reduceEqDiff, Nat.reduceAdd, reduceCtorEq, h0, h3, h8, h9, h12]
    rw [wrapI (by omega) (by omega), e3]
    have hl1 := hp1.length
    refine ⟨by trivial, by trivial, by trivial, by trivial, congrArg (V.int .i64) (by omega), zs, rfl, hp1.trans (hp2.wider (Nat.le_refl _) (by omega)), hh2, fun p q hpq hq1 hq2 => ?_⟩
    rw [hp2.elOut (m := a + q) (by omega)]
    -- what stands at q is at least each that stands ahead of it
    have top := heap_top C.swo hh
    have key : ∀ m, a ≤ m → m < a + i → ¬ cf (el (swapL ys a (a + i)) (a + q)) (el (swapL ys a (a + i)) m) < 0 := by
      intro m m1 m2
      rw [es, es]
      by_cases hq : q = i
      · subst hq
        rw [if_pos rfl, if_neg (by omega)]
        split
        · exact top q (by omega)
        · obtain ⟨m', rfl⟩ : ∃ m', m = a + m' := ⟨m - a, by omega⟩
          exact top m' (by omega)
      · rw [if_neg (by omega), if_neg (by omega), if_neg (by omega)]
        split
        · exact hs i q (by omega) (by omega) hq2
        · obtain ⟨m', rfl⟩ : ∃ m', m = a + m' := ⟨m - a, by omega⟩
          exact hs m' q (by omega) (by omega) hq2
    by_cases hpi : p < i
    · exact hp2.elAll (by omega) (P := fun y => ¬ cf (el (swapL ys a (a + i)) (a + q)) y < 0) key (a + p) (by omega) (by omega)
    · rw [hp2.elOut (m := a + p) (by omega), es, es, if_neg (by omega), if_neg (by omega)]
      by_cases hpi2 : p = i
      · subst hpi2
        rw [if_pos rfl]
        have h00 := hs 0 q (by omega) (by omega) hq2
        exact h00
      · rw [if_neg (by omega), if_neg (by omega)]
        exact hs p q hpq (by omega) hq2
  · rintro env H' ⟨h0, h3, h8, h9, h12, ys, rfl, hp, hh, hs⟩
    have e1 : (hi : Int) - ((hi + 1 : Nat) : Int) = -1 := by omega
    rw [e1] at h12
    rw [Nat.sub_self] at hs
    have hneg : ¬ (0 : Int) ≤ -1 := by decide
    simp only [go_sem, ↓reduceIte, Nat.reduceEqDiff, Nat.reduceAdd, reduceCtorEq, h0, h3, h8, h9, h12, hneg]
    refine finO_self ⟨ys, rfl, hp, fun i j h1 h2 h3 => ?_⟩
    obtain ⟨p, rfl⟩ : ∃ p, i = a + p := ⟨i - a, by omega⟩
    obtain ⟨q, rfl⟩ : ∃ q, j = a + q := ⟨j - a, by omega⟩
    exact hs p q (by omega) (Nat.zero_le _) (by omega)
end
end Go.AM
