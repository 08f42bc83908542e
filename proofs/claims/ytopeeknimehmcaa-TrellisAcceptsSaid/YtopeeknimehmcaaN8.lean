/- Counting. Conditions: none. -/
import Derived.Test.YtopeeknimehmcaaN7
set_option linter.unusedVariables false
set_option linter.unusedSimpArgs false
namespace Go.AM
open Go Go.Proofs
attribute [local go_sem] c_skip c_ops c_seq c_ite c_blk c_exit c_ret t_normal t_exit t_ret b_normal b_exit b_ret i_nil i_cons s_guard s_mov s_pick s_new s_zero s_ld s_ldr s_st s_bin s_beq s_isnil s_eqs s_un s_conv s_fa s_fld s_ia s_sli s_ext s_ifc s_mkf s_agg s_len s_mm s_nilchk s_bsl s_mk s_app s_cpy s_call s_inv cells_agg cells_int cells_bool p_get p_none o_s o_c e_0 e_1 e_2 e_3 e_4 iteC_true iteC_false grd_tt grd_tf grd_ft grd_ff grd_und bindV_some pickV_t pickV_f beq_bool conv_int un_not not_dec mm_min mm_max bv_add bv_sub bv_mul bv_eql bv_neq bv_lss bv_leq bv_gtr bv_geq f_normal f_one f_two f_three f_none fa_ptr fld_one ext_tup len_sl len_nils decide_true decide_false not_true_eq_false not_false_eq_true List.map_cons List.map_nil List.append_nil List.cons_append List.nil_append Nat.zero_add Nat.add_zero Nat.mul_one Nat.succ_ne_self if_true if_false List.getElem?_cons_zero List.getElem?_cons_succ

/-- (semiring.Counting).Add -/
def F161 : AF := ⟨11, [(6, none)], (.seq (.ops [⟨none, false, (some 3), (.new (.s 0))⟩, ⟨none, false, (some 6), (.mov (.c .nils))⟩]) (.seq (.ops [⟨none, false, (some 7), (.mov (.s 1))⟩, ⟨none, false, (some 8), (.mov (.s 2))⟩, ⟨none, false, (some 9), (.bsl 1 2 [.nils, .nils] [(0, (1, (.s 7))), (1, (1, (.s 8)))])⟩, ⟨none, false, (some 10), (.call (.c (.fn 156 [])) [(.s 9)])⟩, ⟨none, false, (some 6), (.mov (.s 10))⟩]) .ret))⟩
theorem cv161 : cvF Try.prog 161 = some F161 := by kernel_rfl

/-- (semiring.Counting).Mul -/
def F162 : AF := ⟨11, [(6, none)], (.seq (.ops [⟨none, false, (some 3), (.new (.s 0))⟩, ⟨none, false, (some 6), (.mov (.c .nils))⟩]) (.seq (.ops [⟨none, false, (some 7), (.mov (.s 1))⟩, ⟨none, false, (some 8), (.mov (.s 2))⟩, ⟨none, false, (some 9), (.bsl 1 2 [.nils, .nils] [(0, (1, (.s 7))), (1, (1, (.s 8)))])⟩, ⟨none, false, (some 10), (.call (.c (.fn 158 [])) [(.s 9)])⟩, ⟨none, false, (some 6), (.mov (.s 10))⟩]) .ret))⟩
theorem cv162 : cvF Try.prog 162 = some F162 := by kernel_rfl

/-- (semiring.Counting).One -/
def F163 : AF := ⟨4, [(2, none)], (.seq (.ops [⟨none, false, (some 1), (.new (.s 0))⟩, ⟨none, false, (some 2), (.mov (.c .nils))⟩]) (.seq (.ops [⟨none, false, (some 3), (.call (.c (.fn 50 [])) [(.c (.int .u64 (1)))])⟩, ⟨none, false, (some 2), (.mov (.s 3))⟩]) .ret))⟩
theorem cv163 : cvF Try.prog 163 = some F163 := by kernel_rfl

/-- (semiring.Counting).Zero -/
def F164 : AF := ⟨4, [(2, none)], (.seq (.ops [⟨none, false, (some 1), (.new (.s 0))⟩, ⟨none, false, (some 2), (.mov (.c .nils))⟩]) (.seq (.ops [⟨none, false, (some 3), (.call (.c (.fn 50 [])) [(.c (.int .u64 (0)))])⟩, ⟨none, false, (some 2), (.mov (.s 3))⟩]) .ret))⟩
theorem cv164 : cvF Try.prog 164 = some F164 := by kernel_rfl


theorem SNat.cells {H : Heap} {u : V} {n : Int} {L : Nat} (h : SNat H u n L) : V.cells u = [u] := by
  obtain ⟨xs, ⟨_, _, ⟨rfl, _⟩ | ⟨n, o, f, b, rfl, _⟩⟩, _⟩ := h <;> rfl

theorem cOne_spec (H : Heap) : ACalls Try.prog 163 [.agg []] H fun u H' => Heap.sub H H' ∧ CNat H' u 1 2 := by
  refine ACalls.of_body hm cv163 (by simp only [List.length_cons, List.length_nil]; decide) ?_
  simp only [F163, go_sem, ↓reduceIte, Nat.reduceEqDiff, Nat.reduceAdd, reduceCtorEq]
  refine newC_intro fun n1 H1 hn1 hs1 hb1 => ?_
  simp only [go_sem, ↓reduceIte, Nat.reduceEqDiff, Nat.reduceAdd, reduceCtorEq]
  refine callC_grow (Of_spec (by decide) (by decide) _) ?_
  intro x H2 hs2 hx
  simp only [go_sem, ↓reduceIte, Nat.reduceEqDiff, Nat.reduceAdd, reduceCtorEq]
  exact finO_self ⟨hs1.trans' hs2, hx⟩
theorem cZero_spec (H : Heap) : ACalls Try.prog 164 [.agg []] H fun u H' => Heap.sub H H' ∧ CNat H' u 0 2 := by
  refine ACalls.of_body hm cv164 (by simp only [List.length_cons, List.length_nil]; decide) ?_
  simp only [F164, go_sem, ↓reduceIte, Nat.reduceEqDiff, Nat.reduceAdd, reduceCtorEq]
  refine newC_intro fun n1 H1 hn1 hs1 hb1 => ?_
  simp only [go_sem, ↓reduceIte, Nat.reduceEqDiff, Nat.reduceAdd, reduceCtorEq]
  refine callC_grow (Of_spec (by decide) (by decide) _) ?_
  intro x H2 hs2 hx
  simp only [go_sem, ↓reduceIte, Nat.reduceEqDiff, Nat.reduceAdd, reduceCtorEq]
  exact finO_self ⟨hs1.trans' hs2, hx⟩
theorem cAdd_spec {av bv : V} {a b : Int} {L : Nat} {H : Heap} (hL : L + 2 ≤ 1099511627776) (ha : SNat H av a L) (hb : SNat H bv b L) : ACalls Try.prog 161 [.agg [], av, bv] H fun u H' => Heap.sub H H' ∧ CNat H' u (a + b) (L + 2) := by
  refine ACalls.of_body hm cv161 (by simp only [List.length_cons, List.length_nil]; decide) ?_
  simp only [F161, go_sem, ↓reduceIte, Nat.reduceEqDiff, Nat.reduceAdd, reduceCtorEq]
  refine newC_intro fun n1 H1 hn1 hs1 hb1 => ?_
  simp only [go_sem, ↓reduceIte, Nat.reduceEqDiff, Nat.reduceAdd, reduceCtorEq, fillV, List.length_cons, List.length_nil, splice, Nat.reduceLeDiff, Nat.zero_lt_one, and_self, List.take_zero, List.take_succ_cons, List.drop_succ_cons, List.drop_zero, List.drop_nil, Nat.reduceLT, Nat.le_refl, ha.cells, hb.cells]
  refine newC_intro fun n2 H2 hn2 hs2 hb2 => ?_
  simp only [go_sem, ↓reduceIte, Nat.reduceEqDiff, Nat.reduceAdd, reduceCtorEq]
  have hs02 := hs1.trans' hs2
  have hv : SCells H2 (.sl n2 0 2 true) [av, bv] := ⟨rfl, by simp, .inr ⟨n2, 0, true, _, rfl, hb2, rfl, .inr (by simp), fun j hj => by simp⟩⟩
  refine callC_grow (natAdd_spec (ns := [a, b]) (L := L) (by simpa using hL) hv rfl fun i h => ?_) ?_
  · match i, h with
    | 0, _ => exact ha.mono hs02
    | 1, _ => exact hb.mono hs02
  intro x H3 hs3 hx
  simp only [go_sem, ↓reduceIte, Nat.reduceEqDiff, Nat.reduceAdd, reduceCtorEq]
  have : sumI [a, b] = a + b := by simp [sumI]
  rw [this] at hx
  exact finO_self ⟨hs02.trans' hs3, hx⟩
theorem cMul_spec {av bv : V} {a b : Int} {L M : Nat} {H : Heap} (hL : 1 + L + M ≤ 1099511627776) (ha : SNat H av a L) (hb : SNat H bv b M) : ACalls Try.prog 162 [.agg [], av, bv] H fun u H' => Heap.sub H H' ∧ CNat H' u (a * b) (1 + L + M) := by
  refine ACalls.of_body hm cv162 (by simp only [List.length_cons, List.length_nil]; decide) ?_
  simp only [F162, go_sem, ↓reduceIte, Nat.reduceEqDiff, Nat.reduceAdd, reduceCtorEq]
  refine newC_intro fun n1 H1 hn1 hs1 hb1 => ?_
  simp only [go_sem, ↓reduceIte, Nat.reduceEqDiff, Nat.reduceAdd, reduceCtorEq, fillV, List.length_cons, List.length_nil, splice, Nat.reduceLeDiff, Nat.zero_lt_one, and_self, List.take_zero, List.take_succ_cons, List.drop_succ_cons, List.drop_zero, List.drop_nil, Nat.reduceLT, Nat.le_refl, ha.cells, hb.cells]
  refine newC_intro fun n2 H2 hn2 hs2 hb2 => ?_
  simp only [go_sem, ↓reduceIte, Nat.reduceEqDiff, Nat.reduceAdd, reduceCtorEq]
  have hs02 := hs1.trans' hs2
  have hv : SCells H2 (.sl n2 0 2 true) [av, bv] := ⟨rfl, by simp, .inr ⟨n2, 0, true, _, rfl, hb2, rfl, .inr (by simp), fun j hj => by simp⟩⟩
  refine callC_grow (natMul_spec (ns := [a, b]) (fun i => if i = 0 then L else M) (fun k => if k = 0 then 1 else if k = 1 then 1 + L else 1 + L + M) (Nat.le_refl _) (fun k hk => ?_) (fun k hk => ?_) hv rfl fun i h => ?_) ?_
  · match k, hk with
    | 0, _ => exact Nat.le_refl _
    | 1, _ => exact Nat.le_refl _
  · show (if k = 0 then 1 else if k = 1 then 1 + L else 1 + L + M) ≤ _
    split
    · decide
    · split <;> omega
  · match i, h with
    | 0, _ => exact ha.mono hs02
    | 1, _ => exact hb.mono hs02
  intro x H3 hs3 hx
  simp only [go_sem, ↓reduceIte, Nat.reduceEqDiff, Nat.reduceAdd, reduceCtorEq]
  have : prodI [a, b] = a * b := by simp [prodI]
  rw [this] at hx
  exact finO_self ⟨hs02.trans' hs3, hx⟩
end Go.AM
