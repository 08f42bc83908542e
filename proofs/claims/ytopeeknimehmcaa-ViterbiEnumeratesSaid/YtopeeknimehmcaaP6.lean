/- MinPlus; semiring.rows over it; semiring.valued over ints. Conditions: none. -/
import Derived.Test.YtopeeknimehmcaaP5
import Derived.Test.YtopeeknimehmcaaT0
set_option linter.unusedVariables false
set_option linter.unusedSimpArgs false
namespace Go.AM
open Go Go.Proofs
attribute [local go_sem] c_skip c_ops c_seq c_ite c_blk c_exit c_ret t_normal t_exit t_ret b_normal b_exit b_ret i_nil i_cons s_guard s_mov s_pick s_new s_zero s_ld s_ldr s_st s_bin s_beq s_isnil s_eqs s_un s_conv s_fa s_fld s_ia s_sli s_ext s_ifc s_mkf s_agg s_len s_mm s_nilchk s_bsl s_mk s_app s_cpy s_call s_inv cells_agg cells_int cells_bool p_get p_none o_s o_c e_0 e_1 e_2 e_3 e_4 iteC_true iteC_false grd_tt grd_tf grd_ft grd_ff grd_und bindV_some pickV_t pickV_f beq_bool conv_int un_not not_dec mm_min mm_max bv_add bv_sub bv_mul bv_eql bv_neq bv_lss bv_leq bv_gtr bv_geq f_normal f_one f_two f_three f_none fa_ptr fld_one ext_tup len_sl len_nils decide_true decide_false not_true_eq_false not_false_eq_true List.map_cons List.map_nil List.append_nil List.cons_append List.nil_append Nat.zero_add Nat.add_zero Nat.mul_one Nat.succ_ne_self if_true if_false List.getElem?_cons_zero List.getElem?_cons_succ

/-- semiring.cost -/
def F169 : AF := ⟨6, [(2, none)], (.seq (.ops [⟨none, false, (some 2), (.mov (.c (.int .i64 (0))))⟩]) (.seq (.ops [⟨none, false, (some 3), (.mov (.s 0))⟩, ⟨none, false, (some 4), (.mm true (.s 3) (.c (.int .i64 (0))))⟩, ⟨none, false, (some 5), (.mm false (.s 4) (.c (.int .i64 (4611686018427387904))))⟩, ⟨none, false, (some 2), (.mov (.s 5))⟩]) .ret))⟩
theorem cv169 : cvF Try.prog 169 = some F169 := by kernel_rfl

/-- semiring.capped -/
def F170 : AF := ⟨12, [(4, none)], (.seq (.ops [⟨none, false, (some 4), (.mov (.c (.int .i64 (0))))⟩]) (.seq (.seq (.ops [⟨none, false, (some 5), (.mov (.s 0))⟩, ⟨none, false, (some 6), (.mov (.s 1))⟩, ⟨none, false, (some 7), (.bin .sub (.c (.int .i64 (4611686018427387904))) (.s 6))⟩, ⟨none, false, (some 8), (.bin .gtr (.s 5) (.s 7))⟩]) (.ite (.s 8) (.seq (.ops [⟨none, false, (some 4), (.mov (.c (.int .i64 (4611686018427387904))))⟩]) .ret) .skip)) (.seq (.ops [⟨none, false, (some 9), (.mov (.s 0))⟩, ⟨none, false, (some 10), (.mov (.s 1))⟩, ⟨none, false, (some 11), (.bin .add (.s 9) (.s 10))⟩, ⟨none, false, (some 4), (.mov (.s 11))⟩]) .ret)))⟩
theorem cv170 : cvF Try.prog 170 = some F170 := by kernel_rfl

/-- (semiring.MinPlus).Zero -/
def F168 : AF := ⟨3, [(2, none)], (.seq (.ops [⟨none, false, (some 1), (.new (.s 0))⟩, ⟨none, false, (some 2), (.mov (.c (.int .i64 (0))))⟩]) (.seq (.ops [⟨none, false, (some 2), (.mov (.c (.int .i64 (4611686018427387904))))⟩]) .ret))⟩
theorem cv168 : cvF Try.prog 168 = some F168 := by kernel_rfl

/-- (semiring.MinPlus).One -/
def F167 : AF := ⟨3, [(2, none)], (.seq (.ops [⟨none, false, (some 1), (.new (.s 0))⟩, ⟨none, false, (some 2), (.mov (.c (.int .i64 (0))))⟩]) (.seq (.ops [⟨none, false, (some 2), (.mov (.c (.int .i64 (0))))⟩]) .ret))⟩
theorem cv167 : cvF Try.prog 167 = some F167 := by kernel_rfl

/-- (semiring.MinPlus).Add -/
def F165 : AF := ⟨12, [(6, none)], (.seq (.ops [⟨none, false, (some 3), (.new (.s 0))⟩, ⟨none, false, (some 6), (.mov (.c (.int .i64 (0))))⟩]) (.seq (.ops [⟨none, false, (some 7), (.mov (.s 1))⟩, ⟨none, false, (some 8), (.call (.c (.fn 169 [])) [(.s 7)])⟩, ⟨none, false, (some 9), (.mov (.s 2))⟩, ⟨none, false, (some 10), (.call (.c (.fn 169 [])) [(.s 9)])⟩, ⟨none, false, (some 11), (.mm false (.s 8) (.s 10))⟩, ⟨none, false, (some 6), (.mov (.s 11))⟩]) .ret))⟩
theorem cv165 : cvF Try.prog 165 = some F165 := by kernel_rfl

/-- (semiring.MinPlus).Mul -/
def F166 : AF := ⟨12, [(6, none)], (.seq (.ops [⟨none, false, (some 3), (.new (.s 0))⟩, ⟨none, false, (some 6), (.mov (.c (.int .i64 (0))))⟩]) (.seq (.ops [⟨none, false, (some 7), (.mov (.s 1))⟩, ⟨none, false, (some 8), (.call (.c (.fn 169 [])) [(.s 7)])⟩, ⟨none, false, (some 9), (.mov (.s 2))⟩, ⟨none, false, (some 10), (.call (.c (.fn 169 [])) [(.s 9)])⟩, ⟨none, false, (some 11), (.call (.c (.fn 170 [])) [(.s 8), (.s 10)])⟩, ⟨none, false, (some 6), (.mov (.s 11))⟩]) .ret))⟩
theorem cv166 : cvF Try.prog 166 = some F166 := by kernel_rfl

/-- semiring.rows[int,semiring.MinPlus] -/
def F102 : AF := ⟨38, [(4, none)], (.seq (.ops [⟨none, false, (some 2), (.new (.s 0))⟩, ⟨none, false, (some 3), (.new (.s 1))⟩, ⟨none, false, (some 4), (.mov (.c .nils))⟩]) (.seq (.ops [⟨none, false, (some 8), (.fa 0 (.s 3))⟩, ⟨none, false, (some 9), (.ld false 1 (.s 8) none)⟩, ⟨none, false, (some 10), (.len (.s 9))⟩, ⟨none, false, (some 11), (.mk 1 24 [.nils] (.s 10) (.s 10))⟩, ⟨none, false, (some 5), (.mov (.s 11))⟩]) (.seq (.seq (.ops [⟨none, false, (some 12), (.fa 0 (.s 3))⟩, ⟨none, false, (some 13), (.ld false 1 (.s 12) none)⟩, ⟨none, false, (some 14), (.len (.s 13))⟩, ⟨none, false, (some 15), (.mov (.c (.int .i64 (0))))⟩]) (.blk 0 (.loop (.seq (.ops [⟨none, false, (some 16), (.bin .lss (.s 15) (.s 14))⟩]) (.seq (.ite (.s 16) .skip (.exit 0)) (.seq (.blk 1 (.seq (.ops [⟨none, false, (some 17), (.mov (.s 15))⟩, ⟨none, false, (some 18), (.ia 1 (.s 13) (.s 15))⟩, ⟨none, false, (some 19), (.ld false 1 (.s 18) none)⟩, ⟨none, false, (some 6), (.mov (.s 17))⟩, ⟨none, false, (some 7), (.mov (.s 19))⟩]) (.seq (.ops [⟨none, false, (some 20), (.mov (.s 7))⟩, ⟨none, false, (some 21), (.mov (.c (.int .i64 (0))))⟩]) (.blk 2 (.loop (.seq (.ops [⟨none, false, (some 22), (.bin .lss (.s 21) (.s 20))⟩]) (.seq (.ite (.s 22) .skip (.exit 2)) (.seq (.blk 3 (.ops [⟨none, false, (some 23), (.mov (.s 5))⟩, ⟨none, false, (some 24), (.mov (.s 6))⟩, ⟨none, false, (some 25), (.mov (.s 5))⟩, ⟨none, false, (some 26), (.mov (.s 6))⟩, ⟨none, false, (some 27), (.ia 1 (.s 25) (.s 26))⟩, ⟨none, false, (some 28), (.ld false 1 (.s 27) none)⟩, ⟨none, false, (some 29), (.ld true 0 (.s 2) none)⟩, ⟨none, false, (some 30), (.ifc 115 (.s 29))⟩, ⟨none, true, (some 31), (.inv (.s 30) 115 168 [])⟩, ⟨none, false, (some 32), (.bsl 1 1 [(.int .i64 (0))] [(0, (1, (.s 31)))])⟩, ⟨none, false, (some 33), (.app 1 8 (.s 28) (.s 32) [])⟩, ⟨none, false, (some 34), (.ia 1 (.s 23) (.s 24))⟩, ⟨none, false, none, (.st 1 (.s 34) (.s 33) [])⟩])) (.ops [⟨none, false, (some 35), (.bin .add (.s 21) (.c (.int .i64 (1))))⟩, ⟨none, false, (some 21), (.mov (.s 35))⟩]))))))))) (.ops [⟨none, false, (some 36), (.bin .add (.s 15) (.c (.int .i64 (1))))⟩, ⟨none, false, (some 15), (.mov (.s 36))⟩]))))))) (.seq (.ops [⟨none, false, (some 37), (.mov (.s 5))⟩, ⟨none, false, (some 4), (.mov (.s 37))⟩]) .ret))))⟩
theorem cv102 : cvF Try.prog 102 = some F102 := by kernel_rfl

/-- semiring.valued[int] -/
def F101 : AF := ⟨36, [(4, none)], (.seq (.ops [⟨none, false, (some 2), (.new (.s 0))⟩, ⟨none, false, (some 4), (.mov (.c (.int .i64 (0))))⟩]) (.seq (.seq (.ops [⟨none, false, (some 8), (.ld true 2 (.s 2) none)⟩, ⟨none, false, (some 9), (.call (.c (.fn 47 [])) [(.s 8)])⟩, ⟨none, false, (some 5), (.mov (.s 9))⟩]) (.seq (.ops [⟨none, false, (some 10), (.mov (.s 5))⟩, ⟨none, false, (some 11), (.bin .neq (.s 10) (.c (.int .i64 (0))))⟩]) (.ite (.s 11) (.seq (.ops [⟨none, false, (some 12), (.mov (.s 5))⟩, ⟨none, false, (some 4), (.mov (.s 12))⟩]) .ret) .skip))) (.seq (.seq (.ops [⟨none, false, (some 13), (.mov (.s 1))⟩, ⟨none, false, (some 14), (.len (.s 13))⟩, ⟨none, false, (some 15), (.fa 1 (.s 2))⟩, ⟨none, false, (some 16), (.ld false 1 (.s 15) none)⟩, ⟨none, false, (some 17), (.len (.s 16))⟩, ⟨none, false, (some 18), (.bin .neq (.s 14) (.s 17))⟩]) (.ite (.s 18) (.seq (.ops [⟨none, false, (some 4), (.mov (.c (.int .i64 (3))))⟩]) .ret) .skip)) (.seq (.seq (.ops [⟨none, false, (some 19), (.fa 1 (.s 2))⟩, ⟨none, false, (some 20), (.ld false 1 (.s 19) none)⟩, ⟨none, false, (some 21), (.len (.s 20))⟩, ⟨none, false, (some 22), (.mov (.c (.int .i64 (0))))⟩]) (.blk 0 (.loop (.seq (.ops [⟨none, false, (some 23), (.bin .lss (.s 22) (.s 21))⟩]) (.seq (.ite (.s 23) .skip (.exit 0)) (.seq (.blk 1 (.seq (.ops [⟨none, false, (some 24), (.mov (.s 22))⟩, ⟨none, false, (some 25), (.ia 1 (.s 20) (.s 22))⟩, ⟨none, false, (some 26), (.ld false 1 (.s 25) none)⟩, ⟨none, false, (some 6), (.mov (.s 24))⟩, ⟨none, false, (some 7), (.mov (.s 26))⟩]) (.seq (.ops [⟨none, false, (some 27), (.mov (.s 1))⟩, ⟨none, false, (some 28), (.mov (.s 6))⟩, ⟨none, false, (some 29), (.ia 1 (.s 27) (.s 28))⟩, ⟨none, false, (some 30), (.ld false 1 (.s 29) none)⟩, ⟨none, false, (some 31), (.len (.s 30))⟩, ⟨none, false, (some 32), (.mov (.s 7))⟩, ⟨none, false, (some 33), (.len (.s 32))⟩, ⟨none, false, (some 34), (.bin .neq (.s 31) (.s 33))⟩]) (.ite (.s 34) (.seq (.ops [⟨none, false, (some 4), (.mov (.c (.int .i64 (3))))⟩]) .ret) .skip)))) (.ops [⟨none, false, (some 35), (.bin .add (.s 22) (.c (.int .i64 (1))))⟩, ⟨none, false, (some 22), (.mov (.s 35))⟩]))))))) (.seq (.ops [⟨none, false, (some 4), (.mov (.c (.int .i64 (0))))⟩]) .ret)))))⟩
theorem cv101 : cvF Try.prog 101 = some F101 := by kernel_rfl


def Inf : Int := 4611686018427387904
def costI (a : Int) : Int := if Inf < (if a < 0 then 0 else a) then Inf else (if a < 0 then 0 else a)
def mpAdd (a b : Int) : Int := if costI b < costI a then costI b else costI a
def mpMul (a b : Int) : Int := if Inf - costI b < costI a then Inf else costI a + costI b
theorem costI_range (a : Int) : 0 ≤ costI a ∧ costI a ≤ Inf := by unfold costI Inf; split <;> split <;> omega
theorem costI_id {a : Int} (h0 : 0 ≤ a) (h1 : a ≤ Inf) : costI a = a := by unfold costI; rw [if_neg (by omega), if_neg (by omega)]

theorem cost_spec (a : Int) (H : Heap) : ACalls Try.prog 169 [.int .i64 a] H fun u H' => u = .int .i64 (costI a) ∧ H' = H := by
  refine ACalls.of_body hm cv169 (by simp only [List.length_cons, List.length_nil]; decide) ?_
  simp only [F169, go_sem, ↓reduceIte, Nat.reduceEqDiff, Nat.reduceAdd, reduceCtorEq]
  refine finO_self ⟨?_, rfl⟩
  rfl
theorem capped_spec (a b : Int) (ha : 0 ≤ a ∧ a ≤ Inf) (hb : 0 ≤ b ∧ b ≤ Inf) (H : Heap) : ACalls Try.prog 170 [.int .i64 a, .int .i64 b] H fun u H' => u = .int .i64 (if Inf - b < a then Inf else a + b) ∧ H' = H := by
  refine ACalls.of_body hm cv170 (by simp only [List.length_cons, List.length_nil]; decide) ?_
  unfold Inf at *
  simp (disch := omega) only [F170, go_sem, ↓reduceIte, Nat.reduceEqDiff, Nat.reduceAdd, reduceCtorEq, wrapI]
  refine iteC_if (fun h => ?_) (fun h => ?_)
  · simp only [go_sem, ↓reduceIte, Nat.reduceEqDiff, Nat.reduceAdd, reduceCtorEq]
    exact finO_self ⟨by rw [if_pos h], rfl⟩
  · simp (disch := omega) only [go_sem, ↓reduceIte, Nat.reduceEqDiff, Nat.reduceAdd, reduceCtorEq, wrapI]
    exact finO_self ⟨by rw [if_neg h], rfl⟩
theorem Zero_spec (H : Heap) : ACalls Try.prog 168 [.agg []] H fun u H' => u = .int .i64 Inf ∧ H' = H := by
  refine ACalls.of_body hm cv168 (by simp only [List.length_cons, List.length_nil]; decide) ?_
  simp only [F168, go_sem, ↓reduceIte, Nat.reduceEqDiff, Nat.reduceAdd, reduceCtorEq]
  refine newC_intro fun n1 H1 hn1 hs1 hb1 => ?_
  simp only [go_sem, ↓reduceIte, Nat.reduceEqDiff, Nat.reduceAdd, reduceCtorEq]
  exact finO_sub hs1 ⟨rfl, rfl⟩
theorem One_spec (H : Heap) : ACalls Try.prog 167 [.agg []] H fun u H' => u = .int .i64 0 ∧ H' = H := by
  refine ACalls.of_body hm cv167 (by simp only [List.length_cons, List.length_nil]; decide) ?_
  simp only [F167, go_sem, ↓reduceIte, Nat.reduceEqDiff, Nat.reduceAdd, reduceCtorEq]
  refine newC_intro fun n1 H1 hn1 hs1 hb1 => ?_
  simp only [go_sem, ↓reduceIte, Nat.reduceEqDiff, Nat.reduceAdd, reduceCtorEq]
  exact finO_sub hs1 ⟨rfl, rfl⟩
theorem Add_spec (a b : Int) (H : Heap) : ACalls Try.prog 165 [.agg [], .int .i64 a, .int .i64 b] H fun u H' => u = .int .i64 (mpAdd a b) ∧ H' = H := by
  refine ACalls.of_body hm cv165 (by simp only [List.length_cons, List.length_nil]; decide) ?_
  simp only [F165, go_sem, ↓reduceIte, Nat.reduceEqDiff, Nat.reduceAdd, reduceCtorEq]
  refine newC_intro fun n1 H1 hn1 hs1 hb1 => ?_
  simp only [go_sem, ↓reduceIte, Nat.reduceEqDiff, Nat.reduceAdd, reduceCtorEq]
  refine callC_pure (cost_spec _ _) ?_
  simp only [go_sem, ↓reduceIte, Nat.reduceEqDiff, Nat.reduceAdd, reduceCtorEq]
  refine callC_pure (cost_spec _ _) ?_
  simp only [go_sem, ↓reduceIte, Nat.reduceEqDiff, Nat.reduceAdd, reduceCtorEq]
  exact finO_sub hs1 ⟨rfl, rfl⟩
theorem Mul_spec (a b : Int) (H : Heap) : ACalls Try.prog 166 [.agg [], .int .i64 a, .int .i64 b] H fun u H' => u = .int .i64 (mpMul a b) ∧ H' = H := by
  refine ACalls.of_body hm cv166 (by simp only [List.length_cons, List.length_nil]; decide) ?_
  simp only [F166, go_sem, ↓reduceIte, Nat.reduceEqDiff, Nat.reduceAdd, reduceCtorEq]
  refine newC_intro fun n1 H1 hn1 hs1 hb1 => ?_
  simp only [go_sem, ↓reduceIte, Nat.reduceEqDiff, Nat.reduceAdd, reduceCtorEq]
  refine callC_pure (cost_spec _ _) ?_
  simp only [go_sem, ↓reduceIte, Nat.reduceEqDiff, Nat.reduceAdd, reduceCtorEq]
  refine callC_pure (cost_spec _ _) ?_
  simp only [go_sem, ↓reduceIte, Nat.reduceEqDiff, Nat.reduceAdd, reduceCtorEq]
  refine callC_pure (capped_spec _ _ (costI_range a) (costI_range b) _) ?_
  simp only [go_sem, ↓reduceIte, Nat.reduceEqDiff, Nat.reduceAdd, reduceCtorEq]
  exact finO_sub hs1 ⟨rfl, rfl⟩

/-- rows being filled: those before k are full, row k has j items -/
def part (n : Nat) (w : Nat → Nat) (z : V) (k j : Nat) : List (List V) := (List.range n).map fun i => if i < k then List.replicate (w i) z else if i = k then List.replicate j z else []
theorem part_len (n : Nat) (w : Nat → Nat) (z : V) (k j : Nat) : (part n w z k j).length = n := by simp [part]
theorem part_get {n : Nat} {w : Nat → Nat} {z : V} {k j i : Nat} (h : i < n) : (part n w z k j)[i]'(by rw [part_len]; exact h) = if i < k then List.replicate (w i) z else if i = k then List.replicate j z else [] := by simp [part]
theorem part_push {n : Nat} {w : Nat → Nat} {z : V} {k j : Nat} (h : k < n) : (part n w z k j).set k ((part n w z k j)[k]'(by rw [part_len]; exact h) ++ [z]) = part n w z k (j+1) := by
  have e0 : (part n w z k j)[k]'(by rw [part_len]; exact h) ++ [z] = List.replicate (j+1) z := by rw [part_get h]; simp [List.replicate_succ']
  rw [e0]
  apply List.ext_getElem
  · simp [part_len]
  · intro i h1 h2
    have hi : i < n := by rw [part_len] at h2; exact h2
    rw [part_get hi]
    by_cases e : k = i
    · subst e
      simp
    · rw [List.getElem_set_ne e, part_get hi]
      have : ¬ i = k := fun h => e h.symm
      simp [this]
theorem part_next {n : Nat} {w : Nat → Nat} {z : V} {k : Nat} : part n w z k (w k) = part n w z (k+1) 0 := by
  unfold part
  apply List.map_congr_left
  intro i hi
  by_cases h1 : i < k
  · simp [h1, show i < k + 1 by omega]
  · by_cases h2 : i = k
    · subst h2; simp
    · simp [h1, h2, show ¬ i < k + 1 by omega]

theorem rows_spec {sv ev : V} {ws : List Int} {H : Heap} (hs : SInts H sv ws) (hw : ∀ i, (h : i < ws.length) → 1 ≤ ws[i] ∧ ws[i] ≤ 65536) (hl : ws.length ≤ 65) :
    ACalls Try.prog 102 [.agg [], .agg [sv, ev]] H fun u H' => Heap.sub H H' ∧ ∃ N us, u = .sl N 0 ws.length true ∧ Tab H H' N false us (ws.map fun w => List.replicate w.toNat (.int .i64 Inf)) := by
  refine ACalls.of_body hm cv102 (by simp only [List.length_cons, List.length_nil]; decide) ?_
  simp only [F102, go_sem, ↓reduceIte, Nat.reduceEqDiff, Nat.reduceAdd, reduceCtorEq]
  refine newC_intro fun b2 H1 hn1 hs1 hb1 => ?_
  simp only [go_sem, ↓reduceIte, Nat.reduceEqDiff, Nat.reduceAdd, reduceCtorEq]
  refine newC_intro fun b3 H2 hn2 hs2 hb2 => ?_
  have hs02 := hs1.trans' hs2
  simp only [go_sem, ↓reduceIte, Nat.reduceEqDiff, Nat.reduceAdd, reduceCtorEq, ld_box hb2, hs.len]
  refine mkC_intro (Nat.le_refl _) (by omega) (by omega) fun N H3 hN hs3 hbN => ?_
  have hb2' := hs3 _ _ hb2
  rw [flat_rep] at hbN
  simp only [go_sem, ↓reduceIte, Nat.reduceEqDiff, Nat.reduceAdd, reduceCtorEq, ld_box hb2', hs.len, beq_self_eq_true]
  have tab0 : Tab H2 H3 N false (List.replicate ws.length .nils) (part ws.length (fun i => (ws[i]?.getD 0).toNat) (.int .i64 Inf) 0 0) := by
    refine ⟨hs3, hbN, hN, by simp [part_len], fun i h => ?_, fun i j n l l' h => ?_⟩
    · rw [part_len] at h
      refine .inl ⟨by simp [h], ?_, trivial⟩
      rw [part_get h]; simp
    · simp [List.getElem?_replicate] at h
  refine range_loop ws.length (fun k env H' => env 2 = .ptr b2 0 ∧ env 5 = .sl N 0 ws.length true ∧ env 13 = sv ∧ env 14 = .int .i64 ws.length ∧ env 15 = .int .i64 k ∧ ∃ us, Tab H2 H' N false us (part ws.length (fun i => (ws[i]?.getD 0).toNat) (.int .i64 Inf) k 0)) (by omega) (by decide) (by decide) ?_ ?_ ?_ ?_
  · rintro k env H' ⟨_, _, _, h7, h8, _⟩; exact ⟨h8, h7⟩
  · simp only [go_sem, ↓reduceIte, Nat.reduceEqDiff, Nat.reduceAdd, reduceCtorEq]
    exact ⟨by trivial, by trivial, by trivial, by trivial, by trivial, _, tab0⟩
  · rintro k env H4 hk ⟨h2, h5, h13, h14, h15, us, tab⟩
    obtain ⟨p, a1, a2⟩ := ((hs.mono hs02).mono tab.sub).get hk .i64
    have gk := getD_eq hk
    have pk := hw k hk
    obtain ⟨wk, hwk⟩ : ∃ n : Nat, ws[k] = n := ⟨ws[k].toNat, by omega⟩
    simp only [go_sem, ↓reduceIte, Nat.reduceEqDiff, Nat.reduceAdd, reduceCtorEq, h2, h5, h13, h14, h15, a1, a2, hwk]
    refine range_loop wk (fun j env H' => env 2 = .ptr b2 0 ∧ env 5 = .sl N 0 ws.length true ∧ env 13 = sv ∧ env 14 = .int .i64 ws.length ∧ env 15 = .int .i64 k ∧ env 6 = .int .i64 k ∧ env 20 = .int .i64 wk ∧ env 21 = .int .i64 j ∧ ∃ us, Tab H2 H' N false us (part ws.length (fun i => (ws[i]?.getD 0).toNat) (.int .i64 Inf) k j)) (by omega) (by decide) (by decide) ?_ ?_ ?_ ?_
    · rintro j env H' ⟨_, _, _, _, _, _, h7, h8, _⟩; exact ⟨h8, h7⟩
    · simp only [go_sem, ↓reduceIte, Nat.reduceEqDiff, Nat.reduceAdd, reduceCtorEq, h2, h5, h13, h14, h15]
      exact ⟨by trivial, by trivial, by trivial, by trivial, by trivial, by trivial, by trivial, by trivial, us, tab⟩
    · rintro j env H5 hj ⟨h2, h5, h13, h14, h15, h6, h20, h21, us, tab⟩
      have hkp : k < (part ws.length (fun i => (ws[i]?.getD 0).toNat) (.int .i64 Inf) k j).length := by rw [part_len]; exact hk
      obtain ⟨u, hu, hlu, hlr, hrow⟩ := tab.get hkp
      have hpl : ((part ws.length (fun i => (ws[i]?.getD 0).toNat) (.int .i64 Inf) k j)[k]).length = j := by rw [part_get hk]; simp
      rw [hpl] at hlu
      have hbs := tab.sub _ _ (hs2 _ _ hb1)
      simp only [go_sem, ↓reduceIte, Nat.reduceEqDiff, Nat.reduceAdd, reduceCtorEq, h2, h5, h13, h14, h15, h6, h20, h21, ia_nat hk, ld_box tab.outer, hu, ld_boxa hbs (show 0 + 0 ≤ _ by simp), List.take_zero]
      refine invC_pure (Zero_spec _) ?_
      simp only [go_sem, ↓reduceIte, Nat.reduceEqDiff, Nat.reduceAdd, reduceCtorEq, fillV, List.length_cons, List.length_nil, splice, Nat.reduceLeDiff, Nat.zero_lt_one, and_self, List.take_zero, List.take_succ_cons, List.drop_succ_cons, List.drop_zero, List.drop_nil, Nat.reduceLT, Nat.le_refl]
      refine newC_intro fun xb H6 hxb hs6 hbx => ?_
      have tab6 := tab.grow hs6
      simp only [go_sem, ↓reduceIte, Nat.reduceEqDiff, Nat.reduceAdd, reduceCtorEq]
      have hrow' : (u = .nils ∧ (part ws.length (fun i => (ws[i]?.getD 0).toNat) (.int .i64 Inf) k j)[k] = []) ∨ ∃ n len, u = .sl n 0 len false ∧ H6 n = some ⟨true, 1, (part ws.length (fun i => (ws[i]?.getD 0).toNat) (.int .i64 Inf) k j)[k]⟩ ∧ ((part ws.length (fun i => (ws[i]?.getD 0).toNat) (.int .i64 Inf) k j)[k]).length = len * 1 := by
        rcases hrow with ⟨e, e', _⟩ | ⟨n, e, e', _⟩
        · exact .inl ⟨e, e'⟩
        · exact .inr ⟨n, _, e, hs6 _ _ e', by omega⟩
      refine appC_one hrow' hbx rfl (by decide) (by omega) (by omega) fun m H7 hm hbm hf7 => ?_
      have hmN : N ≠ m := name_ne tab6.outer hm
      have huN : ∀ n o l f, u = V.sl n o l f → N ≠ n := by
        rintro n o l f rfl
        rcases hrow with ⟨e, _⟩ | ⟨n', e, _, _, hne⟩
        · cases e
        · injection e with e; rw [e]; exact fun h => hne h.symm
      have hN7 : H7 N = some ⟨true, 1, us⟩ := by rw [hf7 N hmN huN]; exact tab6.outer
      have hul : us.length = ws.length := by rw [tab.len, part_len]
      simp only [go_sem, ↓reduceIte, Nat.reduceEqDiff, Nat.reduceAdd, reduceCtorEq, h2, h5, h13, h14, h15, h6, h20, h21, ia_nat hk]
      refine stC_intro hN7 trivial rfl (by decide) (by show k + 1 ≤ us.length; omega) fun H8 hb8 hf8 hs8 => ?_
      simp only [go_sem, ↓reduceIte, Nat.reduceEqDiff, Nat.reduceAdd, reduceCtorEq, h2, h5, h13, h14, h15, h6, h20, h21]
      refine ⟨by trivial, by trivial, by trivial, by trivial, by trivial, by trivial, by trivial, by trivial, by trivial, us.set k (.sl m 0 (j+1) false), ?_⟩
      rw [← part_push hk]
      have hp := tab6.push (H' := H8) (i := k) (m := m) (v := .int .i64 Inf) hkp hm (by
          rw [hb8, hpl, show V.cells (V.sl m 0 (lenV u + 1) false) = [V.sl m 0 (lenV u + 1) false] from rfl, splice_one _ _ _ (by omega), hlu]) (by rw [hf8 m hmN.symm]; exact hbm) (by
          intro q h1 h2 h3
          rw [hf8 q h1]
          exact hf7 q h2 fun n o l f e => h3 n o l f (by rw [hu, e]))
      rw [hpl] at hp
      exact hp
    · rintro env H' ⟨h2, h5, h13, h14, h15, h6, h20, h21, us, tab⟩
      simp only [go_sem, ↓reduceIte, Nat.reduceEqDiff, Nat.reduceAdd, reduceCtorEq, h2, h5, h13, h14, h15]
      refine ⟨by trivial, by trivial, by trivial, by trivial, by trivial, by trivial, us, ?_⟩
      rw [← part_next, gk, hwk]
      exact tab
  · rintro env H' ⟨h2, h5, h13, h14, h15, us, tab⟩
    simp only [go_sem, ↓reduceIte, Nat.reduceEqDiff, Nat.reduceAdd, reduceCtorEq, h5]
    refine finO_self ⟨hs02.trans' tab.sub, N, us, rfl, ?_⟩
    have e : part ws.length (fun i => (ws[i]?.getD 0).toNat) (.int .i64 Inf) ws.length 0 = ws.map fun w => List.replicate w.toNat (.int .i64 Inf) := by
      apply List.ext_getElem
      · simp [part_len]
      · intro i h1 h2
        have hi : i < ws.length := by rw [part_len] at h1; exact h1
        rw [part_get hi, if_pos hi, List.getElem_map, getD_eq hi]
    rw [e] at tab
    exact ⟨hs02.trans' tab.sub, tab.outer, hs02.none' tab.oN, tab.len, fun i h => (tab.row i h).imp id fun ⟨n, a, b, c, d⟩ => ⟨n, a, b, hs02.none' c, d⟩, tab.inj⟩
end Go.AM
