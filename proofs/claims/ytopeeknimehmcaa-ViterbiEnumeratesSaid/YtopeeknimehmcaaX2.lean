/- codewrightlaw49.alive. Conditions: none. -/
import Derived.Test.YtopeeknimehmcaaQ0
set_option linter.unusedVariables false
set_option linter.unusedSimpArgs false
namespace Go.AM
open Go Go.Proofs
attribute [local go_sem] c_skip c_ops c_seq c_ite c_blk c_exit c_ret t_normal t_exit t_ret b_normal b_exit b_ret i_nil i_cons s_guard s_mov s_pick s_new s_zero s_ld s_ldr s_st s_bin s_beq s_isnil s_eqs s_un s_conv s_fa s_fld s_ia s_sli s_ext s_ifc s_mkf s_agg s_len s_mm s_nilchk s_bsl s_mk s_app s_cpy s_call s_inv cells_agg cells_int cells_bool p_get p_none o_s o_c e_0 e_1 e_2 e_3 e_4 iteC_true iteC_false grd_tt grd_tf grd_ft grd_ff grd_und bindV_some pickV_t pickV_f beq_bool conv_int un_not not_dec mm_min mm_max bv_add bv_sub bv_mul bv_eql bv_neq bv_lss bv_leq bv_gtr bv_geq f_normal f_one f_two f_three f_none fa_ptr fld_one ext_tup len_sl len_nils decide_true decide_false not_true_eq_false not_false_eq_true List.map_cons List.map_nil List.append_nil List.cons_append List.nil_append Nat.zero_add Nat.add_zero Nat.mul_one Nat.succ_ne_self if_true if_false List.getElem?_cons_zero List.getElem?_cons_succ

/-- codewrightlaw49.alive -/
def F11 : AF := ⟨34, [(0, none)], (.seq (.ops [⟨none, false, (some 0), (.mov (.c (.bool false)))⟩]) (.seq (.ops [⟨none, false, (some 5), (.bsl 1 2 [(.int .i64 (0)), (.int .i64 (0))] [(0, (1, (.c (.int .i64 (1))))), (1, (1, (.c (.int .i64 (1)))))])⟩, ⟨none, false, (some 6), (.agg [(.int .i64 (0)), (.int .i64 (0)), (.int .i64 (0))] [(0, (1, (.c (.int .i64 (0))))), (1, (1, (.c (.int .i64 (0))))), (2, (1, (.c (.int .i64 (0)))))])⟩, ⟨none, false, (some 7), (.agg [(.int .i64 (0)), (.int .i64 (0)), (.int .i64 (0))] [(0, (1, (.c (.int .i64 (0))))), (1, (1, (.c (.int .i64 (1))))), (2, (1, (.c (.int .i64 (0)))))])⟩, ⟨none, false, (some 8), (.bsl 3 2 [(.int .i64 (0)), (.int .i64 (0)), (.int .i64 (0)), (.int .i64 (0)), (.int .i64 (0)), (.int .i64 (0))] [(0, (3, (.s 6))), (3, (3, (.s 7)))])⟩, ⟨none, false, (some 9), (.bsl 1 1 [.nils] [(0, (1, (.s 8)))])⟩, ⟨none, false, (some 10), (.agg [.nils, .nils] [(0, (1, (.s 5))), (1, (1, (.s 9)))])⟩, ⟨none, false, (some 11), (.bsl 1 2 [(.int .i64 (0)), (.int .i64 (0))] [(0, (1, (.c (.int .i64 (5))))), (1, (1, (.c (.int .i64 (3)))))])⟩, ⟨none, false, (some 12), (.bsl 1 1 [.nils] [(0, (1, (.s 11)))])⟩, ⟨none, false, (some 13), (.call (.c (.fn 12 [])) [(.s 10), (.s 12)])⟩, ⟨none, false, (some 4), (.mov (.s 13))⟩, ⟨none, false, (some 14), (.ext (.s 4) 0)⟩, ⟨none, false, (some 15), (.ext (.s 4) 1)⟩, ⟨none, false, (some 16), (.ext (.s 4) 2)⟩, ⟨none, false, (some 1), (.mov (.s 14))⟩, ⟨none, false, (some 2), (.mov (.s 15))⟩, ⟨none, false, (some 3), (.mov (.s 16))⟩]) (.seq (.ops [⟨none, false, (some 17), (.mov (.s 3))⟩, ⟨none, false, (some 18), (.bin .eql (.s 17) (.c (.int .i64 (0))))⟩, ⟨none, false, (some 19), (.mov (.s 18))⟩, ⟨(some (19, true)), false, (some 20), (.mov (.s 2))⟩, ⟨(some (19, true)), false, (some 21), (.bin .eql (.s 20) (.c (.int .i64 (3))))⟩, ⟨none, false, (some 22), (.pick (.s 19) (.s 21) (.c (.bool false)))⟩, ⟨none, false, (some 23), (.mov (.s 22))⟩, ⟨(some (23, true)), false, (some 24), (.mov (.s 1))⟩, ⟨(some (23, true)), false, (some 25), (.len (.s 24))⟩, ⟨(some (23, true)), false, (some 26), (.bin .eql (.s 25) (.c (.int .i64 (1))))⟩, ⟨none, false, (some 27), (.pick (.s 23) (.s 26) (.c (.bool false)))⟩, ⟨none, false, (some 28), (.mov (.s 27))⟩, ⟨(some (28, true)), false, (some 29), (.mov (.s 1))⟩, ⟨(some (28, true)), false, (some 30), (.ia 1 (.s 29) (.c (.int .i64 (0))))⟩, ⟨(some (28, true)), false, (some 31), (.ld false 1 (.s 30) none)⟩, ⟨(some (28, true)), false, (some 32), (.bin .eql (.s 31) (.c (.int .i64 (1))))⟩, ⟨none, false, (some 33), (.pick (.s 28) (.s 32) (.c (.bool false)))⟩, ⟨none, false, (some 0), (.mov (.s 33))⟩]) .ret)))⟩
theorem cv11 : cvF Try.prog 11 = some F11 := by kernel_rfl


def exC : List (List Int) := [[5, 3]]
theorem ex_along : alongI exW exE exC = 0 := by
  unfold alongI
  rw [if_neg (by rw [ex_proper]; decide), if_neg (by decide), if_neg, pricedI, if_neg]
  · rintro ⟨l, hl, x, hx, h⟩
    have : l = [5, 3] := by simpa [exC] using hl
    subst this
    have : x = 5 ∨ x = 3 := by simpa using hx
    omega
  · rintro ⟨i, hi, e, he, hb⟩
    obtain rfl : i = 0 := by simp [exE] at hi; omega
    have : e = ⟨0, 0, 0⟩ ∨ e = ⟨0, 1, 0⟩ := by simpa [exE] using he
    rcases this with rfl | rfl <;> simp [exC] at hb
theorem ex_cost : at2 (bTab exW exE (at2 exC)) 0 0 = 3 := by decide +kernel
theorem ex_word : wordUpTo exE (bTab exW exE (at2 exC)) (at2 exC) exE.length exE.length = [1] := by decide +kernel

theorem alive_spec (H : Heap) : ACalls Try.prog 11 [] H fun u H' => u = .bool true ∧ H' = H := by
  refine ACalls.of_body hm cv11 (by simp only [List.length_nil]; decide) ?_
  simp only [F11, go_sem, ↓reduceIte, Nat.reduceEqDiff, Nat.reduceAdd, reduceCtorEq, fillV, List.length_cons, List.length_nil, splice, Nat.reduceLeDiff, Nat.zero_lt_one, and_self, List.take_zero, List.take_succ_cons, List.drop_succ_cons, List.drop_zero, List.drop_nil, Nat.reduceLT, Nat.le_refl]
  refine newC_intro fun n1 H1 hn1 hs1 hb1 => ?_
  simp only [go_sem, ↓reduceIte, Nat.reduceEqDiff, Nat.reduceAdd, reduceCtorEq, fillV, List.length_cons, List.length_nil, splice, Nat.reduceLeDiff, Nat.zero_lt_one, and_self, List.take_zero, List.take_succ_cons, List.drop_succ_cons, List.drop_zero, List.drop_nil, Nat.reduceLT, Nat.le_refl, Option.map_some]
  refine newC_intro fun n2 H2 hn2 hs2 hb2 => ?_
  simp only [go_sem, ↓reduceIte, Nat.reduceEqDiff, Nat.reduceAdd, reduceCtorEq, fillV, List.length_cons, List.length_nil, splice, Nat.reduceLeDiff, Nat.zero_lt_one, and_self, List.take_zero, List.take_succ_cons, List.drop_succ_cons, List.drop_zero, List.drop_nil, Nat.reduceLT, Nat.le_refl, Option.map_some, show V.cells (V.sl n2 0 2 true) = [V.sl n2 0 2 true] from rfl]
  refine newC_intro fun n3 H3 hn3 hs3 hb3 => ?_
  simp only [go_sem, ↓reduceIte, Nat.reduceEqDiff, Nat.reduceAdd, reduceCtorEq, fillV, List.length_cons, List.length_nil, splice, Nat.reduceLeDiff, Nat.zero_lt_one, and_self, List.take_zero, List.take_succ_cons, List.drop_succ_cons, List.drop_zero, List.drop_nil, Nat.reduceLT, Nat.le_refl, Option.map_some, show V.cells (V.sl n1 0 2 true) = [V.sl n1 0 2 true] from rfl, show V.cells (V.sl n3 0 1 true) = [V.sl n3 0 1 true] from rfl]
  refine newC_intro fun n4 H4 hn4 hs4 hb4 => ?_
  simp only [go_sem, ↓reduceIte, Nat.reduceEqDiff, Nat.reduceAdd, reduceCtorEq, fillV, List.length_cons, List.length_nil, splice, Nat.reduceLeDiff, Nat.zero_lt_one, and_self, List.take_zero, List.take_succ_cons, List.drop_succ_cons, List.drop_zero, List.drop_nil, Nat.reduceLT, Nat.le_refl, Option.map_some, show V.cells (V.sl n4 0 2 true) = [V.sl n4 0 2 true] from rfl]
  refine newC_intro fun n5 H5 hn5 hs5 hb5 => ?_
  simp only [go_sem, ↓reduceIte, Nat.reduceEqDiff, Nat.reduceAdd, reduceCtorEq]
  have hs25 := hs3.trans' (hs4.trans' hs5)
  have hs15 := hs2.trans' hs25
  have s1 : SInts H5 (.sl n1 0 2 true) exW := sl_block (hs15 _ _ hb1) rfl (by decide)
  have s2 : SEds H5 (.sl n2 0 2 true) [⟨0, 0, 0⟩, ⟨0, 1, 0⟩] := sl_block (hs25 _ _ hb2) rfl (by decide)
  have s3 : SSecs H5 (.sl n3 0 1 true) exE := ⟨[.sl n2 0 2 true], sl_block ((hs4.trans' hs5) _ _ hb3) rfl (by decide), fun i hi => by
    obtain rfl : i = 0 := by simp [exE] at hi; omega
    exact ⟨_, rfl, s2⟩⟩
  have s4 : SInts H5 (.sl n4 0 2 true) [5, 3] := sl_block (hs5 _ _ hb4) rfl (by decide)
  have s5 : SRows H5 (.sl n5 0 1 true) exC := ⟨[.sl n4 0 2 true], sl_block hb5 rfl (by decide), fun i hi => by
    obtain rfl : i = 0 := by simp [exC] at hi; omega
    exact ⟨_, rfl, s4⟩⟩
  have hs05 := hs1.trans' hs15
  refine callC_grow (Along_spec s1 s3 s5) ?_
  rintro u H6 hs6 (⟨hne, _⟩ | ⟨_, m, rfl, hbm⟩)
  · exact absurd ex_along hne
  rw [ex_word] at hbm
  rw [ex_cost]
  have hlen : (exE.length : Nat) = 1 := rfl
  have hia : iaV 1 (.sl m 0 1 true) (.int .i64 0) = some (.ptr m 0) := rfl
  have hld : ldV H6 false 1 (.ptr m 0) = some (.int .i64 1) := by rw [ld_box hbm]; rfl
  simp only [go_sem, ↓reduceIte, Nat.reduceEqDiff, Nat.reduceAdd, reduceCtorEq, hlen, hia, hld, Int.natCast_one]
  exact finO_sub (hs05.trans' hs6) ⟨by trivial, rfl⟩
end Go.AM
