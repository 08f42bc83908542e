/- codewrightlaw47.alive. Conditions: none. -/
import Derived.Test.YtopeeknimehmcaaR4
import Derived.Test.YtopeeknimehmcaaN4
set_option linter.unusedVariables false
set_option linter.unusedSimpArgs false
namespace Go.AM
open Go Go.Proofs
attribute [local go_sem] c_skip c_ops c_seq c_ite c_blk c_exit c_ret t_normal t_exit t_ret b_normal b_exit b_ret i_nil i_cons s_guard s_mov s_pick s_new s_zero s_ld s_ldr s_st s_bin s_beq s_isnil s_eqs s_un s_conv s_fa s_fld s_ia s_sli s_ext s_ifc s_mkf s_agg s_len s_mm s_nilchk s_bsl s_mk s_app s_cpy s_call s_inv cells_agg cells_int cells_bool p_get p_none o_s o_c e_0 e_1 e_2 e_3 e_4 iteC_true iteC_false grd_tt grd_tf grd_ft grd_ff grd_und bindV_some pickV_t pickV_f beq_bool conv_int un_not not_dec mm_min mm_max bv_add bv_sub bv_mul bv_eql bv_neq bv_lss bv_leq bv_gtr bv_geq f_normal f_one f_two f_three f_none fa_ptr fld_one ext_tup len_sl len_nils decide_true decide_false not_true_eq_false not_false_eq_true List.map_cons List.map_nil List.append_nil List.cons_append List.nil_append Nat.zero_add Nat.add_zero Nat.mul_one Nat.succ_ne_self if_true if_false List.getElem?_cons_zero List.getElem?_cons_succ

/-- codewrightlaw47.alive -/
def F17 : AF := ⟨20, [(0, none)], (.seq (.ops [⟨none, false, (some 0), (.mov (.c (.bool false)))⟩]) (.seq (.ops [⟨none, false, (some 4), (.bsl 1 2 [(.int .i64 (0)), (.int .i64 (0))] [(0, (1, (.c (.int .i64 (1))))), (1, (1, (.c (.int .i64 (1)))))])⟩, ⟨none, false, (some 5), (.agg [(.int .i64 (0)), (.int .i64 (0)), (.int .i64 (0))] [(0, (1, (.c (.int .i64 (0))))), (1, (1, (.c (.int .i64 (0))))), (2, (1, (.c (.int .i64 (0)))))])⟩, ⟨none, false, (some 6), (.agg [(.int .i64 (0)), (.int .i64 (0)), (.int .i64 (0))] [(0, (1, (.c (.int .i64 (0))))), (1, (1, (.c (.int .i64 (1))))), (2, (1, (.c (.int .i64 (0)))))])⟩, ⟨none, false, (some 7), (.bsl 3 2 [(.int .i64 (0)), (.int .i64 (0)), (.int .i64 (0)), (.int .i64 (0)), (.int .i64 (0)), (.int .i64 (0))] [(0, (3, (.s 5))), (3, (3, (.s 6)))])⟩, ⟨none, false, (some 8), (.bsl 1 1 [.nils] [(0, (1, (.s 7)))])⟩, ⟨none, false, (some 9), (.agg [.nils, .nils] [(0, (1, (.s 4))), (1, (1, (.s 8)))])⟩, ⟨none, false, (some 10), (.call (.c (.fn 28 [])) [(.s 9)])⟩, ⟨none, false, (some 3), (.mov (.s 10))⟩, ⟨none, false, (some 11), (.ext (.s 3) 0)⟩, ⟨none, false, (some 12), (.ext (.s 3) 1)⟩, ⟨none, false, (some 1), (.mov (.s 11))⟩, ⟨none, false, (some 2), (.mov (.s 12))⟩]) (.seq (.ops [⟨none, false, (some 13), (.mov (.s 2))⟩, ⟨none, false, (some 14), (.bin .eql (.s 13) (.c (.int .i64 (0))))⟩, ⟨none, false, (some 15), (.mov (.s 14))⟩, ⟨(some (15, true)), false, (some 16), (.mov (.s 1))⟩, ⟨(some (15, true)), false, (some 17), (.bsl 1 1 [(.int .u32 (0))] [(0, (1, (.c (.int .u32 (2)))))])⟩, ⟨(some (15, true)), false, (some 18), (.call (.c (.fn 31 [])) [(.s 16), (.s 17)])⟩, ⟨none, false, (some 19), (.pick (.s 15) (.s 18) (.c (.bool false)))⟩, ⟨none, false, (some 0), (.mov (.s 19))⟩]) .ret)))⟩
theorem cv17 : cvF Try.prog 17 = some F17 := by kernel_rfl


theorem ex_paths : pathsI exE = 2 := by
  simp [pathsI, rowF, secF, exE, ctS]
theorem limbs_two {xs : List Int} (h : Limbs xs) (c : Canon xs) (e : nval xs = 2) : xs = [2] :=
  nval_inj h (by intro x hx; simp at hx; omega) c (by intro x hx; simp at hx; omega) (by rw [e]; rfl)

theorem alive47_spec (H : Heap) : ACalls Try.prog 17 [] H fun u H' => Heap.sub H H' ∧ u = .bool true := by
  refine ACalls.of_body hm cv17 (by simp only [List.length_nil]; decide) ?_
  simp only [F17, go_sem, ↓reduceIte, Nat.reduceEqDiff, Nat.reduceAdd, reduceCtorEq, fillV, List.length_cons, List.length_nil, splice, Nat.reduceLeDiff, Nat.zero_lt_one, and_self, List.take_zero, List.take_succ_cons, List.drop_succ_cons, List.drop_zero, List.drop_nil, Nat.reduceLT, Nat.le_refl]
  refine newC_intro fun n1 H1 hn1 hs1 hb1 => ?_
  simp only [go_sem, ↓reduceIte, Nat.reduceEqDiff, Nat.reduceAdd, reduceCtorEq, fillV, List.length_cons, List.length_nil, splice, Nat.reduceLeDiff, Nat.zero_lt_one, and_self, List.take_zero, List.take_succ_cons, List.drop_succ_cons, List.drop_zero, List.drop_nil, Nat.reduceLT, Nat.le_refl, Option.map_some]
  refine newC_intro fun n2 H2 hn2 hs2 hb2 => ?_
  simp only [go_sem, ↓reduceIte, Nat.reduceEqDiff, Nat.reduceAdd, reduceCtorEq, fillV, List.length_cons, List.length_nil, splice, Nat.reduceLeDiff, Nat.zero_lt_one, and_self, List.take_zero, List.take_succ_cons, List.drop_succ_cons, List.drop_zero, List.drop_nil, Nat.reduceLT, Nat.le_refl, Option.map_some, show V.cells (V.sl n2 0 2 true) = [V.sl n2 0 2 true] from rfl]
  refine newC_intro fun n3 H3 hn3 hs3 hb3 => ?_
  simp only [go_sem, ↓reduceIte, Nat.reduceEqDiff, Nat.reduceAdd, reduceCtorEq, fillV, List.length_cons, List.length_nil, splice, Nat.reduceLeDiff, Nat.zero_lt_one, and_self, List.take_zero, List.take_succ_cons, List.drop_succ_cons, List.drop_zero, List.drop_nil, Nat.reduceLT, Nat.le_refl, Option.map_some, show V.cells (V.sl n1 0 2 true) = [V.sl n1 0 2 true] from rfl, show V.cells (V.sl n3 0 1 true) = [V.sl n3 0 1 true] from rfl]
  have hs23 := hs2.trans' hs3
  have s1 : SInts H3 (.sl n1 0 2 true) exW := sl_block (hs23 _ _ hb1) rfl (by decide)
  have s2 : SEds H3 (.sl n2 0 2 true) [⟨0, 0, 0⟩, ⟨0, 1, 0⟩] := sl_block (hs3 _ _ hb2) rfl (by decide)
  have s3 : SSecs H3 (.sl n3 0 1 true) exE := ⟨[.sl n2 0 2 true], sl_block hb3 rfl (by decide), fun i hi => by
    obtain rfl : i = 0 := by simp [exE] at hi; omega
    exact ⟨_, rfl, s2⟩⟩
  have hs03 := hs1.trans' hs23
  refine callC_grow (Paths_spec s1 s3) ?_
  rintro u H4 hs4 (⟨hne, _⟩ | ⟨_, v, rfl, xs, hx, hl, hc, hv, _⟩)
  · exact absurd ex_proper hne
  rw [ex_paths] at hv
  obtain rfl := limbs_two hl hc hv
  simp only [go_sem, ↓reduceIte, Nat.reduceEqDiff, Nat.reduceAdd, reduceCtorEq, fillV, List.length_cons, List.length_nil, splice, Nat.reduceLeDiff, Nat.zero_lt_one, and_self, List.take_zero, List.take_succ_cons, List.drop_succ_cons, List.drop_zero, List.drop_nil, Nat.reduceLT, Nat.le_refl, decide_true, Option.map_some]
  refine newC_intro fun n5 H5 hn5 hs5 hb5 => ?_
  simp only [go_sem, ↓reduceIte, Nat.reduceEqDiff, Nat.reduceAdd, reduceCtorEq]
  have s5 : SLimbs H5 (.sl n5 0 1 true) [2] := sl_block hb5 rfl (by decide)
  refine callC_pure (rNatSame_spec (hx.mono hs5) s5) ?_
  simp only [go_sem, ↓reduceIte, Nat.reduceEqDiff, Nat.reduceAdd, reduceCtorEq]
  exact finO_self ⟨hs03.trans' (hs4.trans' hs5), rfl⟩
end Go.AM
