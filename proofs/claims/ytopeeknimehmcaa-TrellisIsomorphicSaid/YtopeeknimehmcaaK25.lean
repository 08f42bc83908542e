/- codewrightlaw47.alive. Conditions: none. -/
import Derived.Test.YtopeeknimehmcaaK24
set_option linter.unusedVariables false
set_option linter.unusedSimpArgs false
namespace Go.AM
open Go Go.Proofs
attribute [local go_sem] c_skip c_ops c_seq c_ite c_blk c_exit c_ret t_normal t_exit t_ret b_normal b_exit b_ret i_nil i_cons s_guard s_mov s_pick s_new s_zero s_ld s_ldr s_st s_bin s_beq s_isnil s_eqs s_un s_conv s_fa s_fld s_ia s_sli s_ext s_ifc s_mkf s_agg s_len s_mm s_nilchk s_bsl s_mk s_app s_cpy s_call s_inv cells_agg cells_int cells_bool p_get p_none o_s o_c e_0 e_1 e_2 e_3 e_4 iteC_true iteC_false grd_tt grd_tf grd_ft grd_ff grd_und bindV_some pickV_t pickV_f beq_bool conv_int un_not not_dec mm_min mm_max bv_add bv_sub bv_mul bv_eql bv_neq bv_lss bv_leq bv_gtr bv_geq f_normal f_one f_two f_three f_none fa_ptr fld_one ext_tup len_sl len_nils decide_true decide_false not_true_eq_false not_false_eq_true List.map_cons List.map_nil List.append_nil List.cons_append List.nil_append Nat.zero_add Nat.add_zero Nat.mul_one Nat.succ_ne_self if_true if_false List.getElem?_cons_zero List.getElem?_cons_succ

/-- codewrightlaw47.alive -/
def F17 : AF := ⟨20, [(0, none)], (.seq (.ops [⟨none, false, (some 0), (.mov (.c (.bool false)))⟩]) (.seq (.ops [⟨none, false, (some 4), (.bsl 1 2 [(.int .i64 (0)), (.int .i64 (0))] [(0, (1, (.c (.int .i64 (1))))), (1, (1, (.c (.int .i64 (1)))))])⟩, ⟨none, false, (some 5), (.agg [(.int .i64 (0)), (.int .i64 (0)), (.int .i64 (0))] [(0, (1, (.c (.int .i64 (0))))), (1, (1, (.c (.int .i64 (0))))), (2, (1, (.c (.int .i64 (0)))))])⟩, ⟨none, false, (some 6), (.agg [(.int .i64 (0)), (.int .i64 (0)), (.int .i64 (0))] [(0, (1, (.c (.int .i64 (0))))), (1, (1, (.c (.int .i64 (1))))), (2, (1, (.c (.int .i64 (0)))))])⟩, ⟨none, false, (some 7), (.bsl 3 2 [(.int .i64 (0)), (.int .i64 (0)), (.int .i64 (0)), (.int .i64 (0)), (.int .i64 (0)), (.int .i64 (0))] [(0, (3, (.s 5))), (3, (3, (.s 6)))])⟩, ⟨none, false, (some 8), (.bsl 1 1 [.nils] [(0, (1, (.s 7)))])⟩, ⟨none, false, (some 9), (.agg [.nils, .nils] [(0, (1, (.s 4))), (1, (1, (.s 8)))])⟩, ⟨none, false, (some 10), (.call (.c (.fn 28 [])) [(.s 9)])⟩, ⟨none, false, (some 3), (.mov (.s 10))⟩, ⟨none, false, (some 11), (.ext (.s 3) 0)⟩, ⟨none, false, (some 12), (.ext (.s 3) 1)⟩, ⟨none, false, (some 1), (.mov (.s 11))⟩, ⟨none, false, (some 2), (.mov (.s 12))⟩]) (.seq (.ops [⟨none, false, (some 13), (.mov (.s 2))⟩, ⟨none, false, (some 14), (.bin .eql (.s 13) (.c (.int .i64 (0))))⟩, ⟨none, false, (some 15), (.mov (.s 14))⟩, ⟨(some (15, true)), false, (some 16), (.mov (.s 1))⟩, ⟨(some (15, true)), false, (some 17), (.bsl 1 1 [(.int .u32 (0))] [(0, (1, (.c (.int .u32 (2)))))])⟩, ⟨(some (15, true)), false, (some 18), (.call (.c (.fn 31 [])) [(.s 16), (.s 17)])⟩, ⟨none, false, (some 19), (.pick (.s 15) (.s 18) (.c (.bool false)))⟩, ⟨none, false, (some 0), (.mov (.s 19))⟩]) .ret)))⟩
theorem cv17 : cvF Try.prog 17 = some F17 := by kernel_rfl


theorem ex_paths : pathsI exE = 2 := by
  simp [pathsI, rowF, secF, exE, ctS]
theorem limbs_two {xs : List Int} (h : Limbs xs) (c : Canon xs) (e : nval xs = 2) : xs = [2] :=
  nval_inj h (by intro x hx; simp at hx; omega) c (by intro x hx; simp at hx; omega) (by rw [e]; rfl)

theorem alive47_spec (H : Heap) : ACalls Try.prog 17 [] H fun u H' => Heap.sub H H' ∧ u = .bool true := by
  refine ACalls.of_body hm cv17 (by simp only [List.length_nil]; decide) ?_
  simp only [F17, go_sem, ↓reduceIte, Nat.reduceEqDiff, Nat.reduceAdd, reduceCtorEq, fillV, List.length_cons, List.length_nil, splice, Nat.reduceLeDiff, Nat.zero_lt_one, and_self, List.take_zero, List.take_succ_cons, List.drop_succ_cons, List.drop_zero, List.drop_nil, Nat.reduceLT, Nat.le_refl]
  refine newC_intro fun n1 H1 hn1 hs1 hb1 => ?_
  simp only [go_sem, ↓reduceIte, Nat.reduceEqDiff, Nat.reduceAdd, reduceCtorEq, fillV, List.length_cons, List.length_nil, splice, Nat.reduceLeDiff, Nat.zero_lt_one, and_self, List.take_zero, List.take_succ_cons, List.drop_succ_cons, List.drop_zero, List.drop_nil, Nat.reduceLT, Nat.le_refl, Option.map_some]
  refine newC_intro fun n2 H2 hn2 hs2 hb2 => ?_
  simp only [go_sem, ↓reduceIte, Nat.reduceEqDiff, Nat.reduceAdd, reduceCtorEq, fillV, List.length_cons, List.length_nil, splice, Nat.reduceLeDiff, Nat.zero_lt_one, and_self, List.take_zero, List.take_succ_cons, List.drop_succ_cons, List.drop_zero, List.drop_nil, Nat.reduceLT, Nat.le_refl, Option.map_some, show V.cells (V.sl n2 0 2 true) = [V.sl n2 0 2 true] from rfl]
  refine newC_intro fun n3 H3 hn3 hs3 hb3 => ?_
  simp only [go_sem, ↓reduceIte, Nat.reduceEqDiff, Nat.reduceAdd, reduceCtorEq, fillV, List.length_cons, List.length_nil, splice, Nat.reduceLeDiff, Nat.zero_lt_one, and_self, List.take_zero, List.take_succ_cons, List.drop_succ_cons, List.drop_zero, List.drop_nil, Nat.reduceLT, Nat.le_refl, Option.map_some, show V.cells (V.sl n1 0 2 true) = [V.sl n1 0 2 true] from rfl, show V.cells (V.sl n3 0 1 true) = [V.sl n3 0 1 true] from rfl]
  have hs23 := hs2.trans' hs3
  have s1 : SInts H3 (.sl n1 0 2 true) exW := sl_block (hs23 _ _ hb1) rfl (by decide)
  have s2 : SEds H3 (.sl n2 0 2 true) [⟨0, 0, 0⟩, ⟨0, 1, 0⟩] := sl_block (hs3 _ _ hb2) rfl (by decide)
  have s3 : SSecs H3 (.sl n3 0 1 true) exE := ⟨[.sl n2 0 2 true], sl_block hb3 rfl (by decide), fun i hi => by
    obtain rfl : i = 0 := by simp [exE] at hi; omega
    exact ⟨_, rfl, s2⟩⟩
  have hs03 := hs1.trans' hs23
  refine callC_grow (Paths_spec s1 s3) ?_
  rintro u H4 hs4 (⟨hne, _⟩ | ⟨_, v, rfl, xs, hx, hl, hc, hv, _⟩)
  · exact absurd ex_proper hne
  rw [ex_paths] at hv
  obtain rfl := limbs_two hl hc hv
  simp only [go_sem, ↓reduceIte, Nat.reduceEqDiff, Nat.reduceAdd, reduceCtorEq, fillV, List.length_cons, List.length_nil, splice, Nat.reduceLeDiff, Nat.zero_lt_one, and_self, List.take_zero, List.take_succ_cons, List.drop_succ_cons, List.drop_zero, List.drop_nil, Nat.reduceLT, Nat.le_refl, decide_true, Option.map_some]
  refine newC_intro fun n5 H5 hn5 hs5 hb5 => ?_
  simp only [go_sem, ↓reduceIte, Nat.reduceEqDiff, Nat.reduceAdd, reduceCtorEq]
  have s5 : SLimbs H5 (.sl n5 0 1 true) [2] := sl_block hb5 rfl (by decide)
  refine callC_pure (rNatSame_spec (hx.mono hs5) s5) ?_
  simp only [go_sem, ↓reduceIte, Nat.reduceEqDiff, Nat.reduceAdd, reduceCtorEq]
  exact finO_self ⟨hs03.trans' (hs4.trans' hs5), rfl⟩
end Go.AM

/- The reference's Isomorphic, and the law TrellisIsomorphic. Conditions: none. -/
set_option linter.unusedVariables false
set_option linter.unusedSimpArgs false
namespace Go.AM
open Go Go.Proofs
attribute [local go_sem] c_skip c_ops c_seq c_ite c_blk c_exit c_ret t_normal t_exit t_ret b_normal b_exit b_ret i_nil i_cons s_guard s_mov s_pick s_new s_zero s_ld s_ldr s_st s_bin s_beq s_isnil s_eqs s_un s_conv s_fa s_fld s_ia s_sli s_ext s_ifc s_mkf s_agg s_len s_mm s_nilchk s_bsl s_mk s_app s_cpy s_call s_inv cells_agg cells_int cells_bool p_get p_none o_s o_c e_0 e_1 e_2 e_3 e_4 iteC_true iteC_false grd_tt grd_tf grd_ft grd_ff grd_und bindV_some pickV_t pickV_f beq_bool conv_int un_not not_dec mm_min mm_max bv_add bv_sub bv_mul bv_eql bv_neq bv_lss bv_leq bv_gtr bv_geq f_normal f_one f_two f_three f_none fa_ptr fld_one ext_tup len_sl len_nils decide_true decide_false not_true_eq_false not_false_eq_true List.map_cons List.map_nil List.append_nil List.cons_append List.nil_append Nat.zero_add Nat.add_zero Nat.mul_one Nat.succ_ne_self if_true if_false List.getElem?_cons_zero List.getElem?_cons_succ

/-- codewrightref47.Isomorphic -/
def F40 : AF := ⟨20, [(4, none)], (.seq (.ops [⟨none, false, (some 2), (.new (.s 0))⟩, ⟨none, false, (some 3), (.new (.s 1))⟩, ⟨none, false, (some 4), (.mov (.c (.bool false)))⟩]) (.seq (.ops [⟨none, false, (some 5), (.ld true 2 (.s 2) none)⟩, ⟨none, true, (some 6), (.call (.c (.fn 19 [])) [(.s 5)])⟩, ⟨none, false, (some 7), (.bin .eql (.s 6) (.c (.int .i64 (0))))⟩, ⟨none, false, (some 8), (.mov (.s 7))⟩, ⟨(some (8, true)), false, (some 9), (.ld true 2 (.s 3) none)⟩, ⟨(some (8, true)), true, (some 10), (.call (.c (.fn 19 [])) [(.s 9)])⟩, ⟨(some (8, true)), false, (some 11), (.bin .eql (.s 10) (.c (.int .i64 (0))))⟩, ⟨none, false, (some 12), (.pick (.s 8) (.s 11) (.c (.bool false)))⟩, ⟨none, false, (some 13), (.mov (.s 12))⟩, ⟨(some (13, true)), false, (some 14), (.ld true 2 (.s 2) none)⟩, ⟨(some (13, true)), false, (some 16), (.ld true 2 (.s 3) none)⟩, ⟨(some (13, true)), true, (some 15), (.call (.c (.fn 37 [])) [(.s 14)])⟩, ⟨(some (13, true)), true, (some 17), (.call (.c (.fn 37 [])) [(.s 16)])⟩, ⟨(some (13, true)), true, (some 18), (.call (.c (.fn 36 [])) [(.s 15), (.s 17)])⟩, ⟨none, false, (some 19), (.pick (.s 13) (.s 18) (.c (.bool false)))⟩, ⟨none, false, (some 4), (.mov (.s 19))⟩]) .ret))⟩
theorem cv40 : cvF Try.prog 40 = some F40 := by kernel_rfl

/-- codewrightlaw47.TrellisIsomorphic -/
def F9 : AF := ⟨24, [(4, none)], (.seq (.ops [⟨none, false, (some 2), (.new (.s 0))⟩, ⟨none, false, (some 3), (.new (.s 1))⟩, ⟨none, false, (some 4), (.mov (.c (.bool false)))⟩]) (.seq (.seq (.ops [⟨none, false, (some 5), (.ld true 2 (.s 2) none)⟩, ⟨none, false, (some 6), (.call (.c (.fn 10 [])) [(.s 5), (.c (.int .i64 (3000)))])⟩, ⟨none, false, (some 7), (.un .not (.s 6))⟩, ⟨none, false, (some 8), (.mov (.s 7))⟩, ⟨(some (8, false)), false, (some 9), (.ld true 2 (.s 3) none)⟩, ⟨(some (8, false)), false, (some 10), (.call (.c (.fn 10 [])) [(.s 9), (.c (.int .i64 (3000)))])⟩, ⟨(some (8, false)), false, (some 11), (.un .not (.s 10))⟩, ⟨none, false, (some 12), (.pick (.s 8) (.c (.bool true)) (.s 11))⟩]) (.ite (.s 12) (.seq (.ops [⟨none, false, (some 13), (.call (.c (.fn 17 [])) [])⟩, ⟨none, false, (some 4), (.mov (.s 13))⟩]) .ret) .skip)) (.seq (.ops [⟨none, false, (some 14), (.ld true 2 (.s 2) none)⟩, ⟨none, false, (some 15), (.ld true 2 (.s 3) none)⟩, ⟨none, false, (some 17), (.ld true 2 (.s 2) none)⟩, ⟨none, false, (some 18), (.ld true 2 (.s 3) none)⟩, ⟨none, true, (some 16), (.call (.c (.fn 39 [])) [(.s 14), (.s 15)])⟩, ⟨none, true, (some 19), (.call (.c (.fn 40 [])) [(.s 17), (.s 18)])⟩, ⟨none, false, (some 20), (.beq false (.s 16) (.s 19))⟩, ⟨none, false, (some 21), (.mov (.s 20))⟩, ⟨(some (21, true)), true, (some 22), (.call (.c (.fn 17 [])) [])⟩, ⟨none, false, (some 23), (.pick (.s 21) (.s 22) (.c (.bool false)))⟩, ⟨none, false, (some 4), (.mov (.s 23))⟩]) .ret)))⟩
theorem cv9 : cvF Try.prog 9 = some F9 := by kernel_rfl


open Classical in
theorem rIsomorphic_spec {sv ev sv' ev' : V} {ws ws' : List Int} {es es' : List (List Ed)} {H : Heap} (hs : SInts H sv ws) (he : SSecs H ev es) (hs' : SInts H sv' ws') (he' : SSecs H ev' es') : ACalls Try.prog 40 [.agg [sv, ev], .agg [sv', ev']] H fun u H' => Heap.sub H H' ∧ u = .bool (decide (isoI ws es ws' es')) := by
  refine ACalls.of_body hm cv40 (by simp only [List.length_cons, List.length_nil]; decide) ?_
  simp only [F40, go_sem, ↓reduceIte, Nat.reduceEqDiff, Nat.reduceAdd, reduceCtorEq]
  refine newC_keep Has.self fun b1 H1 G1 _ hg1 hb1 h1 => ?_
  simp only [go_sem, ↓reduceIte, Nat.reduceEqDiff, Nat.reduceAdd, reduceCtorEq]
  refine newC_keep h1 fun b2 H2 G2 _ hg2 hb2 h2 => ?_
  have hb1 := hg2 _ _ hb1
  have hg := hg1.trans' hg2
  have hw := h2.sub
  have hg02 := hg.trans' hw
  simp only [go_sem, ↓reduceIte, Nat.reduceEqDiff, Nat.reduceAdd, reduceCtorEq, ld_boxa (hw _ _ hb1) (show 0 + 2 ≤ 2 by decide), fillV, List.length_cons, List.length_nil, splice, Nat.reduceLeDiff, Nat.zero_lt_one, and_self, List.take_zero, List.take_succ_cons, List.drop_succ_cons, List.drop_zero, List.drop_nil, Nat.reduceLT, Nat.le_refl]
  refine callC_pure (rProper_spec (hs.mono hg02) (SSecs.mono he hg02)) ?_
  by_cases c1 : properI ws es = 0
  case neg =>
    simp only [go_sem, ↓reduceIte, Nat.reduceEqDiff, Nat.reduceAdd, reduceCtorEq, c1]
    exact finO_self ⟨hg02, by rw [decide_eq_false (fun h => c1 h.1)]⟩
  simp only [go_sem, ↓reduceIte, Nat.reduceEqDiff, Nat.reduceAdd, reduceCtorEq, c1, ld_boxa (hw _ _ hb2) (show 0 + 2 ≤ 2 by decide), fillV, List.length_cons, List.length_nil, splice, Nat.reduceLeDiff, Nat.zero_lt_one, and_self, List.take_zero, List.take_succ_cons, List.drop_succ_cons, List.drop_zero, List.drop_nil, Nat.reduceLT, Nat.le_refl]
  refine callC_pure (rProper_spec (hs'.mono hg02) (SSecs.mono he' hg02)) ?_
  by_cases c2 : properI ws' es' = 0
  case neg =>
    simp only [go_sem, ↓reduceIte, Nat.reduceEqDiff, Nat.reduceAdd, reduceCtorEq, c2]
    exact finO_self ⟨hg02, by rw [decide_eq_false (fun h => c2 h.2.1)]⟩
  simp only [go_sem, ↓reduceIte, Nat.reduceEqDiff, Nat.reduceAdd, reduceCtorEq, c2, ld_boxa (hw _ _ hb1) (show 0 + 2 ≤ 2 by decide), ld_boxa (hw _ _ hb2) (show 0 + 2 ≤ 2 by decide), fillV, List.length_cons, List.length_nil, splice, Nat.reduceLeDiff, Nat.zero_lt_one, and_self, List.take_zero, List.take_succ_cons, List.drop_succ_cons, List.drop_zero, List.drop_nil, Nat.reduceLT, Nat.le_refl]
  refine callC_grow (rRenumber_spec (hs.mono hg02) (SSecs.mono he hg02) c1) ?_
  rintro u H3 hs3 ⟨x, y, rfl, hx, hy⟩
  have hg03 := hg02.trans' hs3
  simp only [go_sem, ↓reduceIte, Nat.reduceEqDiff, Nat.reduceAdd, reduceCtorEq]
  refine callC_grow (rRenumber_spec (hs'.mono hg03) (SSecs.mono he' hg03) c2) ?_
  rintro u H4 hs4 ⟨x', y', rfl, hx', hy'⟩
  simp only [go_sem, ↓reduceIte, Nat.reduceEqDiff, Nat.reduceAdd, reduceCtorEq]
  refine callC_pure (rTSame_spec (hx.mono hs4) (SSecs.mono hy hs4) hx' hy') ?_
  simp only [go_sem, ↓reduceIte, Nat.reduceEqDiff, Nat.reduceAdd, reduceCtorEq]
  refine finO_self ⟨hg03.trans' hs4, ?_⟩
  congr 1
  rw [Bool.eq_iff_iff, decide_eq_true_iff, decide_eq_true_iff]
  exact ⟨fun h => ⟨c1, c2, h⟩, fun h => h.2.2⟩

theorem isomorphic_main : ∀ H v0 ws0 es0 v1 ws1 es1, STre H v0 ws0 es0 → (∀ w ∈ ws0, I64 w) → (∀ l ∈ es0, ∀ e ∈ l, EdI e) → STre H v1 ws1 es1 → (∀ w ∈ ws1, I64 w) → (∀ l ∈ es1, ∀ e ∈ l, EdI e) → ACalls Try.prog 9 [v0, v1] H fun v _ => v = .bool true := by
  rintro H v0 ws es v1 ws' es' ⟨sv, ev, rfl, hs, he⟩ _ _ ⟨sv', ev', rfl, hs', he'⟩ _ _
  refine ACalls.of_body hm cv9 (by simp only [List.length_cons, List.length_nil]; decide) ?_
  simp only [F9, go_sem, ↓reduceIte, Nat.reduceEqDiff, Nat.reduceAdd, reduceCtorEq]
  refine newC_keep Has.self fun b1 H1 G1 _ hg1 hb1 h1 => ?_
  simp only [go_sem, ↓reduceIte, Nat.reduceEqDiff, Nat.reduceAdd, reduceCtorEq]
  refine newC_keep h1 fun b2 H2 G2 _ hg2 hb2 h2 => ?_
  have hb1 := hg2 _ _ hb1
  have hg := hg1.trans' hg2
  have hw := h2.sub
  have hg02 := hg.trans' hw
  have hb1 := hw _ _ hb1
  have hb2 := hw _ _ hb2
  simp only [go_sem, ↓reduceIte, Nat.reduceEqDiff, Nat.reduceAdd, reduceCtorEq, ld_boxa hb1 (show 0 + 2 ≤ 2 by decide), fillV, List.length_cons, List.length_nil, splice, Nat.reduceLeDiff, Nat.zero_lt_one, and_self, List.take_zero, List.take_succ_cons, List.drop_succ_cons, List.drop_zero, List.drop_nil, Nat.reduceLT, Nat.le_refl]
  refine callC_any (Few_spec (ws := ws) (by decide) (by decide) (SSecs.mono he hg02)) ?_
  rintro u H0 ⟨⟨b, rfl⟩, rfl⟩
  cases b
  · simp only [go_sem, ↓reduceIte, Nat.reduceEqDiff, Nat.reduceAdd, reduceCtorEq, Bool.not_false]
    refine callC_grow (alive47_spec _) ?_
    rintro u H3 hs3 rfl
    simp only [go_sem, ↓reduceIte, Nat.reduceEqDiff, Nat.reduceAdd, reduceCtorEq]
    exact finO_self rfl
  simp only [go_sem, ↓reduceIte, Nat.reduceEqDiff, Nat.reduceAdd, reduceCtorEq, Bool.not_true, ld_boxa hb2 (show 0 + 2 ≤ 2 by decide), fillV, List.length_cons, List.length_nil, splice, Nat.reduceLeDiff, Nat.zero_lt_one, and_self, List.take_zero, List.take_succ_cons, List.drop_succ_cons, List.drop_zero, List.drop_nil, Nat.reduceLT, Nat.le_refl]
  refine callC_any (Few_spec (ws := ws') (by decide) (by decide) (SSecs.mono he' hg02)) ?_
  rintro u H0 ⟨⟨b, rfl⟩, rfl⟩
  cases b
  · simp only [go_sem, ↓reduceIte, Nat.reduceEqDiff, Nat.reduceAdd, reduceCtorEq, Bool.not_false]
    refine callC_grow (alive47_spec _) ?_
    rintro u H3 hs3 rfl
    simp only [go_sem, ↓reduceIte, Nat.reduceEqDiff, Nat.reduceAdd, reduceCtorEq]
    exact finO_self rfl
  simp only [go_sem, ↓reduceIte, Nat.reduceEqDiff, Nat.reduceAdd, reduceCtorEq, Bool.not_true, ld_boxa hb1 (show 0 + 2 ≤ 2 by decide), ld_boxa hb2 (show 0 + 2 ≤ 2 by decide), fillV, List.length_cons, List.length_nil, splice, Nat.reduceLeDiff, Nat.zero_lt_one, and_self, List.take_zero, List.take_succ_cons, List.drop_succ_cons, List.drop_zero, List.drop_nil, Nat.reduceLT, Nat.le_refl]
  refine callC_grow (Isomorphic_spec (hs.mono hg02) (SSecs.mono he hg02) (hs'.mono hg02) (SSecs.mono he' hg02)) ?_
  rintro u H3 hs3 rfl
  have hg03 := hg02.trans' hs3
  simp only [go_sem, ↓reduceIte, Nat.reduceEqDiff, Nat.reduceAdd, reduceCtorEq]
  refine callC_grow (rIsomorphic_spec (hs.mono hg03) (SSecs.mono he hg03) (hs'.mono hg03) (SSecs.mono he' hg03)) ?_
  rintro u H4 hs4 rfl
  simp only [go_sem, ↓reduceIte, Nat.reduceEqDiff, Nat.reduceAdd, reduceCtorEq, bne_self_eq_false, beq_self_eq_true, Bool.bne_false]
  refine callC_grow (alive47_spec _) ?_
  rintro u H5 hs5 rfl
  simp only [go_sem, ↓reduceIte, Nat.reduceEqDiff, Nat.reduceAdd, reduceCtorEq]
  exact finO_self rfl
end Go.AM
namespace Go.Proofs.Ytopeeknimehmcaa
theorem trellisIsomorphic_holds : Rows.TrellisIsomorphicSaid := Go.AM.trellisIsomorphic_over Go.AM.isomorphic_main
#print axioms trellisIsomorphic_holds
end Go.Proofs.Ytopeeknimehmcaa
