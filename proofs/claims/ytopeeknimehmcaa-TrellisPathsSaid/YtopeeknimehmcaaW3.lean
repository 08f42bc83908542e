/- The law TrellisPaths. Conditions: none. -/
import Derived.Test.YtopeeknimehmcaaW2
import Derived.Test.YtopeeknimehmcaaM2
import Derived.Test.YtopeeknimehmcaaG4
import Derived.Test.YtopeeknimehmcaaR6
import Derived.Test.YtopeeknimehmcaaP5
set_option linter.unusedVariables false
set_option linter.unusedSimpArgs false
namespace Go.AM
open Go Go.Proofs
attribute [local go_sem] c_skip c_ops c_seq c_ite c_blk c_exit c_ret t_normal t_exit t_ret b_normal b_exit b_ret i_nil i_cons s_guard s_mov s_pick s_new s_zero s_ld s_ldr s_st s_bin s_beq s_isnil s_eqs s_un s_conv s_fa s_fld s_ia s_sli s_ext s_ifc s_mkf s_agg s_len s_mm s_nilchk s_bsl s_mk s_app s_cpy s_call s_inv cells_agg cells_int cells_bool p_get p_none o_s o_c e_0 e_1 e_2 e_3 e_4 iteC_true iteC_false grd_tt grd_tf grd_ft grd_ff grd_und bindV_some pickV_t pickV_f beq_bool conv_int un_not not_dec mm_min mm_max bv_add bv_sub bv_mul bv_eql bv_neq bv_lss bv_leq bv_gtr bv_geq f_normal f_one f_two f_three f_none fa_ptr fld_one ext_tup len_sl len_nils decide_true decide_false not_true_eq_false not_false_eq_true List.map_cons List.map_nil List.append_nil List.cons_append List.nil_append Nat.zero_add Nat.add_zero Nat.mul_one Nat.succ_ne_self if_true if_false List.getElem?_cons_zero List.getElem?_cons_succ

/-- codewrightlaw47.TrellisPaths -/
def F7 : AF := ⟨89, [(2, none)], (.seq (.ops [⟨none, false, (some 1), (.new (.s 0))⟩, ⟨none, false, (some 2), (.mov (.c (.bool false)))⟩]) (.seq (.seq (.ops [⟨none, false, (some 11), (.ld true 2 (.s 1) none)⟩, ⟨none, false, (some 12), (.call (.c (.fn 10 [])) [(.s 11), (.c (.int .i64 (3000)))])⟩, ⟨none, false, (some 13), (.un .not (.s 12))⟩]) (.ite (.s 13) (.seq (.ops [⟨none, false, (some 14), (.call (.c (.fn 17 [])) [])⟩, ⟨none, false, (some 2), (.mov (.s 14))⟩]) .ret) .skip)) (.seq (.ops [⟨none, false, (some 16), (.ld true 2 (.s 1) none)⟩, ⟨none, false, (some 17), (.call (.c (.fn 28 [])) [(.s 16)])⟩, ⟨none, false, (some 15), (.mov (.s 17))⟩, ⟨none, false, (some 18), (.ext (.s 15) 0)⟩, ⟨none, false, (some 19), (.ext (.s 15) 1)⟩, ⟨none, false, (some 3), (.mov (.s 18))⟩, ⟨none, false, (some 4), (.mov (.s 19))⟩]) (.seq (.ops [⟨none, false, (some 21), (.ld true 2 (.s 1) none)⟩, ⟨none, false, (some 22), (.call (.c (.fn 29 [])) [(.s 21)])⟩, ⟨none, false, (some 20), (.mov (.s 22))⟩, ⟨none, false, (some 23), (.ext (.s 20) 0)⟩, ⟨none, false, (some 24), (.ext (.s 20) 1)⟩, ⟨none, false, (some 5), (.mov (.s 23))⟩, ⟨none, false, (some 6), (.mov (.s 24))⟩]) (.seq (.ops [⟨none, false, (some 25), (.ld true 2 (.s 1) none)⟩, ⟨none, false, (some 26), (.call (.c (.fn 19 [])) [(.s 25)])⟩, ⟨none, false, (some 7), (.mov (.s 26))⟩]) (.seq (.seq (.ops [⟨none, false, (some 27), (.mov (.s 4))⟩, ⟨none, false, (some 28), (.mov (.s 7))⟩, ⟨none, false, (some 29), (.bin .neq (.s 27) (.s 28))⟩, ⟨none, false, (some 30), (.mov (.s 29))⟩, ⟨(some (30, false)), false, (some 31), (.call (.c (.fn 17 [])) [])⟩, ⟨(some (30, false)), false, (some 32), (.un .not (.s 31))⟩, ⟨none, false, (some 33), (.pick (.s 30) (.c (.bool true)) (.s 32))⟩]) (.ite (.s 33) (.seq (.ops [⟨none, false, (some 2), (.mov (.c (.bool false)))⟩]) .ret) .skip)) (.seq (.seq (.ops [⟨none, false, (some 34), (.mov (.s 7))⟩, ⟨none, false, (some 35), (.bin .neq (.s 34) (.c (.int .i64 (0))))⟩]) (.ite (.s 35) (.seq (.ops [⟨none, false, (some 36), (.mov (.s 6))⟩, ⟨none, false, (some 37), (.mov (.s 7))⟩, ⟨none, false, (some 38), (.bin .eql (.s 36) (.s 37))⟩, ⟨none, false, (some 39), (.mov (.s 38))⟩, ⟨(some (39, true)), false, (some 40), (.mov (.s 3))⟩, ⟨(some (39, true)), false, (some 41), (.len (.s 40))⟩, ⟨(some (39, true)), false, (some 42), (.bin .eql (.s 41) (.c (.int .i64 (0))))⟩, ⟨none, false, (some 43), (.pick (.s 39) (.s 42) (.c (.bool false)))⟩, ⟨none, false, (some 44), (.mov (.s 43))⟩, ⟨(some (44, true)), false, (some 45), (.mov (.s 5))⟩, ⟨(some (44, true)), false, (some 46), (.len (.s 45))⟩, ⟨(some (44, true)), false, (some 47), (.bin .eql (.s 46) (.c (.int .i64 (0))))⟩, ⟨none, false, (some 48), (.pick (.s 44) (.s 47) (.c (.bool false)))⟩, ⟨none, false, (some 2), (.mov (.s 48))⟩]) .ret) .skip)) (.seq (.ops [⟨none, false, (some 49), (.ld true 2 (.s 1) none)⟩, ⟨none, false, (some 50), (.call (.c (.fn 30 [])) [(.s 49)])⟩, ⟨none, false, (some 8), (.mov (.s 50))⟩]) (.seq (.seq (.ops [⟨none, false, (some 51), (.mov (.s 3))⟩, ⟨none, false, (some 52), (.mov (.s 8))⟩, ⟨none, false, (some 53), (.call (.c (.fn 31 [])) [(.s 51), (.s 52)])⟩, ⟨none, false, (some 54), (.un .not (.s 53))⟩]) (.ite (.s 54) (.seq (.ops [⟨none, false, (some 2), (.mov (.c (.bool false)))⟩]) .ret) .skip)) (.seq (.ops [⟨none, false, (some 56), (.mov (.s 8))⟩, ⟨none, false, (some 57), (.call (.c (.fn 32 [])) [(.s 56)])⟩, ⟨none, false, (some 55), (.mov (.s 57))⟩, ⟨none, false, (some 58), (.ext (.s 55) 0)⟩, ⟨none, false, (some 59), (.ext (.s 55) 1)⟩, ⟨none, false, (some 9), (.mov (.s 58))⟩, ⟨none, false, (some 10), (.mov (.s 59))⟩]) (.seq (.seq (.ops [⟨none, false, (some 60), (.mov (.s 10))⟩, ⟨none, false, (some 61), (.un .not (.s 60))⟩, ⟨none, false, (some 62), (.mov (.s 61))⟩, ⟨(some (62, false)), false, (some 63), (.mov (.s 9))⟩, ⟨(some (62, false)), false, (some 64), (.bin .gtr (.s 63) (.c (.int .i64 (65536))))⟩, ⟨none, false, (some 65), (.pick (.s 62) (.c (.bool true)) (.s 64))⟩]) (.ite (.s 65) (.seq (.ops [⟨none, false, (some 66), (.mov (.s 6))⟩, ⟨none, false, (some 67), (.bin .eql (.s 66) (.c (.int .i64 (8))))⟩, ⟨none, false, (some 68), (.mov (.s 67))⟩, ⟨(some (68, true)), false, (some 69), (.mov (.s 5))⟩, ⟨(some (68, true)), false, (some 70), (.len (.s 69))⟩, ⟨(some (68, true)), false, (some 71), (.bin .eql (.s 70) (.c (.int .i64 (0))))⟩, ⟨none, false, (some 72), (.pick (.s 68) (.s 71) (.c (.bool false)))⟩, ⟨none, false, (some 2), (.mov (.s 72))⟩]) .ret) .skip)) (.seq (.seq (.ops [⟨none, false, (some 73), (.mov (.s 6))⟩, ⟨none, false, (some 74), (.bin .neq (.s 73) (.c (.int .i64 (0))))⟩, ⟨none, false, (some 75), (.mov (.s 74))⟩, ⟨(some (75, false)), false, (some 76), (.mov (.s 5))⟩, ⟨(some (75, false)), false, (some 77), (.len (.s 76))⟩, ⟨(some (75, false)), false, (some 78), (.mov (.s 9))⟩, ⟨(some (75, false)), false, (some 79), (.bin .neq (.s 77) (.s 78))⟩, ⟨none, false, (some 80), (.pick (.s 75) (.c (.bool true)) (.s 79))⟩]) (.ite (.s 80) (.seq (.ops [⟨none, false, (some 2), (.mov (.c (.bool false)))⟩]) .ret) .skip)) (.seq (.ops [⟨none, false, (some 81), (.mov (.s 9))⟩, ⟨none, false, (some 82), (.bin .gtr (.s 81) (.c (.int .i64 (2000))))⟩, ⟨none, false, (some 83), (.mov (.s 82))⟩, ⟨(some (83, false)), false, (some 84), (.mov (.s 5))⟩, ⟨(some (83, false)), false, (some 85), (.ld true 2 (.s 1) none)⟩, ⟨(some (83, false)), false, (some 86), (.call (.c (.fn 34 [])) [(.s 85)])⟩, ⟨(some (83, false)), false, (some 87), (.call (.c (.fn 33 [])) [(.s 84), (.s 86)])⟩, ⟨none, false, (some 88), (.pick (.s 83) (.c (.bool true)) (.s 87))⟩, ⟨none, false, (some 2), (.mov (.s 88))⟩]) .ret)))))))))))))⟩
theorem cv7 : cvF Try.prog 7 = some F7 := by kernel_rfl


theorem paths_main : ∀ H v0 ws0 es0, STre H v0 ws0 es0 → (∀ w ∈ ws0, I64 w) → (∀ l ∈ es0, ∀ e ∈ l, EdI e) → ACalls Try.prog 7 [v0] H fun v _ => v = .bool true := by
  rintro H v0 ws es ⟨sv, ev, rfl, hs, he⟩ _ _
  refine ACalls.of_body hm cv7 (by simp only [List.length_cons, List.length_nil]; decide) ?_
  simp only [F7, go_sem, ↓reduceIte, Nat.reduceEqDiff, Nat.reduceAdd, reduceCtorEq]
  refine newC_intro fun n1 H1 hn1 hs1 hb1 => ?_
  simp only [go_sem, ↓reduceIte, Nat.reduceEqDiff, Nat.reduceAdd, reduceCtorEq, ld_boxa hb1 (show 0 + 2 ≤ _ by simp), fillV, List.length_cons, List.length_nil, splice, Nat.reduceLeDiff, Nat.zero_lt_one, and_self, List.take_zero, List.take_succ_cons, List.drop_succ_cons, List.drop_zero, List.drop_nil, Nat.reduceLT, Nat.le_refl]
  refine callC_any (Few_spec (ws := ws) (by decide) (by decide) (SSecs.mono he hs1)) ?_
  rintro u H0 ⟨⟨b, rfl⟩, rfl⟩
  cases b
  · simp only [go_sem, ↓reduceIte, Nat.reduceEqDiff, Nat.reduceAdd, reduceCtorEq, Bool.not_false]
    refine callC_grow (alive47_spec _) ?_
    rintro u H2 hs2 rfl
    simp only [go_sem, ↓reduceIte, Nat.reduceEqDiff, Nat.reduceAdd, reduceCtorEq]
    exact finO_self rfl
  simp only [go_sem, ↓reduceIte, Nat.reduceEqDiff, Nat.reduceAdd, reduceCtorEq, Bool.not_true, ld_boxa hb1 (show 0 + 2 ≤ _ by simp), fillV, List.length_cons, List.length_nil, splice, Nat.reduceLeDiff, Nat.zero_lt_one, and_self, List.take_zero, List.take_succ_cons, List.drop_succ_cons, List.drop_zero, List.drop_nil, Nat.reduceLT, Nat.le_refl]
  refine callC_grow (Paths_spec (hs.mono hs1) (SSecs.mono he hs1)) ?_
  rintro u H2 hs2 (⟨hne, rfl⟩ | ⟨hp, nv, rfl, hnv⟩)
  · have hne' : ¬ properI ws es = 0 := hne
    have hs02 := hs1.trans' hs2
    simp only [go_sem, ↓reduceIte, Nat.reduceEqDiff, Nat.reduceAdd, reduceCtorEq, ld_boxa (hs2 _ _ hb1) (show 0 + 2 ≤ _ by simp), fillV, List.length_cons, List.length_nil, splice, Nat.reduceLeDiff, Nat.zero_lt_one, and_self, List.take_zero, List.take_succ_cons, List.drop_succ_cons, List.drop_zero, List.drop_nil, Nat.reduceLT, Nat.le_refl]
    refine callC_grow (Words_spec (hs.mono hs02) (SSecs.mono he hs02)) ?_
    rintro u H3 hs3 (⟨_, rfl⟩ | ⟨h, _⟩ | ⟨h, _⟩)
    · have hs03 := hs02.trans' hs3
      simp only [go_sem, ↓reduceIte, Nat.reduceEqDiff, Nat.reduceAdd, reduceCtorEq, ld_boxa (hs3 _ _ (hs2 _ _ hb1)) (show 0 + 2 ≤ _ by simp), fillV, List.length_cons, List.length_nil, splice, Nat.reduceLeDiff, Nat.zero_lt_one, and_self, List.take_zero, List.take_succ_cons, List.drop_succ_cons, List.drop_zero, List.drop_nil, Nat.reduceLT, Nat.le_refl]
      refine callC_pure (rProper_spec (hs.mono hs03) (SSecs.mono he hs03)) ?_
      simp only [go_sem, ↓reduceIte, Nat.reduceEqDiff, Nat.reduceAdd, reduceCtorEq]
      refine callC_grow (alive47_spec _) ?_
      rintro u H4 hs4 rfl
      simp only [go_sem, ↓reduceIte, Nat.reduceEqDiff, Nat.reduceAdd, reduceCtorEq, Bool.not_true, hne']
      exact finO_self rfl
    · exact absurd h hne'
    · exact absurd h hne'
  · have hs02 := hs1.trans' hs2
    obtain ⟨h0, w0, wl, hgood⟩ := proper_of hp
    have sh := shaped_of h0
    have hpl := paths_len sh wl
    simp only [go_sem, ↓reduceIte, Nat.reduceEqDiff, Nat.reduceAdd, reduceCtorEq, ld_boxa (hs2 _ _ hb1) (show 0 + 2 ≤ _ by simp), fillV, List.length_cons, List.length_nil, splice, Nat.reduceLeDiff, Nat.zero_lt_one, and_self, List.take_zero, List.take_succ_cons, List.drop_succ_cons, List.drop_zero, List.drop_nil, Nat.reduceLT, Nat.le_refl]
    refine callC_grow (Words_spec (hs.mono hs02) (SSecs.mono he hs02)) ?_
    rintro u H3 hs3 hcase
    have hs03 := hs02.trans' hs3
    have hb13 := hs3 _ _ (hs2 _ _ hb1)
    obtain ⟨lv, e2, rfl, hc2⟩ : ∃ lv e2, u = .tup [lv, .int .i64 e2] ∧ ((65536 < pathsI es ∧ lv = .nils ∧ e2 = 8) ∨ (pathsI es ≤ 65536 ∧ e2 = 0 ∧ SRows H3 lv (suf es es.length 0))) := by
      rcases hcase with ⟨h, _⟩ | ⟨_, h, rfl⟩ | ⟨_, h, v, rfl, hv⟩
      · exact absurd hp h
      · exact ⟨_, _, rfl, .inl ⟨h, rfl, rfl⟩⟩
      · exact ⟨_, _, rfl, .inr ⟨h, rfl, hv⟩⟩
    simp only [go_sem, ↓reduceIte, Nat.reduceEqDiff, Nat.reduceAdd, reduceCtorEq, ld_boxa hb13 (show 0 + 2 ≤ _ by simp), fillV, List.length_cons, List.length_nil, splice, Nat.reduceLeDiff, Nat.zero_lt_one, and_self, List.take_zero, List.take_succ_cons, List.drop_succ_cons, List.drop_zero, List.drop_nil, Nat.reduceLT, Nat.le_refl]
    refine callC_pure (rProper_spec (hs.mono hs03) (SSecs.mono he hs03)) ?_
    rw [hp]
    simp only [go_sem, ↓reduceIte, Nat.reduceEqDiff, Nat.reduceAdd, reduceCtorEq]
    refine callC_grow (alive47_spec _) ?_
    rintro u H4 hs4 rfl
    have hs04 := hs03.trans' hs4
    have hb14 := hs4 _ _ hb13
    simp only [go_sem, ↓reduceIte, Nat.reduceEqDiff, Nat.reduceAdd, reduceCtorEq, Bool.not_true, ld_boxa hb14 (show 0 + 2 ≤ _ by simp), fillV, List.length_cons, List.length_nil, splice, Nat.reduceLeDiff, Nat.zero_lt_one, and_self, List.take_zero, List.take_succ_cons, List.drop_succ_cons, List.drop_zero, List.drop_nil, Nat.reduceLT, Nat.le_refl]
    refine callC_grow (rPaths_spec (hs.mono hs04) (SSecs.mono he hs04) hp) ?_
    rintro rv H5 hs5 hrv
    have hs05 := hs04.trans' hs5
    have hb15 := hs5 _ _ hb14
    have hrv' := hrv
    obtain ⟨xs, hx, lx, cx, ex, _⟩ := hnv
    obtain ⟨ys, hy, ly, cy, ey, _⟩ := hrv
    obtain rfl : xs = ys := nval_inj lx ly cx cy (by rw [ex, ey])
    simp only [go_sem, ↓reduceIte, Nat.reduceEqDiff, Nat.reduceAdd, reduceCtorEq]
    refine callC_pure (rNatSame_spec (hx.mono (hs3.trans' (hs4.trans' hs5))) hy) ?_
    simp only [go_sem, ↓reduceIte, Nat.reduceEqDiff, Nat.reduceAdd, reduceCtorEq, Bool.not_true]
    refine callC_any (rInt_spec (by decide) hrv') ?_
    rintro u H6 ⟨rfl, hs6⟩
    have hs06 := hs05.trans' hs6
    have hb16 := hs6 _ _ hb15
    clear hcase
    rcases hc2 with ⟨hbig, rfl, rfl⟩ | ⟨hsm, rfl, hrow⟩
    · by_cases c1 : pathsI es < 9223372036854775808
      · simp only [go_sem, ↓reduceIte, Nat.reduceEqDiff, Nat.reduceAdd, reduceCtorEq, c1, hbig, Bool.not_true]
        exact finO_self rfl
      · simp only [go_sem, ↓reduceIte, Nat.reduceEqDiff, Nat.reduceAdd, reduceCtorEq, c1, hbig, Bool.not_false]
        exact finO_self rfl
    · have c1 : pathsI es < 9223372036854775808 := by omega
      have c2 : ¬ 65536 < pathsI es := by omega
      have hrow6 := SRows.mono hrow (hs4.trans' (hs5.trans' hs6))
      have hlen : (((suf es es.length 0).length : Nat) : Int) = pathsI es := hpl.symm
      simp only [go_sem, ↓reduceIte, Nat.reduceEqDiff, Nat.reduceAdd, reduceCtorEq, c1, c2, Bool.not_true, SLists.len hrow6, hlen]
      by_cases c3 : 2000 < pathsI es
      · simp only [go_sem, ↓reduceIte, Nat.reduceEqDiff, Nat.reduceAdd, reduceCtorEq, c3]
        exact finO_self rfl
      · simp only [go_sem, ↓reduceIte, Nat.reduceEqDiff, Nat.reduceAdd, reduceCtorEq, c3, ld_boxa hb16 (show 0 + 2 ≤ _ by simp), fillV, List.length_cons, List.length_nil, splice, Nat.reduceLeDiff, Nat.zero_lt_one, and_self, List.take_zero, List.take_succ_cons, List.drop_succ_cons, List.drop_zero, List.drop_nil, Nat.reduceLT, Nat.le_refl]
        refine callC_grow (rWords_spec (hs.mono hs06) (SSecs.mono he hs06) hp hsm) ?_
        rintro rw7 H7 hs7 hr7
        simp only [go_sem, ↓reduceIte, Nat.reduceEqDiff, Nat.reduceAdd, reduceCtorEq]
        refine callC_pure (rSameLists_spec (SRows.mono hrow6 hs7) hr7) ?_
        simp only [go_sem, ↓reduceIte, Nat.reduceEqDiff, Nat.reduceAdd, reduceCtorEq]
        exact finO_self rfl
end Go.AM
namespace Go.Proofs.Ytopeeknimehmcaa
theorem trellisPaths_holds : Rows.TrellisPathsSaid := Go.AM.trellisPaths_over Go.AM.paths_main
#print axioms trellisPaths_holds
end Go.Proofs.Ytopeeknimehmcaa
