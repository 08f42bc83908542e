/- The law TrellisProper. Conditions: none. -/
import Derived.Test.YtopeeknimehmcaaG2
import Derived.Test.YtopeeknimehmcaaR6
import Derived.Test.YtopeeknimehmcaaX1
import Derived.Test.YtopeeknimehmcaaP5
set_option linter.unusedVariables false
set_option linter.unusedSimpArgs false
namespace Go.AM
open Go Go.Proofs
attribute [local go_sem] c_skip c_ops c_seq c_ite c_blk c_exit c_ret t_normal t_exit t_ret b_normal b_exit b_ret i_nil i_cons s_guard s_mov s_pick s_new s_zero s_ld s_ldr s_st s_bin s_beq s_isnil s_eqs s_un s_conv s_fa s_fld s_ia s_sli s_ext s_ifc s_mkf s_agg s_len s_mm s_nilchk s_bsl s_mk s_app s_cpy s_call s_inv cells_agg cells_int cells_bool p_get p_none o_s o_c e_0 e_1 e_2 e_3 e_4 iteC_true iteC_false grd_tt grd_tf grd_ft grd_ff grd_und bindV_some pickV_t pickV_f beq_bool conv_int un_not not_dec mm_min mm_max bv_add bv_sub bv_mul bv_eql bv_neq bv_lss bv_leq bv_gtr bv_geq f_normal f_one f_two f_three f_none fa_ptr fld_one ext_tup len_sl len_nils decide_true decide_false not_true_eq_false not_false_eq_true List.map_cons List.map_nil List.append_nil List.cons_append List.nil_append Nat.zero_add Nat.add_zero Nat.mul_one Nat.succ_ne_self if_true if_false List.getElem?_cons_zero List.getElem?_cons_succ

/-- codewrightlaw47.TrellisProper -/
def F4 : AF := ⟨20, [(2, none)], (.seq (.ops [⟨none, false, (some 1), (.new (.s 0))⟩, ⟨none, false, (some 2), (.mov (.c (.bool false)))⟩]) (.seq (.seq (.ops [⟨none, false, (some 3), (.ld true 2 (.s 1) none)⟩, ⟨none, false, (some 4), (.call (.c (.fn 10 [])) [(.s 3), (.c (.int .i64 (3000)))])⟩, ⟨none, false, (some 5), (.un .not (.s 4))⟩, ⟨none, false, (some 6), (.mov (.s 5))⟩, ⟨(some (6, true)), false, (some 7), (.ld true 2 (.s 1) none)⟩, ⟨(some (6, true)), false, (some 8), (.call (.c (.fn 16 [])) [(.s 7)])⟩, ⟨(some (6, true)), false, (some 9), (.bin .eql (.s 8) (.c (.int .i64 (0))))⟩, ⟨none, false, (some 10), (.pick (.s 6) (.s 9) (.c (.bool false)))⟩]) (.ite (.s 10) (.seq (.ops [⟨none, false, (some 11), (.call (.c (.fn 17 [])) [])⟩, ⟨none, false, (some 2), (.mov (.s 11))⟩]) .ret) .skip)) (.seq (.ops [⟨none, false, (some 12), (.ld true 2 (.s 1) none)⟩, ⟨none, false, (some 14), (.ld true 2 (.s 1) none)⟩, ⟨none, true, (some 13), (.call (.c (.fn 18 [])) [(.s 12)])⟩, ⟨none, true, (some 15), (.call (.c (.fn 19 [])) [(.s 14)])⟩, ⟨none, false, (some 16), (.bin .eql (.s 13) (.s 15))⟩, ⟨none, false, (some 17), (.mov (.s 16))⟩, ⟨(some (17, true)), true, (some 18), (.call (.c (.fn 17 [])) [])⟩, ⟨none, false, (some 19), (.pick (.s 17) (.s 18) (.c (.bool false)))⟩, ⟨none, false, (some 2), (.mov (.s 19))⟩]) .ret)))⟩
theorem cv4 : cvF Try.prog 4 = some F4 := by kernel_rfl


theorem proper_main : ∀ H v0 ws0 es0, STre H v0 ws0 es0 → (∀ w ∈ ws0, I64 w) → (∀ l ∈ es0, ∀ e ∈ l, EdI e) → ACalls Try.prog 4 [v0] H fun v _ => v = .bool true := by
  rintro H v0 ws es ⟨sv, ev, rfl, hs, he⟩ _ _
  refine ACalls.of_body hm cv4 (by simp only [List.length_cons, List.length_nil]; decide) ?_
  simp only [F4, go_sem, ↓reduceIte, Nat.reduceEqDiff, Nat.reduceAdd, reduceCtorEq]
  refine newC_intro fun n1 H1 hn1 hs1 hb1 => ?_
  simp only [go_sem, ↓reduceIte, Nat.reduceEqDiff, Nat.reduceAdd, reduceCtorEq, ld_boxa hb1 (show 0 + 2 ≤ _ by simp), fillV, List.length_cons, List.length_nil, splice, Nat.reduceLeDiff, Nat.zero_lt_one, and_self, List.take_zero, List.take_succ_cons, List.drop_succ_cons, List.drop_zero, List.drop_nil, Nat.reduceLT, Nat.le_refl]
  refine callC_any (Few_spec (ws := ws) (by decide) (by decide) (SSecs.mono he hs1)) ?_
  rintro u H' ⟨⟨b, rfl⟩, rfl⟩
  cases b
  · simp only [go_sem, ↓reduceIte, Nat.reduceEqDiff, Nat.reduceAdd, reduceCtorEq, Bool.not_false, ld_boxa hb1 (show 0 + 2 ≤ _ by simp), fillV, List.length_cons, List.length_nil, splice, Nat.reduceLeDiff, Nat.zero_lt_one, and_self, List.take_zero, List.take_succ_cons, List.drop_succ_cons, List.drop_zero, List.drop_nil, Nat.reduceLT, Nat.le_refl]
    refine callC_pure (rShape_spec (hs.mono hs1) (SSecs.mono he hs1)) ?_
    simp only [go_sem, ↓reduceIte, Nat.reduceEqDiff, Nat.reduceAdd, reduceCtorEq]
    refine iteC_if (fun c => ?_) (fun c => ?_)
    · simp only [go_sem, ↓reduceIte, Nat.reduceEqDiff, Nat.reduceAdd, reduceCtorEq]
      refine callC_grow (alive47_spec _) ?_
      rintro u H2 hs2 rfl
      simp only [go_sem, ↓reduceIte, Nat.reduceEqDiff, Nat.reduceAdd, reduceCtorEq]
      exact finO_self rfl
    · simp only [go_sem, ↓reduceIte, Nat.reduceEqDiff, Nat.reduceAdd, reduceCtorEq, ld_boxa hb1 (show 0 + 2 ≤ _ by simp), fillV, List.length_cons, List.length_nil, splice, Nat.reduceLeDiff, Nat.zero_lt_one, and_self, List.take_zero, List.take_succ_cons, List.drop_succ_cons, List.drop_zero, List.drop_nil, Nat.reduceLT, Nat.le_refl]
      refine callC_pure (Proper_spec (hs.mono hs1) (SSecs.mono he hs1)) ?_
      simp only [go_sem, ↓reduceIte, Nat.reduceEqDiff, Nat.reduceAdd, reduceCtorEq]
      refine callC_pure (rProper_spec (hs.mono hs1) (SSecs.mono he hs1)) ?_
      simp only [go_sem, ↓reduceIte, Nat.reduceEqDiff, Nat.reduceAdd, reduceCtorEq]
      refine callC_grow (alive47_spec _) ?_
      rintro u H2 hs2 rfl
      simp only [go_sem, ↓reduceIte, Nat.reduceEqDiff, Nat.reduceAdd, reduceCtorEq]
      exact finO_self rfl
  · simp only [go_sem, ↓reduceIte, Nat.reduceEqDiff, Nat.reduceAdd, reduceCtorEq, Bool.not_true]
    simp only [go_sem, ↓reduceIte, Nat.reduceEqDiff, Nat.reduceAdd, reduceCtorEq, ld_boxa hb1 (show 0 + 2 ≤ _ by simp), fillV, List.length_cons, List.length_nil, splice, Nat.reduceLeDiff, Nat.zero_lt_one, and_self, List.take_zero, List.take_succ_cons, List.drop_succ_cons, List.drop_zero, List.drop_nil, Nat.reduceLT, Nat.le_refl]
    refine callC_pure (Proper_spec (hs.mono hs1) (SSecs.mono he hs1)) ?_
    simp only [go_sem, ↓reduceIte, Nat.reduceEqDiff, Nat.reduceAdd, reduceCtorEq]
    refine callC_pure (rProper_spec (hs.mono hs1) (SSecs.mono he hs1)) ?_
    simp only [go_sem, ↓reduceIte, Nat.reduceEqDiff, Nat.reduceAdd, reduceCtorEq]
    refine callC_grow (alive47_spec _) ?_
    rintro u H2 hs2 rfl
    simp only [go_sem, ↓reduceIte, Nat.reduceEqDiff, Nat.reduceAdd, reduceCtorEq]
    exact finO_self rfl
end Go.AM
namespace Go.Proofs.Ytopeeknimehmcaa
theorem trellisProper_holds : Rows.TrellisProperSaid := Go.AM.trellisProper_over Go.AM.proper_main
#print axioms trellisProper_holds
end Go.Proofs.Ytopeeknimehmcaa
