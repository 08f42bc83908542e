/- The law TrellisAccepts. Conditions: none. -/
import Derived.Test.YtopeeknimehmcaaS1
import Derived.Test.YtopeeknimehmcaaG3
import Derived.Test.YtopeeknimehmcaaR6
import Derived.Test.YtopeeknimehmcaaX1
import Derived.Test.YtopeeknimehmcaaP5
set_option linter.unusedVariables false
set_option linter.unusedSimpArgs false
namespace Go.AM
open Go Go.Proofs
attribute [local go_sem] c_skip c_ops c_seq c_ite c_blk c_exit c_ret t_normal t_exit t_ret b_normal b_exit b_ret i_nil i_cons s_guard s_mov s_pick s_new s_zero s_ld s_ldr s_st s_bin s_beq s_isnil s_eqs s_un s_conv s_fa s_fld s_ia s_sli s_ext s_ifc s_mkf s_agg s_len s_mm s_nilchk s_bsl s_mk s_app s_cpy s_call s_inv cells_agg cells_int cells_bool p_get p_none o_s o_c e_0 e_1 e_2 e_3 e_4 iteC_true iteC_false grd_tt grd_tf grd_ft grd_ff grd_und bindV_some pickV_t pickV_f beq_bool conv_int un_not not_dec mm_min mm_max bv_add bv_sub bv_mul bv_eql bv_neq bv_lss bv_leq bv_gtr bv_geq f_normal f_one f_two f_three f_none fa_ptr fld_one ext_tup len_sl len_nils decide_true decide_false not_true_eq_false not_false_eq_true List.map_cons List.map_nil List.append_nil List.cons_append List.nil_append Nat.zero_add Nat.add_zero Nat.mul_one Nat.succ_ne_self if_true if_false List.getElem?_cons_zero List.getElem?_cons_succ

/-- codewrightlaw47.TrellisAccepts -/
def F6 : AF := ⟨46, [(4, none)], (.seq (.ops [⟨none, false, (some 2), (.new (.s 0))⟩, ⟨none, false, (some 4), (.mov (.c (.bool false)))⟩]) (.seq (.seq (.ops [⟨none, false, (some 8), (.ld true 2 (.s 2) none)⟩, ⟨none, false, (some 9), (.call (.c (.fn 10 [])) [(.s 8), (.c (.int .i64 (3000)))])⟩, ⟨none, false, (some 10), (.un .not (.s 9))⟩]) (.ite (.s 10) (.seq (.ops [⟨none, false, (some 11), (.call (.c (.fn 17 [])) [])⟩, ⟨none, false, (some 4), (.mov (.s 11))⟩]) .ret) .skip)) (.seq (.ops [⟨none, false, (some 13), (.ld true 2 (.s 2) none)⟩, ⟨none, false, (some 14), (.mov (.s 1))⟩, ⟨none, false, (some 15), (.call (.c (.fn 26 [])) [(.s 13), (.s 14)])⟩, ⟨none, false, (some 12), (.mov (.s 15))⟩, ⟨none, false, (some 16), (.ext (.s 12) 0)⟩, ⟨none, false, (some 17), (.ext (.s 12) 1)⟩, ⟨none, false, (some 5), (.mov (.s 16))⟩, ⟨none, false, (some 6), (.mov (.s 17))⟩]) (.seq (.ops [⟨none, false, (some 18), (.ld true 2 (.s 2) none)⟩, ⟨none, false, (some 19), (.call (.c (.fn 19 [])) [(.s 18)])⟩, ⟨none, false, (some 7), (.mov (.s 19))⟩]) (.seq (.seq (.ops [⟨none, false, (some 20), (.mov (.s 7))⟩, ⟨none, false, (some 21), (.bin .eql (.s 20) (.c (.int .i64 (0))))⟩, ⟨none, false, (some 22), (.mov (.s 21))⟩, ⟨(some (22, true)), false, (some 23), (.mov (.s 1))⟩, ⟨(some (22, true)), false, (some 24), (.len (.s 23))⟩, ⟨(some (22, true)), false, (some 25), (.fa 1 (.s 2))⟩, ⟨(some (22, true)), false, (some 26), (.ld false 1 (.s 25) none)⟩, ⟨(some (22, true)), false, (some 27), (.len (.s 26))⟩, ⟨(some (22, true)), false, (some 28), (.bin .neq (.s 24) (.s 27))⟩, ⟨none, false, (some 29), (.pick (.s 22) (.s 28) (.c (.bool false)))⟩]) (.ite (.s 29) (.ops [⟨none, false, (some 7), (.mov (.c (.int .i64 (4))))⟩]) .skip)) (.seq (.seq (.ops [⟨none, false, (some 30), (.mov (.s 6))⟩, ⟨none, false, (some 31), (.mov (.s 7))⟩, ⟨none, false, (some 32), (.bin .neq (.s 30) (.s 31))⟩, ⟨none, false, (some 33), (.mov (.s 32))⟩, ⟨(some (33, false)), false, (some 34), (.call (.c (.fn 17 [])) [])⟩, ⟨(some (33, false)), false, (some 35), (.un .not (.s 34))⟩, ⟨none, false, (some 36), (.pick (.s 33) (.c (.bool true)) (.s 35))⟩]) (.ite (.s 36) (.seq (.ops [⟨none, false, (some 4), (.mov (.c (.bool false)))⟩]) .ret) .skip)) (.seq (.seq (.ops [⟨none, false, (some 37), (.mov (.s 7))⟩, ⟨none, false, (some 38), (.bin .neq (.s 37) (.c (.int .i64 (0))))⟩]) (.ite (.s 38) (.seq (.ops [⟨none, false, (some 39), (.mov (.s 5))⟩, ⟨none, false, (some 40), (.un .not (.s 39))⟩, ⟨none, false, (some 4), (.mov (.s 40))⟩]) .ret) .skip)) (.seq (.ops [⟨none, false, (some 41), (.mov (.s 5))⟩, ⟨none, false, (some 42), (.ld true 2 (.s 2) none)⟩, ⟨none, false, (some 43), (.mov (.s 1))⟩, ⟨none, false, (some 44), (.call (.c (.fn 27 [])) [(.s 42), (.s 43)])⟩, ⟨none, false, (some 45), (.beq false (.s 41) (.s 44))⟩, ⟨none, false, (some 4), (.mov (.s 45))⟩]) .ret))))))))⟩
theorem cv6 : cvF Try.prog 6 = some F6 := by kernel_rfl


theorem accepts_main : ∀ H v0 ws0 es0 v1 xs1, STre H v0 ws0 es0 → (∀ w ∈ ws0, I64 w) → (∀ l ∈ es0, ∀ e ∈ l, EdI e) → SInts H v1 xs1 → (∀ x ∈ xs1, I64 x) → ACalls Try.prog 6 [v0, v1] H fun v _ => v = .bool true := by
  rintro H v0 ws es wv w ⟨sv, ev, rfl, hs, he⟩ _ _ hw _
  refine ACalls.of_body hm cv6 (by simp only [List.length_cons, List.length_nil]; decide) ?_
  simp only [F6, go_sem, ↓reduceIte, Nat.reduceEqDiff, Nat.reduceAdd, reduceCtorEq]
  refine newC_intro fun n1 H1 hn1 hs1 hb1 => ?_
  simp only [go_sem, ↓reduceIte, Nat.reduceEqDiff, Nat.reduceAdd, reduceCtorEq, ld_boxa hb1 (show 0 + 2 ≤ _ by simp), fillV, List.length_cons, List.length_nil, splice, Nat.reduceLeDiff, Nat.zero_lt_one, and_self, List.take_zero, List.take_succ_cons, List.drop_succ_cons, List.drop_zero, List.drop_nil, Nat.reduceLT, Nat.le_refl]
  refine callC_any (Few_spec (ws := ws) (by decide) (by decide) (SSecs.mono he hs1)) ?_
  rintro u H0 ⟨⟨b, rfl⟩, rfl⟩
  cases b
  · simp only [go_sem, ↓reduceIte, Nat.reduceEqDiff, Nat.reduceAdd, reduceCtorEq, Bool.not_false]
    refine callC_grow (alive47_spec _) ?_
    rintro u H2 hs2 rfl
    simp only [go_sem, ↓reduceIte, Nat.reduceEqDiff, Nat.reduceAdd, reduceCtorEq]
    exact finO_self rfl
  simp only [go_sem, ↓reduceIte, Nat.reduceEqDiff, Nat.reduceAdd, reduceCtorEq, Bool.not_true, ld_boxa hb1 (show 0 + 2 ≤ _ by simp), fillV, List.length_cons, List.length_nil, splice, Nat.reduceLeDiff, Nat.zero_lt_one, and_self, List.take_zero, List.take_succ_cons, List.drop_succ_cons, List.drop_zero, List.drop_nil, Nat.reduceLT, Nat.le_refl]
  refine callC_pure (Accepts_spec (hs.mono hs1) (SSecs.mono he hs1) (hw.mono hs1)) ?_
  simp only [go_sem, ↓reduceIte, Nat.reduceEqDiff, Nat.reduceAdd, reduceCtorEq, ld_boxa hb1 (show 0 + 2 ≤ _ by simp), fillV, List.length_cons, List.length_nil, splice, Nat.reduceLeDiff, Nat.zero_lt_one, and_self, List.take_zero, List.take_succ_cons, List.drop_succ_cons, List.drop_zero, List.drop_nil, Nat.reduceLT, Nat.le_refl]
  refine callC_pure (rProper_spec (hs.mono hs1) (SSecs.mono he hs1)) ?_
  by_cases hp : properI ws es = 0
  · by_cases hl : w.length = es.length
    · have e0 : accE ws es w = 0 := by rw [accE, if_neg (by simp [hp]), if_neg (by omega)]
      have hl' : (w.length : Int) = (es.length : Int) := by omega
      simp only [go_sem, ↓reduceIte, Nat.reduceEqDiff, Nat.reduceAdd, reduceCtorEq, hp, e0, ld_box hb1, SLists.len (SSecs.mono he hs1), (hw.mono hs1).len, hl']
      refine callC_grow (alive47_spec _) ?_
      rintro u H2 hs2 rfl
      have hs02 := hs1.trans' hs2
      simp only [go_sem, ↓reduceIte, Nat.reduceEqDiff, Nat.reduceAdd, reduceCtorEq, Bool.not_true, ld_boxa (hs2 _ _ hb1) (show 0 + 2 ≤ _ by simp), fillV, List.length_cons, List.length_nil, splice, Nat.reduceLeDiff, Nat.zero_lt_one, and_self, List.take_zero, List.take_succ_cons, List.drop_succ_cons, List.drop_zero, List.drop_nil, Nat.reduceLT, Nat.le_refl]
      refine callC_pure (rAccepts_spec (hs.mono hs02) (SSecs.mono he hs02) (hw.mono hs02) hp hl) ?_
      simp only [go_sem, ↓reduceIte, Nat.reduceEqDiff, Nat.reduceAdd, reduceCtorEq]
      exact finO_self (by simp)
    · have e0 : accE ws es w = 4 := by rw [accE, if_neg (by simp [hp]), if_pos hl]
      have hl' : ¬ (w.length : Int) = (es.length : Int) := by omega
      simp only [go_sem, ↓reduceIte, Nat.reduceEqDiff, Nat.reduceAdd, reduceCtorEq, hp, e0, ld_box hb1, SLists.len (SSecs.mono he hs1), (hw.mono hs1).len, hl', show ¬ (4 : Int) = 0 by decide]
      refine callC_grow (alive47_spec _) ?_
      rintro u H2 hs2 rfl
      simp only [go_sem, ↓reduceIte, Nat.reduceEqDiff, Nat.reduceAdd, reduceCtorEq, Bool.not_true, Bool.not_false, show ¬ (4 : Int) = 0 by decide]
      exact finO_self rfl
  · have e0 : accE ws es w = properI ws es := by rw [accE, if_pos hp]
    simp only [go_sem, ↓reduceIte, Nat.reduceEqDiff, Nat.reduceAdd, reduceCtorEq, hp, e0]
    refine callC_grow (alive47_spec _) ?_
    rintro u H2 hs2 rfl
    simp only [go_sem, ↓reduceIte, Nat.reduceEqDiff, Nat.reduceAdd, reduceCtorEq, Bool.not_true, Bool.not_false, hp]
    exact finO_self rfl
end Go.AM
namespace Go.Proofs.Ytopeeknimehmcaa
theorem trellisAccepts_holds : Rows.TrellisAcceptsSaid := Go.AM.trellisAccepts_over Go.AM.accepts_main
#print axioms trellisAccepts_holds
end Go.Proofs.Ytopeeknimehmcaa
