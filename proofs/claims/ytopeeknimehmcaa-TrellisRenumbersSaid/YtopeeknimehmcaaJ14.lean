/- codewrightref47.Proper. Conditions: none. -/
import Derived.Test.YtopeeknimehmcaaJ13
set_option linter.unusedVariables false
set_option linter.unusedSimpArgs false
namespace Go.AM
open Go Go.Proofs
attribute [local go_sem] c_skip c_ops c_seq c_ite c_blk c_exit c_ret t_normal t_exit t_ret b_normal b_exit b_ret i_nil i_cons s_guard s_mov s_pick s_new s_zero s_ld s_ldr s_st s_bin s_beq s_isnil s_eqs s_un s_conv s_fa s_fld s_ia s_sli s_ext s_ifc s_mkf s_agg s_len s_mm s_nilchk s_bsl s_mk s_app s_cpy s_call s_inv cells_agg cells_int cells_bool p_get p_none o_s o_c e_0 e_1 e_2 e_3 e_4 iteC_true iteC_false grd_tt grd_tf grd_ft grd_ff grd_und bindV_some pickV_t pickV_f beq_bool conv_int un_not not_dec mm_min mm_max bv_add bv_sub bv_mul bv_eql bv_neq bv_lss bv_leq bv_gtr bv_geq f_normal f_one f_two f_three f_none fa_ptr fld_one ext_tup len_sl len_nils decide_true decide_false not_true_eq_false not_false_eq_true List.map_cons List.map_nil List.append_nil List.cons_append List.nil_append Nat.zero_add Nat.add_zero Nat.mul_one Nat.succ_ne_self if_true if_false List.getElem?_cons_zero List.getElem?_cons_succ

/-- codewrightref47.Proper -/
def F19 : AF := ⟨138, [(2, none)], (.seq (.ops [⟨none, false, (some 1), (.new (.s 0))⟩, ⟨none, false, (some 2), (.mov (.c (.int .i64 (0))))⟩]) (.seq (.ops [⟨none, false, (some 13), (.ld true 2 (.s 1) none)⟩, ⟨none, false, (some 14), (.call (.c (.fn 16 [])) [(.s 13)])⟩, ⟨none, false, (some 3), (.mov (.s 14))⟩]) (.seq (.seq (.ops [⟨none, false, (some 15), (.mov (.s 3))⟩, ⟨none, false, (some 16), (.bin .neq (.s 15) (.c (.int .i64 (0))))⟩]) (.ite (.s 16) (.seq (.ops [⟨none, false, (some 17), (.mov (.s 3))⟩, ⟨none, false, (some 2), (.mov (.s 17))⟩]) .ret) .skip)) (.seq (.ops [⟨none, false, (some 18), (.fa 1 (.s 1))⟩, ⟨none, false, (some 19), (.ld false 1 (.s 18) none)⟩, ⟨none, false, (some 20), (.len (.s 19))⟩, ⟨none, false, (some 4), (.mov (.s 20))⟩]) (.seq (.seq (.ops [⟨none, false, (some 21), (.fa 0 (.s 1))⟩, ⟨none, false, (some 22), (.ld false 1 (.s 21) none)⟩, ⟨none, false, (some 23), (.ia 1 (.s 22) (.c (.int .i64 (0))))⟩, ⟨none, false, (some 24), (.ld false 1 (.s 23) none)⟩, ⟨none, false, (some 25), (.bin .neq (.s 24) (.c (.int .i64 (1))))⟩, ⟨none, false, (some 26), (.mov (.s 25))⟩, ⟨(some (26, false)), false, (some 27), (.fa 0 (.s 1))⟩, ⟨(some (26, false)), false, (some 28), (.ld false 1 (.s 27) none)⟩, ⟨(some (26, false)), false, (some 29), (.mov (.s 4))⟩, ⟨(some (26, false)), false, (some 30), (.ia 1 (.s 28) (.s 29))⟩, ⟨(some (26, false)), false, (some 31), (.ld false 1 (.s 30) none)⟩, ⟨(some (26, false)), false, (some 32), (.bin .neq (.s 31) (.c (.int .i64 (1))))⟩, ⟨none, false, (some 33), (.pick (.s 26) (.c (.bool true)) (.s 32))⟩]) (.ite (.s 33) (.seq (.ops [⟨none, false, (some 2), (.mov (.c (.int .i64 (5))))⟩]) .ret) .skip)) (.seq (.seq (.ops [⟨none, false, (some 5), (.mov (.c (.int .i64 (0))))⟩]) (.blk 0 (.loop (.seq (.seq (.ops [⟨none, false, (some 34), (.mov (.s 5))⟩, ⟨none, false, (some 35), (.mov (.s 4))⟩, ⟨none, false, (some 36), (.bin .lss (.s 34) (.s 35))⟩]) (.ite (.s 36) .skip (.exit 0))) (.seq (.blk 1 (.seq (.ops [⟨none, false, (some 39), (.fa 0 (.s 1))⟩, ⟨none, false, (some 40), (.ld false 1 (.s 39) none)⟩, ⟨none, false, (some 41), (.mov (.s 5))⟩, ⟨none, false, (some 42), (.ia 1 (.s 40) (.s 41))⟩, ⟨none, false, (some 43), (.ld false 1 (.s 42) none)⟩, ⟨none, false, (some 44), (.mk 1 1 [(.bool false)] (.s 43) (.s 43))⟩, ⟨none, false, (some 6), (.mov (.s 44))⟩]) (.seq (.ops [⟨none, false, (some 45), (.fa 0 (.s 1))⟩, ⟨none, false, (some 46), (.ld false 1 (.s 45) none)⟩, ⟨none, false, (some 47), (.mov (.s 5))⟩, ⟨none, false, (some 48), (.bin .add (.s 47) (.c (.int .i64 (1))))⟩, ⟨none, false, (some 49), (.ia 1 (.s 46) (.s 48))⟩, ⟨none, false, (some 50), (.ld false 1 (.s 49) none)⟩, ⟨none, false, (some 51), (.mk 1 1 [(.bool false)] (.s 50) (.s 50))⟩, ⟨none, false, (some 7), (.mov (.s 51))⟩]) (.seq (.seq (.ops [⟨none, false, (some 8), (.mov (.c (.int .i64 (0))))⟩]) (.blk 2 (.loop (.seq (.seq (.ops [⟨none, false, (some 52), (.mov (.s 8))⟩, ⟨none, false, (some 53), (.fa 1 (.s 1))⟩, ⟨none, false, (some 54), (.ld false 1 (.s 53) none)⟩, ⟨none, false, (some 55), (.mov (.s 5))⟩, ⟨none, false, (some 56), (.ia 1 (.s 54) (.s 55))⟩, ⟨none, false, (some 57), (.ld false 1 (.s 56) none)⟩, ⟨none, false, (some 58), (.len (.s 57))⟩, ⟨none, false, (some 59), (.bin .lss (.s 52) (.s 58))⟩]) (.ite (.s 59) .skip (.exit 2))) (.seq (.blk 3 (.seq (.ops [⟨none, false, (some 62), (.fa 1 (.s 1))⟩, ⟨none, false, (some 63), (.ld false 1 (.s 62) none)⟩, ⟨none, false, (some 64), (.mov (.s 5))⟩, ⟨none, false, (some 65), (.ia 1 (.s 63) (.s 64))⟩, ⟨none, false, (some 66), (.ld false 1 (.s 65) none)⟩, ⟨none, false, (some 67), (.mov (.s 8))⟩, ⟨none, false, (some 68), (.ia 3 (.s 66) (.s 67))⟩, ⟨none, false, (some 69), (.ld true 3 (.s 68) none)⟩, ⟨none, false, (some 9), (.zero [(.int .i64 (0)), (.int .i64 (0)), (.int .i64 (0))])⟩, ⟨none, false, none, (.st 3 (.s 9) (.s 69) [])⟩]) (.seq (.seq (.ops [⟨none, false, (some 70), (.fa 1 (.s 9))⟩, ⟨none, false, (some 71), (.ld false 1 (.s 70) none)⟩, ⟨none, false, (some 72), (.bin .lss (.s 71) (.c (.int .i64 (0))))⟩, ⟨none, false, (some 73), (.mov (.s 72))⟩, ⟨(some (73, false)), false, (some 74), (.fa 1 (.s 9))⟩, ⟨(some (73, false)), false, (some 75), (.ld false 1 (.s 74) none)⟩, ⟨(some (73, false)), false, (some 76), (.bin .geq (.s 75) (.c (.int .i64 (256))))⟩, ⟨none, false, (some 77), (.pick (.s 73) (.c (.bool true)) (.s 76))⟩]) (.ite (.s 77) (.seq (.ops [⟨none, false, (some 2), (.mov (.c (.int .i64 (5))))⟩]) .ret) .skip)) (.seq (.seq (.ops [⟨none, false, (some 78), (.mov (.s 8))⟩, ⟨none, false, (some 79), (.bin .gtr (.s 78) (.c (.int .i64 (0))))⟩]) (.ite (.s 79) (.seq (.ops [⟨none, false, (some 80), (.fa 1 (.s 1))⟩, ⟨none, false, (some 81), (.ld false 1 (.s 80) none)⟩, ⟨none, false, (some 82), (.mov (.s 5))⟩, ⟨none, false, (some 83), (.ia 1 (.s 81) (.s 82))⟩, ⟨none, false, (some 84), (.ld false 1 (.s 83) none)⟩, ⟨none, false, (some 85), (.mov (.s 8))⟩, ⟨none, false, (some 86), (.bin .sub (.s 85) (.c (.int .i64 (1))))⟩, ⟨none, false, (some 87), (.ia 3 (.s 84) (.s 86))⟩, ⟨none, false, (some 88), (.ld true 3 (.s 87) none)⟩, ⟨none, false, (some 10), (.zero [(.int .i64 (0)), (.int .i64 (0)), (.int .i64 (0))])⟩, ⟨none, false, none, (.st 3 (.s 10) (.s 88) [])⟩]) (.seq (.ops [⟨none, false, (some 89), (.fa 0 (.s 9))⟩, ⟨none, false, (some 90), (.ld false 1 (.s 89) none)⟩, ⟨none, false, (some 91), (.fa 0 (.s 10))⟩, ⟨none, false, (some 92), (.ld false 1 (.s 91) none)⟩, ⟨none, false, (some 93), (.bin .lss (.s 90) (.s 92))⟩, ⟨none, false, (some 94), (.mov (.s 93))⟩, ⟨(some (94, false)), false, (some 95), (.fa 0 (.s 9))⟩, ⟨(some (94, false)), false, (some 96), (.ld false 1 (.s 95) none)⟩, ⟨(some (94, false)), false, (some 97), (.fa 0 (.s 10))⟩, ⟨(some (94, false)), false, (some 98), (.ld false 1 (.s 97) none)⟩, ⟨(some (94, false)), false, (some 99), (.bin .eql (.s 96) (.s 98))⟩, ⟨(some (94, false)), false, (some 100), (.mov (.s 99))⟩, ⟨(some (100, true)), false, (some 101), (.fa 1 (.s 9))⟩, ⟨(some (100, true)), false, (some 102), (.ld false 1 (.s 101) none)⟩, ⟨(some (100, true)), false, (some 103), (.fa 1 (.s 10))⟩, ⟨(some (100, true)), false, (some 104), (.ld false 1 (.s 103) none)⟩, ⟨(some (100, true)), false, (some 105), (.bin .leq (.s 102) (.s 104))⟩, ⟨(some (94, false)), false, (some 106), (.pick (.s 100) (.s 105) (.c (.bool false)))⟩, ⟨none, false, (some 107), (.pick (.s 94) (.c (.bool true)) (.s 106))⟩]) (.ite (.s 107) (.seq (.ops [⟨none, false, (some 2), (.mov (.c (.int .i64 (5))))⟩]) .ret) .skip))) .skip)) (.seq (.ops [⟨none, false, (some 108), (.mov (.s 6))⟩, ⟨none, false, (some 109), (.fa 0 (.s 9))⟩, ⟨none, false, (some 110), (.ld false 1 (.s 109) none)⟩, ⟨none, false, (some 111), (.ia 1 (.s 108) (.s 110))⟩, ⟨none, false, none, (.st 1 (.s 111) (.c (.bool true)) [])⟩]) (.ops [⟨none, false, (some 112), (.mov (.s 7))⟩, ⟨none, false, (some 113), (.fa 2 (.s 9))⟩, ⟨none, false, (some 114), (.ld false 1 (.s 113) none)⟩, ⟨none, false, (some 115), (.ia 1 (.s 112) (.s 114))⟩, ⟨none, false, none, (.st 1 (.s 115) (.c (.bool true)) [])⟩])))))) (.ops [⟨none, false, (some 60), (.mov (.s 8))⟩, ⟨none, false, (some 61), (.bin .add (.s 60) (.c (.int .i64 (1))))⟩, ⟨none, false, (some 8), (.mov (.s 61))⟩])))))) (.seq (.seq (.ops [⟨none, false, (some 11), (.mov (.c (.int .i64 (0))))⟩]) (.blk 4 (.loop (.seq (.seq (.ops [⟨none, false, (some 116), (.mov (.s 11))⟩, ⟨none, false, (some 117), (.mov (.s 6))⟩, ⟨none, false, (some 118), (.len (.s 117))⟩, ⟨none, false, (some 119), (.bin .lss (.s 116) (.s 118))⟩]) (.ite (.s 119) .skip (.exit 4))) (.seq (.blk 5 (.seq (.ops [⟨none, false, (some 122), (.mov (.s 6))⟩, ⟨none, false, (some 123), (.mov (.s 11))⟩, ⟨none, false, (some 124), (.ia 1 (.s 122) (.s 123))⟩, ⟨none, false, (some 125), (.ld false 1 (.s 124) none)⟩, ⟨none, false, (some 126), (.un .not (.s 125))⟩]) (.ite (.s 126) (.seq (.ops [⟨none, false, (some 2), (.mov (.c (.int .i64 (5))))⟩]) .ret) .skip))) (.ops [⟨none, false, (some 120), (.mov (.s 11))⟩, ⟨none, false, (some 121), (.bin .add (.s 120) (.c (.int .i64 (1))))⟩, ⟨none, false, (some 11), (.mov (.s 121))⟩])))))) (.seq (.ops [⟨none, false, (some 12), (.mov (.c (.int .i64 (0))))⟩]) (.blk 6 (.loop (.seq (.seq (.ops [⟨none, false, (some 127), (.mov (.s 12))⟩, ⟨none, false, (some 128), (.mov (.s 7))⟩, ⟨none, false, (some 129), (.len (.s 128))⟩, ⟨none, false, (some 130), (.bin .lss (.s 127) (.s 129))⟩]) (.ite (.s 130) .skip (.exit 6))) (.seq (.blk 7 (.seq (.ops [⟨none, false, (some 133), (.mov (.s 7))⟩, ⟨none, false, (some 134), (.mov (.s 12))⟩, ⟨none, false, (some 135), (.ia 1 (.s 133) (.s 134))⟩, ⟨none, false, (some 136), (.ld false 1 (.s 135) none)⟩, ⟨none, false, (some 137), (.un .not (.s 136))⟩]) (.ite (.s 137) (.seq (.ops [⟨none, false, (some 2), (.mov (.c (.int .i64 (5))))⟩]) .ret) .skip))) (.ops [⟨none, false, (some 131), (.mov (.s 12))⟩, ⟨none, false, (some 132), (.bin .add (.s 131) (.c (.int .i64 (1))))⟩, ⟨none, false, (some 12), (.mov (.s 132))⟩]))))))))))) (.ops [⟨none, false, (some 37), (.mov (.s 5))⟩, ⟨none, false, (some 38), (.bin .add (.s 37) (.c (.int .i64 (1))))⟩, ⟨none, false, (some 5), (.mov (.s 38))⟩])))))) (.seq (.ops [⟨none, false, (some 2), (.mov (.c (.int .i64 (0))))⟩]) .ret)))))))⟩
theorem cv19 : cvF Try.prog 19 = some F19 := by kernel_rfl


theorem marks_get {w : Nat} {xs : List Int} {k : Nat} (h : k < w) : (bools (marks w xs))[k]? = some (.bool (decide ((k : Int) ∈ xs))) := by simp [bools, marks, h]

theorem rProper_spec {sv ev : V} {ws : List Int} {es : List (List Ed)} {H : Heap} (hs : SInts H sv ws) (he : SSecs H ev es) : ACalls Try.prog 19 [.agg [sv, ev]] H fun u H' => u = .int .i64 (properI ws es) ∧ H' = H := by
  refine ACalls.of_body hm cv19 (by simp only [List.length_cons, List.length_nil]; decide) ?_
  simp only [F19, go_sem, ↓reduceIte, Nat.reduceEqDiff, Nat.reduceAdd, reduceCtorEq]
  refine newC_intro fun n1 H1 hn1 hs1 hb1 => ?_
  simp only [ld_boxa hb1 (show 0 + 2 ≤ _ by simp), fillV, List.length_cons, List.length_nil, splice, Nat.reduceLeDiff, Nat.zero_lt_one, and_self, List.take_zero, List.take_succ_cons, List.drop_succ_cons, List.drop_zero, List.drop_nil, Nat.reduceLT, Nat.le_refl, go_sem, ↓reduceIte, Nat.reduceEqDiff, Nat.reduceAdd, reduceCtorEq]
  refine callC_pure (rShape_spec (hs.mono hs1) (SSecs.mono he hs1)) ?_
  simp only [go_sem, ↓reduceIte, Nat.reduceEqDiff, Nat.reduceAdd, reduceCtorEq]
  refine iteC_if (fun c0 => ?_) (fun c0 => ?_)
  · simp only [go_sem, ↓reduceIte, Nat.reduceEqDiff, Nat.reduceAdd, reduceCtorEq]
    refine finO_sub hs1 ⟨?_, rfl⟩
    rw [properI, if_pos c0]
  have sh := shaped_of (ws := ws) (es := es) (by omega)
  have e2 := sh.len
  have hn64 := sh.n
  simp only [ld_box hb1, SLists.len he, go_sem, ↓reduceIte, Nat.reduceEqDiff, Nat.reduceAdd, reduceCtorEq]
  obtain ⟨p0, i0, l0⟩ := (hs.mono hs1).get0 (by omega) .i64
  obtain ⟨pn, i1, l1⟩ := (hs.mono hs1).get (k := es.length) (by omega) .i64
  simp only [i0, l0, go_sem, ↓reduceIte, Nat.reduceEqDiff, Nat.reduceAdd, reduceCtorEq]
  have g0 := getD_eq (xs := ws) (k := 0) (by omega)
  have gn := getD_eq (xs := ws) (k := es.length) (by omega)
  by_cases c1 : ws[0] = 1
  case neg =>
    simp only [c1, go_sem, ↓reduceIte, Nat.reduceEqDiff, Nat.reduceAdd, reduceCtorEq]
    refine finO_sub hs1 ⟨?_, rfl⟩
    rw [properI, if_neg c0, if_pos (.inl (by rw [g0]; exact c1))]
  simp only [c1, i1, l1, ld_box hb1, go_sem, ↓reduceIte, Nat.reduceEqDiff, Nat.reduceAdd, reduceCtorEq]
  refine iteC_if (fun c2 => ?_) (fun c2 => ?_)
  · simp only [go_sem, ↓reduceIte, Nat.reduceEqDiff, Nat.reduceAdd, reduceCtorEq]
    refine finO_sub hs1 ⟨?_, rfl⟩
    rw [properI, if_neg c0, if_pos (.inr (by rw [gn]; exact c2))]
  have nn : ¬ (ws[0]?.getD 0 ≠ 1 ∨ ws[es.length]?.getD 0 ≠ 1) := by rw [g0, gn]; omega
  simp only [go_sem, ↓reduceIte, Nat.reduceEqDiff, Nat.reduceAdd, reduceCtorEq]
  have bad : ∀ i, (h : i < es.length) → ¬ GoodSec (ws[i]?.getD 0) (ws[i+1]?.getD 0) es[i] → V.int .i64 5 = V.int .i64 (properI ws es) := by
    intro i h hb
    rw [properI, if_neg c0, if_neg nn, if_neg fun hh => hb (hh i h)]
  refine loop_count es.length (fun k env H' => Heap.sub H1 H' ∧ env 1 = .ptr n1 0 ∧ env 4 = .int .i64 es.length ∧ env 5 = .int .i64 k ∧ ∀ i, (h : i < es.length) → i < k → GoodSec (ws[i]?.getD 0) (ws[i+1]?.getD 0) es[i]) ?_ ?_ ?_
  · simp only [go_sem, ↓reduceIte, Nat.reduceEqDiff, Nat.reduceAdd, reduceCtorEq]; simp; exact Heap.sub.rfl'
  · rintro k env H2 hk ⟨hs2, h1, h4, h5, hz⟩
    have hk' : (k : Int) < es.length := by omega
    have hs12 := hs1.trans' hs2
    obtain ⟨pe, ue, ae1, ae2', ae0⟩ := (SSecs.mono he hs1).get hk .i64
    obtain ⟨pw, w1, w2⟩ := (hs.mono hs12).get (k := k) (by omega) .i64
    have gk := getD_eq (xs := ws) (k := k) (by omega)
    have gk1 := getD_eq (xs := ws) (k := k+1) (by omega)
    have pk := sh.pos k (by omega)
    have pk1 := sh.pos (k+1) (by omega)
    obtain ⟨wk, hwk⟩ : ∃ n : Nat, ws[k] = n := ⟨ws[k].toNat, by omega⟩
    obtain ⟨wk1, hwk1⟩ : ∃ n : Nat, ws[k+1] = n := ⟨ws[k+1].toNat, by omega⟩
    simp only [go_sem, ↓reduceIte, Nat.reduceEqDiff, Nat.reduceAdd, reduceCtorEq, h1, h4, h5, hk', ld_box (hs2 _ _ hb1), w1, w2, hwk]
    refine mkC_intro (Nat.le_refl _) (by omega) (by omega) fun m1 H3 hm1 hs3 hbm1 => ?_
    simp only [go_sem, ↓reduceIte, Nat.reduceEqDiff, Nat.reduceAdd, reduceCtorEq, h1, h4, h5, ld_box (hs3 _ _ (hs2 _ _ hb1))]
    rw [wrapN1 (by omega)]
    obtain ⟨pw', w3, w4⟩ := (hs.mono (hs12.trans' hs3)).get (k := k+1) (by omega) .i64
    simp only [w3, w4, hwk1, go_sem, ↓reduceIte, Nat.reduceEqDiff, Nat.reduceAdd, reduceCtorEq]
    refine mkC_intro (Nat.le_refl _) (by omega) (by omega) fun m2 H4 hm2 hs4 hbm2 => ?_
    have hs14 : Heap.sub H1 H4 := hs2.trans' (hs3.trans' hs4)
    have hm1' : H1 m1 = none := hs2.none' hm1
    have hm2' : H1 m2 = none := (hs2.trans' hs3).none' hm2
    have hm12 : m1 ≠ m2 := name_ne hbm1 hm2
    simp only [go_sem, ↓reduceIte, Nat.reduceEqDiff, Nat.reduceAdd, reduceCtorEq]
    rw [flat_rep, ← marks_nil] at hbm1 hbm2
    have hbm1' := hs4 _ _ hbm1
    have hlk := sh.each k hk
    -- the edges of the section
    refine loop_count es[k].length (fun j env H' => Heap.sub H1 H' ∧ env 1 = .ptr n1 0 ∧ env 4 = .int .i64 es.length ∧ env 5 = .int .i64 k ∧ env 6 = .sl m1 0 wk true ∧ env 7 = .sl m2 0 wk1 true ∧ env 8 = .int .i64 j ∧
        H' m1 = some ⟨true, 1, bools (marks wk ((es[k].take j).map Ed.fr))⟩ ∧ H' m2 = some ⟨true, 1, bools (marks wk1 ((es[k].take j).map Ed.to))⟩ ∧
        (∀ i, (h : i < es[k].length) → i < j → 0 ≤ es[k][i].lb ∧ es[k][i].lb < 256) ∧ ∀ i, (h : i + 1 < es[k].length) → i + 1 < j → LexLt es[k][i] es[k][i+1]) ?_ ?_ ?_
    · simp only [go_sem, ↓reduceIte, Nat.reduceEqDiff, Nat.reduceAdd, reduceCtorEq, h1, h4, h5]
      simp [hs14, hbm1', hbm2]
    · rintro j env H5 hj ⟨hs5, h1, h4, h5, h6, h7, h8, hb1j, hb2j, hlab, hup⟩
      have hj' : (j : Int) < es[k].length := by omega
      have hu := ae0.mono hs5
      obtain ⟨p, q0, q1, q2, b1, b2, b3, b4, b5, b6, b7, b8⟩ := hu.get hj .i64
      simp only [go_sem, ↓reduceIte, Nat.reduceEqDiff, Nat.reduceAdd, reduceCtorEq, h1, h4, h5, h6, h7, h8, ld_box (hs5 _ _ hb1), ae1, ld_mono hs5 ae2', hu.len, hj', b1, b2]
      refine newC_intro fun n4 H6 hn4 hs6 hb4 => ?_
      simp only [go_sem, ↓reduceIte, Nat.reduceEqDiff, Nat.reduceAdd, reduceCtorEq]
      refine stC_intro hb4 trivial rfl (by decide) (by decide) fun H7 hb5 hf7 hs7 => ?_
      simp only [Ed.cells, fillV, List.length_cons, List.length_nil, splice, Nat.reduceLeDiff, Nat.zero_lt_one, and_self, List.take_zero, List.take_succ_cons, List.drop_succ_cons, List.drop_zero, List.drop_nil, Nat.reduceLT, Nat.le_refl, go_sem, ↓reduceIte, Nat.reduceEqDiff, Nat.reduceAdd, reduceCtorEq] at hb5
      have hs17 : Heap.sub H1 H7 := hs7 H1 (hs5.trans' hs6) (hs5.none' hn4)
      have hs57 : Heap.sub H5 H7 := hs7 H5 hs6 hn4
      have hm14 : m1 ≠ n4 := name_ne hb1j hn4
      have hm24 : m2 ≠ n4 := name_ne hb2j hn4
      have hb1j := hs57 _ _ hb1j
      have hb2j := hs57 _ _ hb2j
      have gd := sh.good k hk _ (List.getElem_mem hj)
      rw [gk, gk1, hwk, hwk1] at gd
      obtain ⟨fr, hfr⟩ : ∃ n : Nat, es[k][j].fr = n := ⟨es[k][j].fr.toNat, by omega⟩
      obtain ⟨to, hto⟩ : ∃ n : Nat, es[k][j].to = n := ⟨es[k][j].to.toNat, by omega⟩
      have bad5 : ∀ H8, Heap.sub H1 H8 → ¬ GoodSec (ws[k]?.getD 0) (ws[k+1]?.getD 0) es[k] → finO (.int .i64 5) H8 fun u H' => u = .int .i64 (properI ws es) ∧ H' = H := fun H8 h8 hb => finO_sub (hs1.trans' h8) ⟨bad k hk hb, rfl⟩
      simp only [go_sem, ↓reduceIte, Nat.reduceEqDiff, Nat.reduceAdd, reduceCtorEq, h1, h4, h5, h6, h7, h8, ld_box hb5]
      by_cases d1 : es[k][j].lb < 0
      · simp only [d1, go_sem, ↓reduceIte, Nat.reduceEqDiff, Nat.reduceAdd, reduceCtorEq]
        exact bad5 _ hs17 fun g => by have := g.lab _ (List.getElem_mem hj); omega
      simp only [d1, go_sem, ↓reduceIte, Nat.reduceEqDiff, Nat.reduceAdd, reduceCtorEq, h1, h4, h5, h6, h7, h8, ld_box hb5]
      by_cases d2 : 256 ≤ es[k][j].lb
      · simp only [d2, go_sem, ↓reduceIte, Nat.reduceEqDiff, Nat.reduceAdd, reduceCtorEq]
        exact bad5 _ hs17 fun g => by have := g.lab _ (List.getElem_mem hj); omega
      simp only [d2, go_sem, ↓reduceIte, Nat.reduceEqDiff, Nat.reduceAdd, reduceCtorEq, h1, h4, h5, h6, h7, h8, ld_box hb5]
      refine iteC_if (fun d3 => ?_) (fun d3 => ?_)
      · obtain ⟨j', rfl⟩ : ∃ j', j = j' + 1 := ⟨j - 1, by omega⟩
        obtain ⟨p', r0, r1, r2, x1, x2, _⟩ := (ae0.mono hs17).get (k := j') (by omega) .i64
        have hw' : IntKind.i64.wrap ((j' + 1 : Nat) - 1 : Int) = j' := by rw [wrapI (by omega) (by omega)]; omega
        simp only [go_sem, ↓reduceIte, Nat.reduceEqDiff, Nat.reduceAdd, reduceCtorEq, h1, h4, h5, h6, h7, h8, ld_box (hs17 _ _ hb1), ae1, ld_mono hs17 ae2', hw', x1, x2]
        refine newC_intro fun n5 H8 hn5 hs8 hb8 => ?_
        simp only [go_sem, ↓reduceIte, Nat.reduceEqDiff, Nat.reduceAdd, reduceCtorEq]
        refine stC_intro hb8 trivial rfl (by decide) (by decide) fun H9 hb9 hf9 hs9 => ?_
        simp only [Ed.cells, fillV, List.length_cons, List.length_nil, splice, Nat.reduceLeDiff, Nat.zero_lt_one, and_self, List.take_zero, List.take_succ_cons, List.drop_succ_cons, List.drop_zero, List.drop_nil, Nat.reduceLT, Nat.le_refl, go_sem, ↓reduceIte, Nat.reduceEqDiff, Nat.reduceAdd, reduceCtorEq] at hb9
        have hs19 : Heap.sub H1 H9 := hs9 H1 (hs17.trans' hs8) (hs17.none' hn5)
        have hs79 : Heap.sub H7 H9 := hs9 H7 hs8 hn5
        have hb5 := hs79 _ _ hb5
        have hb1j := hs79 _ _ hb1j
        have hb2j := hs79 _ _ hb2j
        have tail : LexLt es[k][j'] es[k][j'+1] → ∀ i, (h : i + 1 < es[k].length) → i + 1 < j' + 1 + 1 → LexLt es[k][i] es[k][i+1] := by
          intro hlex i h hi
          rcases Nat.lt_succ_iff_lt_or_eq.1 hi with hi | hi
          · exact hup i h hi
          · obtain rfl : i = j' := by omega
            exact hlex
        simp only [go_sem, ↓reduceIte, Nat.reduceEqDiff, Nat.reduceAdd, reduceCtorEq, h1, h4, h5, h6, h7, h8, ld_box hb5, ld_box hb9]
        by_cases d4 : es[k][j'+1].fr < es[k][j'].fr
        · simp only [d4, go_sem, ↓reduceIte, Nat.reduceEqDiff, Nat.reduceAdd, reduceCtorEq]
          exact bad5 _ hs19 fun g => by have := g.up j' hj; unfold LexLt at this; omega
        simp only [d4, go_sem, ↓reduceIte, Nat.reduceEqDiff, Nat.reduceAdd, reduceCtorEq, ld_box hb5, ld_box hb9]
        by_cases d5 : es[k][j'+1].fr = es[k][j'].fr
        · simp only [d5, go_sem, ↓reduceIte, Nat.reduceEqDiff, Nat.reduceAdd, reduceCtorEq, ld_box hb5, ld_box hb9]
          refine iteC_if (fun d6 => ?_) (fun d6 => ?_)
          · simp only [go_sem, ↓reduceIte, Nat.reduceEqDiff, Nat.reduceAdd, reduceCtorEq]
            exact bad5 _ hs19 fun g => by have := g.up j' hj; unfold LexLt at this; omega
          have hup' := tail (.inr ⟨d5.symm, by omega⟩)
          have hfr0 := hfr
          simp only [go_sem, ↓reduceIte, Nat.reduceEqDiff, Nat.reduceAdd, reduceCtorEq, h1, h4, h5, h6, h7, h8, ld_box hb5, hfr, hto, ia_nat (show fr < wk by omega)]
          refine stC_intro hb1j trivial rfl (by decide) (by rw [bools_len, marks_len]; omega) fun Ha hba hfa hsa => ?_
          have hs1a := hsa H1 hs19 hm1'
          have hb2a := Heap.sub.upd_keep (H0 := Ha) hfa hb2j hm12.symm
          have hb5a := Heap.sub.upd_keep (H0 := Ha) hfa hb5 hm14.symm
          rw [cells_bool, splice_one _ _ _ (by rw [bools_len, marks_len]; omega), bools_set, marks_snoc] at hba
          simp only [go_sem, ↓reduceIte, Nat.reduceEqDiff, Nat.reduceAdd, reduceCtorEq, h1, h4, h5, h6, h7, h8, ld_box hb5a, hto, ia_nat (show to < wk1 by omega)]
          refine stC_intro hb2a trivial rfl (by decide) (by rw [bools_len, marks_len]; omega) fun Hb hbb hfb hsb => ?_
          have hs1b := hsb H1 hs1a hm2'
          have hb1b := Heap.sub.upd_keep (H0 := Hb) hfb hba hm12
          rw [cells_bool, splice_one _ _ _ (by rw [bools_len, marks_len]; omega), bools_set, marks_snoc] at hbb
          simp only [go_sem, ↓reduceIte, Nat.reduceEqDiff, Nat.reduceAdd, reduceCtorEq, h1, h4, h5, h6, h7, h8]
          rw [wrapN1 (by omega)]
          refine ⟨hs1b, by trivial, by trivial, by trivial, by trivial, by trivial, by trivial, ?_, ?_, fun i h hi => ?_, hup'⟩
          · rw [map_take_succ _ _ hj, hfr0]; exact hb1b
          · rw [map_take_succ _ _ hj, hto]; exact hbb
          · rcases Nat.lt_succ_iff_lt_or_eq.1 hi with hi | rfl
            · exact hlab i h hi
            · omega
        · simp only [d5, go_sem, ↓reduceIte, Nat.reduceEqDiff, Nat.reduceAdd, reduceCtorEq, ld_box hb5, ld_box hb9]
          have hup' := tail (.inl (by omega))
          simp only [go_sem, ↓reduceIte, Nat.reduceEqDiff, Nat.reduceAdd, reduceCtorEq, h1, h4, h5, h6, h7, h8, ld_box hb5, hfr, hto, ia_nat (show fr < wk by omega)]
          refine stC_intro hb1j trivial rfl (by decide) (by rw [bools_len, marks_len]; omega) fun Ha hba hfa hsa => ?_
          have hs1a := hsa H1 hs19 hm1'
          have hb2a := Heap.sub.upd_keep (H0 := Ha) hfa hb2j hm12.symm
          have hb5a := Heap.sub.upd_keep (H0 := Ha) hfa hb5 hm14.symm
          rw [cells_bool, splice_one _ _ _ (by rw [bools_len, marks_len]; omega), bools_set, marks_snoc] at hba
          simp only [go_sem, ↓reduceIte, Nat.reduceEqDiff, Nat.reduceAdd, reduceCtorEq, h1, h4, h5, h6, h7, h8, ld_box hb5a, hto, ia_nat (show to < wk1 by omega)]
          refine stC_intro hb2a trivial rfl (by decide) (by rw [bools_len, marks_len]; omega) fun Hb hbb hfb hsb => ?_
          have hs1b := hsb H1 hs1a hm2'
          have hb1b := Heap.sub.upd_keep (H0 := Hb) hfb hba hm12
          rw [cells_bool, splice_one _ _ _ (by rw [bools_len, marks_len]; omega), bools_set, marks_snoc] at hbb
          simp only [go_sem, ↓reduceIte, Nat.reduceEqDiff, Nat.reduceAdd, reduceCtorEq, h1, h4, h5, h6, h7, h8]
          rw [wrapN1 (by omega)]
          refine ⟨hs1b, by trivial, by trivial, by trivial, by trivial, by trivial, by trivial, ?_, ?_, fun i h hi => ?_, hup'⟩
          · rw [map_take_succ _ _ hj, hfr]; exact hb1b
          · rw [map_take_succ _ _ hj, hto]; exact hbb
          · rcases Nat.lt_succ_iff_lt_or_eq.1 hi with hi | rfl
            · exact hlab i h hi
            · omega
      · have hup' : ∀ i, (h : i + 1 < es[k].length) → i + 1 < j + 1 → LexLt es[k][i] es[k][i+1] := fun i h hi => by omega
        have hs19 := hs17
        simp only [go_sem, ↓reduceIte, Nat.reduceEqDiff, Nat.reduceAdd, reduceCtorEq, h1, h4, h5, h6, h7, h8, ld_box hb5, hfr, hto, ia_nat (show fr < wk by omega)]
        refine stC_intro hb1j trivial rfl (by decide) (by rw [bools_len, marks_len]; omega) fun Ha hba hfa hsa => ?_
        have hs1a := hsa H1 hs19 hm1'
        have hb2a := Heap.sub.upd_keep (H0 := Ha) hfa hb2j hm12.symm
        have hb5a := Heap.sub.upd_keep (H0 := Ha) hfa hb5 hm14.symm
        rw [cells_bool, splice_one _ _ _ (by rw [bools_len, marks_len]; omega), bools_set, marks_snoc] at hba
        simp only [go_sem, ↓reduceIte, Nat.reduceEqDiff, Nat.reduceAdd, reduceCtorEq, h1, h4, h5, h6, h7, h8, ld_box hb5a, hto, ia_nat (show to < wk1 by omega)]
        refine stC_intro hb2a trivial rfl (by decide) (by rw [bools_len, marks_len]; omega) fun Hb hbb hfb hsb => ?_
        have hs1b := hsb H1 hs1a hm2'
        have hb1b := Heap.sub.upd_keep (H0 := Hb) hfb hba hm12
        rw [cells_bool, splice_one _ _ _ (by rw [bools_len, marks_len]; omega), bools_set, marks_snoc] at hbb
        simp only [go_sem, ↓reduceIte, Nat.reduceEqDiff, Nat.reduceAdd, reduceCtorEq, h1, h4, h5, h6, h7, h8]
        rw [wrapN1 (by omega)]
        refine ⟨hs1b, by trivial, by trivial, by trivial, by trivial, by trivial, by trivial, ?_, ?_, fun i h hi => ?_, hup'⟩
        · rw [map_take_succ _ _ hj, hfr]; exact hb1b
        · rw [map_take_succ _ _ hj, hto]; exact hbb
        · rcases Nat.lt_succ_iff_lt_or_eq.1 hi with hi | rfl
          · exact hlab i h hi
          · omega
    · rintro env H5 ⟨hs5, h1, h4, h5, h6, h7, h8, hb1j, hb2j, hlab, hup⟩
      have hu := ae0.mono hs5
      rw [List.take_length] at hb1j hb2j
      simp only [go_sem, ↓reduceIte, Nat.reduceEqDiff, Nat.reduceAdd, reduceCtorEq, h1, h4, h5, h6, h7, h8, ld_box (hs5 _ _ hb1), ae1, ld_mono hs5 ae2', hu.len, Int.lt_irrefl]
      have bad5 : ∀ H8, Heap.sub H1 H8 → ¬ GoodSec (ws[k]?.getD 0) (ws[k+1]?.getD 0) es[k] → finO (.int .i64 5) H8 fun u H' => u = .int .i64 (properI ws es) ∧ H' = H := fun H8 h8 hb => finO_sub (hs1.trans' h8) ⟨bad k hk hb, rfl⟩
      refine loop_count wk (fun v env H' => H5 = H' ∧ env 1 = .ptr n1 0 ∧ env 4 = .int .i64 es.length ∧ env 5 = .int .i64 k ∧ env 6 = .sl m1 0 wk true ∧ env 7 = .sl m2 0 wk1 true ∧ env 11 = .int .i64 v ∧ ∀ x : Nat, x < v → (x : Int) ∈ es[k].map Ed.fr) ?_ ?_ ?_
      · simp only [go_sem, ↓reduceIte, Nat.reduceEqDiff, Nat.reduceAdd, reduceCtorEq, h1, h4, h5, h6, h7]; simp
      · rintro v env H' hv ⟨rfl, h1, h4, h5, h6, h7, h11, hz⟩
        have hv' : (v : Int) < wk := by omega
        simp only [go_sem, ↓reduceIte, Nat.reduceEqDiff, Nat.reduceAdd, reduceCtorEq, h1, h4, h5, h6, h7, h11, hv', ia_nat hv, ld_box hb1j, marks_get hv]
        refine iteC_if (fun d => ?_) (fun d => ?_)
        · simp only [go_sem, ↓reduceIte, Nat.reduceEqDiff, Nat.reduceAdd, reduceCtorEq]
          refine bad5 _ hs5 fun g => ?_
          obtain ⟨e, he1, he2⟩ := g.out v (by omega) (by rw [gk, hwk]; exact hv')
          exact d (he2 ▸ List.mem_map_of_mem he1)
        · simp only [go_sem, ↓reduceIte, Nat.reduceEqDiff, Nat.reduceAdd, reduceCtorEq, h1, h4, h5, h6, h7, h11]
          rw [wrapN1 (by omega)]
          refine ⟨by trivial, by trivial, by trivial, by trivial, by trivial, by trivial, by trivial, fun x hx => ?_⟩
          rcases Nat.lt_succ_iff_lt_or_eq.1 hx with hx | rfl
          · exact hz x hx
          · exact Classical.byContradiction d
      rintro env H' ⟨rfl, h1, h4, h5, h6, h7, h11, hz1⟩
      simp only [go_sem, ↓reduceIte, Nat.reduceEqDiff, Nat.reduceAdd, reduceCtorEq, h1, h4, h5, h6, h7, h11, Int.lt_irrefl]
      refine loop_count wk1 (fun v env H' => H5 = H' ∧ env 1 = .ptr n1 0 ∧ env 4 = .int .i64 es.length ∧ env 5 = .int .i64 k ∧ env 7 = .sl m2 0 wk1 true ∧ env 12 = .int .i64 v ∧ ∀ x : Nat, x < v → (x : Int) ∈ es[k].map Ed.to) ?_ ?_ ?_
      · simp only [go_sem, ↓reduceIte, Nat.reduceEqDiff, Nat.reduceAdd, reduceCtorEq, h1, h4, h5, h6, h7]; simp
      · rintro v env H' hv ⟨rfl, h1, h4, h5, h7, h12, hz⟩
        have hv' : (v : Int) < wk1 := by omega
        simp only [go_sem, ↓reduceIte, Nat.reduceEqDiff, Nat.reduceAdd, reduceCtorEq, h1, h4, h5, h7, h12, hv', ia_nat hv, ld_box hb2j, marks_get hv]
        refine iteC_if (fun d => ?_) (fun d => ?_)
        · simp only [go_sem, ↓reduceIte, Nat.reduceEqDiff, Nat.reduceAdd, reduceCtorEq]
          refine bad5 _ hs5 fun g => ?_
          obtain ⟨e, he1, he2⟩ := g.inn v (by omega) (by rw [gk1, hwk1]; exact hv')
          exact d (he2 ▸ List.mem_map_of_mem he1)
        · simp only [go_sem, ↓reduceIte, Nat.reduceEqDiff, Nat.reduceAdd, reduceCtorEq, h1, h4, h5, h7, h12]
          rw [wrapN1 (by omega)]
          refine ⟨by trivial, by trivial, by trivial, by trivial, by trivial, by trivial, fun x hx => ?_⟩
          rcases Nat.lt_succ_iff_lt_or_eq.1 hx with hx | rfl
          · exact hz x hx
          · exact Classical.byContradiction d
      rintro env H' ⟨rfl, h1, h4, h5, h7, h12, hz2⟩
      simp only [go_sem, ↓reduceIte, Nat.reduceEqDiff, Nat.reduceAdd, reduceCtorEq, h1, h4, h5, h7, h12, Int.lt_irrefl]
      rw [wrapN1 (by omega)]
      refine ⟨hs5, by trivial, by trivial, by trivial, fun i h hi => ?_⟩
      rcases Nat.lt_succ_iff_lt_or_eq.1 hi with hi | rfl
      · exact hz i h hi
      refine ⟨fun e he => ?_, fun j h => hup j h h, fun v v1 v2 => ?_, fun v v1 v2 => ?_⟩
      · obtain ⟨j, hj, rfl⟩ := List.getElem_of_mem he; exact hlab j hj hj
      · rw [gk, hwk] at v2
        have := hz1 v.toNat (by omega)
        rw [Int.toNat_of_nonneg v1] at this
        obtain ⟨e, he1, he2⟩ := List.mem_map.1 this
        exact ⟨e, he1, he2⟩
      · rw [gk1, hwk1] at v2
        have := hz2 v.toNat (by omega)
        rw [Int.toNat_of_nonneg v1] at this
        obtain ⟨e, he1, he2⟩ := List.mem_map.1 this
        exact ⟨e, he1, he2⟩
  · rintro env H' ⟨hs2, h1, h4, h5, hz⟩
    simp only [go_sem, ↓reduceIte, Nat.reduceEqDiff, Nat.reduceAdd, reduceCtorEq, h4, h5, Int.lt_irrefl]
    refine finO_sub (hs1.trans' hs2) ⟨?_, rfl⟩
    rw [properI, if_neg c0, if_neg nn, if_pos fun i h => hz i h h]
end Go.AM

/- MinPlus; semiring.rows over it; semiring.valued over ints. Conditions: none. -/
set_option linter.unusedVariables false
set_option linter.unusedSimpArgs false
namespace Go.AM
open Go Go.Proofs
attribute [local go_sem] c_skip c_ops c_seq c_ite c_blk c_exit c_ret t_normal t_exit t_ret b_normal b_exit b_ret i_nil i_cons s_guard s_mov s_pick s_new s_zero s_ld s_ldr s_st s_bin s_beq s_isnil s_eqs s_un s_conv s_fa s_fld s_ia s_sli s_ext s_ifc s_mkf s_agg s_len s_mm s_nilchk s_bsl s_mk s_app s_cpy s_call s_inv cells_agg cells_int cells_bool p_get p_none o_s o_c e_0 e_1 e_2 e_3 e_4 iteC_true iteC_false grd_tt grd_tf grd_ft grd_ff grd_und bindV_some pickV_t pickV_f beq_bool conv_int un_not not_dec mm_min mm_max bv_add bv_sub bv_mul bv_eql bv_neq bv_lss bv_leq bv_gtr bv_geq f_normal f_one f_two f_three f_none fa_ptr fld_one ext_tup len_sl len_nils decide_true decide_false not_true_eq_false not_false_eq_true List.map_cons List.map_nil List.append_nil List.cons_append List.nil_append Nat.zero_add Nat.add_zero Nat.mul_one Nat.succ_ne_self if_true if_false List.getElem?_cons_zero List.getElem?_cons_succ

/-- semiring.cost -/
def F169 : AF := ⟨6, [(2, none)], (.seq (.ops [⟨none, false, (some 2), (.mov (.c (.int .i64 (0))))⟩]) (.seq (.ops [⟨none, false, (some 3), (.mov (.s 0))⟩, ⟨none, false, (some 4), (.mm true (.s 3) (.c (.int .i64 (0))))⟩, ⟨none, false, (some 5), (.mm false (.s 4) (.c (.int .i64 (4611686018427387904))))⟩, ⟨none, false, (some 2), (.mov (.s 5))⟩]) .ret))⟩
theorem cv169 : cvF Try.prog 169 = some F169 := by kernel_rfl

/-- semiring.capped -/
def F170 : AF := ⟨12, [(4, none)], (.seq (.ops [⟨none, false, (some 4), (.mov (.c (.int .i64 (0))))⟩]) (.seq (.seq (.ops [⟨none, false, (some 5), (.mov (.s 0))⟩, ⟨none, false, (some 6), (.mov (.s 1))⟩, ⟨none, false, (some 7), (.bin .sub (.c (.int .i64 (4611686018427387904))) (.s 6))⟩, ⟨none, false, (some 8), (.bin .gtr (.s 5) (.s 7))⟩]) (.ite (.s 8) (.seq (.ops [⟨none, false, (some 4), (.mov (.c (.int .i64 (4611686018427387904))))⟩]) .ret) .skip)) (.seq (.ops [⟨none, false, (some 9), (.mov (.s 0))⟩, ⟨none, false, (some 10), (.mov (.s 1))⟩, ⟨none, false, (some 11), (.bin .add (.s 9) (.s 10))⟩, ⟨none, false, (some 4), (.mov (.s 11))⟩]) .ret)))⟩
theorem cv170 : cvF Try.prog 170 = some F170 := by kernel_rfl

/-- (semiring.MinPlus).Zero -/
def F168 : AF := ⟨3, [(2, none)], (.seq (.ops [⟨none, false, (some 1), (.new (.s 0))⟩, ⟨none, false, (some 2), (.mov (.c (.int .i64 (0))))⟩]) (.seq (.ops [⟨none, false, (some 2), (.mov (.c (.int .i64 (4611686018427387904))))⟩]) .ret))⟩
theorem cv168 : cvF Try.prog 168 = some F168 := by kernel_rfl

/-- (semiring.MinPlus).One -/
def F167 : AF := ⟨3, [(2, none)], (.seq (.ops [⟨none, false, (some 1), (.new (.s 0))⟩, ⟨none, false, (some 2), (.mov (.c (.int .i64 (0))))⟩]) (.seq (.ops [⟨none, false, (some 2), (.mov (.c (.int .i64 (0))))⟩]) .ret))⟩
theorem cv167 : cvF Try.prog 167 = some F167 := by kernel_rfl

/-- (semiring.MinPlus).Add -/
def F165 : AF := ⟨12, [(6, none)], (.seq (.ops [⟨none, false, (some 3), (.new (.s 0))⟩, ⟨none, false, (some 6), (.mov (.c (.int .i64 (0))))⟩]) (.seq (.ops [⟨none, false, (some 7), (.mov (.s 1))⟩, ⟨none, false, (some 8), (.call (.c (.fn 169 [])) [(.s 7)])⟩, ⟨none, false, (some 9), (.mov (.s 2))⟩, ⟨none, false, (some 10), (.call (.c (.fn 169 [])) [(.s 9)])⟩, ⟨none, false, (some 11), (.mm false (.s 8) (.s 10))⟩, ⟨none, false, (some 6), (.mov (.s 11))⟩]) .ret))⟩
theorem cv165 : cvF Try.prog 165 = some F165 := by kernel_rfl

/-- (semiring.MinPlus).Mul -/
def F166 : AF := ⟨12, [(6, none)], (.seq (.ops [⟨none, false, (some 3), (.new (.s 0))⟩, ⟨none, false, (some 6), (.mov (.c (.int .i64 (0))))⟩]) (.seq (.ops [⟨none, false, (some 7), (.mov (.s 1))⟩, ⟨none, false, (some 8), (.call (.c (.fn 169 [])) [(.s 7)])⟩, ⟨none, false, (some 9), (.mov (.s 2))⟩, ⟨none, false, (some 10), (.call (.c (.fn 169 [])) [(.s 9)])⟩, ⟨none, false, (some 11), (.call (.c (.fn 170 [])) [(.s 8), (.s 10)])⟩, ⟨none, false, (some 6), (.mov (.s 11))⟩]) .ret))⟩
theorem cv166 : cvF Try.prog 166 = some F166 := by kernel_rfl

/-- semiring.rows[int,semiring.MinPlus] -/
def F102 : AF := ⟨38, [(4, none)], (.seq (.ops [⟨none, false, (some 2), (.new (.s 0))⟩, ⟨none, false, (some 3), (.new (.s 1))⟩, ⟨none, false, (some 4), (.mov (.c .nils))⟩]) (.seq (.ops [⟨none, false, (some 8), (.fa 0 (.s 3))⟩, ⟨none, false, (some 9), (.ld false 1 (.s 8) none)⟩, ⟨none, false, (some 10), (.len (.s 9))⟩, ⟨none, false, (some 11), (.mk 1 24 [.nils] (.s 10) (.s 10))⟩, ⟨none, false, (some 5), (.mov (.s 11))⟩]) (.seq (.seq (.ops [⟨none, false, (some 12), (.fa 0 (.s 3))⟩, ⟨none, false, (some 13), (.ld false 1 (.s 12) none)⟩, ⟨none, false, (some 14), (.len (.s 13))⟩, ⟨none, false, (some 15), (.mov (.c (.int .i64 (0))))⟩]) (.blk 0 (.loop (.seq (.ops [⟨none, false, (some 16), (.bin .lss (.s 15) (.s 14))⟩]) (.seq (.ite (.s 16) .skip (.exit 0)) (.seq (.blk 1 (.seq (.ops [⟨none, false, (some 17), (.mov (.s 15))⟩, ⟨none, false, (some 18), (.ia 1 (.s 13) (.s 15))⟩, ⟨none, false, (some 19), (.ld false 1 (.s 18) none)⟩, ⟨none, false, (some 6), (.mov (.s 17))⟩, ⟨none, false, (some 7), (.mov (.s 19))⟩]) (.seq (.ops [⟨none, false, (some 20), (.mov (.s 7))⟩, ⟨none, false, (some 21), (.mov (.c (.int .i64 (0))))⟩]) (.blk 2 (.loop (.seq (.ops [⟨none, false, (some 22), (.bin .lss (.s 21) (.s 20))⟩]) (.seq (.ite (.s 22) .skip (.exit 2)) (.seq (.blk 3 (.ops [⟨none, false, (some 23), (.mov (.s 5))⟩, ⟨none, false, (some 24), (.mov (.s 6))⟩, ⟨none, false, (some 25), (.mov (.s 5))⟩, ⟨none, false, (some 26), (.mov (.s 6))⟩, ⟨none, false, (some 27), (.ia 1 (.s 25) (.s 26))⟩, ⟨none, false, (some 28), (.ld false 1 (.s 27) none)⟩, ⟨none, false, (some 29), (.ld true 0 (.s 2) none)⟩, ⟨none, false, (some 30), (.ifc 115 (.s 29))⟩, ⟨none, true, (some 31), (.inv (.s 30) 115 168 [])⟩, ⟨none, false, (some 32), (.bsl 1 1 [(.int .i64 (0))] [(0, (1, (.s 31)))])⟩, ⟨none, false, (some 33), (.app 1 8 (.s 28) (.s 32) [])⟩, ⟨none, false, (some 34), (.ia 1 (.s 23) (.s 24))⟩, ⟨none, false, none, (.st 1 (.s 34) (.s 33) [])⟩])) (.ops [⟨none, false, (some 35), (.bin .add (.s 21) (.c (.int .i64 (1))))⟩, ⟨none, false, (some 21), (.mov (.s 35))⟩]))))))))) (.ops [⟨none, false, (some 36), (.bin .add (.s 15) (.c (.int .i64 (1))))⟩, ⟨none, false, (some 15), (.mov (.s 36))⟩]))))))) (.seq (.ops [⟨none, false, (some 37), (.mov (.s 5))⟩, ⟨none, false, (some 4), (.mov (.s 37))⟩]) .ret))))⟩
theorem cv102 : cvF Try.prog 102 = some F102 := by kernel_rfl

/-- semiring.valued[int] -/
def F101 : AF := ⟨36, [(4, none)], (.seq (.ops [⟨none, false, (some 2), (.new (.s 0))⟩, ⟨none, false, (some 4), (.mov (.c (.int .i64 (0))))⟩]) (.seq (.seq (.ops [⟨none, false, (some 8), (.ld true 2 (.s 2) none)⟩, ⟨none, false, (some 9), (.call (.c (.fn 47 [])) [(.s 8)])⟩, ⟨none, false, (some 5), (.mov (.s 9))⟩]) (.seq (.ops [⟨none, false, (some 10), (.mov (.s 5))⟩, ⟨none, false, (some 11), (.bin .neq (.s 10) (.c (.int .i64 (0))))⟩]) (.ite (.s 11) (.seq (.ops [⟨none, false, (some 12), (.mov (.s 5))⟩, ⟨none, false, (some 4), (.mov (.s 12))⟩]) .ret) .skip))) (.seq (.seq (.ops [⟨none, false, (some 13), (.mov (.s 1))⟩, ⟨none, false, (some 14), (.len (.s 13))⟩, ⟨none, false, (some 15), (.fa 1 (.s 2))⟩, ⟨none, false, (some 16), (.ld false 1 (.s 15) none)⟩, ⟨none, false, (some 17), (.len (.s 16))⟩, ⟨none, false, (some 18), (.bin .neq (.s 14) (.s 17))⟩]) (.ite (.s 18) (.seq (.ops [⟨none, false, (some 4), (.mov (.c (.int .i64 (3))))⟩]) .ret) .skip)) (.seq (.seq (.ops [⟨none, false, (some 19), (.fa 1 (.s 2))⟩, ⟨none, false, (some 20), (.ld false 1 (.s 19) none)⟩, ⟨none, false, (some 21), (.len (.s 20))⟩, ⟨none, false, (some 22), (.mov (.c (.int .i64 (0))))⟩]) (.blk 0 (.loop (.seq (.ops [⟨none, false, (some 23), (.bin .lss (.s 22) (.s 21))⟩]) (.seq (.ite (.s 23) .skip (.exit 0)) (.seq (.blk 1 (.seq (.ops [⟨none, false, (some 24), (.mov (.s 22))⟩, ⟨none, false, (some 25), (.ia 1 (.s 20) (.s 22))⟩, ⟨none, false, (some 26), (.ld false 1 (.s 25) none)⟩, ⟨none, false, (some 6), (.mov (.s 24))⟩, ⟨none, false, (some 7), (.mov (.s 26))⟩]) (.seq (.ops [⟨none, false, (some 27), (.mov (.s 1))⟩, ⟨none, false, (some 28), (.mov (.s 6))⟩, ⟨none, false, (some 29), (.ia 1 (.s 27) (.s 28))⟩, ⟨none, false, (some 30), (.ld false 1 (.s 29) none)⟩, ⟨none, false, (some 31), (.len (.s 30))⟩, ⟨none, false, (some 32), (.mov (.s 7))⟩, ⟨none, false, (some 33), (.len (.s 32))⟩, ⟨none, false, (some 34), (.bin .neq (.s 31) (.s 33))⟩]) (.ite (.s 34) (.seq (.ops [⟨none, false, (some 4), (.mov (.c (.int .i64 (3))))⟩]) .ret) .skip)))) (.ops [⟨none, false, (some 35), (.bin .add (.s 22) (.c (.int .i64 (1))))⟩, ⟨none, false, (some 22), (.mov (.s 35))⟩]))))))) (.seq (.ops [⟨none, false, (some 4), (.mov (.c (.int .i64 (0))))⟩]) .ret)))))⟩
theorem cv101 : cvF Try.prog 101 = some F101 := by kernel_rfl


def Inf : Int := 4611686018427387904
def costI (a : Int) : Int := if Inf < (if a < 0 then 0 else a) then Inf else (if a < 0 then 0 else a)
def mpAdd (a b : Int) : Int := if costI b < costI a then costI b else costI a
def mpMul (a b : Int) : Int := if Inf - costI b < costI a then Inf else costI a + costI b
theorem costI_range (a : Int) : 0 ≤ costI a ∧ costI a ≤ Inf := by unfold costI Inf; split <;> split <;> omega
theorem costI_id {a : Int} (h0 : 0 ≤ a) (h1 : a ≤ Inf) : costI a = a := by unfold costI; rw [if_neg (by omega), if_neg (by omega)]

theorem cost_spec (a : Int) (H : Heap) : ACalls Try.prog 169 [.int .i64 a] H fun u H' => u = .int .i64 (costI a) ∧ H' = H := by
  refine ACalls.of_body hm cv169 (by simp only [List.length_cons, List.length_nil]; decide) ?_
  simp only [F169, go_sem, ↓reduceIte, Nat.reduceEqDiff, Nat.reduceAdd, reduceCtorEq]
  refine finO_self ⟨?_, rfl⟩
  rfl
theorem capped_spec (a b : Int) (ha : 0 ≤ a ∧ a ≤ Inf) (hb : 0 ≤ b ∧ b ≤ Inf) (H : Heap) : ACalls Try.prog 170 [.int .i64 a, .int .i64 b] H fun u H' => u = .int .i64 (if Inf - b < a then Inf else a + b) ∧ H' = H := by
  refine ACalls.of_body hm cv170 (by simp only [List.length_cons, List.length_nil]; decide) ?_
  unfold Inf at *
  simp (disch := omega) only [F170, go_sem, ↓reduceIte, Nat.reduceEqDiff, Nat.reduceAdd, reduceCtorEq, wrapI]
  refine iteC_if (fun h => ?_) (fun h => ?_)
  · simp only [go_sem, ↓reduceIte, Nat.reduceEqDiff, Nat.reduceAdd, reduceCtorEq]
    exact finO_self ⟨by rw [if_pos h], rfl⟩
  · simp (disch := omega) only [go_sem, ↓reduceIte, Nat.reduceEqDiff, Nat.reduceAdd, reduceCtorEq, wrapI]
    exact finO_self ⟨by rw [if_neg h], rfl⟩
theorem Zero_spec (H : Heap) : ACalls Try.prog 168 [.agg []] H fun u H' => u = .int .i64 Inf ∧ H' = H := by
  refine ACalls.of_body hm cv168 (by simp only [List.length_cons, List.length_nil]; decide) ?_
  simp only [F168, go_sem, ↓reduceIte, Nat.reduceEqDiff, Nat.reduceAdd, reduceCtorEq]
  refine newC_intro fun n1 H1 hn1 hs1 hb1 => ?_
  simp only [go_sem, ↓reduceIte, Nat.reduceEqDiff, Nat.reduceAdd, reduceCtorEq]
  exact finO_sub hs1 ⟨rfl, rfl⟩
theorem One_spec (H : Heap) : ACalls Try.prog 167 [.agg []] H fun u H' => u = .int .i64 0 ∧ H' = H := by
  refine ACalls.of_body hm cv167 (by simp only [List.length_cons, List.length_nil]; decide) ?_
  simp only [F167, go_sem, ↓reduceIte, Nat.reduceEqDiff, Nat.reduceAdd, reduceCtorEq]
  refine newC_intro fun n1 H1 hn1 hs1 hb1 => ?_
  simp only [go_sem, ↓reduceIte, Nat.reduceEqDiff, Nat.reduceAdd, reduceCtorEq]
  exact finO_sub hs1 ⟨rfl, rfl⟩
theorem Add_spec (a b : Int) (H : Heap) : ACalls Try.prog 165 [.agg [], .int .i64 a, .int .i64 b] H fun u H' => u = .int .i64 (mpAdd a b) ∧ H' = H := by
  refine ACalls.of_body hm cv165 (by simp only [List.length_cons, List.length_nil]; decide) ?_
  simp only [F165, go_sem, ↓reduceIte, Nat.reduceEqDiff, Nat.reduceAdd, reduceCtorEq]
  refine newC_intro fun n1 H1 hn1 hs1 hb1 => ?_
  simp only [go_sem, ↓reduceIte, Nat.reduceEqDiff, Nat.reduceAdd, reduceCtorEq]
  refine callC_pure (cost_spec _ _) ?_
  simp only [go_sem, ↓reduceIte, Nat.reduceEqDiff, Nat.reduceAdd, reduceCtorEq]
  refine callC_pure (cost_spec _ _) ?_
  simp only [go_sem, ↓reduceIte, Nat.reduceEqDiff, Nat.reduceAdd, reduceCtorEq]
  exact finO_sub hs1 ⟨rfl, rfl⟩
theorem Mul_spec (a b : Int) (H : Heap) : ACalls Try.prog 166 [.agg [], .int .i64 a, .int .i64 b] H fun u H' => u = .int .i64 (mpMul a b) ∧ H' = H := by
  refine ACalls.of_body hm cv166 (by simp only [List.length_cons, List.length_nil]; decide) ?_
  simp only [F166, go_sem, ↓reduceIte, Nat.reduceEqDiff, Nat.reduceAdd, reduceCtorEq]
  refine newC_intro fun n1 H1 hn1 hs1 hb1 => ?_
  simp only [go_sem, ↓reduceIte, Nat.reduceEqDiff, Nat.reduceAdd, reduceCtorEq]
  refine callC_pure (cost_spec _ _) ?_
  simp only [go_sem, ↓reduceIte, Nat.reduceEqDiff, Nat.reduceAdd, reduceCtorEq]
  refine callC_pure (cost_spec _ _) ?_
  simp only [go_sem, ↓reduceIte, Nat.reduceEqDiff, Nat.reduceAdd, reduceCtorEq]
  refine callC_pure (capped_spec _ _ (costI_range a) (costI_range b) _) ?_
  simp only [go_sem, ↓reduceIte, Nat.reduceEqDiff, Nat.reduceAdd, reduceCtorEq]
  exact finO_sub hs1 ⟨rfl, rfl⟩

/-- rows being filled: those before k are full, row k has j items -/
def part (n : Nat) (w : Nat → Nat) (z : V) (k j : Nat) : List (List V) := (List.range n).map fun i => if i < k then List.replicate (w i) z else if i = k then List.replicate j z else []
theorem part_len (n : Nat) (w : Nat → Nat) (z : V) (k j : Nat) : (part n w z k j).length = n := by simp [part]
theorem part_get {n : Nat} {w : Nat → Nat} {z : V} {k j i : Nat} (h : i < n) : (part n w z k j)[i]'(by rw [part_len]; exact h) = if i < k then List.replicate (w i) z else if i = k then List.replicate j z else [] := by simp [part]
theorem part_push {n : Nat} {w : Nat → Nat} {z : V} {k j : Nat} (h : k < n) : (part n w z k j).set k ((part n w z k j)[k]'(by rw [part_len]; exact h) ++ [z]) = part n w z k (j+1) := by
  have e0 : (part n w z k j)[k]'(by rw [part_len]; exact h) ++ [z] = List.replicate (j+1) z := by rw [part_get h]; simp [List.replicate_succ']
  rw [e0]
  apply List.ext_getElem
  · simp [part_len]
  · intro i h1 h2
    have hi : i < n := by rw [part_len] at h2; exact h2
    rw [part_get hi]
    by_cases e : k = i
    · subst e
      simp
    · rw [List.getElem_set_ne e, part_get hi]
      have : ¬ i = k := fun h => e h.symm
      simp [this]
theorem part_next {n : Nat} {w : Nat → Nat} {z : V} {k : Nat} : part n w z k (w k) = part n w z (k+1) 0 := by
  unfold part
  apply List.map_congr_left
  intro i hi
  by_cases h1 : i < k
  · simp [h1, show i < k + 1 by omega]
  · by_cases h2 : i = k
    · subst h2; simp
    · simp [h1, h2, show ¬ i < k + 1 by omega]

theorem rows_spec {sv ev : V} {ws : List Int} {H : Heap} (hs : SInts H sv ws) (hw : ∀ i, (h : i < ws.length) → 1 ≤ ws[i] ∧ ws[i] ≤ 65536) (hl : ws.length ≤ 65) :
    ACalls Try.prog 102 [.agg [], .agg [sv, ev]] H fun u H' => Heap.sub H H' ∧ ∃ N us, u = .sl N 0 ws.length true ∧ Tab H H' N false us (ws.map fun w => List.replicate w.toNat (.int .i64 Inf)) := by
  refine ACalls.of_body hm cv102 (by simp only [List.length_cons, List.length_nil]; decide) ?_
  simp only [F102, go_sem, ↓reduceIte, Nat.reduceEqDiff, Nat.reduceAdd, reduceCtorEq]
  refine newC_intro fun b2 H1 hn1 hs1 hb1 => ?_
  simp only [go_sem, ↓reduceIte, Nat.reduceEqDiff, Nat.reduceAdd, reduceCtorEq]
  refine newC_intro fun b3 H2 hn2 hs2 hb2 => ?_
  have hs02 := hs1.trans' hs2
  simp only [go_sem, ↓reduceIte, Nat.reduceEqDiff, Nat.reduceAdd, reduceCtorEq, ld_box hb2, hs.len]
  refine mkC_intro (Nat.le_refl _) (by omega) (by omega) fun N H3 hN hs3 hbN => ?_
  have hb2' := hs3 _ _ hb2
  rw [flat_rep] at hbN
  simp only [go_sem, ↓reduceIte, Nat.reduceEqDiff, Nat.reduceAdd, reduceCtorEq, ld_box hb2', hs.len, beq_self_eq_true]
  have tab0 : Tab H2 H3 N false (List.replicate ws.length .nils) (part ws.length (fun i => (ws[i]?.getD 0).toNat) (.int .i64 Inf) 0 0) := by
    refine ⟨hs3, hbN, hN, by simp [part_len], fun i h => ?_, fun i j n l l' h => ?_⟩
    · rw [part_len] at h
      refine .inl ⟨by simp [h], ?_, trivial⟩
      rw [part_get h]; simp
    · simp [List.getElem?_replicate] at h
  refine range_loop ws.length (fun k env H' => env 2 = .ptr b2 0 ∧ env 5 = .sl N 0 ws.length true ∧ env 13 = sv ∧ env 14 = .int .i64 ws.length ∧ env 15 = .int .i64 k ∧ ∃ us, Tab H2 H' N false us (part ws.length (fun i => (ws[i]?.getD 0).toNat) (.int .i64 Inf) k 0)) (by omega) (by decide) (by decide) ?_ ?_ ?_ ?_
  · rintro k env H' ⟨_, _, _, h7, h8, _⟩; exact ⟨h8, h7⟩
  · simp only [go_sem, ↓reduceIte, Nat.reduceEqDiff, Nat.reduceAdd, reduceCtorEq]
    exact ⟨by trivial, by trivial, by trivial, by trivial, by trivial, _, tab0⟩
  · rintro k env H4 hk ⟨h2, h5, h13, h14, h15, us, tab⟩
    obtain ⟨p, a1, a2⟩ := ((hs.mono hs02).mono tab.sub).get hk .i64
    have gk := getD_eq hk
    have pk := hw k hk
    obtain ⟨wk, hwk⟩ : ∃ n : Nat, ws[k] = n := ⟨ws[k].toNat, by omega⟩
    simp only [go_sem, ↓reduceIte, Nat.reduceEqDiff, Nat.reduceAdd, reduceCtorEq, h2, h5, h13, h14, h15, a1, a2, hwk]
    refine range_loop wk (fun j env H' => env 2 = .ptr b2 0 ∧ env 5 = .sl N 0 ws.length true ∧ env 13 = sv ∧ env 14 = .int .i64 ws.length ∧ env 15 = .int .i64 k ∧ env 6 = .int .i64 k ∧ env 20 = .int .i64 wk ∧ env 21 = .int .i64 j ∧ ∃ us, Tab H2 H' N false us (part ws.length (fun i => (ws[i]?.getD 0).toNat) (.int .i64 Inf) k j)) (by omega) (by decide) (by decide) ?_ ?_ ?_ ?_
    · rintro j env H' ⟨_, _, _, _, _, _, h7, h8, _⟩; exact ⟨h8, h7⟩
    · simp only [go_sem, ↓reduceIte, Nat.reduceEqDiff, Nat.reduceAdd, reduceCtorEq, h2, h5, h13, h14, h15]
      exact ⟨by trivial, by trivial, by trivial, by trivial, by trivial, by trivial, by trivial, by trivial, us, tab⟩
    · rintro j env H5 hj ⟨h2, h5, h13, h14, h15, h6, h20, h21, us, tab⟩
      have hkp : k < (part ws.length (fun i => (ws[i]?.getD 0).toNat) (.int .i64 Inf) k j).length := by rw [part_len]; exact hk
      obtain ⟨u, hu, hlu, hlr, hrow⟩ := tab.get hkp
      have hpl : ((part ws.length (fun i => (ws[i]?.getD 0).toNat) (.int .i64 Inf) k j)[k]).length = j := by rw [part_get hk]; simp
      rw [hpl] at hlu
      have hbs := tab.sub _ _ (hs2 _ _ hb1)
      simp only [go_sem, ↓reduceIte, Nat.reduceEqDiff, Nat.reduceAdd, reduceCtorEq, h2, h5, h13, h14, h15, h6, h20, h21, ia_nat hk, ld_box tab.outer, hu, ld_boxa hbs (show 0 + 0 ≤ _ by simp), List.take_zero]
      refine invC_pure (Zero_spec _) ?_
      simp only [go_sem, ↓reduceIte, Nat.reduceEqDiff, Nat.reduceAdd, reduceCtorEq, fillV, List.length_cons, List.length_nil, splice, Nat.reduceLeDiff, Nat.zero_lt_one, and_self, List.take_zero, List.take_succ_cons, List.drop_succ_cons, List.drop_zero, List.drop_nil, Nat.reduceLT, Nat.le_refl]
      refine newC_intro fun xb H6 hxb hs6 hbx => ?_
      have tab6 := tab.grow hs6
      simp only [go_sem, ↓reduceIte, Nat.reduceEqDiff, Nat.reduceAdd, reduceCtorEq]
      have hrow' : (u = .nils ∧ (part ws.length (fun i => (ws[i]?.getD 0).toNat) (.int .i64 Inf) k j)[k] = []) ∨ ∃ n len, u = .sl n 0 len false ∧ H6 n = some ⟨true, 1, (part ws.length (fun i => (ws[i]?.getD 0).toNat) (.int .i64 Inf) k j)[k]⟩ ∧ ((part ws.length (fun i => (ws[i]?.getD 0).toNat) (.int .i64 Inf) k j)[k]).length = len * 1 := by
        rcases hrow with ⟨e, e', _⟩ | ⟨n, e, e', _⟩
        · exact .inl ⟨e, e'⟩
        · exact .inr ⟨n, _, e, hs6 _ _ e', by omega⟩
      refine appC_one hrow' hbx rfl (by decide) (by omega) (by omega) fun m H7 hm hbm hf7 => ?_
      have hmN : N ≠ m := name_ne tab6.outer hm
      have huN : ∀ n o l f, u = V.sl n o l f → N ≠ n := by
        rintro n o l f rfl
        rcases hrow with ⟨e, _⟩ | ⟨n', e, _, _, hne⟩
        · cases e
        · injection e with e; rw [e]; exact fun h => hne h.symm
      have hN7 : H7 N = some ⟨true, 1, us⟩ := by rw [hf7 N hmN huN]; exact tab6.outer
      have hul : us.length = ws.length := by rw [tab.len, part_len]
      simp only [go_sem, ↓reduceIte, Nat.reduceEqDiff, Nat.reduceAdd, reduceCtorEq, h2, h5, h13, h14, h15, h6, h20, h21, ia_nat hk]
      refine stC_intro hN7 trivial rfl (by decide) (by show k + 1 ≤ us.length; omega) fun H8 hb8 hf8 hs8 => ?_
      simp only [go_sem, ↓reduceIte, Nat.reduceEqDiff, Nat.reduceAdd, reduceCtorEq, h2, h5, h13, h14, h15, h6, h20, h21]
      refine ⟨by trivial, by trivial, by trivial, by trivial, by trivial, by trivial, by trivial, by trivial, by trivial, us.set k (.sl m 0 (j+1) false), ?_⟩
      rw [← part_push hk]
      have hp := tab6.push (H' := H8) (i := k) (m := m) (v := .int .i64 Inf) hkp hm (by
          rw [hb8, hpl, show V.cells (V.sl m 0 (lenV u + 1) false) = [V.sl m 0 (lenV u + 1) false] from rfl, splice_one _ _ _ (by omega), hlu]) (by rw [hf8 m hmN.symm]; exact hbm) (by
          intro q h1 h2 h3
          rw [hf8 q h1]
          exact hf7 q h2 fun n o l f e => h3 n o l f (by rw [hu, e]))
      rw [hpl] at hp
      exact hp
    · rintro env H' ⟨h2, h5, h13, h14, h15, h6, h20, h21, us, tab⟩
      simp only [go_sem, ↓reduceIte, Nat.reduceEqDiff, Nat.reduceAdd, reduceCtorEq, h2, h5, h13, h14, h15]
      refine ⟨by trivial, by trivial, by trivial, by trivial, by trivial, by trivial, us, ?_⟩
      rw [← part_next, gk, hwk]
      exact tab
  · rintro env H' ⟨h2, h5, h13, h14, h15, us, tab⟩
    simp only [go_sem, ↓reduceIte, Nat.reduceEqDiff, Nat.reduceAdd, reduceCtorEq, h5]
    refine finO_self ⟨hs02.trans' tab.sub, N, us, rfl, ?_⟩
    have e : part ws.length (fun i => (ws[i]?.getD 0).toNat) (.int .i64 Inf) ws.length 0 = ws.map fun w => List.replicate w.toNat (.int .i64 Inf) := by
      apply List.ext_getElem
      · simp [part_len]
      · intro i h1 h2
        have hi : i < ws.length := by rw [part_len] at h1; exact h1
        rw [part_get hi, if_pos hi, List.getElem_map, getD_eq hi]
    rw [e] at tab
    exact ⟨hs02.trans' tab.sub, tab.outer, hs02.none' tab.oN, tab.len, fun i h => (tab.row i h).imp id fun ⟨n, a, b, c, d⟩ => ⟨n, a, b, hs02.none' c, d⟩, tab.inj⟩
end Go.AM

/- viterbi.valued, semiring.valued over ints, the closure of along. Conditions: none. -/
set_option linter.unusedVariables false
set_option linter.unusedSimpArgs false
namespace Go.AM
open Go Go.Proofs
attribute [local go_sem] c_skip c_ops c_seq c_ite c_blk c_exit c_ret t_normal t_exit t_ret b_normal b_exit b_ret i_nil i_cons s_guard s_mov s_pick s_new s_zero s_ld s_ldr s_st s_bin s_beq s_isnil s_eqs s_un s_conv s_fa s_fld s_ia s_sli s_ext s_ifc s_mkf s_agg s_len s_mm s_nilchk s_bsl s_mk s_app s_cpy s_call s_inv cells_agg cells_int cells_bool p_get p_none o_s o_c e_0 e_1 e_2 e_3 e_4 iteC_true iteC_false grd_tt grd_tf grd_ft grd_ff grd_und bindV_some pickV_t pickV_f beq_bool conv_int un_not not_dec mm_min mm_max bv_add bv_sub bv_mul bv_eql bv_neq bv_lss bv_leq bv_gtr bv_geq f_normal f_one f_two f_three f_none fa_ptr fld_one ext_tup len_sl len_nils decide_true decide_false not_true_eq_false not_false_eq_true List.map_cons List.map_nil List.append_nil List.cons_append List.nil_append Nat.zero_add Nat.add_zero Nat.mul_one Nat.succ_ne_self if_true if_false List.getElem?_cons_zero List.getElem?_cons_succ

/-- viterbi.valued[int] -/
def F77 : AF := ⟨45, [(4, none)], (.seq (.ops [⟨none, false, (some 2), (.new (.s 0))⟩, ⟨none, false, (some 4), (.mov (.c .nils))⟩]) (.seq (.ops [⟨none, false, (some 10), (.fa 1 (.s 2))⟩, ⟨none, false, (some 11), (.ld false 1 (.s 10) none)⟩, ⟨none, false, (some 12), (.len (.s 11))⟩, ⟨none, false, (some 13), (.mk 1 24 [.nils] (.s 12) (.s 12))⟩, ⟨none, false, (some 5), (.mov (.s 13))⟩]) (.seq (.seq (.ops [⟨none, false, (some 14), (.fa 1 (.s 2))⟩, ⟨none, false, (some 15), (.ld false 1 (.s 14) none)⟩, ⟨none, false, (some 16), (.len (.s 15))⟩, ⟨none, false, (some 17), (.mov (.c (.int .i64 (0))))⟩]) (.blk 0 (.loop (.seq (.ops [⟨none, false, (some 18), (.bin .lss (.s 17) (.s 16))⟩]) (.seq (.ite (.s 18) .skip (.exit 0)) (.seq (.blk 1 (.seq (.ops [⟨none, false, (some 19), (.mov (.s 17))⟩, ⟨none, false, (some 20), (.ia 1 (.s 15) (.s 17))⟩, ⟨none, false, (some 21), (.ld false 1 (.s 20) none)⟩, ⟨none, false, (some 6), (.mov (.s 19))⟩, ⟨none, false, (some 7), (.mov (.s 21))⟩]) (.seq (.ops [⟨none, false, (some 22), (.mov (.s 7))⟩, ⟨none, false, (some 23), (.len (.s 22))⟩, ⟨none, false, (some 24), (.mov (.c (.int .i64 (0))))⟩]) (.blk 2 (.loop (.seq (.ops [⟨none, false, (some 25), (.bin .lss (.s 24) (.s 23))⟩]) (.seq (.ite (.s 25) .skip (.exit 2)) (.seq (.blk 3 (.seq (.ops [⟨none, false, (some 26), (.ia 3 (.s 22) (.s 24))⟩, ⟨none, false, (some 27), (.ld true 3 (.s 26) none)⟩, ⟨none, false, (some 9), (.zero [(.int .i64 (0)), (.int .i64 (0)), (.int .i64 (0))])⟩, ⟨none, false, none, (.st 3 (.s 9) (.s 27) [])⟩]) (.ops [⟨none, false, (some 28), (.mov (.s 5))⟩, ⟨none, false, (some 29), (.mov (.s 6))⟩, ⟨none, false, (some 30), (.mov (.s 5))⟩, ⟨none, false, (some 31), (.mov (.s 6))⟩, ⟨none, false, (some 32), (.ia 1 (.s 30) (.s 31))⟩, ⟨none, false, (some 34), (.mov (.s 1))⟩, ⟨none, false, (some 35), (.mov (.s 6))⟩, ⟨none, false, (some 36), (.fa 1 (.s 9))⟩, ⟨none, false, (some 33), (.ld false 1 (.s 32) none)⟩, ⟨none, false, (some 37), (.ld false 1 (.s 36) none)⟩, ⟨none, true, (some 38), (.call (.s 34) [(.s 35), (.s 37)])⟩, ⟨none, false, (some 39), (.bsl 1 1 [(.int .i64 (0))] [(0, (1, (.s 38)))])⟩, ⟨none, false, (some 40), (.app 1 8 (.s 33) (.s 39) [])⟩, ⟨none, false, (some 41), (.ia 1 (.s 28) (.s 29))⟩, ⟨none, false, none, (.st 1 (.s 41) (.s 40) [])⟩]))) (.ops [⟨none, false, (some 42), (.bin .add (.s 24) (.c (.int .i64 (1))))⟩, ⟨none, false, (some 24), (.mov (.s 42))⟩]))))))))) (.ops [⟨none, false, (some 43), (.bin .add (.s 17) (.c (.int .i64 (1))))⟩, ⟨none, false, (some 17), (.mov (.s 43))⟩]))))))) (.seq (.ops [⟨none, false, (some 44), (.mov (.s 5))⟩, ⟨none, false, (some 4), (.mov (.s 44))⟩]) .ret))))⟩
theorem cv77 : cvF Try.prog 77 = some F77 := by kernel_rfl

/-- viterbi.along$1 -/
def F78 : AF := ⟨13, [(5, none)], (.seq (.ops [⟨none, false, (some 5), (.mov (.c (.int .i64 (0))))⟩]) (.seq (.ops [⟨none, false, (some 6), (.ld false 1 (.s 2) none)⟩, ⟨none, false, (some 7), (.mov (.s 0))⟩, ⟨none, false, (some 8), (.ia 1 (.s 6) (.s 7))⟩, ⟨none, false, (some 9), (.ld false 1 (.s 8) none)⟩, ⟨none, false, (some 10), (.mov (.s 1))⟩, ⟨none, false, (some 11), (.ia 1 (.s 9) (.s 10))⟩, ⟨none, false, (some 12), (.ld false 1 (.s 11) none)⟩, ⟨none, false, (some 5), (.mov (.s 12))⟩]) .ret))⟩
theorem cv78 : cvF Try.prog 78 = some F78 := by kernel_rfl


/-- the values of the edges -/
def vrow (es : List (List Ed)) (z : Nat → Int → V) (i : Nat) : List V := (es[i]?.getD []).map fun e => z i e.lb
def vtab (es : List (List Ed)) (z : Nat → Int → V) : List (List V) := (List.range es.length).map (vrow es z)

theorem vvalued_spec {sv ev : V} {ws : List Int} {es : List (List Ed)} {H : Heap} {g : FuncId} {caps : List V} {z : Nat → Int → V} (he : SSecs H ev es) (sh : Shaped ws es)
    (hc : ∀ i j, (h : i < es.length) → (h' : j < es[i].length) → (z i es[i][j].lb).cells = [z i es[i][j].lb])
    (hz : ∀ i j, (h : i < es.length) → (h' : j < es[i].length) → ∀ H', Heap.sub H H' → ACalls Try.prog g ([.int .i64 i, .int .i64 es[i][j].lb] ++ caps) H' fun v H'' => v = z i es[i][j].lb ∧ H'' = H') :
    ACalls Try.prog 77 [.agg [sv, ev], .fn g caps] H fun u H' => Heap.sub H H' ∧ ∃ N us, u = .sl N 0 es.length true ∧ Tab H H' N false us (vtab es z) := by
  refine ACalls.of_body hm cv77 (by simp only [List.length_cons, List.length_nil]; decide) ?_
  have hn := sh.n
  simp only [F77, go_sem, ↓reduceIte, Nat.reduceEqDiff, Nat.reduceAdd, reduceCtorEq]
  refine newC_intro fun b2 H1 hn1 hs1 hb1 => ?_
  simp only [go_sem, ↓reduceIte, Nat.reduceEqDiff, Nat.reduceAdd, reduceCtorEq, ld_box hb1, SLists.len he]
  refine mkC_intro (Nat.le_refl _) (by omega) (by omega) fun N H2 hN hs2 hbN => ?_
  rw [flat_rep] at hbN
  simp only [go_sem, ↓reduceIte, Nat.reduceEqDiff, Nat.reduceAdd, reduceCtorEq, ld_box (hs2 _ _ hb1), SLists.len he, beq_self_eq_true]
  have tab0 := partR_start (full := vrow es z) hs2 hN hbN
  refine range_loop es.length (fun k env H' => env 1 = .fn g caps ∧ env 5 = .sl N 0 es.length true ∧ env 15 = ev ∧ env 16 = .int .i64 es.length ∧ env 17 = .int .i64 k ∧ ∃ us, Tab H1 H' N false us (partR es.length (vrow es z) k 0)) (by omega) (by decide) (by decide) ?_ ?_ ?_ ?_
  · rintro k env H' ⟨_, _, _, h7, h8, _⟩; exact ⟨h8, h7⟩
  · simp only [go_sem, ↓reduceIte, Nat.reduceEqDiff, Nat.reduceAdd, reduceCtorEq]
    exact ⟨by trivial, by trivial, by trivial, by trivial, by trivial, _, tab0⟩
  · rintro k env H4 hk ⟨h1, h5, h15, h16, h17, us, tab⟩
    obtain ⟨p, ue, a1, a2, a3⟩ := (SSecs.mono he hs1).get hk .i64
    have hlk := sh.each k hk
    have hfull : vrow es z k = es[k].map fun e => z k e.lb := by simp [vrow, hk]
    simp only [go_sem, ↓reduceIte, Nat.reduceEqDiff, Nat.reduceAdd, reduceCtorEq, h1, h5, h15, h16, h17, a1, ld_mono tab.sub a2, a3.len]
    refine range_loop es[k].length (fun j env H' => env 1 = .fn g caps ∧ env 5 = .sl N 0 es.length true ∧ env 15 = ev ∧ env 16 = .int .i64 es.length ∧ env 17 = .int .i64 k ∧ env 6 = .int .i64 k ∧ env 22 = ue ∧ env 23 = .int .i64 es[k].length ∧ env 24 = .int .i64 j ∧ ∃ us, Tab H1 H' N false us (partR es.length (vrow es z) k j)) (by omega) (by decide) (by decide) ?_ ?_ ?_ ?_
    · rintro j env H' ⟨_, _, _, _, _, _, _, h7, h8, _⟩; exact ⟨h8, h7⟩
    · simp only [go_sem, ↓reduceIte, Nat.reduceEqDiff, Nat.reduceAdd, reduceCtorEq, h1, h5, h15, h16, h17]
      exact ⟨by trivial, by trivial, by trivial, by trivial, by trivial, by trivial, by trivial, by trivial, by trivial, us, tab⟩
    · rintro j env H5 hj ⟨h1, h5, h15, h16, h17, h6, h22, h23, h24, us, tab⟩
      obtain ⟨p, q0, q1, q2, b1, b2, b3, b4, b5, b6, b7, b8⟩ := (a3.mono tab.sub).get hj .i64
      have hkp : k < (partR es.length (vrow es z) k j).length := by rw [partR_len]; exact hk
      have hjf : j < (vrow es z k).length := by rw [hfull]; simpa using hj
      have hvj : (vrow es z k)[j] = z k es[k][j].lb := by simp [hfull]
      simp only [go_sem, ↓reduceIte, Nat.reduceEqDiff, Nat.reduceAdd, reduceCtorEq, h1, h5, h15, h16, h17, h6, h22, h23, h24, b1, b2]
      refine newC_intro fun n4 H6 hn4 hs6 hb4 => ?_
      simp only [go_sem, ↓reduceIte, Nat.reduceEqDiff, Nat.reduceAdd, reduceCtorEq, h6]
      refine stC_intro hb4 trivial rfl (by decide) (by decide) fun H7 hb5 hf7 hs7 => ?_
      simp only [Ed.cells, fillV, List.length_cons, List.length_nil, splice, Nat.reduceLeDiff, Nat.zero_lt_one, and_self, List.take_zero, List.take_succ_cons, List.drop_succ_cons, List.drop_zero, List.drop_nil, Nat.reduceLT, Nat.le_refl, go_sem, ↓reduceIte, Nat.reduceEqDiff, Nat.reduceAdd, reduceCtorEq] at hb5
      have hs57 : Heap.sub H5 H7 := hs7 H5 hs6 hn4
      have tab7 := tab.grow hs57
      obtain ⟨u, hu, hlu, hlr, _⟩ := tab7.get hkp
      have hpl : ((partR es.length (vrow es z) k j)[k]).length = j := by rw [partR_get hk]; simp; omega
      simp only [go_sem, ↓reduceIte, Nat.reduceEqDiff, Nat.reduceAdd, reduceCtorEq, h1, h5, h15, h16, h17, h6, h22, h23, h24, ia_nat hk, ld_box tab7.outer, hu, ld_box hb5]
      refine callC_pure (hz k j hk hj H7 (hs1.trans' tab7.sub)) ?_
      simp only [go_sem, ↓reduceIte, Nat.reduceEqDiff, Nat.reduceAdd, reduceCtorEq, fillV, List.length_cons, List.length_nil, splice, Nat.reduceLeDiff, Nat.zero_lt_one, and_self, List.take_zero, List.take_succ_cons, List.drop_succ_cons, List.drop_zero, List.drop_nil, Nat.reduceLT, Nat.le_refl, hc k j hk hj]
      refine newC_intro fun xb H8 hxb hs8 hbx => ?_
      have tab8 := tab7.grow hs8
      simp only [go_sem, ↓reduceIte, Nat.reduceEqDiff, Nat.reduceAdd, reduceCtorEq]
      refine appC_tab tab8 hkp hu hbx (by omega) (by omega) fun m H9 hm hN9 hlu' hgo => ?_
      have hul : us.length = es.length := by rw [tab.len, partR_len]
      simp only [go_sem, ↓reduceIte, Nat.reduceEqDiff, Nat.reduceAdd, reduceCtorEq, h1, h5, h15, h16, h17, h6, h22, h23, h24, ia_nat hk]
      refine stC_intro hN9 trivial rfl (by decide) (by show k + 1 ≤ us.length; omega) fun Ha hba hfa hsa => ?_
      simp only [go_sem, ↓reduceIte, Nat.reduceEqDiff, Nat.reduceAdd, reduceCtorEq, h1, h5, h15, h16, h17, h6, h22, h23, h24]
      refine ⟨by trivial, by trivial, by trivial, by trivial, by trivial, by trivial, by trivial, by trivial, by trivial, by trivial, us.set k (.sl m 0 ((partR es.length (vrow es z) k j)[k].length + 1) false), ?_⟩
      rw [← partR_push hk hjf, hvj]
      exact hgo Ha (by rw [hba, show V.cells (V.sl m 0 ((partR es.length (vrow es z) k j)[k].length + 1) false) = [V.sl m 0 ((partR es.length (vrow es z) k j)[k].length + 1) false] from rfl, splice_one _ _ _ (by omega)]) hfa
    · rintro env H' ⟨h1, h5, h15, h16, h17, h6, h22, h23, h24, us, tab⟩
      simp only [go_sem, ↓reduceIte, Nat.reduceEqDiff, Nat.reduceAdd, reduceCtorEq, h1, h5, h15, h16, h17]
      refine ⟨by trivial, by trivial, by trivial, by trivial, by trivial, by trivial, us, ?_⟩
      rw [← partR_next (j := es[k].length) (by rw [hfull]; simp)]
      exact tab
  · rintro env H' ⟨h1, h5, h15, h16, h17, us, tab⟩
    simp only [go_sem, ↓reduceIte, Nat.reduceEqDiff, Nat.reduceAdd, reduceCtorEq, h5]
    rw [partR_done] at tab
    exact finO_self ⟨hs1.trans' tab.sub, N, us, rfl, tab.down hs1⟩

/-- the item of a list of rows -/
def at2 (c : List (List Int)) (i : Nat) (a : Int) : Int := ((c[i]?.getD [])[a.toNat]?).getD 0

theorem closure_spec {b : Nat} {cv : V} {costs : List (List Int)} {H : Heap} {i : Nat} {a : Int} (hb : H b = some ⟨true, 1, [cv]⟩) (hc : SRows H cv costs) (hi : i < costs.length) (h0 : 0 ≤ a) (h1 : a < costs[i].length) :
    ACalls Try.prog 78 [.int .i64 i, .int .i64 a, .ptr b 0] H fun u H' => u = .int .i64 (at2 costs i a) ∧ H' = H := by
  refine ACalls.of_body hm cv78 (by simp only [List.length_cons, List.length_nil]; decide) ?_
  obtain ⟨p, u, a1, a2, a3⟩ := SLists.get hc hi .i64
  obtain ⟨q, b1, b2⟩ := a3.get (k := a.toNat) (by omega) .i64
  rw [Int.toNat_of_nonneg h0] at b1
  simp only [F78, go_sem, ↓reduceIte, Nat.reduceEqDiff, Nat.reduceAdd, reduceCtorEq, ld_box hb, a1, a2, b1, b2]
  refine finO_self ⟨?_, rfl⟩
  have : a.toNat < costs[i].length := by omega
  simp [at2, hi, this]

theorem valued_spec {sv ev vv : V} {ws : List Int} {es : List (List Ed)} {xss : List (List V)} {H : Heap} (hs : SInts H sv ws) (he : SSecs H ev es) (h0 : shapeI ws es = 0) (hv : SRowsV H vv xss) (hl : xss.length = es.length) (hx : ∀ i, (h : i < es.length) → (xss[i]'(by omega)).length = es[i].length) :
    ACalls Try.prog 101 [.agg [sv, ev], vv] H fun u H' => u = .int .i64 0 ∧ H' = H := by
  refine ACalls.of_body hm cv101 (by simp only [List.length_cons, List.length_nil]; decide) ?_
  have sh := shaped_of h0
  have hn := sh.n
  simp only [F101, go_sem, ↓reduceIte, Nat.reduceEqDiff, Nat.reduceAdd, reduceCtorEq]
  refine newC_intro fun n1 H1 hn1 hs1 hb1 => ?_
  simp only [ld_boxa hb1 (show 0 + 2 ≤ _ by simp), fillV, List.length_cons, List.length_nil, splice, Nat.reduceLeDiff, Nat.zero_lt_one, and_self, List.take_zero, List.take_succ_cons, List.drop_succ_cons, List.drop_zero, List.drop_nil, Nat.reduceLT, Nat.le_refl, go_sem, ↓reduceIte, Nat.reduceEqDiff, Nat.reduceAdd, reduceCtorEq]
  refine callC_pure (Shape_spec (hs.mono hs1) (SSecs.mono he hs1)) ?_
  rw [h0]
  simp only [go_sem, ↓reduceIte, Nat.reduceEqDiff, Nat.reduceAdd, reduceCtorEq, ld_box hb1, SLists.len he, SLists.len hv, hl]
  refine range_loop es.length (fun k env H' => H1 = H' ∧ env 1 = vv ∧ env 20 = ev ∧ env 21 = .int .i64 es.length ∧ env 22 = .int .i64 k) (by omega) (by decide) (by decide) ?_ ?_ ?_ ?_
  · rintro k env H' ⟨_, _, _, h7, h8⟩; exact ⟨h8, h7⟩
  · simp only [go_sem, ↓reduceIte, Nat.reduceEqDiff, Nat.reduceAdd, reduceCtorEq]; simp
  · rintro k env H' hk ⟨rfl, h1, h20, h21, h22⟩
    obtain ⟨p, u, a1, a2, a3⟩ := (SSecs.mono he hs1).get hk .i64
    obtain ⟨p', u', b1, b2, b3⟩ := (SRowsV.mono hv hs1).get (k := k) (by omega) .i64
    simp only [go_sem, ↓reduceIte, Nat.reduceEqDiff, Nat.reduceAdd, reduceCtorEq, h1, h20, h21, h22, a1, a2, a3.len, b1, b2, b3.len, hx k hk]
    exact ⟨by trivial, by trivial, by trivial, by trivial, by trivial, by trivial⟩
  · rintro env H' ⟨rfl, h1, h20, h21, h22⟩
    simp only [go_sem, ↓reduceIte, Nat.reduceEqDiff, Nat.reduceAdd, reduceCtorEq]
    exact finO_sub hs1 ⟨rfl, rfl⟩
end Go.AM
