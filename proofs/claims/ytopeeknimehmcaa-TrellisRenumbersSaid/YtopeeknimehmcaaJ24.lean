/- The reference's Renumber. Conditions: the trellis is proper. -/
import Derived.Test.YtopeeknimehmcaaJ23
set_option linter.unusedVariables false
set_option linter.unusedSimpArgs false
namespace Go.AM
open Go Go.Proofs
attribute [local go_sem] c_skip c_ops c_seq c_ite c_blk c_exit c_ret t_normal t_exit t_ret b_normal b_exit b_ret i_nil i_cons s_guard s_mov s_pick s_new s_zero s_ld s_ldr s_st s_bin s_beq s_isnil s_eqs s_un s_conv s_fa s_fld s_ia s_sli s_ext s_ifc s_mkf s_agg s_len s_mm s_nilchk s_bsl s_mk s_app s_cpy s_call s_inv cells_agg cells_int cells_bool p_get p_none o_s o_c e_0 e_1 e_2 e_3 e_4 iteC_true iteC_false grd_tt grd_tf grd_ft grd_ff grd_und bindV_some pickV_t pickV_f beq_bool conv_int un_not not_dec mm_min mm_max bv_add bv_sub bv_mul bv_eql bv_neq bv_lss bv_leq bv_gtr bv_geq f_normal f_one f_two f_three f_none fa_ptr fld_one ext_tup len_sl len_nils decide_true decide_false not_true_eq_false not_false_eq_true List.map_cons List.map_nil List.append_nil List.cons_append List.nil_append Nat.zero_add Nat.add_zero Nat.mul_one Nat.succ_ne_self if_true if_false List.getElem?_cons_zero List.getElem?_cons_succ

/-- codewrightref47.Renumber -/
def F37 : AF := ⟨112, [(2, (some (true, 2)))], (.seq (.ops [⟨none, false, (some 1), (.new (.s 0))⟩, ⟨none, false, (some 2), (.zero [.nils, .nils])⟩]) (.seq (.ops [⟨none, false, (some 13), (.bsl 1 0 [] [])⟩, ⟨none, false, (some 14), (.fa 0 (.s 1))⟩, ⟨none, false, (some 15), (.ld false 1 (.s 14) none)⟩, ⟨none, false, (some 16), (.app 1 8 (.s 13) (.s 15) [])⟩, ⟨none, false, (some 17), (.agg [.nils, .nils] [(0, (1, (.s 16)))])⟩, ⟨none, false, (some 3), (.zero [.nils, .nils])⟩, ⟨none, false, none, (.st 2 (.s 3) (.s 17) [])⟩]) (.seq (.ops [⟨none, false, (some 18), (.bsl 1 1 [(.int .i64 (0))] [(0, (1, (.c (.int .i64 (0)))))])⟩, ⟨none, false, (some 4), (.mov (.s 18))⟩]) (.seq (.seq (.ops [⟨none, false, (some 5), (.mov (.c (.int .i64 (0))))⟩]) (.blk 0 (.loop (.seq (.seq (.ops [⟨none, false, (some 19), (.mov (.s 5))⟩, ⟨none, false, (some 20), (.fa 1 (.s 1))⟩, ⟨none, false, (some 21), (.ld false 1 (.s 20) none)⟩, ⟨none, false, (some 22), (.len (.s 21))⟩, ⟨none, false, (some 23), (.bin .lss (.s 19) (.s 22))⟩]) (.ite (.s 23) .skip (.exit 0))) (.seq (.blk 1 (.seq (.ops [⟨none, false, (some 26), (.fa 0 (.s 1))⟩, ⟨none, false, (some 27), (.ld false 1 (.s 26) none)⟩, ⟨none, false, (some 28), (.mov (.s 5))⟩, ⟨none, false, (some 29), (.bin .add (.s 28) (.c (.int .i64 (1))))⟩, ⟨none, false, (some 30), (.ia 1 (.s 27) (.s 29))⟩, ⟨none, false, (some 31), (.ld false 1 (.s 30) none)⟩, ⟨none, false, (some 32), (.mk 1 8 [(.int .i64 (0))] (.s 31) (.s 31))⟩, ⟨none, false, (some 6), (.mov (.s 32))⟩]) (.seq (.seq (.ops [⟨none, false, (some 7), (.mov (.c (.int .i64 (0))))⟩]) (.blk 2 (.loop (.seq (.seq (.ops [⟨none, false, (some 33), (.mov (.s 7))⟩, ⟨none, false, (some 34), (.mov (.s 6))⟩, ⟨none, false, (some 35), (.len (.s 34))⟩, ⟨none, false, (some 36), (.bin .lss (.s 33) (.s 35))⟩]) (.ite (.s 36) .skip (.exit 2))) (.seq (.blk 3 (.ops [⟨none, false, (some 39), (.mov (.s 6))⟩, ⟨none, false, (some 40), (.mov (.s 7))⟩, ⟨none, false, (some 41), (.ia 1 (.s 39) (.s 40))⟩, ⟨none, false, none, (.st 1 (.s 41) (.c (.int .i64 (-1))) [])⟩])) (.ops [⟨none, false, (some 37), (.mov (.s 7))⟩, ⟨none, false, (some 38), (.bin .add (.s 37) (.c (.int .i64 (1))))⟩, ⟨none, false, (some 7), (.mov (.s 38))⟩])))))) (.seq (.ops [⟨none, false, (some 42), (.bsl 1 0 [] [])⟩, ⟨none, false, (some 8), (.mov (.s 42))⟩]) (.seq (.ops [⟨none, false, (some 43), (.bsl 3 0 [] [])⟩, ⟨none, false, (some 9), (.mov (.s 43))⟩]) (.seq (.seq (.ops [⟨none, false, (some 10), (.mov (.c (.int .i64 (0))))⟩]) (.blk 4 (.loop (.seq (.seq (.ops [⟨none, false, (some 44), (.mov (.s 10))⟩, ⟨none, false, (some 45), (.mov (.s 4))⟩, ⟨none, false, (some 46), (.len (.s 45))⟩, ⟨none, false, (some 47), (.bin .lss (.s 44) (.s 46))⟩]) (.ite (.s 47) .skip (.exit 4))) (.seq (.blk 5 (.seq (.ops [⟨none, false, (some 11), (.mov (.c (.int .i64 (0))))⟩]) (.blk 6 (.loop (.seq (.seq (.ops [⟨none, false, (some 50), (.mov (.s 11))⟩, ⟨none, false, (some 51), (.fa 1 (.s 1))⟩, ⟨none, false, (some 52), (.ld false 1 (.s 51) none)⟩, ⟨none, false, (some 53), (.mov (.s 5))⟩, ⟨none, false, (some 54), (.ia 1 (.s 52) (.s 53))⟩, ⟨none, false, (some 55), (.ld false 1 (.s 54) none)⟩, ⟨none, false, (some 56), (.len (.s 55))⟩, ⟨none, false, (some 57), (.bin .lss (.s 50) (.s 56))⟩]) (.ite (.s 57) .skip (.exit 6))) (.seq (.blk 7 (.seq (.ops [⟨none, false, (some 60), (.fa 1 (.s 1))⟩, ⟨none, false, (some 61), (.ld false 1 (.s 60) none)⟩, ⟨none, false, (some 62), (.mov (.s 5))⟩, ⟨none, false, (some 63), (.ia 1 (.s 61) (.s 62))⟩, ⟨none, false, (some 64), (.ld false 1 (.s 63) none)⟩, ⟨none, false, (some 65), (.mov (.s 11))⟩, ⟨none, false, (some 66), (.ia 3 (.s 64) (.s 65))⟩, ⟨none, false, (some 67), (.ld true 3 (.s 66) none)⟩, ⟨none, false, (some 12), (.zero [(.int .i64 (0)), (.int .i64 (0)), (.int .i64 (0))])⟩, ⟨none, false, none, (.st 3 (.s 12) (.s 67) [])⟩]) (.seq (.seq (.ops [⟨none, false, (some 68), (.fa 0 (.s 12))⟩, ⟨none, false, (some 70), (.mov (.s 4))⟩, ⟨none, false, (some 71), (.mov (.s 10))⟩, ⟨none, false, (some 72), (.ia 1 (.s 70) (.s 71))⟩, ⟨none, false, (some 69), (.ld false 1 (.s 68) none)⟩, ⟨none, false, (some 73), (.ld false 1 (.s 72) none)⟩, ⟨none, false, (some 74), (.bin .neq (.s 69) (.s 73))⟩]) (.ite (.s 74) (.exit 7) .skip)) (.seq (.seq (.ops [⟨none, false, (some 75), (.mov (.s 6))⟩, ⟨none, false, (some 76), (.fa 2 (.s 12))⟩, ⟨none, false, (some 77), (.ld false 1 (.s 76) none)⟩, ⟨none, false, (some 78), (.ia 1 (.s 75) (.s 77))⟩, ⟨none, false, (some 79), (.ld false 1 (.s 78) none)⟩, ⟨none, false, (some 80), (.bin .lss (.s 79) (.c (.int .i64 (0))))⟩]) (.ite (.s 80) (.seq (.ops [⟨none, false, (some 81), (.mov (.s 6))⟩, ⟨none, false, (some 82), (.fa 2 (.s 12))⟩, ⟨none, false, (some 83), (.ld false 1 (.s 82) none)⟩, ⟨none, false, (some 84), (.mov (.s 8))⟩, ⟨none, false, (some 85), (.len (.s 84))⟩, ⟨none, false, (some 86), (.ia 1 (.s 81) (.s 83))⟩, ⟨none, false, none, (.st 1 (.s 86) (.s 85) [])⟩]) (.ops [⟨none, false, (some 87), (.mov (.s 8))⟩, ⟨none, false, (some 88), (.fa 2 (.s 12))⟩, ⟨none, false, (some 89), (.ld false 1 (.s 88) none)⟩, ⟨none, false, (some 90), (.bsl 1 1 [(.int .i64 (0))] [(0, (1, (.s 89)))])⟩, ⟨none, false, (some 91), (.app 1 8 (.s 87) (.s 90) [])⟩, ⟨none, false, (some 8), (.mov (.s 91))⟩])) .skip)) (.ops [⟨none, false, (some 92), (.mov (.s 9))⟩, ⟨none, false, (some 93), (.mov (.s 10))⟩, ⟨none, false, (some 94), (.fa 1 (.s 12))⟩, ⟨none, false, (some 96), (.mov (.s 6))⟩, ⟨none, false, (some 97), (.fa 2 (.s 12))⟩, ⟨none, false, (some 95), (.ld false 1 (.s 94) none)⟩, ⟨none, false, (some 98), (.ld false 1 (.s 97) none)⟩, ⟨none, false, (some 99), (.ia 1 (.s 96) (.s 98))⟩, ⟨none, false, (some 100), (.ld false 1 (.s 99) none)⟩, ⟨none, false, (some 101), (.agg [(.int .i64 (0)), (.int .i64 (0)), (.int .i64 (0))] [(0, (1, (.s 93))), (1, (1, (.s 95))), (2, (1, (.s 100)))])⟩, ⟨none, false, (some 102), (.bsl 3 1 [(.int .i64 (0)), (.int .i64 (0)), (.int .i64 (0))] [(0, (3, (.s 101)))])⟩, ⟨none, false, (some 103), (.app 3 24 (.s 92) (.s 102) [])⟩, ⟨none, false, (some 9), (.mov (.s 103))⟩]))))) (.ops [⟨none, false, (some 58), (.mov (.s 11))⟩, ⟨none, false, (some 59), (.bin .add (.s 58) (.c (.int .i64 (1))))⟩, ⟨none, false, (some 11), (.mov (.s 59))⟩]))))))) (.ops [⟨none, false, (some 48), (.mov (.s 10))⟩, ⟨none, false, (some 49), (.bin .add (.s 48) (.c (.int .i64 (1))))⟩, ⟨none, false, (some 10), (.mov (.s 49))⟩])))))) (.seq (.ops [⟨none, false, (some 104), (.fa 1 (.s 3))⟩, ⟨none, false, (some 105), (.ld false 1 (.s 104) none)⟩, ⟨none, false, (some 106), (.mov (.s 9))⟩, ⟨none, false, (some 107), (.bsl 1 1 [.nils] [(0, (1, (.s 106)))])⟩, ⟨none, false, (some 108), (.app 1 24 (.s 105) (.s 107) [])⟩, ⟨none, false, (some 109), (.fa 1 (.s 3))⟩, ⟨none, false, none, (.st 1 (.s 109) (.s 108) [])⟩]) (.ops [⟨none, false, (some 110), (.mov (.s 8))⟩, ⟨none, false, (some 4), (.mov (.s 110))⟩])))))))) (.ops [⟨none, false, (some 24), (.mov (.s 5))⟩, ⟨none, false, (some 25), (.bin .add (.s 24) (.c (.int .i64 (1))))⟩, ⟨none, false, (some 5), (.mov (.s 25))⟩])))))) (.seq (.ops [⟨none, false, (some 111), (.ld true 2 (.s 3) none)⟩, ⟨none, false, none, (.st 2 (.s 2) (.s 111) [])⟩]) .ret)))))⟩
theorem cv37 : cvF Try.prog 37 = some F37 := by kernel_rfl


theorem rRenumber_spec {sv ev : V} {ws : List Int} {es : List (List Ed)} {H : Heap} (hs : SInts H sv ws) (he : SSecs H ev es) (hp : properI ws es = 0) : ACalls Try.prog 37 [.agg [sv, ev]] H fun u H' => Heap.sub H H' ∧ ∃ sv' ev', u = .agg [sv', ev'] ∧ SInts H' sv' ws ∧ SSecs H' ev' (renI es) := by
  refine ACalls.of_body hm cv37 (by simp only [List.length_cons, List.length_nil]; decide) ?_
  have pt := pt_of hp
  have sh := pt.sh
  have hnb := sh.n
  have hwl := sh.len
  simp only [F37, go_sem, ↓reduceIte, Nat.reduceEqDiff, Nat.reduceAdd, reduceCtorEq]
  refine newC_keep Has.self fun b1 H1 G1 _ hg1 hb1 h1 => ?_
  simp only [go_sem, ↓reduceIte, Nat.reduceEqDiff, Nat.reduceAdd, reduceCtorEq, fillV, List.length_cons, List.length_nil, splice, Nat.reduceLeDiff, Nat.zero_lt_one, and_self, List.take_zero, List.take_succ_cons, List.drop_succ_cons, List.drop_zero, List.drop_nil, Nat.reduceLT, Nat.le_refl]
  refine newC_has h1 fun b2 H2 _ _ h2 => ?_
  simp only [go_sem, ↓reduceIte, Nat.reduceEqDiff, Nat.reduceAdd, reduceCtorEq, fillV, List.length_cons, List.length_nil, splice, Nat.reduceLeDiff, Nat.zero_lt_one, and_self, List.take_zero, List.take_succ_cons, List.drop_succ_cons, List.drop_zero, List.drop_nil, Nat.reduceLT, Nat.le_refl]
  refine newC_has h2 fun e0 H3 _ _ h3 => ?_
  simp only [go_sem, ↓reduceIte, Nat.reduceEqDiff, Nat.reduceAdd, reduceCtorEq, ld_box (h3.sub _ _ hb1)]
  refine appC_has h3 0 rfl Grw.empty (hs.mono (hg1.trans' h3.sub)) (by omega) (by decide) (fun _ _ _ _ _ => trivial) (by omega) (by omega) fun mw H4 _ gw h4 => ?_
  obtain ⟨G2, hg2, hw2, h4⟩ := gw.done h4 0 rfl (by omega)
  simp only [Nat.zero_add, List.nil_append] at hw2
  have h4 := h4.tail
  simp only [go_sem, ↓reduceIte, Nat.reduceEqDiff, Nat.reduceAdd, reduceCtorEq, fillV, List.length_cons, List.length_nil, splice, Nat.reduceLeDiff, Nat.zero_lt_one, and_self, List.take_zero, List.take_succ_cons, List.drop_succ_cons, List.drop_zero, List.drop_nil, Nat.reduceLT, Nat.le_refl]
  refine newC_has h4 fun b3 H5 _ _ h5 => ?_
  simp only [go_sem, ↓reduceIte, Nat.reduceEqDiff, Nat.reduceAdd, reduceCtorEq]
  refine stC_has h5 0 rfl trivial rfl (by decide) (by decide) fun H6 h6 _ => ?_
  simp only [go_sem, ↓reduceIte, Nat.reduceEqDiff, Nat.reduceAdd, reduceCtorEq, fillV, List.length_cons, List.length_nil, splice, Nat.reduceLeDiff, Nat.zero_lt_one, and_self, List.take_zero, List.take_succ_cons, List.drop_succ_cons, List.drop_zero, List.drop_nil, Nat.reduceLT, Nat.le_refl] at h6 ⊢
  refine newC_keep h6 fun e1 H7 G3 _ hg3 hb3 h7 => ?_
  have hg := hg1.trans' (hg2.trans' hg3)
  have hb1 := hg3 _ _ (hg2 _ _ hb1)
  have hw2 := hw2.mono hg3
  have he0 := SSecs.mono he hg
  have hsv0 := hs.mono hg
  have h7 : Has G3 [bk b3 1 [.sl mw 0 ws.length false, .nils], bk b2 1 [.nils, .nils]] H7 := h7
  simp only [go_sem, ↓reduceIte, Nat.reduceEqDiff, Nat.reduceAdd, reduceCtorEq]
  refine loop_count es.length (fun i env H' => env 1 = .ptr b1 0 ∧ env 2 = .ptr b2 0 ∧ env 3 = .ptr b3 0 ∧ env 5 = .int .i64 i ∧ ∃ G edv us ee0, Heap.sub G3 G ∧ SInts G (env 4) (ordI es i) ∧ us.length = i ∧ (∀ r, r < i → ∃ u, us[r]? = some u ∧ SEds G u (secI es r)) ∧ Grw edv 1 i us ee0 ∧
      Has G [bk b3 1 [.sl mw 0 ws.length false, edv], bk b2 1 [.nils, .nils], ee0] H') ?_ ?_ ?_
  · simp only [go_sem, ↓reduceIte, Nat.reduceEqDiff, Nat.reduceAdd, reduceCtorEq, true_and, and_true]
    exact ⟨rfl, G3, .nils, [], none, Heap.sub.rfl', sl_block hb3 rfl (by decide), rfl, fun r hr => by omega, Grw.nil, h7.room_end⟩
  · rintro i env H8 hi ⟨x1, x2, x3, x5, G, edv, us, ee0, hG, hov, hul, hrow, gE, h8⟩
    obtain ⟨p, ue, a1, a2, a3⟩ := SLists.get he0 hi .i64
    have hgood := sh.good i hi
    have heach := sh.each i hi
    obtain ⟨hwi, hw1, hw2'⟩ := pt.wd (i := i+1) (by omega)
    obtain ⟨hvi, hv1, hv2⟩ := pt.wd (i := i) (by omega)
    obtain ⟨w, hw⟩ : ∃ w, w = wdt ws (i+1) := ⟨_, rfl⟩
    rw [← hw] at hwi hw1 hw2'
    have o := pt.ord i (by omega)
    have hol := o.length hvi
    have hil : i + 1 < ws.length := by omega
    obtain ⟨pw, d1, d2⟩ := SInts.get hsv0 hil .i64
    have hwg : ws[i+1] = (w : Int) := by rw [← hwi]; simp [hil]
    rw [hwg] at d2
    have wi : IntKind.i64.wrap ((i : Int) + 1) = ((i + 1 : Nat) : Int) := wrapN1 (by omega)
    have hlti : (i : Int) < es.length := by omega
    have hs8 := hG.trans' h8.sub
    simp only [go_sem, ↓reduceIte, Nat.reduceEqDiff, Nat.reduceAdd, reduceCtorEq, x1, x2, x3, x5, ld_box (hs8 _ _ hb1), SLists.len he, hlti, wi, d1, ld_mono hs8 d2]
    refine mkC_has h8 (by omega) (by omega) (by omega) fun nb H9 hnb9 _ h9 => ?_
    rw [flat_rep, ← negTo_zero] at h9
    simp only [go_sem, ↓reduceIte, Nat.reduceEqDiff, Nat.reduceAdd, reduceCtorEq, x1, x2, x3, x5, beq_self_eq_true]
    obtain ⟨ov, hov4⟩ : ∃ ov, ov = env 4 := ⟨_, rfl⟩
    rw [← hov4] at hov
    refine blk_join (fun env H' => env 1 = .ptr b1 0 ∧ env 2 = .ptr b2 0 ∧ env 3 = .ptr b3 0 ∧ env 4 = ov ∧ env 5 = .int .i64 i ∧ env 6 = .sl nb 0 w true ∧ Has G [bk nb 1 (ints (numI w [])), bk b3 1 [.sl mw 0 ws.length false, edv], bk b2 1 [.nils, .nils], ee0] H') ?_ ?_
    · refine loop_count w (fun t env H' => env 1 = .ptr b1 0 ∧ env 2 = .ptr b2 0 ∧ env 3 = .ptr b3 0 ∧ env 4 = ov ∧ env 5 = .int .i64 i ∧ env 6 = .sl nb 0 w true ∧ env 7 = .int .i64 t ∧ Has G [bk nb 1 (ints (negTo w t)), bk b3 1 [.sl mw 0 ws.length false, edv], bk b2 1 [.nils, .nils], ee0] H') ?_ ?_ ?_
      · simp only [go_sem, ↓reduceIte, Nat.reduceEqDiff, Nat.reduceAdd, reduceCtorEq, true_and, and_true, x1, x2, x3, x5, hov4]
        exact ⟨by trivial, h9⟩
      · rintro t env H9 ht ⟨x1, x2, x3, x4, x5, x6, x7, h9⟩
        have hlt : (t : Int) < w := by omega
        simp only [go_sem, ↓reduceIte, Nat.reduceEqDiff, Nat.reduceAdd, reduceCtorEq, x1, x2, x3, x4, x5, x6, x7, hlt, ia_el (k := 1) ht, Nat.mul_one]
        refine stC_has1 h9 0 rfl trivial rfl (by rw [ints_len, negTo_len]; omega) fun H10 h10 _ => ?_
        rw [ints_set', negTo_set ht] at h10
        simp only [go_sem, ↓reduceIte, Nat.reduceEqDiff, Nat.reduceAdd, reduceCtorEq, true_and, and_true, x1, x2, x3, x4, x5, x6, x7]
        rw [wrapN1 (by omega)]
        exact ⟨rfl, h10⟩
      · rintro env H9 ⟨x1, x2, x3, x4, x5, x6, x7, h9⟩
        rw [negTo_done] at h9
        simp only [go_sem, ↓reduceIte, Nat.reduceEqDiff, Nat.reduceAdd, reduceCtorEq, true_and, and_true, x1, x2, x3, x4, x5, x6, x7, Int.lt_irrefl]
        exact h9
    rintro env H9 ⟨x1, x2, x3, x4, x5, x6, h9⟩
    simp only [go_sem, ↓reduceIte, Nat.reduceEqDiff, Nat.reduceAdd, reduceCtorEq, fillV, List.length_cons, List.length_nil, splice, Nat.reduceLeDiff, Nat.zero_lt_one, and_self, List.take_zero, List.take_succ_cons, List.drop_succ_cons, List.drop_zero, List.drop_nil, Nat.reduceLT, Nat.le_refl]
    refine newC_has h9 (sz := 1) fun e8 H10 _ _ h10 => ?_
    simp only [go_sem, ↓reduceIte, Nat.reduceEqDiff, Nat.reduceAdd, reduceCtorEq, fillV, List.length_cons, List.length_nil, splice, Nat.reduceLeDiff, Nat.zero_lt_one, and_self, List.take_zero, List.take_succ_cons, List.drop_succ_cons, List.drop_zero, List.drop_nil, Nat.reduceLT, Nat.le_refl]
    refine newC_has h10 (sz := 3) fun e9 H11 _ _ h11 => ?_
    have hv00 : visitTo (ordI es i) es[i] 0 0 = [] := by rw [visitTo_zero]; rfl
    simp only [go_sem, ↓reduceIte, Nat.reduceEqDiff, Nat.reduceAdd, reduceCtorEq, x1, x2, x3, x4, x5, x6]
    refine blk_join (fun env H' => env 1 = .ptr b1 0 ∧ env 2 = .ptr b2 0 ∧ env 3 = .ptr b3 0 ∧ env 5 = .int .i64 i ∧ ∃ xe ee, Grw (env 8) 1 (ordI es (i+1)).length (ints (ordI es (i+1))) xe ∧ Grw (env 9) 3 (visit (ordI es i) es[i]).length (ecells (outE (visit (ordI es i) es[i]))) ee ∧ Has G [ee, xe, bk nb 1 (ints (numI w (ordI es (i+1)))), bk b3 1 [.sl mw 0 ws.length false, edv], bk b2 1 [.nils, .nils], ee0] H') ?_ ?_
    · refine loop_count (ordI es i).length (fun u env H' => env 1 = .ptr b1 0 ∧ env 2 = .ptr b2 0 ∧ env 3 = .ptr b3 0 ∧ env 4 = ov ∧ env 5 = .int .i64 i ∧ env 6 = .sl nb 0 w true ∧ env 10 = .int .i64 u ∧ ∃ V L xe ee, V = visitTo (ordI es i) es[i] u 0 ∧ L = firsts [] V ∧ Grw (env 8) 1 L.length (ints L) xe ∧ Grw (env 9) 3 V.length (ecells (outE V)) ee ∧ Has G [ee, xe, bk nb 1 (ints (numI w L)), bk b3 1 [.sl mw 0 ws.length false, edv], bk b2 1 [.nils, .nils], ee0] H') ?_ ?_ ?_
      · simp only [go_sem, ↓reduceIte, Nat.reduceEqDiff, Nat.reduceAdd, reduceCtorEq, true_and, and_true, x1, x2, x3, x4, x5, x6]
        exact ⟨by trivial, [], [], _, _, hv00.symm, rfl, Grw.empty, Grw.empty, h11⟩
      · rintro u env H12 hu ⟨x1, x2, x3, x4, x5, x6, x10, V, L, xe, ee, hV, hL, gx, gee, h12⟩
        have hltu : (u : Int) < (ordI es i).length := by omega
        simp only [go_sem, ↓reduceIte, Nat.reduceEqDiff, Nat.reduceAdd, reduceCtorEq, x1, x2, x3, x4, x5, x6, x10, hov.len, hltu]
        refine loop_count es[i].length (fun j env H' => env 1 = .ptr b1 0 ∧ env 2 = .ptr b2 0 ∧ env 3 = .ptr b3 0 ∧ env 4 = ov ∧ env 5 = .int .i64 i ∧ env 6 = .sl nb 0 w true ∧ env 10 = .int .i64 u ∧ env 11 = .int .i64 j ∧ ∃ V L xe ee, V = visitTo (ordI es i) es[i] u j ∧ L = firsts [] V ∧ Grw (env 8) 1 L.length (ints L) xe ∧ Grw (env 9) 3 V.length (ecells (outE V)) ee ∧ Has G [ee, xe, bk nb 1 (ints (numI w L)), bk b3 1 [.sl mw 0 ws.length false, edv], bk b2 1 [.nils, .nils], ee0] H') ?_ ?_ ?_
        · simp only [go_sem, ↓reduceIte, Nat.reduceEqDiff, Nat.reduceAdd, reduceCtorEq, true_and, and_true, x1, x2, x3, x4, x5, x6, x10]
          exact ⟨by trivial, V, L, xe, ee, hV, hL, gx, gee, h12⟩
        · clear hL hV gx gee h12
          rintro j env H13 hj ⟨x1, x2, x3, x4, x5, x6, x10, x11, V, L, xe, ee, hV, hL, gx, gee, h13⟩
          have hltj : (j : Int) < es[i].length := by omega
          have hs13 := hG.trans' h13.sub
          obtain ⟨p', q0, q1, q2, c1, c2, _, _, _, _, _, _⟩ := (SEds.mono a3 hs13).get hj .i64
          have hb := hgood _ (List.getElem_mem hj)
          simp only [go_sem, ↓reduceIte, Nat.reduceEqDiff, Nat.reduceAdd, reduceCtorEq, x1, x2, x3, x4, x5, x6, x10, x11, ld_box (hs13 _ _ hb1), a1, ld_mono hs13 a2, SEds.len a3, hltj, c1, c2]
          refine newC_has h13 (sz := 1) fun n12 H14 _ _ h14 => ?_
          simp only [go_sem, ↓reduceIte, Nat.reduceEqDiff, Nat.reduceAdd, reduceCtorEq]
          refine stC_has h14 0 rfl trivial rfl (by decide) (by decide) fun H15 h15 _ => ?_
          simp only [Ed.cells, go_sem, ↓reduceIte, Nat.reduceEqDiff, Nat.reduceAdd, reduceCtorEq, fillV, List.length_cons, List.length_nil, splice, Nat.reduceLeDiff, Nat.zero_lt_one, and_self, List.take_zero, List.take_succ_cons, List.drop_succ_cons, List.drop_zero, List.drop_nil, Nat.reduceLT, Nat.le_refl] at h15
          have h15 : Has G [bk n12 1 (es[i][j]).cells, ee, xe, bk nb 1 (ints (numI w L)), bk b3 1 [.sl mw 0 ws.length false, edv], bk b2 1 [.nils, .nils], ee0] H15 := h15
          obtain ⟨po, o1, o2⟩ := (hov.mono h15.sub).get hu .i64
          have hou := getD_eq hu
          have hlen : V.length ≤ 17180131328 := by
            have h1 := visitTo_len (ordI es i) es[i] u j
            have h2 : u * es[i].length ≤ 65536 * 262144 := Nat.mul_le_mul (by omega) heach
            rw [← hV] at h1; omega
          have hLl : L.length ≤ V.length := by rw [hL]; exact firsts_len V
          obtain ⟨e, he⟩ : ∃ e, e = es[i][j] := ⟨_, rfl⟩
          simp only [← he] at h15 hb ⊢
          simp only [go_sem, ↓reduceIte, Nat.reduceEqDiff, Nat.reduceAdd, reduceCtorEq, x1, x2, x3, x4, x5, x6, x10, x11, ld_box (h15.at_ 0 rfl), Ed.cells, o1, o2]
          refine iteC_if (fun c => ?_) (fun c => ?_)
          · simp only [go_sem, ↓reduceIte, Nat.reduceEqDiff, Nat.reduceAdd, reduceCtorEq, true_and, and_true, x1, x2, x3, x4, x5, x6, x10, x11]
            rw [wrapN1 (by omega)]
            exact ⟨by trivial, V, L, xe, ee, by rw [hV, visitTo_skip hj (by rw [hou, ← he]; exact c)], hL, gx, gee, h15.tail⟩
          have c : e.fr = (ordI es i)[u] := Classical.not_not.1 c
          obtain ⟨to, hto⟩ : ∃ n : Nat, e.to = n := ⟨e.to.toNat, by omega⟩
          have htw : to < w := by omega
          have hnum : ∀ L, (ints (numI w L))[to]? = some (.int .i64 (if (to : Int) ∈ L then posI L to else -1)) := fun L => by
            rw [ints_get (by rw [numI_len]; omega), numI_get htw]
          simp only [go_sem, ↓reduceIte, Nat.reduceEqDiff, Nat.reduceAdd, reduceCtorEq, x1, x2, x3, x4, x5, x6, x10, x11, ld_box (h15.at_ 0 rfl), ld_box (h15.at_ 3 rfl), Ed.cells, hto, ia_el (k := 1) htw, Nat.mul_one, hnum]
          have hV1 : visitTo (ordI es i) es[i] u (j+1) = V ++ [⟨u, e.lb, to⟩] := by rw [visitTo_step hj (by rw [hou, ← he]; exact c), hV, ← hto, he]
          have hec : e.cells = [.int .i64 e.fr, .int .i64 e.lb, .int .i64 to] := by rw [Ed.cells, hto]
          rw [hec] at h15
          refine iteC_join (fun env H' => env 1 = .ptr b1 0 ∧ env 2 = .ptr b2 0 ∧ env 3 = .ptr b3 0 ∧ env 4 = ov ∧ env 5 = .int .i64 i ∧ env 6 = .sl nb 0 w true ∧ env 10 = .int .i64 u ∧ env 11 = .int .i64 j ∧ env 12 = .ptr n12 0 ∧ ∃ L' xe', (to : Int) ∈ L' ∧ L' = firsts [] (V ++ [⟨u, e.lb, to⟩]) ∧ L'.length ≤ L.length + 1 ∧ Grw (env 8) 1 L'.length (ints L') xe' ∧ Grw (env 9) 3 V.length (ecells (outE V)) ee ∧
              Has G [bk n12 1 [.int .i64 e.fr, .int .i64 e.lb, .int .i64 to], ee, xe', bk nb 1 (ints (numI w L')), bk b3 1 [.sl mw 0 ws.length false, edv], bk b2 1 [.nils, .nils], ee0] H') (fun h => ?_) (fun h => ?_) ?_
          · have hc : (to : Int) ∉ L := fun hc => by
              rw [if_pos hc] at h
              have := posI_lt hc; omega
            have hL' : L ++ [(to : Int)] = firsts [] (V ++ [⟨u, e.lb, to⟩]) := by rw [firsts_snoc, ← hL, if_neg hc]
            simp only [go_sem, ↓reduceIte, Nat.reduceEqDiff, Nat.reduceAdd, reduceCtorEq, x1, x2, x3, x4, x5, x6, x10, x11, ld_box (h15.at_ 0 rfl), Ed.cells, hto, gx.lenR, ia_el (k := 1) htw, Nat.mul_one]
            refine stC_has1 h15 3 rfl trivial rfl (by rw [ints_len, numI_len]; omega) fun H16 h16 _ => ?_
            rw [ints_set', numI_set htw hc] at h16
            simp only [List.set_cons_succ, List.set_cons_zero] at h16
            simp only [go_sem, ↓reduceIte, Nat.reduceEqDiff, Nat.reduceAdd, reduceCtorEq, x1, x2, x3, x4, x5, x6, x10, x11, ld_box (h16.at_ 0 rfl), Ed.cells, hto, fillV, List.length_cons, List.length_nil, splice, Nat.reduceLeDiff, Nat.zero_lt_one, and_self, List.take_zero, List.take_succ_cons, List.drop_succ_cons, List.drop_zero, List.drop_nil, Nat.reduceLT, Nat.le_refl]
            refine newC_has h16 (sz := 1) fun xb H17 _ _ h17 => ?_
            simp only [go_sem, ↓reduceIte, Nat.reduceEqDiff, Nat.reduceAdd, reduceCtorEq, x1, x2, x3, x4, x5, x6, x10, x11]
            refine appC_has1 h17 3 rfl gx (h17.at_ 0 rfl) rfl (by decide) (fun _ _ _ _ _ => trivial) (by omega) (by omega) fun m H18 _ gm h18 => ?_
            simp only [go_sem, ↓reduceIte, Nat.reduceEqDiff, Nat.reduceAdd, reduceCtorEq, true_and, and_true, x1, x2, x3, x4, x5, x6, x10, x11]
            refine ⟨L ++ [(to : Int)], _, by simp, hL', by simp, ?_, gee, h18.tail⟩
            simpa [ints] using gm
          · have hc : (to : Int) ∈ L := Classical.byContradiction fun hc => h (by rw [if_neg hc]; decide)
            have hL' : L = firsts [] (V ++ [⟨u, e.lb, to⟩]) := by rw [firsts_snoc, ← hL, if_pos hc]
            simp only [go_sem, ↓reduceIte, Nat.reduceEqDiff, Nat.reduceAdd, reduceCtorEq, true_and, and_true, x1, x2, x3, x4, x5, x6, x10, x11]
            exact ⟨L, xe, hc, hL', by omega, gx, gee, h15⟩
          · clear hL gx hLl h15
            rintro env H16 ⟨x1, x2, x3, x4, x5, x6, x10, x11, x12, L', xe', hc, hL', hLl, gx, gee, h16⟩
            simp only [go_sem, ↓reduceIte, Nat.reduceEqDiff, Nat.reduceAdd, reduceCtorEq, x1, x2, x3, x4, x5, x6, x10, x11, x12, ld_box (h16.at_ 0 rfl), ld_box (h16.at_ 3 rfl), Ed.cells, hto, ia_el (k := 1) htw, Nat.mul_one, hnum, if_pos hc, fillV, List.length_cons, List.length_nil, splice, Nat.reduceLeDiff, Nat.zero_lt_one, and_self, List.take_zero, List.take_succ_cons, List.drop_succ_cons, List.drop_zero, List.drop_nil, Nat.reduceLT, Nat.le_refl]
            refine newC_has h16 (sz := 3) fun xb H17 _ _ h17 => ?_
            have h17 : Has G [bk xb 3 [.int .i64 u, .int .i64 e.lb, .int .i64 (posI L' to)], bk n12 1 [.int .i64 e.fr, .int .i64 e.lb, .int .i64 to], ee, xe', bk nb 1 (ints (numI w L')), bk b3 1 [.sl mw 0 ws.length false, edv], bk b2 1 [.nils, .nils], ee0] H17 := h17
            simp only [go_sem, ↓reduceIte, Nat.reduceEqDiff, Nat.reduceAdd, reduceCtorEq, x1, x2, x3, x4, x5, x6, x10, x11]
            refine appC_has1 h17 2 rfl gee (h17.at_ 0 rfl) rfl (by decide) (fun _ _ _ _ _ => trivial) (by omega) (by omega) fun m H18 _ gm h18 => ?_
            simp only [go_sem, ↓reduceIte, Nat.reduceEqDiff, Nat.reduceAdd, reduceCtorEq, true_and, and_true, x1, x2, x3, x4, x5, x6, x10, x11]
            rw [wrapN1 (by omega)]
            have hout : ecells (outE (V ++ [⟨u, e.lb, to⟩])) = ecells (outE V) ++ [.int .i64 u, .int .i64 e.lb, .int .i64 (posI L' to)] := by
              rw [outE_snoc, ecells_append, ← hL']; rfl
            refine ⟨by trivial, V ++ [⟨u, e.lb, to⟩], L', xe', _, hV1.symm, hL', gx, ?_, h18.tail.tail⟩
            rw [hout, List.length_append]
            exact gm
        · rintro env H13 ⟨x1, x2, x3, x4, x5, x6, x10, x11, V, L, xe, ee, hV, hL, gx, gee, h13⟩
          have hs13 := hG.trans' h13.sub
          simp only [go_sem, ↓reduceIte, Nat.reduceEqDiff, Nat.reduceAdd, reduceCtorEq, true_and, and_true, x1, x2, x3, x4, x5, x6, x10, x11, ld_box (hs13 _ _ hb1), a1, ld_mono hs13 a2, SEds.len a3, Int.lt_irrefl]
          rw [wrapN1 (by omega)]
          rw [visitTo_next] at hV
          exact ⟨by trivial, V, L, xe, ee, hV, hL, gx, gee, h13⟩
      · rintro env H12 ⟨x1, x2, x3, x4, x5, x6, x10, V, L, xe, ee, hV, hL, gx, gee, h12⟩
        simp only [go_sem, ↓reduceIte, Nat.reduceEqDiff, Nat.reduceAdd, reduceCtorEq, true_and, and_true, x1, x2, x3, x4, x5, x6, x10, hov.len, Int.lt_irrefl]
        rw [visitTo_done] at hV
        subst hV
        have eL : L = ordI es (i+1) := by simp only [hL, ordI, List.getElem?_eq_getElem hi, Option.getD_some]
        rw [eL] at gx h12
        exact ⟨xe, ee, gx, gee, h12⟩
    rintro env H12 ⟨x1, x2, x3, x5, xe, ee, gx, gee, h12⟩
    have hvl : (visit (ordI es i) es[i]).length ≤ 17180131328 := by
      have h1 := visitTo_len (ordI es i) es[i] (ordI es i).length 0
      have h2 : (ordI es i).length * es[i].length ≤ 65536 * 262144 := Nat.mul_le_mul (by omega) heach
      rw [visitTo_done] at h1; omega
    have hol' := (pt.ord (i+1) (by omega)).length hwi
    have hsec : outE (visit (ordI es i) es[i]) = secI es i := by simp only [outE, secI, ordI, List.getElem?_eq_getElem hi, Option.getD_some]
    rw [hsec] at gee
    have hsl : (secI es i).length = (visit (ordI es i) es[i]).length := by rw [← hsec, outE_len]
    rw [← hsl] at gee hvl
    obtain ⟨G1', hg1', hsx, h12⟩ := gx.done h12 1 rfl (by omega)
    obtain ⟨G2', hg2', hse, h12⟩ := gee.done h12 0 rfl (by omega)
    simp only [List.set_cons_succ, List.set_cons_zero] at h12
    have hsx : SInts G2' (env 8) (ordI es (i+1)) := Sl.mono hsx hg2'
    have hse : SEds G2' (env 9) (secI es i) := hse
    obtain ⟨u8, hu8⟩ : ∃ u, u = env 8 := ⟨_, rfl⟩
    obtain ⟨u9, hu9⟩ : ∃ u, u = env 9 := ⟨_, rfl⟩
    rw [← hu8] at hsx
    rw [← hu9] at hse
    have hc9 := Sl.cel hse
    simp only [go_sem, ↓reduceIte, Nat.reduceEqDiff, Nat.reduceAdd, reduceCtorEq, x1, x2, x3, x5, ← hu8, ← hu9, ld_box (h12.at_ 3 rfl), fillV, List.length_cons, List.length_nil, splice, Nat.reduceLeDiff, Nat.zero_lt_one, and_self, List.take_zero, List.take_succ_cons, List.drop_succ_cons, List.drop_zero, List.drop_nil, Nat.reduceLT, Nat.le_refl, hc9]
    refine newC_has h12 (sz := 1) fun xb H13 _ _ h13 => ?_
    have h13 : Has G2' [bk xb 1 [u9], none, none, bk nb 1 (ints (numI w (ordI es (i+1)))), bk b3 1 [.sl mw 0 ws.length false, edv], bk b2 1 [.nils, .nils], ee0] H13 := h13
    simp only [go_sem, ↓reduceIte, Nat.reduceEqDiff, Nat.reduceAdd, reduceCtorEq, x1, x2, x3, x5, ← hu8, ← hu9]
    refine appC_has1 h13 6 rfl gE (h13.at_ 0 rfl) rfl (by decide) (fun _ _ _ _ _ => trivial) (by omega) (by omega) fun m H14 _ gm h14 => ?_
    simp only [List.set_cons_succ, List.set_cons_zero] at h14
    simp only [go_sem, ↓reduceIte, Nat.reduceEqDiff, Nat.reduceAdd, reduceCtorEq, x1, x2, x3, x5, ← hu8, ← hu9]
    refine stC_has1 h14 4 rfl trivial rfl (by simp) fun H15 h15 _ => ?_
    simp only [List.set_cons_succ, List.set_cons_zero] at h15
    simp only [go_sem, ↓reduceIte, Nat.reduceEqDiff, Nat.reduceAdd, reduceCtorEq, true_and, and_true, x1, x2, x3, x5, ← hu8, ← hu9]
    rw [wrapN1 (by omega)]
    refine ⟨by trivial, G2', _, us ++ [u9], _, hG.trans' (hg1'.trans' hg2'), hsx, by simp [hul], fun r hr => ?_, gm, h15.tail.tail.tail.tail⟩
    rcases Nat.lt_succ_iff_lt_or_eq.1 hr with hr | rfl
    · obtain ⟨u, e1, e2⟩ := hrow r hr
      exact ⟨u, by rw [List.getElem?_append_left (by omega)]; exact e1, e2.mono (hg1'.trans' hg2')⟩
    · exact ⟨u9, by rw [List.getElem?_append_right (by omega), hul]; simp, hse⟩
  · rintro env H8 ⟨x1, x2, x3, x5, G, edv, us, ee0, hG, hov, hul, hrow, gE, h8⟩
    have hs8 := hG.trans' h8.sub
    simp only [go_sem, ↓reduceIte, Nat.reduceEqDiff, Nat.reduceAdd, reduceCtorEq, x1, x2, x3, x5, ld_box (hs8 _ _ hb1), SLists.len he, Int.lt_irrefl, ld_boxa (h8.at_ 0 rfl) (show 0 + 2 ≤ _ by simp)]
    refine stC_has h8 1 rfl trivial rfl (by decide) (by simp) fun H9 h9 _ => ?_
    have h9 : Has G [bk b3 1 [.sl mw 0 ws.length false, edv], bk b2 1 [.sl mw 0 ws.length false, edv], ee0] H9 := h9
    simp only [go_sem, ↓reduceIte, Nat.reduceEqDiff, Nat.reduceAdd, reduceCtorEq]
    refine f_box1 (n := b2) (o := 0) (by simp only [go_sem, ↓reduceIte, Nat.reduceEqDiff, Nat.reduceAdd, reduceCtorEq, x2]) (h9.at_ 1 rfl) (by simp) ?_
    obtain ⟨G', hg', hsE, h9⟩ := gE.done h9 2 rfl (by omega)
    refine finO_has h9 ⟨(hg.trans' hG).trans' hg', _, _, rfl, hw2.mono (hG.trans' hg'), us, ?_, fun r hr => ?_⟩
    · rw [renI_len]; exact hsE
    · rw [renI_len] at hr
      obtain ⟨u, e1, e2⟩ := hrow r hr
      exact ⟨u, e1, by rw [renI_get hr]; exact e2.mono hg'⟩
end Go.AM

/- codewrightlaw47.alive. Conditions: none. -/
set_option linter.unusedVariables false
set_option linter.unusedSimpArgs false
namespace Go.AM
open Go Go.Proofs
attribute [local go_sem] c_skip c_ops c_seq c_ite c_blk c_exit c_ret t_normal t_exit t_ret b_normal b_exit b_ret i_nil i_cons s_guard s_mov s_pick s_new s_zero s_ld s_ldr s_st s_bin s_beq s_isnil s_eqs s_un s_conv s_fa s_fld s_ia s_sli s_ext s_ifc s_mkf s_agg s_len s_mm s_nilchk s_bsl s_mk s_app s_cpy s_call s_inv cells_agg cells_int cells_bool p_get p_none o_s o_c e_0 e_1 e_2 e_3 e_4 iteC_true iteC_false grd_tt grd_tf grd_ft grd_ff grd_und bindV_some pickV_t pickV_f beq_bool conv_int un_not not_dec mm_min mm_max bv_add bv_sub bv_mul bv_eql bv_neq bv_lss bv_leq bv_gtr bv_geq f_normal f_one f_two f_three f_none fa_ptr fld_one ext_tup len_sl len_nils decide_true decide_false not_true_eq_false not_false_eq_true List.map_cons List.map_nil List.append_nil List.cons_append List.nil_append Nat.zero_add Nat.add_zero Nat.mul_one Nat.succ_ne_self if_true if_false List.getElem?_cons_zero List.getElem?_cons_succ

/-- codewrightlaw47.alive -/
def F17 : AF := ⟨20, [(0, none)], (.seq (.ops [⟨none, false, (some 0), (.mov (.c (.bool false)))⟩]) (.seq (.ops [⟨none, false, (some 4), (.bsl 1 2 [(.int .i64 (0)), (.int .i64 (0))] [(0, (1, (.c (.int .i64 (1))))), (1, (1, (.c (.int .i64 (1)))))])⟩, ⟨none, false, (some 5), (.agg [(.int .i64 (0)), (.int .i64 (0)), (.int .i64 (0))] [(0, (1, (.c (.int .i64 (0))))), (1, (1, (.c (.int .i64 (0))))), (2, (1, (.c (.int .i64 (0)))))])⟩, ⟨none, false, (some 6), (.agg [(.int .i64 (0)), (.int .i64 (0)), (.int .i64 (0))] [(0, (1, (.c (.int .i64 (0))))), (1, (1, (.c (.int .i64 (1))))), (2, (1, (.c (.int .i64 (0)))))])⟩, ⟨none, false, (some 7), (.bsl 3 2 [(.int .i64 (0)), (.int .i64 (0)), (.int .i64 (0)), (.int .i64 (0)), (.int .i64 (0)), (.int .i64 (0))] [(0, (3, (.s 5))), (3, (3, (.s 6)))])⟩, ⟨none, false, (some 8), (.bsl 1 1 [.nils] [(0, (1, (.s 7)))])⟩, ⟨none, false, (some 9), (.agg [.nils, .nils] [(0, (1, (.s 4))), (1, (1, (.s 8)))])⟩, ⟨none, false, (some 10), (.call (.c (.fn 28 [])) [(.s 9)])⟩, ⟨none, false, (some 3), (.mov (.s 10))⟩, ⟨none, false, (some 11), (.ext (.s 3) 0)⟩, ⟨none, false, (some 12), (.ext (.s 3) 1)⟩, ⟨none, false, (some 1), (.mov (.s 11))⟩, ⟨none, false, (some 2), (.mov (.s 12))⟩]) (.seq (.ops [⟨none, false, (some 13), (.mov (.s 2))⟩, ⟨none, false, (some 14), (.bin .eql (.s 13) (.c (.int .i64 (0))))⟩, ⟨none, false, (some 15), (.mov (.s 14))⟩, ⟨(some (15, true)), false, (some 16), (.mov (.s 1))⟩, ⟨(some (15, true)), false, (some 17), (.bsl 1 1 [(.int .u32 (0))] [(0, (1, (.c (.int .u32 (2)))))])⟩, ⟨(some (15, true)), false, (some 18), (.call (.c (.fn 31 [])) [(.s 16), (.s 17)])⟩, ⟨none, false, (some 19), (.pick (.s 15) (.s 18) (.c (.bool false)))⟩, ⟨none, false, (some 0), (.mov (.s 19))⟩]) .ret)))⟩
theorem cv17 : cvF Try.prog 17 = some F17 := by kernel_rfl


theorem ex_paths : pathsI exE = 2 := by
  simp [pathsI, rowF, secF, exE, ctS]
theorem limbs_two {xs : List Int} (h : Limbs xs) (c : Canon xs) (e : nval xs = 2) : xs = [2] :=
  nval_inj h (by intro x hx; simp at hx; omega) c (by intro x hx; simp at hx; omega) (by rw [e]; rfl)

theorem alive47_spec (H : Heap) : ACalls Try.prog 17 [] H fun u H' => Heap.sub H H' ∧ u = .bool true := by
  refine ACalls.of_body hm cv17 (by simp only [List.length_nil]; decide) ?_
  simp only [F17, go_sem, ↓reduceIte, Nat.reduceEqDiff, Nat.reduceAdd, reduceCtorEq, fillV, List.length_cons, List.length_nil, splice, Nat.reduceLeDiff, Nat.zero_lt_one, and_self, List.take_zero, List.take_succ_cons, List.drop_succ_cons, List.drop_zero, List.drop_nil, Nat.reduceLT, Nat.le_refl]
  refine newC_intro fun n1 H1 hn1 hs1 hb1 => ?_
  simp only [go_sem, ↓reduceIte, Nat.reduceEqDiff, Nat.reduceAdd, reduceCtorEq, fillV, List.length_cons, List.length_nil, splice, Nat.reduceLeDiff, Nat.zero_lt_one, and_self, List.take_zero, List.take_succ_cons, List.drop_succ_cons, List.drop_zero, List.drop_nil, Nat.reduceLT, Nat.le_refl, Option.map_some]
  refine newC_intro fun n2 H2 hn2 hs2 hb2 => ?_
  simp only [go_sem, ↓reduceIte, Nat.reduceEqDiff, Nat.reduceAdd, reduceCtorEq, fillV, List.length_cons, List.length_nil, splice, Nat.reduceLeDiff, Nat.zero_lt_one, and_self, List.take_zero, List.take_succ_cons, List.drop_succ_cons, List.drop_zero, List.drop_nil, Nat.reduceLT, Nat.le_refl, Option.map_some, show V.cells (V.sl n2 0 2 true) = [V.sl n2 0 2 true] from rfl]
  refine newC_intro fun n3 H3 hn3 hs3 hb3 => ?_
  simp only [go_sem, ↓reduceIte, Nat.reduceEqDiff, Nat.reduceAdd, reduceCtorEq, fillV, List.length_cons, List.length_nil, splice, Nat.reduceLeDiff, Nat.zero_lt_one, and_self, List.take_zero, List.take_succ_cons, List.drop_succ_cons, List.drop_zero, List.drop_nil, Nat.reduceLT, Nat.le_refl, Option.map_some, show V.cells (V.sl n1 0 2 true) = [V.sl n1 0 2 true] from rfl, show V.cells (V.sl n3 0 1 true) = [V.sl n3 0 1 true] from rfl]
  have hs23 := hs2.trans' hs3
  have s1 : SInts H3 (.sl n1 0 2 true) exW := sl_block (hs23 _ _ hb1) rfl (by decide)
  have s2 : SEds H3 (.sl n2 0 2 true) [⟨0, 0, 0⟩, ⟨0, 1, 0⟩] := sl_block (hs3 _ _ hb2) rfl (by decide)
  have s3 : SSecs H3 (.sl n3 0 1 true) exE := ⟨[.sl n2 0 2 true], sl_block hb3 rfl (by decide), fun i hi => by
    obtain rfl : i = 0 := by simp [exE] at hi; omega
    exact ⟨_, rfl, s2⟩⟩
  have hs03 := hs1.trans' hs23
  refine callC_grow (Paths_spec s1 s3) ?_
  rintro u H4 hs4 (⟨hne, _⟩ | ⟨_, v, rfl, xs, hx, hl, hc, hv, _⟩)
  · exact absurd ex_proper hne
  rw [ex_paths] at hv
  obtain rfl := limbs_two hl hc hv
  simp only [go_sem, ↓reduceIte, Nat.reduceEqDiff, Nat.reduceAdd, reduceCtorEq, fillV, List.length_cons, List.length_nil, splice, Nat.reduceLeDiff, Nat.zero_lt_one, and_self, List.take_zero, List.take_succ_cons, List.drop_succ_cons, List.drop_zero, List.drop_nil, Nat.reduceLT, Nat.le_refl, decide_true, Option.map_some]
  refine newC_intro fun n5 H5 hn5 hs5 hb5 => ?_
  simp only [go_sem, ↓reduceIte, Nat.reduceEqDiff, Nat.reduceAdd, reduceCtorEq]
  have s5 : SLimbs H5 (.sl n5 0 1 true) [2] := sl_block hb5 rfl (by decide)
  refine callC_pure (rNatSame_spec (hx.mono hs5) s5) ?_
  simp only [go_sem, ↓reduceIte, Nat.reduceEqDiff, Nat.reduceAdd, reduceCtorEq]
  exact finO_self ⟨hs03.trans' (hs4.trans' hs5), rfl⟩
end Go.AM

/- Plain: a trellis with other numbers of its nodes has the same form after Renumber. Conditions: as stated. -/
set_option linter.unusedVariables false
set_option linter.unusedSimpArgs false
namespace Go.AM
open Go Go.Proofs

theorem flatMap_one {α : Type} {A : List α} : ∀ (n : Nat) {f : Nat → List α} {k : Nat}, k < n → (∀ u, u < n → u ≠ k → f u = []) → f k = A → (List.range n).flatMap f = A
  | 0, _, _, h, _, _ => by omega
  | n+1, f, k, h, h0, hk => by
    rw [List.range_succ, List.flatMap_append]
    simp only [List.flatMap_cons, List.flatMap_nil, List.append_nil]
    by_cases e : k = n
    · subst e
      have : (List.range k).flatMap f = [] := List.flatMap_eq_nil_iff.2 fun u hu => by
        have := List.mem_range.1 hu
        exact h0 u (by omega) (by omega)
      rw [this, hk]; rfl
    · rw [flatMap_one n (k := k) (by omega) (fun u hu hne => h0 u (by omega) hne) hk, h0 n (by omega) (fun h => e h.symm), List.append_nil]
/-- a section with other numbers of its nodes -/
def reE (o' : List Int) (e : Ed) : Ed := ⟨e.fr, e.lb, posI o' e.to⟩
def reSec (o o' : List Int) (l : List Ed) : List Ed := (visit o l).map (reE o')
theorem reSec_from {o o' : List Int} {l : List Ed} (ho : o.Nodup) {k : Nat} (hk : k < o.length) : (reSec o o' l).filter (fun e => decide (e.fr = (k : Int))) = (l.filter fun e => decide (e.fr = o[k])).map fun e => ⟨k, e.lb, posI o' e.to⟩ := by
  unfold reSec visit
  rw [List.map_flatMap, List.filter_flatMap]
  refine flatMap_one _ hk (fun u hu hne => ?_) ?_
  · rw [List.filter_eq_nil_iff]
    intro x hx
    obtain ⟨y, hy, rfl⟩ := List.mem_map.1 hx
    obtain ⟨e, _, _, rfl⟩ := urow_mem.1 hy
    show ¬ (decide ((u : Int) = (k : Int)) = true)
    rw [decide_eq_true_iff]
    omega
  · rw [List.filter_eq_self.2]
    · unfold urow
      rw [List.map_map, List.getElem?_eq_getElem hk, Option.getD_some]
      rfl
    · intro x hx
      obtain ⟨y, hy, rfl⟩ := List.mem_map.1 hx
      obtain ⟨e, _, _, rfl⟩ := urow_mem.1 hy
      simp [reE]
theorem urow_re {w : Int} {o o' ord : List Int} {l : List Ed} (oo : Ord w o) (oi : ∀ v ∈ ord, 0 ≤ v ∧ v < w) {u : Nat} (hu : u < ord.length) : urow (ord.map (posI o)) (reSec o o' l) u = (urow ord l u).map (reE o') := by
  have hm := (oo.mem _).2 (oi _ (List.getElem_mem hu))
  have hp := posI_lt hm
  have hg := posI_get hm
  obtain ⟨k, hk⟩ : ∃ k : Nat, posI o ord[u] = k := ⟨(posI o ord[u]).toNat, by omega⟩
  have hkl : k < o.length := by omega
  have hok : o[k] = ord[u] := by rw [hk] at hg; simpa [hkl] using hg
  unfold urow
  have e1 : (ord.map (posI o))[u]?.getD 0 = (k : Int) := by simp [hu, hk]
  have e2 : ord[u]?.getD 0 = ord[u] := by simp [hu]
  rw [e1, e2, reSec_from oo.nodup hkl, hok, List.map_map, List.map_map]
  rfl
theorem visit_re {w : Int} {o o' ord : List Int} {l : List Ed} (oo : Ord w o) (oi : ∀ v ∈ ord, 0 ≤ v ∧ v < w) : visit (ord.map (posI o)) (reSec o o' l) = (visit ord l).map (reE o') := by
  unfold visit
  rw [List.map_flatMap, List.length_map]
  have : ∀ (L : List Nat), (∀ u ∈ L, u < ord.length) → L.flatMap (urow (ord.map (posI o)) (reSec o o' l)) = L.flatMap fun u => (urow ord l u).map (reE o') := by
    intro L
    induction L with
    | nil => intro _; rfl
    | cons u L ih =>
      intro h
      simp only [List.flatMap_cons]
      rw [urow_re oo oi (h u (List.mem_cons_self ..)), ih fun x hx => h x (List.mem_cons_of_mem _ hx)]
  exact this _ fun u hu => List.mem_range.1 hu
theorem firsts_map {φ : Int → Int} {g : Ed → Ed} (hg : ∀ e, (g e).to = φ e.to) : ∀ (V : List Ed) (seen : List Int), (∀ a b, (a ∈ seen ∨ ∃ e ∈ V, e.to = a) → (b ∈ seen ∨ ∃ e ∈ V, e.to = b) → φ a = φ b → a = b) → firsts (seen.map φ) (V.map g) = (firsts seen V).map φ
  | [], _, _ => rfl
  | e :: V, seen, h => by
    simp only [List.map_cons, firsts, hg]
    have hc : φ e.to ∈ seen.map φ ↔ e.to ∈ seen := by
      rw [List.mem_map]
      constructor
      · rintro ⟨a, ha, hae⟩
        have := h a e.to (.inl ha) (.inr ⟨e, List.mem_cons_self .., rfl⟩) hae
        rw [← this]; exact ha
      · exact fun ha => ⟨_, ha, rfl⟩
    have sub : ∀ a, (a ∈ (if e.to ∈ seen then seen else seen ++ [e.to]) ∨ ∃ x ∈ V, x.to = a) → (a ∈ seen ∨ ∃ x ∈ e :: V, x.to = a) := by
      rintro a (ha | ⟨x, hx, rfl⟩)
      · split at ha
        · exact .inl ha
        · rcases List.mem_append.1 ha with ha | ha
          · exact .inl ha
          · exact .inr ⟨e, List.mem_cons_self .., (List.mem_singleton.1 ha).symm⟩
      · exact .inr ⟨x, List.mem_cons_of_mem _ hx, rfl⟩
    have ih := firsts_map hg V (if e.to ∈ seen then seen else seen ++ [e.to]) fun a b ha hb => h a b (sub a ha) (sub b hb)
    rw [← ih]
    by_cases c : e.to ∈ seen
    · rw [if_pos c, if_pos (hc.2 c)]
    · rw [if_neg c, if_neg (fun h => c (hc.1 h)), List.map_append]; rfl
theorem idxOf_map {φ : Int → Int} {x : Int} : ∀ (L : List Int), (∀ a ∈ L, φ a = φ x → a = x) → (L.map φ).idxOf (φ x) = L.idxOf x
  | [], _ => rfl
  | a :: L, h => by
    simp only [List.map_cons, List.idxOf_cons]
    have hc : (φ a == φ x) = (a == x) := by
      rw [Bool.eq_iff_iff, beq_iff_eq, beq_iff_eq]
      exact ⟨h a (List.mem_cons_self ..), fun e => by rw [e]⟩
    rw [hc, idxOf_map L fun b hb => h b (List.mem_cons_of_mem _ hb)]
/-- the trellis with the orders o of its old numbers -/
def reTr (o : Nat → List Int) (es : List (List Ed)) : List (List Ed) := (List.range es.length).map fun i => reSec (o i) (o (i+1)) (es[i]?.getD [])
theorem reTr_len (o : Nat → List Int) (es : List (List Ed)) : (reTr o es).length = es.length := by simp [reTr]
theorem reTr_get {o : Nat → List Int} {es : List (List Ed)} {i : Nat} (h : i < es.length) : (reTr o es)[i]'(by rw [reTr_len]; exact h) = reSec (o i) (o (i+1)) es[i] := by simp [reTr, h]
section
variable {ws : List Int} {es : List (List Ed)} {o : Nat → List Int}
theorem PT.re_visit (p : PT ws es) (ho : ∀ i, i ≤ es.length → Ord (ws[i]?.getD 0) (o i)) {i : Nat} (h : i < es.length) (ih : ordI (reTr o es) i = (ordI es i).map (posI (o i))) :
    visit (ordI (reTr o es) i) ((reTr o es)[i]?.getD []) = (visit (ordI es i) es[i]).map (reE (o (i+1))) := by
  have e1 : (reTr o es)[i]?.getD [] = reSec (o i) (o (i+1)) es[i] := by
    rw [List.getElem?_eq_getElem (by rw [reTr_len]; exact h), Option.getD_some, reTr_get h]
  rw [e1, ih]
  exact visit_re (ho i (by omega)) fun v hv => ((p.ord i (by omega)).mem v).1 hv
theorem PT.re_inj (p : PT ws es) (ho : ∀ i, i ≤ es.length → Ord (ws[i]?.getD 0) (o i)) {i : Nat} (h : i ≤ es.length) {a b : Int} (ha : 0 ≤ a ∧ a < ws[i]?.getD 0) (hb : 0 ≤ b ∧ b < ws[i]?.getD 0) (e : posI (o i) a = posI (o i) b) : a = b :=
  posI_inj (((ho i h).mem a).2 ha) (((ho i h).mem b).2 hb) e
theorem PT.visit_to (p : PT ws es) {i : Nat} (h : i < es.length) : ∀ e ∈ visit (ordI es i) es[i], 0 ≤ e.to ∧ e.to < ws[i+1]?.getD 0 := by
  intro e he
  have hb := p.sh.good i h
  obtain ⟨x, hx, rfl⟩ := (visit_mem (p.ord i (by omega)) (fun e he => ⟨(hb e he).1, (hb e he).2.1⟩) e).1 he
  exact ⟨(hb x hx).2.2.1, (hb x hx).2.2.2⟩
theorem PT.re_ord (p : PT ws es) (ho : ∀ i, i ≤ es.length → Ord (ws[i]?.getD 0) (o i)) : ∀ i, i ≤ es.length → ordI (reTr o es) i = (ordI es i).map (posI (o i))
  | 0, _ => by
    have h0 := (ho 0 (Nat.zero_le _))
    rw [p.w0] at h0
    have := posI_lt ((h0.mem 0).2 (by omega))
    have hl := h0.length (n := 1) rfl
    have e : posI (o 0) 0 = 0 := by omega
    simp [ordI, e]
  | i+1, h => by
    have ih := p.re_ord ho i (by omega)
    have hv := p.re_visit ho (show i < es.length by omega) ih
    have e0 : ordI (reTr o es) (i+1) = firsts [] (visit (ordI (reTr o es) i) ((reTr o es)[i]?.getD [])) := rfl
    have e1 : ordI es (i+1) = firsts [] (visit (ordI es i) es[i]) := by simp only [ordI, List.getElem?_eq_getElem (show i < es.length by omega), Option.getD_some]
    rw [e0, hv, e1]
    refine firsts_map (g := reE (o (i+1))) (φ := posI (o (i+1))) (fun e => rfl) _ [] fun a b ha hb hab => ?_
    have hto := p.visit_to (show i < es.length by omega)
    have key : ∀ a, (a ∈ ([] : List Int) ∨ ∃ e ∈ visit (ordI es i) es[i], e.to = a) → 0 ≤ a ∧ a < ws[i+1]?.getD 0 := by
      rintro a (ha | ⟨e, he, rfl⟩)
      · simp at ha
      · exact hto e he
    exact p.re_inj ho h (key a ha) (key b hb) hab
theorem PT.re_sec (p : PT ws es) (ho : ∀ i, i ≤ es.length → Ord (ws[i]?.getD 0) (o i)) {i : Nat} (h : i < es.length) : secI (reTr o es) i = secI es i := by
  have hv := p.re_visit ho h (p.re_ord ho i (by omega))
  have o1 := p.re_ord ho (i+1) (by omega)
  unfold secI
  rw [hv, o1, List.getElem?_eq_getElem h, Option.getD_some, List.map_map]
  apply List.map_congr_left
  intro e he
  have hto := p.visit_to h e he
  have hp : posI ((ordI es (i+1)).map (posI (o (i+1)))) (posI (o (i+1)) e.to) = posI (ordI es (i+1)) e.to := by
    unfold posI
    congr 1
    have := idxOf_map (φ := posI (o (i+1))) (x := e.to) (ordI es (i+1)) fun a ha hae => p.re_inj ho (by omega) (((p.ord (i+1) (by omega)).mem a).1 ha) hto hae
    unfold posI at this
    exact this
  show (⟨e.fr, e.lb, posI ((ordI es (i+1)).map (posI (o (i+1)))) (posI (o (i+1)) e.to)⟩ : Ed) = _
  rw [hp]
/-- Renumber does not see the old numbers -/
theorem PT.re_ren (p : PT ws es) (ho : ∀ i, i ≤ es.length → Ord (ws[i]?.getD 0) (o i)) : renI (reTr o es) = renI es := by
  unfold renI
  rw [reTr_len]
  apply List.map_congr_left
  intro i hi
  exact p.re_sec ho (List.mem_range.1 hi)
/-- it stays proper -/
theorem PT.re_proper (p : PT ws es) (h0 : shapeI ws es = 0) (ho : ∀ i, i ≤ es.length → Ord (ws[i]?.getD 0) (o i)) : properI ws (reTr o es) = 0 := by
  have mem : ∀ i (h : i < es.length) x, x ∈ reSec (o i) (o (i+1)) es[i] ↔ ∃ e ∈ es[i], x = renE (o i) (o (i+1)) e := by
    intro i h x
    have hb := p.sh.good i h
    unfold reSec
    rw [List.mem_map]
    constructor
    · rintro ⟨y, hy, rfl⟩
      obtain ⟨e, he, rfl⟩ := (visit_mem (ho i (by omega)) (fun e he => ⟨(hb e he).1, (hb e he).2.1⟩) y).1 hy
      exact ⟨e, he, rfl⟩
    · rintro ⟨e, he, rfl⟩
      exact ⟨_, (visit_mem (ho i (by omega)) (fun e he => ⟨(hb e he).1, (hb e he).2.1⟩) _).2 ⟨e, he, rfl⟩, rfl⟩
  have olen : ∀ i, i ≤ es.length → ((o i).length : Int) = ws[i]?.getD 0 := by
    intro i h
    have hi : i < ws.length := by rw [p.sh.len]; omega
    have := p.sh.pos i hi
    have e : ws[i]?.getD 0 = ws[i] := by simp [hi]
    have := (ho i h).length (n := (ws[i]?.getD 0).toNat) (by omega)
    omega
  have good : ∀ i (h : i < es.length), ∀ x ∈ reSec (o i) (o (i+1)) es[i], 0 ≤ x.fr ∧ x.fr < ws[i]?.getD 0 ∧ 0 ≤ x.to ∧ x.to < ws[i+1]?.getD 0 := by
    intro i h x hx
    obtain ⟨e, he, rfl⟩ := (mem i h x).1 hx
    have hb := p.sh.good i h e he
    have a1 := posI_lt (((ho i (by omega)).mem e.fr).2 ⟨hb.1, hb.2.1⟩)
    have a2 := posI_lt (((ho (i+1) (by omega)).mem e.to).2 hb.2.2)
    have l1 := olen i (by omega)
    have l2 := olen (i+1) (by omega)
    simp only [renE]
    omega
  have len : ∀ i (h : i < es.length), (reSec (o i) (o (i+1)) es[i]).length = es[i].length := by
    intro i h
    have hb := p.sh.good i h
    unfold reSec
    rw [List.length_map, (visit_perm (ho i (by omega)) (good_pairwise (p.good i h)) fun e he => ⟨(hb e he).1, (hb e he).2.1⟩).length_eq, List.length_map]
  have hlens : lensI (reTr o es) = lensI es := by
    unfold lensI
    apply List.ext_getElem
    · simp [reTr_len]
    · intro i h1 h2
      rw [List.length_map, reTr_len] at h1
      simp only [List.getElem_map]
      rw [reTr_get h1, len i h1]
  have hsh : shapeI ws (reTr o es) = 0 := by
    unfold shapeI at h0 ⊢
    split at h0
    · omega
    rename_i c1
    rw [if_neg (by rw [reTr_len]; exact c1)]
    split at h0
    · omega
    rename_i c2
    rw [if_neg c2]
    split at h0
    · omega
    rename_i c3
    rw [if_neg c3]
    split at h0
    · omega
    rename_i c4
    rw [if_neg (by rw [hlens]; exact c4), if_neg]
    rintro ⟨i, h, e, he, hbad⟩
    rw [reTr_len] at h
    rw [reTr_get h] at he
    have := good i h e he
    unfold BadE at hbad
    omega
  unfold properI
  rw [if_neg (by omega), if_neg (by rw [reTr_len, p.w0, p.wl]; omega), if_pos]
  intro i h
  rw [reTr_len] at h
  have g := p.good i h
  rw [reTr_get h]
  refine ⟨fun x hx => ?_, fun j hj => ?_, fun v hv0 hv1 => ?_, fun v hv0 hv1 => ?_⟩
  · obtain ⟨e, he, rfl⟩ := (mem i h x).1 hx
    exact g.lab e he
  · have pw : (reSec (o i) (o (i+1)) es[i]).Pairwise LexLt := by
      unfold reSec
      rw [List.pairwise_map]
      exact (visit_sorted (good_pairwise g)).imp fun h => h
    exact List.pairwise_iff_getElem.1 pw j (j+1) (by omega) hj (by omega)
  · have l1 := olen i (by omega)
    obtain ⟨k, rfl⟩ : ∃ k : Nat, v = k := ⟨v.toNat, by omega⟩
    have hk : k < (o i).length := by omega
    have hm := ((ho i (by omega)).mem _).1 (List.getElem_mem hk)
    obtain ⟨e, he, hfr⟩ := g.out _ hm.1 hm.2
    refine ⟨_, (mem i h _).2 ⟨e, he, rfl⟩, ?_⟩
    simp only [renE, hfr]
    exact posI_at (ho i (by omega)).nodup hk
  · have l1 := olen (i+1) (by omega)
    obtain ⟨k, rfl⟩ : ∃ k : Nat, v = k := ⟨v.toNat, by omega⟩
    have hk : k < (o (i+1)).length := by omega
    have hm := ((ho (i+1) (by omega)).mem _).1 (List.getElem_mem hk)
    obtain ⟨e, he, hto⟩ := g.inn _ hm.1 hm.2
    refine ⟨_, (mem i h _).2 ⟨e, he, rfl⟩, ?_⟩
    simp only [renE, hto]
    exact posI_at (ho (i+1) (by omega)).nodup hk
end
end Go.AM
