/- The reference's Renumber. Conditions: the trellis is proper. -/
import Derived.Test.YtopeeknimehmcaaK23
import Derived.ChangeArms
import Derived.SizedLaws
import Derived.DataElems
import Derived.Laws.Entries
import Derived.Below
import Derived.WideShapes
import Derived.Test.YtopeeknimehmcaaRows
import Derived.ProofKit
import Derived.OpenShut
import Derived.ShutString
import Derived.ChangeOld
set_option linter.unusedVariables false
set_option linter.unusedSimpArgs false
namespace Go.AM
open Go Go.Proofs
attribute [local go_sem] c_skip c_ops c_seq c_ite c_blk c_exit c_ret t_normal t_exit t_ret b_normal b_exit b_ret i_nil i_cons s_guard s_mov s_pick s_new s_zero s_ld s_ldr s_st s_bin s_beq s_isnil s_eqs s_un s_conv s_fa s_fld s_ia s_sli s_ext s_ifc s_mkf s_agg s_len s_mm s_nilchk s_bsl s_mk s_app s_cpy s_call s_inv cells_agg cells_int cells_bool p_get p_none o_s o_c e_0 e_1 e_2 e_3 e_4 iteC_true iteC_false grd_tt grd_tf grd_ft grd_ff grd_und bindV_some pickV_t pickV_f beq_bool conv_int un_not not_dec mm_min mm_max bv_add bv_sub bv_mul bv_eql bv_neq bv_lss bv_leq bv_gtr bv_geq f_normal f_one f_two f_three f_none fa_ptr fld_one ext_tup len_sl len_nils decide_true decide_false not_true_eq_false not_false_eq_true List.map_cons List.map_nil List.append_nil List.cons_append List.nil_append Nat.zero_add Nat.add_zero Nat.mul_one Nat.succ_ne_self if_true if_false List.getElem?_cons_zero List.getElem?_cons_succ

/-- codewrightref47.Renumber -/
def F37 : AF := ⟨112, [(2, (some (true, 2)))], (.seq (.ops [⟨none, false, (some 1), (.new (.s 0))⟩, ⟨none, false, (some 2), (.zero [.nils, .nils])⟩]) (.seq (.ops [⟨none, false, (some 13), (.bsl 1 0 [] [])⟩, ⟨none, false, (some 14), (.fa 0 (.s 1))⟩, ⟨none, false, (some 15), (.ld false 1 (.s 14) none)⟩, ⟨none, false, (some 16), (.app 1 8 (.s 13) (.s 15) [])⟩, ⟨none, false, (some 17), (.agg [.nils, .nils] [(0, (1, (.s 16)))])⟩, ⟨none, false, (some 3), (.zero [.nils, .nils])⟩, ⟨none, false, none, (.st 2 (.s 3) (.s 17) [])⟩]) (.seq (.ops [⟨none, false, (some 18), (.bsl 1 1 [(.int .i64 (0))] [(0, (1, (.c (.int .i64 (0)))))])⟩, ⟨none, false, (some 4), (.mov (.s 18))⟩]) (.seq (.seq (.ops [⟨none, false, (some 5), (.mov (.c (.int .i64 (0))))⟩]) (.blk 0 (.loop (.seq (.seq (.ops [⟨none, false, (some 19), (.mov (.s 5))⟩, ⟨none, false, (some 20), (.fa 1 (.s 1))⟩, ⟨none, false, (some 21), (.ld false 1 (.s 20) none)⟩, ⟨none, false, (some 22), (.len (.s 21))⟩, ⟨none, false, (some 23), (.bin .lss (.s 19) (.s 22))⟩]) (.ite (.s 23) .skip (.exit 0))) (.seq (.blk 1 (.seq (.ops [⟨none, false, (some 26), (.fa 0 (.s 1))⟩, ⟨none, false, (some 27), (.ld false 1 (.s 26) none)⟩, ⟨none, false, (some 28), (.mov (.s 5))⟩, ⟨none, false, (some 29), (.bin .add (.s 28) (.c (.int .i64 (1))))⟩, ⟨none, false, (some 30), (.ia 1 (.s 27) (.s 29))⟩, ⟨none, false, (some 31), (.ld false 1 (.s 30) none)⟩, ⟨none, false, (some 32), (.mk 1 8 [(.int .i64 (0))] (.s 31) (.s 31))⟩, ⟨none, false, (some 6), (.mov (.s 32))⟩]) (.seq (.seq (.ops [⟨none, false, (some 7), (.mov (.c (.int .i64 (0))))⟩]) (.blk 2 (.loop (.seq (.seq (.ops [⟨none, false, (some 33), (.mov (.s 7))⟩, ⟨none, false, (some 34), (.mov (.s 6))⟩, ⟨none, false, (some 35), (.len (.s 34))⟩, ⟨none, false, (some 36), (.bin .lss (.s 33) (.s 35))⟩]) (.ite (.s 36) .skip (.exit 2))) (.seq (.blk 3 (.ops [⟨none, false, (some 39), (.mov (.s 6))⟩, ⟨none, false, (some 40), (.mov (.s 7))⟩, ⟨none, false, (some 41), (.ia 1 (.s 39) (.s 40))⟩, ⟨none, false, none, (.st 1 (.s 41) (.c (.int .i64 (-1))) [])⟩])) (.ops [⟨none, false, (some 37), (.mov (.s 7))⟩, ⟨none, false, (some 38), (.bin .add (.s 37) (.c (.int .i64 (1))))⟩, ⟨none, false, (some 7), (.mov (.s 38))⟩])))))) (.seq (.ops [⟨none, false, (some 42), (.bsl 1 0 [] [])⟩, ⟨none, false, (some 8), (.mov (.s 42))⟩]) (.seq (.ops [⟨none, false, (some 43), (.bsl 3 0 [] [])⟩, ⟨none, false, (some 9), (.mov (.s 43))⟩]) (.seq (.seq (.ops [⟨none, false, (some 10), (.mov (.c (.int .i64 (0))))⟩]) (.blk 4 (.loop (.seq (.seq (.ops [⟨none, false, (some 44), (.mov (.s 10))⟩, ⟨none, false, (some 45), (.mov (.s 4))⟩, ⟨none, false, (some 46), (.len (.s 45))⟩, ⟨none, false, (some 47), (.bin .lss (.s 44) (.s 46))⟩]) (.ite (.s 47) .skip (.exit 4))) (.seq (.blk 5 (.seq (.ops [⟨none, false, (some 11), (.mov (.c (.int .i64 (0))))⟩]) (.blk 6 (.loop (.seq (.seq (.ops [⟨none, false, (some 50), (.mov (.s 11))⟩, ⟨none, false, (some 51), (.fa 1 (.s 1))⟩, ⟨none, false, (some 52), (.ld false 1 (.s 51) none)⟩, ⟨none, false, (some 53), (.mov (.s 5))⟩, ⟨none, false, (some 54), (.ia 1 (.s 52) (.s 53))⟩, ⟨none, false, (some 55), (.ld false 1 (.s 54) none)⟩, ⟨none, false, (some 56), (.len (.s 55))⟩, ⟨none, false, (some 57), (.bin .lss (.s 50) (.s 56))⟩]) (.ite (.s 57) .skip (.exit 6))) (.seq (.blk 7 (.seq (.ops [⟨none, false, (some 60), (.fa 1 (.s 1))⟩, ⟨none, false, (some 61), (.ld false 1 (.s 60) none)⟩, ⟨none, false, (some 62), (.mov (.s 5))⟩, ⟨none, false, (some 63), (.ia 1 (.s 61) (.s 62))⟩, ⟨none, false, (some 64), (.ld false 1 (.s 63) none)⟩, ⟨none, false, (some 65), (.mov (.s 11))⟩, ⟨none, false, (some 66), (.ia 3 (.s 64) (.s 65))⟩, ⟨none, false, (some 67), (.ld true 3 (.s 66) none)⟩, ⟨none, false, (some 12), (.zero [(.int .i64 (0)), (.int .i64 (0)), (.int .i64 (0))])⟩, ⟨none, false, none, (.st 3 (.s 12) (.s 67) [])⟩]) (.seq (.seq (.ops [⟨none, false, (some 68), (.fa 0 (.s 12))⟩, ⟨none, false, (some 70), (.mov (.s 4))⟩, ⟨none, false, (some 71), (.mov (.s 10))⟩, ⟨none, false, (some 72), (.ia 1 (.s 70) (.s 71))⟩, ⟨none, false, (some 69), (.ld false 1 (.s 68) none)⟩, ⟨none, false, (some 73), (.ld false 1 (.s 72) none)⟩, ⟨none, false, (some 74), (.bin .neq (.s 69) (.s 73))⟩]) (.ite (.s 74) (.exit 7) .skip)) (.seq (.seq (.ops [⟨none, false, (some 75), (.mov (.s 6))⟩, ⟨none, false, (some 76), (.fa 2 (.s 12))⟩, ⟨none, false, (some 77), (.ld false 1 (.s 76) none)⟩, ⟨none, false, (some 78), (.ia 1 (.s 75) (.s 77))⟩, ⟨none, false, (some 79), (.ld false 1 (.s 78) none)⟩, ⟨none, false, (some 80), (.bin .lss (.s 79) (.c (.int .i64 (0))))⟩]) (.ite (.s 80) (.seq (.ops [⟨none, false, (some 81), (.mov (.s 6))⟩, ⟨none, false, (some 82), (.fa 2 (.s 12))⟩, ⟨none, false, (some 83), (.ld false 1 (.s 82) none)⟩, ⟨none, false, (some 84), (.mov (.s 8))⟩, ⟨none, false, (some 85), (.len (.s 84))⟩, ⟨none, false, (some 86), (.ia 1 (.s 81) (.s 83))⟩, ⟨none, false, none, (.st 1 (.s 86) (.s 85) [])⟩]) (.ops [⟨none, false, (some 87), (.mov (.s 8))⟩, ⟨none, false, (some 88), (.fa 2 (.s 12))⟩, ⟨none, false, (some 89), (.ld false 1 (.s 88) none)⟩, ⟨none, false, (some 90), (.bsl 1 1 [(.int .i64 (0))] [(0, (1, (.s 89)))])⟩, ⟨none, false, (some 91), (.app 1 8 (.s 87) (.s 90) [])⟩, ⟨none, false, (some 8), (.mov (.s 91))⟩])) .skip)) (.ops [⟨none, false, (some 92), (.mov (.s 9))⟩, ⟨none, false, (some 93), (.mov (.s 10))⟩, ⟨none, false, (some 94), (.fa 1 (.s 12))⟩, ⟨none, false, (some 96), (.mov (.s 6))⟩, ⟨none, false, (some 97), (.fa 2 (.s 12))⟩, ⟨none, false, (some 95), (.ld false 1 (.s 94) none)⟩, ⟨none, false, (some 98), (.ld false 1 (.s 97) none)⟩, ⟨none, false, (some 99), (.ia 1 (.s 96) (.s 98))⟩, ⟨none, false, (some 100), (.ld false 1 (.s 99) none)⟩, ⟨none, false, (some 101), (.agg [(.int .i64 (0)), (.int .i64 (0)), (.int .i64 (0))] [(0, (1, (.s 93))), (1, (1, (.s 95))), (2, (1, (.s 100)))])⟩, ⟨none, false, (some 102), (.bsl 3 1 [(.int .i64 (0)), (.int .i64 (0)), (.int .i64 (0))] [(0, (3, (.s 101)))])⟩, ⟨none, false, (some 103), (.app 3 24 (.s 92) (.s 102) [])⟩, ⟨none, false, (some 9), (.mov (.s 103))⟩]))))) (.ops [⟨none, false, (some 58), (.mov (.s 11))⟩, ⟨none, false, (some 59), (.bin .add (.s 58) (.c (.int .i64 (1))))⟩, ⟨none, false, (some 11), (.mov (.s 59))⟩]))))))) (.ops [⟨none, false, (some 48), (.mov (.s 10))⟩, ⟨none, false, (some 49), (.bin .add (.s 48) (.c (.int .i64 (1))))⟩, ⟨none, false, (some 10), (.mov (.s 49))⟩])))))) (.seq (.ops [⟨none, false, (some 104), (.fa 1 (.s 3))⟩, ⟨none, false, (some 105), (.ld false 1 (.s 104) none)⟩, ⟨none, false, (some 106), (.mov (.s 9))⟩, ⟨none, false, (some 107), (.bsl 1 1 [.nils] [(0, (1, (.s 106)))])⟩, ⟨none, false, (some 108), (.app 1 24 (.s 105) (.s 107) [])⟩, ⟨none, false, (some 109), (.fa 1 (.s 3))⟩, ⟨none, false, none, (.st 1 (.s 109) (.s 108) [])⟩]) (.ops [⟨none, false, (some 110), (.mov (.s 8))⟩, ⟨none, false, (some 4), (.mov (.s 110))⟩])))))))) (.ops [⟨none, false, (some 24), (.mov (.s 5))⟩, ⟨none, false, (some 25), (.bin .add (.s 24) (.c (.int .i64 (1))))⟩, ⟨none, false, (some 5), (.mov (.s 25))⟩])))))) (.seq (.ops [⟨none, false, (some 111), (.ld true 2 (.s 3) none)⟩, ⟨none, false, none, (.st 2 (.s 2) (.s 111) [])⟩]) .ret)))))⟩
theorem cv37 : cvF Try.prog 37 = some F37 := by kernel_rfl


theorem rRenumber_spec {sv ev : V} {ws : List Int} {es : List (List Ed)} {H : Heap} (hs : SInts H sv ws) (he : SSecs H ev es) (hp : properI ws es = 0) : ACalls Try.prog 37 [.agg [sv, ev]] H fun u H' => Heap.sub H H' ∧ ∃ sv' ev', u = .agg [sv', ev'] ∧ SInts H' sv' ws ∧ SSecs H' ev' (renI es) := by
  refine ACalls.of_body hm cv37 (by simp only [List.length_cons, List.length_nil]; decide) ?_
  have pt := pt_of hp
  have sh := pt.sh
  have hnb := sh.n
  have hwl := sh.len
  simp only [F37, go_sem, ↓reduceIte, Nat.reduceEqDiff, Nat.reduceAdd, reduceCtorEq]
  refine newC_keep Has.self fun b1 H1 G1 _ hg1 hb1 h1 => ?_
  simp only [go_sem, ↓reduceIte, Nat.reduceEqDiff, Nat.reduceAdd, reduceCtorEq, fillV, List.length_cons, List.length_nil, splice, Nat.reduceLeDiff, Nat.zero_lt_one, and_self, List.take_zero, List.take_succ_cons, List.drop_succ_cons, List.drop_zero, List.drop_nil, Nat.reduceLT, Nat.le_refl]
  refine newC_has h1 fun b2 H2 _ _ h2 => ?_
  simp only [go_sem, ↓reduceIte, Nat.reduceEqDiff, Nat.reduceAdd, reduceCtorEq, fillV, List.length_cons, List.length_nil, splice, Nat.reduceLeDiff, Nat.zero_lt_one, and_self, List.take_zero, List.take_succ_cons, List.drop_succ_cons, List.drop_zero, List.drop_nil, Nat.reduceLT, Nat.le_refl]
  refine newC_has h2 fun e0 H3 _ _ h3 => ?_
  simp only [go_sem, ↓reduceIte, Nat.reduceEqDiff, Nat.reduceAdd, reduceCtorEq, ld_box (h3.sub _ _ hb1)]
  refine appC_has h3 0 rfl Grw.empty (hs.mono (hg1.trans' h3.sub)) (by omega) (by decide) (fun _ _ _ _ _ => trivial) (by omega) (by omega) fun mw H4 _ gw h4 => ?_
  obtain ⟨G2, hg2, hw2, h4⟩ := gw.done h4 0 rfl (by omega)
  simp only [Nat.zero_add, List.nil_append] at hw2
  have h4 := h4.tail
  simp only [go_sem, ↓reduceIte, Nat.reduceEqDiff, Nat.reduceAdd, reduceCtorEq, fillV, List.length_cons, List.length_nil, splice, Nat.reduceLeDiff, Nat.zero_lt_one, and_self, List.take_zero, List.take_succ_cons, List.drop_succ_cons, List.drop_zero, List.drop_nil, Nat.reduceLT, Nat.le_refl]
  refine newC_has h4 fun b3 H5 _ _ h5 => ?_
  simp only [go_sem, ↓reduceIte, Nat.reduceEqDiff, Nat.reduceAdd, reduceCtorEq]
  refine stC_has h5 0 rfl trivial rfl (by decide) (by decide) fun H6 h6 _ => ?_
  simp only [go_sem, ↓reduceIte, Nat.reduceEqDiff, Nat.reduceAdd, reduceCtorEq, fillV, List.length_cons, List.length_nil, splice, Nat.reduceLeDiff, Nat.zero_lt_one, and_self, List.take_zero, List.take_succ_cons, List.drop_succ_cons, List.drop_zero, List.drop_nil, Nat.reduceLT, Nat.le_refl] at h6 ⊢
  refine newC_keep h6 fun e1 H7 G3 _ hg3 hb3 h7 => ?_
  have hg := hg1.trans' (hg2.trans' hg3)
  have hb1 := hg3 _ _ (hg2 _ _ hb1)
  have hw2 := hw2.mono hg3
  have he0 := SSecs.mono he hg
  have hsv0 := hs.mono hg
  have h7 : Has G3 [bk b3 1 [.sl mw 0 ws.length false, .nils], bk b2 1 [.nils, .nils]] H7 := h7
  simp only [go_sem, ↓reduceIte, Nat.reduceEqDiff, Nat.reduceAdd, reduceCtorEq]
  refine loop_count es.length (fun i env H' => env 1 = .ptr b1 0 ∧ env 2 = .ptr b2 0 ∧ env 3 = .ptr b3 0 ∧ env 5 = .int .i64 i ∧ ∃ G edv us ee0, Heap.sub G3 G ∧ SInts G (env 4) (ordI es i) ∧ us.length = i ∧ (∀ r, r < i → ∃ u, us[r]? = some u ∧ SEds G u (secI es r)) ∧ Grw edv 1 i us ee0 ∧
      Has G [bk b3 1 [.sl mw 0 ws.length false, edv], bk b2 1 [.nils, .nils], ee0] H') ?_ ?_ ?_
  · simp only [go_sem, ↓reduceIte, Nat.reduceEqDiff, Nat.reduceAdd, reduceCtorEq, true_and, and_true]
    exact ⟨rfl, G3, .nils, [], none, Heap.sub.rfl', sl_block hb3 rfl (by decide), rfl, fun r hr => by omega, Grw.nil, h7.room_end⟩
  · rintro i env H8 hi ⟨x1, x2, x3, x5, G, edv, us, ee0, hG, hov, hul, hrow, gE, h8⟩
    obtain ⟨p, ue, a1, a2, a3⟩ := SLists.get he0 hi .i64
    have hgood := sh.good i hi
    have heach := sh.each i hi
    obtain ⟨hwi, hw1, hw2'⟩ := pt.wd (i := i+1) (by omega)
    obtain ⟨hvi, hv1, hv2⟩ := pt.wd (i := i) (by omega)
    obtain ⟨w, hw⟩ : ∃ w, w = wdt ws (i+1) := ⟨_, rfl⟩
    rw [← hw] at hwi hw1 hw2'
    have o := pt.ord i (by omega)
    have hol := o.length hvi
    have hil : i + 1 < ws.length := by omega
    obtain ⟨pw, d1, d2⟩ := SInts.get hsv0 hil .i64
    have hwg : ws[i+1] = (w : Int) := by rw [← hwi]; simp [hil]
    rw [hwg] at d2
    have wi : IntKind.i64.wrap ((i : Int) + 1) = ((i + 1 : Nat) : Int) := wrapN1 (by omega)
    have hlti : (i : Int) < es.length := by omega
    have hs8 := hG.trans' h8.sub
    simp only [go_sem, ↓reduceIte, Nat.reduceEqDiff, Nat.reduceAdd, reduceCtorEq, x1, x2, x3, x5, ld_box (hs8 _ _ hb1), SLists.len he, hlti, wi, d1, ld_mono hs8 d2]
    refine mkC_has h8 (by omega) (by omega) (by omega) fun nb H9 hnb9 _ h9 => ?_
    rw [flat_rep, ← negTo_zero] at h9
    simp only [go_sem, ↓reduceIte, Nat.reduceEqDiff, Nat.reduceAdd, reduceCtorEq, x1, x2, x3, x5, beq_self_eq_true]
    obtain ⟨ov, hov4⟩ : ∃ ov, ov = env 4 := ⟨_, rfl⟩
    rw [← hov4] at hov
    refine blk_join (fun env H' => env 1 = .ptr b1 0 ∧ env 2 = .ptr b2 0 ∧ env 3 = .ptr b3 0 ∧ env 4 = ov ∧ env 5 = .int .i64 i ∧ env 6 = .sl nb 0 w true ∧ Has G [bk nb 1 (ints (numI w [])), bk b3 1 [.sl mw 0 ws.length false, edv], bk b2 1 [.nils, .nils], ee0] H') ?_ ?_
    · refine loop_count w (fun t env H' => env 1 = .ptr b1 0 ∧ env 2 = .ptr b2 0 ∧ env 3 = .ptr b3 0 ∧ env 4 = ov ∧ env 5 = .int .i64 i ∧ env 6 = .sl nb 0 w true ∧ env 7 = .int .i64 t ∧ Has G [bk nb 1 (ints (negTo w t)), bk b3 1 [.sl mw 0 ws.length false, edv], bk b2 1 [.nils, .nils], ee0] H') ?_ ?_ ?_
      · simp only [go_sem, ↓reduceIte, Nat.reduceEqDiff, Nat.reduceAdd, reduceCtorEq, true_and, and_true, x1, x2, x3, x5, hov4]
        exact ⟨by trivial, h9⟩
      · rintro t env H9 ht ⟨x1, x2, x3, x4, x5, x6, x7, h9⟩
        have hlt : (t : Int) < w := by omega
        simp only [go_sem, ↓reduceIte, Nat.reduceEqDiff, Nat.reduceAdd, reduceCtorEq, x1, x2, x3, x4, x5, x6, x7, hlt, ia_el (k := 1) ht, Nat.mul_one]
        refine stC_has1 h9 0 rfl trivial rfl (by rw [ints_len, negTo_len]; omega) fun H10 h10 _ => ?_
        rw [ints_set', negTo_set ht] at h10
        simp only [go_sem, ↓reduceIte, Nat.reduceEqDiff, Nat.reduceAdd, reduceCtorEq, true_and, and_true, x1, x2, x3, x4, x5, x6, x7]
        rw [wrapN1 (by omega)]
        exact ⟨rfl, h10⟩
      · rintro env H9 ⟨x1, x2, x3, x4, x5, x6, x7, h9⟩
        rw [negTo_done] at h9
        simp only [go_sem, ↓reduceIte, Nat.reduceEqDiff, Nat.reduceAdd, reduceCtorEq, true_and, and_true, x1, x2, x3, x4, x5, x6, x7, Int.lt_irrefl]
        exact h9
    rintro env H9 ⟨x1, x2, x3, x4, x5, x6, h9⟩
    simp only [go_sem, ↓reduceIte, Nat.reduceEqDiff, Nat.reduceAdd, reduceCtorEq, fillV, List.length_cons, List.length_nil, splice, Nat.reduceLeDiff, Nat.zero_lt_one, and_self, List.take_zero, List.take_succ_cons, List.drop_succ_cons, List.drop_zero, List.drop_nil, Nat.reduceLT, Nat.le_refl]
    refine newC_has h9 (sz := 1) fun e8 H10 _ _ h10 => ?_
    simp only [go_sem, ↓reduceIte, Nat.reduceEqDiff, Nat.reduceAdd, reduceCtorEq, fillV, List.length_cons, List.length_nil, splice, Nat.reduceLeDiff, Nat.zero_lt_one, and_self, List.take_zero, List.take_succ_cons, List.drop_succ_cons, List.drop_zero, List.drop_nil, Nat.reduceLT, Nat.le_refl]
    refine newC_has h10 (sz := 3) fun e9 H11 _ _ h11 => ?_
    have hv00 : visitTo (ordI es i) es[i] 0 0 = [] := by rw [visitTo_zero]; rfl
    simp only [go_sem, ↓reduceIte, Nat.reduceEqDiff, Nat.reduceAdd, reduceCtorEq, x1, x2, x3, x4, x5, x6]
    refine blk_join (fun env H' => env 1 = .ptr b1 0 ∧ env 2 = .ptr b2 0 ∧ env 3 = .ptr b3 0 ∧ env 5 = .int .i64 i ∧ ∃ xe ee, Grw (env 8) 1 (ordI es (i+1)).length (ints (ordI es (i+1))) xe ∧ Grw (env 9) 3 (visit (ordI es i) es[i]).length (ecells (outE (visit (ordI es i) es[i]))) ee ∧ Has G [ee, xe, bk nb 1 (ints (numI w (ordI es (i+1)))), bk b3 1 [.sl mw 0 ws.length false, edv], bk b2 1 [.nils, .nils], ee0] H') ?_ ?_
    · refine loop_count (ordI es i).length (fun u env H' => env 1 = .ptr b1 0 ∧ env 2 = .ptr b2 0 ∧ env 3 = .ptr b3 0 ∧ env 4 = ov ∧ env 5 = .int .i64 i ∧ env 6 = .sl nb 0 w true ∧ env 10 = .int .i64 u ∧ ∃ V L xe ee, V = visitTo (ordI es i) es[i] u 0 ∧ L = firsts [] V ∧ Grw (env 8) 1 L.length (ints L) xe ∧ Grw (env 9) 3 V.length (ecells (outE V)) ee ∧ Has G [ee, xe, bk nb 1 (ints (numI w L)), bk b3 1 [.sl mw 0 ws.length false, edv], bk b2 1 [.nils, .nils], ee0] H') ?_ ?_ ?_
      · simp only [go_sem, ↓reduceIte, Nat.reduceEqDiff, Nat.reduceAdd, reduceCtorEq, true_and, and_true, x1, x2, x3, x4, x5, x6]
        exact ⟨by trivial, [], [], _, _, hv00.symm, rfl, Grw.empty, Grw.empty, h11⟩
      · rintro u env H12 hu ⟨x1, x2, x3, x4, x5, x6, x10, V, L, xe, ee, hV, hL, gx, gee, h12⟩
        have hltu : (u : Int) < (ordI es i).length := by omega
        simp only [go_sem, ↓reduceIte, Nat.reduceEqDiff, Nat.reduceAdd, reduceCtorEq, x1, x2, x3, x4, x5, x6, x10, hov.len, hltu]
        refine loop_count es[i].length (fun j env H' => env 1 = .ptr b1 0 ∧ env 2 = .ptr b2 0 ∧ env 3 = .ptr b3 0 ∧ env 4 = ov ∧ env 5 = .int .i64 i ∧ env 6 = .sl nb 0 w true ∧ env 10 = .int .i64 u ∧ env 11 = .int .i64 j ∧ ∃ V L xe ee, V = visitTo (ordI es i) es[i] u j ∧ L = firsts [] V ∧ Grw (env 8) 1 L.length (ints L) xe ∧ Grw (env 9) 3 V.length (ecells (outE V)) ee ∧ Has G [ee, xe, bk nb 1 (ints (numI w L)), bk b3 1 [.sl mw 0 ws.length false, edv], bk b2 1 [.nils, .nils], ee0] H') ?_ ?_ ?_
        · simp only [go_sem, ↓reduceIte, Nat.reduceEqDiff, Nat.reduceAdd, reduceCtorEq, true_and, and_true, x1, x2, x3, x4, x5, x6, x10]
          exact ⟨by trivial, V, L, xe, ee, hV, hL, gx, gee, h12⟩
        · clear hL hV gx gee h12
          rintro j env H13 hj ⟨x1, x2, x3, x4, x5, x6, x10, x11, V, L, xe, ee, hV, hL, gx, gee, h13⟩
          have hltj : (j : Int) < es[i].length := by omega
          have hs13 := hG.trans' h13.sub
          obtain ⟨p', q0, q1, q2, c1, c2, _, _, _, _, _, _⟩ := (SEds.mono a3 hs13).get hj .i64
          have hb := hgood _ (List.getElem_mem hj)
          simp only [go_sem, ↓reduceIte, Nat.reduceEqDiff, Nat.reduceAdd, reduceCtorEq, x1, x2, x3, x4, x5, x6, x10, x11, ld_box (hs13 _ _ hb1), a1, ld_mono hs13 a2, SEds.len a3, hltj, c1, c2]
          refine newC_has h13 (sz := 1) fun n12 H14 _ _ h14 => ?_
          simp only [go_sem, ↓reduceIte, Nat.reduceEqDiff, Nat.reduceAdd, reduceCtorEq]
          refine stC_has h14 0 rfl trivial rfl (by decide) (by decide) fun H15 h15 _ => ?_
          simp only [Ed.cells, go_sem, ↓reduceIte, Nat.reduceEqDiff, Nat.reduceAdd, reduceCtorEq, fillV, List.length_cons, List.length_nil, splice, Nat.reduceLeDiff, Nat.zero_lt_one, and_self, List.take_zero, List.take_succ_cons, List.drop_succ_cons, List.drop_zero, List.drop_nil, Nat.reduceLT, Nat.le_refl] at h15
          have h15 : Has G [bk n12 1 (es[i][j]).cells, ee, xe, bk nb 1 (ints (numI w L)), bk b3 1 [.sl mw 0 ws.length false, edv], bk b2 1 [.nils, .nils], ee0] H15 := h15
          obtain ⟨po, o1, o2⟩ := (hov.mono h15.sub).get hu .i64
          have hou := getD_eq hu
          have hlen : V.length ≤ 17180131328 := by
            have h1 := visitTo_len (ordI es i) es[i] u j
            have h2 : u * es[i].length ≤ 65536 * 262144 := Nat.mul_le_mul (by omega) heach
            rw [← hV] at h1; omega
          have hLl : L.length ≤ V.length := by rw [hL]; exact firsts_len V
          obtain ⟨e, he⟩ : ∃ e, e = es[i][j] := ⟨_, rfl⟩
          simp only [← he] at h15 hb ⊢
          simp only [go_sem, ↓reduceIte, Nat.reduceEqDiff, Nat.reduceAdd, reduceCtorEq, x1, x2, x3, x4, x5, x6, x10, x11, ld_box (h15.at_ 0 rfl), Ed.cells, o1, o2]
          refine iteC_if (fun c => ?_) (fun c => ?_)
          · simp only [go_sem, ↓reduceIte, Nat.reduceEqDiff, Nat.reduceAdd, reduceCtorEq, true_and, and_true, x1, x2, x3, x4, x5, x6, x10, x11]
            rw [wrapN1 (by omega)]
            exact ⟨by trivial, V, L, xe, ee, by rw [hV, visitTo_skip hj (by rw [hou, ← he]; exact c)], hL, gx, gee, h15.tail⟩
          have c : e.fr = (ordI es i)[u] := Classical.not_not.1 c
          obtain ⟨to, hto⟩ : ∃ n : Nat, e.to = n := ⟨e.to.toNat, by omega⟩
          have htw : to < w := by omega
          have hnum : ∀ L, (ints (numI w L))[to]? = some (.int .i64 (if (to : Int) ∈ L then posI L to else -1)) := fun L => by
            rw [ints_get (by rw [numI_len]; omega), numI_get htw]
          simp only [go_sem, ↓reduceIte, Nat.reduceEqDiff, Nat.reduceAdd, reduceCtorEq, x1, x2, x3, x4, x5, x6, x10, x11, ld_box (h15.at_ 0 rfl), ld_box (h15.at_ 3 rfl), Ed.cells, hto, ia_el (k := 1) htw, Nat.mul_one, hnum]
          have hV1 : visitTo (ordI es i) es[i] u (j+1) = V ++ [⟨u, e.lb, to⟩] := by rw [visitTo_step hj (by rw [hou, ← he]; exact c), hV, ← hto, he]
          have hec : e.cells = [.int .i64 e.fr, .int .i64 e.lb, .int .i64 to] := by rw [Ed.cells, hto]
          rw [hec] at h15
          refine iteC_join (fun env H' => env 1 = .ptr b1 0 ∧ env 2 = .ptr b2 0 ∧ env 3 = .ptr b3 0 ∧ env 4 = ov ∧ env 5 = .int .i64 i ∧ env 6 = .sl nb 0 w true ∧ env 10 = .int .i64 u ∧ env 11 = .int .i64 j ∧ env 12 = .ptr n12 0 ∧ ∃ L' xe', (to : Int) ∈ L' ∧ L' = firsts [] (V ++ [⟨u, e.lb, to⟩]) ∧ L'.length ≤ L.length + 1 ∧ Grw (env 8) 1 L'.length (ints L') xe' ∧ Grw (env 9) 3 V.length (ecells (outE V)) ee ∧
              Has G [bk n12 1 [.int .i64 e.fr, .int .i64 e.lb, .int .i64 to], ee, xe', bk nb 1 (ints (numI w L')), bk b3 1 [.sl mw 0 ws.length false, edv], bk b2 1 [.nils, .nils], ee0] H') (fun h => ?_) (fun h => ?_) ?_
          · have hc : (to : Int) ∉ L := fun hc => by
              rw [if_pos hc] at h
              have := posI_lt hc; omega
            have hL' : L ++ [(to : Int)] = firsts [] (V ++ [⟨u, e.lb, to⟩]) := by rw [firsts_snoc, ← hL, if_neg hc]
            simp only [go_sem, ↓reduceIte, Nat.reduceEqDiff, Nat.reduceAdd, reduceCtorEq, x1, x2, x3, x4, x5, x6, x10, x11, ld_box (h15.at_ 0 rfl), Ed.cells, hto, gx.lenR, ia_el (k := 1) htw, Nat.mul_one]
            refine stC_has1 h15 3 rfl trivial rfl (by rw [ints_len, numI_len]; omega) fun H16 h16 _ => ?_
            rw [ints_set', numI_set htw hc] at h16
            simp only [List.set_cons_succ, List.set_cons_zero] at h16
            simp only [go_sem, ↓reduceIte, Nat.reduceEqDiff, Nat.reduceAdd, reduceCtorEq, x1, x2, x3, x4, x5, x6, x10, x11, ld_box (h16.at_ 0 rfl), Ed.cells, hto, fillV, List.length_cons, List.length_nil, splice, Nat.reduceLeDiff, Nat.zero_lt_one, and_self, List.take_zero, List.take_succ_cons, List.drop_succ_cons, List.drop_zero, List.drop_nil, Nat.reduceLT, Nat.le_refl]
            refine newC_has h16 (sz := 1) fun xb H17 _ _ h17 => ?_
            simp only [go_sem, ↓reduceIte, Nat.reduceEqDiff, Nat.reduceAdd, reduceCtorEq, x1, x2, x3, x4, x5, x6, x10, x11]
            refine appC_has1 h17 3 rfl gx (h17.at_ 0 rfl) rfl (by decide) (fun _ _ _ _ _ => trivial) (by omega) (by omega) fun m H18 _ gm h18 => ?_
            simp only [go_sem, ↓reduceIte, Nat.reduceEqDiff, Nat.reduceAdd, reduceCtorEq, true_and, and_true, x1, x2, x3, x4, x5, x6, x10, x11]
            refine ⟨L ++ [(to : Int)], _, by simp, hL', by simp, ?_, gee, h18.tail⟩
            simpa [ints] using gm
          · have hc : (to : Int) ∈ L := Classical.byContradiction fun hc => h (by rw [if_neg hc]; decide)
            have hL' : L = firsts [] (V ++ [⟨u, e.lb, to⟩]) := by rw [firsts_snoc, ← hL, if_pos hc]
            simp only [go_sem, ↓reduceIte, Nat.reduceEqDiff, Nat.reduceAdd, reduceCtorEq, true_and, and_true, x1, x2, x3, x4, x5, x6, x10, x11]
            exact ⟨L, xe, hc, hL', by omega, gx, gee, h15⟩
          · clear hL gx hLl h15
            rintro env H16 ⟨x1, x2, x3, x4, x5, x6, x10, x11, x12, L', xe', hc, hL', hLl, gx, gee, h16⟩
            simp only [go_sem, ↓reduceIte, Nat.reduceEqDiff, Nat.reduceAdd, reduceCtorEq, x1, x2, x3, x4, x5, x6, x10, x11, x12, ld_box (h16.at_ 0 rfl), ld_box (h16.at_ 3 rfl), Ed.cells, hto, ia_el (k := 1) htw, Nat.mul_one, hnum, if_pos hc, fillV, List.length_cons, List.length_nil, splice, Nat.reduceLeDiff, Nat.zero_lt_one, and_self, List.take_zero, List.take_succ_cons, List.drop_succ_cons, List.drop_zero, List.drop_nil, Nat.reduceLT, Nat.le_refl]
            refine newC_has h16 (sz := 3) fun xb H17 _ _ h17 => ?_
            have h17 : Has G [bk xb 3 [.int .i64 u, .int .i64 e.lb, .int .i64 (posI L' to)], bk n12 1 [.int .i64 e.fr, .int .i64 e.lb, .int .i64 to], ee, xe', bk nb 1 (ints (numI w L')), bk b3 1 [.sl mw 0 ws.length false, edv], bk b2 1 [.nils, .nils], ee0] H17 := h17
            simp only [go_sem, ↓reduceIte, Nat.reduceEqDiff, Nat.reduceAdd, reduceCtorEq, x1, x2, x3, x4, x5, x6, x10, x11]
            refine appC_has1 h17 2 rfl gee (h17.at_ 0 rfl) rfl (by decide) (fun _ _ _ _ _ => trivial) (by omega) (by omega) fun m H18 _ gm h18 => ?_
            simp only [go_sem, ↓reduceIte, Nat.reduceEqDiff, Nat.reduceAdd, reduceCtorEq, true_and, and_true, x1, x2, x3, x4, x5, x6, x10, x11]
            rw [wrapN1 (by omega)]
            have hout : ecells (outE (V ++ [⟨u, e.lb, to⟩])) = ecells (outE V) ++ [.int .i64 u, .int .i64 e.lb, .int .i64 (posI L' to)] := by
              rw [outE_snoc, ecells_append, ← hL']; rfl
            refine ⟨by trivial, V ++ [⟨u, e.lb, to⟩], L', xe', _, hV1.symm, hL', gx, ?_, h18.tail.tail⟩
            rw [hout, List.length_append]
            exact gm
        · rintro env H13 ⟨x1, x2, x3, x4, x5, x6, x10, x11, V, L, xe, ee, hV, hL, gx, gee, h13⟩
          have hs13 := hG.trans' h13.sub
          simp only [go_sem, ↓reduceIte, Nat.reduceEqDiff, Nat.reduceAdd, reduceCtorEq, true_and, and_true, x1, x2, x3, x4, x5, x6, x10, x11, ld_box (hs13 _ _ hb1), a1, ld_mono hs13 a2, SEds.len a3, Int.lt_irrefl]
          rw [wrapN1 (by omega)]
          rw [visitTo_next] at hV
          exact ⟨by trivial, V, L, xe, ee, hV, hL, gx, gee, h13⟩
      · rintro env H12 ⟨x1, x2, x3, x4, x5, x6, x10, V, L, xe, ee, hV, hL, gx, gee, h12⟩
        simp only [go_sem, ↓reduceIte, Nat.reduceEqDiff, Nat.reduceAdd, reduceCtorEq, true_and, and_true, x1, x2, x3, x4, x5, x6, x10, hov.len, Int.lt_irrefl]
        rw [visitTo_done] at hV
        subst hV
        have eL : L = ordI es (i+1) := by simp only [hL, ordI, List.getElem?_eq_getElem hi, Option.getD_some]
        rw [eL] at gx h12
        exact ⟨xe, ee, gx, gee, h12⟩
    rintro env H12 ⟨x1, x2, x3, x5, xe, ee, gx, gee, h12⟩
    have hvl : (visit (ordI es i) es[i]).length ≤ 17180131328 := by
      have h1 := visitTo_len (ordI es i) es[i] (ordI es i).length 0
      have h2 : (ordI es i).length * es[i].length ≤ 65536 * 262144 := Nat.mul_le_mul (by omega) heach
      rw [visitTo_done] at h1; omega
    have hol' := (pt.ord (i+1) (by omega)).length hwi
    have hsec : outE (visit (ordI es i) es[i]) = secI es i := by simp only [outE, secI, ordI, List.getElem?_eq_getElem hi, Option.getD_some]
    rw [hsec] at gee
    have hsl : (secI es i).length = (visit (ordI es i) es[i]).length := by rw [← hsec, outE_len]
    rw [← hsl] at gee hvl
    obtain ⟨G1', hg1', hsx, h12⟩ := gx.done h12 1 rfl (by omega)
    obtain ⟨G2', hg2', hse, h12⟩ := gee.done h12 0 rfl (by omega)
    simp only [List.set_cons_succ, List.set_cons_zero] at h12
    have hsx : SInts G2' (env 8) (ordI es (i+1)) := Sl.mono hsx hg2'
    have hse : SEds G2' (env 9) (secI es i) := hse
    obtain ⟨u8, hu8⟩ : ∃ u, u = env 8 := ⟨_, rfl⟩
    obtain ⟨u9, hu9⟩ : ∃ u, u = env 9 := ⟨_, rfl⟩
    rw [← hu8] at hsx
    rw [← hu9] at hse
    have hc9 := Sl.cel hse
    simp only [go_sem, ↓reduceIte, Nat.reduceEqDiff, Nat.reduceAdd, reduceCtorEq, x1, x2, x3, x5, ← hu8, ← hu9, ld_box (h12.at_ 3 rfl), fillV, List.length_cons, List.length_nil, splice, Nat.reduceLeDiff, Nat.zero_lt_one, and_self, List.take_zero, List.take_succ_cons, List.drop_succ_cons, List.drop_zero, List.drop_nil, Nat.reduceLT, Nat.le_refl, hc9]
    refine newC_has h12 (sz := 1) fun xb H13 _ _ h13 => ?_
    have h13 : Has G2' [bk xb 1 [u9], none, none, bk nb 1 (ints (numI w (ordI es (i+1)))), bk b3 1 [.sl mw 0 ws.length false, edv], bk b2 1 [.nils, .nils], ee0] H13 := h13
    simp only [go_sem, ↓reduceIte, Nat.reduceEqDiff, Nat.reduceAdd, reduceCtorEq, x1, x2, x3, x5, ← hu8, ← hu9]
    refine appC_has1 h13 6 rfl gE (h13.at_ 0 rfl) rfl (by decide) (fun _ _ _ _ _ => trivial) (by omega) (by omega) fun m H14 _ gm h14 => ?_
    simp only [List.set_cons_succ, List.set_cons_zero] at h14
    simp only [go_sem, ↓reduceIte, Nat.reduceEqDiff, Nat.reduceAdd, reduceCtorEq, x1, x2, x3, x5, ← hu8, ← hu9]
    refine stC_has1 h14 4 rfl trivial rfl (by simp) fun H15 h15 _ => ?_
    simp only [List.set_cons_succ, List.set_cons_zero] at h15
    simp only [go_sem, ↓reduceIte, Nat.reduceEqDiff, Nat.reduceAdd, reduceCtorEq, true_and, and_true, x1, x2, x3, x5, ← hu8, ← hu9]
    rw [wrapN1 (by omega)]
    refine ⟨by trivial, G2', _, us ++ [u9], _, hG.trans' (hg1'.trans' hg2'), hsx, by simp [hul], fun r hr => ?_, gm, h15.tail.tail.tail.tail⟩
    rcases Nat.lt_succ_iff_lt_or_eq.1 hr with hr | rfl
    · obtain ⟨u, e1, e2⟩ := hrow r hr
      exact ⟨u, by rw [List.getElem?_append_left (by omega)]; exact e1, e2.mono (hg1'.trans' hg2')⟩
    · exact ⟨u9, by rw [List.getElem?_append_right (by omega), hul]; simp, hse⟩
  · rintro env H8 ⟨x1, x2, x3, x5, G, edv, us, ee0, hG, hov, hul, hrow, gE, h8⟩
    have hs8 := hG.trans' h8.sub
    simp only [go_sem, ↓reduceIte, Nat.reduceEqDiff, Nat.reduceAdd, reduceCtorEq, x1, x2, x3, x5, ld_box (hs8 _ _ hb1), SLists.len he, Int.lt_irrefl, ld_boxa (h8.at_ 0 rfl) (show 0 + 2 ≤ _ by simp)]
    refine stC_has h8 1 rfl trivial rfl (by decide) (by simp) fun H9 h9 _ => ?_
    have h9 : Has G [bk b3 1 [.sl mw 0 ws.length false, edv], bk b2 1 [.sl mw 0 ws.length false, edv], ee0] H9 := h9
    simp only [go_sem, ↓reduceIte, Nat.reduceEqDiff, Nat.reduceAdd, reduceCtorEq]
    refine f_box1 (n := b2) (o := 0) (by simp only [go_sem, ↓reduceIte, Nat.reduceEqDiff, Nat.reduceAdd, reduceCtorEq, x2]) (h9.at_ 1 rfl) (by simp) ?_
    obtain ⟨G', hg', hsE, h9⟩ := gE.done h9 2 rfl (by omega)
    refine finO_has h9 ⟨(hg.trans' hG).trans' hg', _, _, rfl, hw2.mono (hG.trans' hg'), us, ?_, fun r hr => ?_⟩
    · rw [renI_len]; exact hsE
    · rw [renI_len] at hr
      obtain ⟨u, e1, e2⟩ := hrow r hr
      exact ⟨u, e1, by rw [renI_get hr]; exact e2.mono hg'⟩
end Go.AM

/- Arguments that read as data, as values of the abstract machine over blocks that nobody writes. Conditions: none. -/
set_option linter.unusedVariables false
set_option linter.unusedSimpArgs false
namespace Go.AM
open Go Go.RowKit Go.WideShapes

def RO (H : Heap) : Prop := ∀ n b, H n = some b → b.own = false

theorem Sim.addRO {μ : Map} {H : Heap} {w : World} (h : Sim μ H w) (hr : RO H) {n : Nat} (hn : μ n = none) {b x sz : Nat} {vs : List V}
    (hc : ∀ i v, vs[i]? = some v → ∃ c, w.cell? ⟨b, x + i, none⟩ = some c ∧ VRel μ v c ∧ v.one = true) :
    Sim (Map.set μ n ⟨b, x, none⟩) (H.upd n (some ⟨false, sz, vs⟩)) w := by
  refine ⟨?_, ?_, Sim.bound_set h.bound⟩
  · intro m blk hm
    by_cases e : m = n
    · subst e
      simp only [Heap.upd, if_true] at hm
      obtain rfl := Option.some.inj hm
      refine ⟨_, Map.set_same _ _ _, ⟨?_, fun h => (by cases h), fun _ => rfl⟩⟩
      intro i v hv
      obtain ⟨c, h1, h2, h3⟩ := hc i v hv
      exact ⟨c, h1, VRel.mono (Map.le_set _ hn) _ _ h2, h3⟩
    · simp only [Heap.upd, e, if_false] at hm
      obtain ⟨l, hl, hb⟩ := h.bears m blk hm
      exact ⟨l, by rw [Map.set_ne _ _ e]; exact hl, hb.keep (Map.le_set _ hn) rfl⟩
  · intro m blk m' blk' l l' hm ho
    exfalso
    by_cases e : m = n
    · subst e
      simp only [Heap.upd, if_true] at hm
      obtain rfl := Option.some.inj hm
      cases ho
    · simp only [Heap.upd, e, if_false] at hm
      rw [hr m blk hm] at ho; cases ho

/-- what a value of type t that reads as data comes to -/
def Opens (P : Program) (t : TypeId) (T : Heap → List V → Prop) : Prop :=
  (∀ H H' vs, T H vs → Heap.sub H H' → T H' vs) ∧
  ∀ (D : Type) (enc : TypeId × Value → D) (w : World) (base : Nat) (spare : Nat → Bool) (held : Bool) (fuel : Nat) (cs : List Value) (x : DataW D × List MemPlace),
    DataW.trod enc P w base spare held fuel t cs = some x → (∀ n ∈ x.1.weights P t, n ≤ reachBytes) →
    ∀ μ H, Sim μ H w → RO H → ∃ μ' H' vs, μ.le μ' ∧ Heap.sub H H' ∧ Sim μ' H' w ∧ RO H' ∧ VRels μ' vs cs ∧ (∀ v ∈ vs, v.one = true) ∧ T H' vs

def TInt (k : IntKind) (H : Heap) (vs : List V) : Prop := ∃ n, vs = [.int k n] ∧ (Lit.int k n).wf = true
theorem opens_int {P : Program} {t : TypeId} {k : IntKind} (ht : P.underlying t = some (.int k)) : Opens P t (TInt k) := by
  refine ⟨fun H H' vs h _ => h, fun D enc w base spare held fuel cs x h _ μ H hs hr => ?_⟩
  obtain ⟨n, rfl, _, hw⟩ := DataW.trod_int ht h
  exact ⟨μ, H, [.int k n], fun _ _ h => h, fun _ _ h => h, hs, hr, by simp [VRels, VRel], by simp [V.one], n, rfl, hw⟩

/-- a slice: its items, each of sz cells -/
def TSl (sz bytes : Nat) (T : Heap → List V → Prop) (H : Heap) (vs : List V) : Prop :=
  ∃ v len cs, vs = [v] ∧ Sl H v sz len cs ∧ len * bytes ≤ 140737488351232 ∧ ∀ i, i < len → T H ((cs.drop (i * sz)).take sz)

theorem weights_elem {D : Type} {P : Program} {e : TypeId} : ∀ {l : List (DataW D)} {d : DataW D}, d ∈ l → ∀ n ∈ d.weights P e, n ∈ DataW.weightsAll P e l
  | y :: r, d, h, n, hn => by
    simp only [DataW.weightsAll, List.mem_append]
    rcases List.mem_cons.1 h with rfl | h
    · exact .inl hn
    · exact .inr (weights_elem h n hn)

theorem opens_slice {P : Program} {t e : TypeId} {T : Heap → List V → Prop} {sz bytes : Nat} (ht : P.underlying t = some (.slice e)) (hc : P.cellsOf e = sz) (hz : 0 < sz) (hb : P.bytesOf e = bytes) (hb0 : 0 < bytes) (he : Opens P e T) : Opens P t (TSl sz bytes T) := by
  refine ⟨fun H H' vs ⟨v, len, cs, a, b, c, d⟩ hs => ⟨v, len, cs, a, b.mono hs, c, fun i hi => he.1 _ _ _ (d i hi) hs⟩, fun D enc w base spare held fuel cs x h hw μ H hs hr => ?_⟩
  rcases DataW.trod_slice ht h with ⟨rfl, rfl⟩ | ⟨a, len, cap, elems, rest, n, _, rfl, rfl, hba, hl, hm, hlen, hel, _, _⟩
  · exact ⟨μ, H, [.nils], fun _ _ h => h, fun _ _ h => h, hs, hr, by simp [VRels, VRel], by simp [V.one], .nils, 0, [], rfl, ⟨by simp, by simp, .inl ⟨rfl, rfl⟩⟩, by simp, fun i hi => by omega⟩
  · simp only [hc] at hel
    have hbytes : len * bytes ≤ 140737488351232 := by
      have := hw ((elems.length + rest.length) * P.bytesOf e) (by simp [DataW.weights, ht])
      rw [hb, hlen, Nat.add_mul] at this
      have : reachBytes = 140737488351232 := rfl
      omega
    have hle : len ≤ 281474976710656 := by
      have := Nat.le_mul_of_pos_right len hb0
      omega
    have hwe : ∀ (i : Nat) (y : DataW D × List MemPlace), elems[i]? = some y → ∀ n ∈ y.1.weights P e, n ≤ reachBytes := by
      intro i y hy n hn
      refine hw n ?_
      simp only [DataW.weights, ht, List.mem_cons, List.mem_append]
      exact .inr (.inl (weights_elem (List.mem_map_of_mem (List.mem_of_getElem? hy)) n hn))
    -- the items, one after the other
    have key : ∀ k, k ≤ len → ∃ (μ' : Map) (H' : Heap) (cs : List V), μ.le μ' ∧ Heap.sub H H' ∧ Sim μ' H' w ∧ RO H' ∧ cs.length = k * sz ∧ (∀ i v, cs[i]? = some v → ∃ c, w.cell? (a.add i) = some c ∧ VRel μ' v c ∧ v.one = true) ∧ ∀ i, i < k → T H' ((cs.drop (i * sz)).take sz) := by
      intro k
      induction k with
      | zero => intro _; exact ⟨μ, H, [], fun _ _ h => h, fun _ _ h => h, hs, hr, by simp, by simp, fun i hi => by omega⟩
      | succ k ih =>
        intro hk
        obtain ⟨μ1, H1, cs1, a1, a2, a3, a4, a5, a6, a7⟩ := ih (by omega)
        have h1 := hel k (by omega)
        have h2 : elems[k]? = some (elems[k]'(by omega)) := by simp [show k < elems.length by omega]
        rw [h2, Option.bind_eq_some_iff] at h1
        obtain ⟨cells, hcells, htr⟩ := h1
        obtain ⟨_, hcl, hce⟩ := World.cells?_some hcells
        obtain ⟨μ2, H2, vs, b1, b2, b3, b4, b5, b6, b7⟩ := he.2 D enc w base spare held n cells _ htr (hwe k _ h2) μ1 H1 a3 a4
        have hvl : vs.length = sz := by rw [b5.length, hcl]
        refine ⟨μ2, H2, cs1 ++ vs, fun m l h => b1 _ _ (a1 _ _ h), fun m l h => b2 _ _ (a2 _ _ h), b3, b4, ?_, ?_, ?_⟩
        · rw [List.length_append, a5, hvl, Nat.succ_mul]
        · intro i v hv
          by_cases hi : i < cs1.length
          · rw [List.getElem?_append_left hi] at hv
            obtain ⟨c, c1, c2, c3⟩ := a6 i v hv
            exact ⟨c, c1, VRel.mono b1 _ _ c2, c3⟩
          · rw [List.getElem?_append_right (by omega)] at hv
            obtain ⟨c, c1, c2⟩ := b5.get _ _ hv
            refine ⟨c, ?_, c2, b6 v (List.mem_of_getElem? hv)⟩
            have hj : i - cs1.length < sz := by rw [← hvl]; exact (List.getElem?_eq_some_iff.1 hv).1
            have := hce (i - cs1.length) hj
            rw [c1] at this
            rw [← this]
            rw [Addr.add_add]
            congr 2
            rw [← a5]; omega
        · intro i hi
          rcases Nat.lt_succ_iff_lt_or_eq.1 hi with hi | rfl
          · have hle : i * sz + sz ≤ cs1.length := by
              rw [a5]
              have := Nat.mul_le_mul_right sz (Nat.succ_le_of_lt hi)
              rw [Nat.succ_mul] at this; exact this
            rw [List.drop_append_of_le_length (by omega), List.take_append_of_le_length (by rw [List.length_drop]; omega)]
            exact he.1 _ _ _ (a7 i hi) b2
          · rw [← a5, List.drop_left, ← hvl, List.take_length]
            exact b7
    obtain ⟨μ1, H1, cs1, a1, a2, a3, a4, a5, a6, a7⟩ := key len (Nat.le_refl _)
    obtain ⟨m, hm1, hm2⟩ := a3.freshName
    by_cases h0 : len = 0
    · subst h0
      refine ⟨Map.set μ1 m ⟨a.block, 0, none⟩, H1.upd m (some ⟨false, sz, []⟩), [.sl m 1 0 false], fun k l h => Map.le_set _ hm1 _ _ (a1 _ _ h), a2.trans' (Heap.sub.rfl'.upd' hm2 _), a3.addRO a4 hm1 (by simp), ?_, ?_, by simp [V.one], ?_⟩
      · intro k b hb
        by_cases e : k = m
        · subst e; simp only [Heap.upd, if_true] at hb; obtain rfl := Option.some.inj hb; rfl
        · simp only [Heap.upd, e, if_false] at hb; exact a4 k b hb
      · simp only [VRels, VRel]
        exact ⟨_, [], rfl, ⟨_, a, cap, Map.set_same _ _ _, rfl, hl, by simp, ⟨rfl, by simp, fun _ _ h => (by cases h)⟩⟩, rfl⟩
      · exact ⟨_, 0, [], rfl, ⟨by simp, by simp, .inr ⟨m, 1, false, ⟨false, sz, []⟩, rfl, by simp [Heap.upd], rfl, .inl rfl, fun j hj => by simp at hj⟩⟩, by simp, fun i hi => by omega⟩
    · have hpos : 0 < cs1.length := by rw [a5]; exact Nat.mul_pos (by omega) hz
      obtain ⟨c0, hc0, _⟩ := a6 0 cs1[0] (by simp [hpos])
      have hspot : a.spot = none := by
        have := World.cell?_spot hc0
        simpa [Addr.add] using this
      have hadd : ∀ i, a.add i = ⟨a.block, a.off + i, none⟩ := fun i => by
        obtain ⟨b, o, s⟩ := a
        simp only at hspot
        subst hspot
        exact Addr.add_lit b o i
      have haa : a = ⟨a.block, a.off, none⟩ := by cases a; simp_all
      refine ⟨Map.set μ1 m ⟨a.block, a.off, none⟩, H1.upd m (some ⟨false, sz, cs1⟩), [.sl m 0 len false], fun k l h => Map.le_set _ hm1 _ _ (a1 _ _ h), a2.trans' (Heap.sub.rfl'.upd' hm2 _), a3.addRO a4 hm1 (fun i v hv => by rw [← hadd]; exact a6 i v hv), ?_, ?_, by simp [V.one], ?_⟩
      · intro k b hb
        by_cases e : k = m
        · subst e; simp only [Heap.upd, if_true] at hb; obtain rfl := Option.some.inj hb; rfl
        · simp only [Heap.upd, e, if_false] at hb; exact a4 k b hb
      · simp only [VRels, VRel]
        exact ⟨_, [], rfl, ⟨_, a, cap, Map.set_same _ _ _, rfl, hl, by simp, ⟨rfl, fun _ => by simpa using haa, fun _ _ h => (by cases h)⟩⟩, rfl⟩
      · exact ⟨_, len, cs1, rfl, ⟨a5, hle, .inr ⟨m, 0, false, ⟨false, sz, cs1⟩, rfl, by simp [Heap.upd], rfl, .inr (by simp [a5]), fun j hj => by simp⟩⟩, hbytes, fun i hi => he.1 _ _ _ (a7 i hi) (Heap.sub.rfl'.upd' hm2 _)⟩

/-- from the contract to the call -/
theorem calls_of {P : Program} {f : FuncId} {vs : List V} {H : Heap} {μ : Map} {W : World} {args : Array Value} (h : ACalls P f vs H fun v _ => v = .bool true) (hs : Sim μ H W) (hr : RO H) (hv : VRels μ vs args.toList) :
    Calls P f args W fun e W' => e = .returned (.bool true) ∧ Below W.heap.size W W' := by
  refine (h.2 μ W args hs hv).mono fun e W' ⟨μ', cv, v, H', he, ht, _, hv', hR⟩ => ?_
  subst hR
  simp only [VRel] at hv'
  subst hv'
  refine ⟨he, ⟨ht.os, ht.tape, ht.output, ht.size, fun k hk => ht.frame k hk ?_⟩⟩
  rintro ⟨n, b, l, h1, h2, h3⟩
  have := hr n b h1
  simp_all

theorem Sim.empty (W : World) : Sim (fun _ => none) (fun _ => none) W := ⟨fun n b h => (by cases h), fun n b m b' l l' h => (by cases h), 0, fun _ _ => rfl⟩
theorem RO.empty : RO (fun _ => none) := fun n b h => by cases h

theorem opens_struct2 {P : Program} {t : TypeId} {f0 f1 : Field} {T0 T1 : Heap → List V → Prop} (ht : P.underlying t = some (.struct #[f0, f1])) (hc : P.cellsOf t = 2) (h0 : f0.offset = 0) (h1 : f1.offset = 1) (c0 : P.cellsOf f0.type = 1) (c1 : P.cellsOf f1.type = 1)
    (o0 : Opens P f0.type T0) (o1 : Opens P f1.type T1) : Opens P t fun H vs => ∃ a b, vs = [a, b] ∧ T0 H [a] ∧ T1 H [b] := by
  refine ⟨fun H H' vs ⟨a, b, e, x, y⟩ hs => ⟨a, b, e, o0.1 _ _ _ x hs, o1.1 _ _ _ y hs⟩, fun D enc w base spare held fuel cs x h hw μ H hs hr => ?_⟩
  obtain ⟨xs, n, _, rfl, hl, hn, hf⟩ := DataW.trod_struct ht h
  rw [hc] at hl
  obtain ⟨x0, x1, rfl⟩ : ∃ a b, cs = [a, b] := by
    match cs, hl with
    | [a, b], _ => exact ⟨a, b, rfl⟩
  have g0 := hf 0 f0 rfl
  have g1 := hf 1 f1 rfl
  obtain ⟨y0, y1, rfl⟩ : ∃ a b, xs = [a, b] := by
    match xs, hn with
    | [a, b], _ => exact ⟨a, b, rfl⟩
  rw [h0, c0] at g0
  rw [h1, c1] at g1
  simp only [List.drop_zero, List.take_succ_cons, List.take_zero, List.drop_succ_cons, List.getElem?_cons_zero, List.getElem?_cons_succ] at g0 g1
  have hw0 : ∀ n ∈ y0.1.weights P f0.type, n ≤ reachBytes := fun n hn => hw n (by simp [DataW.weights, ht, DataW.weightsEach]; exact .inl hn)
  have hw1 : ∀ n ∈ y1.1.weights P f1.type, n ≤ reachBytes := fun n hn => hw n (by simp [DataW.weights, ht, DataW.weightsEach]; exact .inr hn)
  obtain ⟨μ1, H1, v0, a1, a2, a3, a4, a5, a6, a7⟩ := o0.2 D enc w base spare held n [x0] y0 g0 hw0 μ H hs hr
  obtain ⟨μ2, H2, v1, b1, b2, b3, b4, b5, b6, b7⟩ := o1.2 D enc w base spare held n [x1] y1 g1 hw1 μ1 H1 a3 a4
  obtain ⟨u0, rfl⟩ : ∃ u, v0 = [u] := by have := a5.length; match v0, this with | [u], _ => exact ⟨u, rfl⟩
  obtain ⟨u1, rfl⟩ : ∃ u, v1 = [u] := by have := b5.length; match v1, this with | [u], _ => exact ⟨u, rfl⟩
  refine ⟨μ2, H2, [u0, u1], fun m l h => b1 _ _ (a1 _ _ h), a2.trans' b2, b3, b4, VRels.append (VRels.mono b1 _ _ a5) b5, ?_, u0, u1, rfl, o0.1 _ _ _ a7 b2, b7⟩
  intro v hv
  rcases List.mem_cons.1 hv with rfl | hv
  · exact a6 _ (by simp)
  · exact b6 _ hv

theorem opens_struct3 {P : Program} {t : TypeId} {f0 f1 f2 : Field} {T0 T1 T2 : Heap → List V → Prop} (ht : P.underlying t = some (.struct #[f0, f1, f2])) (hc : P.cellsOf t = 3) (h0 : f0.offset = 0) (h1 : f1.offset = 1) (h2 : f2.offset = 2) (c0 : P.cellsOf f0.type = 1) (c1 : P.cellsOf f1.type = 1) (c2 : P.cellsOf f2.type = 1)
    (o0 : Opens P f0.type T0) (o1 : Opens P f1.type T1) (o2 : Opens P f2.type T2) : Opens P t fun H vs => ∃ a b c, vs = [a, b, c] ∧ T0 H [a] ∧ T1 H [b] ∧ T2 H [c] := by
  refine ⟨fun H H' vs ⟨a, b, c, e, x, y, z⟩ hs => ⟨a, b, c, e, o0.1 _ _ _ x hs, o1.1 _ _ _ y hs, o2.1 _ _ _ z hs⟩, fun D enc w base spare held fuel cs x h hw μ H hs hr => ?_⟩
  obtain ⟨xs, n, _, rfl, hl, hn, hf⟩ := DataW.trod_struct ht h
  rw [hc] at hl
  obtain ⟨x0, x1, x2, rfl⟩ : ∃ a b c, cs = [a, b, c] := by
    match cs, hl with
    | [a, b, c], _ => exact ⟨a, b, c, rfl⟩
  have g0 := hf 0 f0 rfl
  have g1 := hf 1 f1 rfl
  have g2 := hf 2 f2 rfl
  obtain ⟨y0, y1, y2, rfl⟩ : ∃ a b c, xs = [a, b, c] := by
    match xs, hn with
    | [a, b, c], _ => exact ⟨a, b, c, rfl⟩
  rw [h0, c0] at g0
  rw [h1, c1] at g1
  rw [h2, c2] at g2
  simp only [List.drop_zero, List.take_succ_cons, List.take_zero, List.drop_succ_cons, List.getElem?_cons_zero, List.getElem?_cons_succ] at g0 g1 g2
  have hw0 : ∀ n ∈ y0.1.weights P f0.type, n ≤ reachBytes := fun n hn => hw n (by simp [DataW.weights, ht, DataW.weightsEach]; exact .inl hn)
  have hw1 : ∀ n ∈ y1.1.weights P f1.type, n ≤ reachBytes := fun n hn => hw n (by simp [DataW.weights, ht, DataW.weightsEach]; exact .inr (.inl hn))
  have hw2 : ∀ n ∈ y2.1.weights P f2.type, n ≤ reachBytes := fun n hn => hw n (by simp [DataW.weights, ht, DataW.weightsEach]; exact .inr (.inr hn))
  obtain ⟨μ1, H1, v0, a1, a2, a3, a4, a5, a6, a7⟩ := o0.2 D enc w base spare held n [x0] y0 g0 hw0 μ H hs hr
  obtain ⟨μ2, H2, v1, b1, b2, b3, b4, b5, b6, b7⟩ := o1.2 D enc w base spare held n [x1] y1 g1 hw1 μ1 H1 a3 a4
  obtain ⟨μ3, H3, v2, d1, d2, d3, d4, d5, d6, d7⟩ := o2.2 D enc w base spare held n [x2] y2 g2 hw2 μ2 H2 b3 b4
  obtain ⟨u0, rfl⟩ : ∃ u, v0 = [u] := by have := a5.length; match v0, this with | [u], _ => exact ⟨u, rfl⟩
  obtain ⟨u1, rfl⟩ : ∃ u, v1 = [u] := by have := b5.length; match v1, this with | [u], _ => exact ⟨u, rfl⟩
  obtain ⟨u2, rfl⟩ : ∃ u, v2 = [u] := by have := d5.length; match v2, this with | [u], _ => exact ⟨u, rfl⟩
  refine ⟨μ3, H3, [u0, u1, u2], fun m l h => d1 _ _ (b1 _ _ (a1 _ _ h)), a2.trans' (b2.trans' d2), d3, d4, VRels.append (VRels.mono (fun m l h => d1 _ _ (b1 _ _ h)) _ _ a5) (VRels.append (VRels.mono d1 _ _ b5) d5), ?_, u0, u1, u2, rfl, o0.1 _ _ _ a7 (b2.trans' d2), o1.1 _ _ _ b7 d2, d7⟩
  intro v hv
  rcases List.mem_cons.1 hv with rfl | hv
  · exact a6 _ (by simp)
  rcases List.mem_cons.1 hv with rfl | hv
  · exact b6 _ (by simp)
  · exact d6 _ hv
/-- a struct of the argument list, and its reading -/
theorem arg_struct {P : Program} {T : Heap → List V → Prop} {t : TypeId} {fs : Array Field} (ht : P.underlying t = some (.struct fs)) (hO : Opens P t T) {W : World} {base : Nat} {v : Value} {D : Type} {enc : TypeId × Value → D} {d : DataW D} {ps : List MemPlace}
    (hv : Value.okWide P W .any base t v) (h : DataW.Trod enc P W 0 (fun _ => true) true t v d ps) (hw : ∀ n ∈ d.weights P t, n ≤ reachBytes)
    {μ : Map} {H : Heap} (hs : Sim μ H W) (hr : RO H) : ∃ μ' H' vs, μ.le μ' ∧ Heap.sub H H' ∧ Sim μ' H' W ∧ RO H' ∧ VRel μ' (.agg vs) v ∧ T H' vs := by
  obtain ⟨fuel, hf⟩ := h
  simp only [Value.okWide, ht] at hv
  obtain ⟨cs, rfl, _⟩ := hv
  obtain ⟨μ', H', vs, a, b, c, e, f, g, k⟩ := hO.2 D enc W 0 (fun _ => true) true fuel cs.toList (d, ps) (by simpa [Value.cells] using hf) hw μ H hs hr
  exact ⟨μ', H', vs, a, b, c, e, by simp only [VRel]; exact ⟨cs, rfl, f, g⟩, k⟩

/-- a slice of the argument list -/
theorem arg_slice {P : Program} {T : Heap → List V → Prop} {t e : TypeId} (ht : P.underlying t = some (.slice e)) (hO : Opens P t T) {W : World} {base : Nat} {v : Value} {D : Type} {enc : TypeId × Value → D} {d : DataW D} {ps : List MemPlace}
    (hv : Value.okWide P W .any base t v) (h : DataW.Trod enc P W 0 (fun _ => true) true t v d ps) (hw : ∀ n ∈ d.weights P t, n ≤ reachBytes)
    {μ : Map} {H : Heap} (hs : Sim μ H W) (hr : RO H) : ∃ μ' H' u, μ.le μ' ∧ Heap.sub H H' ∧ Sim μ' H' W ∧ RO H' ∧ VRel μ' u v ∧ T H' [u] := by
  obtain ⟨fuel, hf⟩ := h
  obtain ⟨a, len, cap, rfl⟩ := okWide_slice ht hv
  obtain ⟨μ', H', vs, a1, b, c, e1, f, g, k⟩ := hO.2 D enc W 0 (fun _ => true) true fuel [.slice a len cap] (d, ps) (by simpa [Value.cells] using hf) hw μ H hs hr
  obtain ⟨u, rfl⟩ : ∃ u, vs = [u] := by have := f.length; match vs, this with | [u], _ => exact ⟨u, rfl⟩
  simp only [VRels] at f
  obtain ⟨x, t, ht', hx, rfl⟩ := f
  simp only [List.cons.injEq, and_true] at ht'
  subst ht'
  exact ⟨μ', H', u, a1, b, c, e1, hx, k⟩

theorem row_hyp1 {P : Program} {t1 : TypeId} {D : Type} {d1 : DataW D} (h : (DataW.weightsEach P [t1] [d1]).all (· ≤ reachBytes) = true) : ∀ n ∈ d1.weights P t1, n ≤ reachBytes := by
  simp only [DataW.weightsEach, List.append_nil, List.all_eq_true, decide_eq_true_eq] at h
  exact h
theorem row_hyp {P : Program} {t1 t2 : TypeId} {D : Type} {d1 d2 : DataW D} (h : (DataW.weightsEach P [t1, t2] [d1, d2]).all (· ≤ reachBytes) = true) : (∀ n ∈ d1.weights P t1, n ≤ reachBytes) ∧ ∀ n ∈ d2.weights P t2, n ≤ reachBytes := by
  simp only [DataW.weightsEach, List.append_nil, List.all_append, Bool.and_eq_true, List.all_eq_true, decide_eq_true_eq] at h
  exact h

end Go.AM

/- The arguments of this seat's laws. Conditions: none. -/
set_option linter.unusedVariables false
set_option linter.unusedSimpArgs false
namespace Go.AM
open Go Go.Proofs Go.RowKit Go.ChangeShapes Go.WideShapes Go.ChangeAt

theorem opens_i : Opens Try.prog 3 (TInt .i64) := opens_int Try.underlying3
theorem opens_is : Opens Try.prog 22 (TSl 1 8 (TInt .i64)) := opens_slice Try.underlying22 (by kernel_rfl) (by decide) (by kernel_rfl) (by decide) opens_i
theorem opens_iss : Opens Try.prog 26 (TSl 1 24 (TSl 1 8 (TInt .i64))) := opens_slice Try.underlying26 (by kernel_rfl) (by decide) (by kernel_rfl) (by decide) opens_is
theorem opens_edge : Opens Try.prog 72 fun H vs => ∃ a b c, vs = [a, b, c] ∧ TInt .i64 H [a] ∧ TInt .i64 H [b] ∧ TInt .i64 H [c] :=
  opens_struct3 Try.underlying72 (by kernel_rfl) rfl rfl rfl (by kernel_rfl) (by kernel_rfl) (by kernel_rfl) opens_i opens_i opens_i
theorem opens_edges : Opens Try.prog 70 (TSl 3 24 fun H vs => ∃ a b c, vs = [a, b, c] ∧ TInt .i64 H [a] ∧ TInt .i64 H [b] ∧ TInt .i64 H [c]) := opens_slice Try.underlying70 (by kernel_rfl) (by decide) (by kernel_rfl) (by decide) opens_edge
theorem opens_secs : Opens Try.prog 23 (TSl 1 24 (TSl 3 24 fun H vs => ∃ a b c, vs = [a, b, c] ∧ TInt .i64 H [a] ∧ TInt .i64 H [b] ∧ TInt .i64 H [c])) := opens_slice Try.underlying23 (by kernel_rfl) (by decide) (by kernel_rfl) (by decide) opens_edges
theorem opens_trellis : Opens Try.prog 25 fun H vs => ∃ a b, vs = [a, b] ∧ TSl 1 8 (TInt .i64) H [a] ∧ TSl 1 24 (TSl 3 24 fun H vs => ∃ a b c, vs = [a, b, c] ∧ TInt .i64 H [a] ∧ TInt .i64 H [b] ∧ TInt .i64 H [c]) H [b] :=
  opens_struct2 Try.underlying25 (by kernel_rfl) rfl rfl (by kernel_rfl) (by kernel_rfl) opens_is opens_secs

/-- the ints of a Go int -/
def I64 (x : Int) : Prop := -9223372036854775808 ≤ x ∧ x ≤ 9223372036854775807
theorem i64_of_wf {n : Int} (h : (Lit.int .i64 n).wf = true) : I64 n := by
  simp [Lit.wf, IntKind.min, IntKind.max, IntKind.signed, IntKind.bits] at h
  exact ⟨by omega, by omega⟩
theorem list_of {α : Type} {p : Nat → α → Prop} : ∀ (n : Nat), (∀ i, i < n → ∃ a, p i a) → ∃ l : List α, l.length = n ∧ ∀ i (h : i < l.length), p i l[i]
  | 0, _ => ⟨[], rfl, fun i h => by simp at h⟩
  | n+1, h => by
    obtain ⟨l, hl, hp⟩ := list_of n fun i hi => h i (by omega)
    obtain ⟨a, ha⟩ := h n (by omega)
    refine ⟨l ++ [a], by simp [hl], fun i hi => ?_⟩
    by_cases e : i < l.length
    · rw [List.getElem_append_left e]; exact hp i e
    · have : i = n := by simp at hi; omega
      subst this
      rw [List.getElem_append_right (by omega)]
      simpa [hl] using ha

theorem Sl.congr {H : Heap} {v : V} {sz len : Nat} {cs cs' : List V} (h : Sl H v sz len cs) (e : cs = cs') : Sl H v sz len cs' := e ▸ h

theorem is_of {H : Heap} {v : V} (h : TSl 1 8 (TInt .i64) H [v]) : ∃ xs : List Int, SInts H v xs ∧ ∀ x ∈ xs, I64 x := by
  obtain ⟨v', len, cs, e, hs, _, hi⟩ := h
  obtain rfl : v = v' := by simpa using e
  have hlen : cs.length = len := by have := hs.1; omega
  obtain ⟨xs, hl, hx⟩ := list_of (α := Int) (p := fun i x => cs[i]? = some (.int .i64 x) ∧ I64 x) len fun i hl => by
    obtain ⟨n, hn, hw⟩ := hi i hl
    refine ⟨n, ?_, i64_of_wf hw⟩
    have := congrArg (fun l => l[0]?) hn
    simpa [List.getElem?_take, List.getElem?_drop] using this
  have hcs : cs = ints xs := by
    apply List.ext_getElem?
    intro i
    by_cases hh : i < xs.length
    · rw [(hx i hh).1, ints_get hh]
    · rw [List.getElem?_eq_none (by omega), List.getElem?_eq_none (by rw [ints_len]; omega)]
  subst hl hcs
  exact ⟨xs, hs, fun x hm => by obtain ⟨i, hi, rfl⟩ := List.getElem_of_mem hm; exact (hx i hi).2⟩

def EdI (e : Ed) : Prop := I64 e.fr ∧ I64 e.lb ∧ I64 e.to
theorem eds_of {H : Heap} {v : V} (h : TSl 3 24 (fun H vs => ∃ a b c, vs = [a, b, c] ∧ TInt .i64 H [a] ∧ TInt .i64 H [b] ∧ TInt .i64 H [c]) H [v]) : ∃ l : List Ed, SEds H v l ∧ ∀ e ∈ l, EdI e := by
  obtain ⟨v', len, cs, e, hs, _, hi⟩ := h
  obtain rfl : v = v' := by simpa using e
  have hlen := hs.1
  obtain ⟨l, hl, hx⟩ := list_of (α := Ed) (p := fun i x => (cs.drop (i * 3)).take 3 = x.cells ∧ EdI x) len fun i hl => by
    obtain ⟨a, b, c, hn, ⟨x, hx, wx⟩, ⟨y, hy, wy⟩, ⟨z, hz, wz⟩⟩ := hi i hl
    simp only [List.cons.injEq, and_true] at hx hy hz
    subst hx hy hz
    exact ⟨⟨x, y, z⟩, hn, i64_of_wf wx, i64_of_wf wy, i64_of_wf wz⟩
  have hcs : cs = ecells l := by
    apply List.ext_getElem?
    intro i
    by_cases hh : i < len * 3
    · have hd : i / 3 < l.length := by omega
      have h1 := (hx (i/3) hd).1
      have h2 := ecells_at hd
      rw [← h2] at h1
      have := congrArg (fun l => l[i % 3]?) h1
      simp only [List.getElem?_take, List.getElem?_drop, Nat.mod_lt i (by omega : 3 > 0), if_true] at this
      rwa [show i / 3 * 3 + i % 3 = i by omega] at this
    · rw [List.getElem?_eq_none (by omega), List.getElem?_eq_none (by rw [ecells_len]; omega)]
  subst hl hcs
  exact ⟨l, hs, fun x hm => by obtain ⟨i, hi, rfl⟩ := List.getElem_of_mem hm; exact (hx i hi).2⟩

theorem lists_of {α : Type} {S : Heap → V → α → Prop} {T : Heap → List V → Prop} {p : α → Prop} {bytes : Nat} (hT : ∀ H v, T H [v] → ∃ a, S H v a ∧ p a) {H : Heap} {v : V} (h : TSl 1 bytes T H [v]) : ∃ l : List α, SLists S H v l ∧ ∀ a ∈ l, p a := by
  obtain ⟨v', len, cs, e, hs, _, hi⟩ := h
  obtain rfl : v = v' := by simpa using e
  have hlen : cs.length = len := by have := hs.1; omega
  obtain ⟨l, hl, hx⟩ := list_of (α := α) (p := fun i x => (∃ u, cs[i]? = some u ∧ S H u x) ∧ p x) len fun i hl => by
    have h1 := hi i hl
    have h2 : (cs.drop (i * 1)).take 1 = [cs[i]] := by rw [Nat.mul_one, List.drop_eq_getElem_cons (by omega)]; rfl
    rw [h2] at h1
    obtain ⟨a, ha, hp⟩ := hT _ _ h1
    exact ⟨a, ⟨_, by simp [show i < cs.length by omega], ha⟩, hp⟩
  subst hl
  exact ⟨l, ⟨cs, hs, fun i h => (hx i h).1⟩, fun a hm => by obtain ⟨i, hi, rfl⟩ := List.getElem_of_mem hm; exact (hx i hi).2⟩

/-- a trellis that came in -/
def STre (H : Heap) (v : V) (ws : List Int) (es : List (List Ed)) : Prop := ∃ sv ev, v = .agg [sv, ev] ∧ SInts H sv ws ∧ SSecs H ev es

theorem own : ownKnob Try.prog.godebug = none := by kernel_rfl
theorem laidOut : laidOutB Try.prog = true := by kernel_rfl

set_option maxRecDepth 100000 in
theorem along_lifted (main : ∀ H tv cv ws es costs, STre H tv ws es → (∀ w ∈ ws, I64 w) → (∀ l ∈ es, ∀ e ∈ l, EdI e) → SRows H cv costs → (∀ l ∈ costs, ∀ x ∈ l, I64 x) → ACalls Try.prog 3 [tv, cv] H fun v _ => v = .bool true)
    (os : Os) (started : os.Started) (D : Type) (enc : TypeId × Value → D) :
    ReturnsInHanded {} Try.checked os 3 .any (Ytopeeknimehmcaa.Rows.viterbiAlongSpec.pre6 enc Try.prog Try.f3 Ytopeeknimehmcaa.Rows.viterbiAlongRow.domain false) (Ytopeeknimehmcaa.Rows.viterbiAlongSpec.post enc Try.prog Try.f3 false true false false) := by
  refine returnsInHanded_of_change_sized (C := Try.checked) own started (by kernel_rfl) Try.func3
    (ChangeSpec.witness6 (enc := enc) (C := Try.checked) false ⟨#[], #[.agg #[.slice none 0 0, .slice none 0 0], .slice none 0 0], []⟩ 8 (by kernel_rfl) (by kernel_rfl) (by kernel_rfl) (by kernel_rfl)) ?_
  intro W base args ds gs before hval0 hW hcnd hsz0 _
  have hval : ∀ (j : Nat) t v, Try.f3.params[j]? = some t → args[j]? = some v → Value.okWide Try.prog W .any base t v := hval0
  have hW' := hW
  obtain ⟨p, q, hA0, hV, rfl, hfz, hnd⟩ := hW
  have hA : DataW.TrodAll enc Try.prog W 0 (fun _ => true) true Try.f3.params.toList args.toList ds p := hA0
  have hsz : (DataW.weightsEach Try.prog (Try.f3.params.toList ++ []) (ds ++ gs)).all (· ≤ reachBytes) = true := hsz0
  rw [Try.params3] at hA hval hsz
  obtain ⟨v0, vs0, d0, ds0, p0, q0, hargs, rfl, rfl, h0, r0⟩ := trodAll_cons hA
  obtain ⟨v1, vs1, d1, ds1, p1, q1, rfl, rfl, rfl, h1, r1⟩ := trodAll_cons r0
  obtain ⟨rfl, rfl, rfl⟩ := trodAll_nil r1
  obtain rfl : args = #[v0, v1] := by cases args; simp_all
  obtain ⟨rfl, rfl⟩ := trodVars_none hV
  have k0 := h0
  have lt0 : ∀ x ∈ p0, x.block < W.heap.size := by obtain ⟨m, hm⟩ := k0; exact DataW.trod_lt m _ _ _ hm
  have k1 := h1
  have lt1 : ∀ x ∈ p1, x.block < W.heap.size := by obtain ⟨m, hm⟩ := k1; exact DataW.trod_lt m _ _ _ hm
  obtain ⟨w0, w1⟩ := row_hyp hsz
  clear hA0 hval0
  obtain ⟨μ1, H1, u1, a1, a2, a3, a4, a5, a6⟩ := arg_struct Try.underlying25 opens_trellis (hval 0 25 v0 rfl rfl) h0 w0 (Sim.empty W) RO.empty
  obtain ⟨μ2, H2, u2, b1, b2, b3, b4, b5, b6⟩ := arg_slice Try.underlying26 opens_iss (hval 1 26 v1 rfl rfl) h1 w1 a3 a4
  obtain ⟨sv, ev, rfl, c1, c2⟩ := a6
  obtain ⟨ws, hws, hwi⟩ := is_of c1
  obtain ⟨es, hes, hei⟩ := lists_of (fun _ _ h => eds_of h) c2
  obtain ⟨costs, hco, hci⟩ := lists_of (fun _ _ h => is_of h) b6
  refine (calls_of (main H2 (.agg [sv, ev]) u2 ws es costs ⟨sv, ev, rfl, hws.mono b2, SSecs.mono hes b2⟩ hwi hei hco hci) b3 b4 (by simp only [VRels]; exact ⟨v0, [v1], rfl, VRel.mono b1 _ _ a5, v1, [], rfl, b5, rfl⟩)).mono fun e W' ⟨he, bel⟩ => ?_
  subst he
  exact ⟨_, rfl, _, _, _, [], _, [], hW', trodAll_mk1 (shut_bool Try.underlying4 _), (trodAll_cons_mk (Below.trod laidOut (by kernel_rfl) (of_decide_eq_true (by kernel_rfl)) k0 bel lt0) (trodAll_cons_mk (Below.trod laidOut (by kernel_rfl) (of_decide_eq_true (by kernel_rfl)) k1 bel lt1) trodAll_mk0)), rfl, bel.frame _, fun h => by cases h⟩

theorem along_over (main : ∀ H tv cv ws es costs, STre H tv ws es → (∀ w ∈ ws, I64 w) → (∀ l ∈ es, ∀ e ∈ l, EdI e) → SRows H cv costs → (∀ l ∈ costs, ∀ x ∈ l, I64 x) → ACalls Try.prog 3 [tv, cv] H fun v _ => v = .bool true) : Ytopeeknimehmcaa.Rows.ViterbiAlongSaid :=
  OpenClaim.holds_of_wide 3 Try.f3 rfl rfl rfl rfl rfl rfl rfl ⟨rfl, rfl, rfl, rfl, rfl⟩ rfl rfl rfl rfl rfl (by kernel_rfl) Try.func3 (by kernel_rfl)
    (of_decide_eq_true (by kernel_rfl)) (by unfold Func.isWrapper; first | (rw [if_pos (by decide +kernel)]; kernel_rfl) | (rw [if_neg (by decide +kernel)]; exact ⟨rfl, rfl⟩))
    (fun os started H enc _ => along_lifted main os started H enc)
end Go.AM

/- The bridge from the abstract machine to TrellisIsomorphic. Conditions: as stated. -/
set_option linter.unusedVariables false
set_option linter.unusedSimpArgs false
namespace Go.AM
open Go Go.Proofs Go.RowKit Go.ChangeShapes Go.WideShapes Go.ChangeAt

set_option maxRecDepth 100000 in
theorem trellisIsomorphic_lifted (main : ∀ H v0 ws0 es0 v1 ws1 es1, STre H v0 ws0 es0 → (∀ w ∈ ws0, I64 w) → (∀ l ∈ es0, ∀ e ∈ l, EdI e) → STre H v1 ws1 es1 → (∀ w ∈ ws1, I64 w) → (∀ l ∈ es1, ∀ e ∈ l, EdI e) → ACalls Try.prog 9 [v0, v1] H fun v _ => v = .bool true)
    (os : Os) (started : os.Started) (D : Type) (enc : TypeId × Value → D) :
    ReturnsInHanded {} Try.checked os 9 .any (Ytopeeknimehmcaa.Rows.trellisIsomorphicSpec.pre6 enc Try.prog Try.f9 Ytopeeknimehmcaa.Rows.trellisIsomorphicRow.domain false) (Ytopeeknimehmcaa.Rows.trellisIsomorphicSpec.post enc Try.prog Try.f9 false true false false) := by
  refine returnsInHanded_of_change_sized (C := Try.checked) own started (by kernel_rfl) Try.func9
    (ChangeSpec.witness6 (enc := enc) (C := Try.checked) false ⟨#[], #[.agg #[.slice none 0 0, .slice none 0 0], .agg #[.slice none 0 0, .slice none 0 0]], []⟩ 8 (by kernel_rfl) (by kernel_rfl) (by kernel_rfl) (by kernel_rfl)) ?_
  intro W base args ds gs before hval0 hW hcnd hsz0 _
  have hval : ∀ (j : Nat) t v, Try.f9.params[j]? = some t → args[j]? = some v → Value.okWide Try.prog W .any base t v := hval0
  have hW' := hW
  obtain ⟨p, q, hA0, hV, rfl, hfz, hnd⟩ := hW
  have hA : DataW.TrodAll enc Try.prog W 0 (fun _ => true) true Try.f9.params.toList args.toList ds p := hA0
  have hsz : (DataW.weightsEach Try.prog (Try.f9.params.toList ++ []) (ds ++ gs)).all (· ≤ reachBytes) = true := hsz0
  rw [Try.params9] at hA hval hsz
  obtain ⟨v0, vs0, d0, ds0, p0, q0, hargs, rfl, rfl, h0, r0⟩ := trodAll_cons hA
  obtain ⟨v1, vs1, d1, ds1, p1, q1, rfl, rfl, rfl, h1, r1⟩ := trodAll_cons r0
  obtain ⟨rfl, rfl, rfl⟩ := trodAll_nil r1
  obtain rfl : args = #[v0, v1] := by cases args; simp_all
  obtain ⟨rfl, rfl⟩ := trodVars_none hV
  have k0 := h0
  have lt0 : ∀ x ∈ p0, x.block < W.heap.size := by obtain ⟨m, hm⟩ := k0; exact DataW.trod_lt m _ _ _ hm
  have k1 := h1
  have lt1 : ∀ x ∈ p1, x.block < W.heap.size := by obtain ⟨m, hm⟩ := k1; exact DataW.trod_lt m _ _ _ hm
  obtain ⟨w0, w1⟩ := row_hyp hsz
  clear hA0 hval0
  obtain ⟨μ0, H0, u0, a01, a02, a03, a04, a05, a06⟩ := arg_struct Try.underlying25 opens_trellis (hval 0 25 v0 rfl rfl) h0 w0 (Sim.empty W) RO.empty
  obtain ⟨μ1, H1, u1, a11, a12, a13, a14, a15, a16⟩ := arg_struct Try.underlying25 opens_trellis (hval 1 25 v1 rfl rfl) h1 w1 a03 a04
  obtain ⟨sv0, ev0, rfl, c01, c02⟩ := a06
  obtain ⟨ws0, hws0, hwi0⟩ := is_of c01
  obtain ⟨es0, hes0, hei0⟩ := lists_of (fun _ _ h => eds_of h) c02
  obtain ⟨sv1, ev1, rfl, c11, c12⟩ := a16
  obtain ⟨ws1, hws1, hwi1⟩ := is_of c11
  obtain ⟨es1, hes1, hei1⟩ := lists_of (fun _ _ h => eds_of h) c12
  refine (calls_of (main H1 (.agg [sv0, ev0]) ws0 es0 (.agg [sv1, ev1]) ws1 es1 ⟨sv0, ev0, rfl, (SInts.mono hws0 a12), (SSecs.mono hes0 a12)⟩ hwi0 hei0 ⟨sv1, ev1, rfl, hws1, hes1⟩ hwi1 hei1) a13 a14 (by simp only [VRels]; exact ⟨v0, [v1], rfl, (VRel.mono a11 _ _ a05), v1, [], rfl, a15, rfl⟩)).mono fun e W' ⟨he, bel⟩ => ?_
  subst he
  exact ⟨_, rfl, _, _, _, [], _, [], hW', trodAll_mk1 (shut_bool Try.underlying4 _), (trodAll_cons_mk (Below.trod laidOut (by kernel_rfl) (of_decide_eq_true (by kernel_rfl)) k0 bel lt0) (trodAll_cons_mk (Below.trod laidOut (by kernel_rfl) (of_decide_eq_true (by kernel_rfl)) k1 bel lt1) trodAll_mk0)), rfl, bel.frame _, fun h => by cases h⟩

theorem trellisIsomorphic_over (main : ∀ H v0 ws0 es0 v1 ws1 es1, STre H v0 ws0 es0 → (∀ w ∈ ws0, I64 w) → (∀ l ∈ es0, ∀ e ∈ l, EdI e) → STre H v1 ws1 es1 → (∀ w ∈ ws1, I64 w) → (∀ l ∈ es1, ∀ e ∈ l, EdI e) → ACalls Try.prog 9 [v0, v1] H fun v _ => v = .bool true) : Ytopeeknimehmcaa.Rows.TrellisIsomorphicSaid :=
  OpenClaim.holds_of_wide 9 Try.f9 rfl rfl rfl rfl rfl rfl rfl ⟨rfl, rfl, rfl, rfl, rfl⟩ rfl rfl rfl rfl rfl (by kernel_rfl) Try.func9 (by kernel_rfl)
    (of_decide_eq_true (by kernel_rfl)) (by unfold Func.isWrapper; first | (rw [if_pos (by decide +kernel)]; kernel_rfl) | (rw [if_neg (by decide +kernel)]; exact ⟨rfl, rfl⟩))
    (fun os started H enc _ => trellisIsomorphic_lifted main os started H enc)
end Go.AM
