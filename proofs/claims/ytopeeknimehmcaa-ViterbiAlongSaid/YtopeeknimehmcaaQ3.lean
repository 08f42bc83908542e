/- The document's BackwardMin. Conditions: none. -/
import Derived.Test.YtopeeknimehmcaaQ2
set_option linter.unusedVariables false
set_option linter.unusedSimpArgs false
namespace Go.AM
open Go Go.Proofs
attribute [local go_sem] c_skip c_ops c_seq c_ite c_blk c_exit c_ret t_normal t_exit t_ret b_normal b_exit b_ret i_nil i_cons s_guard s_mov s_pick s_new s_zero s_ld s_ldr s_st s_bin s_beq s_isnil s_eqs s_un s_conv s_fa s_fld s_ia s_sli s_ext s_ifc s_mkf s_agg s_len s_mm s_nilchk s_bsl s_mk s_app s_cpy s_call s_inv cells_agg cells_int cells_bool p_get p_none o_s o_c e_0 e_1 e_2 e_3 e_4 iteC_true iteC_false grd_tt grd_tf grd_ft grd_ff grd_und bindV_some pickV_t pickV_f beq_bool conv_int un_not not_dec mm_min mm_max bv_add bv_sub bv_mul bv_eql bv_neq bv_lss bv_leq bv_gtr bv_geq f_normal f_one f_two f_three f_none fa_ptr fld_one ext_tup len_sl len_nils decide_true decide_false not_true_eq_false not_false_eq_true List.map_cons List.map_nil List.append_nil List.cons_append List.nil_append Nat.zero_add Nat.add_zero Nat.mul_one Nat.succ_ne_self if_true if_false List.getElem?_cons_zero List.getElem?_cons_succ

/-- codewrightref46.BackwardMin -/
def F45 : AF := ⟨113, [(4, none)], (.seq (.ops [⟨none, false, (some 2), (.new (.s 0))⟩, ⟨none, false, (some 4), (.mov (.c .nils))⟩]) (.seq (.ops [⟨none, false, (some 11), (.fa 0 (.s 2))⟩, ⟨none, false, (some 12), (.ld false 1 (.s 11) none)⟩, ⟨none, false, (some 13), (.len (.s 12))⟩, ⟨none, false, (some 14), (.mk 1 24 [.nils] (.s 13) (.s 13))⟩, ⟨none, false, (some 5), (.mov (.s 14))⟩]) (.seq (.seq (.ops [⟨none, false, (some 6), (.mov (.c (.int .i64 (0))))⟩]) (.blk 0 (.loop (.seq (.seq (.ops [⟨none, false, (some 15), (.mov (.s 6))⟩, ⟨none, false, (some 16), (.fa 0 (.s 2))⟩, ⟨none, false, (some 17), (.ld false 1 (.s 16) none)⟩, ⟨none, false, (some 18), (.len (.s 17))⟩, ⟨none, false, (some 19), (.bin .lss (.s 15) (.s 18))⟩]) (.ite (.s 19) .skip (.exit 0))) (.seq (.blk 1 (.seq (.ops [⟨none, false, (some 22), (.mov (.s 5))⟩, ⟨none, false, (some 23), (.mov (.s 6))⟩, ⟨none, false, (some 24), (.fa 0 (.s 2))⟩, ⟨none, false, (some 25), (.ld false 1 (.s 24) none)⟩, ⟨none, false, (some 26), (.mov (.s 6))⟩, ⟨none, false, (some 27), (.ia 1 (.s 25) (.s 26))⟩, ⟨none, false, (some 28), (.ld false 1 (.s 27) none)⟩, ⟨none, false, (some 29), (.mk 1 8 [(.int .i64 (0))] (.s 28) (.s 28))⟩, ⟨none, false, (some 30), (.ia 1 (.s 22) (.s 23))⟩, ⟨none, false, none, (.st 1 (.s 30) (.s 29) [])⟩]) (.seq (.ops [⟨none, false, (some 7), (.mov (.c (.int .i64 (0))))⟩]) (.blk 2 (.loop (.seq (.seq (.ops [⟨none, false, (some 31), (.mov (.s 7))⟩, ⟨none, false, (some 32), (.fa 0 (.s 2))⟩, ⟨none, false, (some 33), (.ld false 1 (.s 32) none)⟩, ⟨none, false, (some 34), (.mov (.s 6))⟩, ⟨none, false, (some 35), (.ia 1 (.s 33) (.s 34))⟩, ⟨none, false, (some 36), (.ld false 1 (.s 35) none)⟩, ⟨none, false, (some 37), (.bin .lss (.s 31) (.s 36))⟩]) (.ite (.s 37) .skip (.exit 2))) (.seq (.blk 3 (.ops [⟨none, false, (some 40), (.mov (.s 5))⟩, ⟨none, false, (some 41), (.mov (.s 6))⟩, ⟨none, false, (some 42), (.ia 1 (.s 40) (.s 41))⟩, ⟨none, false, (some 43), (.ld false 1 (.s 42) none)⟩, ⟨none, false, (some 44), (.mov (.s 7))⟩, ⟨none, false, (some 45), (.ia 1 (.s 43) (.s 44))⟩, ⟨none, false, none, (.st 1 (.s 45) (.c (.int .i64 (4611686018427387904))) [])⟩])) (.ops [⟨none, false, (some 38), (.mov (.s 7))⟩, ⟨none, false, (some 39), (.bin .add (.s 38) (.c (.int .i64 (1))))⟩, ⟨none, false, (some 7), (.mov (.s 39))⟩])))))))) (.ops [⟨none, false, (some 20), (.mov (.s 6))⟩, ⟨none, false, (some 21), (.bin .add (.s 20) (.c (.int .i64 (1))))⟩, ⟨none, false, (some 6), (.mov (.s 21))⟩])))))) (.seq (.ops [⟨none, false, (some 46), (.mov (.s 5))⟩, ⟨none, false, (some 47), (.fa 1 (.s 2))⟩, ⟨none, false, (some 48), (.ld false 1 (.s 47) none)⟩, ⟨none, false, (some 49), (.len (.s 48))⟩, ⟨none, false, (some 50), (.ia 1 (.s 46) (.s 49))⟩, ⟨none, false, (some 51), (.ld false 1 (.s 50) none)⟩, ⟨none, false, (some 52), (.ia 1 (.s 51) (.c (.int .i64 (0))))⟩, ⟨none, false, none, (.st 1 (.s 52) (.c (.int .i64 (0))) [])⟩]) (.seq (.seq (.ops [⟨none, false, (some 53), (.fa 1 (.s 2))⟩, ⟨none, false, (some 54), (.ld false 1 (.s 53) none)⟩, ⟨none, false, (some 55), (.len (.s 54))⟩, ⟨none, false, (some 56), (.bin .sub (.s 55) (.c (.int .i64 (1))))⟩, ⟨none, false, (some 8), (.mov (.s 56))⟩]) (.blk 4 (.loop (.seq (.seq (.ops [⟨none, false, (some 57), (.mov (.s 8))⟩, ⟨none, false, (some 58), (.bin .geq (.s 57) (.c (.int .i64 (0))))⟩]) (.ite (.s 58) .skip (.exit 4))) (.seq (.blk 5 (.seq (.ops [⟨none, false, (some 9), (.mov (.c (.int .i64 (0))))⟩]) (.blk 6 (.loop (.seq (.seq (.ops [⟨none, false, (some 61), (.mov (.s 9))⟩, ⟨none, false, (some 62), (.fa 1 (.s 2))⟩, ⟨none, false, (some 63), (.ld false 1 (.s 62) none)⟩, ⟨none, false, (some 64), (.mov (.s 8))⟩, ⟨none, false, (some 65), (.ia 1 (.s 63) (.s 64))⟩, ⟨none, false, (some 66), (.ld false 1 (.s 65) none)⟩, ⟨none, false, (some 67), (.len (.s 66))⟩, ⟨none, false, (some 68), (.bin .lss (.s 61) (.s 67))⟩]) (.ite (.s 68) .skip (.exit 6))) (.seq (.blk 7 (.seq (.ops [⟨none, false, (some 71), (.fa 1 (.s 2))⟩, ⟨none, false, (some 72), (.ld false 1 (.s 71) none)⟩, ⟨none, false, (some 73), (.mov (.s 8))⟩, ⟨none, false, (some 74), (.ia 1 (.s 72) (.s 73))⟩, ⟨none, false, (some 75), (.ld false 1 (.s 74) none)⟩, ⟨none, false, (some 76), (.mov (.s 9))⟩, ⟨none, false, (some 77), (.ia 3 (.s 75) (.s 76))⟩, ⟨none, false, (some 78), (.ld true 3 (.s 77) none)⟩, ⟨none, false, (some 10), (.zero [(.int .i64 (0)), (.int .i64 (0)), (.int .i64 (0))])⟩, ⟨none, false, none, (.st 3 (.s 10) (.s 78) [])⟩]) (.ops [⟨none, false, (some 79), (.mov (.s 5))⟩, ⟨none, false, (some 80), (.mov (.s 8))⟩, ⟨none, false, (some 81), (.ia 1 (.s 79) (.s 80))⟩, ⟨none, false, (some 83), (.fa 0 (.s 10))⟩, ⟨none, false, (some 85), (.mov (.s 5))⟩, ⟨none, false, (some 86), (.mov (.s 8))⟩, ⟨none, false, (some 87), (.ia 1 (.s 85) (.s 86))⟩, ⟨none, false, (some 89), (.fa 0 (.s 10))⟩, ⟨none, false, (some 93), (.mov (.s 5))⟩, ⟨none, false, (some 94), (.mov (.s 8))⟩, ⟨none, false, (some 95), (.bin .add (.s 94) (.c (.int .i64 (1))))⟩, ⟨none, false, (some 96), (.ia 1 (.s 93) (.s 95))⟩, ⟨none, false, (some 98), (.fa 2 (.s 10))⟩, ⟨none, false, (some 102), (.mov (.s 1))⟩, ⟨none, false, (some 103), (.mov (.s 8))⟩, ⟨none, false, (some 104), (.ia 1 (.s 102) (.s 103))⟩, ⟨none, false, (some 106), (.mov (.s 9))⟩, ⟨none, false, (some 82), (.ld false 1 (.s 81) none)⟩, ⟨none, false, (some 84), (.ld false 1 (.s 83) none)⟩, ⟨none, false, (some 88), (.ld false 1 (.s 87) none)⟩, ⟨none, false, (some 90), (.ld false 1 (.s 89) none)⟩, ⟨none, false, (some 91), (.ia 1 (.s 88) (.s 90))⟩, ⟨none, false, (some 92), (.ld false 1 (.s 91) none)⟩, ⟨none, false, (some 97), (.ld false 1 (.s 96) none)⟩, ⟨none, false, (some 99), (.ld false 1 (.s 98) none)⟩, ⟨none, false, (some 100), (.ia 1 (.s 97) (.s 99))⟩, ⟨none, false, (some 101), (.ld false 1 (.s 100) none)⟩, ⟨none, false, (some 105), (.ld false 1 (.s 104) none)⟩, ⟨none, false, (some 107), (.ia 1 (.s 105) (.s 106))⟩, ⟨none, false, (some 108), (.ld false 1 (.s 107) none)⟩, ⟨none, true, (some 109), (.call (.c (.fn 80 [])) [(.s 101), (.s 108)])⟩, ⟨none, false, (some 110), (.mm false (.s 92) (.s 109))⟩, ⟨none, false, (some 111), (.ia 1 (.s 82) (.s 84))⟩, ⟨none, false, none, (.st 1 (.s 111) (.s 110) [])⟩]))) (.ops [⟨none, false, (some 69), (.mov (.s 9))⟩, ⟨none, false, (some 70), (.bin .add (.s 69) (.c (.int .i64 (1))))⟩, ⟨none, false, (some 9), (.mov (.s 70))⟩]))))))) (.ops [⟨none, false, (some 59), (.mov (.s 8))⟩, ⟨none, false, (some 60), (.bin .sub (.s 59) (.c (.int .i64 (1))))⟩, ⟨none, false, (some 8), (.mov (.s 60))⟩])))))) (.seq (.ops [⟨none, false, (some 112), (.mov (.s 5))⟩, ⟨none, false, (some 4), (.mov (.s 112))⟩]) .ret))))))⟩
theorem cv45 : cvF Try.prog 45 = some F45 := by kernel_rfl


theorem mm_mpAdd {a b : Int} (ha : 0 ≤ a ∧ a ≤ Inf) (hb : 0 ≤ b ∧ b ≤ Inf) : (if b < a then b else a) = mpAdd a b := by
  unfold mpAdd; rw [costI_id ha.1 ha.2, costI_id hb.1 hb.2]

theorem rBackward_spec {sv ev vv : V} {ws : List Int} {es : List (List Ed)} {z : Nat → Int → Int} {H : Heap} (hs : SInts H sv ws) (he : SSecs H ev es) (sh : Shaped ws es) (hv : SRowsV H vv (vtab es fun i a => .int .i64 (z i a))) :
    ACalls Try.prog 45 [.agg [sv, ev], vv] H fun u H' => Heap.sub H H' ∧ ∃ N us, u = .sl N 0 (es.length + 1) true ∧ Tab H H' N true us ((bTab ws es z).map ints) := by
  refine ACalls.of_body hm cv45 (by simp only [List.length_cons, List.length_nil]; decide) ?_
  have hn := sh.n
  have e2 := sh.len
  simp only [F45, go_sem, ↓reduceIte, Nat.reduceEqDiff, Nat.reduceAdd, reduceCtorEq]
  refine newC_intro fun b2 H2 hn1 hs02 hb2 => ?_
  simp only [go_sem, ↓reduceIte, Nat.reduceEqDiff, Nat.reduceAdd, reduceCtorEq, ld_box hb2, hs.len]
  refine mkC_intro (Nat.le_refl _) (by omega) (by omega) fun N H3 hN hs3 hbN => ?_
  rw [flat_rep] at hbN
  simp only [go_sem, ↓reduceIte, Nat.reduceEqDiff, Nat.reduceAdd, reduceCtorEq, beq_self_eq_true]
  have tab0 := partR_startT (f := true) (full := fun i => List.replicate (width ws i) (V.int .i64 Inf)) hs3 hN hbN
  have hwid : ∀ k, (h : k < ws.length) → ws[k] = (width ws k : Int) := fun k h => by
    have := sh.pos k h
    unfold width; rw [getD_eq h]; omega
  -- the rows are laid and filled
  refine loop_count ws.length (fun k env H' => env 1 = vv ∧ env 2 = .ptr b2 0 ∧ env 5 = .sl N 0 ws.length true ∧ env 6 = .int .i64 k ∧ ∃ us, Tab H2 H' N true us (partR ws.length (fun i => List.replicate (width ws i) (V.int .i64 Inf)) k 0)) ?_ ?_ ?_
  · simp only [go_sem, ↓reduceIte, Nat.reduceEqDiff, Nat.reduceAdd, reduceCtorEq]
    exact ⟨by trivial, by trivial, by trivial, by trivial, _, tab0⟩
  · rintro k env H4 hk ⟨h1, h2, h5, h6, us, tab⟩
    obtain ⟨p, a1, a2⟩ := (hs.mono hs02).get hk .i64
    have hk' : (k : Int) < ws.length := by omega
    have pk := sh.pos k hk
    rw [hwid k hk] at a2 pk
    simp only [go_sem, ↓reduceIte, Nat.reduceEqDiff, Nat.reduceAdd, reduceCtorEq, h1, h2, h5, h6, ld_box (tab.sub _ _ hb2), hs.len, hk', a1, ld_mono tab.sub a2]
    refine mkC_intro (Nat.le_refl _) (by omega) (by omega) fun m H5 hm5 hs5 hbm => ?_
    rw [flat_rep] at hbm
    have tab5 := tab.grow hs5
    have hul : us.length = ws.length := by rw [tab.len, partR_len]
    simp only [go_sem, ↓reduceIte, Nat.reduceEqDiff, Nat.reduceAdd, reduceCtorEq, h1, h2, h5, h6, ia_nat hk, beq_self_eq_true]
    refine stC_intro tab5.outer trivial rfl (by decide) (by show k + 1 ≤ us.length; omega) fun H6 hb6 hf6 hs6 => ?_
    have hmN : m ≠ N := fun e => by subst e; rw [tab.outer] at hm5; cases hm5
    have tab6 : Tab H2 H6 N true (us.set k (.sl m 0 (width ws k) true)) (partZ ws.length (fun i => List.replicate (width ws i) (V.int .i64 Inf)) (.int .i64 0) k 0) := by
      rw [← partZ_lay hk]
      have := tab.lay (H' := H6) (i := k) (m := m) (ys := List.replicate (width ws k) (V.int .i64 0)) (by rw [partR_len]; exact hk) hm5 (by
        rw [hb6, show V.cells (V.sl m 0 (width ws k) true) = [V.sl m 0 (width ws k) true] from rfl, splice_one _ _ _ (by omega), List.length_replicate]) (by rw [hf6 m hmN]; exact hbm) (by
        intro q b q1 q2 q3 q4
        rw [hf6 q q1]
        exact hs5 _ _ q4)
      rw [List.length_replicate] at this
      rw [List.length_replicate]
      exact this
    simp only [go_sem, ↓reduceIte, Nat.reduceEqDiff, Nat.reduceAdd, reduceCtorEq, h1, h2, h5, h6]
    refine loop_count (width ws k) (fun j env H' => env 1 = vv ∧ env 2 = .ptr b2 0 ∧ env 5 = .sl N 0 ws.length true ∧ env 6 = .int .i64 k ∧ env 7 = .int .i64 j ∧ Tab H2 H' N true (us.set k (.sl m 0 (width ws k) true)) (partZ ws.length (fun i => List.replicate (width ws i) (V.int .i64 Inf)) (.int .i64 0) k j)) ?_ ?_ ?_
    · simp only [go_sem, ↓reduceIte, Nat.reduceEqDiff, Nat.reduceAdd, reduceCtorEq, h1, h2, h5, h6]
      exact ⟨by trivial, by trivial, by trivial, by trivial, by trivial, tab6⟩
    · rintro j env H7 hj ⟨h1, h2, h5, h6, h7, tab⟩
      have hj' : (j : Int) < (width ws k : Int) := by omega
      have hpl : ((partZ ws.length (fun i => List.replicate (width ws i) (V.int .i64 Inf)) (.int .i64 0) k j)[k]'(by rw [partZ_len]; exact hk)).length = width ws k := by
        rw [partZ_get hk, if_neg (Nat.lt_irrefl _), if_pos rfl]; simp; omega
      obtain ⟨nm, um, hbn, _, hnN, ia, _⟩ := tab.at (i := k) (j := j) (by rw [partZ_len]; exact hk) (by rw [hpl]; exact hj) .i64
      simp only [go_sem, ↓reduceIte, Nat.reduceEqDiff, Nat.reduceAdd, reduceCtorEq, h1, h2, h5, h6, h7, ld_box (tab.sub _ _ hb2), a1, ld_mono tab.sub a2, hj', ia_nat hk, ld_box tab.outer, um, ia]
      refine stC_intro hbn trivial rfl (by decide) (by show j + 1 ≤ _; rw [hpl]; omega) fun H8 hb8 hf8 hs8 => ?_
      simp only [go_sem, ↓reduceIte, Nat.reduceEqDiff, Nat.reduceAdd, reduceCtorEq, h1, h2, h5, h6, h7]
      rw [wrapN1 (by omega)]
      refine ⟨by trivial, by trivial, by trivial, by trivial, by trivial, ?_⟩
      rw [cells_int, splice_one _ _ _ (by rw [hpl]; exact hj)] at hb8
      have hjf : j < ((fun i => List.replicate (width ws i) (V.int .i64 Inf)) k).length := by simpa using hj
      have := tab.set (H' := H8) (i := k) (j := j) (by rw [partZ_len]; exact hk) um (by rw [hpl]; exact hj) hb8 hf8
      rw [← partZ_set hk hjf]
      have e : ((fun i => List.replicate (width ws i) (V.int .i64 Inf)) k)[j] = V.int .i64 4611686018427387904 := by simp [Inf]
      rw [e]
      exact this
    · rintro env H' ⟨h1, h2, h5, h6, h7, tab⟩
      simp only [go_sem, ↓reduceIte, Nat.reduceEqDiff, Nat.reduceAdd, reduceCtorEq, h1, h2, h5, h6, h7, ld_box (tab.sub _ _ hb2), a1, ld_mono tab.sub a2, Int.lt_irrefl]
      rw [wrapN1 (by omega)]
      refine ⟨by trivial, by trivial, by trivial, by trivial, us.set k (.sl m 0 (width ws k) true), ?_⟩
      rw [← partZ_next (z := .int .i64 0) (j := width ws k) (by simp)]
      exact tab
  rintro env H3 ⟨h1, h2, h5, h6, us, tab⟩
  rw [partR_done] at tab
  have e3 : (List.range ws.length).map (fun i => List.replicate (width ws i) (V.int .i64 Inf)) = ws.map fun w => List.replicate w.toNat (V.int .i64 Inf) := by
    apply List.ext_getElem
    · simp
    · intro i x1 x2
      have hi : i < ws.length := by simpa using x1
      simp [width, hi]
  rw [e3] at tab
  have hs3 := tab.sub
  have w0 : (ws.map fun w => List.replicate w.toNat (V.int .i64 Inf)).length = es.length + 1 := by simp [e2]
  have pn := sh.pos es.length (by omega)
  have hrl : ((ws.map fun w => List.replicate w.toNat (V.int .i64 Inf))[es.length]'(by rw [w0]; omega)) = List.replicate (width ws es.length) (V.int .i64 Inf) := by
    simp [width, show es.length < ws.length by omega]
  have hwn : 0 < width ws es.length := by unfold width; rw [getD_eq (by omega)]; omega
  obtain ⟨n, hun, hbn, _, hnN, hia, hld⟩ := tab.at (i := es.length) (j := 0) (by rw [w0]; omega) (by rw [hrl]; simpa using hwn) .i64
  rw [hrl, List.length_replicate] at hun hia
  rw [hrl] at hbn
  have hia' : iaV 1 (.sl n 0 (width ws es.length) true) (.int .i64 0) = some (.ptr n 0) := hia
  simp only [go_sem, ↓reduceIte, Nat.reduceEqDiff, Nat.reduceAdd, reduceCtorEq, h1, h2, h5, h6, ld_box (hs3 _ _ hb2), hs.len, SLists.len he, Int.lt_irrefl, ia_nat (show es.length < ws.length by omega), ld_box tab.outer, hun, hia']
  refine stC_intro hbn trivial rfl (by decide) (by show 0 + 1 ≤ _; rw [List.length_replicate]; omega) fun H4 hb4n hf4 hs4 => ?_
  have htab4 : Tab H2 H4 N true us ((stD ws es z es.length).map ints) := by
    rw [← stD_start ws es z e2]
    have := tab.set (H' := H4) (i := es.length) (j := 0) (n := n) (v := .int .i64 0) (by rw [w0]; omega) (by rw [hrl, List.length_replicate]; exact hun) (by rw [hrl, List.length_replicate]; exact hwn) (by
      rw [hb4n, cells_int, splice_one _ _ _ (by rw [List.length_replicate]; exact hwn), hrl]) hf4
    rw [hrl] at this
    exact this
  simp only [go_sem, ↓reduceIte, Nat.reduceEqDiff, Nat.reduceAdd, reduceCtorEq, h1, h2, h5, ld_box (htab4.sub _ _ hb2), SLists.len he]
  have hI0 : IntKind.i64.wrap ((es.length : Int) - 1) = es.length - 1 := wrapI (by omega) (by omega)
  rw [hI0]
  have hdl : ∀ m, ((stD ws es z m).map ints).length = es.length + 1 := fun m => by simp [stD]
  have hpl : ∀ i j, ((stP ws es z i j).map ints).length = es.length + 1 := fun i j => by simp [stP]
  refine loop_count es.length (fun k env H' => env 1 = vv ∧ env 2 = .ptr b2 0 ∧ env 5 = .sl N 0 ws.length true ∧ env 8 = .int .i64 ((es.length : Int) - 1 - k) ∧ Tab H2 H' N true us ((stD ws es z (es.length - k)).map ints)) ?_ ?_ ?_
  · simp only [go_sem, ↓reduceIte, Nat.reduceEqDiff, Nat.reduceAdd, reduceCtorEq, h1, h2, h5]
    exact ⟨by trivial, by trivial, by trivial, by simp, by simpa using htab4⟩
  · rintro k env H5 hk ⟨h1, h2, h5, h8, tab⟩
    obtain ⟨i, hi⟩ : ∃ i, es.length = i + (k + 1) := ⟨es.length - (k+1), by omega⟩
    have hil : i < es.length := by omega
    have e10 : (es.length : Int) - 1 - k = (i : Int) := by omega
    rw [e10] at h8
    have hge : (0 : Int) ≤ (i : Int) := by omega
    obtain ⟨p, ue, a1, a2, a3⟩ := (SSecs.mono he hs02).get hil .i64
    have hlk := sh.each i hil
    have ek : es.length - k = i + 1 := by omega
    rw [ek, ← stP_zero] at tab
    obtain ⟨pv, uv, v1, v2, v3⟩ := (SRowsV.mono hv hs02).get (k := i) (by rw [vtab_len]; exact hil) .i64
    rw [vtab_get hil] at v3
    have gi := getD_eq (xs := ws) (k := i) (by omega)
    have gi1 := getD_eq (xs := ws) (k := i+1) (by omega)
    simp only [go_sem, ↓reduceIte, Nat.reduceEqDiff, Nat.reduceAdd, reduceCtorEq, h1, h2, h5, h8, hge]
    refine loop_count es[i].length (fun j env H' => env 1 = vv ∧ env 2 = .ptr b2 0 ∧ env 5 = .sl N 0 ws.length true ∧ env 8 = .int .i64 i ∧ env 9 = .int .i64 j ∧ Tab H2 H' N true us ((stP ws es z i j).map ints)) ?_ ?_ ?_
    · simp only [go_sem, ↓reduceIte, Nat.reduceEqDiff, Nat.reduceAdd, reduceCtorEq, h1, h2, h5, h8]
      exact ⟨by trivial, by trivial, by trivial, by trivial, by trivial, tab⟩
    · rintro j env H6 hj ⟨h1, h2, h5, h8, h9, tab⟩
      have hj' : (j : Int) < es[i].length := by omega
      obtain ⟨p, q0, q1, q2, c1, c2, _⟩ := (a3.mono tab.sub).get hj .i64
      have gd := sh.good i hil _ (List.getElem_mem hj)
      rw [gi, gi1] at gd
      have pi := sh.pos i (by omega)
      have pi1 := sh.pos (i+1) (by omega)
      obtain ⟨fr, hfr⟩ : ∃ n : Nat, es[i][j].fr = n := ⟨es[i][j].fr.toNat, by omega⟩
      obtain ⟨to, hto⟩ : ∃ n : Nat, es[i][j].to = n := ⟨es[i][j].to.toNat, by omega⟩
      simp only [go_sem, ↓reduceIte, Nat.reduceEqDiff, Nat.reduceAdd, reduceCtorEq, h1, h2, h5, h8, h9, ld_box (tab.sub _ _ hb2), a1, ld_mono tab.sub a2, a3.len, hj', c1, c2]
      refine newC_intro fun n4 H7 hn4 hs7 hb7 => ?_
      simp only [go_sem, ↓reduceIte, Nat.reduceEqDiff, Nat.reduceAdd, reduceCtorEq]
      refine stC_intro hb7 trivial rfl (by decide) (by decide) fun H8 hb8 hf8 hs8 => ?_
      simp only [Ed.cells, fillV, List.length_cons, List.length_nil, splice, Nat.reduceLeDiff, Nat.zero_lt_one, and_self, List.take_zero, List.take_succ_cons, List.drop_succ_cons, List.drop_zero, List.drop_nil, Nat.reduceLT, Nat.le_refl, go_sem, ↓reduceIte, Nat.reduceEqDiff, Nat.reduceAdd, reduceCtorEq] at hb8
      have hs68 : Heap.sub H6 H8 := hs8 H6 hs7 hn4
      have tab8 := tab.grow hs68
      have r1 : ((stP ws es z i j).map ints)[i]'(by rw [hpl]; omega) = ints (foldB (bRow ws es z (es.length - (i+1))) (z i) (es[i].take j) (List.replicate (width ws i) Inf)) := by
        rw [List.getElem_map, stP_get (by omega)]; simp [hil]
      have r2 : ((stP ws es z i j).map ints)[i+1]'(by rw [hpl]; omega) = ints (bRow ws es z (es.length - (i+1))) := by
        rw [List.getElem_map, stP_get (by omega)]; simp
      have l1 : (ints (foldB (bRow ws es z (es.length - (i+1))) (z i) (es[i].take j) (List.replicate (width ws i) Inf))).length = width ws i := by rw [ints_len, foldB_len]; simp
      have l2 : (ints (bRow ws es z (es.length - (i+1)))).length = width ws (i+1) := by
        rw [ints_len, bRow_len _ (by omega)]; congr 1; omega
      have wi : width ws i = ws[i].toNat := by unfold width; rw [gi]
      have wi1 : width ws (i+1) = ws[i+1].toNat := by unfold width; rw [gi1]
      obtain ⟨m1, um1, hm1, _, _, ia1, ld1⟩ := tab8.at (i := i) (j := fr) (by rw [hpl]; omega) (by rw [r1, l1]; omega) .i64
      obtain ⟨m2, um2, hm2, _, _, ia2, ld2⟩ := tab8.at (i := i+1) (j := to) (by rw [hpl]; omega) (by rw [r2, l2]; omega) .i64
      rw [r1, ints_get (by rw [ints_len] at l1; omega)] at ld1
      rw [r2, ints_get (by rw [ints_len] at l2; omega)] at ld2
      obtain ⟨pz, z1, z2⟩ := (v3.mono tab8.sub).get (k := j) (by simpa using hj) .i64
      rw [List.getElem_map] at z2
      have hw1 : IntKind.i64.wrap ((i : Int) + 1) = ((i + 1 : Nat) : Int) := wrapN1 (by omega)
      simp only [go_sem, ↓reduceIte, Nat.reduceEqDiff, Nat.reduceAdd, reduceCtorEq, h1, h2, h5, h8, h9, hw1, ia_nat (show i < ws.length by omega), ia_nat (show i + 1 < ws.length by omega), v1, ld_mono tab8.sub v2, ld_box tab8.outer, um1, um2, ld_box hb8, hfr, hto, ia1, ia2, ld1, ld2, z1, z2]
      refine callC_pure (rMinMul_spec _ _ _) ?_
      simp only [go_sem, ↓reduceIte, Nat.reduceEqDiff, Nat.reduceAdd, reduceCtorEq, ia1]
      refine stC_intro hm1 trivial rfl (by decide) (by show fr + 1 ≤ _; rw [r1, l1]; omega) fun H9 hb9 hf9 hs9 => ?_
      simp only [go_sem, ↓reduceIte, Nat.reduceEqDiff, Nat.reduceAdd, reduceCtorEq, h1, h2, h5, h8, h9]
      rw [wrapN1 (by omega)]
      refine ⟨by trivial, by trivial, by trivial, by trivial, by trivial, ?_⟩
      rw [cells_int, splice_one _ _ _ (by rw [r1, l1]; omega)] at hb9
      have := tab8.set (H' := H9) (i := i) (j := fr) (n := m1) (by rw [hpl]; omega) um1 (by rw [r1, l1]; omega) hb9 hf9
      rw [r1, ints_set] at this
      rw [← stP_step ws es z hil hj, List.map_set]
      have e3 : updB (bRow ws es z (es.length - (i+1))) (foldB (bRow ws es z (es.length - (i+1))) (z i) (es[i].take j) (List.replicate (width ws i) Inf)) es[i][j] (z i es[i][j].lb) =
          (foldB (bRow ws es z (es.length - (i+1))) (z i) (es[i].take j) (List.replicate (width ws i) Inf)).set fr (mpAdd ((foldB (bRow ws es z (es.length - (i+1))) (z i) (es[i].take j) (List.replicate (width ws i) Inf))[fr]'(by rw [ints_len] at l1; omega)) (mpMul (z i es[i][j].lb) ((bRow ws es z (es.length - (i+1)))[to]'(by rw [ints_len] at l2; omega)))) := by
        unfold updB
        rw [hfr, hto, Int.toNat_natCast, Int.toNat_natCast, getD_eq (by rw [ints_len] at l1; omega), getD_eq (by rw [ints_len] at l2; omega)]
      rw [e3, ← mm_mpAdd (InR_fold _ _ _ (InR_rep _) _ (List.getElem_mem _)) (mpMul_range _ _)]
      exact this
    · rintro env H' ⟨h1, h2, h5, h8, h9, tab⟩
      simp only [go_sem, ↓reduceIte, Nat.reduceEqDiff, Nat.reduceAdd, reduceCtorEq, h1, h2, h5, h8, h9, ld_box (tab.sub _ _ hb2), a1, ld_mono tab.sub a2, a3.len, Int.lt_irrefl]
      rw [wrapI (by omega) (by omega)]
      rw [stP_full _ _ _ hil] at tab
      refine ⟨by trivial, by trivial, by trivial, ?_, ?_⟩
      · congr 1; omega
      · have : es.length - (k+1) = i := by omega
        rw [this]; exact tab
  · rintro env H' ⟨h1, h2, h5, h8, tab⟩
    have e10 : (es.length : Int) - 1 - es.length = -1 := by omega
    rw [e10] at h8
    have hlt : ¬ (0 : Int) ≤ -1 := by omega
    simp only [go_sem, ↓reduceIte, Nat.reduceEqDiff, Nat.reduceAdd, reduceCtorEq, h5, h8, hlt]
    rw [Nat.sub_self, stD_zero] at tab
    exact finO_self ⟨hs02.trans' tab.sub, N, us, by rw [e2], tab.down hs02⟩
end Go.AM
