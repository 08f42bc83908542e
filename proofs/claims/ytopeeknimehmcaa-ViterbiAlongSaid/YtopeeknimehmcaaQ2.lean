/- The document's vals, Min, MinMul. Conditions: none. -/
import Derived.Test.YtopeeknimehmcaaQ1
set_option linter.unusedVariables false
set_option linter.unusedSimpArgs false
namespace Go.AM
open Go Go.Proofs
attribute [local go_sem] c_skip c_ops c_seq c_ite c_blk c_exit c_ret t_normal t_exit t_ret b_normal b_exit b_ret i_nil i_cons s_guard s_mov s_pick s_new s_zero s_ld s_ldr s_st s_bin s_beq s_isnil s_eqs s_un s_conv s_fa s_fld s_ia s_sli s_ext s_ifc s_mkf s_agg s_len s_mm s_nilchk s_bsl s_mk s_app s_cpy s_call s_inv cells_agg cells_int cells_bool p_get p_none o_s o_c e_0 e_1 e_2 e_3 e_4 iteC_true iteC_false grd_tt grd_tf grd_ft grd_ff grd_und bindV_some pickV_t pickV_f beq_bool conv_int un_not not_dec mm_min mm_max bv_add bv_sub bv_mul bv_eql bv_neq bv_lss bv_leq bv_gtr bv_geq f_normal f_one f_two f_three f_none fa_ptr fld_one ext_tup len_sl len_nils decide_true decide_false not_true_eq_false not_false_eq_true List.map_cons List.map_nil List.append_nil List.cons_append List.nil_append Nat.zero_add Nat.add_zero Nat.mul_one Nat.succ_ne_self if_true if_false List.getElem?_cons_zero List.getElem?_cons_succ

/-- codewrightref49.vals -/
def F44 : AF := ⟨61, [(4, none)], (.seq (.ops [⟨none, false, (some 2), (.new (.s 0))⟩, ⟨none, false, (some 4), (.mov (.c .nils))⟩]) (.seq (.ops [⟨none, false, (some 8), (.fa 1 (.s 2))⟩, ⟨none, false, (some 9), (.ld false 1 (.s 8) none)⟩, ⟨none, false, (some 10), (.len (.s 9))⟩, ⟨none, false, (some 11), (.mk 1 24 [.nils] (.s 10) (.s 10))⟩, ⟨none, false, (some 5), (.mov (.s 11))⟩]) (.seq (.seq (.ops [⟨none, false, (some 6), (.mov (.c (.int .i64 (0))))⟩]) (.blk 0 (.loop (.seq (.seq (.ops [⟨none, false, (some 12), (.mov (.s 6))⟩, ⟨none, false, (some 13), (.fa 1 (.s 2))⟩, ⟨none, false, (some 14), (.ld false 1 (.s 13) none)⟩, ⟨none, false, (some 15), (.len (.s 14))⟩, ⟨none, false, (some 16), (.bin .lss (.s 12) (.s 15))⟩]) (.ite (.s 16) .skip (.exit 0))) (.seq (.blk 1 (.seq (.ops [⟨none, false, (some 19), (.mov (.s 5))⟩, ⟨none, false, (some 20), (.mov (.s 6))⟩, ⟨none, false, (some 21), (.fa 1 (.s 2))⟩, ⟨none, false, (some 22), (.ld false 1 (.s 21) none)⟩, ⟨none, false, (some 23), (.mov (.s 6))⟩, ⟨none, false, (some 24), (.ia 1 (.s 22) (.s 23))⟩, ⟨none, false, (some 25), (.ld false 1 (.s 24) none)⟩, ⟨none, false, (some 26), (.len (.s 25))⟩, ⟨none, false, (some 27), (.mk 1 8 [(.int .i64 (0))] (.s 26) (.s 26))⟩, ⟨none, false, (some 28), (.ia 1 (.s 19) (.s 20))⟩, ⟨none, false, none, (.st 1 (.s 28) (.s 27) [])⟩]) (.seq (.ops [⟨none, false, (some 7), (.mov (.c (.int .i64 (0))))⟩]) (.blk 2 (.loop (.seq (.seq (.ops [⟨none, false, (some 29), (.mov (.s 7))⟩, ⟨none, false, (some 30), (.fa 1 (.s 2))⟩, ⟨none, false, (some 31), (.ld false 1 (.s 30) none)⟩, ⟨none, false, (some 32), (.mov (.s 6))⟩, ⟨none, false, (some 33), (.ia 1 (.s 31) (.s 32))⟩, ⟨none, false, (some 34), (.ld false 1 (.s 33) none)⟩, ⟨none, false, (some 35), (.len (.s 34))⟩, ⟨none, false, (some 36), (.bin .lss (.s 29) (.s 35))⟩]) (.ite (.s 36) .skip (.exit 2))) (.seq (.blk 3 (.ops [⟨none, false, (some 39), (.mov (.s 5))⟩, ⟨none, false, (some 40), (.mov (.s 6))⟩, ⟨none, false, (some 41), (.ia 1 (.s 39) (.s 40))⟩, ⟨none, false, (some 43), (.mov (.s 7))⟩, ⟨none, false, (some 44), (.mov (.s 1))⟩, ⟨none, false, (some 45), (.mov (.s 6))⟩, ⟨none, false, (some 46), (.ia 1 (.s 44) (.s 45))⟩, ⟨none, false, (some 48), (.fa 1 (.s 2))⟩, ⟨none, false, (some 50), (.mov (.s 6))⟩, ⟨none, false, (some 53), (.mov (.s 7))⟩, ⟨none, false, (some 42), (.ld false 1 (.s 41) none)⟩, ⟨none, false, (some 47), (.ld false 1 (.s 46) none)⟩, ⟨none, false, (some 49), (.ld false 1 (.s 48) none)⟩, ⟨none, false, (some 51), (.ia 1 (.s 49) (.s 50))⟩, ⟨none, false, (some 52), (.ld false 1 (.s 51) none)⟩, ⟨none, false, (some 54), (.ia 3 (.s 52) (.s 53))⟩, ⟨none, false, (some 55), (.fa 1 (.s 54))⟩, ⟨none, false, (some 56), (.ld false 1 (.s 55) none)⟩, ⟨none, false, (some 57), (.ia 1 (.s 47) (.s 56))⟩, ⟨none, false, (some 58), (.ld false 1 (.s 57) none)⟩, ⟨none, false, (some 59), (.ia 1 (.s 42) (.s 43))⟩, ⟨none, false, none, (.st 1 (.s 59) (.s 58) [])⟩])) (.ops [⟨none, false, (some 37), (.mov (.s 7))⟩, ⟨none, false, (some 38), (.bin .add (.s 37) (.c (.int .i64 (1))))⟩, ⟨none, false, (some 7), (.mov (.s 38))⟩])))))))) (.ops [⟨none, false, (some 17), (.mov (.s 6))⟩, ⟨none, false, (some 18), (.bin .add (.s 17) (.c (.int .i64 (1))))⟩, ⟨none, false, (some 6), (.mov (.s 18))⟩])))))) (.seq (.ops [⟨none, false, (some 60), (.mov (.s 5))⟩, ⟨none, false, (some 4), (.mov (.s 60))⟩]) .ret))))⟩
theorem cv44 : cvF Try.prog 44 = some F44 := by kernel_rfl

/-- codewrightref46.Min -/
def F103 : AF := ⟨6, [(2, none)], (.seq (.ops [⟨none, false, (some 2), (.mov (.c (.int .i64 (0))))⟩]) (.seq (.ops [⟨none, false, (some 3), (.mov (.s 0))⟩, ⟨none, false, (some 4), (.mm false (.s 3) (.c (.int .i64 (4611686018427387904))))⟩, ⟨none, false, (some 5), (.mm true (.c (.int .i64 (0))) (.s 4))⟩, ⟨none, false, (some 2), (.mov (.s 5))⟩]) .ret))⟩
theorem cv103 : cvF Try.prog 103 = some F103 := by kernel_rfl

/-- codewrightref46.MinMul -/
def F80 : AF := ⟨16, [(4, none)], (.seq (.ops [⟨none, false, (some 4), (.mov (.c (.int .i64 (0))))⟩]) (.seq (.ops [⟨none, false, (some 5), (.mov (.s 0))⟩, ⟨none, false, (some 6), (.call (.c (.fn 103 [])) [(.s 5)])⟩, ⟨none, false, (some 0), (.mov (.s 6))⟩]) (.seq (.ops [⟨none, false, (some 7), (.mov (.s 1))⟩, ⟨none, false, (some 8), (.call (.c (.fn 103 [])) [(.s 7)])⟩, ⟨none, false, (some 1), (.mov (.s 8))⟩]) (.seq (.seq (.ops [⟨none, false, (some 9), (.mov (.s 0))⟩, ⟨none, false, (some 10), (.mov (.s 1))⟩, ⟨none, false, (some 11), (.bin .sub (.c (.int .i64 (4611686018427387904))) (.s 10))⟩, ⟨none, false, (some 12), (.bin .gtr (.s 9) (.s 11))⟩]) (.ite (.s 12) (.seq (.ops [⟨none, false, (some 4), (.mov (.c (.int .i64 (4611686018427387904))))⟩]) .ret) .skip)) (.seq (.ops [⟨none, false, (some 13), (.mov (.s 0))⟩, ⟨none, false, (some 14), (.mov (.s 1))⟩, ⟨none, false, (some 15), (.bin .add (.s 13) (.s 14))⟩, ⟨none, false, (some 4), (.mov (.s 15))⟩]) .ret)))))⟩
theorem cv80 : cvF Try.prog 80 = some F80 := by kernel_rfl


theorem rMin_spec (a : Int) (H : Heap) : ACalls Try.prog 103 [.int .i64 a] H fun u H' => u = .int .i64 (costI a) ∧ H' = H := by
  refine ACalls.of_body hm cv103 (by simp only [List.length_cons, List.length_nil]; decide) ?_
  simp only [F103, go_sem, ↓reduceIte, Nat.reduceEqDiff, Nat.reduceAdd, reduceCtorEq]
  refine finO_self ⟨?_, rfl⟩
  unfold costI Inf
  congr 1
  repeat' split
  all_goals omega
theorem rMinMul_spec (a b : Int) (H : Heap) : ACalls Try.prog 80 [.int .i64 a, .int .i64 b] H fun u H' => u = .int .i64 (mpMul b a) ∧ H' = H := by
  refine ACalls.of_body hm cv80 (by simp only [List.length_cons, List.length_nil]; decide) ?_
  simp only [F80, go_sem, ↓reduceIte, Nat.reduceEqDiff, Nat.reduceAdd, reduceCtorEq]
  refine callC_pure (rMin_spec _ _) ?_
  simp only [go_sem, ↓reduceIte, Nat.reduceEqDiff, Nat.reduceAdd, reduceCtorEq]
  refine callC_pure (rMin_spec _ _) ?_
  have ha := costI_range a
  have hb := costI_range b
  unfold Inf at ha hb
  simp (disch := omega) only [go_sem, ↓reduceIte, Nat.reduceEqDiff, Nat.reduceAdd, reduceCtorEq, wrapI]
  refine iteC_if (fun h => ?_) (fun h => ?_)
  · simp only [go_sem, ↓reduceIte, Nat.reduceEqDiff, Nat.reduceAdd, reduceCtorEq]
    exact finO_self ⟨by unfold mpMul Inf; rw [if_pos (by omega)], rfl⟩
  · simp (disch := omega) only [go_sem, ↓reduceIte, Nat.reduceEqDiff, Nat.reduceAdd, reduceCtorEq, wrapI]
    exact finO_self ⟨by unfold mpMul Inf; rw [if_neg (by omega)]; congr 1; omega, rfl⟩

theorem rvals_spec {sv ev cv : V} {ws : List Int} {es : List (List Ed)} {costs : List (List Int)} {H : Heap} (he : SSecs H ev es) (sh : Shaped ws es) (hc : SRows H cv costs)
    (hl : costs.length = es.length) (hlab : ∀ i, (h : i < es.length) → ∀ e ∈ es[i], 0 ≤ e.lb ∧ e.lb < (costs[i]'(by omega)).length) :
    ACalls Try.prog 44 [.agg [sv, ev], cv] H fun u H' => Heap.sub H H' ∧ ∃ N us, u = .sl N 0 es.length true ∧ Tab H H' N true us (vtab es fun i a => .int .i64 (at2 costs i a)) := by
  refine ACalls.of_body hm cv44 (by simp only [List.length_cons, List.length_nil]; decide) ?_
  have hn := sh.n
  simp only [F44, go_sem, ↓reduceIte, Nat.reduceEqDiff, Nat.reduceAdd, reduceCtorEq]
  refine newC_intro fun b2 H1 hn1 hs1 hb1 => ?_
  simp only [go_sem, ↓reduceIte, Nat.reduceEqDiff, Nat.reduceAdd, reduceCtorEq, ld_box hb1, SLists.len he]
  refine mkC_intro (Nat.le_refl _) (by omega) (by omega) fun N H2 hN hs2 hbN => ?_
  rw [flat_rep] at hbN
  simp only [go_sem, ↓reduceIte, Nat.reduceEqDiff, Nat.reduceAdd, reduceCtorEq, beq_self_eq_true]
  have tab0 := partR_startT (f := true) (full := vrow es fun i a => .int .i64 (at2 costs i a)) hs2 hN hbN
  have hfl : ∀ k, (h : k < es.length) → vrow es (fun i a => V.int .i64 (at2 costs i a)) k = es[k].map fun e => V.int .i64 (at2 costs k e.lb) := fun k h => by simp [vrow, h]
  refine loop_count es.length (fun k env H' => env 1 = cv ∧ env 2 = .ptr b2 0 ∧ env 5 = .sl N 0 es.length true ∧ env 6 = .int .i64 k ∧ ∃ us, Tab H1 H' N true us (partR es.length (vrow es fun i a => .int .i64 (at2 costs i a)) k 0)) ?_ ?_ ?_
  · simp only [go_sem, ↓reduceIte, Nat.reduceEqDiff, Nat.reduceAdd, reduceCtorEq]
    exact ⟨by trivial, by trivial, by trivial, by trivial, _, tab0⟩
  · rintro k env H4 hk ⟨h1, h2, h5, h6, us, tab⟩
    obtain ⟨p, ue, a1, a2, a3⟩ := (SSecs.mono he hs1).get hk .i64
    obtain ⟨pc, uc, b1, b2', b3⟩ := (SRows.mono hc hs1).get (k := k) (by omega) .i64
    have hlk := sh.each k hk
    have hk' : (k : Int) < es.length := by omega
    simp only [go_sem, ↓reduceIte, Nat.reduceEqDiff, Nat.reduceAdd, reduceCtorEq, h1, h2, h5, h6, ld_box (tab.sub _ _ hb1), SLists.len he, hk', a1, ld_mono tab.sub a2, a3.len]
    refine mkC_intro (Nat.le_refl _) (by omega) (by omega) fun m H5 hm5 hs5 hbm => ?_
    rw [flat_rep] at hbm
    have tab5 := tab.grow hs5
    have hul : us.length = es.length := by rw [tab.len, partR_len]
    simp only [go_sem, ↓reduceIte, Nat.reduceEqDiff, Nat.reduceAdd, reduceCtorEq, h1, h2, h5, h6, ia_nat hk, beq_self_eq_true]
    refine stC_intro tab5.outer trivial rfl (by decide) (by show k + 1 ≤ us.length; omega) fun H6 hb6 hf6 hs6 => ?_
    have hmN : m ≠ N := fun e => by subst e; rw [tab.outer] at hm5; cases hm5
    have tab6 : Tab H1 H6 N true (us.set k (.sl m 0 es[k].length true)) (partZ es.length (vrow es fun i a => .int .i64 (at2 costs i a)) (.int .i64 0) k 0) := by
      rw [← partZ_lay hk]
      have := tab.lay (H' := H6) (i := k) (m := m) (ys := List.replicate es[k].length (V.int .i64 0)) (by rw [partR_len]; exact hk) hm5 (by
        rw [hb6, show V.cells (V.sl m 0 es[k].length true) = [V.sl m 0 es[k].length true] from rfl, splice_one _ _ _ (by omega), List.length_replicate]) (by rw [hf6 m hmN]; exact hbm) (by
        intro q b q1 q2 q3 q4
        rw [hf6 q q1]
        exact hs5 _ _ q4)
      rw [List.length_replicate] at this
      rw [hfl k hk, List.length_map]
      exact this
    simp only [go_sem, ↓reduceIte, Nat.reduceEqDiff, Nat.reduceAdd, reduceCtorEq, h1, h2, h5, h6]
    refine loop_count es[k].length (fun j env H' => env 1 = cv ∧ env 2 = .ptr b2 0 ∧ env 5 = .sl N 0 es.length true ∧ env 6 = .int .i64 k ∧ env 7 = .int .i64 j ∧ Tab H1 H' N true (us.set k (.sl m 0 es[k].length true)) (partZ es.length (vrow es fun i a => .int .i64 (at2 costs i a)) (.int .i64 0) k j)) ?_ ?_ ?_
    · simp only [go_sem, ↓reduceIte, Nat.reduceEqDiff, Nat.reduceAdd, reduceCtorEq, h1, h2, h5, h6]
      exact ⟨by trivial, by trivial, by trivial, by trivial, by trivial, tab6⟩
    · rintro j env H7 hj ⟨h1, h2, h5, h6, h7, tab⟩
      have hj' : (j : Int) < es[k].length := by omega
      obtain ⟨p, q0, q1, q2, c1, c2, f0, f1, f2, g0, g1, g2⟩ := (a3.mono tab.sub).get hj .i64
      have hlb := hlab k hk _ (List.getElem_mem hj)
      obtain ⟨lb, hlb'⟩ : ∃ n : Nat, es[k][j].lb = n := ⟨es[k][j].lb.toNat, by omega⟩
      obtain ⟨q, d1, d2⟩ := (b3.mono tab.sub).get (k := lb) (by omega) .i64
      have hpl : ((partZ es.length (vrow es fun i a => .int .i64 (at2 costs i a)) (.int .i64 0) k j)[k]'(by rw [partZ_len]; exact hk)).length = es[k].length := by
        rw [partZ_get hk, if_neg (Nat.lt_irrefl _), if_pos rfl, hfl k hk]; simp; omega
      obtain ⟨nm, um, hbn, _, hnN, ia, _⟩ := tab.at (i := k) (j := j) (by rw [partZ_len]; exact hk) (by rw [hpl]; exact hj) .i64
      have hval : at2 costs k es[k][j].lb = (costs[k]'(by omega))[lb]'(by omega) := by rw [hlb', at2_get (by omega) (by omega)]
      simp only [go_sem, ↓reduceIte, Nat.reduceEqDiff, Nat.reduceAdd, reduceCtorEq, h1, h2, h5, h6, h7, ld_box (tab.sub _ _ hb1), a1, ld_mono tab.sub a2, a3.len, hj', ia_nat hk, ld_box tab.outer, um, b1, ld_mono tab.sub b2', c1, f1, g1, hlb', d1, d2, ia]
      refine stC_intro hbn trivial rfl (by decide) (by show j + 1 ≤ _; rw [hpl]; omega) fun H8 hb8 hf8 hs8 => ?_
      simp only [go_sem, ↓reduceIte, Nat.reduceEqDiff, Nat.reduceAdd, reduceCtorEq, h1, h2, h5, h6, h7]
      rw [wrapN1 (by omega)]
      refine ⟨by trivial, by trivial, by trivial, by trivial, by trivial, ?_⟩
      rw [cells_int, splice_one _ _ _ (by rw [hpl]; exact hj)] at hb8
      have hjf : j < (vrow es (fun i a => V.int .i64 (at2 costs i a)) k).length := by rw [hfl k hk]; simpa using hj
      have := tab.set (H' := H8) (i := k) (j := j) (by rw [partZ_len]; exact hk) um (by rw [hpl]; exact hj) hb8 hf8
      rw [← partZ_set hk hjf]
      have e : (vrow es (fun i a => V.int .i64 (at2 costs i a)) k)[j] = V.int .i64 ((costs[k]'(by omega))[lb]'(by omega)) := by simp only [hfl k hk, List.getElem_map, hval]
      rw [e]
      exact this
    · rintro env H' ⟨h1, h2, h5, h6, h7, tab⟩
      simp only [go_sem, ↓reduceIte, Nat.reduceEqDiff, Nat.reduceAdd, reduceCtorEq, h1, h2, h5, h6, h7, ld_box (tab.sub _ _ hb1), a1, ld_mono tab.sub a2, a3.len, Int.lt_irrefl]
      rw [wrapN1 (by omega)]
      refine ⟨by trivial, by trivial, by trivial, by trivial, us.set k (.sl m 0 es[k].length true), ?_⟩
      rw [← partZ_next (z := .int .i64 0) (j := es[k].length) (by rw [hfl k hk]; simp)]
      exact tab
  · rintro env H' ⟨h1, h2, h5, h6, us, tab⟩
    simp only [go_sem, ↓reduceIte, Nat.reduceEqDiff, Nat.reduceAdd, reduceCtorEq, h2, h5, h6, ld_box (tab.sub _ _ hb1), SLists.len he, Int.lt_irrefl]
    rw [partR_done] at tab
    exact finO_self ⟨hs1.trans' tab.sub, N, us, rfl, tab.down hs1⟩
end Go.AM
