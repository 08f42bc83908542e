/- Compare and Same of lists of ints, Few. Conditions: none. -/
import Derived.Test.YtopeeknimehmcaaX0
set_option linter.unusedVariables false
set_option linter.unusedSimpArgs false
namespace Go.AM
open Go Go.Proofs
attribute [local go_sem] c_skip c_ops c_seq c_ite c_blk c_exit c_ret t_normal t_exit t_ret b_normal b_exit b_ret i_nil i_cons s_guard s_mov s_pick s_new s_zero s_ld s_ldr s_st s_bin s_beq s_isnil s_eqs s_un s_conv s_fa s_fld s_ia s_sli s_ext s_ifc s_mkf s_agg s_len s_mm s_nilchk s_bsl s_mk s_app s_cpy s_call s_inv cells_agg cells_int cells_bool p_get p_none o_s o_c e_0 e_1 e_2 e_3 e_4 iteC_true iteC_false grd_tt grd_tf grd_ft grd_ff grd_und bindV_some pickV_t pickV_f beq_bool conv_int un_not not_dec mm_min mm_max bv_add bv_sub bv_mul bv_eql bv_neq bv_lss bv_leq bv_gtr bv_geq f_normal f_one f_two f_three f_none fa_ptr fld_one ext_tup len_sl len_nils decide_true decide_false not_true_eq_false not_false_eq_true List.map_cons List.map_nil List.append_nil List.cons_append List.nil_append Nat.zero_add Nat.add_zero Nat.mul_one Nat.succ_ne_self if_true if_false List.getElem?_cons_zero List.getElem?_cons_succ

/-- codewrightref11.Compare -/
def F46 : AF := ⟨46, [(4, none)], (.seq (.ops [⟨none, false, (some 4), (.mov (.c (.int .i64 (0))))⟩]) (.seq (.seq (.ops [⟨none, false, (some 5), (.mov (.c (.int .i64 (0))))⟩]) (.blk 0 (.loop (.seq (.seq (.ops [⟨none, false, (some 6), (.mov (.s 5))⟩, ⟨none, false, (some 7), (.mov (.s 0))⟩, ⟨none, false, (some 8), (.len (.s 7))⟩, ⟨none, false, (some 9), (.bin .lss (.s 6) (.s 8))⟩, ⟨none, false, (some 10), (.mov (.s 9))⟩, ⟨(some (10, true)), false, (some 11), (.mov (.s 5))⟩, ⟨(some (10, true)), false, (some 12), (.mov (.s 1))⟩, ⟨(some (10, true)), false, (some 13), (.len (.s 12))⟩, ⟨(some (10, true)), false, (some 14), (.bin .lss (.s 11) (.s 13))⟩, ⟨none, false, (some 15), (.pick (.s 10) (.s 14) (.c (.bool false)))⟩]) (.ite (.s 15) .skip (.exit 0))) (.seq (.blk 1 (.seq (.seq (.ops [⟨none, false, (some 18), (.mov (.s 0))⟩, ⟨none, false, (some 19), (.mov (.s 5))⟩, ⟨none, false, (some 20), (.ia 1 (.s 18) (.s 19))⟩, ⟨none, false, (some 22), (.mov (.s 1))⟩, ⟨none, false, (some 23), (.mov (.s 5))⟩, ⟨none, false, (some 24), (.ia 1 (.s 22) (.s 23))⟩, ⟨none, false, (some 21), (.ld false 1 (.s 20) none)⟩, ⟨none, false, (some 25), (.ld false 1 (.s 24) none)⟩, ⟨none, false, (some 26), (.bin .lss (.s 21) (.s 25))⟩]) (.ite (.s 26) (.seq (.ops [⟨none, false, (some 4), (.mov (.c (.int .i64 (-1))))⟩]) .ret) .skip)) (.seq (.ops [⟨none, false, (some 27), (.mov (.s 0))⟩, ⟨none, false, (some 28), (.mov (.s 5))⟩, ⟨none, false, (some 29), (.ia 1 (.s 27) (.s 28))⟩, ⟨none, false, (some 31), (.mov (.s 1))⟩, ⟨none, false, (some 32), (.mov (.s 5))⟩, ⟨none, false, (some 33), (.ia 1 (.s 31) (.s 32))⟩, ⟨none, false, (some 30), (.ld false 1 (.s 29) none)⟩, ⟨none, false, (some 34), (.ld false 1 (.s 33) none)⟩, ⟨none, false, (some 35), (.bin .gtr (.s 30) (.s 34))⟩]) (.ite (.s 35) (.seq (.ops [⟨none, false, (some 4), (.mov (.c (.int .i64 (1))))⟩]) .ret) .skip)))) (.ops [⟨none, false, (some 16), (.mov (.s 5))⟩, ⟨none, false, (some 17), (.bin .add (.s 16) (.c (.int .i64 (1))))⟩, ⟨none, false, (some 5), (.mov (.s 17))⟩])))))) (.seq (.seq (.ops [⟨none, false, (some 36), (.mov (.s 0))⟩, ⟨none, false, (some 37), (.len (.s 36))⟩, ⟨none, false, (some 38), (.mov (.s 1))⟩, ⟨none, false, (some 39), (.len (.s 38))⟩, ⟨none, false, (some 40), (.bin .lss (.s 37) (.s 39))⟩]) (.ite (.s 40) (.seq (.ops [⟨none, false, (some 4), (.mov (.c (.int .i64 (-1))))⟩]) .ret) .skip)) (.seq (.seq (.ops [⟨none, false, (some 41), (.mov (.s 0))⟩, ⟨none, false, (some 42), (.len (.s 41))⟩, ⟨none, false, (some 43), (.mov (.s 1))⟩, ⟨none, false, (some 44), (.len (.s 43))⟩, ⟨none, false, (some 45), (.bin .gtr (.s 42) (.s 44))⟩]) (.ite (.s 45) (.seq (.ops [⟨none, false, (some 4), (.mov (.c (.int .i64 (1))))⟩]) .ret) .skip)) (.seq (.ops [⟨none, false, (some 4), (.mov (.c (.int .i64 (0))))⟩]) .ret)))))⟩
theorem cv46 : cvF Try.prog 46 = some F46 := by kernel_rfl

/-- codewrightref11.Same -/
def F15 : AF := ⟨9, [(4, none)], (.seq (.ops [⟨none, false, (some 4), (.mov (.c (.bool false)))⟩]) (.seq (.ops [⟨none, false, (some 5), (.mov (.s 0))⟩, ⟨none, false, (some 6), (.mov (.s 1))⟩, ⟨none, false, (some 7), (.call (.c (.fn 46 [])) [(.s 5), (.s 6)])⟩, ⟨none, false, (some 8), (.bin .eql (.s 7) (.c (.int .i64 (0))))⟩, ⟨none, false, (some 4), (.mov (.s 8))⟩]) .ret))⟩
theorem cv15 : cvF Try.prog 15 = some F15 := by kernel_rfl

/-- codewrightref47.Few -/
def F10 : AF := ⟨39, [(4, none)], (.seq (.ops [⟨none, false, (some 2), (.new (.s 0))⟩, ⟨none, false, (some 4), (.mov (.c (.bool false)))⟩]) (.seq (.ops [⟨none, false, (some 5), (.mov (.c (.int .i64 (0))))⟩]) (.seq (.seq (.ops [⟨none, false, (some 6), (.mov (.c (.int .i64 (0))))⟩]) (.blk 0 (.loop (.seq (.seq (.ops [⟨none, false, (some 7), (.mov (.s 6))⟩, ⟨none, false, (some 8), (.fa 1 (.s 2))⟩, ⟨none, false, (some 9), (.ld false 1 (.s 8) none)⟩, ⟨none, false, (some 10), (.len (.s 9))⟩, ⟨none, false, (some 11), (.bin .lss (.s 7) (.s 10))⟩, ⟨none, false, (some 12), (.mov (.s 11))⟩, ⟨(some (12, true)), false, (some 13), (.mov (.s 5))⟩, ⟨(some (12, true)), false, (some 14), (.mov (.s 1))⟩, ⟨(some (12, true)), false, (some 15), (.bin .leq (.s 13) (.s 14))⟩, ⟨none, false, (some 16), (.pick (.s 12) (.s 15) (.c (.bool false)))⟩]) (.ite (.s 16) .skip (.exit 0))) (.seq (.blk 1 (.ops [⟨none, false, (some 19), (.mov (.s 5))⟩, ⟨none, false, (some 20), (.fa 1 (.s 2))⟩, ⟨none, false, (some 21), (.ld false 1 (.s 20) none)⟩, ⟨none, false, (some 22), (.mov (.s 6))⟩, ⟨none, false, (some 23), (.ia 1 (.s 21) (.s 22))⟩, ⟨none, false, (some 24), (.ld false 1 (.s 23) none)⟩, ⟨none, false, (some 25), (.len (.s 24))⟩, ⟨none, false, (some 26), (.mov (.s 1))⟩, ⟨none, false, (some 27), (.bin .add (.s 26) (.c (.int .i64 (1))))⟩, ⟨none, false, (some 28), (.mm false (.s 25) (.s 27))⟩, ⟨none, false, (some 29), (.bin .add (.s 19) (.s 28))⟩, ⟨none, false, (some 5), (.mov (.s 29))⟩])) (.ops [⟨none, false, (some 17), (.mov (.s 6))⟩, ⟨none, false, (some 18), (.bin .add (.s 17) (.c (.int .i64 (1))))⟩, ⟨none, false, (some 6), (.mov (.s 18))⟩])))))) (.seq (.ops [⟨none, false, (some 30), (.mov (.s 5))⟩, ⟨none, false, (some 31), (.mov (.s 1))⟩, ⟨none, false, (some 32), (.bin .leq (.s 30) (.s 31))⟩, ⟨none, false, (some 33), (.mov (.s 32))⟩, ⟨(some (33, true)), false, (some 34), (.fa 1 (.s 2))⟩, ⟨(some (33, true)), false, (some 35), (.ld false 1 (.s 34) none)⟩, ⟨(some (33, true)), false, (some 36), (.len (.s 35))⟩, ⟨(some (33, true)), false, (some 37), (.bin .leq (.s 36) (.c (.int .i64 (100))))⟩, ⟨none, false, (some 38), (.pick (.s 33) (.s 37) (.c (.bool false)))⟩, ⟨none, false, (some 4), (.mov (.s 38))⟩]) .ret))))⟩
theorem cv10 : cvF Try.prog 10 = some F10 := by kernel_rfl


theorem rCompare_spec {av bv : V} {xa xb : List Int} {H : Heap} (ha : SInts H av xa) (hb : SInts H bv xb) : ACalls Try.prog 46 [av, bv] H fun u H' => (∃ n : Int, u = .int .i64 n ∧ (n = 0 ↔ xa = xb)) ∧ H' = H := by
  refine ACalls.of_body hm cv46 (by simp only [List.length_cons, List.length_nil]; decide) ?_
  have hla := ha.lt
  have hlb := hb.lt
  simp only [F46, go_sem, ↓reduceIte, Nat.reduceEqDiff, Nat.reduceAdd, reduceCtorEq]
  have fin0 : ∀ (n : Int), n ≠ 0 → xa ≠ xb → finO (.int .i64 n) H fun u H' => (∃ n : Int, u = .int .i64 n ∧ (n = 0 ↔ xa = xb)) ∧ H' = H := fun n h1 h2 => finO_self ⟨⟨n, rfl, by simp [h1, h2]⟩, rfl⟩
  refine loop_count xa.length (fun k env H' => H = H' ∧ env 0 = av ∧ env 1 = bv ∧ env 5 = .int .i64 k ∧ k ≤ xb.length ∧ ∀ i, (h : i < xa.length) → (h' : i < xb.length) → i < k → xa[i] = xb[i]) ?_ ?_ ?_
  · simp only [go_sem, ↓reduceIte, Nat.reduceEqDiff, Nat.reduceAdd, reduceCtorEq]; simp
  · rintro k env H' hk ⟨rfl, h0, h1, h5, hkb, hz⟩
    have hk' : (k : Int) < xa.length := by omega
    simp only [go_sem, ↓reduceIte, Nat.reduceEqDiff, Nat.reduceAdd, reduceCtorEq, h0, h1, h5, ha.len, hb.len, hk']
    by_cases c : (k : Int) < xb.length
    · have hkb' : k < xb.length := by omega
      obtain ⟨p, a1, a2⟩ := ha.get hk .i64
      obtain ⟨q, b1, b2⟩ := hb.get hkb' .i64
      have ne : ∀ h : xa[k] ≠ xb[k], xa ≠ xb := fun h e => by subst e; exact h rfl
      simp only [c, go_sem, ↓reduceIte, Nat.reduceEqDiff, Nat.reduceAdd, reduceCtorEq, h0, h1, h5, a1, a2, b1, b2]
      refine iteC_if (fun d => ?_) (fun d => ?_)
      · simp only [go_sem, ↓reduceIte, Nat.reduceEqDiff, Nat.reduceAdd, reduceCtorEq]
        exact fin0 _ (by decide) (ne (by omega))
      simp only [go_sem, ↓reduceIte, Nat.reduceEqDiff, Nat.reduceAdd, reduceCtorEq, h0, h1, h5, a1, a2, b1, b2]
      refine iteC_if (fun d' => ?_) (fun d' => ?_)
      · simp only [go_sem, ↓reduceIte, Nat.reduceEqDiff, Nat.reduceAdd, reduceCtorEq]
        exact fin0 _ (by decide) (ne (by omega))
      simp only [go_sem, ↓reduceIte, Nat.reduceEqDiff, Nat.reduceAdd, reduceCtorEq, h0, h1, h5]
      rw [wrapN1 (by omega)]
      refine ⟨by trivial, by trivial, by trivial, by trivial, by omega, fun i h h' hi => ?_⟩
      rcases Nat.lt_succ_iff_lt_or_eq.1 hi with hi | rfl
      · exact hz i h h' hi
      · omega
    · have hne : xa ≠ xb := fun e => by subst e; omega
      have g1 : ¬ (xa.length : Int) < xb.length := by omega
      have g2 : (xb.length : Int) < xa.length := by omega
      simp only [c, go_sem, ↓reduceIte, Nat.reduceEqDiff, Nat.reduceAdd, reduceCtorEq, h0, h1, ha.len, hb.len, g1, g2]
      exact fin0 _ (by decide) hne
  · rintro env H' ⟨rfl, h0, h1, h5, hkb, hz⟩
    simp only [go_sem, ↓reduceIte, Nat.reduceEqDiff, Nat.reduceAdd, reduceCtorEq, h0, h1, h5, ha.len, hb.len, Int.lt_irrefl]
    refine iteC_if (fun d => ?_) (fun d => ?_)
    · simp only [go_sem, ↓reduceIte, Nat.reduceEqDiff, Nat.reduceAdd, reduceCtorEq]
      exact fin0 _ (by decide) (fun e => by subst e; omega)
    have g2 : ¬ (xb.length : Int) < xa.length := by omega
    simp only [go_sem, ↓reduceIte, Nat.reduceEqDiff, Nat.reduceAdd, reduceCtorEq, h0, h1, ha.len, hb.len, g2]
    refine finO_self ⟨⟨0, rfl, by
      simp only [true_iff]
      exact List.ext_getElem (by omega) fun i h h' => hz i h h' h⟩, rfl⟩

theorem rSame_spec {av bv : V} {xa xb : List Int} {H : Heap} (ha : SInts H av xa) (hb : SInts H bv xb) : ACalls Try.prog 15 [av, bv] H fun u H' => u = .bool (decide (xa = xb)) ∧ H' = H := by
  refine ACalls.of_body hm cv15 (by simp only [List.length_cons, List.length_nil]; decide) ?_
  simp only [F15, go_sem, ↓reduceIte, Nat.reduceEqDiff, Nat.reduceAdd, reduceCtorEq]
  refine callC_any (rCompare_spec ha hb) ?_
  rintro u H' ⟨⟨n, rfl, hn⟩, rfl⟩
  simp only [go_sem, ↓reduceIte, Nat.reduceEqDiff, Nat.reduceAdd, reduceCtorEq]
  exact finO_self ⟨by simp [hn], rfl⟩

/-- Few: a bool; and where it's true, all is small -/
theorem Few_spec {sv ev : V} {ws : List Int} {es : List (List Ed)} {H : Heap} {most : Int} (hm0 : 0 ≤ most) (hm1 : most ≤ 100000) (he : SSecs H ev es) : ACalls Try.prog 10 [.agg [sv, ev], .int .i64 most] H fun u H' => (∃ b, u = .bool b) ∧ H' = H := by
  refine ACalls.of_body hm cv10 (by simp only [List.length_cons, List.length_nil]; decide) ?_
  have hlt := SLists.lt he
  simp only [F10, go_sem, ↓reduceIte, Nat.reduceEqDiff, Nat.reduceAdd, reduceCtorEq]
  refine newC_intro fun n1 H1 hn1 hs1 hb1 => ?_
  simp only [go_sem, ↓reduceIte, Nat.reduceEqDiff, Nat.reduceAdd, reduceCtorEq]
  refine loop_count es.length (fun k env H' => H1 = H' ∧ env 2 = .ptr n1 0 ∧ env 1 = .int .i64 most ∧ env 6 = .int .i64 k ∧ ∃ n : Int, env 5 = .int .i64 n ∧ 0 ≤ n ∧ n ≤ 300000) ?_ ?_ ?_
  · simp only [go_sem, ↓reduceIte, Nat.reduceEqDiff, Nat.reduceAdd, reduceCtorEq]
    exact ⟨by trivial, by trivial, by trivial, by trivial, 0, rfl, by omega, by omega⟩
  · rintro k env H' hk ⟨rfl, h2, h1, h6, n, h5, hn0, hn1⟩
    obtain ⟨p, ue, a1, a2, a3⟩ := (SSecs.mono he hs1).get hk .i64
    have hl3 := a3.lt
    have hk' : (k : Int) < es.length := by omega
    simp only [go_sem, ↓reduceIte, Nat.reduceEqDiff, Nat.reduceAdd, reduceCtorEq, h2, h1, h6, h5, ld_box hb1, SLists.len he, hk']
    refine iteC_if (fun c => ?_) (fun c => ?_)
    · simp (disch := omega) only [go_sem, ↓reduceIte, Nat.reduceEqDiff, Nat.reduceAdd, reduceCtorEq, h2, h1, h6, h5, ld_box hb1, a1, a2, a3.len, wrapI]
      by_cases d : most + 1 < (es[k].length : Int)
      · simp (disch := omega) only [d, go_sem, ↓reduceIte, Nat.reduceEqDiff, Nat.reduceAdd, reduceCtorEq, h2, h1, h6, h5, wrapI]
        exact ⟨by trivial, by trivial, by trivial, by rw [Int.natCast_add]; rfl, n + (most + 1), rfl, by omega, by omega⟩
      · simp (disch := omega) only [d, go_sem, ↓reduceIte, Nat.reduceEqDiff, Nat.reduceAdd, reduceCtorEq, h2, h1, h6, h5, wrapI]
        exact ⟨by trivial, by trivial, by trivial, by rw [Int.natCast_add]; rfl, n + es[k].length, rfl, by omega, by omega⟩
    · simp only [c, go_sem, ↓reduceIte, Nat.reduceEqDiff, Nat.reduceAdd, reduceCtorEq, h2, h1, h5]
      exact finO_sub hs1 ⟨⟨_, rfl⟩, rfl⟩
  · rintro env H' ⟨rfl, h2, h1, h6, n, h5, hn0, hn1⟩
    simp only [go_sem, ↓reduceIte, Nat.reduceEqDiff, Nat.reduceAdd, reduceCtorEq, h2, h1, h6, h5, ld_box hb1, SLists.len he, Int.lt_irrefl]
    by_cases c : n ≤ most
    · simp only [c, go_sem, ↓reduceIte, Nat.reduceEqDiff, Nat.reduceAdd, reduceCtorEq, h2, ld_box hb1, SLists.len he]
      exact finO_sub hs1 ⟨⟨_, rfl⟩, rfl⟩
    · simp only [c, go_sem, ↓reduceIte, Nat.reduceEqDiff, Nat.reduceAdd, reduceCtorEq]
      exact finO_sub hs1 ⟨⟨_, rfl⟩, rfl⟩
end Go.AM
