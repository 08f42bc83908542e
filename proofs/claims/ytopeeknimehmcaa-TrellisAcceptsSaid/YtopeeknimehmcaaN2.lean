/- nat.plus. Conditions: none. -/
import Derived.Test.YtopeeknimehmcaaN1
import Derived.Test.YtopeeknimehmcaaP3
set_option linter.unusedVariables false
set_option linter.unusedSimpArgs false
namespace Go.AM
open Go Go.Proofs
attribute [local go_sem] c_skip c_ops c_seq c_ite c_blk c_exit c_ret t_normal t_exit t_ret b_normal b_exit b_ret i_nil i_cons s_guard s_mov s_pick s_new s_zero s_ld s_ldr s_st s_bin s_beq s_isnil s_eqs s_un s_conv s_fa s_fld s_ia s_sli s_ext s_ifc s_mkf s_agg s_len s_mm s_nilchk s_bsl s_mk s_app s_cpy s_call s_inv cells_agg cells_int cells_bool p_get p_none o_s o_c e_0 e_1 e_2 e_3 e_4 iteC_true iteC_false grd_tt grd_tf grd_ft grd_ff grd_und bindV_some pickV_t pickV_f beq_bool conv_int un_not not_dec mm_min mm_max bv_add bv_sub bv_mul bv_eql bv_neq bv_lss bv_leq bv_gtr bv_geq f_normal f_one f_two f_three f_none fa_ptr fld_one ext_tup len_sl len_nils decide_true decide_false not_true_eq_false not_false_eq_true List.map_cons List.map_nil List.append_nil List.cons_append List.nil_append Nat.zero_add Nat.add_zero Nat.mul_one Nat.succ_ne_self if_true if_false List.getElem?_cons_zero List.getElem?_cons_succ

/-- nat.plus -/
def F159 : AF := ⟨59, [(4, none)], (.seq (.ops [⟨none, false, (some 4), (.mov (.c .nils))⟩]) (.seq (.seq (.ops [⟨none, false, (some 9), (.mov (.s 0))⟩, ⟨none, false, (some 10), (.len (.s 9))⟩, ⟨none, false, (some 11), (.mov (.s 1))⟩, ⟨none, false, (some 12), (.len (.s 11))⟩, ⟨none, false, (some 13), (.bin .lss (.s 10) (.s 12))⟩]) (.ite (.s 13) (.ops [⟨none, false, (some 14), (.mov (.s 1))⟩, ⟨none, false, (some 15), (.mov (.s 0))⟩, ⟨none, false, (some 0), (.mov (.s 14))⟩, ⟨none, false, (some 1), (.mov (.s 15))⟩]) .skip)) (.seq (.ops [⟨none, false, (some 16), (.mov (.s 0))⟩, ⟨none, false, (some 17), (.len (.s 16))⟩, ⟨none, false, (some 18), (.bin .add (.s 17) (.c (.int .i64 (1))))⟩, ⟨none, false, (some 19), (.mk 1 4 [(.int .u32 (0))] (.s 18) (.s 18))⟩, ⟨none, false, (some 5), (.mov (.s 19))⟩]) (.seq (.ops [⟨none, false, (some 6), (.mov (.c (.int .u64 (0))))⟩]) (.seq (.seq (.ops [⟨none, false, (some 20), (.mov (.s 0))⟩, ⟨none, false, (some 21), (.len (.s 20))⟩, ⟨none, false, (some 22), (.mov (.c (.int .i64 (0))))⟩]) (.blk 0 (.loop (.seq (.ops [⟨none, false, (some 23), (.bin .lss (.s 22) (.s 21))⟩]) (.seq (.ite (.s 23) .skip (.exit 0)) (.seq (.blk 1 (.seq (.ops [⟨none, false, (some 24), (.mov (.s 22))⟩, ⟨none, false, (some 7), (.mov (.s 24))⟩]) (.seq (.ops [⟨none, false, (some 25), (.mov (.s 0))⟩, ⟨none, false, (some 26), (.mov (.s 7))⟩, ⟨none, false, (some 27), (.ia 1 (.s 25) (.s 26))⟩, ⟨none, false, (some 28), (.ld false 1 (.s 27) none)⟩, ⟨none, false, (some 29), (.conv .u64 (.s 28))⟩, ⟨none, false, (some 30), (.mov (.s 6))⟩, ⟨none, false, (some 31), (.bin .add (.s 29) (.s 30))⟩, ⟨none, false, (some 8), (.mov (.s 31))⟩]) (.seq (.seq (.ops [⟨none, false, (some 32), (.mov (.s 7))⟩, ⟨none, false, (some 33), (.mov (.s 1))⟩, ⟨none, false, (some 34), (.len (.s 33))⟩, ⟨none, false, (some 35), (.bin .lss (.s 32) (.s 34))⟩]) (.ite (.s 35) (.ops [⟨none, false, (some 36), (.mov (.s 8))⟩, ⟨none, false, (some 37), (.mov (.s 1))⟩, ⟨none, false, (some 38), (.mov (.s 7))⟩, ⟨none, false, (some 39), (.ia 1 (.s 37) (.s 38))⟩, ⟨none, false, (some 40), (.ld false 1 (.s 39) none)⟩, ⟨none, false, (some 41), (.conv .u64 (.s 40))⟩, ⟨none, false, (some 42), (.bin .add (.s 36) (.s 41))⟩, ⟨none, false, (some 8), (.mov (.s 42))⟩]) .skip)) (.seq (.ops [⟨none, false, (some 43), (.mov (.s 5))⟩, ⟨none, false, (some 44), (.mov (.s 7))⟩, ⟨none, false, (some 45), (.mov (.s 8))⟩, ⟨none, false, (some 46), (.conv .u32 (.s 45))⟩, ⟨none, false, (some 47), (.ia 1 (.s 43) (.s 44))⟩, ⟨none, false, none, (.st 1 (.s 47) (.s 46) [])⟩]) (.ops [⟨none, false, (some 48), (.mov (.s 8))⟩, ⟨none, false, (some 49), (.bin .shr (.s 48) (.c (.int .u64 (32))))⟩, ⟨none, false, (some 6), (.mov (.s 49))⟩])))))) (.ops [⟨none, false, (some 50), (.bin .add (.s 22) (.c (.int .i64 (1))))⟩, ⟨none, false, (some 22), (.mov (.s 50))⟩]))))))) (.seq (.ops [⟨none, false, (some 51), (.mov (.s 5))⟩, ⟨none, false, (some 52), (.mov (.s 0))⟩, ⟨none, false, (some 53), (.len (.s 52))⟩, ⟨none, false, (some 54), (.mov (.s 6))⟩, ⟨none, false, (some 55), (.conv .u32 (.s 54))⟩, ⟨none, false, (some 56), (.ia 1 (.s 51) (.s 53))⟩, ⟨none, false, none, (.st 1 (.s 56) (.s 55) [])⟩]) (.seq (.ops [⟨none, false, (some 57), (.mov (.s 5))⟩, ⟨none, false, (some 58), (.call (.c (.fn 95 [])) [(.s 57)])⟩, ⟨none, false, (some 4), (.mov (.s 58))⟩]) .ret)))))))⟩
theorem cv159 : cvF Try.prog 159 = some F159 := by kernel_rfl


theorem iteC_join {P : Program} {c : Prop} [Decidable c] {A B : IC} {X : Env → Heap → Prop} {Q : Qt} {env : Env} {H : Heap} (Mid : Env → Heap → Prop) (h1 : c → cwp P A (thenE Mid Q) env H) (h2 : ¬ c → cwp P B (thenE Mid Q) env H) (k : ∀ env' H', Mid env' H' → X env' H') : iteC (.bool (decide c)) P A B (thenE X Q) env H := by
  refine iteC_if (fun h => cwp_mono A ?_ (h1 h)) (fun h => cwp_mono B ?_ (h2 h))
  all_goals
    intro e env' H' hh
    cases e
    · exact k _ _ hh
    all_goals exact hh

theorem plus_spec {av bv : V} {a b : Int} {L : Nat} {H : Heap} (hL : L ≤ 1099511627776) (ha : SNat H av a L) (hb : SNat H bv b L) : ACalls Try.prog 159 [av, bv] H fun u H' => Heap.sub H H' ∧ CNat H' u (a + b) (L + 1) := by
  obtain ⟨xs0, hx0, lx0, rfl, hxL0⟩ := ha
  obtain ⟨ys0, hy0, ly0, rfl, hyL0⟩ := hb
  refine ACalls.of_body hm cv159 (by simp only [List.length_cons, List.length_nil]; decide) ?_
  simp only [F159, go_sem, ↓reduceIte, Nat.reduceEqDiff, Nat.reduceAdd, reduceCtorEq, hx0.len, hy0.len]
  refine iteC_join (fun env' H' => H = H' ∧ ∃ av bv xs ys, env' 0 = av ∧ env' 1 = bv ∧ SLimbs H av xs ∧ SLimbs H bv ys ∧ Limbs xs ∧ Limbs ys ∧ xs.length ≤ L ∧ ys.length ≤ xs.length ∧ nval xs + nval ys = nval xs0 + nval ys0) (fun h => ?_) (fun h => ?_) ?_
  · simp only [go_sem, ↓reduceIte, Nat.reduceEqDiff, Nat.reduceAdd, reduceCtorEq]
    exact ⟨by trivial, bv, av, ys0, xs0, rfl, rfl, hy0, hx0, ly0, lx0, hyL0, by omega, by omega⟩
  · simp only [go_sem, ↓reduceIte, Nat.reduceEqDiff, Nat.reduceAdd, reduceCtorEq]
    exact ⟨by trivial, av, bv, xs0, ys0, rfl, rfl, hx0, hy0, lx0, ly0, hxL0, by omega, rfl⟩
  rintro env H' ⟨rfl, av, bv, xs, ys, h0, h1, hx, hy, lx, ly, hxL, hyx, hsum⟩
  rw [← hsum]
  clear hsum hx0 hy0 lx0 ly0 hxL0 hyL0
  simp only [go_sem, ↓reduceIte, Nat.reduceEqDiff, Nat.reduceAdd, reduceCtorEq, h0, h1, hx.len]
  rw [wrapN1 (by omega)]
  refine mkC_intro (Nat.le_refl _) (by omega) (by omega) fun N H1 hN hs1 hbN => ?_
  rw [flat_rep] at hbN
  simp only [go_sem, ↓reduceIte, Nat.reduceEqDiff, Nat.reduceAdd, reduceCtorEq, h0, h1, hx.len, beq_self_eq_true]
  refine range_loop xs.length (fun k env H' => env 0 = av ∧ env 1 = bv ∧ env 5 = .sl N 0 (xs.length + 1) true ∧ env 21 = .int .i64 xs.length ∧ env 22 = .int .i64 k ∧ Heap.sub H H' ∧
      ∃ (c : Int) (os : List Int), env 6 = .int .u64 c ∧ 0 ≤ c ∧ c ≤ 1 ∧ H' N = some ⟨true, 1, u32s os⟩ ∧ os.length = xs.length + 1 ∧ Limbs os ∧ nval (os.take k) + c * 4294967296 ^ k = nval (xs.take k) + nval (ys.take k)) (by omega) (by decide) (by decide) ?_ ?_ ?_ ?_
  · rintro k env H' ⟨_, _, _, h7, h8, _⟩; exact ⟨h8, h7⟩
  · simp only [go_sem, ↓reduceIte, Nat.reduceEqDiff, Nat.reduceAdd, reduceCtorEq, h0, h1]
    exact ⟨by trivial, by trivial, by trivial, by trivial, by trivial, hs1, 0, List.replicate (xs.length + 1) 0, rfl, by decide, by decide, by simpa [u32s] using hbN, by simp, fun x hx => by rw [(List.mem_replicate.1 hx).2]; decide, by simp [nval]⟩
  · rintro k env H2 hk ⟨h0, h1, h5, h21, h22, hs2, c, os, h6, hc0, hc1, hbo, hol, lo, hinv⟩
    obtain ⟨p, a1, a2⟩ := (hx.mono hs2).get hk .i64
    have hxk := lx _ (List.getElem_mem hk)
    have hw1 : IntKind.u64.wrap xs[k] = xs[k] := by rw [wrap64]; omega
    have hw2 : IntKind.u64.wrap (xs[k] + c) = xs[k] + c := by rw [wrap64]; omega
    simp only [go_sem, ↓reduceIte, Nat.reduceEqDiff, Nat.reduceAdd, reduceCtorEq, h0, h1, h5, h6, h21, h22, a1, a2, hw1, hw2, hy.len]
    -- the sum of this place
    refine iteC_join (fun env' H' => H2 = H' ∧ env' 0 = av ∧ env' 1 = bv ∧ env' 5 = .sl N 0 (xs.length + 1) true ∧ env' 21 = .int .i64 xs.length ∧ env' 22 = .int .i64 k ∧ env' 7 = .int .i64 k ∧ ∃ s : Int, env' 8 = .int .u64 s ∧ 0 ≤ s ∧ s < 8589934592 ∧ nval (xs.take (k+1)) + nval (ys.take (k+1)) = nval (xs.take k) + nval (ys.take k) + 4294967296 ^ k * (s - c)) (fun h => ?_) (fun h => ?_) ?_
    · have hky : k < ys.length := by omega
      obtain ⟨q, b1, b2⟩ := (hy.mono hs2).get hky .i64
      have hyk := ly _ (List.getElem_mem hky)
      have hw3 : IntKind.u64.wrap ys[k] = ys[k] := by rw [wrap64]; omega
      have hw4 : IntKind.u64.wrap (xs[k] + c + ys[k]) = xs[k] + c + ys[k] := by rw [wrap64]; omega
      simp only [go_sem, ↓reduceIte, Nat.reduceEqDiff, Nat.reduceAdd, reduceCtorEq, h0, h1, h5, h6, h21, h22, b1, b2, hw3, hw4]
      refine ⟨by trivial, by trivial, by trivial, by trivial, by trivial, by trivial, by trivial, _, rfl, by omega, by omega, ?_⟩
      rw [nval_take_succ hk, nval_take_succ hky, show xs[k] + c + ys[k] - c = xs[k] + ys[k] by omega, Int.mul_add]
      omega
    · simp only [go_sem, ↓reduceIte, Nat.reduceEqDiff, Nat.reduceAdd, reduceCtorEq, h0, h1, h5, h6, h21, h22]
      refine ⟨by trivial, by trivial, by trivial, by trivial, by trivial, by trivial, by trivial, _, rfl, by omega, by omega, ?_⟩
      rw [nval_take_succ hk, show xs[k] + c - c = xs[k] by omega, List.take_of_length_le (by omega : ys.length ≤ k), List.take_of_length_le (by omega : ys.length ≤ k + 1)]
      omega
    rintro env' H' ⟨rfl, h0, h1, h5, h21, h22, h7, s, h8, hs0, hs9, hsum⟩
    have hw5 : IntKind.u32.wrap s = s % 4294967296 := wrap32 s
    simp only [go_sem, ↓reduceIte, Nat.reduceEqDiff, Nat.reduceAdd, reduceCtorEq, h0, h1, h5, h21, h22, h7, h8, hw5, ia_nat (show k < xs.length + 1 by omega)]
    refine stC_intro hbo trivial rfl (by decide) (by show k + 1 ≤ _; rw [u32s_len]; omega) fun H3 hb3 hf3 hs3 => ?_
    rw [cells_int, splice_one _ _ _ (by rw [u32s_len]; omega)] at hb3
    simp only [go_sem, ↓reduceIte, Nat.reduceEqDiff, Nat.reduceAdd, reduceCtorEq, h0, h1, h5, h21, h22, h7, h8, bv_shr32]
    refine ⟨by trivial, by trivial, by trivial, by trivial, by trivial, by trivial, hs3 H hs2 hN, s / 4294967296, os.set k (s % 4294967296), rfl, by omega, by omega, ?_, by simpa using hol, ?_, ?_⟩
    · rw [hb3]; simp [u32s, List.map_set]
    · intro x hx'
      rcases List.mem_or_eq_of_mem_set hx' with h | rfl
      · exact lo x h
      · omega
    · rw [nval_take_succ (by rw [List.length_set]; omega), List.getElem_set_self, List.take_set_of_le (Nat.le_refl k), Int.pow_succ, hsum]
      have := carry_step _ _ _ _ _ s hinv
      rw [Int.mul_comm (4294967296 ^ k) 4294967296]
      exact this
  · rintro env H2 ⟨h0, h1, h5, h21, h22, hs2, c, os, h6, hc0, hc1, hbo, hol, lo, hinv⟩
    have hw5 : IntKind.u32.wrap c = c := by rw [wrap32]; omega
    simp only [go_sem, ↓reduceIte, Nat.reduceEqDiff, Nat.reduceAdd, reduceCtorEq, h0, h1, h5, h6, hx.len, hw5, ia_nat (show xs.length < xs.length + 1 by omega)]
    refine stC_intro hbo trivial rfl (by decide) (by show xs.length + 1 ≤ _; rw [u32s_len]; omega) fun H3 hb3 hf3 hs3 => ?_
    rw [cells_int, splice_one _ _ _ (by rw [u32s_len]; omega)] at hb3
    have hs03 := hs3 H hs2 hN
    have hlen : (os.set xs.length c).length = xs.length + 1 := by simpa using hol
    have hn : SNat H3 (.sl N 0 (xs.length + 1) true) (nval xs + nval ys) (L+1) := by
      refine ⟨os.set xs.length c, ?_, fun x hx' => ?_, ?_, by omega⟩
      · rw [show (u32s os).set xs.length (.int .u32 c) = u32s (os.set xs.length c) by simp [u32s, List.map_set]] at hb3
        unfold SLimbs
        rw [hlen]
        exact ⟨by rw [u32s_len]; omega, by omega, .inr ⟨N, 0, true, _, rfl, hb3, rfl, .inr (by rw [u32s_len]; omega), fun j hj => by simp⟩⟩
      · rcases List.mem_or_eq_of_mem_set hx' with h | rfl
        · exact lo x h
        · omega
      · have e : os.set xs.length c = (os.set xs.length c).take (xs.length + 1) := by rw [List.take_of_length_le (by omega)]
        rw [e, nval_take_succ (by omega), List.getElem_set_self, List.take_set_of_le (Nat.le_refl _)]
        rw [List.take_length, List.take_of_length_le hyx] at hinv
        rw [Int.mul_comm]
        exact hinv
    simp only [go_sem, ↓reduceIte, Nat.reduceEqDiff, Nat.reduceAdd, reduceCtorEq, h5]
    refine callC_any (short_spec hn) ?_
    rintro u H' ⟨hc, rfl⟩
    simp only [go_sem, ↓reduceIte, Nat.reduceEqDiff, Nat.reduceAdd, reduceCtorEq]
    exact finO_self ⟨hs03, hc⟩
end Go.AM
