/- The law ViterbiEnumerates. Conditions: none. -/
import Derived.Test.YtopeeknimehmcaaE6
import Derived.Test.YtopeeknimehmcaaX1
import Derived.Test.YtopeeknimehmcaaX2
import Derived.Test.YtopeeknimehmcaaP5
import Derived.Test.YtopeeknimehmcaaG5
set_option linter.unusedVariables false
set_option linter.unusedSimpArgs false
namespace Go.AM
open Go Go.Proofs
attribute [local go_sem] c_skip c_ops c_seq c_ite c_blk c_exit c_ret t_normal t_exit t_ret b_normal b_exit b_ret i_nil i_cons s_guard s_mov s_pick s_new s_zero s_ld s_ldr s_st s_bin s_beq s_isnil s_eqs s_un s_conv s_fa s_fld s_ia s_sli s_ext s_ifc s_mkf s_agg s_len s_mm s_nilchk s_bsl s_mk s_app s_cpy s_call s_inv cells_agg cells_int cells_bool p_get p_none o_s o_c e_0 e_1 e_2 e_3 e_4 iteC_true iteC_false grd_tt grd_tf grd_ft grd_ff grd_und bindV_some pickV_t pickV_f beq_bool conv_int un_not not_dec mm_min mm_max bv_add bv_sub bv_mul bv_eql bv_neq bv_lss bv_leq bv_gtr bv_geq f_normal f_one f_two f_three f_none fa_ptr fld_one ext_tup len_sl len_nils decide_true decide_false not_true_eq_false not_false_eq_true List.map_cons List.map_nil List.append_nil List.cons_append List.nil_append Nat.zero_add Nat.add_zero Nat.mul_one Nat.succ_ne_self if_true if_false List.getElem?_cons_zero List.getElem?_cons_succ

/-- codewrightref46.SamePoly -/
def F23 : AF := ⟨27, [(4, none)], (.seq (.ops [⟨none, false, (some 4), (.mov (.c (.bool false)))⟩]) (.seq (.seq (.ops [⟨none, false, (some 6), (.mov (.s 0))⟩, ⟨none, false, (some 7), (.len (.s 6))⟩, ⟨none, false, (some 8), (.mov (.s 1))⟩, ⟨none, false, (some 9), (.len (.s 8))⟩, ⟨none, false, (some 10), (.bin .neq (.s 7) (.s 9))⟩]) (.ite (.s 10) (.seq (.ops [⟨none, false, (some 4), (.mov (.c (.bool false)))⟩]) .ret) .skip)) (.seq (.seq (.ops [⟨none, false, (some 5), (.mov (.c (.int .i64 (0))))⟩]) (.blk 0 (.loop (.seq (.seq (.ops [⟨none, false, (some 11), (.mov (.s 5))⟩, ⟨none, false, (some 12), (.mov (.s 0))⟩, ⟨none, false, (some 13), (.len (.s 12))⟩, ⟨none, false, (some 14), (.bin .lss (.s 11) (.s 13))⟩]) (.ite (.s 14) .skip (.exit 0))) (.seq (.blk 1 (.seq (.ops [⟨none, false, (some 17), (.mov (.s 0))⟩, ⟨none, false, (some 18), (.mov (.s 5))⟩, ⟨none, false, (some 19), (.ia 1 (.s 17) (.s 18))⟩, ⟨none, false, (some 21), (.mov (.s 1))⟩, ⟨none, false, (some 22), (.mov (.s 5))⟩, ⟨none, false, (some 23), (.ia 1 (.s 21) (.s 22))⟩, ⟨none, false, (some 20), (.ld false 1 (.s 19) none)⟩, ⟨none, false, (some 24), (.ld false 1 (.s 23) none)⟩, ⟨none, false, (some 25), (.call (.c (.fn 31 [])) [(.s 20), (.s 24)])⟩, ⟨none, false, (some 26), (.un .not (.s 25))⟩]) (.ite (.s 26) (.seq (.ops [⟨none, false, (some 4), (.mov (.c (.bool false)))⟩]) .ret) .skip))) (.ops [⟨none, false, (some 15), (.mov (.s 5))⟩, ⟨none, false, (some 16), (.bin .add (.s 15) (.c (.int .i64 (1))))⟩, ⟨none, false, (some 5), (.mov (.s 16))⟩])))))) (.seq (.ops [⟨none, false, (some 4), (.mov (.c (.bool true)))⟩]) .ret))))⟩
theorem cv23 : cvF Try.prog 23 = some F23 := by kernel_rfl

/-- codewrightref49.Lightest -/
def F24 : AF := ⟨25, [(2, (some (true, 2))), (3, none)], (.seq (.ops [⟨none, false, (some 2), (.zero [(.int .i64 (0)), .nils])⟩, ⟨none, false, (some 3), (.mov (.c (.int .i64 (0))))⟩]) (.seq (.seq (.ops [⟨none, false, (some 4), (.mov (.c (.int .i64 (1))))⟩]) (.blk 0 (.loop (.seq (.seq (.ops [⟨none, false, (some 5), (.mov (.s 4))⟩, ⟨none, false, (some 6), (.mov (.s 0))⟩, ⟨none, false, (some 7), (.len (.s 6))⟩, ⟨none, false, (some 8), (.bin .lss (.s 5) (.s 7))⟩]) (.ite (.s 8) .skip (.exit 0))) (.seq (.blk 1 (.seq (.ops [⟨none, false, (some 11), (.mov (.s 0))⟩, ⟨none, false, (some 12), (.mov (.s 4))⟩, ⟨none, false, (some 13), (.ia 1 (.s 11) (.s 12))⟩, ⟨none, false, (some 14), (.ld false 1 (.s 13) none)⟩, ⟨none, false, (some 15), (.call (.c (.fn 57 [])) [(.s 14)])⟩, ⟨none, false, (some 16), (.un .not (.s 15))⟩]) (.ite (.s 16) (.seq (.ops [⟨none, false, (some 17), (.mov (.s 4))⟩, ⟨none, false, (some 18), (.mov (.s 0))⟩, ⟨none, false, (some 19), (.mov (.s 4))⟩, ⟨none, false, (some 20), (.ia 1 (.s 18) (.s 19))⟩, ⟨none, false, (some 21), (.ld false 1 (.s 20) none)⟩, ⟨none, false, (some 22), (.call (.c (.fn 58 [])) [(.s 21)])⟩, ⟨none, false, (some 23), (.agg [(.int .i64 (0)), .nils] [(0, (1, (.s 17))), (1, (1, (.s 22)))])⟩, ⟨none, false, none, (.st 2 (.s 2) (.s 23) [])⟩, ⟨none, false, (some 3), (.mov (.c (.int .i64 (0))))⟩]) .ret) .skip))) (.ops [⟨none, false, (some 9), (.mov (.s 4))⟩, ⟨none, false, (some 10), (.bin .add (.s 9) (.c (.int .i64 (1))))⟩, ⟨none, false, (some 4), (.mov (.s 10))⟩])))))) (.seq (.ops [⟨none, false, (some 24), (.agg [(.int .i64 (0)), .nils] [])⟩, ⟨none, false, none, (.st 2 (.s 2) (.s 24) [])⟩, ⟨none, false, (some 3), (.mov (.c (.int .i64 (11))))⟩]) .ret)))⟩
theorem cv24 : cvF Try.prog 24 = some F24 := by kernel_rfl

/-- codewrightref46.SameLeast -/
def F25 : AF := ⟨17, [(4, none)], (.seq (.ops [⟨none, false, (some 2), (.new (.s 0))⟩, ⟨none, false, (some 3), (.new (.s 1))⟩, ⟨none, false, (some 4), (.mov (.c (.bool false)))⟩]) (.seq (.ops [⟨none, false, (some 5), (.fa 0 (.s 2))⟩, ⟨none, false, (some 6), (.ld false 1 (.s 5) none)⟩, ⟨none, false, (some 7), (.fa 0 (.s 3))⟩, ⟨none, false, (some 8), (.ld false 1 (.s 7) none)⟩, ⟨none, false, (some 9), (.bin .eql (.s 6) (.s 8))⟩, ⟨none, false, (some 10), (.mov (.s 9))⟩, ⟨(some (10, true)), false, (some 11), (.fa 1 (.s 2))⟩, ⟨(some (10, true)), false, (some 12), (.ld false 1 (.s 11) none)⟩, ⟨(some (10, true)), false, (some 13), (.fa 1 (.s 3))⟩, ⟨(some (10, true)), false, (some 14), (.ld false 1 (.s 13) none)⟩, ⟨(some (10, true)), false, (some 15), (.call (.c (.fn 31 [])) [(.s 12), (.s 14)])⟩, ⟨none, false, (some 16), (.pick (.s 10) (.s 15) (.c (.bool false)))⟩, ⟨none, false, (some 4), (.mov (.s 16))⟩]) .ret))⟩
theorem cv25 : cvF Try.prog 25 = some F25 := by kernel_rfl

/-- codewrightlaw49.ViterbiEnumerates -/
def F5 : AF := ⟨74, [(2, none)], (.seq (.ops [⟨none, false, (some 1), (.new (.s 0))⟩, ⟨none, false, (some 2), (.mov (.c (.bool false)))⟩]) (.seq (.seq (.ops [⟨none, false, (some 11), (.ld true 2 (.s 1) none)⟩, ⟨none, false, (some 12), (.call (.c (.fn 10 [])) [(.s 11), (.c (.int .i64 (1000)))])⟩, ⟨none, false, (some 13), (.un .not (.s 12))⟩]) (.ite (.s 13) (.seq (.ops [⟨none, false, (some 14), (.call (.c (.fn 11 [])) [])⟩, ⟨none, false, (some 2), (.mov (.s 14))⟩]) .ret) .skip)) (.seq (.ops [⟨none, false, (some 16), (.ld true 2 (.s 1) none)⟩, ⟨none, false, (some 17), (.call (.c (.fn 20 [])) [(.s 16)])⟩, ⟨none, false, (some 15), (.mov (.s 17))⟩, ⟨none, false, (some 18), (.ext (.s 15) 0)⟩, ⟨none, false, (some 19), (.ext (.s 15) 1)⟩, ⟨none, false, (some 3), (.mov (.s 18))⟩, ⟨none, false, (some 4), (.mov (.s 19))⟩]) (.seq (.ops [⟨none, false, (some 21), (.ld true 2 (.s 1) none)⟩, ⟨none, false, (some 22), (.call (.c (.fn 21 [])) [(.s 21)])⟩, ⟨none, false, (some 20), (.mov (.s 22))⟩, ⟨none, false, (some 23), (.ext (.s 20) 0)⟩, ⟨none, false, (some 24), (.ext (.s 20) 1)⟩, ⟨none, false, (some 5), (.zero [(.int .i64 (0)), .nils])⟩, ⟨none, false, none, (.st 2 (.s 5) (.s 23) [])⟩, ⟨none, false, (some 6), (.mov (.s 24))⟩]) (.seq (.ops [⟨none, false, (some 25), (.ld true 2 (.s 1) none)⟩, ⟨none, false, (some 26), (.call (.c (.fn 19 [])) [(.s 25)])⟩, ⟨none, false, (some 7), (.mov (.s 26))⟩]) (.seq (.seq (.ops [⟨none, false, (some 27), (.mov (.s 4))⟩, ⟨none, false, (some 28), (.mov (.s 7))⟩, ⟨none, false, (some 29), (.bin .neq (.s 27) (.s 28))⟩, ⟨none, false, (some 30), (.mov (.s 29))⟩, ⟨(some (30, false)), false, (some 31), (.call (.c (.fn 11 [])) [])⟩, ⟨(some (30, false)), false, (some 32), (.un .not (.s 31))⟩, ⟨none, false, (some 33), (.pick (.s 30) (.c (.bool true)) (.s 32))⟩]) (.ite (.s 33) (.seq (.ops [⟨none, false, (some 2), (.mov (.c (.bool false)))⟩]) .ret) .skip)) (.seq (.seq (.ops [⟨none, false, (some 34), (.mov (.s 7))⟩, ⟨none, false, (some 35), (.bin .neq (.s 34) (.c (.int .i64 (0))))⟩]) (.ite (.s 35) (.seq (.ops [⟨none, false, (some 36), (.mov (.s 6))⟩, ⟨none, false, (some 37), (.mov (.s 7))⟩, ⟨none, false, (some 38), (.bin .eql (.s 36) (.s 37))⟩, ⟨none, false, (some 39), (.mov (.s 38))⟩, ⟨(some (39, true)), false, (some 40), (.mov (.s 3))⟩, ⟨(some (39, true)), false, (some 41), (.len (.s 40))⟩, ⟨(some (39, true)), false, (some 42), (.bin .eql (.s 41) (.c (.int .i64 (0))))⟩, ⟨none, false, (some 43), (.pick (.s 39) (.s 42) (.c (.bool false)))⟩, ⟨none, false, (some 44), (.mov (.s 43))⟩, ⟨(some (44, true)), false, (some 45), (.fa 0 (.s 5))⟩, ⟨(some (44, true)), false, (some 46), (.ld false 1 (.s 45) none)⟩, ⟨(some (44, true)), false, (some 47), (.bin .eql (.s 46) (.c (.int .i64 (0))))⟩, ⟨none, false, (some 48), (.pick (.s 44) (.s 47) (.c (.bool false)))⟩, ⟨none, false, (some 49), (.mov (.s 48))⟩, ⟨(some (49, true)), false, (some 50), (.fa 1 (.s 5))⟩, ⟨(some (49, true)), false, (some 51), (.ld false 1 (.s 50) none)⟩, ⟨(some (49, true)), false, (some 52), (.len (.s 51))⟩, ⟨(some (49, true)), false, (some 53), (.bin .eql (.s 52) (.c (.int .i64 (0))))⟩, ⟨none, false, (some 54), (.pick (.s 49) (.s 53) (.c (.bool false)))⟩, ⟨none, false, (some 2), (.mov (.s 54))⟩]) .ret) .skip)) (.seq (.ops [⟨none, false, (some 55), (.ld true 2 (.s 1) none)⟩, ⟨none, false, (some 56), (.call (.c (.fn 22 [])) [(.s 55)])⟩, ⟨none, false, (some 8), (.mov (.s 56))⟩]) (.seq (.seq (.ops [⟨none, false, (some 57), (.mov (.s 3))⟩, ⟨none, false, (some 58), (.mov (.s 8))⟩, ⟨none, false, (some 59), (.call (.c (.fn 23 [])) [(.s 57), (.s 58)])⟩, ⟨none, false, (some 60), (.un .not (.s 59))⟩]) (.ite (.s 60) (.seq (.ops [⟨none, false, (some 2), (.mov (.c (.bool false)))⟩]) .ret) .skip)) (.seq (.ops [⟨none, false, (some 62), (.mov (.s 8))⟩, ⟨none, false, (some 63), (.call (.c (.fn 24 [])) [(.s 62)])⟩, ⟨none, false, (some 61), (.mov (.s 63))⟩, ⟨none, false, (some 64), (.ext (.s 61) 0)⟩, ⟨none, false, (some 65), (.ext (.s 61) 1)⟩, ⟨none, false, (some 9), (.zero [(.int .i64 (0)), .nils])⟩, ⟨none, false, none, (.st 2 (.s 9) (.s 64) [])⟩, ⟨none, false, (some 10), (.mov (.s 65))⟩]) (.seq (.ops [⟨none, false, (some 66), (.mov (.s 6))⟩, ⟨none, false, (some 67), (.mov (.s 10))⟩, ⟨none, false, (some 68), (.bin .eql (.s 66) (.s 67))⟩, ⟨none, false, (some 69), (.mov (.s 68))⟩, ⟨(some (69, true)), false, (some 70), (.ld true 2 (.s 5) none)⟩, ⟨(some (69, true)), false, (some 71), (.ld true 2 (.s 9) none)⟩, ⟨(some (69, true)), false, (some 72), (.call (.c (.fn 25 [])) [(.s 70), (.s 71)])⟩, ⟨none, false, (some 73), (.pick (.s 69) (.s 72) (.c (.bool false)))⟩, ⟨none, false, (some 2), (.mov (.s 73))⟩]) .ret)))))))))))⟩
theorem cv5 : cvF Try.prog 5 = some F5 := by kernel_rfl


theorem same_true {av bv : V} {n : Int} {L M : Nat} {H : Heap} (ha : CNat H av n L) (hb : CNat H bv n M) : ACalls Try.prog 31 [av, bv] H fun u H' => u = .bool true ∧ H' = H := by
  obtain ⟨xs, hx, lx, cx, ex, _⟩ := ha
  obtain ⟨ys, hy, ly, cy, ey, _⟩ := hb
  obtain rfl : xs = ys := nval_inj lx ly cx cy (by rw [ex, ey])
  refine (rNatSame_spec hx hy).mono fun u H' h => ?_
  rw [h.1]
  exact ⟨by simp, h.2⟩

theorem rSamePoly_spec {av bv : V} {p : List Int} {L M : Nat} {H : Heap} (hl : p.length ≤ 1073741824) (ha : SPoly H av p L) (hb : SPoly H bv p M) : ACalls Try.prog 23 [av, bv] H fun u H' => u = .bool true ∧ H' = H := by
  refine ACalls.of_body hm cv23 (by simp only [List.length_cons, List.length_nil]; decide) ?_
  simp only [F23, go_sem, ↓reduceIte, Nat.reduceEqDiff, Nat.reduceAdd, reduceCtorEq, ha.len, hb.len]
  refine loop_count p.length (fun k env H' => H = H' ∧ env 0 = av ∧ env 1 = bv ∧ env 5 = .int .i64 k) ?_ ?_ ?_
  · simp only [go_sem, ↓reduceIte, Nat.reduceEqDiff, Nat.reduceAdd, reduceCtorEq]; simp
  · rintro k env H' hk ⟨rfl, h0, h1, h5⟩
    have hk' : (k : Int) < p.length := by omega
    obtain ⟨q, u1, a1, a2, a3⟩ := ha.get hk .i64
    obtain ⟨r, u2, b1, b2, b3⟩ := hb.get hk .i64
    simp only [go_sem, ↓reduceIte, Nat.reduceEqDiff, Nat.reduceAdd, reduceCtorEq, h0, h1, h5, ha.len, hk', a1, a2, b1, b2]
    refine callC_pure (same_true a3 b3) ?_
    simp only [go_sem, ↓reduceIte, Nat.reduceEqDiff, Nat.reduceAdd, reduceCtorEq, Bool.not_true, h0, h1, h5]
    rw [wrapN1 (by omega)]
    exact ⟨by trivial, by trivial, by trivial, by trivial⟩
  · rintro env H' ⟨rfl, h0, h1, h5⟩
    simp only [go_sem, ↓reduceIte, Nat.reduceEqDiff, Nat.reduceAdd, reduceCtorEq, h0, h1, h5, ha.len, Int.lt_irrefl]
    exact finO_self ⟨rfl, rfl⟩

theorem rLightest_spec {v : V} {p : List Int} {L : Nat} {H : Heap} (hL : L ≤ 1099511627776) (h1 : 1 ≤ p.length) (hl : p.length ≤ 1073741824) (hv : SPoly H v p L) : ACalls Try.prog 24 [v] H fun u H' => Heap.sub H H' ∧
    ((firstP p = none ∧ u = .tup [.agg [.int .i64 0, .nils], .int .i64 11]) ∨ ∃ (d : Nat) (x : V), firstP p = some d ∧ u = .tup [.agg [.int .i64 d, x], .int .i64 0] ∧ CNat H' x (cf p d) L) := by
  refine ACalls.of_body hm cv24 (by simp only [List.length_cons, List.length_nil]; decide) ?_
  simp only [F24, go_sem, ↓reduceIte, Nat.reduceEqDiff, Nat.reduceAdd, reduceCtorEq]
  refine newC_intro fun b2 H1 hn1 hs1 hb1 => ?_
  have hv1 := hv.mono hs1
  simp only [go_sem, ↓reduceIte, Nat.reduceEqDiff, Nat.reduceAdd, reduceCtorEq]
  refine loop_count (p.length - 1) (fun k env H' => H1 = H' ∧ env 0 = v ∧ env 2 = .ptr b2 0 ∧ env 4 = .int .i64 ((k + 1 : Nat) : Int) ∧ ∀ i, i < k + 1 → 0 < i → cf p i = 0) ?_ ?_ ?_
  · simp only [go_sem, ↓reduceIte, Nat.reduceEqDiff, Nat.reduceAdd, reduceCtorEq]
    exact ⟨by trivial, by trivial, by trivial, rfl, fun i h h' => by omega⟩
  · rintro k env H' hk ⟨rfl, h0, h2, h4, hz⟩
    have hlt : ((k + 1 : Nat) : Int) < p.length := by omega
    obtain ⟨q, u, a1, a2, a3⟩ := hv.getG hs1 (k := k + 1) (by omega) .i64
    have hck : cf p (k+1) = p[k+1]'(by omega) := by simp [cf, show k + 1 < p.length by omega]
    simp only [go_sem, ↓reduceIte, Nat.reduceEqDiff, Nat.reduceAdd, reduceCtorEq, h0, h2, h4, hv1.len, hlt, a1, a2]
    refine callC_pure (rZero_spec hL (a3.mono hs1).nat) ?_
    simp only [go_sem, ↓reduceIte, Nat.reduceEqDiff, Nat.reduceAdd, reduceCtorEq]
    by_cases c : p[k+1]'(by omega) = 0
    · simp only [go_sem, ↓reduceIte, Nat.reduceEqDiff, Nat.reduceAdd, reduceCtorEq, c, Bool.not_true, h0, h2, h4]
      rw [wrapN1 (by omega)]
      refine ⟨by trivial, by trivial, by trivial, by trivial, fun i hi h0 => ?_⟩
      rcases Nat.lt_succ_iff_lt_or_eq.1 hi with hi | rfl
      · exact hz i hi h0
      · rw [hck]; exact c
    · simp only [go_sem, ↓reduceIte, Nat.reduceEqDiff, Nat.reduceAdd, reduceCtorEq, c, Bool.not_false, h0, h2, h4, a1, a2]
      refine callC_in (rTrim_spec (by omega) a3.nat) hs1 fun x H2 G2 hs2 ga gb gc hx => ?_
      have hG2 : G2 b2 = none := gc b2 hn1 (by rw [hb1]; simp)
      simp only [go_sem, ↓reduceIte, Nat.reduceEqDiff, Nat.reduceAdd, reduceCtorEq, fillV, List.length_cons, List.length_nil, splice, Nat.reduceLeDiff, Nat.zero_lt_one, and_self, List.take_zero, List.take_succ_cons, List.drop_succ_cons, List.drop_zero, List.drop_nil, Nat.reduceLT, Nat.le_refl, hx.nat.cells, Option.map_some, h2]
      refine stC_intro (hs2 _ _ hb1) trivial rfl (by decide) (by decide) fun H3 hb3 hf3 hs3 => ?_
      have hg3 := hs3 G2 gb hG2
      simp only [go_sem, ↓reduceIte, Nat.reduceEqDiff, Nat.reduceAdd, reduceCtorEq]
      refine f_box2 (n := b2) (o := 0) (by simp only [go_sem, ↓reduceIte, Nat.reduceEqDiff, Nat.reduceAdd, reduceCtorEq, h2]) hb3 (by show 0 + 2 ≤ 2; decide) ?_
      simp only [go_sem, ↓reduceIte, Nat.reduceEqDiff, Nat.reduceAdd, reduceCtorEq]
      refine finO_self ⟨ga.trans' hg3, .inr ⟨k + 1, x, firstP_some (by omega) (by omega) (by rw [hck]; exact c) fun i hi h0 => hz i hi h0, rfl, ?_⟩⟩
      rw [hck]; exact hx.mono hg3
  · rintro env H' ⟨rfl, h0, h2, h4, hz⟩
    have hlt : ¬ ((p.length - 1 + 1 : Nat) : Int) < p.length := by omega
    simp only [go_sem, ↓reduceIte, Nat.reduceEqDiff, Nat.reduceAdd, reduceCtorEq, h0, h2, h4, hv1.len, hlt, fillV, List.length_cons, List.length_nil, splice, Nat.reduceLeDiff, Nat.zero_lt_one, and_self, List.take_zero, List.take_succ_cons, List.drop_succ_cons, List.drop_zero, List.drop_nil, Nat.reduceLT, Nat.le_refl, Option.map_some]
    refine stC_intro hb1 trivial rfl (by decide) (by decide) fun H3 hb3 hf3 hs3 => ?_
    have hs3' := hs3 H hs1 hn1
    simp only [go_sem, ↓reduceIte, Nat.reduceEqDiff, Nat.reduceAdd, reduceCtorEq]
    refine f_box2 (n := b2) (o := 0) (by simp only [go_sem, ↓reduceIte, Nat.reduceEqDiff, Nat.reduceAdd, reduceCtorEq, h2]) hb3 (by decide) ?_
    simp only [go_sem, ↓reduceIte, Nat.reduceEqDiff, Nat.reduceAdd, reduceCtorEq]
    exact finO_self ⟨hs3', .inl ⟨firstP_none fun i hi h0 => hz i (by omega) h0, rfl⟩⟩

theorem rSameLeast_spec {x y : V} {d n : Int} {L M : Nat} {H : Heap} (hx : CNat H x n L) (hy : CNat H y n M) : ACalls Try.prog 25 [.agg [.int .i64 d, x], .agg [.int .i64 d, y]] H fun u H' => u = .bool true ∧ H' = H := by
  refine ACalls.of_body hm cv25 (by simp only [List.length_cons, List.length_nil]; decide) ?_
  simp only [F25, go_sem, ↓reduceIte, Nat.reduceEqDiff, Nat.reduceAdd, reduceCtorEq]
  refine newC_intro fun b1 H1 hn1 hs1 hb1 => ?_
  simp only [go_sem, ↓reduceIte, Nat.reduceEqDiff, Nat.reduceAdd, reduceCtorEq]
  refine newC_intro fun b2 H2 hn2 hs2 hb2 => ?_
  have hs02 := hs1.trans' hs2
  simp only [go_sem, ↓reduceIte, Nat.reduceEqDiff, Nat.reduceAdd, reduceCtorEq, ld_box (hs2 _ _ hb1), ld_box hb2]
  refine callC_pure (same_true (hx.mono hs02) (hy.mono hs02)) ?_
  simp only [go_sem, ↓reduceIte, Nat.reduceEqDiff, Nat.reduceAdd, reduceCtorEq]
  exact finO_sub hs02 ⟨rfl, rfl⟩

theorem enum_main : ∀ H v0 ws0 es0, STre H v0 ws0 es0 → (∀ w ∈ ws0, I64 w) → (∀ l ∈ es0, ∀ e ∈ l, EdI e) → ACalls Try.prog 5 [v0] H fun v _ => v = .bool true := by
  rintro H v0 ws es ⟨sv, ev, rfl, hs, he⟩ _ _
  refine ACalls.of_body hm cv5 (by simp only [List.length_cons, List.length_nil]; decide) ?_
  simp only [F5, go_sem, ↓reduceIte, Nat.reduceEqDiff, Nat.reduceAdd, reduceCtorEq]
  refine newC_intro fun n1 H1 hn1 hs1 hb1 => ?_
  simp only [go_sem, ↓reduceIte, Nat.reduceEqDiff, Nat.reduceAdd, reduceCtorEq, ld_boxa hb1 (show 0 + 2 ≤ _ by simp), fillV, List.length_cons, List.length_nil, splice, Nat.reduceLeDiff, Nat.zero_lt_one, and_self, List.take_zero, List.take_succ_cons, List.drop_succ_cons, List.drop_zero, List.drop_nil, Nat.reduceLT, Nat.le_refl]
  refine callC_any (Few_spec (ws := ws) (by decide) (by decide) (SSecs.mono he hs1)) ?_
  rintro u H0 ⟨⟨b, rfl⟩, rfl⟩
  cases b
  · simp only [go_sem, ↓reduceIte, Nat.reduceEqDiff, Nat.reduceAdd, reduceCtorEq, Bool.not_false]
    refine callC_pure (alive_spec _) ?_
    simp only [go_sem, ↓reduceIte, Nat.reduceEqDiff, Nat.reduceAdd, reduceCtorEq]
    exact finO_self rfl
  simp only [go_sem, ↓reduceIte, Nat.reduceEqDiff, Nat.reduceAdd, reduceCtorEq, Bool.not_true, ld_boxa hb1 (show 0 + 2 ≤ _ by simp), fillV, List.length_cons, List.length_nil, splice, Nat.reduceLeDiff, Nat.zero_lt_one, and_self, List.take_zero, List.take_succ_cons, List.drop_succ_cons, List.drop_zero, List.drop_nil, Nat.reduceLT, Nat.le_refl]
  refine callC_grow (Enumerator_spec (hs.mono hs1) (SSecs.mono he hs1)) ?_
  rintro u H2 hs2 hcase
  have hs02 := hs1.trans' hs2
  rcases hcase with ⟨hne, rfl⟩ | ⟨hp, wv, rfl, hwv⟩
  · have hne' : ¬ properI ws es = 0 := hne
    simp only [go_sem, ↓reduceIte, Nat.reduceEqDiff, Nat.reduceAdd, reduceCtorEq, ld_boxa (hs2 _ _ hb1) (show 0 + 2 ≤ _ by simp), fillV, List.length_cons, List.length_nil, splice, Nat.reduceLeDiff, Nat.zero_lt_one, and_self, List.take_zero, List.take_succ_cons, List.drop_succ_cons, List.drop_zero, List.drop_nil, Nat.reduceLT, Nat.le_refl]
    refine callC_grow (Lightest_spec (hs.mono hs02) (SSecs.mono he hs02)) ?_
    rintro u H3 hs3 (⟨_, rfl⟩ | ⟨h, _⟩ | ⟨h, _⟩)
    · have hs03 := hs02.trans' hs3
      have hb13 := hs3 _ _ (hs2 _ _ hb1)
      simp only [go_sem, ↓reduceIte, Nat.reduceEqDiff, Nat.reduceAdd, reduceCtorEq]
      refine newC_intro fun n5 H4 hn4 hs4 hb4 => ?_
      simp only [go_sem, ↓reduceIte, Nat.reduceEqDiff, Nat.reduceAdd, reduceCtorEq]
      refine stC_intro hb4 trivial rfl (by decide) (by decide) fun H5 hb5 hf5 hs5 => ?_
      have hs35 := hs5 _ hs4 hn4
      simp only [fillV, List.length_cons, List.length_nil, splice, Nat.reduceLeDiff, Nat.zero_lt_one, and_self, List.take_zero, List.take_succ_cons, List.drop_succ_cons, List.drop_zero, List.drop_nil, Nat.reduceLT, Nat.le_refl, go_sem, ↓reduceIte, Nat.reduceEqDiff, Nat.reduceAdd, reduceCtorEq] at hb5
      have hs05 := hs03.trans' hs35
      simp only [go_sem, ↓reduceIte, Nat.reduceEqDiff, Nat.reduceAdd, reduceCtorEq, ld_boxa (hs35 _ _ hb13) (show 0 + 2 ≤ _ by simp), fillV, List.length_cons, List.length_nil, splice, Nat.reduceLeDiff, Nat.zero_lt_one, and_self, List.take_zero, List.take_succ_cons, List.drop_succ_cons, List.drop_zero, List.drop_nil, Nat.reduceLT, Nat.le_refl]
      refine callC_pure (rProper_spec (hs.mono hs05) (SSecs.mono he hs05)) ?_
      simp only [go_sem, ↓reduceIte, Nat.reduceEqDiff, Nat.reduceAdd, reduceCtorEq]
      refine callC_pure (alive_spec _) ?_
      simp only [go_sem, ↓reduceIte, Nat.reduceEqDiff, Nat.reduceAdd, reduceCtorEq, Bool.not_true, hne', ld_box hb5]
      exact finO_self rfl
    · exact absurd h hne'
    · exact absurd h hne'
  · obtain ⟨pl, hpl⟩ : ∃ pl, pl = padP (enumP es) (es.length + 1) := ⟨_, rfl⟩
    have hpll : pl.length = es.length + 1 := by rw [hpl, padP_len]
    obtain ⟨h0, _⟩ := proper_of hp
    have hn := (shaped_of h0).n
    rw [← hpl] at hwv
    simp only [go_sem, ↓reduceIte, Nat.reduceEqDiff, Nat.reduceAdd, reduceCtorEq, ld_boxa (hs2 _ _ hb1) (show 0 + 2 ≤ _ by simp), fillV, List.length_cons, List.length_nil, splice, Nat.reduceLeDiff, Nat.zero_lt_one, and_self, List.take_zero, List.take_succ_cons, List.drop_succ_cons, List.drop_zero, List.drop_nil, Nat.reduceLT, Nat.le_refl]
    refine callC_grow (Lightest_spec (hs.mono hs02) (SSecs.mono he hs02)) ?_
    rintro u H3 hs3 hcase
    rw [← hpl] at hcase
    obtain ⟨dw, xv, e2, rfl, hc2⟩ : ∃ dw xv e2, u = .tup [.agg [.int .i64 dw, xv], .int .i64 e2] ∧ ((firstP pl = none ∧ dw = 0 ∧ xv = .nils ∧ e2 = 11) ∨ ∃ d : Nat, firstP pl = some d ∧ dw = d ∧ e2 = 0 ∧ CNat H3 xv (cf pl d) LE) := by
      rcases hcase with ⟨h, _⟩ | ⟨_, h, rfl⟩ | ⟨_, d, v, h1, rfl, h2⟩
      · exact absurd hp h
      · exact ⟨_, _, _, rfl, .inl ⟨h, rfl, rfl, rfl⟩⟩
      · exact ⟨_, _, _, rfl, .inr ⟨d, h1, rfl, rfl, h2⟩⟩
    clear hcase
    have hs03 := hs02.trans' hs3
    have hb13 := hs3 _ _ (hs2 _ _ hb1)
    have hxc : V.cells xv = [xv] := by
      rcases hc2 with ⟨_, _, rfl, _⟩ | ⟨d, _, _, _, h⟩
      · rfl
      · exact h.nat.cells
    simp only [go_sem, ↓reduceIte, Nat.reduceEqDiff, Nat.reduceAdd, reduceCtorEq]
    refine newC_intro fun n5 H4 hn4 hs4 hb4 => ?_
    simp only [go_sem, ↓reduceIte, Nat.reduceEqDiff, Nat.reduceAdd, reduceCtorEq]
    refine stC_intro hb4 trivial rfl (by decide) (by show 0 + 2 ≤ 2; decide) fun H5 hb5 hf5 hs5 => ?_
    have hs35 := hs5 _ hs4 hn4
    simp only [fillV, List.length_cons, List.length_nil, splice, Nat.reduceLeDiff, Nat.zero_lt_one, and_self, List.take_zero, List.take_succ_cons, List.drop_succ_cons, List.drop_zero, List.drop_nil, Nat.reduceLT, Nat.le_refl, go_sem, ↓reduceIte, Nat.reduceEqDiff, Nat.reduceAdd, reduceCtorEq] at hb5
    have hs05 := hs03.trans' hs35
    have hb15 := hs35 _ _ hb13
    simp only [go_sem, ↓reduceIte, Nat.reduceEqDiff, Nat.reduceAdd, reduceCtorEq, ld_boxa hb15 (show 0 + 2 ≤ _ by simp), fillV, List.length_cons, List.length_nil, splice, Nat.reduceLeDiff, Nat.zero_lt_one, and_self, List.take_zero, List.take_succ_cons, List.drop_succ_cons, List.drop_zero, List.drop_nil, Nat.reduceLT, Nat.le_refl]
    refine callC_pure (rProper_spec (hs.mono hs05) (SSecs.mono he hs05)) ?_
    rw [hp]
    simp only [go_sem, ↓reduceIte, Nat.reduceEqDiff, Nat.reduceAdd, reduceCtorEq]
    refine callC_pure (alive_spec _) ?_
    simp only [go_sem, ↓reduceIte, Nat.reduceEqDiff, Nat.reduceAdd, reduceCtorEq, Bool.not_true, ld_boxa hb15 (show 0 + 2 ≤ _ by simp), fillV, List.length_cons, List.length_nil, splice, Nat.reduceLeDiff, Nat.zero_lt_one, and_self, List.take_zero, List.take_succ_cons, List.drop_succ_cons, List.drop_zero, List.drop_nil, Nat.reduceLT, Nat.le_refl]
    refine callC_grow (rEnumerator_spec (E := 262144) rfl (hs.mono hs05) (SSecs.mono he hs05) hp) ?_
    rintro rv H6 hs6 hrv
    rw [← hpl] at hrv
    simp only [go_sem, ↓reduceIte, Nat.reduceEqDiff, Nat.reduceAdd, reduceCtorEq]
    refine callC_pure (rSamePoly_spec (by omega) (hwv.mono (hs3.trans' (hs35.trans' hs6))) hrv) ?_
    simp only [go_sem, ↓reduceIte, Nat.reduceEqDiff, Nat.reduceAdd, reduceCtorEq, Bool.not_true]
    refine callC_grow (rLightest_spec (by decide) (by omega) (by omega) hrv) ?_
    rintro u H7 hs7 hl7
    have hb57 := hs7 _ _ (hs6 _ _ hb5)
    rcases hl7 with ⟨hf, rfl⟩ | ⟨d, y, hf, rfl, hy⟩
    · rcases hc2 with ⟨_, rfl, rfl, rfl⟩ | ⟨d', hf', _⟩
      · simp only [go_sem, ↓reduceIte, Nat.reduceEqDiff, Nat.reduceAdd, reduceCtorEq]
        refine newC_intro fun n9 H8 hn8 hs8 hb8 => ?_
        simp only [go_sem, ↓reduceIte, Nat.reduceEqDiff, Nat.reduceAdd, reduceCtorEq]
        refine stC_intro hb8 trivial rfl (by decide) (by decide) fun H9 hb9 hf9 hs9 => ?_
        have hs79 := hs9 _ hs8 hn8
        simp only [fillV, List.length_cons, List.length_nil, splice, Nat.reduceLeDiff, Nat.zero_lt_one, and_self, List.take_zero, List.take_succ_cons, List.drop_succ_cons, List.drop_zero, List.drop_nil, Nat.reduceLT, Nat.le_refl, go_sem, ↓reduceIte, Nat.reduceEqDiff, Nat.reduceAdd, reduceCtorEq] at hb9
        simp only [go_sem, ↓reduceIte, Nat.reduceEqDiff, Nat.reduceAdd, reduceCtorEq, ld_boxa (hs79 _ _ hb57) (show 0 + 2 ≤ _ by simp), ld_boxa hb9 (show 0 + 2 ≤ _ by simp), fillV, List.length_cons, List.length_nil, splice, Nat.reduceLeDiff, Nat.zero_lt_one, and_self, List.take_zero, List.take_succ_cons, List.drop_succ_cons, List.drop_zero, List.drop_nil, Nat.reduceLT, Nat.le_refl]
        refine callC_pure (rSameLeast_spec (CNat.nils _ 0) (CNat.nils _ 0)) ?_
        simp only [go_sem, ↓reduceIte, Nat.reduceEqDiff, Nat.reduceAdd, reduceCtorEq]
        exact finO_self rfl
      · rw [hf] at hf'; cases hf'
    · rcases hc2 with ⟨hf', _⟩ | ⟨d', hf', rfl, rfl, hx⟩
      · rw [hf] at hf'; cases hf'
      · rw [hf] at hf'
        obtain rfl := Option.some.inj hf'
        simp only [go_sem, ↓reduceIte, Nat.reduceEqDiff, Nat.reduceAdd, reduceCtorEq]
        refine newC_intro fun n9 H8 hn8 hs8 hb8 => ?_
        simp only [go_sem, ↓reduceIte, Nat.reduceEqDiff, Nat.reduceAdd, reduceCtorEq]
        refine stC_intro hb8 trivial (by show (V.agg [_, y]).cells.length = 2; rfl) (by decide) (by show 0 + 2 ≤ 2; decide) fun H9 hb9 hf9 hs9 => ?_
        have hs79 := hs9 _ hs8 hn8
        simp only [fillV, List.length_cons, List.length_nil, splice, Nat.reduceLeDiff, Nat.zero_lt_one, and_self, List.take_zero, List.take_succ_cons, List.drop_succ_cons, List.drop_zero, List.drop_nil, Nat.reduceLT, Nat.le_refl, go_sem, ↓reduceIte, Nat.reduceEqDiff, Nat.reduceAdd, reduceCtorEq] at hb9
        simp only [go_sem, ↓reduceIte, Nat.reduceEqDiff, Nat.reduceAdd, reduceCtorEq, ld_boxa (hs79 _ _ hb57) (show 0 + 2 ≤ _ by simp), ld_boxa hb9 (show 0 + 2 ≤ _ by simp), fillV, List.length_cons, List.length_nil, splice, Nat.reduceLeDiff, Nat.zero_lt_one, and_self, List.take_zero, List.take_succ_cons, List.drop_succ_cons, List.drop_zero, List.drop_nil, Nat.reduceLT, Nat.le_refl]
        refine callC_pure (rSameLeast_spec (hx.mono (hs35.trans' (hs6.trans' (hs7.trans' hs79)))) (hy.mono hs79)) ?_
        simp only [go_sem, ↓reduceIte, Nat.reduceEqDiff, Nat.reduceAdd, reduceCtorEq]
        exact finO_self rfl
end Go.AM
namespace Go.Proofs.Ytopeeknimehmcaa
theorem viterbiEnumerates_holds : Rows.ViterbiEnumeratesSaid := Go.AM.viterbiEnumerates_over Go.AM.enum_main
#print axioms viterbiEnumerates_holds
end Go.Proofs.Ytopeeknimehmcaa
