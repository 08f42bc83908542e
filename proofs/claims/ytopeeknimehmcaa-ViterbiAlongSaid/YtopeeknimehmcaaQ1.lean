/- The document's AlongArgs, inRange, Compare, Same, Few. Conditions: none. -/
import Derived.Test.YtopeeknimehmcaaQ0
set_option linter.unusedVariables false
set_option linter.unusedSimpArgs false
namespace Go.AM
open Go Go.Proofs
attribute [local go_sem] c_skip c_ops c_seq c_ite c_blk c_exit c_ret t_normal t_exit t_ret b_normal b_exit b_ret i_nil i_cons s_guard s_mov s_pick s_new s_zero s_ld s_ldr s_st s_bin s_beq s_isnil s_eqs s_un s_conv s_fa s_fld s_ia s_sli s_ext s_ifc s_mkf s_agg s_len s_mm s_nilchk s_bsl s_mk s_app s_cpy s_call s_inv cells_agg cells_int cells_bool p_get p_none o_s o_c e_0 e_1 e_2 e_3 e_4 iteC_true iteC_false grd_tt grd_tf grd_ft grd_ff grd_und bindV_some pickV_t pickV_f beq_bool conv_int un_not not_dec mm_min mm_max bv_add bv_sub bv_mul bv_eql bv_neq bv_lss bv_leq bv_gtr bv_geq f_normal f_one f_two f_three f_none fa_ptr fld_one ext_tup len_sl len_nils decide_true decide_false not_true_eq_false not_false_eq_true List.map_cons List.map_nil List.append_nil List.cons_append List.nil_append Nat.zero_add Nat.add_zero Nat.mul_one Nat.succ_ne_self if_true if_false List.getElem?_cons_zero List.getElem?_cons_succ

/-- codewrightref49.inRange -/
def F43 : AF := ⟨38, [(2, none)], (.seq (.ops [⟨none, false, (some 2), (.mov (.c (.bool false)))⟩]) (.seq (.seq (.ops [⟨none, false, (some 3), (.mov (.c (.int .i64 (0))))⟩]) (.blk 0 (.loop (.seq (.seq (.ops [⟨none, false, (some 5), (.mov (.s 3))⟩, ⟨none, false, (some 6), (.mov (.s 0))⟩, ⟨none, false, (some 7), (.len (.s 6))⟩, ⟨none, false, (some 8), (.bin .lss (.s 5) (.s 7))⟩]) (.ite (.s 8) .skip (.exit 0))) (.seq (.blk 1 (.seq (.ops [⟨none, false, (some 4), (.mov (.c (.int .i64 (0))))⟩]) (.blk 2 (.loop (.seq (.seq (.ops [⟨none, false, (some 11), (.mov (.s 4))⟩, ⟨none, false, (some 12), (.mov (.s 0))⟩, ⟨none, false, (some 13), (.mov (.s 3))⟩, ⟨none, false, (some 14), (.ia 1 (.s 12) (.s 13))⟩, ⟨none, false, (some 15), (.ld false 1 (.s 14) none)⟩, ⟨none, false, (some 16), (.len (.s 15))⟩, ⟨none, false, (some 17), (.bin .lss (.s 11) (.s 16))⟩]) (.ite (.s 17) .skip (.exit 2))) (.seq (.blk 3 (.seq (.ops [⟨none, false, (some 20), (.mov (.s 0))⟩, ⟨none, false, (some 21), (.mov (.s 3))⟩, ⟨none, false, (some 22), (.ia 1 (.s 20) (.s 21))⟩, ⟨none, false, (some 23), (.ld false 1 (.s 22) none)⟩, ⟨none, false, (some 24), (.mov (.s 4))⟩, ⟨none, false, (some 25), (.ia 1 (.s 23) (.s 24))⟩, ⟨none, false, (some 26), (.ld false 1 (.s 25) none)⟩, ⟨none, false, (some 27), (.bin .lss (.s 26) (.c (.int .i64 (0))))⟩, ⟨none, false, (some 28), (.mov (.s 27))⟩, ⟨(some (28, false)), false, (some 29), (.mov (.s 0))⟩, ⟨(some (28, false)), false, (some 30), (.mov (.s 3))⟩, ⟨(some (28, false)), false, (some 31), (.ia 1 (.s 29) (.s 30))⟩, ⟨(some (28, false)), false, (some 32), (.ld false 1 (.s 31) none)⟩, ⟨(some (28, false)), false, (some 33), (.mov (.s 4))⟩, ⟨(some (28, false)), false, (some 34), (.ia 1 (.s 32) (.s 33))⟩, ⟨(some (28, false)), false, (some 35), (.ld false 1 (.s 34) none)⟩, ⟨(some (28, false)), false, (some 36), (.bin .gtr (.s 35) (.c (.int .i64 (2147483648))))⟩, ⟨none, false, (some 37), (.pick (.s 28) (.c (.bool true)) (.s 36))⟩]) (.ite (.s 37) (.seq (.ops [⟨none, false, (some 2), (.mov (.c (.bool false)))⟩]) .ret) .skip))) (.ops [⟨none, false, (some 18), (.mov (.s 4))⟩, ⟨none, false, (some 19), (.bin .add (.s 18) (.c (.int .i64 (1))))⟩, ⟨none, false, (some 4), (.mov (.s 19))⟩]))))))) (.ops [⟨none, false, (some 9), (.mov (.s 3))⟩, ⟨none, false, (some 10), (.bin .add (.s 9) (.c (.int .i64 (1))))⟩, ⟨none, false, (some 3), (.mov (.s 10))⟩])))))) (.seq (.ops [⟨none, false, (some 2), (.mov (.c (.bool true)))⟩]) .ret)))⟩
theorem cv43 : cvF Try.prog 43 = some F43 := by kernel_rfl

/-- codewrightref49.AlongArgs -/
def F13 : AF := ⟨54, [(4, none)], (.seq (.ops [⟨none, false, (some 2), (.new (.s 0))⟩, ⟨none, false, (some 4), (.mov (.c (.int .i64 (0))))⟩]) (.seq (.ops [⟨none, false, (some 8), (.ld true 2 (.s 2) none)⟩, ⟨none, false, (some 9), (.call (.c (.fn 19 [])) [(.s 8)])⟩, ⟨none, false, (some 5), (.mov (.s 9))⟩]) (.seq (.seq (.ops [⟨none, false, (some 10), (.mov (.s 5))⟩, ⟨none, false, (some 11), (.bin .neq (.s 10) (.c (.int .i64 (0))))⟩]) (.ite (.s 11) (.seq (.ops [⟨none, false, (some 12), (.mov (.s 5))⟩, ⟨none, false, (some 4), (.mov (.s 12))⟩]) .ret) .skip)) (.seq (.seq (.ops [⟨none, false, (some 13), (.mov (.s 1))⟩, ⟨none, false, (some 14), (.len (.s 13))⟩, ⟨none, false, (some 15), (.fa 1 (.s 2))⟩, ⟨none, false, (some 16), (.ld false 1 (.s 15) none)⟩, ⟨none, false, (some 17), (.len (.s 16))⟩, ⟨none, false, (some 18), (.bin .neq (.s 14) (.s 17))⟩]) (.ite (.s 18) (.seq (.ops [⟨none, false, (some 4), (.mov (.c (.int .i64 (3))))⟩]) .ret) .skip)) (.seq (.seq (.ops [⟨none, false, (some 6), (.mov (.c (.int .i64 (0))))⟩]) (.blk 0 (.loop (.seq (.seq (.ops [⟨none, false, (some 19), (.mov (.s 6))⟩, ⟨none, false, (some 20), (.fa 1 (.s 2))⟩, ⟨none, false, (some 21), (.ld false 1 (.s 20) none)⟩, ⟨none, false, (some 22), (.len (.s 21))⟩, ⟨none, false, (some 23), (.bin .lss (.s 19) (.s 22))⟩]) (.ite (.s 23) .skip (.exit 0))) (.seq (.blk 1 (.seq (.ops [⟨none, false, (some 7), (.mov (.c (.int .i64 (0))))⟩]) (.blk 2 (.loop (.seq (.seq (.ops [⟨none, false, (some 26), (.mov (.s 7))⟩, ⟨none, false, (some 27), (.fa 1 (.s 2))⟩, ⟨none, false, (some 28), (.ld false 1 (.s 27) none)⟩, ⟨none, false, (some 29), (.mov (.s 6))⟩, ⟨none, false, (some 30), (.ia 1 (.s 28) (.s 29))⟩, ⟨none, false, (some 31), (.ld false 1 (.s 30) none)⟩, ⟨none, false, (some 32), (.len (.s 31))⟩, ⟨none, false, (some 33), (.bin .lss (.s 26) (.s 32))⟩]) (.ite (.s 33) .skip (.exit 2))) (.seq (.blk 3 (.seq (.ops [⟨none, false, (some 36), (.fa 1 (.s 2))⟩, ⟨none, false, (some 38), (.mov (.s 6))⟩, ⟨none, false, (some 41), (.mov (.s 7))⟩, ⟨none, false, (some 45), (.mov (.s 1))⟩, ⟨none, false, (some 46), (.mov (.s 6))⟩, ⟨none, false, (some 47), (.ia 1 (.s 45) (.s 46))⟩, ⟨none, false, (some 37), (.ld false 1 (.s 36) none)⟩, ⟨none, false, (some 39), (.ia 1 (.s 37) (.s 38))⟩, ⟨none, false, (some 40), (.ld false 1 (.s 39) none)⟩, ⟨none, false, (some 42), (.ia 3 (.s 40) (.s 41))⟩, ⟨none, false, (some 43), (.fa 1 (.s 42))⟩, ⟨none, false, (some 44), (.ld false 1 (.s 43) none)⟩, ⟨none, false, (some 48), (.ld false 1 (.s 47) none)⟩, ⟨none, false, (some 49), (.len (.s 48))⟩, ⟨none, false, (some 50), (.bin .geq (.s 44) (.s 49))⟩]) (.ite (.s 50) (.seq (.ops [⟨none, false, (some 4), (.mov (.c (.int .i64 (3))))⟩]) .ret) .skip))) (.ops [⟨none, false, (some 34), (.mov (.s 7))⟩, ⟨none, false, (some 35), (.bin .add (.s 34) (.c (.int .i64 (1))))⟩, ⟨none, false, (some 7), (.mov (.s 35))⟩]))))))) (.ops [⟨none, false, (some 24), (.mov (.s 6))⟩, ⟨none, false, (some 25), (.bin .add (.s 24) (.c (.int .i64 (1))))⟩, ⟨none, false, (some 6), (.mov (.s 25))⟩])))))) (.seq (.seq (.ops [⟨none, false, (some 51), (.mov (.s 1))⟩, ⟨none, false, (some 52), (.call (.c (.fn 43 [])) [(.s 51)])⟩, ⟨none, false, (some 53), (.un .not (.s 52))⟩]) (.ite (.s 53) (.seq (.ops [⟨none, false, (some 4), (.mov (.c (.int .i64 (6))))⟩]) .ret) .skip)) (.seq (.ops [⟨none, false, (some 4), (.mov (.c (.int .i64 (0))))⟩]) .ret)))))))⟩
theorem cv13 : cvF Try.prog 13 = some F13 := by kernel_rfl

/-- codewrightref11.Compare -/
def F46 : AF := ⟨46, [(4, none)], (.seq (.ops [⟨none, false, (some 4), (.mov (.c (.int .i64 (0))))⟩]) (.seq (.seq (.ops [⟨none, false, (some 5), (.mov (.c (.int .i64 (0))))⟩]) (.blk 0 (.loop (.seq (.seq (.ops [⟨none, false, (some 6), (.mov (.s 5))⟩, ⟨none, false, (some 7), (.mov (.s 0))⟩, ⟨none, false, (some 8), (.len (.s 7))⟩, ⟨none, false, (some 9), (.bin .lss (.s 6) (.s 8))⟩, ⟨none, false, (some 10), (.mov (.s 9))⟩, ⟨(some (10, true)), false, (some 11), (.mov (.s 5))⟩, ⟨(some (10, true)), false, (some 12), (.mov (.s 1))⟩, ⟨(some (10, true)), false, (some 13), (.len (.s 12))⟩, ⟨(some (10, true)), false, (some 14), (.bin .lss (.s 11) (.s 13))⟩, ⟨none, false, (some 15), (.pick (.s 10) (.s 14) (.c (.bool false)))⟩]) (.ite (.s 15) .skip (.exit 0))) (.seq (.blk 1 (.seq (.seq (.ops [⟨none, false, (some 18), (.mov (.s 0))⟩, ⟨none, false, (some 19), (.mov (.s 5))⟩, ⟨none, false, (some 20), (.ia 1 (.s 18) (.s 19))⟩, ⟨none, false, (some 22), (.mov (.s 1))⟩, ⟨none, false, (some 23), (.mov (.s 5))⟩, ⟨none, false, (some 24), (.ia 1 (.s 22) (.s 23))⟩, ⟨none, false, (some 21), (.ld false 1 (.s 20) none)⟩, ⟨none, false, (some 25), (.ld false 1 (.s 24) none)⟩, ⟨none, false, (some 26), (.bin .lss (.s 21) (.s 25))⟩]) (.ite (.s 26) (.seq (.ops [⟨none, false, (some 4), (.mov (.c (.int .i64 (-1))))⟩]) .ret) .skip)) (.seq (.ops [⟨none, false, (some 27), (.mov (.s 0))⟩, ⟨none, false, (some 28), (.mov (.s 5))⟩, ⟨none, false, (some 29), (.ia 1 (.s 27) (.s 28))⟩, ⟨none, false, (some 31), (.mov (.s 1))⟩, ⟨none, false, (some 32), (.mov (.s 5))⟩, ⟨none, false, (some 33), (.ia 1 (.s 31) (.s 32))⟩, ⟨none, false, (some 30), (.ld false 1 (.s 29) none)⟩, ⟨none, false, (some 34), (.ld false 1 (.s 33) none)⟩, ⟨none, false, (some 35), (.bin .gtr (.s 30) (.s 34))⟩]) (.ite (.s 35) (.seq (.ops [⟨none, false, (some 4), (.mov (.c (.int .i64 (1))))⟩]) .ret) .skip)))) (.ops [⟨none, false, (some 16), (.mov (.s 5))⟩, ⟨none, false, (some 17), (.bin .add (.s 16) (.c (.int .i64 (1))))⟩, ⟨none, false, (some 5), (.mov (.s 17))⟩])))))) (.seq (.seq (.ops [⟨none, false, (some 36), (.mov (.s 0))⟩, ⟨none, false, (some 37), (.len (.s 36))⟩, ⟨none, false, (some 38), (.mov (.s 1))⟩, ⟨none, false, (some 39), (.len (.s 38))⟩, ⟨none, false, (some 40), (.bin .lss (.s 37) (.s 39))⟩]) (.ite (.s 40) (.seq (.ops [⟨none, false, (some 4), (.mov (.c (.int .i64 (-1))))⟩]) .ret) .skip)) (.seq (.seq (.ops [⟨none, false, (some 41), (.mov (.s 0))⟩, ⟨none, false, (some 42), (.len (.s 41))⟩, ⟨none, false, (some 43), (.mov (.s 1))⟩, ⟨none, false, (some 44), (.len (.s 43))⟩, ⟨none, false, (some 45), (.bin .gtr (.s 42) (.s 44))⟩]) (.ite (.s 45) (.seq (.ops [⟨none, false, (some 4), (.mov (.c (.int .i64 (1))))⟩]) .ret) .skip)) (.seq (.ops [⟨none, false, (some 4), (.mov (.c (.int .i64 (0))))⟩]) .ret)))))⟩
theorem cv46 : cvF Try.prog 46 = some F46 := by kernel_rfl

/-- codewrightref11.Same -/
def F15 : AF := ⟨9, [(4, none)], (.seq (.ops [⟨none, false, (some 4), (.mov (.c (.bool false)))⟩]) (.seq (.ops [⟨none, false, (some 5), (.mov (.s 0))⟩, ⟨none, false, (some 6), (.mov (.s 1))⟩, ⟨none, false, (some 7), (.call (.c (.fn 46 [])) [(.s 5), (.s 6)])⟩, ⟨none, false, (some 8), (.bin .eql (.s 7) (.c (.int .i64 (0))))⟩, ⟨none, false, (some 4), (.mov (.s 8))⟩]) .ret))⟩
theorem cv15 : cvF Try.prog 15 = some F15 := by kernel_rfl

/-- codewrightref47.Few -/
def F10 : AF := ⟨39, [(4, none)], (.seq (.ops [⟨none, false, (some 2), (.new (.s 0))⟩, ⟨none, false, (some 4), (.mov (.c (.bool false)))⟩]) (.seq (.ops [⟨none, false, (some 5), (.mov (.c (.int .i64 (0))))⟩]) (.seq (.seq (.ops [⟨none, false, (some 6), (.mov (.c (.int .i64 (0))))⟩]) (.blk 0 (.loop (.seq (.seq (.ops [⟨none, false, (some 7), (.mov (.s 6))⟩, ⟨none, false, (some 8), (.fa 1 (.s 2))⟩, ⟨none, false, (some 9), (.ld false 1 (.s 8) none)⟩, ⟨none, false, (some 10), (.len (.s 9))⟩, ⟨none, false, (some 11), (.bin .lss (.s 7) (.s 10))⟩, ⟨none, false, (some 12), (.mov (.s 11))⟩, ⟨(some (12, true)), false, (some 13), (.mov (.s 5))⟩, ⟨(some (12, true)), false, (some 14), (.mov (.s 1))⟩, ⟨(some (12, true)), false, (some 15), (.bin .leq (.s 13) (.s 14))⟩, ⟨none, false, (some 16), (.pick (.s 12) (.s 15) (.c (.bool false)))⟩]) (.ite (.s 16) .skip (.exit 0))) (.seq (.blk 1 (.ops [⟨none, false, (some 19), (.mov (.s 5))⟩, ⟨none, false, (some 20), (.fa 1 (.s 2))⟩, ⟨none, false, (some 21), (.ld false 1 (.s 20) none)⟩, ⟨none, false, (some 22), (.mov (.s 6))⟩, ⟨none, false, (some 23), (.ia 1 (.s 21) (.s 22))⟩, ⟨none, false, (some 24), (.ld false 1 (.s 23) none)⟩, ⟨none, false, (some 25), (.len (.s 24))⟩, ⟨none, false, (some 26), (.mov (.s 1))⟩, ⟨none, false, (some 27), (.bin .add (.s 26) (.c (.int .i64 (1))))⟩, ⟨none, false, (some 28), (.mm false (.s 25) (.s 27))⟩, ⟨none, false, (some 29), (.bin .add (.s 19) (.s 28))⟩, ⟨none, false, (some 5), (.mov (.s 29))⟩])) (.ops [⟨none, false, (some 17), (.mov (.s 6))⟩, ⟨none, false, (some 18), (.bin .add (.s 17) (.c (.int .i64 (1))))⟩, ⟨none, false, (some 6), (.mov (.s 18))⟩])))))) (.seq (.ops [⟨none, false, (some 30), (.mov (.s 5))⟩, ⟨none, false, (some 31), (.mov (.s 1))⟩, ⟨none, false, (some 32), (.bin .leq (.s 30) (.s 31))⟩, ⟨none, false, (some 33), (.mov (.s 32))⟩, ⟨(some (33, true)), false, (some 34), (.fa 1 (.s 2))⟩, ⟨(some (33, true)), false, (some 35), (.ld false 1 (.s 34) none)⟩, ⟨(some (33, true)), false, (some 36), (.len (.s 35))⟩, ⟨(some (33, true)), false, (some 37), (.bin .leq (.s 36) (.c (.int .i64 (100))))⟩, ⟨none, false, (some 38), (.pick (.s 33) (.s 37) (.c (.bool false)))⟩, ⟨none, false, (some 4), (.mov (.s 38))⟩]) .ret))))⟩
theorem cv10 : cvF Try.prog 10 = some F10 := by kernel_rfl


theorem inRange_spec {cv : V} {costs : List (List Int)} {H : Heap} (hc : SRows H cv costs) : ACalls Try.prog 43 [cv] H fun u H' => (∃ b, u = .bool b ∧ (b = true ↔ ¬ OutC costs)) ∧ H' = H := by
  refine ACalls.of_body hm cv43 (by simp only [List.length_cons, List.length_nil]; decide) ?_
  have hlt := SLists.lt hc
  simp only [F43, go_sem, ↓reduceIte, Nat.reduceEqDiff, Nat.reduceAdd, reduceCtorEq]
  refine loop_count costs.length (fun k env H' => H = H' ∧ env 0 = cv ∧ env 3 = .int .i64 k ∧ ∀ i, (h : i < costs.length) → i < k → ∀ x ∈ costs[i], ¬ (x < 0 ∨ 2147483648 < x)) ?_ ?_ ?_
  · simp only [go_sem, ↓reduceIte, Nat.reduceEqDiff, Nat.reduceAdd, reduceCtorEq]; simp
  · rintro k env H' hk ⟨rfl, h0, h3, hz⟩
    obtain ⟨p, u, a1, a2, a3⟩ := SLists.get hc hk .i64
    have hl3 := a3.lt
    have hk' : (k : Int) < costs.length := by omega
    simp only [go_sem, ↓reduceIte, Nat.reduceEqDiff, Nat.reduceAdd, reduceCtorEq, h0, h3, SLists.len hc, hk']
    refine loop_count costs[k].length (fun j env H' => H = H' ∧ env 0 = cv ∧ env 3 = .int .i64 k ∧ env 4 = .int .i64 j ∧ ∀ i, (h : i < costs[k].length) → i < j → ¬ (costs[k][i] < 0 ∨ 2147483648 < costs[k][i])) ?_ ?_ ?_
    · simp only [go_sem, ↓reduceIte, Nat.reduceEqDiff, Nat.reduceAdd, reduceCtorEq, h0, h3]; simp
    · rintro j env H' hj ⟨rfl, h0, h3, h4, hy⟩
      have hj' : (j : Int) < costs[k].length := by omega
      obtain ⟨q, b1, b2⟩ := a3.get hj .i64
      have six : (costs[k][j] < 0 ∨ 2147483648 < costs[k][j]) → finO (.bool false) H fun u H' => (∃ b, u = .bool b ∧ (b = true ↔ ¬ OutC costs)) ∧ H' = H := fun h => finO_self ⟨⟨false, rfl, by simp; exact ⟨_, List.getElem_mem hk, _, List.getElem_mem hj, h⟩⟩, rfl⟩
      simp only [go_sem, ↓reduceIte, Nat.reduceEqDiff, Nat.reduceAdd, reduceCtorEq, h0, h3, h4, a1, a2, a3.len, hj', b1, b2]
      by_cases d1 : costs[k][j] < 0
      · simp only [d1, go_sem, ↓reduceIte, Nat.reduceEqDiff, Nat.reduceAdd, reduceCtorEq]
        exact six (.inl d1)
      simp only [d1, go_sem, ↓reduceIte, Nat.reduceEqDiff, Nat.reduceAdd, reduceCtorEq, h0, h3, h4, a1, a2, b1, b2]
      refine iteC_if (fun d2 => ?_) (fun d2 => ?_)
      · simp only [go_sem, ↓reduceIte, Nat.reduceEqDiff, Nat.reduceAdd, reduceCtorEq]
        exact six (.inr d2)
      simp only [go_sem, ↓reduceIte, Nat.reduceEqDiff, Nat.reduceAdd, reduceCtorEq, h0, h3, h4]
      rw [wrapN1 (by omega)]
      refine ⟨by trivial, by trivial, by trivial, by trivial, fun i h hi => ?_⟩
      rcases Nat.lt_succ_iff_lt_or_eq.1 hi with hi | rfl
      · exact hy i h hi
      · exact fun h => h.elim d1 d2
    · rintro env H' ⟨rfl, h0, h3, h4, hy⟩
      simp only [go_sem, ↓reduceIte, Nat.reduceEqDiff, Nat.reduceAdd, reduceCtorEq, h0, h3, h4, a1, a2, a3.len, Int.lt_irrefl]
      rw [wrapN1 (by omega)]
      refine ⟨by trivial, by trivial, by trivial, fun i h hi => ?_⟩
      rcases Nat.lt_succ_iff_lt_or_eq.1 hi with hi | rfl
      · exact hz i h hi
      · intro x hx
        obtain ⟨j, hj, rfl⟩ := List.getElem_of_mem hx
        exact hy j hj hj
  · rintro env H' ⟨rfl, h0, h3, hz⟩
    simp only [go_sem, ↓reduceIte, Nat.reduceEqDiff, Nat.reduceAdd, reduceCtorEq, h0, h3, SLists.len hc, Int.lt_irrefl]
    refine finO_self ⟨⟨true, rfl, ?_⟩, rfl⟩
    simp only [true_iff]
    rintro ⟨l, hl, x, hx, h⟩
    obtain ⟨i, hi, rfl⟩ := List.getElem_of_mem hl
    exact hz i hi hi x hx h

theorem AlongArgs_spec {sv ev cv : V} {ws : List Int} {es : List (List Ed)} {costs : List (List Int)} {H : Heap} (hs : SInts H sv ws) (he : SSecs H ev es) (hc : SRows H cv costs) :
    ACalls Try.prog 13 [.agg [sv, ev], cv] H fun u H' => u = .int .i64 (alongI ws es costs) ∧ H' = H := by
  refine ACalls.of_body hm cv13 (by simp only [List.length_cons, List.length_nil]; decide) ?_
  simp only [F13, go_sem, ↓reduceIte, Nat.reduceEqDiff, Nat.reduceAdd, reduceCtorEq]
  refine newC_intro fun n1 H1 hn1 hs1 hb1 => ?_
  simp only [ld_boxa hb1 (show 0 + 2 ≤ _ by simp), fillV, List.length_cons, List.length_nil, splice, Nat.reduceLeDiff, Nat.zero_lt_one, and_self, List.take_zero, List.take_succ_cons, List.drop_succ_cons, List.drop_zero, List.drop_nil, Nat.reduceLT, Nat.le_refl, go_sem, ↓reduceIte, Nat.reduceEqDiff, Nat.reduceAdd, reduceCtorEq]
  refine callC_pure (rProper_spec (hs.mono hs1) (SSecs.mono he hs1)) ?_
  simp only [go_sem, ↓reduceIte, Nat.reduceEqDiff, Nat.reduceAdd, reduceCtorEq]
  refine iteC_if (fun c0 => ?_) (fun c0 => ?_)
  · simp only [go_sem, ↓reduceIte, Nat.reduceEqDiff, Nat.reduceAdd, reduceCtorEq]
    exact finO_sub hs1 ⟨by rw [alongI, if_pos c0], rfl⟩
  have hp0 : properI ws es = 0 := by omega
  obtain ⟨h0, _, _, hgood⟩ := proper_of hp0
  have sh := shaped_of h0
  have hn := sh.n
  simp only [go_sem, ↓reduceIte, Nat.reduceEqDiff, Nat.reduceAdd, reduceCtorEq, ld_box hb1, SLists.len he, SLists.len hc]
  refine iteC_if (fun c1 => ?_) (fun c1 => ?_)
  · simp only [go_sem, ↓reduceIte, Nat.reduceEqDiff, Nat.reduceAdd, reduceCtorEq]
    exact finO_sub hs1 ⟨by rw [alongI, if_neg (by omega), if_pos (by omega)], rfl⟩
  have hl : costs.length = es.length := by omega
  simp only [go_sem, ↓reduceIte, Nat.reduceEqDiff, Nat.reduceAdd, reduceCtorEq]
  refine loop_count es.length (fun k env H' => H1 = H' ∧ env 1 = cv ∧ env 2 = .ptr n1 0 ∧ env 6 = .int .i64 k ∧ ∀ i, (h : i < es.length) → i < k → ∀ e ∈ es[i], e.lb < (costs[i]'(by omega)).length) ?_ ?_ ?_
  · simp only [go_sem, ↓reduceIte, Nat.reduceEqDiff, Nat.reduceAdd, reduceCtorEq]; simp
  · rintro k env H' hk ⟨rfl, h1, h2, h6, hz⟩
    obtain ⟨p, ue, a1, a2, a3⟩ := (SSecs.mono he hs1).get hk .i64
    obtain ⟨pc, uc, b1, b2, b3⟩ := (SRows.mono hc hs1).get (k := k) (by omega) .i64
    have hlk := sh.each k hk
    have hk' : (k : Int) < es.length := by omega
    simp only [go_sem, ↓reduceIte, Nat.reduceEqDiff, Nat.reduceAdd, reduceCtorEq, h1, h2, h6, ld_box hb1, SLists.len he, hk']
    refine loop_count es[k].length (fun j env H' => H1 = H' ∧ env 1 = cv ∧ env 2 = .ptr n1 0 ∧ env 6 = .int .i64 k ∧ env 7 = .int .i64 j ∧ ∀ i, (h : i < es[k].length) → i < j → es[k][i].lb < (costs[k]'(by omega)).length) ?_ ?_ ?_
    · simp only [go_sem, ↓reduceIte, Nat.reduceEqDiff, Nat.reduceAdd, reduceCtorEq, h1, h2, h6]; simp
    · rintro j env H' hj ⟨rfl, h1, h2, h6, h7, hy⟩
      have hj' : (j : Int) < es[k].length := by omega
      obtain ⟨p, q0, q1, q2, c1, c2, f0, f1, f2, g0, g1, g2⟩ := a3.get hj .i64
      simp only [go_sem, ↓reduceIte, Nat.reduceEqDiff, Nat.reduceAdd, reduceCtorEq, h1, h2, h6, h7, ld_box hb1, a1, a2, a3.len, hj', b1, b2, b3.len, c1, f1, g1]
      refine iteC_if (fun d => ?_) (fun d => ?_)
      · simp only [go_sem, ↓reduceIte, Nat.reduceEqDiff, Nat.reduceAdd, reduceCtorEq]
        have hbl : BadL es costs := ⟨k, hk, _, List.getElem_mem hj, by simp only [show k < costs.length by omega, List.getElem?_eq_getElem, Option.getD_some]; exact d⟩
        refine finO_sub hs1 ⟨?_, rfl⟩
        rw [alongI, if_neg (by omega), if_neg (by omega), if_pos hbl]
      simp only [go_sem, ↓reduceIte, Nat.reduceEqDiff, Nat.reduceAdd, reduceCtorEq, h1, h2, h6, h7]
      rw [wrapN1 (by omega)]
      refine ⟨by trivial, by trivial, by trivial, by trivial, by trivial, fun i h hi => ?_⟩
      rcases Nat.lt_succ_iff_lt_or_eq.1 hi with hi | rfl
      · exact hy i h hi
      · omega
    · rintro env H' ⟨rfl, h1, h2, h6, h7, hy⟩
      simp only [go_sem, ↓reduceIte, Nat.reduceEqDiff, Nat.reduceAdd, reduceCtorEq, h1, h2, h6, h7, ld_box hb1, a1, a2, a3.len, Int.lt_irrefl]
      rw [wrapN1 (by omega)]
      refine ⟨by trivial, by trivial, by trivial, by trivial, fun i h hi => ?_⟩
      rcases Nat.lt_succ_iff_lt_or_eq.1 hi with hi | rfl
      · exact hz i h hi
      · intro e he'
        obtain ⟨j, hj, rfl⟩ := List.getElem_of_mem he'
        exact hy j hj hj
  rintro env H' ⟨rfl, h1, h2, h6, hz⟩
  have nb : ¬ BadL es costs := by
    rintro ⟨i, hi, e, he', hb⟩
    have := hz i hi hi e he'
    simp only [show i < costs.length by omega, List.getElem?_eq_getElem, Option.getD_some] at hb
    omega
  have e : alongI ws es costs = pricedI costs := by rw [alongI, if_neg (by omega), if_neg (by omega), if_neg nb]
  simp only [go_sem, ↓reduceIte, Nat.reduceEqDiff, Nat.reduceAdd, reduceCtorEq, h1, h2, h6, ld_box hb1, SLists.len he, Int.lt_irrefl]
  refine callC_any (inRange_spec (SRows.mono hc hs1)) ?_
  rintro u H' ⟨⟨b, rfl, hb⟩, rfl⟩
  simp only [go_sem, ↓reduceIte, Nat.reduceEqDiff, Nat.reduceAdd, reduceCtorEq]
  cases b
  · simp only [go_sem, ↓reduceIte, Nat.reduceEqDiff, Nat.reduceAdd, reduceCtorEq, Bool.not_false]
    have : OutC costs := Classical.byContradiction fun h => by have := hb.2 h; cases this
    exact finO_sub hs1 ⟨by rw [e, pricedI, if_pos this], rfl⟩
  · simp only [go_sem, ↓reduceIte, Nat.reduceEqDiff, Nat.reduceAdd, reduceCtorEq, Bool.not_true]
    exact finO_sub hs1 ⟨by rw [e, pricedI, if_neg (hb.1 rfl)], rfl⟩

theorem rCompare_spec {av bv : V} {xa xb : List Int} {H : Heap} (ha : SInts H av xa) (hb : SInts H bv xb) : ACalls Try.prog 46 [av, bv] H fun u H' => (∃ n : Int, u = .int .i64 n ∧ (n = 0 ↔ xa = xb)) ∧ H' = H := by
  refine ACalls.of_body hm cv46 (by simp only [List.length_cons, List.length_nil]; decide) ?_
  have hla := ha.lt
  have hlb := hb.lt
  simp only [F46, go_sem, ↓reduceIte, Nat.reduceEqDiff, Nat.reduceAdd, reduceCtorEq]
  have fin0 : ∀ (n : Int), n ≠ 0 → xa ≠ xb → finO (.int .i64 n) H fun u H' => (∃ n : Int, u = .int .i64 n ∧ (n = 0 ↔ xa = xb)) ∧ H' = H := fun n h1 h2 => finO_self ⟨⟨n, rfl, by simp [h1, h2]⟩, rfl⟩
  refine loop_count xa.length (fun k env H' => H = H' ∧ env 0 = av ∧ env 1 = bv ∧ env 5 = .int .i64 k ∧ k ≤ xb.length ∧ ∀ i, (h : i < xa.length) → (h' : i < xb.length) → i < k → xa[i] = xb[i]) ?_ ?_ ?_
  · simp only [go_sem, ↓reduceIte, Nat.reduceEqDiff, Nat.reduceAdd, reduceCtorEq]; simp
  · rintro k env H' hk ⟨rfl, h0, h1, h5, hkb, hz⟩
    have hk' : (k : Int) < xa.length := by omega
    simp only [go_sem, ↓reduceIte, Nat.reduceEqDiff, Nat.reduceAdd, reduceCtorEq, h0, h1, h5, ha.len, hb.len, hk']
    by_cases c : (k : Int) < xb.length
    · have hkb' : k < xb.length := by omega
      obtain ⟨p, a1, a2⟩ := ha.get hk .i64
      obtain ⟨q, b1, b2⟩ := hb.get hkb' .i64
      have ne : ∀ h : xa[k] ≠ xb[k], xa ≠ xb := fun h e => by subst e; exact h rfl
      simp only [c, go_sem, ↓reduceIte, Nat.reduceEqDiff, Nat.reduceAdd, reduceCtorEq, h0, h1, h5, a1, a2, b1, b2]
      refine iteC_if (fun d => ?_) (fun d => ?_)
      · simp only [go_sem, ↓reduceIte, Nat.reduceEqDiff, Nat.reduceAdd, reduceCtorEq]
        exact fin0 _ (by decide) (ne (by omega))
      simp only [go_sem, ↓reduceIte, Nat.reduceEqDiff, Nat.reduceAdd, reduceCtorEq, h0, h1, h5, a1, a2, b1, b2]
      refine iteC_if (fun d' => ?_) (fun d' => ?_)
      · simp only [go_sem, ↓reduceIte, Nat.reduceEqDiff, Nat.reduceAdd, reduceCtorEq]
        exact fin0 _ (by decide) (ne (by omega))
      simp only [go_sem, ↓reduceIte, Nat.reduceEqDiff, Nat.reduceAdd, reduceCtorEq, h0, h1, h5]
      rw [wrapN1 (by omega)]
      refine ⟨by trivial, by trivial, by trivial, by trivial, by omega, fun i h h' hi => ?_⟩
      rcases Nat.lt_succ_iff_lt_or_eq.1 hi with hi | rfl
      · exact hz i h h' hi
      · omega
    · have hne : xa ≠ xb := fun e => by subst e; omega
      have g1 : ¬ (xa.length : Int) < xb.length := by omega
      have g2 : (xb.length : Int) < xa.length := by omega
      simp only [c, go_sem, ↓reduceIte, Nat.reduceEqDiff, Nat.reduceAdd, reduceCtorEq, h0, h1, ha.len, hb.len, g1, g2]
      exact fin0 _ (by decide) hne
  · rintro env H' ⟨rfl, h0, h1, h5, hkb, hz⟩
    simp only [go_sem, ↓reduceIte, Nat.reduceEqDiff, Nat.reduceAdd, reduceCtorEq, h0, h1, h5, ha.len, hb.len, Int.lt_irrefl]
    refine iteC_if (fun d => ?_) (fun d => ?_)
    · simp only [go_sem, ↓reduceIte, Nat.reduceEqDiff, Nat.reduceAdd, reduceCtorEq]
      exact fin0 _ (by decide) (fun e => by subst e; omega)
    have g2 : ¬ (xb.length : Int) < xa.length := by omega
    simp only [go_sem, ↓reduceIte, Nat.reduceEqDiff, Nat.reduceAdd, reduceCtorEq, h0, h1, ha.len, hb.len, g2]
    refine finO_self ⟨⟨0, rfl, by
      simp only [true_iff]
      exact List.ext_getElem (by omega) fun i h h' => hz i h h' h⟩, rfl⟩

theorem rSame_spec {av bv : V} {xa xb : List Int} {H : Heap} (ha : SInts H av xa) (hb : SInts H bv xb) : ACalls Try.prog 15 [av, bv] H fun u H' => u = .bool (decide (xa = xb)) ∧ H' = H := by
  refine ACalls.of_body hm cv15 (by simp only [List.length_cons, List.length_nil]; decide) ?_
  simp only [F15, go_sem, ↓reduceIte, Nat.reduceEqDiff, Nat.reduceAdd, reduceCtorEq]
  refine callC_any (rCompare_spec ha hb) ?_
  rintro u H' ⟨⟨n, rfl, hn⟩, rfl⟩
  simp only [go_sem, ↓reduceIte, Nat.reduceEqDiff, Nat.reduceAdd, reduceCtorEq]
  exact finO_self ⟨by simp [hn], rfl⟩

/-- Few: a bool; and where it's true, all is small -/
theorem Few_spec {sv ev : V} {ws : List Int} {es : List (List Ed)} {H : Heap} {most : Int} (hm0 : 0 ≤ most) (hm1 : most ≤ 100000) (he : SSecs H ev es) : ACalls Try.prog 10 [.agg [sv, ev], .int .i64 most] H fun u H' => (∃ b, u = .bool b) ∧ H' = H := by
  refine ACalls.of_body hm cv10 (by simp only [List.length_cons, List.length_nil]; decide) ?_
  have hlt := SLists.lt he
  simp only [F10, go_sem, ↓reduceIte, Nat.reduceEqDiff, Nat.reduceAdd, reduceCtorEq]
  refine newC_intro fun n1 H1 hn1 hs1 hb1 => ?_
  simp only [go_sem, ↓reduceIte, Nat.reduceEqDiff, Nat.reduceAdd, reduceCtorEq]
  refine loop_count es.length (fun k env H' => H1 = H' ∧ env 2 = .ptr n1 0 ∧ env 1 = .int .i64 most ∧ env 6 = .int .i64 k ∧ ∃ n : Int, env 5 = .int .i64 n ∧ 0 ≤ n ∧ n ≤ 300000) ?_ ?_ ?_
  · simp only [go_sem, ↓reduceIte, Nat.reduceEqDiff, Nat.reduceAdd, reduceCtorEq]
    exact ⟨by trivial, by trivial, by trivial, by trivial, 0, rfl, by omega, by omega⟩
  · rintro k env H' hk ⟨rfl, h2, h1, h6, n, h5, hn0, hn1⟩
    obtain ⟨p, ue, a1, a2, a3⟩ := (SSecs.mono he hs1).get hk .i64
    have hl3 := a3.lt
    have hk' : (k : Int) < es.length := by omega
    simp only [go_sem, ↓reduceIte, Nat.reduceEqDiff, Nat.reduceAdd, reduceCtorEq, h2, h1, h6, h5, ld_box hb1, SLists.len he, hk']
    refine iteC_if (fun c => ?_) (fun c => ?_)
    · simp (disch := omega) only [go_sem, ↓reduceIte, Nat.reduceEqDiff, Nat.reduceAdd, reduceCtorEq, h2, h1, h6, h5, ld_box hb1, a1, a2, a3.len, wrapI]
      by_cases d : most + 1 < (es[k].length : Int)
      · simp (disch := omega) only [d, go_sem, ↓reduceIte, Nat.reduceEqDiff, Nat.reduceAdd, reduceCtorEq, h2, h1, h6, h5, wrapI]
        exact ⟨by trivial, by trivial, by trivial, by rw [Int.natCast_add]; rfl, n + (most + 1), rfl, by omega, by omega⟩
      · simp (disch := omega) only [d, go_sem, ↓reduceIte, Nat.reduceEqDiff, Nat.reduceAdd, reduceCtorEq, h2, h1, h6, h5, wrapI]
        exact ⟨by trivial, by trivial, by trivial, by rw [Int.natCast_add]; rfl, n + es[k].length, rfl, by omega, by omega⟩
    · simp only [c, go_sem, ↓reduceIte, Nat.reduceEqDiff, Nat.reduceAdd, reduceCtorEq, h2, h1, h5]
      exact finO_sub hs1 ⟨⟨_, rfl⟩, rfl⟩
  · rintro env H' ⟨rfl, h2, h1, h6, n, h5, hn0, hn1⟩
    simp only [go_sem, ↓reduceIte, Nat.reduceEqDiff, Nat.reduceAdd, reduceCtorEq, h2, h1, h6, h5, ld_box hb1, SLists.len he, Int.lt_irrefl]
    by_cases c : n ≤ most
    · simp only [c, go_sem, ↓reduceIte, Nat.reduceEqDiff, Nat.reduceAdd, reduceCtorEq, h2, ld_box hb1, SLists.len he]
      exact finO_sub hs1 ⟨⟨_, rfl⟩, rfl⟩
    · simp only [c, go_sem, ↓reduceIte, Nat.reduceEqDiff, Nat.reduceAdd, reduceCtorEq]
      exact finO_sub hs1 ⟨⟨_, rfl⟩, rfl⟩
end Go.AM
