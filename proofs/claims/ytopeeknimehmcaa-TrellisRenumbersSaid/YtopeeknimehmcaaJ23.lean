/- slices.Equal of ints and of edges, EqualFunc, trellis.Isomorphic, the reference's Same. Conditions: none. -/
import Derived.Test.YtopeeknimehmcaaJ22
set_option linter.unusedVariables false
set_option linter.unusedSimpArgs false
namespace Go.AM
open Go Go.Proofs
attribute [local go_sem] c_skip c_ops c_seq c_ite c_blk c_exit c_ret t_normal t_exit t_ret b_normal b_exit b_ret i_nil i_cons s_guard s_mov s_pick s_new s_zero s_ld s_ldr s_st s_bin s_beq s_isnil s_eqs s_un s_conv s_fa s_fld s_ia s_sli s_ext s_ifc s_mkf s_agg s_len s_mm s_nilchk s_bsl s_mk s_app s_cpy s_call s_inv cells_agg cells_int cells_bool p_get p_none o_s o_c e_0 e_1 e_2 e_3 e_4 iteC_true iteC_false grd_tt grd_tf grd_ft grd_ff grd_und bindV_some pickV_t pickV_f beq_bool conv_int un_not not_dec mm_min mm_max bv_add bv_sub bv_mul bv_eql bv_neq bv_lss bv_leq bv_gtr bv_geq f_normal f_one f_two f_three f_none fa_ptr fld_one ext_tup len_sl len_nils decide_true decide_false not_true_eq_false not_false_eq_true List.map_cons List.map_nil List.append_nil List.cons_append List.nil_append Nat.zero_add Nat.add_zero Nat.mul_one Nat.succ_ne_self if_true if_false List.getElem?_cons_zero List.getElem?_cons_succ

/-- slices.Equal[[]int,int] -/
def F74 : AF := ⟨26, [(4, none)], (.seq (.ops [⟨none, false, (some 4), (.mov (.c (.bool false)))⟩]) (.seq (.seq (.ops [⟨none, false, (some 6), (.mov (.s 0))⟩, ⟨none, false, (some 7), (.len (.s 6))⟩, ⟨none, false, (some 8), (.mov (.s 1))⟩, ⟨none, false, (some 9), (.len (.s 8))⟩, ⟨none, false, (some 10), (.bin .neq (.s 7) (.s 9))⟩]) (.ite (.s 10) (.seq (.ops [⟨none, false, (some 4), (.mov (.c (.bool false)))⟩]) .ret) .skip)) (.seq (.seq (.ops [⟨none, false, (some 11), (.mov (.s 0))⟩, ⟨none, false, (some 12), (.len (.s 11))⟩, ⟨none, false, (some 13), (.mov (.c (.int .i64 (0))))⟩]) (.blk 0 (.loop (.seq (.ops [⟨none, false, (some 14), (.bin .lss (.s 13) (.s 12))⟩]) (.seq (.ite (.s 14) .skip (.exit 0)) (.seq (.blk 1 (.seq (.ops [⟨none, false, (some 15), (.mov (.s 13))⟩, ⟨none, false, (some 5), (.mov (.s 15))⟩]) (.seq (.ops [⟨none, false, (some 16), (.mov (.s 0))⟩, ⟨none, false, (some 17), (.mov (.s 5))⟩, ⟨none, false, (some 18), (.ia 1 (.s 16) (.s 17))⟩, ⟨none, false, (some 20), (.mov (.s 1))⟩, ⟨none, false, (some 21), (.mov (.s 5))⟩, ⟨none, false, (some 22), (.ia 1 (.s 20) (.s 21))⟩, ⟨none, false, (some 19), (.ld false 1 (.s 18) none)⟩, ⟨none, false, (some 23), (.ld false 1 (.s 22) none)⟩, ⟨none, false, (some 24), (.bin .neq (.s 19) (.s 23))⟩]) (.ite (.s 24) (.seq (.ops [⟨none, false, (some 4), (.mov (.c (.bool false)))⟩]) .ret) .skip)))) (.ops [⟨none, false, (some 25), (.bin .add (.s 13) (.c (.int .i64 (1))))⟩, ⟨none, false, (some 13), (.mov (.s 25))⟩]))))))) (.seq (.ops [⟨none, false, (some 4), (.mov (.c (.bool true)))⟩]) .ret))))⟩
theorem cv74 : cvF Try.prog 74 = some F74 := by kernel_rfl

/-- slices.Equal[[]api.Edge,api.Edge] -/
def F76 : AF := ⟨26, [(4, none)], (.seq (.ops [⟨none, false, (some 4), (.mov (.c (.bool false)))⟩]) (.seq (.seq (.ops [⟨none, false, (some 6), (.mov (.s 0))⟩, ⟨none, false, (some 7), (.len (.s 6))⟩, ⟨none, false, (some 8), (.mov (.s 1))⟩, ⟨none, false, (some 9), (.len (.s 8))⟩, ⟨none, false, (some 10), (.bin .neq (.s 7) (.s 9))⟩]) (.ite (.s 10) (.seq (.ops [⟨none, false, (some 4), (.mov (.c (.bool false)))⟩]) .ret) .skip)) (.seq (.seq (.ops [⟨none, false, (some 11), (.mov (.s 0))⟩, ⟨none, false, (some 12), (.len (.s 11))⟩, ⟨none, false, (some 13), (.mov (.c (.int .i64 (0))))⟩]) (.blk 0 (.loop (.seq (.ops [⟨none, false, (some 14), (.bin .lss (.s 13) (.s 12))⟩]) (.seq (.ite (.s 14) .skip (.exit 0)) (.seq (.blk 1 (.seq (.ops [⟨none, false, (some 15), (.mov (.s 13))⟩, ⟨none, false, (some 5), (.mov (.s 15))⟩]) (.seq (.ops [⟨none, false, (some 16), (.mov (.s 0))⟩, ⟨none, false, (some 17), (.mov (.s 5))⟩, ⟨none, false, (some 18), (.ia 3 (.s 16) (.s 17))⟩, ⟨none, false, (some 20), (.mov (.s 1))⟩, ⟨none, false, (some 21), (.mov (.s 5))⟩, ⟨none, false, (some 22), (.ia 3 (.s 20) (.s 21))⟩, ⟨none, false, (some 19), (.ld true 3 (.s 18) none)⟩, ⟨none, false, (some 23), (.ld true 3 (.s 22) none)⟩, ⟨none, false, (some 24), (.eqs true 3 (.s 19) (.s 23))⟩]) (.ite (.s 24) (.seq (.ops [⟨none, false, (some 4), (.mov (.c (.bool false)))⟩]) .ret) .skip)))) (.ops [⟨none, false, (some 25), (.bin .add (.s 13) (.c (.int .i64 (1))))⟩, ⟨none, false, (some 13), (.mov (.s 25))⟩]))))))) (.seq (.ops [⟨none, false, (some 4), (.mov (.c (.bool true)))⟩]) .ret))))⟩
theorem cv76 : cvF Try.prog 76 = some F76 := by kernel_rfl

/-- slices.EqualFunc[[][]api.Edge,[][]api.Edge,[]api.Edge,[]api.Edge] -/
def F75 : AF := ⟨32, [(6, none)], (.seq (.ops [⟨none, false, (some 6), (.mov (.c (.bool false)))⟩]) (.seq (.seq (.ops [⟨none, false, (some 10), (.mov (.s 0))⟩, ⟨none, false, (some 11), (.len (.s 10))⟩, ⟨none, false, (some 12), (.mov (.s 1))⟩, ⟨none, false, (some 13), (.len (.s 12))⟩, ⟨none, false, (some 14), (.bin .neq (.s 11) (.s 13))⟩]) (.ite (.s 14) (.seq (.ops [⟨none, false, (some 6), (.mov (.c (.bool false)))⟩]) .ret) .skip)) (.seq (.seq (.ops [⟨none, false, (some 15), (.mov (.s 0))⟩, ⟨none, false, (some 16), (.len (.s 15))⟩, ⟨none, false, (some 17), (.mov (.c (.int .i64 (0))))⟩]) (.blk 0 (.loop (.seq (.ops [⟨none, false, (some 18), (.bin .lss (.s 17) (.s 16))⟩]) (.seq (.ite (.s 18) .skip (.exit 0)) (.seq (.blk 1 (.seq (.ops [⟨none, false, (some 19), (.mov (.s 17))⟩, ⟨none, false, (some 20), (.ia 1 (.s 15) (.s 17))⟩, ⟨none, false, (some 21), (.ld false 1 (.s 20) none)⟩, ⟨none, false, (some 7), (.mov (.s 19))⟩, ⟨none, false, (some 8), (.mov (.s 21))⟩]) (.seq (.ops [⟨none, false, (some 22), (.mov (.s 1))⟩, ⟨none, false, (some 23), (.mov (.s 7))⟩, ⟨none, false, (some 24), (.ia 1 (.s 22) (.s 23))⟩, ⟨none, false, (some 25), (.ld false 1 (.s 24) none)⟩, ⟨none, false, (some 9), (.mov (.s 25))⟩]) (.seq (.ops [⟨none, false, (some 26), (.mov (.s 2))⟩, ⟨none, false, (some 27), (.mov (.s 8))⟩, ⟨none, false, (some 28), (.mov (.s 9))⟩, ⟨none, false, (some 29), (.call (.s 26) [(.s 27), (.s 28)])⟩, ⟨none, false, (some 30), (.un .not (.s 29))⟩]) (.ite (.s 30) (.seq (.ops [⟨none, false, (some 6), (.mov (.c (.bool false)))⟩]) .ret) .skip))))) (.ops [⟨none, false, (some 31), (.bin .add (.s 17) (.c (.int .i64 (1))))⟩, ⟨none, false, (some 17), (.mov (.s 31))⟩]))))))) (.seq (.ops [⟨none, false, (some 6), (.mov (.c (.bool true)))⟩]) .ret))))⟩
theorem cv75 : cvF Try.prog 75 = some F75 := by kernel_rfl

/-- trellis.Isomorphic -/
def F39 : AF := ⟨39, [(4, none)], (.seq (.ops [⟨none, false, (some 2), (.new (.s 0))⟩, ⟨none, false, (some 3), (.new (.s 1))⟩, ⟨none, false, (some 4), (.mov (.c (.bool false)))⟩]) (.seq (.ops [⟨none, false, (some 10), (.ld true 2 (.s 2) none)⟩, ⟨none, false, (some 11), (.call (.c (.fn 35 [])) [(.s 10)])⟩, ⟨none, false, (some 9), (.mov (.s 11))⟩, ⟨none, false, (some 12), (.ext (.s 9) 0)⟩, ⟨none, false, (some 13), (.ext (.s 9) 1)⟩, ⟨none, false, (some 5), (.zero [.nils, .nils])⟩, ⟨none, false, none, (.st 2 (.s 5) (.s 12) [])⟩, ⟨none, false, (some 6), (.mov (.s 13))⟩]) (.seq (.ops [⟨none, false, (some 15), (.ld true 2 (.s 3) none)⟩, ⟨none, false, (some 16), (.call (.c (.fn 35 [])) [(.s 15)])⟩, ⟨none, false, (some 14), (.mov (.s 16))⟩, ⟨none, false, (some 17), (.ext (.s 14) 0)⟩, ⟨none, false, (some 18), (.ext (.s 14) 1)⟩, ⟨none, false, (some 7), (.zero [.nils, .nils])⟩, ⟨none, false, none, (.st 2 (.s 7) (.s 17) [])⟩, ⟨none, false, (some 8), (.mov (.s 18))⟩]) (.seq (.ops [⟨none, false, (some 19), (.mov (.s 6))⟩, ⟨none, false, (some 20), (.bin .eql (.s 19) (.c (.int .i64 (0))))⟩, ⟨none, false, (some 21), (.mov (.s 20))⟩, ⟨(some (21, true)), false, (some 22), (.mov (.s 8))⟩, ⟨(some (21, true)), false, (some 23), (.bin .eql (.s 22) (.c (.int .i64 (0))))⟩, ⟨none, false, (some 24), (.pick (.s 21) (.s 23) (.c (.bool false)))⟩, ⟨none, false, (some 25), (.mov (.s 24))⟩, ⟨(some (25, true)), false, (some 26), (.fa 0 (.s 5))⟩, ⟨(some (25, true)), false, (some 27), (.ld false 1 (.s 26) none)⟩, ⟨(some (25, true)), false, (some 28), (.fa 0 (.s 7))⟩, ⟨(some (25, true)), false, (some 29), (.ld false 1 (.s 28) none)⟩, ⟨(some (25, true)), false, (some 30), (.call (.c (.fn 74 [])) [(.s 27), (.s 29)])⟩, ⟨none, false, (some 31), (.pick (.s 25) (.s 30) (.c (.bool false)))⟩, ⟨none, false, (some 32), (.mov (.s 31))⟩, ⟨(some (32, true)), false, (some 33), (.fa 1 (.s 5))⟩, ⟨(some (32, true)), false, (some 34), (.ld false 1 (.s 33) none)⟩, ⟨(some (32, true)), false, (some 35), (.fa 1 (.s 7))⟩, ⟨(some (32, true)), false, (some 36), (.ld false 1 (.s 35) none)⟩, ⟨(some (32, true)), false, (some 37), (.call (.c (.fn 75 [])) [(.s 34), (.s 36), (.c (.fn 76 []))])⟩, ⟨none, false, (some 38), (.pick (.s 32) (.s 37) (.c (.bool false)))⟩, ⟨none, false, (some 4), (.mov (.s 38))⟩]) .ret))))⟩
theorem cv39 : cvF Try.prog 39 = some F39 := by kernel_rfl

/-- codewrightref47.Same -/
def F36 : AF := ⟨69, [(4, none)], (.seq (.ops [⟨none, false, (some 2), (.new (.s 0))⟩, ⟨none, false, (some 3), (.new (.s 1))⟩, ⟨none, false, (some 4), (.mov (.c (.bool false)))⟩]) (.seq (.seq (.ops [⟨none, false, (some 7), (.fa 0 (.s 2))⟩, ⟨none, false, (some 8), (.ld false 1 (.s 7) none)⟩, ⟨none, false, (some 9), (.fa 0 (.s 3))⟩, ⟨none, false, (some 10), (.ld false 1 (.s 9) none)⟩, ⟨none, false, (some 11), (.call (.c (.fn 15 [])) [(.s 8), (.s 10)])⟩, ⟨none, false, (some 12), (.un .not (.s 11))⟩, ⟨none, false, (some 13), (.mov (.s 12))⟩, ⟨(some (13, false)), false, (some 14), (.fa 1 (.s 2))⟩, ⟨(some (13, false)), false, (some 15), (.ld false 1 (.s 14) none)⟩, ⟨(some (13, false)), false, (some 16), (.len (.s 15))⟩, ⟨(some (13, false)), false, (some 17), (.fa 1 (.s 3))⟩, ⟨(some (13, false)), false, (some 18), (.ld false 1 (.s 17) none)⟩, ⟨(some (13, false)), false, (some 19), (.len (.s 18))⟩, ⟨(some (13, false)), false, (some 20), (.bin .neq (.s 16) (.s 19))⟩, ⟨none, false, (some 21), (.pick (.s 13) (.c (.bool true)) (.s 20))⟩]) (.ite (.s 21) (.seq (.ops [⟨none, false, (some 4), (.mov (.c (.bool false)))⟩]) .ret) .skip)) (.seq (.seq (.ops [⟨none, false, (some 5), (.mov (.c (.int .i64 (0))))⟩]) (.blk 0 (.loop (.seq (.seq (.ops [⟨none, false, (some 22), (.mov (.s 5))⟩, ⟨none, false, (some 23), (.fa 1 (.s 2))⟩, ⟨none, false, (some 24), (.ld false 1 (.s 23) none)⟩, ⟨none, false, (some 25), (.len (.s 24))⟩, ⟨none, false, (some 26), (.bin .lss (.s 22) (.s 25))⟩]) (.ite (.s 26) .skip (.exit 0))) (.seq (.blk 1 (.seq (.seq (.ops [⟨none, false, (some 29), (.fa 1 (.s 2))⟩, ⟨none, false, (some 31), (.mov (.s 5))⟩, ⟨none, false, (some 35), (.fa 1 (.s 3))⟩, ⟨none, false, (some 37), (.mov (.s 5))⟩, ⟨none, false, (some 30), (.ld false 1 (.s 29) none)⟩, ⟨none, false, (some 32), (.ia 1 (.s 30) (.s 31))⟩, ⟨none, false, (some 33), (.ld false 1 (.s 32) none)⟩, ⟨none, false, (some 34), (.len (.s 33))⟩, ⟨none, false, (some 36), (.ld false 1 (.s 35) none)⟩, ⟨none, false, (some 38), (.ia 1 (.s 36) (.s 37))⟩, ⟨none, false, (some 39), (.ld false 1 (.s 38) none)⟩, ⟨none, false, (some 40), (.len (.s 39))⟩, ⟨none, false, (some 41), (.bin .neq (.s 34) (.s 40))⟩]) (.ite (.s 41) (.seq (.ops [⟨none, false, (some 4), (.mov (.c (.bool false)))⟩]) .ret) .skip)) (.seq (.ops [⟨none, false, (some 6), (.mov (.c (.int .i64 (0))))⟩]) (.blk 2 (.loop (.seq (.seq (.ops [⟨none, false, (some 42), (.mov (.s 6))⟩, ⟨none, false, (some 43), (.fa 1 (.s 2))⟩, ⟨none, false, (some 44), (.ld false 1 (.s 43) none)⟩, ⟨none, false, (some 45), (.mov (.s 5))⟩, ⟨none, false, (some 46), (.ia 1 (.s 44) (.s 45))⟩, ⟨none, false, (some 47), (.ld false 1 (.s 46) none)⟩, ⟨none, false, (some 48), (.len (.s 47))⟩, ⟨none, false, (some 49), (.bin .lss (.s 42) (.s 48))⟩]) (.ite (.s 49) .skip (.exit 2))) (.seq (.blk 3 (.seq (.ops [⟨none, false, (some 52), (.fa 1 (.s 2))⟩, ⟨none, false, (some 54), (.mov (.s 5))⟩, ⟨none, false, (some 57), (.mov (.s 6))⟩, ⟨none, false, (some 60), (.fa 1 (.s 3))⟩, ⟨none, false, (some 62), (.mov (.s 5))⟩, ⟨none, false, (some 65), (.mov (.s 6))⟩, ⟨none, false, (some 53), (.ld false 1 (.s 52) none)⟩, ⟨none, false, (some 55), (.ia 1 (.s 53) (.s 54))⟩, ⟨none, false, (some 56), (.ld false 1 (.s 55) none)⟩, ⟨none, false, (some 58), (.ia 3 (.s 56) (.s 57))⟩, ⟨none, false, (some 59), (.ld true 3 (.s 58) none)⟩, ⟨none, false, (some 61), (.ld false 1 (.s 60) none)⟩, ⟨none, false, (some 63), (.ia 1 (.s 61) (.s 62))⟩, ⟨none, false, (some 64), (.ld false 1 (.s 63) none)⟩, ⟨none, false, (some 66), (.ia 3 (.s 64) (.s 65))⟩, ⟨none, false, (some 67), (.ld true 3 (.s 66) none)⟩, ⟨none, false, (some 68), (.eqs true 3 (.s 59) (.s 67))⟩]) (.ite (.s 68) (.seq (.ops [⟨none, false, (some 4), (.mov (.c (.bool false)))⟩]) .ret) .skip))) (.ops [⟨none, false, (some 50), (.mov (.s 6))⟩, ⟨none, false, (some 51), (.bin .add (.s 50) (.c (.int .i64 (1))))⟩, ⟨none, false, (some 6), (.mov (.s 51))⟩])))))))) (.ops [⟨none, false, (some 27), (.mov (.s 5))⟩, ⟨none, false, (some 28), (.bin .add (.s 27) (.c (.int .i64 (1))))⟩, ⟨none, false, (some 5), (.mov (.s 28))⟩])))))) (.seq (.ops [⟨none, false, (some 4), (.mov (.c (.bool true)))⟩]) .ret))))⟩
theorem cv36 : cvF Try.prog 36 = some F36 := by kernel_rfl


theorem eqs_ed (a b : Ed) : eqsV true 3 (.agg a.cells) (.agg b.cells) = some (.bool (decide (¬ a = b))) := by
  obtain ⟨a1, a2, a3⟩ := a
  obtain ⟨b1, b2, b3⟩ := b
  by_cases h1 : a1 = b1 <;> by_cases h2 : a2 = b2 <;> by_cases h3 : a3 = b3 <;> simp [eqsV, Ed.cells, eqCells, h1, h2, h3]
theorem eq_of_upto {α : Type} {xs ys : List α} (hl : xs.length = ys.length) (h : ∀ i, (h : i < xs.length) → (h' : i < ys.length) → xs[i] = ys[i]) : xs = ys := List.ext_getElem hl h

theorem EqualInt_spec {av bv : V} {xs ys : List Int} {H : Heap} (ha : SInts H av xs) (hb : SInts H bv ys) : ACalls Try.prog 74 [av, bv] H fun u H' => u = .bool (decide (xs = ys)) ∧ H' = H := by
  refine ACalls.of_body hm cv74 (by simp only [List.length_cons, List.length_nil]; decide) ?_
  have hlt := SInts.lt ha
  simp only [F74, go_sem, ↓reduceIte, Nat.reduceEqDiff, Nat.reduceAdd, reduceCtorEq, ha.len, hb.len]
  refine iteC_if (fun c => ?_) (fun c => ?_)
  · simp only [go_sem, ↓reduceIte, Nat.reduceEqDiff, Nat.reduceAdd, reduceCtorEq]
    have : xs ≠ ys := by rintro rfl; exact c rfl
    exact finO_self ⟨by simp [this], rfl⟩
  have hl : xs.length = ys.length := by omega
  simp only [go_sem, ↓reduceIte, Nat.reduceEqDiff, Nat.reduceAdd, reduceCtorEq, ha.len]
  refine range_loop xs.length (fun k env H' => H = H' ∧ env 0 = av ∧ env 1 = bv ∧ env 12 = .int .i64 xs.length ∧ env 13 = .int .i64 k ∧ ∀ i, (h : i < xs.length) → i < k → xs[i] = ys[i]'(by omega)) hlt (by decide) (by decide) ?_ ?_ ?_ ?_
  · rintro k env H' ⟨_, _, _, h7, h8, _⟩; exact ⟨h8, h7⟩
  · simp only [go_sem, ↓reduceIte, Nat.reduceEqDiff, Nat.reduceAdd, reduceCtorEq]
    exact ⟨by trivial, by trivial, by trivial, by trivial, by first | rfl | trivial, fun i _ h => by omega⟩
  · rintro k env H' hk ⟨rfl, h0, h1, h12, h13, hz⟩
    obtain ⟨p, a1, a2⟩ := ha.get hk .i64
    obtain ⟨q, b1, b2⟩ := hb.get (k := k) (by omega) .i64
    simp only [go_sem, ↓reduceIte, Nat.reduceEqDiff, Nat.reduceAdd, reduceCtorEq, h0, h1, h12, h13, a1, a2, b1, b2]
    refine iteC_if (fun d => ?_) (fun d => ?_)
    · simp only [go_sem, ↓reduceIte, Nat.reduceEqDiff, Nat.reduceAdd, reduceCtorEq]
      have : xs ≠ ys := by rintro rfl; exact d rfl
      exact finO_self ⟨by simp [this], rfl⟩
    · simp only [go_sem, ↓reduceIte, Nat.reduceEqDiff, Nat.reduceAdd, reduceCtorEq, h0, h1, h12, h13]
      refine ⟨by first | rfl | trivial, by first | rfl | trivial, by first | rfl | trivial, by first | rfl | trivial, by first | rfl | trivial, by first | rfl | trivial, fun i h hi => ?_⟩
      rcases Nat.lt_succ_iff_lt_or_eq.1 hi with hi | rfl
      · exact hz i h hi
      · exact Classical.byContradiction d
  · rintro env H' ⟨rfl, h0, h1, h12, h13, hz⟩
    simp only [go_sem, ↓reduceIte, Nat.reduceEqDiff, Nat.reduceAdd, reduceCtorEq]
    have e : xs = ys := eq_of_upto hl fun i h h' => hz i h h
    exact finO_self ⟨by simp [e], rfl⟩

theorem EqualEd_spec {av bv : V} {xs ys : List Ed} {H : Heap} (ha : SEds H av xs) (hb : SEds H bv ys) : ACalls Try.prog 76 [av, bv] H fun u H' => u = .bool (decide (xs = ys)) ∧ H' = H := by
  refine ACalls.of_body hm cv76 (by simp only [List.length_cons, List.length_nil]; decide) ?_
  have hlt := SEds.lt ha
  simp only [F76, go_sem, ↓reduceIte, Nat.reduceEqDiff, Nat.reduceAdd, reduceCtorEq, ha.len, hb.len]
  refine iteC_if (fun c => ?_) (fun c => ?_)
  · simp only [go_sem, ↓reduceIte, Nat.reduceEqDiff, Nat.reduceAdd, reduceCtorEq]
    have : xs ≠ ys := by rintro rfl; exact c rfl
    exact finO_self ⟨by simp [this], rfl⟩
  have hl : xs.length = ys.length := by omega
  simp only [go_sem, ↓reduceIte, Nat.reduceEqDiff, Nat.reduceAdd, reduceCtorEq, ha.len]
  refine range_loop xs.length (fun k env H' => H = H' ∧ env 0 = av ∧ env 1 = bv ∧ env 12 = .int .i64 xs.length ∧ env 13 = .int .i64 k ∧ ∀ i, (h : i < xs.length) → i < k → xs[i] = ys[i]'(by omega)) hlt (by decide) (by decide) ?_ ?_ ?_ ?_
  · rintro k env H' ⟨_, _, _, h7, h8, _⟩; exact ⟨h8, h7⟩
  · simp only [go_sem, ↓reduceIte, Nat.reduceEqDiff, Nat.reduceAdd, reduceCtorEq]
    exact ⟨by trivial, by trivial, by trivial, by trivial, by first | rfl | trivial, fun i _ h => by omega⟩
  · rintro k env H' hk ⟨rfl, h0, h1, h12, h13, hz⟩
    obtain ⟨p, _, _, _, a1, a2, _⟩ := ha.get hk .i64
    obtain ⟨q, _, _, _, b1, b2, _⟩ := hb.get (k := k) (by omega) .i64
    simp only [go_sem, ↓reduceIte, Nat.reduceEqDiff, Nat.reduceAdd, reduceCtorEq, h0, h1, h12, h13, a1, a2, b1, b2, eqs_ed]
    refine iteC_if (fun d => ?_) (fun d => ?_)
    · simp only [go_sem, ↓reduceIte, Nat.reduceEqDiff, Nat.reduceAdd, reduceCtorEq]
      have : xs ≠ ys := by rintro rfl; exact d rfl
      exact finO_self ⟨by simp [this], rfl⟩
    · simp only [go_sem, ↓reduceIte, Nat.reduceEqDiff, Nat.reduceAdd, reduceCtorEq, h0, h1, h12, h13]
      refine ⟨by first | rfl | trivial, by first | rfl | trivial, by first | rfl | trivial, by first | rfl | trivial, by first | rfl | trivial, by first | rfl | trivial, fun i h hi => ?_⟩
      rcases Nat.lt_succ_iff_lt_or_eq.1 hi with hi | rfl
      · exact hz i h hi
      · exact Classical.byContradiction d
  · rintro env H' ⟨rfl, h0, h1, h12, h13, hz⟩
    simp only [go_sem, ↓reduceIte, Nat.reduceEqDiff, Nat.reduceAdd, reduceCtorEq]
    have e : xs = ys := eq_of_upto hl fun i h h' => hz i h h
    exact finO_self ⟨by simp [e], rfl⟩

theorem EqualSecs_spec {av bv : V} {xs ys : List (List Ed)} {H : Heap} (ha : SSecs H av xs) (hb : SSecs H bv ys) : ACalls Try.prog 75 [av, bv, .fn 76 []] H fun u H' => u = .bool (decide (xs = ys)) ∧ H' = H := by
  refine ACalls.of_body hm cv75 (by simp only [List.length_cons, List.length_nil]; decide) ?_
  have hlt := SLists.lt ha
  simp only [F75, go_sem, ↓reduceIte, Nat.reduceEqDiff, Nat.reduceAdd, reduceCtorEq, SLists.len ha, SLists.len hb]
  refine iteC_if (fun c => ?_) (fun c => ?_)
  · simp only [go_sem, ↓reduceIte, Nat.reduceEqDiff, Nat.reduceAdd, reduceCtorEq]
    have : xs ≠ ys := by rintro rfl; exact c rfl
    exact finO_self ⟨by simp [this], rfl⟩
  have hl : xs.length = ys.length := by omega
  simp only [go_sem, ↓reduceIte, Nat.reduceEqDiff, Nat.reduceAdd, reduceCtorEq, SLists.len ha]
  refine range_loop xs.length (fun k env H' => H = H' ∧ env 1 = bv ∧ env 2 = .fn 76 [] ∧ env 15 = av ∧ env 16 = .int .i64 xs.length ∧ env 17 = .int .i64 k ∧ ∀ i, (h : i < xs.length) → i < k → xs[i] = ys[i]'(by omega)) hlt (by decide) (by decide) ?_ ?_ ?_ ?_
  · rintro k env H' ⟨_, _, _, _, h7, h8, _⟩; exact ⟨h8, h7⟩
  · simp only [go_sem, ↓reduceIte, Nat.reduceEqDiff, Nat.reduceAdd, reduceCtorEq]
    exact ⟨by trivial, by trivial, by trivial, by trivial, by trivial, by first | rfl | trivial, fun i _ h => by omega⟩
  · rintro k env H' hk ⟨rfl, h1, h2, h15, h16, h17, hz⟩
    obtain ⟨p, ua, a1, a2, a3⟩ := SLists.get ha hk .i64
    obtain ⟨q, ub, b1, b2, b3⟩ := SLists.get hb (k := k) (by omega) .i64
    simp only [go_sem, ↓reduceIte, Nat.reduceEqDiff, Nat.reduceAdd, reduceCtorEq, h1, h2, h15, h16, h17, a1, a2, b1, b2]
    refine callC_pure (EqualEd_spec a3 b3) ?_
    simp only [go_sem, ↓reduceIte, Nat.reduceEqDiff, Nat.reduceAdd, reduceCtorEq]
    by_cases d : xs[k] = ys[k]'(by omega)
    · simp only [go_sem, ↓reduceIte, Nat.reduceEqDiff, Nat.reduceAdd, reduceCtorEq, d, h1, h2, h15, h16, h17, Bool.not_true]
      refine ⟨by first | rfl | trivial, by first | rfl | trivial, by first | rfl | trivial, by first | rfl | trivial, by first | rfl | trivial, by first | rfl | trivial, by first | rfl | trivial, fun i h hi => ?_⟩
      rcases Nat.lt_succ_iff_lt_or_eq.1 hi with hi | rfl
      · exact hz i h hi
      · exact d
    · simp only [go_sem, ↓reduceIte, Nat.reduceEqDiff, Nat.reduceAdd, reduceCtorEq, d, Bool.not_false]
      have : xs ≠ ys := by rintro rfl; exact d rfl
      exact finO_self ⟨by simp [this], rfl⟩
  · rintro env H' ⟨rfl, h1, h2, h15, h16, h17, hz⟩
    simp only [go_sem, ↓reduceIte, Nat.reduceEqDiff, Nat.reduceAdd, reduceCtorEq]
    have e : xs = ys := eq_of_upto hl fun i h h' => hz i h h
    exact finO_self ⟨by simp [e], rfl⟩

/-- the same after renumbering -/
def isoI (ws : List Int) (es : List (List Ed)) (ws' : List Int) (es' : List (List Ed)) : Prop := properI ws es = 0 ∧ properI ws' es' = 0 ∧ ws = ws' ∧ renI es = renI es'
theorem Renumber_spec' {sv ev : V} {ws : List Int} {es : List (List Ed)} {H : Heap} (hs : SInts H sv ws) (he : SSecs H ev es) : ACalls Try.prog 35 [.agg [sv, ev]] H fun u H' => Heap.sub H H' ∧
    ∃ x y, u = .tup [.agg [x, y], .int .i64 (properI ws es)] ∧ (properI ws es ≠ 0 → x = .nils ∧ y = .nils) ∧ (properI ws es = 0 → SInts H' x ws ∧ SSecs H' y (renI es)) := by
  refine (Renumber_spec hs he).mono ?_
  rintro u H' ⟨h1, ⟨h2, rfl⟩ | ⟨h2, x, y, rfl, h3, h4⟩⟩
  · exact ⟨h1, _, _, rfl, fun _ => ⟨rfl, rfl⟩, fun h => absurd h h2⟩
  · exact ⟨h1, x, y, by rw [h2], fun h => absurd h2 h, fun _ => ⟨h3, h4⟩⟩

open Classical in
theorem Isomorphic_spec {sv ev sv' ev' : V} {ws ws' : List Int} {es es' : List (List Ed)} {H : Heap} (hs : SInts H sv ws) (he : SSecs H ev es) (hs' : SInts H sv' ws') (he' : SSecs H ev' es') : ACalls Try.prog 39 [.agg [sv, ev], .agg [sv', ev']] H fun u H' => Heap.sub H H' ∧ u = .bool (decide (isoI ws es ws' es')) := by
  refine ACalls.of_body hm cv39 (by simp only [List.length_cons, List.length_nil]; decide) ?_
  simp only [F39, go_sem, ↓reduceIte, Nat.reduceEqDiff, Nat.reduceAdd, reduceCtorEq]
  refine newC_intro fun b2 H1 hn1 hs1 hb1 => ?_
  simp only [go_sem, ↓reduceIte, Nat.reduceEqDiff, Nat.reduceAdd, reduceCtorEq]
  refine newC_intro fun b3 H2 hn2 hs2 hb2 => ?_
  have hs02 := hs1.trans' hs2
  simp only [go_sem, ↓reduceIte, Nat.reduceEqDiff, Nat.reduceAdd, reduceCtorEq, ld_boxa (hs2 _ _ hb1) (show 0 + 2 ≤ 2 by decide), fillV, List.length_cons, List.length_nil, splice, Nat.reduceLeDiff, Nat.zero_lt_one, and_self, List.take_zero, List.take_succ_cons, List.drop_succ_cons, List.drop_zero, List.drop_nil, Nat.reduceLT, Nat.le_refl]
  refine callC_grow (Renumber_spec' (hs.mono hs02) (SSecs.mono he hs02)) ?_
  rintro u H3 hs3 ⟨x, y, rfl, _, hx⟩
  simp only [go_sem, ↓reduceIte, Nat.reduceEqDiff, Nat.reduceAdd, reduceCtorEq, fillV, List.length_cons, List.length_nil, splice, Nat.reduceLeDiff, Nat.zero_lt_one, and_self, List.take_zero, List.take_succ_cons, List.drop_succ_cons, List.drop_zero, List.drop_nil, Nat.reduceLT, Nat.le_refl]
  refine newC_intro fun b5 H4 hn4 hs4 hb4 => ?_
  simp only [go_sem, ↓reduceIte, Nat.reduceEqDiff, Nat.reduceAdd, reduceCtorEq]
  refine stC_intro hb4 trivial rfl (by decide) (by decide) fun H5 hb5 hf5 hs5 => ?_
  have hb5 : H5 b5 = some ⟨true, 1, [x, y]⟩ := hb5
  have hs35 := hs5 _ hs4 hn4
  have hs25 := hs3.trans' hs35
  have hs05 := hs02.trans' hs25
  simp only [go_sem, ↓reduceIte, Nat.reduceEqDiff, Nat.reduceAdd, reduceCtorEq, ld_boxa (hs25 _ _ hb2) (show 0 + 2 ≤ 2 by decide), fillV, List.length_cons, List.length_nil, splice, Nat.reduceLeDiff, Nat.zero_lt_one, and_self, List.take_zero, List.take_succ_cons, List.drop_succ_cons, List.drop_zero, List.drop_nil, Nat.reduceLT, Nat.le_refl]
  refine callC_grow (Renumber_spec' (hs'.mono hs05) (SSecs.mono he' hs05)) ?_
  rintro u H6 hs6 ⟨x', y', rfl, _, hx'⟩
  simp only [go_sem, ↓reduceIte, Nat.reduceEqDiff, Nat.reduceAdd, reduceCtorEq, fillV, List.length_cons, List.length_nil, splice, Nat.reduceLeDiff, Nat.zero_lt_one, and_self, List.take_zero, List.take_succ_cons, List.drop_succ_cons, List.drop_zero, List.drop_nil, Nat.reduceLT, Nat.le_refl]
  refine newC_intro fun b7 H7 hn7 hs7 hb7 => ?_
  simp only [go_sem, ↓reduceIte, Nat.reduceEqDiff, Nat.reduceAdd, reduceCtorEq]
  refine stC_intro hb7 trivial rfl (by decide) (by decide) fun H8 hb8 hf8 hs8 => ?_
  have hb8 : H8 b7 = some ⟨true, 1, [x', y']⟩ := hb8
  have hs68 := hs8 _ hs7 hn7
  have hs58 := hs6.trans' hs68
  have hb58 := hs58 _ _ hb5
  have hs08 := hs05.trans' hs58
  by_cases c1 : properI ws es = 0
  · by_cases c2 : properI ws' es' = 0
    · obtain ⟨x1, x2⟩ := hx c1
      obtain ⟨y1, y2⟩ := hx' c2
      have x1 := x1.mono (hs35.trans' hs58)
      have x2 := SSecs.mono x2 (hs35.trans' hs58)
      have y1 := y1.mono hs68
      have y2 := SSecs.mono y2 hs68
      simp only [go_sem, ↓reduceIte, Nat.reduceEqDiff, Nat.reduceAdd, reduceCtorEq, c1, c2, ld_box hb58, ld_box hb8]
      refine callC_pure (EqualInt_spec x1 y1) ?_
      by_cases c3 : ws = ws'
      · simp only [go_sem, ↓reduceIte, Nat.reduceEqDiff, Nat.reduceAdd, reduceCtorEq, c3, ld_box hb58, ld_box hb8]
        refine callC_pure (EqualSecs_spec x2 y2) ?_
        simp only [go_sem, ↓reduceIte, Nat.reduceEqDiff, Nat.reduceAdd, reduceCtorEq]
        refine finO_self ⟨hs08, ?_⟩
        subst c3
        congr 1
        rw [Bool.eq_iff_iff, decide_eq_true_iff, decide_eq_true_iff]
        exact ⟨fun h => ⟨c1, c2, rfl, h⟩, fun h => h.2.2.2⟩
      · simp only [go_sem, ↓reduceIte, Nat.reduceEqDiff, Nat.reduceAdd, reduceCtorEq, c3]
        exact finO_self ⟨hs08, by rw [decide_eq_false (fun h => c3 h.2.2.1)]⟩
    · simp only [go_sem, ↓reduceIte, Nat.reduceEqDiff, Nat.reduceAdd, reduceCtorEq, c1, c2]
      exact finO_self ⟨hs08, by rw [decide_eq_false (fun h => c2 h.2.1)]⟩
  · simp only [go_sem, ↓reduceIte, Nat.reduceEqDiff, Nat.reduceAdd, reduceCtorEq, c1]
    exact finO_self ⟨hs08, by rw [decide_eq_false (fun h => c1 h.1)]⟩

/-- the reference's Same, of two trellises -/
theorem rTSame_spec {sv ev sv' ev' : V} {ws ws' : List Int} {es es' : List (List Ed)} {H : Heap} (hs : SInts H sv ws) (he : SSecs H ev es) (hs' : SInts H sv' ws') (he' : SSecs H ev' es') : ACalls Try.prog 36 [.agg [sv, ev], .agg [sv', ev']] H fun u H' => u = .bool (decide (ws = ws' ∧ es = es')) ∧ H' = H := by
  refine ACalls.of_body hm cv36 (by simp only [List.length_cons, List.length_nil]; decide) ?_
  simp only [F36, go_sem, ↓reduceIte, Nat.reduceEqDiff, Nat.reduceAdd, reduceCtorEq]
  refine newC_intro fun b2 H1 hn1 hs1 hb1 => ?_
  simp only [go_sem, ↓reduceIte, Nat.reduceEqDiff, Nat.reduceAdd, reduceCtorEq]
  refine newC_intro fun b3 H2 hn2 hs2 hb2 => ?_
  have hs02 := hs1.trans' hs2
  have hb12 := hs2 _ _ hb1
  have hes := SSecs.mono he hs02
  have hes' := SSecs.mono he' hs02
  have hltx := SLists.lt he
  simp only [go_sem, ↓reduceIte, Nat.reduceEqDiff, Nat.reduceAdd, reduceCtorEq, ld_box hb12, ld_box hb2]
  refine callC_pure (rSame_spec (hs.mono hs02) (hs'.mono hs02)) ?_
  by_cases c1 : ws = ws'
  · simp only [go_sem, ↓reduceIte, Nat.reduceEqDiff, Nat.reduceAdd, reduceCtorEq, c1, Bool.not_true, ld_box hb12, ld_box hb2, SLists.len he, SLists.len he']
    by_cases c2 : es.length = es'.length
    · have c2' : (es.length : Int) = es'.length := by omega
      simp only [go_sem, ↓reduceIte, Nat.reduceEqDiff, Nat.reduceAdd, reduceCtorEq, c2', not_true_eq_false]
      refine loop_count es.length (fun k env H' => H2 = H' ∧ env 2 = .ptr b2 0 ∧ env 3 = .ptr b3 0 ∧ env 5 = .int .i64 k ∧ ∀ i, (h : i < es.length) → i < k → es[i] = es'[i]'(by omega)) ?_ ?_ ?_
      · simp only [go_sem, ↓reduceIte, Nat.reduceEqDiff, Nat.reduceAdd, reduceCtorEq]
        exact ⟨by trivial, by trivial, by trivial, by first | rfl | trivial, fun i _ h => by omega⟩
      · rintro k env H' hk ⟨rfl, h2, h3, h5, hz⟩
        obtain ⟨p, ua, a1, a2, a3⟩ := SLists.get hes hk .i64
        obtain ⟨q, ub, d1, d2, d3⟩ := SLists.get hes' (k := k) (by omega) .i64
        have hlt : (k : Int) < es.length := by omega
        have hle := SEds.lt a3
        simp only [go_sem, ↓reduceIte, Nat.reduceEqDiff, Nat.reduceAdd, reduceCtorEq, h2, h3, h5, ld_box hb12, ld_box hb2, SLists.len he, hlt, a1, a2, d1, d2, SEds.len a3, SEds.len d3]
        refine iteC_if (fun c => ?_) (fun c => ?_)
        · simp only [go_sem, ↓reduceIte, Nat.reduceEqDiff, Nat.reduceAdd, reduceCtorEq]
          refine finO_sub hs02 ⟨?_, rfl⟩
          rw [decide_eq_false]
          intro h
          have : es = es' := by first | exact h.2 | exact h
          subst this; exact c rfl
        have hl3 : es[k].length = (es'[k]'(by omega)).length := by omega
        simp only [go_sem, ↓reduceIte, Nat.reduceEqDiff, Nat.reduceAdd, reduceCtorEq, h2, h3, h5]
        refine loop_count es[k].length (fun j env H' => H2 = H' ∧ env 2 = .ptr b2 0 ∧ env 3 = .ptr b3 0 ∧ env 5 = .int .i64 k ∧ env 6 = .int .i64 j ∧ ∀ i, (h : i < es[k].length) → i < j → es[k][i] = (es'[k]'(by omega))[i]'(by omega)) ?_ ?_ ?_
        · simp only [go_sem, ↓reduceIte, Nat.reduceEqDiff, Nat.reduceAdd, reduceCtorEq, h2, h3, h5]
          exact ⟨by trivial, by trivial, by trivial, by trivial, by first | rfl | trivial, fun i _ h => by omega⟩
        · rintro j env H' hj ⟨rfl, h2, h3, h5, h6, hzz⟩
          obtain ⟨p', _, _, _, r1, r2, _⟩ := a3.get hj .i64
          obtain ⟨q', _, _, _, t1, t2, _⟩ := d3.get (k := j) (by omega) .i64
          have hltj : (j : Int) < es[k].length := by omega
          simp only [go_sem, ↓reduceIte, Nat.reduceEqDiff, Nat.reduceAdd, reduceCtorEq, h2, h3, h5, h6, ld_box hb12, ld_box hb2, a1, a2, d1, d2, SEds.len a3, hltj, r1, r2, t1, t2, eqs_ed]
          refine iteC_if (fun c => ?_) (fun c => ?_)
          · simp only [go_sem, ↓reduceIte, Nat.reduceEqDiff, Nat.reduceAdd, reduceCtorEq]
            refine finO_sub hs02 ⟨?_, rfl⟩
            rw [decide_eq_false]
            intro h
            have : es = es' := by first | exact h.2 | exact h
            subst this; exact c rfl
          · simp only [go_sem, ↓reduceIte, Nat.reduceEqDiff, Nat.reduceAdd, reduceCtorEq, h2, h3, h5, h6]
            rw [wrapN1 (by omega)]
            refine ⟨by trivial, by trivial, by trivial, by trivial, by first | rfl | trivial, fun i h hi => ?_⟩
            rcases Nat.lt_succ_iff_lt_or_eq.1 hi with hi | rfl
            · exact hzz i h hi
            · exact Classical.byContradiction c
        · rintro env H' ⟨rfl, h2, h3, h5, h6, hzz⟩
          simp only [go_sem, ↓reduceIte, Nat.reduceEqDiff, Nat.reduceAdd, reduceCtorEq, h2, h3, h5, h6, ld_box hb12, ld_box hb2, a1, a2, SEds.len a3, Int.lt_irrefl]
          rw [wrapN1 (by omega)]
          refine ⟨by trivial, by trivial, by trivial, by first | rfl | trivial, fun i h hi => ?_⟩
          rcases Nat.lt_succ_iff_lt_or_eq.1 hi with hi | rfl
          · exact hz i h hi
          · exact eq_of_upto hl3 fun i h h' => hzz i h h
      · rintro env H' ⟨rfl, h2, h3, h5, hz⟩
        simp only [go_sem, ↓reduceIte, Nat.reduceEqDiff, Nat.reduceAdd, reduceCtorEq, h2, h3, h5, ld_box hb12, ld_box hb2, SLists.len he, Int.lt_irrefl]
        have e : es = es' := eq_of_upto c2 fun i h h' => hz i h h
        exact finO_sub hs02 ⟨by simp [e], rfl⟩
    · have c2' : ¬ (es.length : Int) = es'.length := by omega
      simp only [go_sem, ↓reduceIte, Nat.reduceEqDiff, Nat.reduceAdd, reduceCtorEq, c2', not_false_eq_true]
      refine finO_sub hs02 ⟨?_, rfl⟩
      rw [decide_eq_false]
      intro h
      have : es = es' := by first | exact h.2 | exact h
      exact c2 (by rw [this])
  · simp only [go_sem, ↓reduceIte, Nat.reduceEqDiff, Nat.reduceAdd, reduceCtorEq, c1, Bool.not_false]
    refine finO_sub hs02 ⟨?_, rfl⟩
    rw [decide_eq_false]
    intro h
    first | exact c1 h.1 | exact h.1
end Go.AM

/- Plain: the reference's walk over the edges; slices that grow. Conditions: as stated. -/
set_option linter.unusedVariables false
set_option linter.unusedSimpArgs false
namespace Go.AM
open Go Go.Proofs

def visitTo (ord : List Int) (l : List Ed) (u j : Nat) : List Ed := (List.range u).flatMap (urow ord l) ++ urow ord (l.take j) u
theorem visitTo_zero (ord : List Int) (l : List Ed) (u : Nat) : visitTo ord l u 0 = (List.range u).flatMap (urow ord l) := by simp [visitTo, urow]
theorem urow_snoc (ord : List Int) (l : List Ed) (e : Ed) (u : Nat) : urow ord (l ++ [e]) u = urow ord l u ++ if e.fr = ord[u]?.getD 0 then [⟨u, e.lb, e.to⟩] else [] := by
  unfold urow
  rw [List.filter_append, List.map_append]
  by_cases c : e.fr = ord[u]?.getD 0
  · simp [c]
  · simp [c]
theorem visitTo_skip {ord : List Int} {l : List Ed} {u j : Nat} (hj : j < l.length) (c : l[j].fr ≠ ord[u]?.getD 0) : visitTo ord l u (j+1) = visitTo ord l u j := by
  unfold visitTo
  rw [List.take_add_one, List.getElem?_eq_getElem hj, Option.toList_some, urow_snoc, if_neg c, List.append_nil]
theorem visitTo_step {ord : List Int} {l : List Ed} {u j : Nat} (hj : j < l.length) (c : l[j].fr = ord[u]?.getD 0) : visitTo ord l u (j+1) = visitTo ord l u j ++ [⟨u, l[j].lb, l[j].to⟩] := by
  unfold visitTo
  rw [List.take_add_one, List.getElem?_eq_getElem hj, Option.toList_some, urow_snoc, if_pos c, List.append_assoc]
theorem visitTo_next {ord : List Int} {l : List Ed} {u : Nat} : visitTo ord l u l.length = visitTo ord l (u+1) 0 := by
  rw [visitTo_zero]
  unfold visitTo
  rw [List.take_length, List.range_succ, List.flatMap_append]
  simp
theorem visitTo_done {ord : List Int} {l : List Ed} : visitTo ord l ord.length 0 = visit ord l := visitTo_zero _ _ _
theorem urow_len (ord : List Int) (l : List Ed) (u : Nat) : (urow ord l u).length ≤ l.length := by
  unfold urow
  rw [List.length_map]
  exact List.length_filter_le _ _
theorem visitTo_len (ord : List Int) (l : List Ed) (u j : Nat) : (visitTo ord l u j).length ≤ u * l.length + j := by
  unfold visitTo
  rw [List.length_append]
  have h1 : (urow ord (l.take j) u).length ≤ j := Nat.le_trans (urow_len _ _ _) (by rw [List.length_take]; omega)
  have h2 : ∀ u, ((List.range u).flatMap (urow ord l)).length ≤ u * l.length := by
    intro u
    induction u with
    | zero => simp
    | succ u ih =>
      rw [List.range_succ, List.flatMap_append, List.length_append, Nat.succ_mul]
      have := urow_len ord l u
      simp only [List.flatMap_cons, List.flatMap_nil, List.append_nil]
      omega
  have := h2 u
  omega
theorem firsts_len (V : List Ed) : (firsts [] V).length ≤ V.length := by
  have : ∀ (V : List Ed) (s : List Int), (firsts s V).length ≤ s.length + V.length := by
    intro V
    induction V with
    | nil => intro s; simp [firsts]
    | cons e V ih =>
      intro s
      simp only [firsts, List.length_cons]
      have := ih (if e.to ∈ s then s else s ++ [e.to])
      split at this
      · rename_i c; rw [if_pos c]; omega
      · rename_i c; rw [if_neg c]; rw [List.length_append] at this; simp only [List.length_singleton] at this; omega
  have := this V []
  simpa using this
/-- the edges with the numbers found so far -/
def outE (V : List Ed) : List Ed := V.map fun e => ⟨e.fr, e.lb, posI (firsts [] V) e.to⟩
theorem posI_append {L : List Int} {v x : Int} (h : v ∈ L) : posI (L ++ [x]) v = posI L v := by
  unfold posI
  rw [List.idxOf_append, if_pos h]
theorem posI_new {L : List Int} {x : Int} (h : x ∉ L) : posI (L ++ [x]) x = L.length := by
  unfold posI
  rw [List.idxOf_append, if_neg h]
  simp
theorem outE_snoc (V : List Ed) (e : Ed) : outE (V ++ [e]) = outE V ++ [⟨e.fr, e.lb, posI (firsts [] (V ++ [e])) e.to⟩] := by
  unfold outE
  rw [List.map_append]
  congr 1
  apply List.map_congr_left
  intro x hx
  have hm : x.to ∈ firsts [] V := (firsts_mem V [] x.to).2 (.inr ⟨x, hx, rfl⟩)
  rw [firsts_snoc]
  split
  · rfl
  · rw [posI_append hm]
/-- the numbers given so far -/
def numI (w : Nat) (L : List Int) : List Int := (nums w).map fun v => if v ∈ L then posI L v else -1
theorem numI_len (w : Nat) (L : List Int) : (numI w L).length = w := by simp [numI, nums_len]
theorem numI_get {w : Nat} {L : List Int} {v : Nat} (h : v < w) : (numI w L)[v]'(by rw [numI_len]; exact h) = if (v : Int) ∈ L then posI L v else -1 := by simp [numI, nums]
theorem numI_set {w : Nat} {L : List Int} {k : Nat} (hk : k < w) (h : (k : Int) ∉ L) : (numI w L).set k (L.length : Int) = numI w (L ++ [(k : Int)]) := by
  apply List.ext_getElem
  · simp [numI_len]
  · intro v h1 h2
    have hv : v < w := by rw [numI_len] at h2; exact h2
    rw [List.getElem_set, numI_get hv, numI_get hv]
    by_cases e : k = v
    · subst e
      rw [if_pos rfl, if_pos (by simp), posI_new h]
    · rw [if_neg e]
      by_cases c : (v : Int) ∈ L
      · rw [if_pos c, if_pos (List.mem_append_left _ c), posI_append c]
      · rw [if_neg c, if_neg]
        intro c2
        rcases List.mem_append.1 c2 with c2 | c2
        · exact c c2
        · have : (v : Int) = k := by simpa using c2
          omega
/-- the first t of them are set to -1 -/
def negTo (w t : Nat) : List Int := (List.range w).map fun v => if v < t then -1 else 0
theorem negTo_len (w t : Nat) : (negTo w t).length = w := by simp [negTo]
theorem negTo_zero (w : Nat) : ints (negTo w 0) = List.replicate w (.int .i64 0) := by
  apply List.ext_getElem
  · simp [ints_len, negTo_len]
  · intro i h1 h2
    simp [ints, negTo]
theorem negTo_set {w t : Nat} (h : t < w) : (negTo w t).set t (-1) = negTo w (t+1) := by
  apply List.ext_getElem
  · simp [negTo_len]
  · intro v h1 h2
    have hv : v < w := by rw [negTo_len] at h2; exact h2
    rw [List.getElem_set]
    simp only [negTo, List.getElem_map, List.getElem_range]
    by_cases e : t = v
    · subst e; rw [if_pos rfl, if_pos (by omega)]
    · rw [if_neg e]
      by_cases c : v < t
      · rw [if_pos c, if_pos (by omega)]
      · rw [if_neg c, if_neg (by omega)]
theorem negTo_done (w : Nat) : negTo w w = numI w [] := by
  unfold negTo numI nums
  rw [List.map_map]
  apply List.map_congr_left
  intro v hv
  simp [List.mem_range.1 hv]

/-- a slice that grows in a block of its own: empty and full, or with room -/
def Gro (H : Heap) (sz : Nat) (u : V) (q len : Nat) (cs : List V) : Prop :=
  (u = .sl q 0 0 true ∧ cs = [] ∧ len = 0 ∧ ∃ own, H q = some ⟨own, sz, []⟩) ∨ (u = .sl q 0 len false ∧ H q = some ⟨true, sz, cs⟩ ∧ cs.length = len * sz)
theorem Gro.grow {H H' : Heap} {sz : Nat} {u : V} {q len : Nat} {cs : List V} (g : Gro H sz u q len cs) (h : H q = none → False → True) (hs : ∀ b, H q = some b → H' q = some b) : Gro H' sz u q len cs := by
  rcases g with ⟨a, b, c, own, d⟩ | ⟨a, b, c⟩
  · exact .inl ⟨a, b, c, own, hs _ d⟩
  · exact .inr ⟨a, hs _ b, c⟩
theorem Gro.has {H : Heap} {sz : Nat} {u : V} {q len : Nat} {cs : List V} (g : Gro H sz u q len cs) : H q ≠ none := by
  rcases g with ⟨_, _, _, own, d⟩ | ⟨_, d, _⟩ <;> rw [d] <;> simp
theorem Gro.lenV {H : Heap} {sz : Nat} {u : V} {q len : Nat} {cs : List V} (g : Gro H sz u q len cs) : lenV u = len := by
  rcases g with ⟨rfl, _, rfl, _⟩ | ⟨rfl, _⟩ <;> rfl
theorem Gro.lenR {H : Heap} {sz : Nat} {u : V} {q len : Nat} {cs : List V} (g : Gro H sz u q len cs) : lenR u = some (.int .i64 len) := by
  rcases g with ⟨rfl, _, rfl, _⟩ | ⟨rfl, _⟩ <;> rfl
theorem Gro.sl {H : Heap} {sz : Nat} {u : V} {q len : Nat} {cs : List V} (g : Gro H sz u q len cs) (hl : len ≤ 281474976710656) : Sl H u sz len cs := by
  rcases g with ⟨rfl, rfl, rfl, own, d⟩ | ⟨rfl, d, e⟩
  · exact sl_block d (by simp) (by omega)
  · exact sl_block d e hl
theorem appC_gro {H : Heap} {env : Env} {d : Option Nat} {K : Env → Heap → Prop} {u : V} {cs vs : List V} {sz q len xb bytes : Nat} {own f : Bool} (g : Gro H sz u q len cs) (hx : H xb = some ⟨own, sz, vs⟩) (hvs : vs.length = sz) (hz : 0 < sz) (hb : (len + 1) * bytes ≤ 140737488355328) (hb2 : len + 1 ≤ 140737488355328)
    (hk : ∀ m H', H m = none → Gro H' sz (.sl m 0 (len + 1) false) m (len + 1) (cs ++ vs) → (∀ k, k ≠ m → k ≠ q → H' k = H k) → K (env.put d (.sl m 0 (len + 1) false)) H') : appC H env sz bytes u (.sl xb 0 1 f) [] d K := by
  have hc : cellsAt H sz (.sl xb 0 1 f) = some vs := by simp [cellsAt, hx, hvs, List.take_of_length_le]
  have h1 : Go.AM.lenV (.sl xb 0 1 f) = 1 := rfl
  have h0 := g.lenV
  unfold appC
  rw [hc, h1, h0]
  refine ⟨hb, hb2, ?_⟩
  rw [if_neg (by decide)]
  rcases g with ⟨rfl, rfl, rfl, own', b⟩ | ⟨rfl, b, c⟩
  · simp only [b]
    refine ⟨trivial, ?_⟩
    simp only [if_true]
    refine ⟨by simp, fun m hm => ?_⟩
    refine hk m _ hm (.inr ⟨rfl, by simp [Heap.upd], by simp [hvs]⟩) fun k h1 _ => by simp [Heap.upd, h1]
  · simp only [b]
    refine ⟨trivial, ?_⟩
    simp only [Bool.false_eq_true, if_false]
    refine ⟨trivial, trivial, trivial, c, fun m hm => ?_⟩
    refine hk m _ hm (.inr ⟨rfl, by simp [Heap.upd], by rw [List.length_append, c, hvs, Nat.succ_mul]⟩) fun k h1 h2 => by simp [Heap.upd, h1, h2]

/-- the state while the edges of a section are laid: L are the nodes that have a number -/
structure RN (F H : Heap) (nb w : Nat) (xu eu : V) (xq eq : Nat) (L : List Int) (V : List Ed) : Prop where
  fh : Heap.sub F H
  fn : F nb = none
  fx : F xq = none
  fe : F eq = none
  n1 : nb ≠ xq
  n2 : nb ≠ eq
  n3 : xq ≠ eq
  hn : H nb = some ⟨true, 1, ints (numI w L)⟩
  hx : Gro H 1 xu xq L.length (ints L)
  he : Gro H 3 eu eq V.length (ecells (outE V))
theorem RN.grow {F H H' : Heap} {nb w : Nat} {xu eu : V} {xq eq : Nat} {L : List Int} {V : List Ed} (s : RN F H nb w xu eu xq eq L V) (hs : Heap.sub H H') : RN F H' nb w xu eu xq eq L V :=
  ⟨s.fh.trans' hs, s.fn, s.fx, s.fe, s.n1, s.n2, s.n3, hs _ _ s.hn, s.hx.grow (fun _ _ => trivial) fun b h => hs _ _ h, s.he.grow (fun _ _ => trivial) fun b h => hs _ _ h⟩
theorem RN.down {F F' H : Heap} {nb w : Nat} {xu eu : V} {xq eq : Nat} {L : List Int} {V : List Ed} (s : RN F' H nb w xu eu xq eq L V) (hs : Heap.sub F F') : RN F H nb w xu eu xq eq L V :=
  ⟨hs.trans' s.fh, hs.none' s.fn, hs.none' s.fx, hs.none' s.fe, s.n1, s.n2, s.n3, s.hn, s.hx, s.he⟩
/-- a new block that stays -/
theorem RN.box {F H H' : Heap} {nb w : Nat} {xu eu : V} {xq eq : Nat} {L : List Int} {V : List Ed} (s : RN F H nb w xu eu xq eq L V) {b : Nat} {c : Blk} (hs : Heap.sub H H') (hb : H b = none) (hc : H' b = some c) : Heap.sub F (F.upd b (some c)) ∧ RN (F.upd b (some c)) H' nb w xu eu xq eq L V := by
  have hfb : F b = none := s.fh.none' hb
  have h1 : nb ≠ b := by rintro rfl; rw [s.hn] at hb; cases hb
  have h2 : xq ≠ b := by rintro rfl; exact s.hx.has hb
  have h3 : eq ≠ b := by rintro rfl; exact s.he.has hb
  refine ⟨fun k d hk => ?_, fun k d hk => ?_, ?_, ?_, ?_, s.n1, s.n2, s.n3, hs _ _ s.hn, s.hx.grow (fun _ _ => trivial) fun b h => hs _ _ h, s.he.grow (fun _ _ => trivial) fun b h => hs _ _ h⟩
  · have : k ≠ b := by rintro rfl; rw [hfb] at hk; cases hk
    simp [Heap.upd, this, hk]
  · by_cases e : k = b
    · subst e; rw [hc]; simpa [Heap.upd] using hk
    · exact hs _ _ (s.fh _ _ (by simpa [Heap.upd, e] using hk))
  · simp only [Heap.upd, if_neg h1]; exact s.fn
  · simp only [Heap.upd, if_neg h2]; exact s.fx
  · simp only [Heap.upd, if_neg h3]; exact s.fe
theorem outE_len (V : List Ed) : (outE V).length = V.length := by simp [outE]
/-- an edge to a node that has a number -/
theorem RN.edge {F H H' : Heap} {nb w m : Nat} {xu eu : V} {xq eq : Nat} {L : List Int} {V : List Ed} {e : Ed} (s : RN F H nb w xu eu xq eq L V) (hL : L = firsts [] (V ++ [e])) (hm : H m = none)
    (g : Gro H' 3 (.sl m 0 (V.length + 1) false) m (V.length + 1) (ecells (outE V) ++ (⟨e.fr, e.lb, posI L e.to⟩ : Ed).cells)) (hf : ∀ k, k ≠ m → k ≠ eq → H' k = H k) : RN F H' nb w xu (.sl m 0 (V.length + 1) false) xq m L (V ++ [e]) := by
  have hnm : nb ≠ m := by rintro rfl; rw [s.hn] at hm; cases hm
  have hxm : xq ≠ m := by rintro rfl; exact s.hx.has hm
  refine ⟨fun k c hk => ?_, s.fn, s.fx, s.fh.none' hm, s.n1, hnm, hxm, ?_, ?_, ?_⟩
  · have k1 : k ≠ m := by rintro rfl; rw [s.fh.none' hm] at hk; cases hk
    have k2 : k ≠ eq := by rintro rfl; rw [s.fe] at hk; cases hk
    rw [hf k k1 k2]; exact s.fh k c hk
  · rw [hf nb hnm s.n2]; exact s.hn
  · exact s.hx.grow (fun _ _ => trivial) fun b h => by rw [hf xq hxm s.n3]; exact h
  · rw [outE_snoc, ecells_append, ← hL, List.length_append]
    simpa [ecells] using g
/-- a node gets its number -/
theorem RN.num {F H H1 H2 : Heap} {nb w k m : Nat} {xu eu : V} {xq eq : Nat} {L : List Int} {V : List Ed} {v : Int} (s : RN F H nb w xu eu xq eq L V) (hk : v = k) (hkw : k < w) (hc : v ∉ L)
    (h1 : H1 nb = some ⟨true, 1, (ints (numI w L)).set k (.int .i64 L.length)⟩) (hf1 : ∀ q, q ≠ nb → H1 q = H q) (hm : H1 m = none)
    (g : Gro H2 1 (.sl m 0 (L.length + 1) false) m (L.length + 1) (ints L ++ [.int .i64 v])) (hf2 : ∀ q, q ≠ m → q ≠ xq → H2 q = H1 q) : RN F H2 nb w (.sl m 0 (L.length + 1) false) eu m eq (L ++ [v]) V := by
  have hnm : nb ≠ m := by rintro rfl; rw [h1] at hm; cases hm
  have hme : m ≠ eq := by
    rintro rfl
    rw [hf1 m (Ne.symm hnm)] at hm
    exact s.he.has hm
  have hfm : F m = none := by
    rw [hf1 m (Ne.symm hnm)] at hm
    exact s.fh.none' hm
  refine ⟨fun q c hq => ?_, s.fn, hfm, s.fe, hnm, s.n2, hme, ?_, ?_, ?_⟩
  · have k1 : q ≠ m := by rintro rfl; rw [hfm] at hq; cases hq
    have k2 : q ≠ xq := by rintro rfl; rw [s.fx] at hq; cases hq
    have k3 : q ≠ nb := by rintro rfl; rw [s.fn] at hq; cases hq
    rw [hf2 q k1 k2, hf1 q k3]; exact s.fh q c hq
  · rw [hf2 nb hnm s.n1, h1, ints_set', numI_set hkw (by rw [← hk]; exact hc), hk]
  · rw [List.length_append]
    simpa [ints] using g
  · exact s.he.grow (fun _ _ => trivial) fun b h => by rw [hf2 eq (Ne.symm hme) (Ne.symm s.n3), hf1 eq (Ne.symm s.n2)]; exact h
end Go.AM

/- Blocks that are held, apart from each other and from what is read. Conditions: none. -/
set_option linter.unusedVariables false
set_option linter.unusedSimpArgs false
namespace Go.AM
open Go

/-- a block that is held, or none -/
abbrev Ent := Option (Nat × Blk)
def bk (n sz : Nat) (cs : List V) : Ent := some (n, ⟨true, sz, cs⟩)
/-- F is read; the blocks of L are held, apart from each other and from F -/
structure Has (F : Heap) (L : List Ent) (H : Heap) : Prop where
  sub : Heap.sub F H
  get : ∀ (i n : Nat) b, L[i]? = some (some (n, b)) → H n = some b
  out : ∀ (i n : Nat) b, L[i]? = some (some (n, b)) → F n = none
  dis : ∀ (i j n : Nat) b b', L[i]? = some (some (n, b)) → L[j]? = some (some (n, b')) → i = j
namespace Has
variable {F F' H H' : Heap} {L : List Ent}
theorem nil (h : Heap.sub F H) : Has F [] H := ⟨h, fun i n b h => by simp at h, fun i n b h => by simp at h, fun i j n b b' h => by simp at h⟩
theorem self : Has F [] F := nil Heap.sub.rfl'
theorem grow (h : Has F L H) (hs : Heap.sub H H') : Has F L H' := ⟨h.sub.trans' hs, fun i n b e => hs _ _ (h.get i n b e), h.out, h.dis⟩
theorem down (h : Has F' L H) (hs : Heap.sub F F') : Has F L H := ⟨hs.trans' h.sub, h.get, fun i n b e => hs.none' (h.out i n b e), h.dis⟩
theorem at_ (h : Has F L H) (i : Nat) {n sz : Nat} {cs : List V} (e : L[i]? = some (bk n sz cs)) : H n = some ⟨true, sz, cs⟩ := h.get i n _ e
theorem push (h : Has F L H) {n sz : Nat} {cs : List V} (hn : H n = none) (hs : Heap.sub H H') (hb : H' n = some ⟨true, sz, cs⟩) : Has F (bk n sz cs :: L) H' := by
  refine ⟨h.sub.trans' hs, fun i m b e => ?_, fun i m b e => ?_, fun i j m b b' e e' => ?_⟩
  · cases i with
    | zero => simp only [List.getElem?_cons_zero, bk, Option.some.injEq, Prod.mk.injEq] at e; rw [← e.1, ← e.2]; exact hb
    | succ i => exact hs _ _ (h.get i m b (by simpa using e))
  · cases i with
    | zero => simp only [List.getElem?_cons_zero, bk, Option.some.injEq, Prod.mk.injEq] at e; rw [← e.1]; exact h.sub.none' hn
    | succ i => exact h.out i m b (by simpa using e)
  · have key : ∀ k c, L[k]? = some (some (n, c)) → False := fun k c hk => by
      have := h.get k n c hk
      rw [hn] at this; cases this
    cases i with
    | zero =>
      cases j with
      | zero => rfl
      | succ j =>
        simp only [List.getElem?_cons_zero, bk, Option.some.injEq, Prod.mk.injEq] at e
        rw [← e.1] at e'
        exact (key j b' (by simpa using e')).elim
    | succ i =>
      cases j with
      | zero =>
        simp only [List.getElem?_cons_zero, bk, Option.some.injEq, Prod.mk.injEq] at e'
        rw [← e'.1] at e
        exact (key i b (by simpa using e)).elim
      | succ j => rw [h.dis i j m b b' (by simpa using e) (by simpa using e')]
/-- a held block, or a place for one, turns into another block: its own name, or a new one -/
theorem turn (h : Has F L H) {i m : Nat} {e : Ent} {c : Blk} (hi : L[i]? = some e) (hm : (∃ b, e = some (m, b)) ∨ H m = none) (hb : H' m = some c) (ho : ∀ k, k ≠ m → (∀ n b, e = some (n, b) → k ≠ n) → H' k = H k) : Has F (L.set i (some (m, c))) H' := by
  have hil : i < L.length := (List.getElem?_eq_some_iff.1 hi).1
  have hFm : F m = none := by
    rcases hm with ⟨b, rfl⟩ | hm
    · exact h.out i m b hi
    · exact h.sub.none' hm
  have other : ∀ j n b, j ≠ i → L[j]? = some (some (n, b)) → n ≠ m ∧ ∀ n' b', e = some (n', b') → n ≠ n' := by
    intro j n b hj hL
    refine ⟨?_, fun n' b' he => ?_⟩
    · rintro rfl
      rcases hm with ⟨b2, rfl⟩ | hm
      · exact hj (h.dis _ _ _ _ _ hL hi)
      · rw [h.get j n b hL] at hm; cases hm
    · rintro rfl
      rw [he] at hi
      exact hj (h.dis _ _ _ _ _ hL hi)
  refine ⟨fun k b hk => ?_, fun j n b hj => ?_, fun j n b hj => ?_, fun j k n b b' hj hk => ?_⟩
  · rw [ho k (fun ek => by rw [ek, hFm] at hk; cases hk) (fun n b' he ek => by rw [ek, h.out i n b' (by rw [hi, he])] at hk; cases hk)]
    exact h.sub k b hk
  · by_cases hji : i = j
    · subst hji
      rw [List.getElem?_set_self hil] at hj
      simp only [Option.some.injEq, Prod.mk.injEq] at hj
      rw [← hj.1, ← hj.2]; exact hb
    · rw [List.getElem?_set_ne hji] at hj
      obtain ⟨o1, o2⟩ := other j n b (Ne.symm hji) hj
      rw [ho n o1 o2]; exact h.get j n b hj
  · by_cases hji : i = j
    · subst hji
      rw [List.getElem?_set_self hil] at hj
      simp only [Option.some.injEq, Prod.mk.injEq] at hj
      rw [← hj.1]; exact hFm
    · rw [List.getElem?_set_ne hji] at hj
      exact h.out j n b hj
  · have key : ∀ j b, (L.set i (some (m, c)))[j]? = some (some (n, b)) → (j = i ∧ n = m) ∨ (j ≠ i ∧ n ≠ m ∧ L[j]? = some (some (n, b))) := by
      intro j b hj
      by_cases hji : i = j
      · subst hji
        rw [List.getElem?_set_self hil] at hj
        simp only [Option.some.injEq, Prod.mk.injEq] at hj
        exact .inl ⟨rfl, hj.1.symm⟩
      · rw [List.getElem?_set_ne hji] at hj
        exact .inr ⟨Ne.symm hji, (other j n b (Ne.symm hji) hj).1, hj⟩
    rcases key j b hj with ⟨rfl, rfl⟩ | ⟨a1, a2, a3⟩
    · rcases key k b' hk with ⟨rfl, _⟩ | ⟨_, c2, _⟩
      · rfl
      · exact absurd rfl c2
    · rcases key k b' hk with ⟨_, rfl⟩ | ⟨_, _, c3⟩
      · exact absurd rfl a2
      · exact h.dis _ _ _ _ _ a3 c3
theorem put (h : Has F L H) {i n sz : Nat} {cs ds : List V} (hi : L[i]? = some (bk n sz cs)) (hb : H' n = some ⟨true, sz, ds⟩) (ho : ∀ k, k ≠ n → H' k = H k) : Has F (L.set i (bk n sz ds)) H' :=
  h.turn hi (.inl ⟨_, rfl⟩) hb fun k h1 _ => ho k h1
/-- less is held -/
theorem lose (h : Has F L H) (i : Nat) : Has F (L.set i none) H := by
  have key : ∀ (j n : Nat) b, (L.set i none)[j]? = some (some (n, b)) → L[j]? = some (some (n, b)) := by
    intro j n b hj
    rw [List.getElem?_set] at hj
    split at hj
    · split at hj <;> simp at hj
    · exact hj
  exact ⟨h.sub, fun j n b hj => h.get j n b (key j n b hj), fun j n b hj => h.out j n b (key j n b hj), fun j k n b b' hj hk => h.dis _ _ _ _ _ (key j n b hj) (key k n b' hk)⟩
theorem tail {e : Ent} (h : Has F (e :: L) H) : Has F L H :=
  ⟨h.sub, fun j n b hj => h.get (j+1) n b (by simpa using hj), fun j n b hj => h.out (j+1) n b (by simpa using hj), fun j k n b b' hj hk => by have := h.dis (j+1) (k+1) n b b' (by simpa using hj) (by simpa using hk); omega⟩
theorem take (h : Has F L H) (k : Nat) : Has F (L.take k) H := by
  have key : ∀ (j n : Nat) b, (L.take k)[j]? = some (some (n, b)) → L[j]? = some (some (n, b)) := by
    intro j n b hj
    rw [List.getElem?_take] at hj
    split at hj
    · exact hj
    · cases hj
  exact ⟨h.sub, fun j n b hj => h.get j n b (key j n b hj), fun j n b hj => h.out j n b (key j n b hj), fun j k n b b' hj hk => h.dis _ _ _ _ _ (key j n b hj) (key k n b' hk)⟩
theorem drop (h : Has F L H) (k : Nat) : Has F (L.drop k) H := by
  induction k with
  | zero => exact h
  | succ k ih =>
    by_cases hk : k < L.length
    · rw [List.drop_eq_getElem_cons hk] at ih; exact ih.tail
    · rw [List.drop_eq_nil_of_le (by omega)]; exact nil h.sub
/-- a place for a block to come -/
theorem room (h : Has F L H) : Has F (none :: L) H := by
  have key : ∀ (j n : Nat) b, (none :: L : List Ent)[j]? = some (some (n, b)) → ∃ j', j = j' + 1 ∧ L[j']? = some (some (n, b)) := by
    intro j n b hj
    cases j with
    | zero => simp at hj
    | succ j => exact ⟨j, rfl, by simpa using hj⟩
  refine ⟨h.sub, fun j n b hj => ?_, fun j n b hj => ?_, fun j k n b b' hj hk => ?_⟩
  · obtain ⟨j', _, e⟩ := key j n b hj; exact h.get _ _ _ e
  · obtain ⟨j', _, e⟩ := key j n b hj; exact h.out _ _ _ e
  · obtain ⟨j', e1, e⟩ := key j n b hj
    obtain ⟨k', e2, e'⟩ := key k n b' hk
    rw [e1, e2, h.dis _ _ _ _ _ e e']
/-- another order -/
theorem perm {L' : List Ent} (h : Has F L H) (hp : L'.Perm L) : Has F L' H := by
  have hmem : ∀ (i n : Nat) b, L'[i]? = some (some (n, b)) → ∃ j : Nat, L[j]? = some (some (n, b)) := by
    intro i n b hi
    have : some (n, b) ∈ L := hp.mem_iff.1 (List.mem_of_getElem? hi)
    exact List.getElem?_of_mem this
  have pw : L.Pairwise fun x y => ∀ n b b', x = some (n, b) → y = some (n, b') → False := by
    rw [List.pairwise_iff_getElem]
    intro i j hi hj hij n b b' hx hy
    have := h.dis i j n b b' (by rw [List.getElem?_eq_getElem hi, hx]) (by rw [List.getElem?_eq_getElem hj, hy])
    omega
  have pw' : L'.Pairwise fun x y => ∀ n b b', x = some (n, b) → y = some (n, b') → False :=
    (hp.pairwise_iff (fun {x y} hxy n b b' hy hx => hxy n b' b hx hy)).2 pw
  refine ⟨h.sub, fun i n b hi => ?_, fun i n b hi => ?_, fun i j n b b' hi hj => ?_⟩
  · obtain ⟨j, hj⟩ := hmem i n b hi; exact h.get j n b hj
  · obtain ⟨j, hj⟩ := hmem i n b hi; exact h.out j n b hj
  · rw [List.pairwise_iff_getElem] at pw'
    obtain ⟨li, ei⟩ := List.getElem?_eq_some_iff.1 hi
    obtain ⟨lj, ej⟩ := List.getElem?_eq_some_iff.1 hj
    rcases Nat.lt_trichotomy i j with hij | hij | hij
    · exact (pw' i j li lj hij n b b' ei ej).elim
    · exact hij
    · exact (pw' j i lj li hij n b' b ej ei).elim
theorem room_end (h : Has F L H) : Has F (L ++ [none]) H := h.room.perm (by simp)
/-- a held block is read from now on -/
theorem freeze (h : Has F L H) (i : Nat) {n sz : Nat} {cs : List V} (hi : L[i]? = some (bk n sz cs)) : ∃ F', Heap.sub F F' ∧ F' n = some ⟨true, sz, cs⟩ ∧ (∀ k, k ≠ n → F' k = F k) ∧ Has F' (L.set i none) H := by
  have hil : i < L.length := (List.getElem?_eq_some_iff.1 hi).1
  have hFn := h.out i n _ hi
  have key : ∀ (j m : Nat) b, (L.set i none)[j]? = some (some (m, b)) → L[j]? = some (some (m, b)) ∧ m ≠ n := by
    intro j m b hj
    rw [List.getElem?_set] at hj
    split at hj
    · simp at hj
    · rename_i hne
      refine ⟨hj, ?_⟩
      rintro rfl
      exact hne (h.dis _ _ _ _ _ hi hj)
  refine ⟨F.upd n (some ⟨true, sz, cs⟩), Heap.sub.rfl'.upd' hFn _, by simp [Heap.upd], fun k hk => by simp [Heap.upd, hk], fun k b hk => ?_, fun j m b hj => h.get j m b (key j m b hj).1, fun j m b hj => ?_, fun j k m b b' hj hk => h.dis _ _ _ _ _ (key j m b hj).1 (key k m b' hk).1⟩
  · by_cases e : k = n
    · subst e
      simp only [Heap.upd, if_pos] at hk
      cases hk
      exact h.get i _ _ hi
    · simp only [Heap.upd, if_neg e] at hk; exact h.sub k b hk
  · simp only [Heap.upd, if_neg (key j m b hj).2]; exact h.out j m b (key j m b hj).1
/-- a new block is read from now on -/
theorem keep (h : Has F L H) {n : Nat} {b : Blk} (hn : H n = none) (hs : Heap.sub H H') (hb : H' n = some b) : ∃ F', Heap.sub F F' ∧ F' n = some b ∧ Has F' L H' := by
  have hFn := h.sub.none' hn
  refine ⟨F.upd n (some b), Heap.sub.rfl'.upd' hFn _, by simp [Heap.upd], fun k c hk => ?_, fun j m c hj => hs _ _ (h.get j m c hj), fun j m c hj => ?_, h.dis⟩
  · by_cases e : k = n
    · subst e
      simp only [Heap.upd, if_pos] at hk
      cases hk; exact hb
    · simp only [Heap.upd, if_neg e] at hk; exact hs _ _ (h.sub k c hk)
  · have : m ≠ n := by
      rintro rfl
      rw [h.get j m c hj] at hn; cases hn
    simp only [Heap.upd, if_neg this]; exact h.out j m c hj
/-- what a callee has laid is read from now on: all that is not held -/
theorem all (h : Has F L H) : ∃ F', Heap.sub F F' ∧ Has F' L H ∧ ∀ n, H n ≠ none → (∀ (i : Nat) b, L[i]? ≠ some (some (n, b))) → F' n = H n := by
  classical
  refine ⟨fun n => if ∃ (i : Nat), ∃ b, L[i]? = some (some (n, b)) then none else H n, fun n b hn => ?_, ⟨fun n b hn => ?_, h.get, fun i n b hi => ?_, h.dis⟩, fun n _ hn => ?_⟩
  · have : ¬ ∃ (i : Nat), ∃ b, L[i]? = some (some (n, b)) := by
      rintro ⟨i, b', hi⟩
      rw [h.out i n b' hi] at hn; cases hn
    simp only [if_neg this]; exact h.sub n b hn
  · split at hn
    · cases hn
    · exact hn
  · have : ∃ (i : Nat), ∃ b, L[i]? = some (some (n, b)) := ⟨i, b, hi⟩
    simp only [if_pos this]
  · have : ¬ ∃ (i : Nat), ∃ b, L[i]? = some (some (n, b)) := by
      rintro ⟨i, b', hi⟩
      exact hn i b' hi
    simp only [if_neg this]
end Has

theorem Sl.cel {H : Heap} {v : V} {sz len : Nat} {cs : List V} (h : Sl H v sz len cs) : v.cells = [v] := by
  obtain ⟨_, _, ⟨rfl, _⟩ | ⟨n, o, f, b, rfl, _⟩⟩ := h <;> rfl

/-! ### steps -/
section
variable {F H : Heap} {L : List Ent} {env : Env} {d : Option Nat} {K : Env → Heap → Prop}
theorem newC_has (h : Has F L H) {sz : Nat} {cs : List V} {mkv : Nat → V} (hk : ∀ n H', H n = none → Heap.sub H H' → Has F (bk n sz cs :: L) H' → K (env.put d (mkv n)) H') : newC H ⟨true, sz, cs⟩ mkv d K env :=
  newC_intro fun n H' hn hs hb => hk n H' hn hs (h.push hn hs hb)
/-- a new block that is only read -/
theorem newC_keep (h : Has F L H) {b : Blk} {mkv : Nat → V} (hk : ∀ n H' F', Heap.sub H H' → Heap.sub F F' → F' n = some b → Has F' L H' → K (env.put d (mkv n)) H') : newC H b mkv d K env :=
  newC_intro fun n H' hn hs hb => by
    obtain ⟨F', a1, a2, a3⟩ := h.keep hn hs hb
    exact hk n H' F' hs a1 a2 a3
theorem mkC_has (h : Has F L H) {sz bytes : Nat} {zs : List V} {k1 k2 : IntKind} {l c : Nat} (h1 : l ≤ c) (h2 : c * bytes ≤ 281474976710656) (h3 : c ≤ 281474976710656)
    (hk : ∀ n H', H n = none → Heap.sub H H' → Has F (bk n sz (List.replicate l zs).flatten :: L) H' → K (env.put d (.sl n 0 l (l == c))) H') : mkC H sz bytes zs (.int k1 l) (.int k2 c) d K env :=
  mkC_intro h1 h2 h3 fun n H' hn hs hb => hk n H' hn hs (h.push hn hs hb)
theorem stC_has (h : Has F L H) (i : Nat) {n o sz s : Nat} {av : List Nat} {x : V} {cs : List V} (hi : L[i]? = some (bk n s cs)) (h1 : offAll env n av) (hx : x.cells.length = sz) (h0 : 0 < sz) (hl : o + sz ≤ cs.length)
    (hk : ∀ H', Has F (L.set i (bk n s (splice cs o x.cells))) H' → (∀ m, m ≠ n → H' m = H m) → K (env.put d und) H') : stC H env av sz (.ptr n o) x d K :=
  stC_intro (h.at_ i hi) h1 hx h0 hl fun H' hb hf _ => hk H' (h.put hi hb hf) hf
/-- a store of one cell -/
theorem stC_has1 (h : Has F L H) (i : Nat) {n o s : Nat} {av : List Nat} {x : V} {cs : List V} (hi : L[i]? = some (bk n s cs)) (h1 : offAll env n av) (hx : x.cells = [x]) (hl : o < cs.length)
    (hk : ∀ H', Has F (L.set i (bk n s (cs.set o x))) H' → (∀ m, m ≠ n → H' m = H m) → K (env.put d und) H') : stC H env av 1 (.ptr n o) x d K :=
  stC_has h i hi h1 (by rw [hx]; rfl) (by decide) (by omega) fun H' hh hf => hk H' (by
    rw [hx] at hh
    have : splice cs o [x] = cs.set o x := by
      unfold splice
      rw [List.set_eq_take_append_cons_drop, if_pos hl]
      simp
    rw [this] at hh; exact hh) hf

/-- a slice that grows, and the block that it holds -/
def Grw (u : V) (sz len : Nat) (cs : List V) (e : Ent) : Prop :=
  (u = .nils ∧ len = 0 ∧ cs = [] ∧ e = none) ∨ (∃ q, u = .sl q 0 0 true ∧ len = 0 ∧ cs = [] ∧ e = bk q sz []) ∨ ∃ q, u = .sl q 0 len false ∧ cs.length = len * sz ∧ e = bk q sz cs
theorem Grw.lenV {u : V} {sz len : Nat} {cs : List V} {e : Ent} (g : Grw u sz len cs e) : lenV u = len := by
  rcases g with ⟨rfl, rfl, _⟩ | ⟨q, rfl, rfl, _⟩ | ⟨q, rfl, _⟩ <;> rfl
theorem Grw.lenR {u : V} {sz len : Nat} {cs : List V} {e : Ent} (g : Grw u sz len cs e) : lenR u = some (.int .i64 len) := by
  rcases g with ⟨rfl, rfl, _⟩ | ⟨q, rfl, rfl, _⟩ | ⟨q, rfl, _⟩ <;> rfl
theorem Grw.nil {sz : Nat} : Grw .nils sz 0 [] none := .inl ⟨rfl, rfl, rfl, rfl⟩
theorem Grw.empty {q sz : Nat} : Grw (.sl q 0 0 true) sz 0 [] (bk q sz []) := .inr (.inl ⟨q, rfl, rfl, rfl, rfl⟩)
theorem Grw.sl {u : V} {sz len : Nat} {cs : List V} {e : Ent} (g : Grw u sz len cs e) (h : Has F L H) (i : Nat) (hi : L[i]? = some e) (hl : len ≤ 281474976710656) : Sl H u sz len cs := by
  rcases g with ⟨rfl, rfl, rfl, rfl⟩ | ⟨q, rfl, rfl, rfl, rfl⟩ | ⟨q, rfl, hc, rfl⟩
  · exact ⟨by simp, by omega, .inl ⟨rfl, rfl⟩⟩
  · exact ⟨by simp, by omega, .inr ⟨q, 0, true, _, rfl, h.at_ i hi, rfl, .inl rfl, fun j hj => by simp⟩⟩
  · exact ⟨hc, hl, .inr ⟨q, 0, false, _, rfl, h.at_ i hi, rfl, .inr (by simp [hc]), fun j hj => by simp⟩⟩
/-- it is read from now on -/
theorem Grw.done {u : V} {sz len : Nat} {cs : List V} {e : Ent} (g : Grw u sz len cs e) (h : Has F L H) (i : Nat) (hi : L[i]? = some e) (hl : len ≤ 281474976710656) : ∃ F', Heap.sub F F' ∧ Sl F' u sz len cs ∧ Has F' (L.set i none) H := by
  rcases g with ⟨rfl, rfl, rfl, rfl⟩ | ⟨q, rfl, rfl, rfl, rfl⟩ | ⟨q, rfl, hc, rfl⟩
  · exact ⟨F, Heap.sub.rfl', ⟨by simp, by omega, .inl ⟨rfl, rfl⟩⟩, h.lose i⟩
  · obtain ⟨F', a1, a2, _, a3⟩ := h.freeze i hi
    exact ⟨F', a1, ⟨by simp, by omega, .inr ⟨q, 0, true, _, rfl, a2, rfl, .inl rfl, fun j hj => by simp⟩⟩, a3⟩
  · obtain ⟨F', a1, a2, _, a3⟩ := h.freeze i hi
    exact ⟨F', a1, ⟨hc, hl, .inr ⟨q, 0, false, _, rfl, a2, rfl, .inr (by simp [hc]), fun j hj => by simp⟩⟩, a3⟩
/-- more items behind it -/
theorem appC_has (h : Has F L H) (i : Nat) {u x : V} {cs vs : List V} {e : Ent} {sz len k bytes : Nat} {av : List Nat} (hi : L[i]? = some e) (g : Grw u sz len cs e) (hx : Sl H x sz k vs) (hk0 : 0 < k) (hz : 0 < sz) (hav : ∀ n o l f, u = .sl n o l f → offAll env n av) (hb : (len + k) * bytes ≤ 140737488355328) (hb2 : len + k ≤ 140737488355328)
    (hk : ∀ m H', H m = none → Grw (.sl m 0 (len + k) false) sz (len + k) (cs ++ vs) (bk m sz (cs ++ vs)) → Has F (L.set i (bk m sz (cs ++ vs))) H' → K (env.put d (.sl m 0 (len + k) false)) H') : appC H env sz bytes u x av d K := by
  have hxl := hx.lenV
  have hc : cellsAt H sz x = some vs := by
    obtain ⟨h1, h2, ⟨rfl, h3⟩ | ⟨m, o, f, b, rfl, hb', hz', hl, hj⟩⟩ := hx
    · omega
    · simp only [cellsAt, if_neg (show ¬ k = 0 by omega), hb']
      have : o + k * sz ≤ b.cells.length := by omega
      rw [if_pos this]
      congr 1
      apply List.ext_getElem?
      intro j
      rw [List.getElem?_take, List.getElem?_drop]
      split
      · exact hj j (by assumption)
      · rw [List.getElem?_eq_none (by omega)]
  have h0 := g.lenV
  unfold appC
  rw [hc, hxl, h0]
  refine ⟨hb, hb2, ?_⟩
  rw [if_neg (by omega)]
  have hvl := hx.1
  rcases g with ⟨rfl, rfl, rfl, rfl⟩ | ⟨q, rfl, rfl, rfl, rfl⟩ | ⟨q, rfl, hcl, rfl⟩
  · intro m hm
    have e : 0 + k = k := by omega
    simp only [e, List.nil_append] at hk ⊢
    exact hk m _ hm (.inr (.inr ⟨m, rfl, hvl, rfl⟩)) (h.turn hi (.inr hm) (by simp [Heap.upd]) fun j h1 _ => by simp [Heap.upd, h1])
  · simp only [h.at_ i hi]
    refine ⟨hav q _ _ _ rfl, ?_⟩
    simp only [if_true]
    refine ⟨by simp, fun m hm => ?_⟩
    have e : 0 + k = k := by omega
    simp only [e, List.nil_append, Nat.zero_mul, List.take_zero] at hk ⊢
    exact hk m _ hm (.inr (.inr ⟨m, rfl, hvl, rfl⟩)) (h.turn hi (.inr hm) (by simp [Heap.upd]) fun j h1 _ => by simp [Heap.upd, h1])
  · simp only [h.at_ i hi]
    refine ⟨hav q _ _ _ rfl, ?_⟩
    simp only [Bool.false_eq_true, if_false]
    refine ⟨trivial, trivial, trivial, hcl, fun m hm => ?_⟩
    exact hk m _ hm (.inr (.inr ⟨m, rfl, by rw [List.length_append, hcl, hvl, Nat.add_mul], rfl⟩)) (h.turn hi (.inr hm) (by simp [Heap.upd]) fun j h1 h2 => by
      have := h2 q _ rfl
      simp [Heap.upd, h1, this])
/-- one item more behind it, out of a new block -/
theorem appC_has1 (h : Has F L H) (i : Nat) {u : V} {cs vs : List V} {e : Ent} {sz len bytes xb : Nat} {own f : Bool} {av : List Nat} (hi : L[i]? = some e) (g : Grw u sz len cs e) (hx : H xb = some ⟨own, sz, vs⟩) (hvs : vs.length = sz) (hz : 0 < sz) (hav : ∀ n o l f, u = .sl n o l f → offAll env n av) (hb : (len + 1) * bytes ≤ 140737488355328) (hb2 : len + 1 ≤ 140737488355328)
    (hk : ∀ m H', H m = none → Grw (.sl m 0 (len + 1) false) sz (len + 1) (cs ++ vs) (bk m sz (cs ++ vs)) → Has F (L.set i (bk m sz (cs ++ vs))) H' → K (env.put d (.sl m 0 (len + 1) false)) H') : appC H env sz bytes u (.sl xb 0 1 f) av d K :=
  appC_has h i hi g (k := 1) ⟨by omega, by decide, .inr ⟨xb, 0, f, _, rfl, hx, rfl, .inr (by simp [hvs]), fun j _ => by simp⟩⟩ (by decide) hz hav hb hb2 hk
/-- a callee that adds to the part G of the heap that is read -/
theorem callC_has {P : Program} {g : FuncId} {caps args : List V} {keep : Bool} {R : V → Heap → Prop} (h : Has F L H) (hc : ACalls P g (args ++ caps) F fun v G' => Heap.sub F G' ∧ R v G')
    (hk : ∀ v H' F', Heap.sub H H' → Heap.sub F F' → R v F' → Has F' L H' → K (env.put d v) H') : callC P (.fn g caps) args keep d K env H := by
  refine callC_in hc h.sub fun v H' G' s1 s2 s3 s4 r => hk v H' G' s1 s2 r ⟨s3, fun i n b e => s1 _ _ (h.get i n b e), fun i n b e => s4 n (h.out i n b e) (by rw [h.get i n b e]; simp), h.dis⟩
theorem invC_has {P : Program} {g : FuncId} {t : TypeId} {x : V} {args : List V} {keep : Bool} {R : V → Heap → Prop} (h : Has F L H) (hc : ACalls P g (x :: args) F fun v G' => Heap.sub F G' ∧ R v G')
    (hk : ∀ v H' F', Heap.sub H H' → Heap.sub F F' → R v F' → Has F' L H' → K (env.put d v) H') : invC P (.ifc t x) t g args keep d K env H := by
  refine invC_in hc h.sub fun v H' G' s1 s2 s3 s4 r => hk v H' G' s1 s2 r ⟨s3, fun i n b e => s1 _ _ (h.get i n b e), fun i n b e => s4 n (h.out i n b e) (by rw [h.get i n b e]; simp), h.dis⟩
/-- the end: what is held goes -/
theorem finO_has {v : V} {R : V → Heap → Prop} (h : Has F L H) (hr : R v F) : finO v H R := finO_sub h.sub hr
end
end Go.AM
