/- codewrightref01.Same. Conditions: none. -/
import Derived.Test.YtopeeknimehmcaaN6
set_option linter.unusedVariables false
set_option linter.unusedSimpArgs false
namespace Go.AM
open Go Go.Proofs
attribute [local go_sem] c_skip c_ops c_seq c_ite c_blk c_exit c_ret t_normal t_exit t_ret b_normal b_exit b_ret i_nil i_cons s_guard s_mov s_pick s_new s_zero s_ld s_ldr s_st s_bin s_beq s_isnil s_eqs s_un s_conv s_fa s_fld s_ia s_sli s_ext s_ifc s_mkf s_agg s_len s_mm s_nilchk s_bsl s_mk s_app s_cpy s_call s_inv cells_agg cells_int cells_bool p_get p_none o_s o_c e_0 e_1 e_2 e_3 e_4 iteC_true iteC_false grd_tt grd_tf grd_ft grd_ff grd_und bindV_some pickV_t pickV_f beq_bool conv_int un_not not_dec mm_min mm_max bv_add bv_sub bv_mul bv_eql bv_neq bv_lss bv_leq bv_gtr bv_geq f_normal f_one f_two f_three f_none fa_ptr fld_one ext_tup len_sl len_nils decide_true decide_false not_true_eq_false not_false_eq_true List.map_cons List.map_nil List.append_nil List.cons_append List.nil_append Nat.zero_add Nat.add_zero Nat.mul_one Nat.succ_ne_self if_true if_false List.getElem?_cons_zero List.getElem?_cons_succ

/-- codewrightref01.Same -/
def F31 : AF := ⟨26, [(4, none)], (.seq (.ops [⟨none, false, (some 4), (.mov (.c (.bool false)))⟩]) (.seq (.seq (.ops [⟨none, false, (some 6), (.mov (.s 0))⟩, ⟨none, false, (some 7), (.len (.s 6))⟩, ⟨none, false, (some 8), (.mov (.s 1))⟩, ⟨none, false, (some 9), (.len (.s 8))⟩, ⟨none, false, (some 10), (.bin .neq (.s 7) (.s 9))⟩]) (.ite (.s 10) (.seq (.ops [⟨none, false, (some 4), (.mov (.c (.bool false)))⟩]) .ret) .skip)) (.seq (.seq (.ops [⟨none, false, (some 5), (.mov (.c (.int .i64 (0))))⟩]) (.blk 0 (.loop (.seq (.seq (.ops [⟨none, false, (some 11), (.mov (.s 5))⟩, ⟨none, false, (some 12), (.mov (.s 0))⟩, ⟨none, false, (some 13), (.len (.s 12))⟩, ⟨none, false, (some 14), (.bin .lss (.s 11) (.s 13))⟩]) (.ite (.s 14) .skip (.exit 0))) (.seq (.blk 1 (.seq (.ops [⟨none, false, (some 17), (.mov (.s 0))⟩, ⟨none, false, (some 18), (.mov (.s 5))⟩, ⟨none, false, (some 19), (.ia 1 (.s 17) (.s 18))⟩, ⟨none, false, (some 21), (.mov (.s 1))⟩, ⟨none, false, (some 22), (.mov (.s 5))⟩, ⟨none, false, (some 23), (.ia 1 (.s 21) (.s 22))⟩, ⟨none, false, (some 20), (.ld false 1 (.s 19) none)⟩, ⟨none, false, (some 24), (.ld false 1 (.s 23) none)⟩, ⟨none, false, (some 25), (.bin .neq (.s 20) (.s 24))⟩]) (.ite (.s 25) (.seq (.ops [⟨none, false, (some 4), (.mov (.c (.bool false)))⟩]) .ret) .skip))) (.ops [⟨none, false, (some 15), (.mov (.s 5))⟩, ⟨none, false, (some 16), (.bin .add (.s 15) (.c (.int .i64 (1))))⟩, ⟨none, false, (some 5), (.mov (.s 16))⟩])))))) (.seq (.ops [⟨none, false, (some 4), (.mov (.c (.bool true)))⟩]) .ret))))⟩
theorem cv31 : cvF Try.prog 31 = some F31 := by kernel_rfl


theorem rNatSame_spec {av bv : V} {xs ys : List Int} {H : Heap} (hx : SLimbs H av xs) (hy : SLimbs H bv ys) : ACalls Try.prog 31 [av, bv] H fun u H' => u = .bool (decide (xs = ys)) ∧ H' = H := by
  refine ACalls.of_body hm cv31 (by simp only [List.length_cons, List.length_nil]; decide) ?_
  have hlx := hx.lt
  simp only [F31, go_sem, ↓reduceIte, Nat.reduceEqDiff, Nat.reduceAdd, reduceCtorEq, hx.len, hy.len]
  have no : xs ≠ ys → finO (.bool false) H fun u H' => u = .bool (decide (xs = ys)) ∧ H' = H := fun h => finO_self ⟨by simp [h], rfl⟩
  refine iteC_if (fun c => ?_) (fun c => ?_)
  · simp only [go_sem, ↓reduceIte, Nat.reduceEqDiff, Nat.reduceAdd, reduceCtorEq]
    exact no fun e => by subst e; omega
  have hl : xs.length = ys.length := by omega
  simp only [go_sem, ↓reduceIte, Nat.reduceEqDiff, Nat.reduceAdd, reduceCtorEq]
  refine loop_count xs.length (fun k env H' => H = H' ∧ env 0 = av ∧ env 1 = bv ∧ env 5 = .int .i64 k ∧ ∀ i, (h : i < xs.length) → i < k → xs[i] = ys[i]'(by omega)) ?_ ?_ ?_
  · simp only [go_sem, ↓reduceIte, Nat.reduceEqDiff, Nat.reduceAdd, reduceCtorEq]; simp
  · rintro k env H' hk ⟨rfl, h0, h1, h5, hz⟩
    have hk' : (k : Int) < xs.length := by omega
    obtain ⟨p, a1, a2⟩ := hx.get hk .i64
    obtain ⟨q, b1, b2⟩ := hy.get (k := k) (by omega) .i64
    simp only [go_sem, ↓reduceIte, Nat.reduceEqDiff, Nat.reduceAdd, reduceCtorEq, h0, h1, h5, hx.len, hk', a1, a2, b1, b2]
    refine iteC_if (fun d => ?_) (fun d => ?_)
    · simp only [go_sem, ↓reduceIte, Nat.reduceEqDiff, Nat.reduceAdd, reduceCtorEq]
      exact no fun e => by subst e; exact d rfl
    simp only [go_sem, ↓reduceIte, Nat.reduceEqDiff, Nat.reduceAdd, reduceCtorEq, h0, h1, h5]
    rw [wrapN1 (by omega)]
    refine ⟨by trivial, by trivial, by trivial, by trivial, fun i h hi => ?_⟩
    rcases Nat.lt_succ_iff_lt_or_eq.1 hi with hi | rfl
    · exact hz i h hi
    · exact Classical.byContradiction d
  · rintro env H' ⟨rfl, h0, h1, h5, hz⟩
    simp only [go_sem, ↓reduceIte, Nat.reduceEqDiff, Nat.reduceAdd, reduceCtorEq, h0, h1, h5, hx.len, Int.lt_irrefl]
    have e : xs = ys := List.ext_getElem hl fun i h h' => hz i h h
    exact finO_self ⟨by simp [e], rfl⟩
end Go.AM
