/- Small functions. Conditions: none. -/
import Derived.Test.YtopeeknimehmcaaU3
import Derived.Test.YtopeeknimehmcaaChecked
import Derived.KernelRfl
set_option linter.unusedVariables false
set_option linter.unusedSimpArgs false
namespace Go.AM
open Go Go.Proofs
attribute [local go_sem] c_skip c_ops c_seq c_ite c_blk c_exit c_ret t_normal t_exit t_ret b_normal b_exit b_ret i_nil i_cons s_guard s_mov s_pick s_new s_zero s_ld s_ldr s_st s_bin s_beq s_isnil s_eqs s_un s_conv s_fa s_fld s_ia s_sli s_ext s_ifc s_mkf s_agg s_len s_mm s_nilchk s_bsl s_mk s_app s_cpy s_call s_inv cells_agg cells_int cells_bool p_get p_none o_s o_c e_0 e_1 e_2 e_3 e_4 iteC_true iteC_false grd_tt grd_tf grd_ft grd_ff grd_und bindV_some pickV_t pickV_f beq_bool conv_int un_not not_dec mm_min mm_max bv_add bv_sub bv_mul bv_eql bv_neq bv_lss bv_leq bv_gtr bv_geq f_normal f_one f_two f_three f_none fa_ptr fld_one ext_tup len_sl len_nils decide_true decide_false not_true_eq_false not_false_eq_true List.map_cons List.map_nil List.append_nil List.cons_append List.nil_append Nat.zero_add Nat.add_zero Nat.mul_one Nat.succ_ne_self if_true if_false List.getElem?_cons_zero List.getElem?_cons_succ

theorem hm : Try.prog.follows .mixedOrders = true := Try.checked.mixed

/-- cmp.isNaN[int] -/
def F104 : AF := ⟨6, [(2, none)], (.seq (.ops [⟨none, false, (some 2), (.mov (.c (.bool false)))⟩]) (.seq (.ops [⟨none, false, (some 3), (.mov (.s 0))⟩, ⟨none, false, (some 4), (.mov (.s 0))⟩, ⟨none, false, (some 5), (.bin .neq (.s 3) (.s 4))⟩, ⟨none, false, (some 2), (.mov (.s 5))⟩]) .ret))⟩
theorem cv104 : cvF Try.prog 104 = some F104 := by kernel_rfl

/-- cmp.Compare[int] -/
def F82 : AF := ⟨20, [(4, none)], (.seq (.ops [⟨none, false, (some 4), (.mov (.c (.int .i64 (0))))⟩]) (.seq (.ops [⟨none, false, (some 7), (.mov (.s 0))⟩, ⟨none, false, (some 8), (.call (.c (.fn 104 [])) [(.s 7)])⟩, ⟨none, false, (some 5), (.mov (.s 8))⟩]) (.seq (.ops [⟨none, false, (some 9), (.mov (.s 1))⟩, ⟨none, false, (some 10), (.call (.c (.fn 104 [])) [(.s 9)])⟩, ⟨none, false, (some 6), (.mov (.s 10))⟩]) (.seq (.seq (.ops [⟨none, false, (some 11), (.mov (.s 5))⟩]) (.ite (.s 11) (.seq (.seq (.ops [⟨none, false, (some 12), (.mov (.s 6))⟩]) (.ite (.s 12) (.seq (.ops [⟨none, false, (some 4), (.mov (.c (.int .i64 (0))))⟩]) .ret) .skip)) (.seq (.ops [⟨none, false, (some 4), (.mov (.c (.int .i64 (-1))))⟩]) .ret)) .skip)) (.seq (.seq (.ops [⟨none, false, (some 13), (.mov (.s 6))⟩]) (.ite (.s 13) (.seq (.ops [⟨none, false, (some 4), (.mov (.c (.int .i64 (1))))⟩]) .ret) .skip)) (.seq (.seq (.ops [⟨none, false, (some 14), (.mov (.s 0))⟩, ⟨none, false, (some 15), (.mov (.s 1))⟩, ⟨none, false, (some 16), (.bin .lss (.s 14) (.s 15))⟩]) (.ite (.s 16) (.seq (.ops [⟨none, false, (some 4), (.mov (.c (.int .i64 (-1))))⟩]) .ret) .skip)) (.seq (.seq (.ops [⟨none, false, (some 17), (.mov (.s 0))⟩, ⟨none, false, (some 18), (.mov (.s 1))⟩, ⟨none, false, (some 19), (.bin .gtr (.s 17) (.s 18))⟩]) (.ite (.s 19) (.seq (.ops [⟨none, false, (some 4), (.mov (.c (.int .i64 (1))))⟩]) .ret) .skip)) (.seq (.ops [⟨none, false, (some 4), (.mov (.c (.int .i64 (0))))⟩]) .ret))))))))⟩
theorem cv82 : cvF Try.prog 82 = some F82 := by kernel_rfl

/-- cmp.Or[int] -/
def F81 : AF := ⟨18, [(2, none)], (.seq (.ops [⟨none, false, (some 2), (.mov (.c (.int .i64 (0))))⟩]) (.seq (.ops [⟨none, false, (some 3), (.mov (.c (.int .i64 (0))))⟩]) (.seq (.seq (.ops [⟨none, false, (some 6), (.mov (.s 0))⟩, ⟨none, false, (some 7), (.len (.s 6))⟩, ⟨none, false, (some 8), (.mov (.c (.int .i64 (0))))⟩]) (.blk 0 (.loop (.seq (.ops [⟨none, false, (some 9), (.bin .lss (.s 8) (.s 7))⟩]) (.seq (.ite (.s 9) .skip (.exit 0)) (.seq (.blk 1 (.seq (.ops [⟨none, false, (some 10), (.ia 1 (.s 6) (.s 8))⟩, ⟨none, false, (some 11), (.ld false 1 (.s 10) none)⟩, ⟨none, false, (some 5), (.mov (.s 11))⟩]) (.seq (.ops [⟨none, false, (some 12), (.mov (.s 5))⟩, ⟨none, false, (some 13), (.mov (.s 3))⟩, ⟨none, false, (some 14), (.bin .neq (.s 12) (.s 13))⟩]) (.ite (.s 14) (.seq (.ops [⟨none, false, (some 15), (.mov (.s 5))⟩, ⟨none, false, (some 2), (.mov (.s 15))⟩]) .ret) .skip)))) (.ops [⟨none, false, (some 16), (.bin .add (.s 8) (.c (.int .i64 (1))))⟩, ⟨none, false, (some 8), (.mov (.s 16))⟩]))))))) (.seq (.ops [⟨none, false, (some 17), (.mov (.s 3))⟩, ⟨none, false, (some 2), (.mov (.s 17))⟩]) .ret))))⟩
theorem cv81 : cvF Try.prog 81 = some F81 := by kernel_rfl

/-- trellis.less -/
def F48 : AF := ⟨17, [(4, none)], (.seq (.ops [⟨none, false, (some 2), (.new (.s 0))⟩, ⟨none, false, (some 3), (.new (.s 1))⟩, ⟨none, false, (some 4), (.mov (.c (.int .i64 (0))))⟩]) (.seq (.ops [⟨none, false, (some 5), (.fa 0 (.s 2))⟩, ⟨none, false, (some 7), (.fa 0 (.s 3))⟩, ⟨none, false, (some 10), (.fa 1 (.s 2))⟩, ⟨none, false, (some 12), (.fa 1 (.s 3))⟩, ⟨none, false, (some 6), (.ld false 1 (.s 5) none)⟩, ⟨none, false, (some 8), (.ld false 1 (.s 7) none)⟩, ⟨none, false, (some 11), (.ld false 1 (.s 10) none)⟩, ⟨none, false, (some 13), (.ld false 1 (.s 12) none)⟩, ⟨none, true, (some 9), (.call (.c (.fn 82 [])) [(.s 6), (.s 8)])⟩, ⟨none, true, (some 14), (.call (.c (.fn 82 [])) [(.s 11), (.s 13)])⟩, ⟨none, false, (some 15), (.bsl 1 2 [(.int .i64 (0)), (.int .i64 (0))] [(0, (1, (.s 9))), (1, (1, (.s 14)))])⟩, ⟨none, true, (some 16), (.call (.c (.fn 81 [])) [(.s 15)])⟩, ⟨none, false, (some 4), (.mov (.s 16))⟩]) .ret))⟩
theorem cv48 : cvF Try.prog 48 = some F48 := by kernel_rfl


theorem isNaN_spec (x : Int) (H : Heap) : ACalls Try.prog 104 [.int .i64 x] H fun v H' => v = .bool false ∧ H' = H := by
  refine ACalls.of_body hm cv104 (by simp only [List.length_cons, List.length_nil]; decide) ?_
  simp only [F104, go_sem, ↓reduceIte, Nat.reduceEqDiff, Nat.reduceAdd, reduceCtorEq]
  exact finO_self ⟨by trivial, rfl⟩

def cmpI (a b : Int) : Int := if a < b then -1 else if b < a then 1 else 0

theorem Compare_spec (x y : Int) (H : Heap) : ACalls Try.prog 82 [.int .i64 x, .int .i64 y] H fun v H' => v = .int .i64 (cmpI x y) ∧ H' = H := by
  refine ACalls.of_body hm cv82 (by simp only [List.length_cons, List.length_nil]; decide) ?_
  simp only [F82, go_sem, ↓reduceIte, Nat.reduceEqDiff, Nat.reduceAdd, reduceCtorEq]
  refine callC_pure (isNaN_spec _ _) ?_
  simp only [go_sem, ↓reduceIte, Nat.reduceEqDiff, Nat.reduceAdd, reduceCtorEq]
  refine callC_pure (isNaN_spec _ _) ?_
  simp only [go_sem, ↓reduceIte, Nat.reduceEqDiff, Nat.reduceAdd, reduceCtorEq]
  refine iteC_if (fun h1 => ?_) (fun h1 => ?_)
  · simp only [go_sem, ↓reduceIte, Nat.reduceEqDiff, Nat.reduceAdd, reduceCtorEq]
    exact finO_self ⟨by simp [cmpI, h1], rfl⟩
  · simp only [go_sem, ↓reduceIte, Nat.reduceEqDiff, Nat.reduceAdd, reduceCtorEq]
    refine iteC_if (fun h2 => ?_) (fun h2 => ?_)
    · simp only [go_sem, ↓reduceIte, Nat.reduceEqDiff, Nat.reduceAdd, reduceCtorEq]
      exact finO_self ⟨by simp [cmpI, h1, h2], rfl⟩
    · simp only [go_sem, ↓reduceIte, Nat.reduceEqDiff, Nat.reduceAdd, reduceCtorEq]
      exact finO_self ⟨by simp [cmpI, h1, h2], rfl⟩

/-- the first item that isn't 0 -/
def orL : List Int → Int
  | [] => 0
  | x :: r => if x ≠ 0 then x else orL r
theorem orL_drop (xs : List Int) : ∀ k, (∀ j, j < k → xs[j]?.getD 0 = 0) → orL (xs.drop k) = orL xs := by
  intro k h
  induction k generalizing xs with
  | zero => rfl
  | succ k ih =>
    cases xs with
    | nil => rfl
    | cons x r =>
      have h0 := h 0 (by omega)
      simp at h0
      simp only [List.drop_succ_cons, orL, h0]
      rw [ih r fun j hj => by simpa using h (j+1) (by omega)]
      simp

theorem Or_spec {v : V} {xs : List Int} {H : Heap} (hv : SInts H v xs) : ACalls Try.prog 81 [v] H fun u H' => u = .int .i64 (orL xs) ∧ H' = H := by
  refine ACalls.of_body hm cv81 (by simp only [List.length_cons, List.length_nil]; decide) ?_
  simp only [F81, go_sem, ↓reduceIte, Nat.reduceEqDiff, Nat.reduceAdd, reduceCtorEq, hv.len]
  refine range_loop xs.length (fun k env H' => H' = H ∧ env 6 = v ∧ env 7 = .int .i64 xs.length ∧ env 8 = .int .i64 k ∧ env 3 = .int .i64 0 ∧ ∀ j, j < k → xs[j]?.getD 0 = 0) hv.lt (by decide) (by decide) ?_ ?_ ?_ ?_
  · rintro k env H' ⟨_, h6, h7, h8, _⟩; exact ⟨h8, h7⟩
  · simp only [go_sem, ↓reduceIte, Nat.reduceEqDiff, Nat.reduceAdd, reduceCtorEq]; simp
  · rintro k env H' hk ⟨rfl, h6, h7, h8, h3, hz⟩
    obtain ⟨p, h1, h2⟩ := hv.get hk .i64
    simp only [go_sem, ↓reduceIte, Nat.reduceEqDiff, Nat.reduceAdd, reduceCtorEq, h6, h7, h8, h3, h1, h2]
    refine iteC_if (fun hx => ?_) (fun hx => ?_)
    · simp only [go_sem, ↓reduceIte, Nat.reduceEqDiff, Nat.reduceAdd, reduceCtorEq]
      refine finO_self ⟨?_, rfl⟩
      rw [← orL_drop xs k hz, List.drop_eq_getElem_cons hk, orL, if_pos hx]
    · simp only [go_sem, ↓reduceIte, Nat.reduceEqDiff, Nat.reduceAdd, reduceCtorEq, h6, h7, h8, h3]
      refine ⟨by trivial, by trivial, by trivial, by trivial, by trivial, by trivial, fun j hj => ?_⟩
      rcases Nat.lt_succ_iff_lt_or_eq.1 hj with hj | rfl
      · exact hz j hj
      · simpa [hk] using hx
  · rintro env H' ⟨rfl, h6, h7, h8, h3, hz⟩
    simp only [go_sem, ↓reduceIte, Nat.reduceEqDiff, Nat.reduceAdd, reduceCtorEq, h3]
    refine finO_self ⟨?_, rfl⟩
    rw [← orL_drop xs xs.length hz, List.drop_length]; rfl

def lessI (a b : Ed) : Int := orL [cmpI a.fr b.fr, cmpI a.lb b.lb]

theorem less_spec (a b : Ed) (H : Heap) : ACalls Try.prog 48 [.agg a.cells, .agg b.cells] H fun u H' => u = .int .i64 (lessI a b) ∧ H' = H := by
  refine ACalls.of_body hm cv48 (by simp only [List.length_cons, List.length_nil]; decide) ?_
  simp only [F48, go_sem, ↓reduceIte, Nat.reduceEqDiff, Nat.reduceAdd, reduceCtorEq]
  refine newC_intro fun n1 H1 hn1 hs1 hb1 => ?_
  simp only [go_sem, ↓reduceIte, Nat.reduceEqDiff, Nat.reduceAdd, reduceCtorEq]
  refine newC_intro fun n2 H2 hn2 hs2 hb2 => ?_
  have hb1' := hs2 _ _ hb1
  simp only [go_sem, ↓reduceIte, Nat.reduceEqDiff, Nat.reduceAdd, reduceCtorEq, ld_box hb1', ld_box hb2, Ed.cells]
  refine callC_pure (Compare_spec _ _ _) ?_
  simp only [go_sem, ↓reduceIte, Nat.reduceEqDiff, Nat.reduceAdd, reduceCtorEq]
  refine callC_pure (Compare_spec _ _ _) ?_
  simp only [go_sem, ↓reduceIte, Nat.reduceEqDiff, Nat.reduceAdd, reduceCtorEq, fillV, List.length_cons, List.length_nil, splice, Nat.reduceLeDiff, Nat.zero_lt_one, and_self, List.take_zero, List.take_succ_cons, List.drop_succ_cons, List.drop_zero, List.drop_nil, Nat.reduceLT, Nat.le_refl]
  refine newC_intro fun n3 H3 hn3 hs3 hb3 => ?_
  simp only [go_sem, ↓reduceIte, Nat.reduceEqDiff, Nat.reduceAdd, reduceCtorEq]
  refine callC_pure (Or_spec (xs := [cmpI a.fr b.fr, cmpI a.lb b.lb]) ?_) ?_
  · refine ⟨rfl, by simp, .inr ⟨n3, 0, true, _, rfl, hb3, rfl, by simp, fun j hj => by simp [ints]⟩⟩
  · simp only [go_sem, ↓reduceIte, Nat.reduceEqDiff, Nat.reduceAdd, reduceCtorEq]
    exact finO_sub (hs1.trans' (hs2.trans' hs3)) ⟨by trivial, rfl⟩
end Go.AM
