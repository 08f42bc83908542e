/- nat.short, nat.Trim, nat.Of. Conditions: none. -/
import Derived.Test.YtopeeknimehmcaaP0
import Derived.Test.YtopeeknimehmcaaN0
set_option linter.unusedVariables false
set_option linter.unusedSimpArgs false
namespace Go.AM
open Go Go.Proofs
attribute [local go_sem] c_skip c_ops c_seq c_ite c_blk c_exit c_ret t_normal t_exit t_ret b_normal b_exit b_ret i_nil i_cons s_guard s_mov s_pick s_new s_zero s_ld s_ldr s_st s_bin s_beq s_isnil s_eqs s_un s_conv s_fa s_fld s_ia s_sli s_ext s_ifc s_mkf s_agg s_len s_mm s_nilchk s_bsl s_mk s_app s_cpy s_call s_inv cells_agg cells_int cells_bool p_get p_none o_s o_c e_0 e_1 e_2 e_3 e_4 iteC_true iteC_false grd_tt grd_tf grd_ft grd_ff grd_und bindV_some pickV_t pickV_f beq_bool conv_int un_not not_dec mm_min mm_max bv_add bv_sub bv_mul bv_eql bv_neq bv_lss bv_leq bv_gtr bv_geq f_normal f_one f_two f_three f_none fa_ptr fld_one ext_tup len_sl len_nils decide_true decide_false not_true_eq_false not_false_eq_true List.map_cons List.map_nil List.append_nil List.cons_append List.nil_append Nat.zero_add Nat.add_zero Nat.mul_one Nat.succ_ne_self if_true if_false List.getElem?_cons_zero List.getElem?_cons_succ

/-- nat.short -/
def F95 : AF := ⟨22, [(2, none)], (.seq (.ops [⟨none, false, (some 2), (.mov (.c .nils))⟩]) (.seq (.ops [⟨none, false, (some 4), (.mov (.s 0))⟩, ⟨none, false, (some 5), (.len (.s 4))⟩, ⟨none, false, (some 3), (.mov (.s 5))⟩]) (.seq (.blk 0 (.loop (.seq (.seq (.ops [⟨none, false, (some 6), (.mov (.s 3))⟩, ⟨none, false, (some 7), (.bin .gtr (.s 6) (.c (.int .i64 (0))))⟩, ⟨none, false, (some 8), (.mov (.s 7))⟩, ⟨(some (8, true)), false, (some 9), (.mov (.s 0))⟩, ⟨(some (8, true)), false, (some 10), (.mov (.s 3))⟩, ⟨(some (8, true)), false, (some 11), (.bin .sub (.s 10) (.c (.int .i64 (1))))⟩, ⟨(some (8, true)), false, (some 12), (.ia 1 (.s 9) (.s 11))⟩, ⟨(some (8, true)), false, (some 13), (.ld false 1 (.s 12) none)⟩, ⟨(some (8, true)), false, (some 14), (.bin .eql (.s 13) (.c (.int .u32 (0))))⟩, ⟨none, false, (some 15), (.pick (.s 8) (.s 14) (.c (.bool false)))⟩]) (.ite (.s 15) .skip (.exit 0))) (.blk 1 (.ops [⟨none, false, (some 16), (.mov (.s 3))⟩, ⟨none, false, (some 17), (.bin .sub (.s 16) (.c (.int .i64 (1))))⟩, ⟨none, false, (some 3), (.mov (.s 17))⟩]))))) (.seq (.ops [⟨none, false, (some 18), (.mov (.s 0))⟩, ⟨none, false, (some 19), (.mov (.s 3))⟩, ⟨none, false, (some 20), (.mov (.s 3))⟩, ⟨none, false, (some 21), (.sli 1 (.s 18) none (some (.s 19)) (some (.s 20)))⟩, ⟨none, false, (some 2), (.mov (.s 21))⟩]) .ret))))⟩
theorem cv95 : cvF Try.prog 95 = some F95 := by kernel_rfl

/-- nat.Trim -/
def F84 : AF := ⟨6, [(2, none)], (.seq (.ops [⟨none, false, (some 2), (.mov (.c .nils))⟩]) (.seq (.ops [⟨none, false, (some 3), (.mov (.s 0))⟩, ⟨none, false, (some 4), (.call (.c (.fn 95 [])) [(.s 3)])⟩, ⟨none, false, (some 5), (.app 1 4 (.c .nils) (.s 4) [])⟩, ⟨none, false, (some 2), (.mov (.s 5))⟩]) .ret))⟩
theorem cv84 : cvF Try.prog 84 = some F84 := by kernel_rfl

/-- nat.Of -/
def F50 : AF := ⟨10, [(2, none)], (.seq (.ops [⟨none, false, (some 2), (.mov (.c .nils))⟩]) (.seq (.ops [⟨none, false, (some 3), (.mov (.s 0))⟩, ⟨none, false, (some 4), (.conv .u32 (.s 3))⟩, ⟨none, false, (some 5), (.mov (.s 0))⟩, ⟨none, false, (some 6), (.bin .shr (.s 5) (.c (.int .u64 (32))))⟩, ⟨none, false, (some 7), (.conv .u32 (.s 6))⟩, ⟨none, false, (some 8), (.bsl 1 2 [(.int .u32 (0)), (.int .u32 (0))] [(0, (1, (.s 4))), (1, (1, (.s 7)))])⟩, ⟨none, false, (some 9), (.call (.c (.fn 84 [])) [(.s 8)])⟩, ⟨none, false, (some 2), (.mov (.s 9))⟩]) .ret))⟩
theorem cv50 : cvF Try.prog 50 = some F50 := by kernel_rfl


theorem take_canon {xs : List Int} {n : Nat} (hn : n ≤ xs.length) (hz : ∀ x ∈ xs.drop n, x = 0) (hl : Limbs xs) (hc : ∀ (h : n - 1 < xs.length), 0 < n → xs[n-1] ≠ 0) : Limbs (xs.take n) ∧ Canon (xs.take n) ∧ nval (xs.take n) = nval xs := by
  refine ⟨fun x hx => hl x (List.mem_of_mem_take hx), fun x hx => ?_, ?_⟩
  · rw [List.getLast?_eq_getElem?, List.length_take, Nat.min_eq_left hn] at hx
    by_cases h0 : n = 0
    · subst h0; simp at hx
    · rw [List.getElem?_take, if_pos (by omega), List.getElem?_eq_getElem (by omega)] at hx
      obtain rfl := Option.some.inj hx
      exact hc (by omega) (by omega)
  · have := nval_append (xs.take n) (xs.drop n)
    rw [List.take_append_drop, nval_zeros hz] at this
    omega

theorem short_spec {v : V} {n : Int} {L : Nat} {H : Heap} (hv : SNat H v n L) : ACalls Try.prog 95 [v] H fun u H' => CNat H u n L ∧ H' = H := by
  obtain ⟨xs, hx, hl, rfl, hL⟩ := hv
  refine ACalls.of_body hm cv95 (by simp only [List.length_cons, List.length_nil]; decide) ?_
  have hlt := hx.lt
  simp only [F95, go_sem, ↓reduceIte, Nat.reduceEqDiff, Nat.reduceAdd, reduceCtorEq, hx.len]
  have tail : ∀ m : Nat, m ≤ xs.length → (∀ x ∈ xs.drop m, x = 0) → (∀ (h : m - 1 < xs.length), 0 < m → xs[m-1] ≠ 0) → ∃ u, sliV H 1 v none (some (.int .i64 m)) (some (.int .i64 m)) = some u ∧ CNat H u (nval xs) L := by
    intro m h1 h2 h3
    obtain ⟨u, hu, hu2⟩ := sli_take (k1 := .i64) (k2 := .i64) hx h1
    obtain ⟨a, b, c⟩ := take_canon h1 h2 hl h3
    exact ⟨u, hu, _, hu2, a, b, c, by rw [List.length_take]; omega⟩
  refine loop_count xs.length (fun k env H' => H = H' ∧ env 0 = v ∧ ∃ m : Nat, m + k = xs.length ∧ env 3 = .int .i64 m ∧ ∀ x ∈ xs.drop m, x = 0) ?_ ?_ ?_
  · simp only [go_sem, ↓reduceIte, Nat.reduceEqDiff, Nat.reduceAdd, reduceCtorEq]
    exact ⟨by trivial, by trivial, xs.length, by omega, rfl, by simp⟩
  · rintro k env H' hk ⟨rfl, h0, m, hm', h3, hz⟩
    obtain ⟨m', rfl⟩ : ∃ m', m = m' + 1 := ⟨m - 1, by omega⟩
    have hpos : (0 : Int) < ((m' + 1 : Nat) : Int) := by omega
    have hw : IntKind.i64.wrap (((m' + 1 : Nat) : Int) - 1) = (m' : Int) := by rw [wrapI (by omega) (by omega)]; omega
    obtain ⟨p, a1, a2⟩ := hx.get (k := m') (by omega) .i64
    simp only [go_sem, ↓reduceIte, Nat.reduceEqDiff, Nat.reduceAdd, reduceCtorEq, h0, h3, hpos, hw, a1, a2]
    refine iteC_if (fun c => ?_) (fun c => ?_)
    · simp only [go_sem, ↓reduceIte, Nat.reduceEqDiff, Nat.reduceAdd, reduceCtorEq, h0, h3, hw]
      refine ⟨by trivial, by trivial, m', by omega, by trivial, fun x hx' => ?_⟩
      rw [List.drop_eq_getElem_cons (by omega)] at hx'
      rcases List.mem_cons.1 hx' with rfl | hx'
      · exact c
      · exact hz x hx'
    · obtain ⟨u, hu, hcn⟩ := tail (m'+1) (by omega) hz (fun h _ => by simpa using c)
      simp only [go_sem, ↓reduceIte, Nat.reduceEqDiff, Nat.reduceAdd, reduceCtorEq, h0, h3, Option.map_some, Option.map_none, hu]
      exact finO_self ⟨hcn, rfl⟩
  · rintro env H' ⟨rfl, h0, m, hm', h3, hz⟩
    obtain rfl : m = 0 := by omega
    obtain ⟨u, hu, hcn⟩ := tail 0 (by omega) hz (fun h hh => by omega)
    have hneg : ¬ (0 : Int) < ((0 : Nat) : Int) := by decide
    simp only [go_sem, ↓reduceIte, Nat.reduceEqDiff, Nat.reduceAdd, reduceCtorEq, h0, h3, hneg, Option.map_some, Option.map_none, hu]
    exact finO_self ⟨hcn, rfl⟩

theorem Trim_spec {v : V} {n : Int} {L : Nat} {H : Heap} (hL : L ≤ 1099511627776) (hv : SNat H v n L) : ACalls Try.prog 84 [v] H fun u H' => Heap.sub H H' ∧ CNat H' u n L := by
  refine ACalls.of_body hm cv84 (by simp only [List.length_cons, List.length_nil]; decide) ?_
  simp only [F84, go_sem, ↓reduceIte, Nat.reduceEqDiff, Nat.reduceAdd, reduceCtorEq]
  refine callC_any (short_spec hv) ?_
  rintro u H' ⟨⟨xs, hx, hl, hc, hn, hxl⟩, rfl⟩
  simp only [go_sem, ↓reduceIte, Nat.reduceEqDiff, Nat.reduceAdd, reduceCtorEq]
  refine appC_nils hx (by omega) (by omega) fun u' H'' hs hu => ?_
  simp only [go_sem, ↓reduceIte, Nat.reduceEqDiff, Nat.reduceAdd, reduceCtorEq]
  exact finO_self ⟨hs, xs, hu, hl, hc, hn, hxl⟩
end Go.AM
