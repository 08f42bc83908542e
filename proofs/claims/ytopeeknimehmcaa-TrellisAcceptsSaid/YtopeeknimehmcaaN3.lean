/- nat.Add, nat.Of. Conditions: none. -/
import Derived.Test.YtopeeknimehmcaaN2
set_option linter.unusedVariables false
set_option linter.unusedSimpArgs false
namespace Go.AM
open Go Go.Proofs
attribute [local go_sem] c_skip c_ops c_seq c_ite c_blk c_exit c_ret t_normal t_exit t_ret b_normal b_exit b_ret i_nil i_cons s_guard s_mov s_pick s_new s_zero s_ld s_ldr s_st s_bin s_beq s_isnil s_eqs s_un s_conv s_fa s_fld s_ia s_sli s_ext s_ifc s_mkf s_agg s_len s_mm s_nilchk s_bsl s_mk s_app s_cpy s_call s_inv cells_agg cells_int cells_bool p_get p_none o_s o_c e_0 e_1 e_2 e_3 e_4 iteC_true iteC_false grd_tt grd_tf grd_ft grd_ff grd_und bindV_some pickV_t pickV_f beq_bool conv_int un_not not_dec mm_min mm_max bv_add bv_sub bv_mul bv_eql bv_neq bv_lss bv_leq bv_gtr bv_geq f_normal f_one f_two f_three f_none fa_ptr fld_one ext_tup len_sl len_nils decide_true decide_false not_true_eq_false not_false_eq_true List.map_cons List.map_nil List.append_nil List.cons_append List.nil_append Nat.zero_add Nat.add_zero Nat.mul_one Nat.succ_ne_self if_true if_false List.getElem?_cons_zero List.getElem?_cons_succ

/-- nat.Add -/
def F156 : AF := ⟨19, [(2, none)], (.seq (.ops [⟨none, false, (some 2), (.mov (.c .nils))⟩]) (.seq (.ops [⟨none, false, (some 3), (.mov (.c .nils))⟩]) (.seq (.seq (.ops [⟨none, false, (some 6), (.mov (.s 0))⟩, ⟨none, false, (some 7), (.len (.s 6))⟩, ⟨none, false, (some 8), (.mov (.c (.int .i64 (0))))⟩]) (.blk 0 (.loop (.seq (.ops [⟨none, false, (some 9), (.bin .lss (.s 8) (.s 7))⟩]) (.seq (.ite (.s 9) .skip (.exit 0)) (.seq (.blk 1 (.seq (.ops [⟨none, false, (some 10), (.ia 1 (.s 6) (.s 8))⟩, ⟨none, false, (some 11), (.ld false 1 (.s 10) none)⟩, ⟨none, false, (some 5), (.mov (.s 11))⟩]) (.ops [⟨none, false, (some 12), (.mov (.s 3))⟩, ⟨none, false, (some 13), (.mov (.s 5))⟩, ⟨none, false, (some 14), (.call (.c (.fn 95 [])) [(.s 13)])⟩, ⟨none, false, (some 15), (.call (.c (.fn 159 [])) [(.s 12), (.s 14)])⟩, ⟨none, false, (some 3), (.mov (.s 15))⟩]))) (.ops [⟨none, false, (some 16), (.bin .add (.s 8) (.c (.int .i64 (1))))⟩, ⟨none, false, (some 8), (.mov (.s 16))⟩]))))))) (.seq (.ops [⟨none, false, (some 17), (.mov (.s 3))⟩, ⟨none, false, (some 18), (.call (.c (.fn 84 [])) [(.s 17)])⟩, ⟨none, false, (some 2), (.mov (.s 18))⟩]) .ret))))⟩
theorem cv156 : cvF Try.prog 156 = some F156 := by kernel_rfl


theorem SNat.up {H : Heap} {v : V} {n : Int} {L L' : Nat} (h : SNat H v n L) (hl : L ≤ L') : SNat H v n L' := by obtain ⟨xs, a, b, c, e⟩ := h; exact ⟨xs, a, b, c, by omega⟩

theorem natAdd_spec {v : V} {us : List V} {ns : List Int} {L : Nat} {H : Heap} (hL : L + ns.length ≤ 1099511627776) (hv : SCells H v us) (hl : ns.length = us.length) (each : ∀ i, (h : i < us.length) → SNat H us[i] (ns[i]'(by omega)) L) :
    ACalls Try.prog 156 [v] H fun u H' => Heap.sub H H' ∧ CNat H' u (sumI ns) (L + ns.length) := by
  refine ACalls.of_body hm cv156 (by simp only [List.length_cons, List.length_nil]; decide) ?_
  simp only [F156, go_sem, ↓reduceIte, Nat.reduceEqDiff, Nat.reduceAdd, reduceCtorEq, hv.len]
  refine range_loop us.length (fun k env H' => env 6 = v ∧ env 7 = .int .i64 us.length ∧ env 8 = .int .i64 k ∧ Heap.sub H H' ∧ ∃ u, env 3 = u ∧ SNat H' u (sumI (ns.take k)) (L + k)) (by omega) (by decide) (by decide) ?_ ?_ ?_ ?_
  · rintro k env H' ⟨_, h7, h8, _⟩; exact ⟨h8, h7⟩
  · simp only [go_sem, ↓reduceIte, Nat.reduceEqDiff, Nat.reduceAdd, reduceCtorEq]
    exact ⟨by trivial, by trivial, by trivial, Heap.sub.rfl', _, rfl, [], ⟨by simp [u32s], by simp, .inl ⟨rfl, rfl⟩⟩, fun x hx => (by cases hx), by simp [nval, sumI], by simp⟩
  · rintro k env H1 hk ⟨h6, h7, h8, hs1, u, h3, hu⟩
    obtain ⟨p, a1, a2⟩ := (hv.mono hs1).get hk .i64
    simp only [go_sem, ↓reduceIte, Nat.reduceEqDiff, Nat.reduceAdd, reduceCtorEq, h6, h7, h8, h3, a1, a2]
    refine callC_any (short_spec ((each k hk).mono hs1)) ?_
    rintro w H' ⟨hw, rfl⟩
    simp only [go_sem, ↓reduceIte, Nat.reduceEqDiff, Nat.reduceAdd, reduceCtorEq]
    refine callC_grow (plus_spec (L := L + k) (by omega) hu (hw.nat.up (by omega))) ?_
    intro x H2 hs2 hx
    simp only [go_sem, ↓reduceIte, Nat.reduceEqDiff, Nat.reduceAdd, reduceCtorEq, h6, h7, h8]
    refine ⟨by trivial, by trivial, by trivial, by trivial, hs1.trans' hs2, x, rfl, ?_⟩
    rw [sumI_take_succ (by omega)]
    exact hx.nat
  · rintro env H1 ⟨h6, h7, h8, hs1, u, h3, hu⟩
    simp only [go_sem, ↓reduceIte, Nat.reduceEqDiff, Nat.reduceAdd, reduceCtorEq, h3]
    refine callC_grow (Trim_spec (by omega) hu) ?_
    intro x H2 hs2 hx
    simp only [go_sem, ↓reduceIte, Nat.reduceEqDiff, Nat.reduceAdd, reduceCtorEq]
    rw [← hl, List.take_length] at hx
    exact finO_self ⟨hs1.trans' hs2, hx⟩

theorem Of_spec {n : Int} (h0 : 0 ≤ n) (h1 : n < 18446744073709551616) (H : Heap) : ACalls Try.prog 50 [.int .u64 n] H fun u H' => Heap.sub H H' ∧ CNat H' u n 2 := by
  refine ACalls.of_body hm cv50 (by simp only [List.length_cons, List.length_nil]; decide) ?_
  have w1 : IntKind.u32.wrap n = n % 4294967296 := wrap32 n
  have w2 : IntKind.u32.wrap (n / 4294967296) = n / 4294967296 := by rw [wrap32]; omega
  simp only [F50, go_sem, ↓reduceIte, Nat.reduceEqDiff, Nat.reduceAdd, reduceCtorEq, bv_shr32, w1, w2, fillV, List.length_cons, List.length_nil, splice, Nat.reduceLeDiff, Nat.zero_lt_one, and_self, List.take_zero, List.take_succ_cons, List.drop_succ_cons, List.drop_zero, List.drop_nil, Nat.reduceLT, Nat.le_refl]
  refine newC_intro fun m H1 hm1 hs1 hb1 => ?_
  simp only [go_sem, ↓reduceIte, Nat.reduceEqDiff, Nat.reduceAdd, reduceCtorEq]
  have hn : SNat H1 (.sl m 0 2 true) n 2 := by
    refine ⟨[n % 4294967296, n / 4294967296], ⟨rfl, by simp, .inr ⟨m, 0, true, _, rfl, hb1, rfl, .inr (by simp), fun j hj => by simp [u32s]⟩⟩, fun x hx => ?_, ?_, by simp⟩
    · rcases List.mem_cons.1 hx with rfl | hx
      · omega
      · rcases List.mem_cons.1 hx with rfl | hx
        · omega
        · cases hx
    · simp only [nval]; omega
  refine callC_grow (Trim_spec (by decide) hn) ?_
  intro x H2 hs2 hx
  simp only [go_sem, ↓reduceIte, Nat.reduceEqDiff, Nat.reduceAdd, reduceCtorEq]
  exact finO_self ⟨hs1.trans' hs2, hx⟩
end Go.AM
