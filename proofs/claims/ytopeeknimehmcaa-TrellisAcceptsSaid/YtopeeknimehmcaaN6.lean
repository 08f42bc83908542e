/- nat.Mul. Conditions: none. -/
import Derived.Test.YtopeeknimehmcaaN5
set_option linter.unusedVariables false
set_option linter.unusedSimpArgs false
namespace Go.AM
open Go Go.Proofs
attribute [local go_sem] c_skip c_ops c_seq c_ite c_blk c_exit c_ret t_normal t_exit t_ret b_normal b_exit b_ret i_nil i_cons s_guard s_mov s_pick s_new s_zero s_ld s_ldr s_st s_bin s_beq s_isnil s_eqs s_un s_conv s_fa s_fld s_ia s_sli s_ext s_ifc s_mkf s_agg s_len s_mm s_nilchk s_bsl s_mk s_app s_cpy s_call s_inv cells_agg cells_int cells_bool p_get p_none o_s o_c e_0 e_1 e_2 e_3 e_4 iteC_true iteC_false grd_tt grd_tf grd_ft grd_ff grd_und bindV_some pickV_t pickV_f beq_bool conv_int un_not not_dec mm_min mm_max bv_add bv_sub bv_mul bv_eql bv_neq bv_lss bv_leq bv_gtr bv_geq f_normal f_one f_two f_three f_none fa_ptr fld_one ext_tup len_sl len_nils decide_true decide_false not_true_eq_false not_false_eq_true List.map_cons List.map_nil List.append_nil List.cons_append List.nil_append Nat.zero_add Nat.add_zero Nat.mul_one Nat.succ_ne_self if_true if_false List.getElem?_cons_zero List.getElem?_cons_succ

/-- nat.Mul -/
def F158 : AF := ⟨20, [(2, none)], (.seq (.ops [⟨none, false, (some 2), (.mov (.c .nils))⟩]) (.seq (.ops [⟨none, false, (some 6), (.bsl 1 1 [(.int .u32 (0))] [(0, (1, (.c (.int .u32 (1)))))])⟩, ⟨none, false, (some 3), (.mov (.s 6))⟩]) (.seq (.seq (.ops [⟨none, false, (some 7), (.mov (.s 0))⟩, ⟨none, false, (some 8), (.len (.s 7))⟩, ⟨none, false, (some 9), (.mov (.c (.int .i64 (0))))⟩]) (.blk 0 (.loop (.seq (.ops [⟨none, false, (some 10), (.bin .lss (.s 9) (.s 8))⟩]) (.seq (.ite (.s 10) .skip (.exit 0)) (.seq (.blk 1 (.seq (.ops [⟨none, false, (some 11), (.ia 1 (.s 7) (.s 9))⟩, ⟨none, false, (some 12), (.ld false 1 (.s 11) none)⟩, ⟨none, false, (some 5), (.mov (.s 12))⟩]) (.ops [⟨none, false, (some 13), (.mov (.s 3))⟩, ⟨none, false, (some 14), (.mov (.s 5))⟩, ⟨none, false, (some 15), (.call (.c (.fn 95 [])) [(.s 14)])⟩, ⟨none, false, (some 16), (.call (.c (.fn 160 [])) [(.s 13), (.s 15)])⟩, ⟨none, false, (some 3), (.mov (.s 16))⟩]))) (.ops [⟨none, false, (some 17), (.bin .add (.s 9) (.c (.int .i64 (1))))⟩, ⟨none, false, (some 9), (.mov (.s 17))⟩]))))))) (.seq (.ops [⟨none, false, (some 18), (.mov (.s 3))⟩, ⟨none, false, (some 19), (.call (.c (.fn 84 [])) [(.s 18)])⟩, ⟨none, false, (some 2), (.mov (.s 19))⟩]) .ret))))⟩
theorem cv158 : cvF Try.prog 158 = some F158 := by kernel_rfl


def prodI : List Int → Int
  | [] => 1
  | x :: r => x * prodI r
theorem prodI_append (a b : List Int) : prodI (a ++ b) = prodI a * prodI b := by
  induction a with
  | nil => simp [prodI]
  | cons x r ih => simp only [List.cons_append, prodI, ih, Int.mul_assoc]
theorem prodI_take_succ {l : List Int} {k : Nat} (h : k < l.length) : prodI (l.take (k+1)) = prodI (l.take k) * l[k] := by
  rw [List.take_add_one, List.getElem?_eq_getElem h, prodI_append]; simp [prodI]

theorem limbs_one : Limbs [1] := fun x hx => by
  have : x = 1 := by simpa using hx
  omega
theorem natMul_spec {v : V} {us : List V} {ns : List Int} (M B : Nat → Nat) {H : Heap} (hB0 : 1 ≤ B 0) (hB : ∀ k, k < us.length → B k + M k ≤ B (k+1)) (hBL : ∀ k, k ≤ us.length → B k ≤ 1099511627776) (hv : SCells H v us) (hl : ns.length = us.length) (each : ∀ i, (h : i < us.length) → SNat H us[i] (ns[i]'(by omega)) (M i)) :
    ACalls Try.prog 158 [v] H fun u H' => Heap.sub H H' ∧ CNat H' u (prodI ns) (B us.length) := by
  refine ACalls.of_body hm cv158 (by simp only [List.length_cons, List.length_nil]; decide) ?_
  simp only [F158, go_sem, ↓reduceIte, Nat.reduceEqDiff, Nat.reduceAdd, reduceCtorEq, fillV, List.length_cons, List.length_nil, splice, Nat.reduceLeDiff, Nat.zero_lt_one, and_self, List.take_zero, List.take_succ_cons, List.drop_succ_cons, List.drop_zero, List.drop_nil, Nat.reduceLT, Nat.le_refl]
  refine newC_intro fun m H1 hm1 hs1 hb1 => ?_
  simp only [go_sem, ↓reduceIte, Nat.reduceEqDiff, Nat.reduceAdd, reduceCtorEq, hv.len]
  have hlt := Sl.lt hv
  refine range_loop us.length (fun k env H' => env 7 = v ∧ env 8 = .int .i64 us.length ∧ env 9 = .int .i64 k ∧ Heap.sub H H' ∧ ∃ u, env 3 = u ∧ SNat H' u (prodI (ns.take k)) (B k)) hlt (by decide) (by decide) ?_ ?_ ?_ ?_
  · rintro k env H' ⟨_, h7, h8, _⟩; exact ⟨h8, h7⟩
  · simp only [go_sem, ↓reduceIte, Nat.reduceEqDiff, Nat.reduceAdd, reduceCtorEq]
    exact ⟨by trivial, by trivial, by trivial, hs1, _, rfl, [1], ⟨rfl, by simp, .inr ⟨m, 0, true, _, rfl, hb1, rfl, .inr (by simp), fun j hj => by simp [u32s]⟩⟩, limbs_one, by simp [nval, prodI], hB0⟩
  · rintro k env H1 hk ⟨h6, h7, h8, hs1, u, h3, hu⟩
    obtain ⟨p, a1, a2⟩ := (hv.mono hs1).get hk .i64
    have hkL := hB k hk
    have hkL2 := hBL (k+1) hk
    simp only [go_sem, ↓reduceIte, Nat.reduceEqDiff, Nat.reduceAdd, reduceCtorEq, h6, h7, h8, h3, a1, a2]
    refine callC_any (short_spec ((each k hk).mono hs1)) ?_
    rintro w H' ⟨hw, rfl⟩
    simp only [go_sem, ↓reduceIte, Nat.reduceEqDiff, Nat.reduceAdd, reduceCtorEq]
    refine callC_grow (times_spec (L := B k) (M := M k) (by omega) hu hw.nat) ?_
    intro x H2 hs2 hx
    simp only [go_sem, ↓reduceIte, Nat.reduceEqDiff, Nat.reduceAdd, reduceCtorEq, h6, h7, h8]
    refine ⟨by trivial, by trivial, by trivial, by trivial, hs1.trans' hs2, x, rfl, ?_⟩
    rw [prodI_take_succ (by omega)]
    exact hx.nat.up hkL
  · rintro env H1 ⟨h6, h7, h8, hs1, u, h3, hu⟩
    simp only [go_sem, ↓reduceIte, Nat.reduceEqDiff, Nat.reduceAdd, reduceCtorEq, h3]
    refine callC_grow (Trim_spec (hBL _ (Nat.le_refl _)) hu) ?_
    intro x H2 hs2 hx
    simp only [go_sem, ↓reduceIte, Nat.reduceEqDiff, Nat.reduceAdd, reduceCtorEq]
    rw [← hl, List.take_length, hl] at hx
    exact finO_self ⟨hs1.trans' hs2, hx⟩
end Go.AM
