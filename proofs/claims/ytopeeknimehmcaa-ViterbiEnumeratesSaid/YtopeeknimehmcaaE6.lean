/- codewrightref46: Poly, PolyAdd, PolyMul. Conditions: as stated. -/
import Derived.Test.YtopeeknimehmcaaE0
import Derived.Test.YtopeeknimehmcaaE4
set_option linter.unusedVariables false
set_option linter.unusedSimpArgs false
namespace Go.AM
open Go Go.Proofs
attribute [local go_sem] c_skip c_ops c_seq c_ite c_blk c_exit c_ret t_normal t_exit t_ret b_normal b_exit b_ret i_nil i_cons s_guard s_mov s_pick s_new s_zero s_ld s_ldr s_st s_bin s_beq s_isnil s_eqs s_un s_conv s_fa s_fld s_ia s_sli s_ext s_ifc s_mkf s_agg s_len s_mm s_nilchk s_bsl s_mk s_app s_cpy s_call s_inv cells_agg cells_int cells_bool p_get p_none o_s o_c e_0 e_1 e_2 e_3 e_4 iteC_true iteC_false grd_tt grd_tf grd_ft grd_ff grd_und bindV_some pickV_t pickV_f beq_bool conv_int un_not not_dec mm_min mm_max bv_add bv_sub bv_mul bv_eql bv_neq bv_lss bv_leq bv_gtr bv_geq f_normal f_one f_two f_three f_none fa_ptr fld_one ext_tup len_sl len_nils decide_true decide_false not_true_eq_false not_false_eq_true List.map_cons List.map_nil List.append_nil List.cons_append List.nil_append Nat.zero_add Nat.add_zero Nat.mul_one Nat.succ_ne_self if_true if_false List.getElem?_cons_zero List.getElem?_cons_succ

/-- codewrightref01.Zero -/
def F57 : AF := ⟨7, [(2, none)], (.seq (.ops [⟨none, false, (some 2), (.mov (.c (.bool false)))⟩]) (.seq (.ops [⟨none, false, (some 3), (.mov (.s 0))⟩, ⟨none, false, (some 4), (.call (.c (.fn 58 [])) [(.s 3)])⟩, ⟨none, false, (some 5), (.len (.s 4))⟩, ⟨none, false, (some 6), (.bin .eql (.s 5) (.c (.int .i64 (0))))⟩, ⟨none, false, (some 2), (.mov (.s 6))⟩]) .ret))⟩
theorem cv57 : cvF Try.prog 57 = some F57 := by kernel_rfl

/-- codewrightref46.Poly -/
def F88 : AF := ⟨37, [(2, none)], (.seq (.ops [⟨none, false, (some 2), (.mov (.c .nils))⟩]) (.seq (.ops [⟨none, false, (some 3), (.mov (.c (.int .i64 (0))))⟩]) (.seq (.seq (.ops [⟨none, false, (some 4), (.mov (.c (.int .i64 (0))))⟩]) (.blk 0 (.loop (.seq (.seq (.ops [⟨none, false, (some 7), (.mov (.s 4))⟩, ⟨none, false, (some 8), (.mov (.s 0))⟩, ⟨none, false, (some 9), (.len (.s 8))⟩, ⟨none, false, (some 10), (.bin .lss (.s 7) (.s 9))⟩]) (.ite (.s 10) .skip (.exit 0))) (.seq (.blk 1 (.seq (.ops [⟨none, false, (some 13), (.mov (.s 0))⟩, ⟨none, false, (some 14), (.mov (.s 4))⟩, ⟨none, false, (some 15), (.ia 1 (.s 13) (.s 14))⟩, ⟨none, false, (some 16), (.ld false 1 (.s 15) none)⟩, ⟨none, false, (some 17), (.call (.c (.fn 57 [])) [(.s 16)])⟩, ⟨none, false, (some 18), (.un .not (.s 17))⟩]) (.ite (.s 18) (.ops [⟨none, false, (some 19), (.mov (.s 4))⟩, ⟨none, false, (some 20), (.bin .add (.s 19) (.c (.int .i64 (1))))⟩, ⟨none, false, (some 3), (.mov (.s 20))⟩]) .skip))) (.ops [⟨none, false, (some 11), (.mov (.s 4))⟩, ⟨none, false, (some 12), (.bin .add (.s 11) (.c (.int .i64 (1))))⟩, ⟨none, false, (some 4), (.mov (.s 12))⟩])))))) (.seq (.ops [⟨none, false, (some 21), (.mov (.s 3))⟩, ⟨none, false, (some 22), (.mk 1 24 [.nils] (.s 21) (.s 21))⟩, ⟨none, false, (some 5), (.mov (.s 22))⟩]) (.seq (.seq (.ops [⟨none, false, (some 6), (.mov (.c (.int .i64 (0))))⟩]) (.blk 2 (.loop (.seq (.seq (.ops [⟨none, false, (some 23), (.mov (.s 6))⟩, ⟨none, false, (some 24), (.mov (.s 3))⟩, ⟨none, false, (some 25), (.bin .lss (.s 23) (.s 24))⟩]) (.ite (.s 25) .skip (.exit 2))) (.seq (.blk 3 (.ops [⟨none, false, (some 28), (.mov (.s 5))⟩, ⟨none, false, (some 29), (.mov (.s 6))⟩, ⟨none, false, (some 30), (.mov (.s 0))⟩, ⟨none, false, (some 31), (.mov (.s 6))⟩, ⟨none, false, (some 32), (.ia 1 (.s 30) (.s 31))⟩, ⟨none, false, (some 33), (.ld false 1 (.s 32) none)⟩, ⟨none, false, (some 34), (.call (.c (.fn 58 [])) [(.s 33)])⟩, ⟨none, false, (some 35), (.ia 1 (.s 28) (.s 29))⟩, ⟨none, false, none, (.st 1 (.s 35) (.s 34) [])⟩])) (.ops [⟨none, false, (some 26), (.mov (.s 6))⟩, ⟨none, false, (some 27), (.bin .add (.s 26) (.c (.int .i64 (1))))⟩, ⟨none, false, (some 6), (.mov (.s 27))⟩])))))) (.seq (.ops [⟨none, false, (some 36), (.mov (.s 5))⟩, ⟨none, false, (some 2), (.mov (.s 36))⟩]) .ret))))))⟩
theorem cv88 : cvF Try.prog 88 = some F88 := by kernel_rfl

/-- codewrightref46.PolyAdd -/
def F55 : AF := ⟨53, [(4, none)], (.seq (.ops [⟨none, false, (some 4), (.mov (.c .nils))⟩]) (.seq (.ops [⟨none, false, (some 7), (.mov (.s 0))⟩, ⟨none, false, (some 8), (.len (.s 7))⟩, ⟨none, false, (some 9), (.mov (.s 1))⟩, ⟨none, false, (some 10), (.len (.s 9))⟩, ⟨none, false, (some 11), (.mm true (.s 8) (.s 10))⟩, ⟨none, false, (some 12), (.mk 1 24 [.nils] (.s 11) (.s 11))⟩, ⟨none, false, (some 5), (.mov (.s 12))⟩]) (.seq (.seq (.ops [⟨none, false, (some 6), (.mov (.c (.int .i64 (0))))⟩]) (.blk 0 (.loop (.seq (.seq (.ops [⟨none, false, (some 13), (.mov (.s 6))⟩, ⟨none, false, (some 14), (.mov (.s 5))⟩, ⟨none, false, (some 15), (.len (.s 14))⟩, ⟨none, false, (some 16), (.bin .lss (.s 13) (.s 15))⟩]) (.ite (.s 16) .skip (.exit 0))) (.seq (.blk 1 (.seq (.seq (.ops [⟨none, false, (some 19), (.mov (.s 6))⟩, ⟨none, false, (some 20), (.mov (.s 0))⟩, ⟨none, false, (some 21), (.len (.s 20))⟩, ⟨none, false, (some 22), (.bin .lss (.s 19) (.s 21))⟩]) (.ite (.s 22) (.ops [⟨none, false, (some 23), (.mov (.s 5))⟩, ⟨none, false, (some 24), (.mov (.s 6))⟩, ⟨none, false, (some 25), (.mov (.s 5))⟩, ⟨none, false, (some 26), (.mov (.s 6))⟩, ⟨none, false, (some 27), (.ia 1 (.s 25) (.s 26))⟩, ⟨none, false, (some 29), (.mov (.s 0))⟩, ⟨none, false, (some 30), (.mov (.s 6))⟩, ⟨none, false, (some 31), (.ia 1 (.s 29) (.s 30))⟩, ⟨none, false, (some 28), (.ld false 1 (.s 27) none)⟩, ⟨none, false, (some 32), (.ld false 1 (.s 31) none)⟩, ⟨none, false, (some 33), (.call (.c (.fn 87 [])) [(.s 28), (.s 32)])⟩, ⟨none, false, (some 34), (.ia 1 (.s 23) (.s 24))⟩, ⟨none, false, none, (.st 1 (.s 34) (.s 33) [])⟩]) .skip)) (.seq (.ops [⟨none, false, (some 35), (.mov (.s 6))⟩, ⟨none, false, (some 36), (.mov (.s 1))⟩, ⟨none, false, (some 37), (.len (.s 36))⟩, ⟨none, false, (some 38), (.bin .lss (.s 35) (.s 37))⟩]) (.ite (.s 38) (.ops [⟨none, false, (some 39), (.mov (.s 5))⟩, ⟨none, false, (some 40), (.mov (.s 6))⟩, ⟨none, false, (some 41), (.mov (.s 5))⟩, ⟨none, false, (some 42), (.mov (.s 6))⟩, ⟨none, false, (some 43), (.ia 1 (.s 41) (.s 42))⟩, ⟨none, false, (some 45), (.mov (.s 1))⟩, ⟨none, false, (some 46), (.mov (.s 6))⟩, ⟨none, false, (some 47), (.ia 1 (.s 45) (.s 46))⟩, ⟨none, false, (some 44), (.ld false 1 (.s 43) none)⟩, ⟨none, false, (some 48), (.ld false 1 (.s 47) none)⟩, ⟨none, false, (some 49), (.call (.c (.fn 87 [])) [(.s 44), (.s 48)])⟩, ⟨none, false, (some 50), (.ia 1 (.s 39) (.s 40))⟩, ⟨none, false, none, (.st 1 (.s 50) (.s 49) [])⟩]) .skip)))) (.ops [⟨none, false, (some 17), (.mov (.s 6))⟩, ⟨none, false, (some 18), (.bin .add (.s 17) (.c (.int .i64 (1))))⟩, ⟨none, false, (some 6), (.mov (.s 18))⟩])))))) (.seq (.ops [⟨none, false, (some 51), (.mov (.s 5))⟩, ⟨none, false, (some 52), (.call (.c (.fn 88 [])) [(.s 51)])⟩, ⟨none, false, (some 4), (.mov (.s 52))⟩]) .ret))))⟩
theorem cv55 : cvF Try.prog 55 = some F55 := by kernel_rfl

/-- codewrightref46.PolyMul -/
def F56 : AF := ⟨53, [(4, none)], (.seq (.ops [⟨none, false, (some 4), (.mov (.c .nils))⟩]) (.seq (.ops [⟨none, false, (some 8), (.mov (.s 0))⟩, ⟨none, false, (some 9), (.call (.c (.fn 88 [])) [(.s 8)])⟩, ⟨none, false, (some 0), (.mov (.s 9))⟩]) (.seq (.ops [⟨none, false, (some 10), (.mov (.s 1))⟩, ⟨none, false, (some 11), (.call (.c (.fn 88 [])) [(.s 10)])⟩, ⟨none, false, (some 1), (.mov (.s 11))⟩]) (.seq (.ops [⟨none, false, (some 12), (.mov (.s 0))⟩, ⟨none, false, (some 13), (.len (.s 12))⟩, ⟨none, false, (some 14), (.mov (.s 1))⟩, ⟨none, false, (some 15), (.len (.s 14))⟩, ⟨none, false, (some 16), (.bin .add (.s 13) (.s 15))⟩, ⟨none, false, (some 17), (.mk 1 24 [.nils] (.s 16) (.s 16))⟩, ⟨none, false, (some 5), (.mov (.s 17))⟩]) (.seq (.seq (.ops [⟨none, false, (some 6), (.mov (.c (.int .i64 (0))))⟩]) (.blk 0 (.loop (.seq (.seq (.ops [⟨none, false, (some 18), (.mov (.s 6))⟩, ⟨none, false, (some 19), (.mov (.s 0))⟩, ⟨none, false, (some 20), (.len (.s 19))⟩, ⟨none, false, (some 21), (.bin .lss (.s 18) (.s 20))⟩]) (.ite (.s 21) .skip (.exit 0))) (.seq (.blk 1 (.seq (.ops [⟨none, false, (some 7), (.mov (.c (.int .i64 (0))))⟩]) (.blk 2 (.loop (.seq (.seq (.ops [⟨none, false, (some 24), (.mov (.s 7))⟩, ⟨none, false, (some 25), (.mov (.s 1))⟩, ⟨none, false, (some 26), (.len (.s 25))⟩, ⟨none, false, (some 27), (.bin .lss (.s 24) (.s 26))⟩]) (.ite (.s 27) .skip (.exit 2))) (.seq (.blk 3 (.ops [⟨none, false, (some 30), (.mov (.s 5))⟩, ⟨none, false, (some 31), (.mov (.s 6))⟩, ⟨none, false, (some 32), (.mov (.s 7))⟩, ⟨none, false, (some 33), (.bin .add (.s 31) (.s 32))⟩, ⟨none, false, (some 34), (.mov (.s 5))⟩, ⟨none, false, (some 35), (.mov (.s 6))⟩, ⟨none, false, (some 36), (.mov (.s 7))⟩, ⟨none, false, (some 37), (.bin .add (.s 35) (.s 36))⟩, ⟨none, false, (some 38), (.ia 1 (.s 34) (.s 37))⟩, ⟨none, false, (some 40), (.mov (.s 0))⟩, ⟨none, false, (some 41), (.mov (.s 6))⟩, ⟨none, false, (some 42), (.ia 1 (.s 40) (.s 41))⟩, ⟨none, false, (some 44), (.mov (.s 1))⟩, ⟨none, false, (some 45), (.mov (.s 7))⟩, ⟨none, false, (some 46), (.ia 1 (.s 44) (.s 45))⟩, ⟨none, false, (some 39), (.ld false 1 (.s 38) none)⟩, ⟨none, false, (some 43), (.ld false 1 (.s 42) none)⟩, ⟨none, false, (some 47), (.ld false 1 (.s 46) none)⟩, ⟨none, true, (some 48), (.call (.c (.fn 89 [])) [(.s 43), (.s 47)])⟩, ⟨none, true, (some 49), (.call (.c (.fn 87 [])) [(.s 39), (.s 48)])⟩, ⟨none, false, (some 50), (.ia 1 (.s 30) (.s 33))⟩, ⟨none, false, none, (.st 1 (.s 50) (.s 49) [])⟩])) (.ops [⟨none, false, (some 28), (.mov (.s 7))⟩, ⟨none, false, (some 29), (.bin .add (.s 28) (.c (.int .i64 (1))))⟩, ⟨none, false, (some 7), (.mov (.s 29))⟩]))))))) (.ops [⟨none, false, (some 22), (.mov (.s 6))⟩, ⟨none, false, (some 23), (.bin .add (.s 22) (.c (.int .i64 (1))))⟩, ⟨none, false, (some 6), (.mov (.s 23))⟩])))))) (.seq (.ops [⟨none, false, (some 51), (.mov (.s 5))⟩, ⟨none, false, (some 52), (.call (.c (.fn 88 [])) [(.s 51)])⟩, ⟨none, false, (some 4), (.mov (.s 52))⟩]) .ret))))))⟩
theorem cv56 : cvF Try.prog 56 = some F56 := by kernel_rfl


theorem rZero_spec {v : V} {n : Int} {L : Nat} {H : Heap} (hL : L ≤ 1099511627776) (hv : SNat H v n L) : ACalls Try.prog 57 [v] H fun u H' => u = .bool (decide (n = 0)) ∧ H' = H := by
  refine ACalls.of_body hm cv57 (by simp only [List.length_cons, List.length_nil]; decide) ?_
  simp only [F57, go_sem, ↓reduceIte, Nat.reduceEqDiff, Nat.reduceAdd, reduceCtorEq]
  refine callC_grow (rTrim_spec (by omega) hv) ?_
  intro x H1 hs1 hx
  obtain ⟨m, hm1, hm2, hm3⟩ := hx.lenV
  simp only [go_sem, ↓reduceIte, Nat.reduceEqDiff, Nat.reduceAdd, reduceCtorEq, hm1]
  refine finO_sub hs1 ⟨?_, rfl⟩
  congr 1
  rw [decide_eq_decide]
  constructor
  · intro h
    apply Classical.byContradiction
    intro h2
    have := hm2.2 h2
    omega
  · intro h
    apply Classical.byContradiction
    intro h2
    have := hm2.1 (by omega)
    exact this h

theorem rPoly_spec {av : V} {p : List Int} {L : Nat} {H : Heap} (hL : L ≤ 1099511627776) (hn : p.length ≤ 1073741824) (ha : SPoly H av p L) : ACalls Try.prog 88 [av] H fun u H' => Heap.sub H H' ∧ SPoly H' u (trimP p) L := by
  refine ACalls.of_body hm cv88 (by simp only [List.length_cons, List.length_nil]; decide) ?_
  simp only [F88, go_sem, ↓reduceIte, Nat.reduceEqDiff, Nat.reduceAdd, reduceCtorEq]
  have hd := degF_le (cf p) p.length
  refine blk_join (fun env H' => H = H' ∧ env 0 = av ∧ env 3 = .int .i64 (degF (cf p) p.length)) ?_ ?_
  · refine loop_count p.length (fun k env H' => H = H' ∧ env 0 = av ∧ env 3 = .int .i64 (degF (cf p) k) ∧ env 4 = .int .i64 k) ?_ ?_ ?_
    · simp only [go_sem, ↓reduceIte, Nat.reduceEqDiff, Nat.reduceAdd, reduceCtorEq]
      exact ⟨by trivial, by trivial, rfl, rfl⟩
    · rintro k env H' hk ⟨rfl, h0, h3, h4⟩
      have hlt : (k : Int) < p.length := by omega
      obtain ⟨q, x, a1, a2, a3⟩ := ha.get hk .i64
      have hck : cf p k = p[k] := by simp [cf, hk]
      simp only [go_sem, ↓reduceIte, Nat.reduceEqDiff, Nat.reduceAdd, reduceCtorEq, h0, h3, h4, ha.len, hlt, a1, a2]
      refine callC_pure (rZero_spec hL a3.nat) ?_
      simp only [go_sem, ↓reduceIte, Nat.reduceEqDiff, Nat.reduceAdd, reduceCtorEq]
      by_cases c : p[k] = 0
      · simp only [go_sem, ↓reduceIte, Nat.reduceEqDiff, Nat.reduceAdd, reduceCtorEq, c, Bool.not_true, h0, h3, h4]
        rw [wrapN1 (by omega)]
        refine ⟨by trivial, by trivial, ?_, by trivial⟩
        rw [degF, if_neg (by rw [hck]; simpa using c)]
      · simp only [go_sem, ↓reduceIte, Nat.reduceEqDiff, Nat.reduceAdd, reduceCtorEq, c, Bool.not_false, h0, h3, h4]
        rw [wrapN1 (by omega)]
        refine ⟨by trivial, by trivial, ?_, by trivial⟩
        rw [degF, if_pos (by rw [hck]; exact c)]
    · rintro env H' ⟨rfl, h0, h3, h4⟩
      simp only [go_sem, ↓reduceIte, Nat.reduceEqDiff, Nat.reduceAdd, reduceCtorEq, h0, h3, h4, ha.len, Int.lt_irrefl]
      trivial
  rintro env H' ⟨rfl, h0, h3⟩
  obtain ⟨n, hnn⟩ : ∃ n, n = degF (cf p) p.length := ⟨_, rfl⟩
  rw [← hnn] at h3 hd
  simp only [go_sem, ↓reduceIte, Nat.reduceEqDiff, Nat.reduceAdd, reduceCtorEq, h0, h3]
  refine mkC_intro (Nat.le_refl _) (by omega) (by omega) fun N H1 hN hs1 hbN => ?_
  rw [flat_rep] at hbN
  simp only [go_sem, ↓reduceIte, Nat.reduceEqDiff, Nat.reduceAdd, reduceCtorEq, beq_self_eq_true]
  have row0 := VRow.start (Q := fun i G v => i < 0 → CNat G v (cf p i) L) hN hs1 hbN fun i _ h => by omega
  refine loop_count n (fun k env H' => env 0 = av ∧ env 3 = .int .i64 n ∧ env 5 = .sl N 0 n true ∧ env 6 = .int .i64 k ∧ ∃ xs G, VRow H G H' N xs (fun i G v => i < k → CNat G v (cf p i) L) ∧ xs.length = n) ?_ ?_ ?_
  · simp only [go_sem, ↓reduceIte, Nat.reduceEqDiff, Nat.reduceAdd, reduceCtorEq, h0, h3]
    exact ⟨by trivial, by trivial, by trivial, rfl, _, _, row0, by simp⟩
  · rintro k env H2 hk ⟨h0, h3, h5, h6, xs, G, row, hxl⟩
    have hlt : (k : Int) < n := by omega
    obtain ⟨q, u, a1, a2, a3G⟩ := (ha.mono row.g0).getG row.gh (k := k) (by omega) .i64
    have hck : cf p k = p[k]'(by omega) := by simp [cf, show k < p.length by omega]
    simp only [go_sem, ↓reduceIte, Nat.reduceEqDiff, Nat.reduceAdd, reduceCtorEq, h0, h3, h5, h6, hlt, a1, a2]
    refine callC_in (rTrim_spec (by omega) a3G.nat) row.gh fun x H3 G3 hs3 ga gb gc hx => ?_
    have row3 := row.call (G' := G3) (H' := H3) (fun i v h c => (h c).mono ga) hs3 ga gb gc
    simp only [go_sem, ↓reduceIte, Nat.reduceEqDiff, Nat.reduceAdd, reduceCtorEq, h0, h3, h5, h6, ia_nat hk]
    refine stC_intro row3.row trivial (by rw [hx.nat.cells]; rfl) (by decide) (by show k + 1 ≤ _; omega) fun H4 hb4 hf4 hs4 => ?_
    rw [hx.nat.cells, splice_one _ _ _ (by omega)] at hb4
    have row4 := row3.set (Q' := fun i G v => i < k + 1 → CNat G v (cf p i) L) (i := k) (by omega) hb4 hf4 (fun _ => by rw [hck]; exact hx) (fun j w hj _ h c => h (by omega))
    simp only [go_sem, ↓reduceIte, Nat.reduceEqDiff, Nat.reduceAdd, reduceCtorEq, h0, h3, h5, h6]
    rw [wrapN1 (by omega)]
    exact ⟨by trivial, by trivial, by trivial, by trivial, _, _, row4, by rw [List.length_set]; exact hxl⟩
  · rintro env H2 ⟨h0, h3, h5, h6, xs, G, row, hxl⟩
    simp only [go_sem, ↓reduceIte, Nat.reduceEqDiff, Nat.reduceAdd, reduceCtorEq, h0, h3, h5, h6, Int.lt_irrefl]
    refine finO_self ⟨row.sub, ?_⟩
    refine row.poly (by omega) (by rw [trimP, toT_len, hnn]) (by omega) fun i v h hq => ?_
    rw [trimP, toT_len] at h
    have : (trimP p)[i]'(by rw [trimP, toT_len]; exact h) = cf p i := by simp [trimP, toT]
    rw [this]
    exact hq (by omega)

theorem rPolyAdd_spec {av bv : V} {p q : List Int} {L : Nat} {H : Heap} (hL : L ≤ 549755813888) (hn : p.length ≤ 1073741824) (hm' : q.length ≤ 1073741824) (ha : SPoly H av p L) (hb : SPoly H bv q L) :
    ACalls Try.prog 55 [av, bv] H fun u H' => Heap.sub H H' ∧ SPoly H' u (pAdd p q) (L+1) := by
  refine ACalls.of_body hm cv55 (by simp only [List.length_cons, List.length_nil]; decide) ?_
  simp only [F55, go_sem, ↓reduceIte, Nat.reduceEqDiff, Nat.reduceAdd, reduceCtorEq, ha.len, hb.len]
  obtain ⟨M, hM⟩ : ∃ M : Nat, M = max p.length q.length := ⟨_, rfl⟩
  have eM : (if (p.length : Int) < (q.length : Int) then (q.length : Int) else (p.length : Int)) = (M : Int) := by
    rw [hM]; split <;> omega
  try rw [eM]
  refine mkC_intro (Nat.le_refl _) (by omega) (by omega) fun N H2 hN hs2 hbN => ?_
  rw [flat_rep] at hbN
  simp only [go_sem, ↓reduceIte, Nat.reduceEqDiff, Nat.reduceAdd, reduceCtorEq, beq_self_eq_true]
  have row0 := VRow.start (Q := fun i G v => (i < 0 → CNat G v (cf p i + cf q i) (L+1)) ∧ (0 ≤ i → CNat G v 0 0)) hN hs2 hbN fun i _ => ⟨fun h => by omega, fun _ => CNat.nils _ _⟩
  have hqm : ∀ {k : Nat} {G G' : Heap}, Heap.sub G G' → ∀ i v, ((i < k → CNat G v (cf p i + cf q i) (L+1)) ∧ (k ≤ i → CNat G v 0 0)) → ((i < k → CNat G' v (cf p i + cf q i) (L+1)) ∧ (k ≤ i → CNat G' v 0 0)) := fun hs i v h => ⟨fun c => (h.1 c).mono hs, fun c => (h.2 c).mono hs⟩
  have hpow : (4294967296 : Int) ^ (L+1) = 4294967296 ^ L * 4294967296 := Int.pow_succ ..
  have hpos : (0 : Int) < 4294967296 ^ L := Int.pow_pos (by decide)
  refine loop_count M (fun k env H' => env 0 = av ∧ env 1 = bv ∧ env 5 = .sl N 0 M true ∧ env 6 = .int .i64 k ∧ ∃ xs G, VRow H G H' N xs (fun i G v => (i < k → CNat G v (cf p i + cf q i) (L+1)) ∧ (k ≤ i → CNat G v 0 0)) ∧ xs.length = M) ?_ ?_ ?_
  · simp only [go_sem, ↓reduceIte, Nat.reduceEqDiff, Nat.reduceAdd, reduceCtorEq]
    exact ⟨by trivial, by trivial, by trivial, rfl, _, _, row0, by simp⟩
  · rintro k env H3 hk ⟨h0, h1, h5, h6, xs, G, row, hxl⟩
    have rp := ha.range k
    have rq := hb.range k
    have hltk : (k : Int) < M := by omega
    simp only [go_sem, ↓reduceIte, Nat.reduceEqDiff, Nat.reduceAdd, reduceCtorEq, h0, h1, h5, h6, (ha.mono row.sub).len, hltk]
    refine iteC_join (fun env' H' => env' 0 = av ∧ env' 1 = bv ∧ env' 5 = .sl N 0 M true ∧ env' 6 = .int .i64 k ∧ ∃ xs G, VRow H G H' N xs (fun i G v => (i < k → CNat G v (cf p i + cf q i) (L+1)) ∧ (k + 1 ≤ i → CNat G v 0 0) ∧ (i = k → CNat G v (cf p k) (L+2))) ∧ xs.length = M) (fun c => ?_) (fun c => ?_) ?_
    · have hkp : k < p.length := by omega
      obtain ⟨pp, u, a1, a2, a3⟩ := (ha.mono row.g0).getG row.gh hkp .i64
      have hcell := (row.rep k (by omega)).2 (Nat.le_refl _)
      simp only [go_sem, ↓reduceIte, Nat.reduceEqDiff, Nat.reduceAdd, reduceCtorEq, h0, h1, h5, h6, a1, a2, ia_nat hk, row.get (show k < xs.length by omega)]
      refine callC_in (rAdd_spec (L := L) (by omega) (hcell.up (by omega)).nat a3.nat) row.gh fun x H5 G5 hs5 ga gb gc hx => ?_
      have row5 := row.call (G' := G5) (H' := H5) (hqm ga) hs5 ga gb gc
      simp only [go_sem, ↓reduceIte, Nat.reduceEqDiff, Nat.reduceAdd, reduceCtorEq, h0, h1, h5, h6, ia_nat hk]
      refine stC_intro row5.row trivial (by rw [hx.nat.cells]; rfl) (by decide) (by show k + 1 ≤ _; omega) fun H6 hb6 hf6 hs6 => ?_
      rw [hx.nat.cells, splice_one _ _ _ (by omega)] at hb6
      simp only [go_sem, ↓reduceIte, Nat.reduceEqDiff, Nat.reduceAdd, reduceCtorEq, h0, h1, h5, h6]
      refine ⟨by trivial, by trivial, by trivial, by trivial, _, _, row5.set (i := k) (by omega) hb6 hf6 ⟨fun h => by omega, fun h => by omega, fun _ => ?_⟩ (fun j w hj _ h => ⟨h.1, fun c => h.2 (by omega), fun c => absurd c hj⟩), by rw [List.length_set]; exact hxl⟩
      have e : cf p k = 0 + p[k] := by simp [cf, hkp]
      rw [e]; exact hx.up (by omega)
    · simp only [go_sem, ↓reduceIte, Nat.reduceEqDiff, Nat.reduceAdd, reduceCtorEq, h0, h1, h5, h6]
      have e : cf p k = 0 := by simp [cf, show p.length ≤ k by omega]
      refine ⟨by trivial, by trivial, by trivial, by trivial, xs, G, ⟨row.row, row.oN, row.g0, row.gh, row.gN, fun i h => ⟨(row.rep i h).1, fun c => (row.rep i h).2 (by omega), fun c => ?_⟩⟩, hxl⟩
      rw [e]; exact ((row.rep i h).2 (by omega)).up (by omega)
    rintro env H3 ⟨h0, h1, h5, h6, xs, G, row, hxl⟩
    have hqm2 : ∀ {G G' : Heap}, Heap.sub G G' → ∀ i v, ((i < k → CNat G v (cf p i + cf q i) (L+1)) ∧ (k + 1 ≤ i → CNat G v 0 0) ∧ (i = k → CNat G v (cf p k) (L+2))) → ((i < k → CNat G' v (cf p i + cf q i) (L+1)) ∧ (k + 1 ≤ i → CNat G' v 0 0) ∧ (i = k → CNat G' v (cf p k) (L+2))) := fun hs i v h => ⟨fun c => (h.1 c).mono hs, fun c => (h.2.1 c).mono hs, fun c => (h.2.2 c).mono hs⟩
    simp only [go_sem, ↓reduceIte, Nat.reduceEqDiff, Nat.reduceAdd, reduceCtorEq, h0, h1, h5, h6, (hb.mono row.sub).len]
    refine iteC_if (fun c => ?_) (fun c => ?_)
    · have hkq : k < q.length := by omega
      obtain ⟨pp, u, a1, a2, a3⟩ := (hb.mono row.g0).getG row.gh hkq .i64
      have hcell := (row.rep k (by omega)).2.2 rfl
      simp only [go_sem, ↓reduceIte, Nat.reduceEqDiff, Nat.reduceAdd, reduceCtorEq, h0, h1, h5, h6, a1, a2, ia_nat hk, row.get (show k < xs.length by omega)]
      refine callC_in (rAdd_spec (L := L+2) (by omega) hcell.nat (a3.up (by omega)).nat) row.gh fun x H5 G5 hs5 ga gb gc hx => ?_
      have row5 := row.call (G' := G5) (H' := H5) (hqm2 ga) hs5 ga gb gc
      simp only [go_sem, ↓reduceIte, Nat.reduceEqDiff, Nat.reduceAdd, reduceCtorEq, h0, h1, h5, h6, ia_nat hk]
      refine stC_intro row5.row trivial (by rw [hx.nat.cells]; rfl) (by decide) (by show k + 1 ≤ _; omega) fun H6 hb6 hf6 hs6 => ?_
      rw [hx.nat.cells, splice_one _ _ _ (by omega)] at hb6
      simp only [go_sem, ↓reduceIte, Nat.reduceEqDiff, Nat.reduceAdd, reduceCtorEq, h0, h1, h5, h6]
      rw [wrapN1 (by omega)]
      have e : cf q k = q[k] := by simp [cf, hkq]
      refine ⟨by trivial, by trivial, by trivial, by trivial, _, _, row5.set (i := k) (by omega) hb6 hf6 ⟨fun _ => ?_, fun h => by omega⟩ (fun j w hj _ h => ⟨fun c => h.1 (by omega), fun c => h.2.1 c⟩), by rw [List.length_set]; exact hxl⟩
      rw [e] at rq ⊢
      exact hx.tight (by rw [hpow]; omega)
    · simp only [go_sem, ↓reduceIte, Nat.reduceEqDiff, Nat.reduceAdd, reduceCtorEq, h0, h1, h5, h6]
      rw [wrapN1 (by omega)]
      have e : cf q k = 0 := by simp [cf, show q.length ≤ k by omega]
      refine ⟨by trivial, by trivial, by trivial, by trivial, xs, G, ⟨row.row, row.oN, row.g0, row.gh, row.gN, fun i h => ⟨fun c => ?_, fun c => (row.rep i h).2.1 c⟩⟩, hxl⟩
      by_cases hik : i = k
      · subst hik
        rw [e, Int.add_zero]
        exact ((row.rep i h).2.2 rfl).tight (by rw [hpow]; omega)
      · exact (row.rep i h).1 (by omega)
  · rintro env H3 ⟨h0, h1, h5, h6, xs, G, row, hxl⟩
    simp only [go_sem, ↓reduceIte, Nat.reduceEqDiff, Nat.reduceAdd, reduceCtorEq, h0, h1, h5, h6, Int.lt_irrefl]
    have hd : SPoly H3 (.sl N 0 M true) ((List.range M).map fun i => cf p i + cf q i) (L+1) := row.poly (by omega) (by simp) (by omega) fun i v h hq => by
      have : ((List.range M).map fun i => cf p i + cf q i)[i] = cf p i + cf q i := by simp
      rw [this]
      exact hq.1 (by simpa using h)
    refine callC_grow (rPoly_spec (by omega) (by simp; omega) hd) ?_
    intro x H4 hs4 hx
    simp only [go_sem, ↓reduceIte, Nat.reduceEqDiff, Nat.reduceAdd, reduceCtorEq]
    refine finO_self ⟨row.sub.trans' hs4, ?_⟩
    have e : trimP ((List.range M).map fun i => cf p i + cf q i) = pAdd p q := by
      unfold trimP pAdd
      rw [List.length_map, List.length_range, ← hM]
      exact toT_congr fun i hi => by simp [cf, hi]
    rw [← e]; exact hx
end Go.AM

set_option linter.unusedVariables false
set_option linter.unusedSimpArgs false
namespace Go.AM
open Go Go.Proofs
attribute [local go_sem] c_skip c_ops c_seq c_ite c_blk c_exit c_ret t_normal t_exit t_ret b_normal b_exit b_ret i_nil i_cons s_guard s_mov s_pick s_new s_zero s_ld s_ldr s_st s_bin s_beq s_isnil s_eqs s_un s_conv s_fa s_fld s_ia s_sli s_ext s_ifc s_mkf s_agg s_len s_mm s_nilchk s_bsl s_mk s_app s_cpy s_call s_inv cells_agg cells_int cells_bool p_get p_none o_s o_c e_0 e_1 e_2 e_3 e_4 iteC_true iteC_false grd_tt grd_tf grd_ft grd_ff grd_und bindV_some pickV_t pickV_f beq_bool conv_int un_not not_dec mm_min mm_max bv_add bv_sub bv_mul bv_eql bv_neq bv_lss bv_leq bv_gtr bv_geq f_normal f_one f_two f_three f_none fa_ptr fld_one ext_tup len_sl len_nils decide_true decide_false not_true_eq_false not_false_eq_true List.map_cons List.map_nil List.append_nil List.cons_append List.nil_append Nat.zero_add Nat.add_zero Nat.mul_one Nat.succ_ne_self if_true if_false List.getElem?_cons_zero List.getElem?_cons_succ

/-- codewrightref49.Enumerator -/
def F22 : AF := ⟨94, [(2, none)], (.seq (.ops [⟨none, false, (some 1), (.new (.s 0))⟩, ⟨none, false, (some 2), (.mov (.c .nils))⟩]) (.seq (.ops [⟨none, false, (some 11), (.bsl 1 1 [(.int .u32 (0))] [(0, (1, (.c (.int .u32 (1)))))])⟩, ⟨none, false, (some 12), (.bsl 1 1 [.nils] [(0, (1, (.s 11)))])⟩, ⟨none, false, (some 13), (.bsl 1 1 [.nils] [(0, (1, (.s 12)))])⟩, ⟨none, false, (some 3), (.mov (.s 13))⟩]) (.seq (.seq (.ops [⟨none, false, (some 4), (.mov (.c (.int .i64 (0))))⟩]) (.blk 0 (.loop (.seq (.seq (.ops [⟨none, false, (some 14), (.mov (.s 4))⟩, ⟨none, false, (some 15), (.fa 1 (.s 1))⟩, ⟨none, false, (some 16), (.ld false 1 (.s 15) none)⟩, ⟨none, false, (some 17), (.len (.s 16))⟩, ⟨none, false, (some 18), (.bin .lss (.s 14) (.s 17))⟩]) (.ite (.s 18) .skip (.exit 0))) (.seq (.blk 1 (.seq (.ops [⟨none, false, (some 21), (.fa 0 (.s 1))⟩, ⟨none, false, (some 22), (.ld false 1 (.s 21) none)⟩, ⟨none, false, (some 23), (.mov (.s 4))⟩, ⟨none, false, (some 24), (.bin .add (.s 23) (.c (.int .i64 (1))))⟩, ⟨none, false, (some 25), (.ia 1 (.s 22) (.s 24))⟩, ⟨none, false, (some 26), (.ld false 1 (.s 25) none)⟩, ⟨none, false, (some 27), (.mk 1 24 [.nils] (.s 26) (.s 26))⟩, ⟨none, false, (some 5), (.mov (.s 27))⟩]) (.seq (.seq (.ops [⟨none, false, (some 6), (.mov (.c (.int .i64 (0))))⟩]) (.blk 2 (.loop (.seq (.seq (.ops [⟨none, false, (some 28), (.mov (.s 6))⟩, ⟨none, false, (some 29), (.fa 1 (.s 1))⟩, ⟨none, false, (some 30), (.ld false 1 (.s 29) none)⟩, ⟨none, false, (some 31), (.mov (.s 4))⟩, ⟨none, false, (some 32), (.ia 1 (.s 30) (.s 31))⟩, ⟨none, false, (some 33), (.ld false 1 (.s 32) none)⟩, ⟨none, false, (some 34), (.len (.s 33))⟩, ⟨none, false, (some 35), (.bin .lss (.s 28) (.s 34))⟩]) (.ite (.s 35) .skip (.exit 2))) (.seq (.blk 3 (.seq (.ops [⟨none, false, (some 38), (.fa 1 (.s 1))⟩, ⟨none, false, (some 39), (.ld false 1 (.s 38) none)⟩, ⟨none, false, (some 40), (.mov (.s 4))⟩, ⟨none, false, (some 41), (.ia 1 (.s 39) (.s 40))⟩, ⟨none, false, (some 42), (.ld false 1 (.s 41) none)⟩, ⟨none, false, (some 43), (.mov (.s 6))⟩, ⟨none, false, (some 44), (.ia 3 (.s 42) (.s 43))⟩, ⟨none, false, (some 45), (.ld true 3 (.s 44) none)⟩, ⟨none, false, (some 7), (.zero [(.int .i64 (0)), (.int .i64 (0)), (.int .i64 (0))])⟩, ⟨none, false, none, (.st 3 (.s 7) (.s 45) [])⟩]) (.seq (.ops [⟨none, false, (some 46), (.bsl 1 1 [(.int .u32 (0))] [(0, (1, (.c (.int .u32 (1)))))])⟩, ⟨none, false, (some 47), (.bsl 1 1 [.nils] [(0, (1, (.s 46)))])⟩, ⟨none, false, (some 8), (.mov (.s 47))⟩]) (.seq (.seq (.ops [⟨none, false, (some 48), (.fa 1 (.s 7))⟩, ⟨none, false, (some 49), (.ld false 1 (.s 48) none)⟩, ⟨none, false, (some 50), (.bin .neq (.s 49) (.c (.int .i64 (0))))⟩]) (.ite (.s 50) (.ops [⟨none, false, (some 51), (.bsl 1 1 [(.int .u32 (0))] [(0, (1, (.c (.int .u32 (1)))))])⟩, ⟨none, false, (some 52), (.bsl 1 2 [.nils, .nils] [(0, (1, (.c .nils))), (1, (1, (.s 51)))])⟩, ⟨none, false, (some 8), (.mov (.s 52))⟩]) .skip)) (.ops [⟨none, false, (some 53), (.mov (.s 5))⟩, ⟨none, false, (some 54), (.fa 2 (.s 7))⟩, ⟨none, false, (some 56), (.mov (.s 5))⟩, ⟨none, false, (some 57), (.fa 2 (.s 7))⟩, ⟨none, false, (some 61), (.mov (.s 3))⟩, ⟨none, false, (some 62), (.fa 0 (.s 7))⟩, ⟨none, false, (some 66), (.mov (.s 8))⟩, ⟨none, false, (some 55), (.ld false 1 (.s 54) none)⟩, ⟨none, false, (some 58), (.ld false 1 (.s 57) none)⟩, ⟨none, false, (some 59), (.ia 1 (.s 56) (.s 58))⟩, ⟨none, false, (some 60), (.ld false 1 (.s 59) none)⟩, ⟨none, false, (some 63), (.ld false 1 (.s 62) none)⟩, ⟨none, false, (some 64), (.ia 1 (.s 61) (.s 63))⟩, ⟨none, false, (some 65), (.ld false 1 (.s 64) none)⟩, ⟨none, true, (some 67), (.call (.c (.fn 56 [])) [(.s 65), (.s 66)])⟩, ⟨none, true, (some 68), (.call (.c (.fn 55 [])) [(.s 60), (.s 67)])⟩, ⟨none, false, (some 69), (.ia 1 (.s 53) (.s 55))⟩, ⟨none, false, none, (.st 1 (.s 69) (.s 68) [])⟩]))))) (.ops [⟨none, false, (some 36), (.mov (.s 6))⟩, ⟨none, false, (some 37), (.bin .add (.s 36) (.c (.int .i64 (1))))⟩, ⟨none, false, (some 6), (.mov (.s 37))⟩])))))) (.ops [⟨none, false, (some 70), (.mov (.s 5))⟩, ⟨none, false, (some 3), (.mov (.s 70))⟩])))) (.ops [⟨none, false, (some 19), (.mov (.s 4))⟩, ⟨none, false, (some 20), (.bin .add (.s 19) (.c (.int .i64 (1))))⟩, ⟨none, false, (some 4), (.mov (.s 20))⟩])))))) (.seq (.ops [⟨none, false, (some 71), (.fa 1 (.s 1))⟩, ⟨none, false, (some 72), (.ld false 1 (.s 71) none)⟩, ⟨none, false, (some 73), (.len (.s 72))⟩, ⟨none, false, (some 74), (.bin .add (.s 73) (.c (.int .i64 (1))))⟩, ⟨none, false, (some 75), (.mk 1 24 [.nils] (.s 74) (.s 74))⟩, ⟨none, false, (some 9), (.mov (.s 75))⟩]) (.seq (.seq (.ops [⟨none, false, (some 10), (.mov (.c (.int .i64 (0))))⟩]) (.blk 4 (.loop (.seq (.seq (.ops [⟨none, false, (some 76), (.mov (.s 10))⟩, ⟨none, false, (some 77), (.mov (.s 3))⟩, ⟨none, false, (some 78), (.ia 1 (.s 77) (.c (.int .i64 (0))))⟩, ⟨none, false, (some 79), (.ld false 1 (.s 78) none)⟩, ⟨none, false, (some 80), (.len (.s 79))⟩, ⟨none, false, (some 81), (.bin .lss (.s 76) (.s 80))⟩]) (.ite (.s 81) .skip (.exit 4))) (.seq (.blk 5 (.ops [⟨none, false, (some 84), (.mov (.s 9))⟩, ⟨none, false, (some 85), (.mov (.s 10))⟩, ⟨none, false, (some 86), (.mov (.s 3))⟩, ⟨none, false, (some 87), (.ia 1 (.s 86) (.c (.int .i64 (0))))⟩, ⟨none, false, (some 88), (.ld false 1 (.s 87) none)⟩, ⟨none, false, (some 89), (.mov (.s 10))⟩, ⟨none, false, (some 90), (.ia 1 (.s 88) (.s 89))⟩, ⟨none, false, (some 91), (.ld false 1 (.s 90) none)⟩, ⟨none, false, (some 92), (.ia 1 (.s 84) (.s 85))⟩, ⟨none, false, none, (.st 1 (.s 92) (.s 91) [])⟩])) (.ops [⟨none, false, (some 82), (.mov (.s 10))⟩, ⟨none, false, (some 83), (.bin .add (.s 82) (.c (.int .i64 (1))))⟩, ⟨none, false, (some 10), (.mov (.s 83))⟩])))))) (.seq (.ops [⟨none, false, (some 93), (.mov (.s 9))⟩, ⟨none, false, (some 2), (.mov (.s 93))⟩]) .ret))))))⟩
theorem cv22 : cvF Try.prog 22 = some F22 := by kernel_rfl


theorem rPolyMul_spec {av bv : V} {p q : List Int} {L : Nat} {H : Heap} (hL : L ≤ 549755813888) (hn : p.length ≤ 536870912) (hcp : trimP p = p) (hq : MonoQ q) (ha : SPoly H av p L) (hb : SPoly H bv q 2) :
    ACalls Try.prog 56 [av, bv] H fun u H' => Heap.sub H H' ∧ SPoly H' u (pMul p q) L := by
  refine ACalls.of_body hm cv56 (by simp only [List.length_cons, List.length_nil]; decide) ?_
  obtain ⟨q0, q2⟩ := hq.len
  simp only [F56, go_sem, ↓reduceIte, Nat.reduceEqDiff, Nat.reduceAdd, reduceCtorEq]
  refine callC_grow (rPoly_spec (by omega) (by omega) ha) ?_
  intro pv H2 hs2 hpv
  rw [hcp] at hpv
  simp only [go_sem, ↓reduceIte, Nat.reduceEqDiff, Nat.reduceAdd, reduceCtorEq]
  refine callC_grow (rPoly_spec (by decide) (by omega) (hb.mono hs2)) ?_
  intro qv H3 hs3 hqv
  rw [hq.trim] at hqv
  have hpv3 := hpv.mono hs3
  have hs03 := hs2.trans' hs3
  simp only [go_sem, ↓reduceIte, Nat.reduceEqDiff, Nat.reduceAdd, reduceCtorEq, hpv3.len, hqv.len]
  obtain ⟨n, hnn⟩ : ∃ n, p.length + q.length = n := ⟨_, rfl⟩
  have w1 : IntKind.i64.wrap ((p.length : Int) + q.length) = (n : Int) := by rw [wrapI (by omega) (by omega)]; omega
  rw [w1]
  refine mkC_intro (Nat.le_refl _) (by omega) (by omega) fun N H4 hN hs4 hbN => ?_
  rw [flat_rep] at hbN
  simp only [go_sem, ↓reduceIte, Nat.reduceEqDiff, Nat.reduceAdd, reduceCtorEq, beq_self_eq_true]
  have row0 := VRow.start (Q := fun k G v => CNat G v (mulF p q 0 k) L) hN hs4 hbN fun i _ => CNat.nils _ _
  have hmb := mulF_bound (p := p) (q := q) (B := 4294967296 ^ L) (Int.pow_pos (by decide)) hq hpv3.range
  refine loop_count p.length (fun i env H' => env 0 = pv ∧ env 1 = qv ∧ env 5 = .sl N 0 n true ∧ env 6 = .int .i64 i ∧ ∃ xs G, VRow H3 G H' N xs (fun k G v => CNat G v (mulF p q i k) L) ∧ xs.length = n) ?_ ?_ ?_
  · simp only [go_sem, ↓reduceIte, Nat.reduceEqDiff, Nat.reduceAdd, reduceCtorEq]
    exact ⟨by trivial, by trivial, by trivial, rfl, _, _, row0, by simp⟩
  · rintro i env H5 hi ⟨h0, h1, h5, h6, xs, G, row, hxl⟩
    have hci : cf p i = p[i] := by simp [cf, hi]
    have hlti : (i : Int) < p.length := by omega
    simp only [go_sem, ↓reduceIte, Nat.reduceEqDiff, Nat.reduceAdd, reduceCtorEq, h0, h1, h5, h6, (hpv3.mono row.sub).len, hlti]
    refine loop_count q.length (fun j env H' => env 0 = pv ∧ env 1 = qv ∧ env 5 = .sl N 0 n true ∧ env 6 = .int .i64 i ∧ env 7 = .int .i64 j ∧ ∃ xs G, VRow H3 G H' N xs (fun k G v => CNat G v (rowM p q i (mulF p q i) j k) L) ∧ xs.length = n) ?_ ?_ ?_
    · simp only [go_sem, ↓reduceIte, Nat.reduceEqDiff, Nat.reduceAdd, reduceCtorEq, h0, h1, h5, h6]
      exact ⟨by trivial, by trivial, by trivial, by trivial, rfl, xs, G, row, hxl⟩
    · rintro j env H6 hj ⟨h0, h1, h5, h6, h7, xs, G, row, hxl⟩
      have hltj : (j : Int) < q.length := by omega
      obtain ⟨pp, x, a1, a2, a3⟩ := (hpv3.mono row.g0).getG row.gh hi .i64
      obtain ⟨qq, y, c1, c2, c3⟩ := (hqv.mono row.g0).getG row.gh hj .i64
      have hcj : cf q j = q[j] := by simp [cf, hj]
      have hij : i + j < n := by omega
      have w3 : IntKind.i64.wrap ((i : Int) + j) = ((i + j : Nat) : Int) := by rw [← Int.natCast_add]; exact wrapN (by omega)
      have hcell := row.rep (i + j) (by omega)
      simp only [go_sem, ↓reduceIte, Nat.reduceEqDiff, Nat.reduceAdd, reduceCtorEq, h0, h1, h5, h6, h7, (hqv.mono row.sub).len, hltj, a1, a2, c1, c2, w3, ia_nat hij, row.get (show i + j < xs.length by omega)]
      refine callC_in (rMul_spec (L := L) (M := 2) (by omega) a3.nat c3.nat) row.gh fun z H8 G8 hs8 ga gb gc hz => ?_
      have row8 := row.call (G' := G8) (H' := H8) (fun _ _ h => h.mono ga) hs8 ga gb gc
      have hzr : p[i] * q[j] < 4294967296 ^ L := by
        have r := (hpv3.range i).2
        rw [hci] at r
        have hpos : (0 : Int) < 4294967296 ^ L := Int.pow_pos (by decide)
        rcases hq.cf j with e | e
        · rw [hcj] at e; rw [e, Int.mul_zero]; exact hpos
        · rw [hcj] at e; rw [e, Int.mul_one]; exact r
      have hz' := hz.tight hzr
      simp only [go_sem, ↓reduceIte, Nat.reduceEqDiff, Nat.reduceAdd, reduceCtorEq]
      refine callC_in (rAdd_spec (L := L) (by omega) (hcell.mono ga).nat hz'.nat) row8.gh fun s Ha Ga hsa ga' gb' gc' hs' => ?_
      have rowa := row8.call (G' := Ga) (H' := Ha) (fun _ _ h => h.mono ga') hsa ga' gb' gc'
      simp only [go_sem, ↓reduceIte, Nat.reduceEqDiff, Nat.reduceAdd, reduceCtorEq, h0, h1, h5, h6, h7, ia_nat hij]
      refine stC_intro rowa.row trivial (by rw [hs'.nat.cells]; rfl) (by decide) (by show i + j + 1 ≤ _; omega) fun Hb hbb hfb hsb => ?_
      rw [hs'.nat.cells, splice_one _ _ _ (by omega)] at hbb
      simp only [go_sem, ↓reduceIte, Nat.reduceEqDiff, Nat.reduceAdd, reduceCtorEq, h0, h1, h5, h6, h7]
      rw [wrapN1 (by omega)]
      refine ⟨by trivial, by trivial, by trivial, by trivial, by trivial, _, _, rowa.set (Q' := fun k G v => CNat G v (rowM p q i (mulF p q i) (j+1) k) L) (i := i + j) (by omega) hbb hfb ?_ ?_, by rw [List.length_set]; exact hxl⟩
      · have hb := (hmb i (j+1) (i + j) (by omega)).2
        have e : rowM p q i (mulF p q i) (j+1) (i + j) = rowM p q i (mulF p q i) j (i + j) + p[i] * q[j] := by simp [rowM, hci, hcj]
        rw [e] at hb ⊢
        exact hs'.tight hb
      · intro k w hk _ h
        have e : rowM p q i (mulF p q i) (j+1) k = rowM p q i (mulF p q i) j k := by simp [rowM, hk]
        rw [e]; exact h
    · rintro env H6 ⟨h0, h1, h5, h6, h7, xs, G, row, hxl⟩
      simp only [go_sem, ↓reduceIte, Nat.reduceEqDiff, Nat.reduceAdd, reduceCtorEq, h0, h1, h5, h6, h7, (hqv.mono row.sub).len, Int.lt_irrefl]
      rw [wrapN1 (by omega)]
      exact ⟨by trivial, by trivial, by trivial, by trivial, xs, G, row, hxl⟩
  · rintro env H5 ⟨h0, h1, h5, h6, xs, G, row, hxl⟩
    simp only [go_sem, ↓reduceIte, Nat.reduceEqDiff, Nat.reduceAdd, reduceCtorEq, h0, h1, h5, h6, (hpv3.mono row.sub).len, Int.lt_irrefl]
    have hd : SPoly H5 (.sl N 0 n true) ((List.range n).map (mulF p q p.length)) L := row.poly (by omega) (by simp) (by omega) fun k v h hk => by
      have : ((List.range n).map (mulF p q p.length))[k] = mulF p q p.length k := by simp
      rw [this]; exact hk
    refine callC_grow (rPoly_spec (by omega) (by simp; omega) hd) ?_
    intro r H6 hs6 hr
    simp only [go_sem, ↓reduceIte, Nat.reduceEqDiff, Nat.reduceAdd, reduceCtorEq]
    refine finO_self ⟨hs03.trans' (row.sub.trans' hs6), ?_⟩
    have e : trimP ((List.range n).map (mulF p q p.length)) = pMul p q := by
      unfold trimP pMul
      rw [List.length_map, List.length_range, ← hnn]
      exact toT_congr fun i hi => by
        simp [cf, hi]
    rw [← e]; exact hr

theorem nilPoly (H : Heap) (L : Nat) : SPoly H .nils [] L := ⟨[], ⟨rfl, by decide, .inl ⟨rfl, rfl⟩⟩, fun i h => by simp at h⟩

theorem rEnumerator_spec {sv ev : V} {ws : List Int} {es : List (List Ed)} {H : Heap} {E : Nat} (hE : E = 262144) (hs : SInts H sv ws) (he : SSecs H ev es) (hp : properI ws es = 0) : ACalls Try.prog 22 [.agg [sv, ev]] H fun u H' => Heap.sub H H' ∧ SPoly H' u (padP (enumP es) (es.length + 1)) LE := by
  refine ACalls.of_body hm cv22 (by simp only [List.length_cons, List.length_nil]; decide) ?_
  obtain ⟨h0, w0, wl, hgood⟩ := proper_of hp
  have sh := shaped_of h0
  have hn := sh.n
  have e2 := sh.len
  have hEs : es.length * E ≤ 16777216 := by subst hE; omega
  simp only [F22, go_sem, ↓reduceIte, Nat.reduceEqDiff, Nat.reduceAdd, reduceCtorEq]
  refine newC_intro fun b1 H1 hn1 hs1 hb1 => ?_
  simp only [go_sem, ↓reduceIte, Nat.reduceEqDiff, Nat.reduceAdd, reduceCtorEq, fillV, List.length_cons, List.length_nil, splice, Nat.reduceLeDiff, Nat.zero_lt_one, and_self, List.take_zero, List.take_succ_cons, List.drop_succ_cons, List.drop_zero, List.drop_nil, Nat.reduceLT, Nat.le_refl]
  refine newC_intro fun e1 H2 hn2 hs2 hbe1 => ?_
  simp only [go_sem, ↓reduceIte, Nat.reduceEqDiff, Nat.reduceAdd, reduceCtorEq, fillV, List.length_cons, List.length_nil, splice, Nat.reduceLeDiff, Nat.zero_lt_one, and_self, List.take_zero, List.take_succ_cons, List.drop_succ_cons, List.drop_zero, List.drop_nil, Nat.reduceLT, Nat.le_refl, show V.cells (V.sl e1 0 1 true) = [V.sl e1 0 1 true] from rfl]
  refine newC_intro fun e3 H3 hn3 hs3 hbe3 => ?_
  simp only [go_sem, ↓reduceIte, Nat.reduceEqDiff, Nat.reduceAdd, reduceCtorEq, fillV, List.length_cons, List.length_nil, splice, Nat.reduceLeDiff, Nat.zero_lt_one, and_self, List.take_zero, List.take_succ_cons, List.drop_succ_cons, List.drop_zero, List.drop_nil, Nat.reduceLT, Nat.le_refl, show V.cells (V.sl e3 0 1 true) = [V.sl e3 0 1 true] from rfl]
  refine newC_intro fun e4 H4 hn4 hs4 hbe4 => ?_
  have hs24 := hs3.trans' hs4
  have hs14 := hs2.trans' hs24
  have he1 := SSecs.mono he hs1
  have hsi1 := hs.mono hs1
  have one : ∀ {H : Heap} {n : Nat} {o : Bool}, H n = some ⟨o, 1, [V.int .u32 1]⟩ → CNat H (.sl n 0 1 true) 1 2 := fun hb => ⟨[1], ⟨rfl, by simp, .inr ⟨_, 0, true, _, rfl, hb, rfl, .inr (by simp), fun j hj => by simp [u32s]⟩⟩, fun x hx => by simp at hx; omega, by intro x hx; simp at hx; omega, by simp [nval], by simp⟩
  have hone : SPoly H4 (.sl e3 0 1 true) [1] 2 := poly_block (hs4 _ _ hbe3) rfl rfl (by decide) fun i hi => by
    match i, hi with
    | 0, _ => exact ⟨_, rfl, one (hs24 _ _ hbe1)⟩
  simp only [go_sem, ↓reduceIte, Nat.reduceEqDiff, Nat.reduceAdd, reduceCtorEq]
  refine blk_join (fun env H' => Heap.sub H1 H' ∧ env 1 = .ptr b1 0 ∧ ∃ nv xs, env 3 = nv ∧ SCells H' nv xs ∧ xs.length = (ws[es.length]?.getD 0).toNat ∧ ∀ v, (h : v < xs.length) → enS.Rep (es.length * E) H' xs[v] (rowF enS (zE es) es es.length v)) ?_ ?_
  · refine loop_count es.length (fun i env H' => Heap.sub H1 H' ∧ env 1 = .ptr b1 0 ∧ env 4 = .int .i64 i ∧ ∃ nv xs, env 3 = nv ∧ SCells H' nv xs ∧ xs.length = (ws[i]?.getD 0).toNat ∧ ∀ v, (h : v < xs.length) → enS.Rep (i * E) H' xs[v] (rowF enS (zE es) es i v)) ?_ ?_ ?_
    · simp only [go_sem, ↓reduceIte, Nat.reduceEqDiff, Nat.reduceAdd, reduceCtorEq]
      refine ⟨hs14, by trivial, rfl, _, [.sl e3 0 1 true], rfl, ?_, by rw [w0]; rfl, fun v h => ?_⟩
      · exact sl_block hbe4 rfl (by decide)
      · obtain rfl : v = 0 := by simp at h; omega
        exact ⟨hone.up (by omega), (show trimP [1] = [1] by decide), by show 1 ≤ _; omega⟩
    · rintro i env H5 hi ⟨hs5, h1, h4, nv, xs, h3, hnow, hxl, hrep⟩
      have hlti : (i : Int) < es.length := by omega
      have gi := getD_eq (xs := ws) (k := i) (by omega)
      have gi1 := getD_eq (xs := ws) (k := i+1) (by omega)
      have pi := sh.pos i (by omega)
      have pi1 := sh.pos (i+1) (by omega)
      obtain ⟨wk, hwk⟩ : ∃ n : Nat, ws[i+1] = n := ⟨ws[i+1].toNat, by omega⟩
      obtain ⟨p, a1, a2⟩ := (hsi1.mono hs5).get (k := i+1) (by omega) .i64
      have hw1 : IntKind.i64.wrap ((i : Int) + 1) = ((i + 1 : Nat) : Int) := wrapN1 (by omega)
      rw [gi] at hxl
      have hlk := sh.each i hi
      simp only [go_sem, ↓reduceIte, Nat.reduceEqDiff, Nat.reduceAdd, reduceCtorEq, h1, h3, h4, ld_box (hs5 _ _ hb1), SLists.len (SSecs.mono he1 hs5), hlti, hw1, a1, a2, hwk]
      refine mkC_intro (Nat.le_refl _) (by omega) (by omega) fun N H6 hN hs6 hbN => ?_
      rw [flat_rep] at hbN
      simp only [go_sem, ↓reduceIte, Nat.reduceEqDiff, Nat.reduceAdd, reduceCtorEq, h1, h3, h4, beq_self_eq_true]
      have row0 := VRow.start (Q := fun v G y => enS.Rep (i * E + 0) G y (secF enS (rowF enS (zE es) es i) (zE es i) es[i] 0 v)) hN hs6 hbN fun v _ => ⟨nilPoly _ _, (show trimP [] = [] by decide), by show 0 ≤ _; omega⟩
      have hqm : ∀ {j : Nat} {G G' : Heap}, Heap.sub G G' → ∀ v y, enS.Rep (i * E + j) G y (secF enS (rowF enS (zE es) es i) (zE es i) es[i] j v) → enS.Rep (i * E + j) G' y (secF enS (rowF enS (zE es) es i) (zE es i) es[i] j v) := fun hs _ _ h => enS.mono h hs
      refine blk_join (fun env H' => Heap.sub H1 H' ∧ env 1 = .ptr b1 0 ∧ env 4 = .int .i64 i ∧ env 5 = .sl N 0 wk true ∧ ∃ ys G, VRow H5 G H' N ys (fun v G y => enS.Rep (i * E + es[i].length) G y (secF enS (rowF enS (zE es) es i) (zE es i) es[i] es[i].length v)) ∧ ys.length = wk) ?_ ?_
      · refine loop_count es[i].length (fun j env H' => env 1 = .ptr b1 0 ∧ env 3 = nv ∧ env 4 = .int .i64 i ∧ env 5 = .sl N 0 wk true ∧ env 6 = .int .i64 j ∧ ∃ ys G, VRow H5 G H' N ys (fun v G y => enS.Rep (i * E + j) G y (secF enS (rowF enS (zE es) es i) (zE es i) es[i] j v)) ∧ ys.length = wk) ?_ ?_ ?_
        · simp only [go_sem, ↓reduceIte, Nat.reduceEqDiff, Nat.reduceAdd, reduceCtorEq, h1, h3, h4]
          exact ⟨by trivial, by trivial, by trivial, by trivial, rfl, _, _, row0, by simp⟩
        · rintro j env H7 hj ⟨h1, h3, h4, h5, h6, ys, G, row, hyl⟩
          have hltj : (j : Int) < es[i].length := by omega
          have hs17 := hs5.trans' row.sub
          obtain ⟨p', ue, d1, d2, d3⟩ := (SSecs.mono he1 hs17).get hi .i64
          obtain ⟨p, q0, q1, q2, c1, c2, _⟩ := d3.get hj .i64
          have gd := sh.good i hi _ (List.getElem_mem hj)
          rw [gi, gi1] at gd
          obtain ⟨fr, hfr⟩ : ∃ n : Nat, es[i][j].fr = n := ⟨es[i][j].fr.toNat, by omega⟩
          obtain ⟨to, hto⟩ : ∃ n : Nat, es[i][j].to = n := ⟨es[i][j].to.toNat, by omega⟩
          have hkK : i * E + j < 16777216 := by
            have : (i + 1) * E ≤ es.length * E := Nat.mul_le_mul_right _ hi
            rw [Nat.add_mul] at this
            omega
          simp only [go_sem, ↓reduceIte, Nat.reduceEqDiff, Nat.reduceAdd, reduceCtorEq, h1, h3, h4, h5, h6, ld_box (hs17 _ _ hb1), d1, d2, d3.len, hltj, c1, c2]
          refine newC_intro fun n7 H8 hn7 hs8 hb8 => ?_
          simp only [go_sem, ↓reduceIte, Nat.reduceEqDiff, Nat.reduceAdd, reduceCtorEq]
          refine stC_intro hb8 trivial rfl (by decide) (by decide) fun H9 hb9 hf9 hs9 => ?_
          simp only [Ed.cells, fillV, List.length_cons, List.length_nil, splice, Nat.reduceLeDiff, Nat.zero_lt_one, and_self, List.take_zero, List.take_succ_cons, List.drop_succ_cons, List.drop_zero, List.drop_nil, Nat.reduceLT, Nat.le_refl, go_sem, ↓reduceIte, Nat.reduceEqDiff, Nat.reduceAdd, reduceCtorEq] at hb9
          have hs79 : Heap.sub H7 H9 := hs9 H7 hs8 hn7
          have row9 := row.grow hs79
          simp only [go_sem, ↓reduceIte, Nat.reduceEqDiff, Nat.reduceAdd, reduceCtorEq, fillV, List.length_cons, List.length_nil, splice, Nat.reduceLeDiff, Nat.zero_lt_one, and_self, List.take_zero, List.take_succ_cons, List.drop_succ_cons, List.drop_zero, List.drop_nil, Nat.reduceLT, Nat.le_refl]
          refine newC_intro fun z1 Ha hna hsa hba => ?_
          obtain ⟨Ga, hga, hgaz, rowa⟩ := row9.new hqm hna hsa hba
          simp only [go_sem, ↓reduceIte, Nat.reduceEqDiff, Nat.reduceAdd, reduceCtorEq, fillV, List.length_cons, List.length_nil, splice, Nat.reduceLeDiff, Nat.zero_lt_one, and_self, List.take_zero, List.take_succ_cons, List.drop_succ_cons, List.drop_zero, List.drop_nil, Nat.reduceLT, Nat.le_refl, show V.cells (V.sl z1 0 1 true) = [V.sl z1 0 1 true] from rfl]
          refine newC_intro fun z2 Hb hnb hsb hbb => ?_
          obtain ⟨Gb, hgb, hgbz, rowb⟩ := rowa.new hqm hnb hsb hbb
          have hz1 : SPoly Gb (.sl z2 0 1 true) [1] 2 := poly_block hgbz rfl rfl (by decide) fun i hi => by
            match i, hi with
            | 0, _ => exact ⟨_, rfl, one (hgb _ _ hgaz)⟩
          have hb9b := hsb _ _ (hsa _ _ hb9)
          simp only [go_sem, ↓reduceIte, Nat.reduceEqDiff, Nat.reduceAdd, reduceCtorEq, h1, h3, h4, h5, h6, ld_box hb9b]
          refine iteC_join (fun env' H' => env' 1 = .ptr b1 0 ∧ env' 3 = nv ∧ env' 4 = .int .i64 i ∧ env' 5 = .sl N 0 wk true ∧ env' 6 = .int .i64 j ∧ env' 7 = .ptr n7 0 ∧ H' n7 = some ⟨true, 1, [V.int .i64 es[i][j].fr, V.int .i64 es[i][j].lb, V.int .i64 es[i][j].to]⟩ ∧ ∃ zv G, env' 8 = zv ∧ VRow H5 G H' N ys (fun v G y => enS.Rep (i * E + j) G y (secF enS (rowF enS (zE es) es i) (zE es i) es[i] j v)) ∧ SPoly G zv (zE es i j) 2) (fun c => ?_) (fun c => ?_) ?_
          · simp only [go_sem, ↓reduceIte, Nat.reduceEqDiff, Nat.reduceAdd, reduceCtorEq, fillV, List.length_cons, List.length_nil, splice, Nat.reduceLeDiff, Nat.zero_lt_one, and_self, List.take_zero, List.take_succ_cons, List.drop_succ_cons, List.drop_zero, List.drop_nil, Nat.reduceLT, Nat.le_refl]
            refine newC_intro fun z3 Hc hnc hsc hbc => ?_
            obtain ⟨Gc, hgc, hgcz, rowc⟩ := rowb.new hqm hnc hsc hbc
            simp only [go_sem, ↓reduceIte, Nat.reduceEqDiff, Nat.reduceAdd, reduceCtorEq, fillV, List.length_cons, List.length_nil, splice, Nat.reduceLeDiff, Nat.zero_lt_one, and_self, List.take_zero, List.take_succ_cons, List.drop_succ_cons, List.drop_zero, List.drop_nil, Nat.reduceLT, Nat.le_refl, show V.cells (V.sl z3 0 1 true) = [V.sl z3 0 1 true] from rfl, show V.cells V.nils = [V.nils] from rfl]
            refine newC_intro fun z4 Hd hnd hsd hbd => ?_
            obtain ⟨Gd, hgd, hgdz, rowd⟩ := rowc.new hqm hnd hsd hbd
            simp only [go_sem, ↓reduceIte, Nat.reduceEqDiff, Nat.reduceAdd, reduceCtorEq, h1, h3, h4, h5, h6]
            have hzz : zE es i j = [0, 1] := by simp [zE, hi, hj, zq]; omega
            refine ⟨by trivial, by trivial, by trivial, by trivial, by trivial, by trivial, hsd _ _ (hsc _ _ hb9b), _, Gd, rfl, rowd, ?_⟩
            rw [hzz]
            exact poly_block hgdz rfl rfl (by decide) fun i hi => by
              match i, hi with
              | 0, _ => exact ⟨_, rfl, CNat.nils _ _⟩
              | 1, _ => exact ⟨_, rfl, one (hgd _ _ hgcz)⟩
          · simp only [go_sem, ↓reduceIte, Nat.reduceEqDiff, Nat.reduceAdd, reduceCtorEq, h1, h3, h4, h5, h6]
            have hzz : zE es i j = [1] := by
              have : es[i][j].lb = 0 := Classical.byContradiction c
              simp [zE, hi, hj, zq, this]
            refine ⟨by trivial, by trivial, by trivial, by trivial, by trivial, by trivial, hb9b, _, Gb, rfl, rowb, ?_⟩
            rw [hzz]; exact hz1
          rintro env Hc ⟨h1, h3, h4, h5, h6, h7, hb7, zv, Gc, h8, rowc, hzv⟩
          have hnowc : SCells Hc nv xs := hnow.mono rowc.sub
          have hfrx : fr < xs.length := by omega
          have htoy : to < ys.length := by omega
          have r1 : enS.Rep (i * E) Gc xs[fr] (rowF enS (zE es) es i fr) := enS.mono (hrep fr hfrx) rowc.g0
          have r2 := rowc.rep to htoy
          obtain ⟨pn, n1, n2⟩ := hnowc.get hfrx .i64
          simp only [go_sem, ↓reduceIte, Nat.reduceEqDiff, Nat.reduceAdd, reduceCtorEq, h1, h3, h4, h5, h6, h7, h8, ld_box hb7, hfr, hto, n1, n2, ia_nat (show to < wk by omega), rowc.get htoy]
          have hzm : MonoQ (zE es i j) := zq_mono _
          refine callC_in (rPolyMul_spec (L := i * E + j + 2) (by omega) (by have := r1.2.2; omega) r1.2.1 hzm (r1.1.up (by omega)) hzv) rowc.gh fun m Hd Gd hsd ga gb gc hmm => ?_
          have rowd := rowc.call (G' := Gd) (H' := Hd) (hqm ga) hsd ga gb gc
          have hml := pMul_len (p := rowF enS (zE es) es i fr) (q := zE es i j) hzm.len.1
          have hml2 := hzm.len.2
          have r1l := r1.2.2
          have r2l := r2.2.2
          simp only [go_sem, ↓reduceIte, Nat.reduceEqDiff, Nat.reduceAdd, reduceCtorEq]
          refine callC_in (rPolyAdd_spec (L := i * E + j + 2) (by omega) (by omega) (by omega) (r2.1.mono ga) hmm) rowd.gh fun r He Ge hse ga' gb' gc' hr => ?_
          have rowe := rowd.call (G' := Ge) (H' := He) (hqm ga') hse ga' gb' gc'
          simp only [go_sem, ↓reduceIte, Nat.reduceEqDiff, Nat.reduceAdd, reduceCtorEq, h1, h3, h4, h5, h6, ia_nat (show to < wk by omega)]
          refine stC_intro rowe.row trivial (by rw [hr.cells]; rfl) (by decide) (by show to + 1 ≤ _; omega) fun Hf hbf hff hsf => ?_
          rw [hr.cells, splice_one _ _ _ (by omega)] at hbf
          simp only [go_sem, ↓reduceIte, Nat.reduceEqDiff, Nat.reduceAdd, reduceCtorEq, h1, h3, h4, h5, h6]
          rw [wrapN1 (by omega)]
          refine ⟨by trivial, by trivial, by trivial, by trivial, by trivial, _, _, rowe.set (Q' := fun v G y => enS.Rep (i * E + (j+1)) G y (secF enS (rowF enS (zE es) es i) (zE es i) es[i] (j+1) v)) (i := to) htoy hbf hff ?_ ?_, by rw [List.length_set]; exact hyl⟩
          · have e : secF enS (rowF enS (zE es) es i) (zE es i) es[i] (j+1) to = pAdd (secF enS (rowF enS (zE es) es i) (zE es i) es[i] j to) (pMul (rowF enS (zE es) es i fr) (zE es i j)) := by
              simp only [secF, hj, List.getElem?_eq_getElem, hto, hfr, Int.toNat_natCast, if_true]
              rfl
            rw [e]
            refine ⟨hr.up (by omega), pAdd_trim _ _, ?_⟩
            have := pAdd_len (secF enS (rowF enS (zE es) es i) (zE es i) es[i] j to) (pMul (rowF enS (zE es) es i fr) (zE es i j))
            omega
          · intro v w hv _ h
            have e : secF enS (rowF enS (zE es) es i) (zE es i) es[i] (j+1) v = secF enS (rowF enS (zE es) es i) (zE es i) es[i] j v := by
              simp only [secF, hj, List.getElem?_eq_getElem, hto, Int.toNat_natCast, if_neg hv]
            rw [e]; exact enS.up h (by omega)
        · rintro env H7 ⟨h1, h3, h4, h5, h6, ys, G, row, hyl⟩
          have hs17 := hs5.trans' row.sub
          obtain ⟨p', ue, d1, d2, d3⟩ := (SSecs.mono he1 hs17).get hi .i64
          simp only [go_sem, ↓reduceIte, Nat.reduceEqDiff, Nat.reduceAdd, reduceCtorEq, h1, h3, h4, h5, h6, ld_box (hs17 _ _ hb1), d1, d2, d3.len, Int.lt_irrefl]
          exact ⟨hs17, by trivial, by trivial, by trivial, ys, G, row, hyl⟩
      · rintro env H7 ⟨hs17, h1, h4, h5, ys, G, row, hyl⟩
        simp only [go_sem, ↓reduceIte, Nat.reduceEqDiff, Nat.reduceAdd, reduceCtorEq, h1, h4, h5]
        rw [wrapN1 (by omega)]
        refine ⟨hs17, by trivial, by trivial, _, ys, rfl, ?_, by rw [gi1, hwk, hyl]; rfl, fun v hv => ?_⟩
        · unfold SCells
          rw [hyl]
          exact sl_block row.row (by omega) (by omega)
        · have e : rowF enS (zE es) es (i+1) v = secF enS (rowF enS (zE es) es i) (zE es i) es[i] es[i].length v := by
            rw [rowF]; simp [hi]
          rw [e]
          exact enS.up (enS.mono (row.rep v hv) row.gh) (by rw [Nat.add_mul]; omega)
    · rintro env H5 ⟨hs5, h1, h4, nv, xs, h3, hnow, hxl, hrep⟩
      simp only [go_sem, ↓reduceIte, Nat.reduceEqDiff, Nat.reduceAdd, reduceCtorEq, h1, h3, h4, ld_box (hs5 _ _ hb1), SLists.len (SSecs.mono he1 hs5), Int.lt_irrefl]
      exact ⟨hs5, by trivial, nv, xs, by trivial, hnow, hxl, hrep⟩
  rintro env H5 ⟨hs5, h1, nv, xs, h3, hnow, hxl, hrep⟩
  rw [wl] at hxl
  have hx0 : 0 < xs.length := by rw [hxl]; decide
  have hP : SPoly H5 xs[0] (enumP es) (es.length * E + 2) := (hrep 0 hx0).1
  have hPl : (enumP es).length ≤ es.length + 1 := rowF_lenP es es.length 0
  obtain ⟨pn, n1, n2⟩ := hnow.get hx0 .i64
  have n1' : iaV 1 nv (.int .i64 0) = some pn := n1
  have hw : IntKind.i64.wrap ((es.length : Int) + 1) = ((es.length + 1 : Nat) : Int) := wrapN1 (by omega)
  simp only [go_sem, ↓reduceIte, Nat.reduceEqDiff, Nat.reduceAdd, reduceCtorEq, h1, h3, ld_box (hs5 _ _ hb1), SLists.len (SSecs.mono he1 hs5), hw]
  refine mkC_intro (Nat.le_refl _) (by omega) (by omega) fun N H6 hN hs6 hbN => ?_
  rw [flat_rep] at hbN
  simp only [go_sem, ↓reduceIte, Nat.reduceEqDiff, Nat.reduceAdd, reduceCtorEq, h1, h3, beq_self_eq_true]
  have row0 := VRow.start (Q := fun i G v => (i < 0 → CNat G v (cf (enumP es) i) LE) ∧ (0 ≤ i → CNat G v 0 0)) hN hs6 hbN fun i _ => ⟨fun h => by omega, fun _ => CNat.nils _ _⟩
  refine loop_count (enumP es).length (fun k env H' => env 3 = nv ∧ env 9 = .sl N 0 (es.length + 1) true ∧ env 10 = .int .i64 k ∧ ∃ ys G, VRow H5 G H' N ys (fun i G v => (i < k → CNat G v (cf (enumP es) i) LE) ∧ (k ≤ i → CNat G v 0 0)) ∧ ys.length = es.length + 1) ?_ ?_ ?_
  · simp only [go_sem, ↓reduceIte, Nat.reduceEqDiff, Nat.reduceAdd, reduceCtorEq, h3]
    exact ⟨by trivial, by trivial, rfl, _, _, row0, by simp⟩
  · rintro k env H7 hk ⟨h3, h9, h10, ys, G, row, hyl⟩
    have hltk : (k : Int) < (enumP es).length := by omega
    obtain ⟨q, u, a1, a2, a3⟩ := (hP.mono row.g0).getG row.gh hk .i64
    simp only [go_sem, ↓reduceIte, Nat.reduceEqDiff, Nat.reduceAdd, reduceCtorEq, h3, h9, h10, n1', ld_mono row.sub n2, (hP.mono row.sub).len, hltk, a1, a2, ia_nat (show k < es.length + 1 by omega)]
    refine stC_intro row.row trivial (by rw [a3.nat.cells]; rfl) (by decide) (by show k + 1 ≤ _; omega) fun H8 hb8 hf8 hs8 => ?_
    rw [a3.nat.cells, splice_one _ _ _ (by omega)] at hb8
    simp only [go_sem, ↓reduceIte, Nat.reduceEqDiff, Nat.reduceAdd, reduceCtorEq, h3, h9, h10]
    rw [wrapN1 (by omega)]
    refine ⟨by trivial, by trivial, by trivial, _, _, row.set (Q' := fun i G v => (i < k + 1 → CNat G v (cf (enumP es) i) LE) ∧ (k + 1 ≤ i → CNat G v 0 0)) (i := k) (by omega) hb8 hf8 ⟨fun _ => ?_, fun h => by omega⟩ (fun j w hj _ h => ⟨fun c => h.1 (by omega), fun c => h.2 (by omega)⟩), by rw [List.length_set]; exact hyl⟩
    have e : cf (enumP es) k = (enumP es)[k] := by simp [cf, hk]
    rw [e]; exact a3.up (by unfold LE; omega)
  · rintro env H7 ⟨h3, h9, h10, ys, G, row, hyl⟩
    simp only [go_sem, ↓reduceIte, Nat.reduceEqDiff, Nat.reduceAdd, reduceCtorEq, h3, h9, h10, n1', ld_mono row.sub n2, (hP.mono row.sub).len, Int.lt_irrefl]
    refine finO_self ⟨hs1.trans' (hs5.trans' row.sub), row.poly (by omega) (padP_len _ _) (by omega) fun i v h hq => ?_⟩
    rw [padP_get h]
    by_cases c : i < (enumP es).length
    · exact hq.1 c
    · have e : cf (enumP es) i = 0 := by simp [cf, show (enumP es).length ≤ i by omega]
      rw [e]; exact (hq.2 (by omega)).up (by omega)
end Go.AM
