/- codewrightref01.Mul. Conditions: as stated. -/
import Derived.Test.YtopeeknimehmcaaM0
set_option linter.unusedVariables false
set_option linter.unusedSimpArgs false
namespace Go.AM
open Go Go.Proofs
attribute [local go_sem] c_skip c_ops c_seq c_ite c_blk c_exit c_ret t_normal t_exit t_ret b_normal b_exit b_ret i_nil i_cons s_guard s_mov s_pick s_new s_zero s_ld s_ldr s_st s_bin s_beq s_isnil s_eqs s_un s_conv s_fa s_fld s_ia s_sli s_ext s_ifc s_mkf s_agg s_len s_mm s_nilchk s_bsl s_mk s_app s_cpy s_call s_inv cells_agg cells_int cells_bool p_get p_none o_s o_c e_0 e_1 e_2 e_3 e_4 iteC_true iteC_false grd_tt grd_tf grd_ft grd_ff grd_und bindV_some pickV_t pickV_f beq_bool conv_int un_not not_dec mm_min mm_max bv_add bv_sub bv_mul bv_eql bv_neq bv_lss bv_leq bv_gtr bv_geq f_normal f_one f_two f_three f_none fa_ptr fld_one ext_tup len_sl len_nils decide_true decide_false not_true_eq_false not_false_eq_true List.map_cons List.map_nil List.append_nil List.cons_append List.nil_append Nat.zero_add Nat.add_zero Nat.mul_one Nat.succ_ne_self if_true if_false List.getElem?_cons_zero List.getElem?_cons_succ

/-- codewrightref01.Mul -/
def F89 : AF := ⟨69, [(4, none)], (.seq (.ops [⟨none, false, (some 4), (.mov (.c .nils))⟩]) (.seq (.ops [⟨none, false, (some 10), (.mov (.s 0))⟩, ⟨none, false, (some 11), (.len (.s 10))⟩, ⟨none, false, (some 12), (.mov (.s 1))⟩, ⟨none, false, (some 13), (.len (.s 12))⟩, ⟨none, false, (some 14), (.bin .add (.s 11) (.s 13))⟩, ⟨none, false, (some 15), (.mk 1 4 [(.int .u32 (0))] (.s 14) (.s 14))⟩, ⟨none, false, (some 5), (.mov (.s 15))⟩]) (.seq (.seq (.ops [⟨none, false, (some 6), (.mov (.c (.int .i64 (0))))⟩]) (.blk 0 (.loop (.seq (.seq (.ops [⟨none, false, (some 16), (.mov (.s 6))⟩, ⟨none, false, (some 17), (.mov (.s 0))⟩, ⟨none, false, (some 18), (.len (.s 17))⟩, ⟨none, false, (some 19), (.bin .lss (.s 16) (.s 18))⟩]) (.ite (.s 19) .skip (.exit 0))) (.seq (.blk 1 (.seq (.ops [⟨none, false, (some 7), (.mov (.c (.int .u64 (0))))⟩]) (.seq (.seq (.ops [⟨none, false, (some 8), (.mov (.c (.int .i64 (0))))⟩]) (.blk 2 (.loop (.seq (.seq (.ops [⟨none, false, (some 22), (.mov (.s 8))⟩, ⟨none, false, (some 23), (.mov (.s 1))⟩, ⟨none, false, (some 24), (.len (.s 23))⟩, ⟨none, false, (some 25), (.bin .lss (.s 22) (.s 24))⟩]) (.ite (.s 25) .skip (.exit 2))) (.seq (.blk 3 (.seq (.ops [⟨none, false, (some 28), (.mov (.s 0))⟩, ⟨none, false, (some 29), (.mov (.s 6))⟩, ⟨none, false, (some 30), (.ia 1 (.s 28) (.s 29))⟩, ⟨none, false, (some 33), (.mov (.s 1))⟩, ⟨none, false, (some 34), (.mov (.s 8))⟩, ⟨none, false, (some 35), (.ia 1 (.s 33) (.s 34))⟩, ⟨none, false, (some 39), (.mov (.s 5))⟩, ⟨none, false, (some 40), (.mov (.s 6))⟩, ⟨none, false, (some 41), (.mov (.s 8))⟩, ⟨none, false, (some 42), (.bin .add (.s 40) (.s 41))⟩, ⟨none, false, (some 43), (.ia 1 (.s 39) (.s 42))⟩, ⟨none, false, (some 47), (.mov (.s 7))⟩, ⟨none, false, (some 31), (.ld false 1 (.s 30) none)⟩, ⟨none, false, (some 32), (.conv .u64 (.s 31))⟩, ⟨none, false, (some 36), (.ld false 1 (.s 35) none)⟩, ⟨none, false, (some 37), (.conv .u64 (.s 36))⟩, ⟨none, false, (some 38), (.bin .mul (.s 32) (.s 37))⟩, ⟨none, false, (some 44), (.ld false 1 (.s 43) none)⟩, ⟨none, false, (some 45), (.conv .u64 (.s 44))⟩, ⟨none, false, (some 46), (.bin .add (.s 38) (.s 45))⟩, ⟨none, false, (some 48), (.bin .add (.s 46) (.s 47))⟩, ⟨none, false, (some 9), (.mov (.s 48))⟩]) (.seq (.ops [⟨none, false, (some 49), (.mov (.s 5))⟩, ⟨none, false, (some 50), (.mov (.s 6))⟩, ⟨none, false, (some 51), (.mov (.s 8))⟩, ⟨none, false, (some 52), (.bin .add (.s 50) (.s 51))⟩, ⟨none, false, (some 53), (.mov (.s 9))⟩, ⟨none, false, (some 54), (.bin .rem (.s 53) (.c (.int .u64 (4294967296))))⟩, ⟨none, false, (some 55), (.conv .u32 (.s 54))⟩, ⟨none, false, (some 56), (.ia 1 (.s 49) (.s 52))⟩, ⟨none, false, none, (.st 1 (.s 56) (.s 55) [])⟩]) (.ops [⟨none, false, (some 57), (.mov (.s 9))⟩, ⟨none, false, (some 58), (.bin .quo (.s 57) (.c (.int .u64 (4294967296))))⟩, ⟨none, false, (some 7), (.mov (.s 58))⟩])))) (.ops [⟨none, false, (some 26), (.mov (.s 8))⟩, ⟨none, false, (some 27), (.bin .add (.s 26) (.c (.int .i64 (1))))⟩, ⟨none, false, (some 8), (.mov (.s 27))⟩])))))) (.ops [⟨none, false, (some 59), (.mov (.s 5))⟩, ⟨none, false, (some 60), (.mov (.s 6))⟩, ⟨none, false, (some 61), (.mov (.s 1))⟩, ⟨none, false, (some 62), (.len (.s 61))⟩, ⟨none, false, (some 63), (.bin .add (.s 60) (.s 62))⟩, ⟨none, false, (some 64), (.mov (.s 7))⟩, ⟨none, false, (some 65), (.conv .u32 (.s 64))⟩, ⟨none, false, (some 66), (.ia 1 (.s 59) (.s 63))⟩, ⟨none, false, none, (.st 1 (.s 66) (.s 65) [])⟩])))) (.ops [⟨none, false, (some 20), (.mov (.s 6))⟩, ⟨none, false, (some 21), (.bin .add (.s 20) (.c (.int .i64 (1))))⟩, ⟨none, false, (some 6), (.mov (.s 21))⟩])))))) (.seq (.ops [⟨none, false, (some 67), (.mov (.s 5))⟩, ⟨none, false, (some 68), (.call (.c (.fn 58 [])) [(.s 67)])⟩, ⟨none, false, (some 4), (.mov (.s 68))⟩]) .ret))))⟩
theorem cv89 : cvF Try.prog 89 = some F89 := by kernel_rfl


theorem rMul_spec {av bv : V} {a b : Int} {L M : Nat} {H : Heap} (hL : L + M ≤ 1099511627776) (ha : SNat H av a L) (hb : SNat H bv b M) : ACalls Try.prog 89 [av, bv] H fun u H' => Heap.sub H H' ∧ CNat H' u (a * b) (L + M) := by
  obtain ⟨xs, hx, lx, rfl, hxL⟩ := ha
  obtain ⟨ys, hy, ly, rfl, hyL⟩ := hb
  refine ACalls.of_body hm cv89 (by simp only [List.length_cons, List.length_nil]; decide) ?_
  simp only [F89, go_sem, ↓reduceIte, Nat.reduceEqDiff, Nat.reduceAdd, reduceCtorEq, hx.len, hy.len]
  have hw0 : IntKind.i64.wrap ((xs.length : Int) + ys.length) = ((xs.length + ys.length : Nat) : Int) := by rw [wrapI (by omega) (by omega)]; omega
  rw [hw0]
  refine mkC_intro (Nat.le_refl _) (by omega) (by omega) fun N H1 hN hs1 hbN => ?_
  rw [flat_rep] at hbN
  simp only [go_sem, ↓reduceIte, Nat.reduceEqDiff, Nat.reduceAdd, reduceCtorEq, beq_self_eq_true]
  refine loop_count xs.length (fun i env H' => env 0 = av ∧ env 1 = bv ∧ env 5 = .sl N 0 (xs.length + ys.length) true ∧ env 6 = .int .i64 i ∧ Heap.sub H H' ∧
      ∃ os : List Int, H' N = some ⟨true, 1, u32s os⟩ ∧ os.length = xs.length + ys.length ∧ Limbs os ∧ nval os = nval (xs.take i) * nval ys ∧ ∀ r, (h : r < os.length) → i + ys.length ≤ r → os[r] = 0) ?_ ?_ ?_
  · simp only [go_sem, ↓reduceIte, Nat.reduceEqDiff, Nat.reduceAdd, reduceCtorEq]
    refine ⟨by trivial, by trivial, by trivial, rfl, hs1, List.replicate (xs.length + ys.length) 0, by simpa [u32s] using hbN, by simp, fun x hx => by rw [(List.mem_replicate.1 hx).2]; decide, ?_, fun r h _ => by simp⟩
    rw [nval_zeros fun x hx => (List.mem_replicate.1 hx).2]; simp [nval]
  · rintro i env H2 hi ⟨h0, h1, h5, h6, hs2, os, hbo, hol, lo, hinv, hz⟩
    obtain ⟨p, a1, a2⟩ := (hx.mono hs2).get hi .i64
    have hxi := lx _ (List.getElem_mem hi)
    have hlt : (i : Int) < xs.length := by omega
    simp only [go_sem, ↓reduceIte, Nat.reduceEqDiff, Nat.reduceAdd, reduceCtorEq, h0, h1, h5, h6, hx.len, hlt]
    refine blk_join (fun env H' => env 0 = av ∧ env 1 = bv ∧ env 5 = .sl N 0 (xs.length + ys.length) true ∧ env 6 = .int .i64 i ∧ Heap.sub H H' ∧
      ∃ (c : Int) (os : List Int), env 7 = .int .u64 c ∧ 0 ≤ c ∧ c < 4294967296 ∧ H' N = some ⟨true, 1, u32s os⟩ ∧ os.length = xs.length + ys.length ∧ Limbs os ∧ nval os + c * 4294967296 ^ (i + ys.length) = nval (xs.take i) * nval ys + xs[i] * nval (ys.take ys.length) * 4294967296 ^ i ∧ ∀ r, (h : r < os.length) → i + ys.length ≤ r → os[r] = 0) ?_ ?_
    · refine loop_count ys.length (fun j env H' => env 0 = av ∧ env 1 = bv ∧ env 5 = .sl N 0 (xs.length + ys.length) true ∧ env 6 = .int .i64 i ∧ env 8 = .int .i64 j ∧ Heap.sub H H' ∧
        ∃ (c : Int) (os : List Int), env 7 = .int .u64 c ∧ 0 ≤ c ∧ c < 4294967296 ∧ H' N = some ⟨true, 1, u32s os⟩ ∧ os.length = xs.length + ys.length ∧ Limbs os ∧ nval os + c * 4294967296 ^ (i + j) = nval (xs.take i) * nval ys + xs[i] * nval (ys.take j) * 4294967296 ^ i ∧ ∀ r, (h : r < os.length) → i + ys.length ≤ r → os[r] = 0) ?_ ?_ ?_
      · simp only [go_sem, ↓reduceIte, Nat.reduceEqDiff, Nat.reduceAdd, reduceCtorEq, h0, h1, h5, h6]
        exact ⟨by trivial, by trivial, by trivial, by trivial, rfl, hs2, 0, os, by trivial, by decide, by decide, hbo, hol, lo, by simp [nval, hinv], hz⟩
      · rintro j env H3 hj ⟨h0, h1, h5, h6, h8, hs3, c, os, h7, hc0, hc1, hbo, hol, lo, hinv, hz⟩
        obtain ⟨p, a1, a2⟩ := (hx.mono hs3).get hi .i64
        obtain ⟨q, b1, b2⟩ := (hy.mono hs3).get hj .i64
        have hyj := ly _ (List.getElem_mem hj)
        have hoj := lo _ (List.getElem_mem (by omega : i + j < os.length))
        have hxy0 : 0 ≤ xs[i] * ys[j] := Int.mul_nonneg hxi.1 hyj.1
        have hxy1 : xs[i] * ys[j] ≤ 4294967295 * 4294967295 := Int.mul_le_mul (by omega) (by omega) hyj.1 (by decide)
        have w1 : IntKind.u64.wrap xs[i] = xs[i] := by rw [wrap64]; omega
        have w2 : IntKind.u64.wrap ys[j] = ys[j] := by rw [wrap64]; omega
        have w3 : IntKind.u64.wrap (xs[i] * ys[j]) = xs[i] * ys[j] := by rw [wrap64]; omega
        have w4 : IntKind.u64.wrap os[i+j] = os[i+j] := by rw [wrap64]; omega
        have w5 : IntKind.u64.wrap (xs[i] * ys[j] + os[i+j]) = xs[i] * ys[j] + os[i+j] := by rw [wrap64]; omega
        have w6 : IntKind.u64.wrap (xs[i] * ys[j] + os[i+j] + c) = xs[i] * ys[j] + os[i+j] + c := by rw [wrap64]; omega
        have w7 : IntKind.i64.wrap ((i : Int) + j) = ((i + j : Nat) : Int) := by rw [wrapI (by omega) (by omega)]; omega
        have w8 : IntKind.u32.wrap ((xs[i] * ys[j] + os[i+j] + c) % 4294967296) = (xs[i] * ys[j] + os[i+j] + c) % 4294967296 := by rw [wrap32]; omega
        have hltj : (j : Int) < ys.length := by omega
        simp only [go_sem, ↓reduceIte, Nat.reduceEqDiff, Nat.reduceAdd, reduceCtorEq, h0, h1, h5, h6, h7, h8, hy.len, hltj, a1, a2, b1, b2, w1, w2, w3, w7, ia_nat (show i + j < xs.length + ys.length by omega), ld_box hbo, u32s_get (show i + j < os.length by omega), w4, w5, w6, bv_rem32 (show 0 ≤ xs[i] * ys[j] + os[i+j] + c by omega), w8]
        refine stC_intro hbo trivial rfl (by decide) (by show i + j + 1 ≤ _; rw [u32s_len]; omega) fun H4 hb4 hf4 hs4 => ?_
        rw [cells_int, splice_one _ _ _ (by rw [u32s_len]; omega)] at hb4
        simp only [go_sem, ↓reduceIte, Nat.reduceEqDiff, Nat.reduceAdd, reduceCtorEq, h0, h1, h5, h6, h7, h8, bv_quo32 (show 0 ≤ xs[i] * ys[j] + os[i+j] + c by omega) (by omega)]
        rw [wrapN1 (by omega)]
        refine ⟨by trivial, by trivial, by trivial, by trivial, by trivial, hs4 H hs3 hN, _, os.set (i+j) ((xs[i] * ys[j] + os[i+j] + c) % 4294967296), rfl, by omega, by omega, by rw [hb4]; simp [u32s, List.map_set], by simpa using hol, fun x hx' => ?_, ?_, fun r h hr => ?_⟩
        · rcases List.mem_or_eq_of_mem_set hx' with h | rfl
          · exact lo x h
          · omega
        · have := mul_step (x := xs[i]) (y := ys[j]) (o := os[i+j]) hinv rfl
          rw [nval_set (by omega), nval_take_succ hj, row_next, ← Int.pow_add, show i + (j + 1) = i + j + 1 by omega, Int.pow_succ, Int.mul_comm (4294967296 ^ (i+j)) 4294967296]
          omega
        · rw [List.getElem_set_ne (by omega)]
          exact hz r (by simpa using h) hr
      · rintro env H3 ⟨h0, h1, h5, h6, h8, hs3, c, os, h7, hc0, hc1, hbo, hol, lo, hinv, hz⟩
        simp only [go_sem, ↓reduceIte, Nat.reduceEqDiff, Nat.reduceAdd, reduceCtorEq, h0, h1, h5, h6, h7, h8, hy.len, Int.lt_irrefl]
        exact ⟨by trivial, by trivial, by trivial, by trivial, hs3, c, os, by trivial, hc0, hc1, hbo, hol, lo, hinv, hz⟩
    · rintro env H3 ⟨h0, h1, h5, h6, hs3, c, os, h7, hc0, hc1, hbo, hol, lo, hinv, hz⟩
      have w7 : IntKind.i64.wrap ((i : Int) + ys.length) = ((i + ys.length : Nat) : Int) := by rw [wrapI (by omega) (by omega)]; omega
      have w8 : IntKind.u32.wrap c = c := by rw [wrap32]; omega
      simp only [go_sem, ↓reduceIte, Nat.reduceEqDiff, Nat.reduceAdd, reduceCtorEq, h0, h1, h5, h6, h7, hy.len, w7, w8, ia_nat (show i + ys.length < xs.length + ys.length by omega)]
      refine stC_intro hbo trivial rfl (by decide) (by show i + ys.length + 1 ≤ _; rw [u32s_len]; omega) fun H4 hb4 hf4 hs4 => ?_
      rw [cells_int, splice_one _ _ _ (by rw [u32s_len]; omega)] at hb4
      simp only [go_sem, ↓reduceIte, Nat.reduceEqDiff, Nat.reduceAdd, reduceCtorEq, h0, h1, h5, h6]
      rw [wrapN1 (by omega)]
      refine ⟨by trivial, by trivial, by trivial, by trivial, hs4 H hs3 hN, os.set (i + ys.length) c, by rw [hb4]; simp [u32s, List.map_set], by simpa using hol, fun x hx' => ?_, ?_, fun r h hr => ?_⟩
      · rcases List.mem_or_eq_of_mem_set hx' with h | rfl
        · exact lo x h
        · omega
      · rw [nval_set (by omega), hz _ (by omega) (Nat.le_refl _), nval_take_succ hi, Int.add_mul]
        rw [List.take_length] at hinv
        rw [Int.mul_comm (4294967296 ^ i) xs[i], Int.mul_assoc xs[i], Int.mul_comm (4294967296 ^ i) (nval ys), ← Int.mul_assoc xs[i]]
        rw [Int.sub_zero, Int.mul_comm (4294967296 ^ (i + ys.length)) c]
        exact hinv
      · rw [List.getElem_set_ne (by omega)]
        exact hz r (by simpa using h) (by omega)
  · rintro env H2 ⟨h0, h1, h5, h6, hs2, os, hbo, hol, lo, hinv, hz⟩
    rw [List.take_length] at hinv
    have hn : SNat H2 (.sl N 0 (xs.length + ys.length) true) (nval xs * nval ys) (L + M) := by
      refine ⟨os, ?_, lo, hinv, by omega⟩
      unfold SLimbs
      rw [hol]
      exact ⟨by rw [u32s_len]; omega, by omega, .inr ⟨N, 0, true, _, rfl, hbo, rfl, .inr (by rw [u32s_len]; omega), fun j hj => by simp⟩⟩
    simp only [go_sem, ↓reduceIte, Nat.reduceEqDiff, Nat.reduceAdd, reduceCtorEq, h0, h1, h5, h6, hx.len, Int.lt_irrefl]
    refine callC_grow (rTrim_spec (by omega) hn) ?_
    intro u H3 hs3 hc
    simp only [go_sem, ↓reduceIte, Nat.reduceEqDiff, Nat.reduceAdd, reduceCtorEq]
    exact finO_self ⟨hs2.trans' hs3, hc⟩
end Go.AM
