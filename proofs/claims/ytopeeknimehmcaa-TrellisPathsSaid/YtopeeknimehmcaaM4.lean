/- Bits and Int of numbers, the program's and the reference's. Conditions: as stated. -/
import Derived.Test.YtopeeknimehmcaaM0
import Derived.Test.YtopeeknimehmcaaL0
set_option linter.unusedVariables false
set_option linter.unusedSimpArgs false
namespace Go.AM
open Go Go.Proofs
attribute [local go_sem] c_skip c_ops c_seq c_ite c_blk c_exit c_ret t_normal t_exit t_ret b_normal b_exit b_ret i_nil i_cons s_guard s_mov s_pick s_new s_zero s_ld s_ldr s_st s_bin s_beq s_isnil s_eqs s_un s_conv s_fa s_fld s_ia s_sli s_ext s_ifc s_mkf s_agg s_len s_mm s_nilchk s_bsl s_mk s_app s_cpy s_call s_inv cells_agg cells_int cells_bool p_get p_none o_s o_c e_0 e_1 e_2 e_3 e_4 iteC_true iteC_false grd_tt grd_tf grd_ft grd_ff grd_und bindV_some pickV_t pickV_f beq_bool conv_int un_not not_dec mm_min mm_max bv_add bv_sub bv_mul bv_eql bv_neq bv_lss bv_leq bv_gtr bv_geq f_normal f_one f_two f_three f_none fa_ptr fld_one ext_tup len_sl len_nils decide_true decide_false not_true_eq_false not_false_eq_true List.map_cons List.map_nil List.append_nil List.cons_append List.nil_append Nat.zero_add Nat.add_zero Nat.mul_one Nat.succ_ne_self if_true if_false List.getElem?_cons_zero List.getElem?_cons_succ

/-- codewrightref01.Bits -/
def F68 : AF := ⟨27, [(2, none)], (.seq (.ops [⟨none, false, (some 2), (.mov (.c (.int .i64 (0))))⟩]) (.seq (.ops [⟨none, false, (some 5), (.mov (.s 0))⟩, ⟨none, false, (some 6), (.call (.c (.fn 58 [])) [(.s 5)])⟩, ⟨none, false, (some 0), (.mov (.s 6))⟩]) (.seq (.seq (.ops [⟨none, false, (some 7), (.mov (.s 0))⟩, ⟨none, false, (some 8), (.len (.s 7))⟩, ⟨none, false, (some 9), (.bin .eql (.s 8) (.c (.int .i64 (0))))⟩]) (.ite (.s 9) (.seq (.ops [⟨none, false, (some 2), (.mov (.c (.int .i64 (0))))⟩]) .ret) .skip)) (.seq (.ops [⟨none, false, (some 10), (.mov (.s 0))⟩, ⟨none, false, (some 11), (.len (.s 10))⟩, ⟨none, false, (some 12), (.bin .sub (.s 11) (.c (.int .i64 (1))))⟩, ⟨none, false, (some 13), (.bin .mul (.c (.int .i64 (32))) (.s 12))⟩, ⟨none, false, (some 3), (.mov (.s 13))⟩]) (.seq (.seq (.ops [⟨none, false, (some 14), (.mov (.s 0))⟩, ⟨none, false, (some 15), (.mov (.s 0))⟩, ⟨none, false, (some 16), (.len (.s 15))⟩, ⟨none, false, (some 17), (.bin .sub (.s 16) (.c (.int .i64 (1))))⟩, ⟨none, false, (some 18), (.ia 1 (.s 14) (.s 17))⟩, ⟨none, false, (some 19), (.ld false 1 (.s 18) none)⟩, ⟨none, false, (some 4), (.mov (.s 19))⟩]) (.blk 0 (.loop (.seq (.seq (.ops [⟨none, false, (some 20), (.mov (.s 4))⟩, ⟨none, false, (some 21), (.bin .gtr (.s 20) (.c (.int .u32 (0))))⟩]) (.ite (.s 21) .skip (.exit 0))) (.seq (.blk 1 (.ops [⟨none, false, (some 24), (.mov (.s 3))⟩, ⟨none, false, (some 25), (.bin .add (.s 24) (.c (.int .i64 (1))))⟩, ⟨none, false, (some 3), (.mov (.s 25))⟩])) (.ops [⟨none, false, (some 22), (.mov (.s 4))⟩, ⟨none, false, (some 23), (.bin .quo (.s 22) (.c (.int .u32 (2))))⟩, ⟨none, false, (some 4), (.mov (.s 23))⟩])))))) (.seq (.ops [⟨none, false, (some 26), (.mov (.s 3))⟩, ⟨none, false, (some 2), (.mov (.s 26))⟩]) .ret))))))⟩
theorem cv68 : cvF Try.prog 68 = some F68 := by kernel_rfl

/-- codewrightref01.Int -/
def F32 : AF := ⟨14, [(2, none), (3, none)], (.seq (.ops [⟨none, false, (some 2), (.mov (.c (.int .i64 (0))))⟩, ⟨none, false, (some 3), (.mov (.c (.bool false)))⟩]) (.seq (.seq (.ops [⟨none, false, (some 4), (.mov (.s 0))⟩, ⟨none, false, (some 5), (.call (.c (.fn 68 [])) [(.s 4)])⟩, ⟨none, false, (some 6), (.bin .gtr (.s 5) (.c (.int .i64 (63))))⟩]) (.ite (.s 6) (.seq (.ops [⟨none, false, (some 2), (.mov (.c (.int .i64 (0))))⟩, ⟨none, false, (some 3), (.mov (.c (.bool false)))⟩]) .ret) .skip)) (.seq (.ops [⟨none, false, (some 7), (.mov (.s 0))⟩, ⟨none, false, (some 8), (.call (.c (.fn 69 [])) [(.s 7), (.c (.int .i64 (0)))])⟩, ⟨none, false, (some 9), (.mov (.s 0))⟩, ⟨none, false, (some 10), (.call (.c (.fn 69 [])) [(.s 9), (.c (.int .i64 (1)))])⟩, ⟨none, false, (some 11), (.bin .mul (.s 10) (.c (.int .u64 (4294967296))))⟩, ⟨none, false, (some 12), (.bin .add (.s 8) (.s 11))⟩, ⟨none, false, (some 13), (.conv .i64 (.s 12))⟩, ⟨none, false, (some 2), (.mov (.s 13))⟩, ⟨none, false, (some 3), (.mov (.c (.bool true)))⟩]) .ret)))⟩
theorem cv32 : cvF Try.prog 32 = some F32 := by kernel_rfl

/-- nat.Bits -/
def F96 : AF := ⟨20, [(2, none)], (.seq (.ops [⟨none, false, (some 2), (.mov (.c (.int .i64 (0))))⟩]) (.seq (.ops [⟨none, false, (some 3), (.mov (.s 0))⟩, ⟨none, false, (some 4), (.call (.c (.fn 95 [])) [(.s 3)])⟩, ⟨none, false, (some 0), (.mov (.s 4))⟩]) (.seq (.seq (.ops [⟨none, false, (some 5), (.mov (.s 0))⟩, ⟨none, false, (some 6), (.len (.s 5))⟩, ⟨none, false, (some 7), (.bin .eql (.s 6) (.c (.int .i64 (0))))⟩]) (.ite (.s 7) (.seq (.ops [⟨none, false, (some 2), (.mov (.c (.int .i64 (0))))⟩]) .ret) .skip)) (.seq (.ops [⟨none, false, (some 8), (.mov (.s 0))⟩, ⟨none, false, (some 9), (.len (.s 8))⟩, ⟨none, false, (some 10), (.bin .sub (.s 9) (.c (.int .i64 (1))))⟩, ⟨none, false, (some 11), (.bin .mul (.c (.int .i64 (32))) (.s 10))⟩, ⟨none, false, (some 12), (.mov (.s 0))⟩, ⟨none, false, (some 13), (.mov (.s 0))⟩, ⟨none, false, (some 14), (.len (.s 13))⟩, ⟨none, false, (some 15), (.bin .sub (.s 14) (.c (.int .i64 (1))))⟩, ⟨none, false, (some 16), (.ia 1 (.s 12) (.s 15))⟩, ⟨none, false, (some 17), (.ld false 1 (.s 16) none)⟩, ⟨none, false, (some 18), (.call (.c (.fn 107 [])) [(.s 17)])⟩, ⟨none, false, (some 19), (.bin .add (.s 11) (.s 18))⟩, ⟨none, false, (some 2), (.mov (.s 19))⟩]) .ret))))⟩
theorem cv96 : cvF Try.prog 96 = some F96 := by kernel_rfl

/-- nat.Int -/
def F64 : AF := ⟨27, [(2, none), (3, none)], (.seq (.ops [⟨none, false, (some 2), (.mov (.c (.int .i64 (0))))⟩, ⟨none, false, (some 3), (.mov (.c (.bool false)))⟩]) (.seq (.ops [⟨none, false, (some 6), (.mov (.s 0))⟩, ⟨none, false, (some 7), (.call (.c (.fn 95 [])) [(.s 6)])⟩, ⟨none, false, (some 0), (.mov (.s 7))⟩]) (.seq (.seq (.ops [⟨none, false, (some 8), (.mov (.s 0))⟩, ⟨none, false, (some 9), (.call (.c (.fn 96 [])) [(.s 8)])⟩, ⟨none, false, (some 10), (.bin .gtr (.s 9) (.c (.int .i64 (63))))⟩]) (.ite (.s 10) (.seq (.ops [⟨none, false, (some 2), (.mov (.c (.int .i64 (0))))⟩, ⟨none, false, (some 3), (.mov (.c (.bool false)))⟩]) .ret) .skip)) (.seq (.ops [⟨none, false, (some 4), (.mov (.c (.int .i64 (0))))⟩]) (.seq (.seq (.ops [⟨none, false, (some 11), (.mov (.s 0))⟩, ⟨none, false, (some 12), (.len (.s 11))⟩, ⟨none, false, (some 13), (.bin .sub (.s 12) (.c (.int .i64 (1))))⟩, ⟨none, false, (some 5), (.mov (.s 13))⟩]) (.blk 0 (.loop (.seq (.seq (.ops [⟨none, false, (some 14), (.mov (.s 5))⟩, ⟨none, false, (some 15), (.bin .geq (.s 14) (.c (.int .i64 (0))))⟩]) (.ite (.s 15) .skip (.exit 0))) (.seq (.blk 1 (.ops [⟨none, false, (some 18), (.mov (.s 4))⟩, ⟨none, false, (some 19), (.bin .shl (.s 18) (.c (.int .u64 (32))))⟩, ⟨none, false, (some 20), (.mov (.s 0))⟩, ⟨none, false, (some 21), (.mov (.s 5))⟩, ⟨none, false, (some 22), (.ia 1 (.s 20) (.s 21))⟩, ⟨none, false, (some 23), (.ld false 1 (.s 22) none)⟩, ⟨none, false, (some 24), (.conv .i64 (.s 23))⟩, ⟨none, false, (some 25), (.bin .or (.s 19) (.s 24))⟩, ⟨none, false, (some 4), (.mov (.s 25))⟩])) (.ops [⟨none, false, (some 16), (.mov (.s 5))⟩, ⟨none, false, (some 17), (.bin .sub (.s 16) (.c (.int .i64 (1))))⟩, ⟨none, false, (some 5), (.mov (.s 17))⟩])))))) (.seq (.ops [⟨none, false, (some 26), (.mov (.s 4))⟩, ⟨none, false, (some 2), (.mov (.s 26))⟩, ⟨none, false, (some 3), (.mov (.c (.bool true)))⟩]) .ret))))))⟩
theorem cv64 : cvF Try.prog 64 = some F64 := by kernel_rfl


theorem pow2_le {a b : Nat} (h : a ≤ b) : (2 : Int) ^ a ≤ 2 ^ b := by exact_mod_cast Nat.pow_le_pow_right (by decide : 2 > 0) h
theorem pow_leI {B : Int} (hB : 1 ≤ B) {a b : Nat} (h : a ≤ b) : B ^ a ≤ B ^ b := by
  obtain ⟨d, rfl⟩ : ∃ d, b = a + d := ⟨b - a, by omega⟩
  rw [Int.pow_add]
  have h1 : 0 < B ^ a := Int.pow_pos (by omega)
  have h2 : 0 < B ^ d := Int.pow_pos (by omega)
  have := Int.mul_le_mul_of_nonneg_left (show 1 ≤ B ^ d by omega) (Int.le_of_lt h1)
  rw [Int.mul_one] at this
  exact this
theorem powB_le {a b : Nat} (h : a ≤ b) : (4294967296 : Int) ^ a ≤ 4294967296 ^ b := pow_leI (by decide) h
def IsBits (n : Int) (b : Nat) : Prop := n < 2 ^ b ∧ (n = 0 ∧ b = 0 ∨ 2 ^ b ≤ 2 * n)
theorem isBits_63 {n : Int} {b : Nat} (h : IsBits n b) : (63 : Int) < b ↔ 9223372036854775808 ≤ n := by
  obtain ⟨h1, h2⟩ := h
  constructor
  · intro hb
    have hb' : 64 ≤ b := by omega
    rcases h2 with ⟨_, h⟩ | h2
    · omega
    · have : (2 : Int) ^ 64 ≤ 2 ^ b := pow2_le hb'
      have e : (2 : Int) ^ 64 = 18446744073709551616 := by decide
      omega
  · intro hn
    apply Classical.byContradiction
    intro hb
    have hb' : b ≤ 63 := by omega
    have : (2 : Int) ^ b ≤ 2 ^ 63 := pow2_le hb'
    have e : (2 : Int) ^ 63 = 9223372036854775808 := by decide
    omega
theorem nval_lt {xs : List Int} (h : Limbs xs) : nval xs < 4294967296 ^ xs.length := by
  induction xs with
  | nil => simp [nval]
  | cons x r ih =>
    have h0 := h x (List.mem_cons_self ..)
    have := ih fun y hy => h y (List.mem_cons_of_mem _ hy)
    simp only [nval, List.length_cons, Int.pow_succ]
    omega
theorem isBits_of {xs : List Int} {m : Nat} {c : Nat} (h : Limbs xs) (hm : xs.length = m + 1) (h1 : xs[m] < 2 ^ c) (h2 : (2 : Int) ^ c ≤ 2 * xs[m]) : IsBits (nval xs) (32 * m + c) := by
  have e := nval_take_succ (l := xs) (k := m) (by omega)
  rw [List.take_of_length_le (by omega)] at e
  have ht : Limbs (xs.take m) := fun x hx => h x (List.mem_of_mem_take hx)
  have t0 := nval_nonneg ht
  have t1 := nval_lt ht
  have tl : (xs.take m).length = m := by rw [List.length_take]; omega
  rw [tl] at t1
  have p : (2 : Int) ^ (32 * m + c) = 4294967296 ^ m * 2 ^ c := by
    rw [Int.pow_add, Int.pow_mul]; rfl
  obtain ⟨P, hP⟩ : ∃ P : Int, P = 4294967296 ^ m := ⟨_, rfl⟩
  have hP0 : 0 < P := by rw [hP]; exact Int.pow_pos (by decide)
  unfold IsBits
  rw [p, e, ← hP]
  rw [← hP] at t1
  constructor
  · have := Int.mul_le_mul_of_nonneg_left (show xs[m] + 1 ≤ 2 ^ c by omega) (Int.le_of_lt hP0)
    rw [Int.mul_add, Int.mul_one] at this
    omega
  · right
    have := Int.mul_le_mul_of_nonneg_left h2 (Int.le_of_lt hP0)
    rw [← Int.mul_assoc, Int.mul_comm P 2, Int.mul_assoc] at this
    omega
theorem canon_last {xs : List Int} {m : Nat} (h : Limbs xs) (hc : Canon xs) (hm : xs.length = m + 1) : 0 < xs[m] := by
  have := hc xs[m] (by rw [List.getLast?_eq_getElem?, show xs.length - 1 = m by omega, List.getElem?_eq_getElem (by omega)])
  have := (h xs[m] (List.getElem_mem (by omega))).1
  omega

theorem bv_half {a : Int} (h : 0 ≤ a) (h1 : a < 4294967296) : binV .quo (.int .u32 a) (.int .u32 2) = some (.int .u32 (a / 2)) := by
  have : a.tdiv 2 = a / 2 := Int.tdiv_eq_ediv_of_nonneg h
  have w : IntKind.u32.wrap (a / 2) = a / 2 := by rw [wrap32]; omega
  simp [binV, this, w]
theorem rBits_spec {v : V} {n : Int} {L : Nat} {H : Heap} (hL : L ≤ 1099511627776) (hv : SNat H v n L) : ACalls Try.prog 68 [v] H fun u H' => (∃ b : Nat, u = .int .i64 b ∧ IsBits n b) ∧ Heap.sub H H' := by
  refine ACalls.of_body hm cv68 (by simp only [List.length_cons, List.length_nil]; decide) ?_
  simp only [F68, go_sem, ↓reduceIte, Nat.reduceEqDiff, Nat.reduceAdd, reduceCtorEq]
  refine callC_grow (rTrim_spec (by omega) hv) ?_
  rintro u H1 hs1 ⟨xs, hx, hl, hc, rfl, hxL⟩
  simp only [go_sem, ↓reduceIte, Nat.reduceEqDiff, Nat.reduceAdd, reduceCtorEq, hx.len]
  refine iteC_if (fun c => ?_) (fun c => ?_)
  · simp only [go_sem, ↓reduceIte, Nat.reduceEqDiff, Nat.reduceAdd, reduceCtorEq]
    have : xs = [] := List.length_eq_zero_iff.1 (by omega)
    subst this
    exact finO_self ⟨⟨0, rfl, by decide, .inl ⟨rfl, rfl⟩⟩, hs1⟩
  · obtain ⟨m, hm'⟩ : ∃ m, xs.length = m + 1 := ⟨xs.length - 1, by omega⟩
    have w1 : IntKind.i64.wrap ((xs.length : Int) - 1) = (m : Int) := by rw [wrapI (by omega) (by omega)]; omega
    have w2 : IntKind.i64.wrap ((32 : Int) * (m : Int)) = ((32 * m : Nat) : Int) := by rw [wrapI (by omega) (by omega)]; omega
    obtain ⟨p, a1, a2⟩ := hx.get (k := m) (by omega) .i64
    have hml : m < xs.length := by omega
    have tr := hl _ (List.getElem_mem hml)
    have tp := canon_last hl hc hm'
    obtain ⟨t, ht⟩ : ∃ t : Nat, xs[m] = t := ⟨xs[m].toNat, by omega⟩
    rw [ht] at tr tp a2
    simp only [go_sem, ↓reduceIte, Nat.reduceEqDiff, Nat.reduceAdd, reduceCtorEq, w1, w2, hx.len, a1, a2]
    refine loop_count 40 (fun k env H' => H1 = H' ∧ ∃ x : Nat, x = t / 2 ^ k ∧ env 4 = .int .u32 x ∧ env 3 = .int .i64 ((32 * m + k : Nat) : Int) ∧ (0 < k → 2 ^ k ≤ 2 * t)) ?_ ?_ ?_
    · simp only [go_sem, ↓reduceIte, Nat.reduceEqDiff, Nat.reduceAdd, reduceCtorEq]
      exact ⟨by trivial, t, by simp, rfl, by simp, fun h => by omega⟩
    · rintro k env H' hk ⟨rfl, x, hxe, h4, h3, hk2⟩
      simp only [go_sem, ↓reduceIte, Nat.reduceEqDiff, Nat.reduceAdd, reduceCtorEq, h3, h4]
      have hxt : x ≤ t := by rw [hxe]; exact Nat.div_le_self ..
      refine iteC_if (fun d => ?_) (fun d => ?_)
      · simp only [go_sem, ↓reduceIte, Nat.reduceEqDiff, Nat.reduceAdd, reduceCtorEq, h3, h4, bv_half (show (0 : Int) ≤ x by omega) (by omega)]
        rw [wrapN1 (by omega)]
        refine ⟨by trivial, x / 2, ?_, by congr 1, by trivial, fun _ => ?_⟩
        · rw [hxe, Nat.div_div_eq_div_mul, Nat.pow_succ]
        · have h1 : 1 ≤ t / 2 ^ k := by omega
          have := (Nat.le_div_iff_mul_le (Nat.pow_pos (by decide))).1 h1
          rw [Nat.pow_succ]; omega
      · simp only [go_sem, ↓reduceIte, Nat.reduceEqDiff, Nat.reduceAdd, reduceCtorEq, h3, h4]
        have hx0 : t / 2 ^ k = 0 := by omega
        have hlt : t < 2 ^ k := by
          rcases (Nat.div_eq_zero_iff).1 hx0 with h | h
          · exact absurd h (Nat.ne_of_gt (Nat.pow_pos (by decide)))
          · exact h
        have hk0 : 0 < k := by
          rcases Nat.eq_zero_or_pos k with h | h
          · subst h; simp at hlt; omega
          · exact h
        refine finO_self ⟨⟨32 * m + k, rfl, isBits_of hl hm' ?_ ?_⟩, hs1⟩
        · rw [ht]; exact_mod_cast hlt
        · rw [ht]; exact_mod_cast hk2 hk0
    · rintro env H' ⟨rfl, x, hxe, h4, h3, hk2⟩
      have := hk2 (by decide)
      omega

theorem rInt_spec {v : V} {n : Int} {L : Nat} {H : Heap} (hL : L ≤ 1099511627776) (hv : CNat H v n L) : ACalls Try.prog 32 [v] H fun u H' => u = .tup [.int .i64 (if n < 9223372036854775808 then n else 0), .bool (decide (n < 9223372036854775808))] ∧ Heap.sub H H' := by
  refine ACalls.of_body hm cv32 (by simp only [List.length_cons, List.length_nil]; decide) ?_
  simp only [F32, go_sem, ↓reduceIte, Nat.reduceEqDiff, Nat.reduceAdd, reduceCtorEq]
  refine callC_any (rBits_spec hL hv.nat) ?_
  rintro u H1 ⟨⟨b, rfl, hb⟩, hs1⟩
  have hb63 := isBits_63 hb
  obtain ⟨xs, hx, hl, hc, rfl, hxL⟩ := hv
  simp only [go_sem, ↓reduceIte, Nat.reduceEqDiff, Nat.reduceAdd, reduceCtorEq]
  refine iteC_if (fun c => ?_) (fun c => ?_)
  · simp only [go_sem, ↓reduceIte, Nat.reduceEqDiff, Nat.reduceAdd, reduceCtorEq]
    have hn : ¬ nval xs < 9223372036854775808 := by omega
    exact finO_self ⟨by simp [hn], hs1⟩
  · have hn : nval xs < 9223372036854775808 := by omega
    simp only [go_sem, ↓reduceIte, Nat.reduceEqDiff, Nat.reduceAdd, reduceCtorEq]
    refine callC_pure (limb_spec (i := 0) (hx.mono hs1) hl) ?_
    simp only [go_sem, ↓reduceIte, Nat.reduceEqDiff, Nat.reduceAdd, reduceCtorEq]
    refine callC_pure (limb_spec (i := 1) (hx.mono hs1) hl) ?_
    have hlen : xs.length ≤ 2 := by
      apply Classical.byContradiction
      intro h
      obtain ⟨m, hm'⟩ : ∃ m, xs.length = m + 1 := ⟨xs.length - 1, by omega⟩
      have tp := canon_last hl hc hm'
      have e := nval_take_succ (l := xs) (k := m) (by omega)
      rw [List.take_of_length_le (by omega)] at e
      have t0 := nval_nonneg (xs := xs.take m) fun x hx => hl x (List.mem_of_mem_take hx)
      have hp : (4294967296 : Int) ^ 2 ≤ 4294967296 ^ m := powB_le (by omega)
      have e2 : (4294967296 : Int) ^ 2 = 18446744073709551616 := by decide
      have := Int.mul_le_mul_of_nonneg_left (show 1 ≤ xs[m] by omega) (show (0 : Int) ≤ 4294967296 ^ m by omega)
      omega
    have r0 := limb_range hl 0
    have r1 := limb_range hl 1
    have hval : nval xs = xs[0]?.getD 0 + xs[1]?.getD 0 * 4294967296 := by
      match xs, hlen with
      | [], _ => rfl
      | [x], _ => simp [nval]
      | [x, y], _ => simp only [nval]; simp; omega
    have w1 : IntKind.u64.wrap (xs[1]?.getD 0 * 4294967296) = xs[1]?.getD 0 * 4294967296 := by rw [wrap64]; omega
    have w2 : IntKind.u64.wrap (xs[0]?.getD 0 + xs[1]?.getD 0 * 4294967296) = xs[0]?.getD 0 + xs[1]?.getD 0 * 4294967296 := by rw [wrap64]; omega
    have w3 : IntKind.i64.wrap (xs[0]?.getD 0 + xs[1]?.getD 0 * 4294967296) = xs[0]?.getD 0 + xs[1]?.getD 0 * 4294967296 := wrapI (by omega) (by omega)
    simp only [go_sem, ↓reduceIte, Nat.reduceEqDiff, Nat.reduceAdd, reduceCtorEq, w1, w2, w3]
    exact finO_self ⟨by rw [← hval]; simp [hn], hs1⟩

theorem nBits_spec {v : V} {n : Int} {L : Nat} {H : Heap} (hL : L ≤ 1099511627776) (hv : SNat H v n L) : ACalls Try.prog 96 [v] H fun u H' => (∃ b : Nat, u = .int .i64 b ∧ IsBits n b) ∧ H' = H := by
  refine ACalls.of_body hm cv96 (by simp only [List.length_cons, List.length_nil]; decide) ?_
  simp only [F96, go_sem, ↓reduceIte, Nat.reduceEqDiff, Nat.reduceAdd, reduceCtorEq]
  refine callC_any (short_spec hv) ?_
  rintro u H1 ⟨⟨xs, hx, hl, hc, rfl, hxL⟩, rfl⟩
  simp only [go_sem, ↓reduceIte, Nat.reduceEqDiff, Nat.reduceAdd, reduceCtorEq, hx.len]
  refine iteC_if (fun c => ?_) (fun c => ?_)
  · simp only [go_sem, ↓reduceIte, Nat.reduceEqDiff, Nat.reduceAdd, reduceCtorEq]
    have : xs = [] := List.length_eq_zero_iff.1 (by omega)
    subst this
    exact finO_self ⟨⟨0, rfl, by decide, .inl ⟨rfl, rfl⟩⟩, rfl⟩
  · obtain ⟨m, hm'⟩ : ∃ m, xs.length = m + 1 := ⟨xs.length - 1, by omega⟩
    have w1 : IntKind.i64.wrap ((xs.length : Int) - 1) = (m : Int) := by rw [wrapI (by omega) (by omega)]; omega
    have w2 : IntKind.i64.wrap ((32 : Int) * (m : Int)) = ((32 * m : Nat) : Int) := by rw [wrapI (by omega) (by omega)]; omega
    obtain ⟨p, a1, a2⟩ := hx.get (k := m) (by omega) .i64
    have hml : m < xs.length := by omega
    have tr := hl _ (List.getElem_mem hml)
    have tp := canon_last hl hc hm'
    simp only [go_sem, ↓reduceIte, Nat.reduceEqDiff, Nat.reduceAdd, reduceCtorEq, w1, w2, hx.len, a1, a2]
    refine callC_pure (Len32_spec (by omega) (by omega) _) ?_
    obtain ⟨b1, b2⟩ := bitLen_bounds (x := xs[m].toNat) (by omega)
    have b2' := b2 (by omega)
    have hle : Lib.bitLen xs[m].toNat ≤ 40 := by
      apply Classical.byContradiction
      intro h
      have : 2 ^ 41 ≤ 2 ^ Lib.bitLen xs[m].toNat := Nat.pow_le_pow_right (by decide) (by omega)
      omega
    have w3 : IntKind.i64.wrap (((32 * m : Nat) : Int) + (Lib.bitLen xs[m].toNat : Nat)) = ((32 * m + Lib.bitLen xs[m].toNat : Nat) : Int) := by rw [wrapI (by omega) (by omega)]; omega
    simp only [go_sem, ↓reduceIte, Nat.reduceEqDiff, Nat.reduceAdd, reduceCtorEq, w3]
    have et : ((xs[m].toNat : Nat) : Int) = xs[m] := by omega
    refine finO_self ⟨⟨_, rfl, isBits_of hl hm' ?_ ?_⟩, rfl⟩
    · rw [← et]; exact_mod_cast b1
    · rw [← et]; exact_mod_cast b2'

theorem bv_shl32 (a : Int) : binV .shl (.int .i64 a) (.int .u64 32) = some (.int .i64 (IntKind.i64.wrap (a * 4294967296))) := by
  simp [binV, IntKind.bits]
theorem bv_or32 {y x : Int} (y0 : 0 ≤ y) (y1 : y < 2147483648) (x0 : 0 ≤ x) (x1 : x < 4294967296) : binV .or (.int .i64 (y * 4294967296)) (.int .i64 x) = some (.int .i64 (x + 4294967296 * y)) := by
  have e : (BitVec.ofInt 64 (y * 4294967296) ||| BitVec.ofInt 64 x).toNat = (x + 4294967296 * y).toNat := by
    rw [BitVec.toNat_or, BitVec.toNat_ofInt, BitVec.toNat_ofInt]
    have e1 : (y * 4294967296 % ((2 ^ 64 : Nat) : Int)).toNat = 2 ^ 32 * y.toNat := by omega
    have e2 : (x % ((2 ^ 64 : Nat) : Int)).toNat = x.toNat := by omega
    rw [e1, e2, ← Nat.two_pow_add_eq_or_of_lt (by omega)]
    omega
  have e2 : binV .or (.int .i64 (y * 4294967296)) (.int .i64 x) = some (.int .i64 (IntKind.i64.wrap ((BitVec.ofInt 64 (y * 4294967296) ||| BitVec.ofInt 64 x).toNat : Int))) := Eq.trans rfl rfl
  rw [e2, e, wrapI (by omega) (by omega)]
  congr 2; omega
theorem nval_drop {xs : List Int} {i : Nat} (h : i < xs.length) : nval (xs.drop i) = xs[i] + 4294967296 * nval (xs.drop (i+1)) := by
  rw [List.drop_eq_getElem_cons h]; rfl
theorem nval_drop_le {xs : List Int} (hl : Limbs xs) (i : Nat) : 4294967296 ^ i * nval (xs.drop i) ≤ nval xs := by
  have := nval_append (xs.take i) (xs.drop i)
  rw [List.take_append_drop] at this
  have t0 := nval_nonneg (xs := xs.take i) fun x hx => hl x (List.mem_of_mem_take hx)
  by_cases h : i ≤ xs.length
  · have e : (xs.take i).length = i := by rw [List.length_take]; omega
    rw [e] at this
    omega
  · rw [List.drop_eq_nil_of_le (by omega)]
    have := nval_nonneg hl
    simp [nval]; exact this

theorem nInt_spec {v : V} {n : Int} {L : Nat} {H : Heap} (hL : L ≤ 1099511627776) (hv : SNat H v n L) : ACalls Try.prog 64 [v] H fun u H' => u = .tup [.int .i64 (if n < 9223372036854775808 then n else 0), .bool (decide (n < 9223372036854775808))] ∧ H' = H := by
  refine ACalls.of_body hm cv64 (by simp only [List.length_cons, List.length_nil]; decide) ?_
  simp only [F64, go_sem, ↓reduceIte, Nat.reduceEqDiff, Nat.reduceAdd, reduceCtorEq]
  refine callC_any (short_spec hv) ?_
  rintro u H1 ⟨hcn, rfl⟩
  simp only [go_sem, ↓reduceIte, Nat.reduceEqDiff, Nat.reduceAdd, reduceCtorEq]
  refine callC_any (nBits_spec hL hcn.nat) ?_
  obtain ⟨xs, hx, hl, hc, rfl, hxL⟩ := hcn
  rintro u' H2 ⟨⟨b, rfl, hb⟩, rfl⟩
  have hb63 := isBits_63 hb
  have hlt := hx.lt
  simp only [go_sem, ↓reduceIte, Nat.reduceEqDiff, Nat.reduceAdd, reduceCtorEq]
  refine iteC_if (fun c => ?_) (fun c => ?_)
  · simp only [go_sem, ↓reduceIte, Nat.reduceEqDiff, Nat.reduceAdd, reduceCtorEq]
    have hn : ¬ nval xs < 9223372036854775808 := by omega
    exact finO_self ⟨by simp [hn], rfl⟩
  · have hn : nval xs < 9223372036854775808 := by omega
    simp only [go_sem, ↓reduceIte, Nat.reduceEqDiff, Nat.reduceAdd, reduceCtorEq, hx.len]
    rw [wrapI (by omega) (by omega)]
    refine loop_count xs.length (fun k env H' => H2 = H' ∧ env 0 = u ∧ env 4 = .int .i64 (nval (xs.drop (xs.length - k))) ∧ env 5 = .int .i64 ((xs.length : Int) - 1 - k)) ?_ ?_ ?_
    · simp only [go_sem, ↓reduceIte, Nat.reduceEqDiff, Nat.reduceAdd, reduceCtorEq]
      exact ⟨by trivial, by trivial, by simp [nval], by simp⟩
    · rintro k env H' hk ⟨rfl, h0, h4, h5⟩
      obtain ⟨i, hi⟩ : ∃ i, xs.length = i + (k + 1) := ⟨xs.length - (k+1), by omega⟩
      have e10 : (xs.length : Int) - 1 - k = (i : Int) := by omega
      have e11 : xs.length - k = i + 1 := by omega
      have e12 : xs.length - (k + 1) = i := by omega
      rw [e10] at h5
      rw [e11] at h4
      have hil : i < xs.length := by omega
      obtain ⟨p, a1, a2⟩ := hx.get hil .i64
      have xr := hl _ (List.getElem_mem hil)
      have hge : (0 : Int) ≤ (i : Int) := by omega
      have d0 := nval_nonneg (xs := xs.drop (i+1)) fun x hx => hl x (List.mem_of_mem_drop hx)
      have d1 := nval_drop_le hl 1
      have dd := nval_drop_le (xs := xs) hl (i+1)
      have dd2 : 4294967296 * nval (xs.drop (i+1)) ≤ 4294967296 ^ (i+1) * nval (xs.drop (i+1)) := by
        apply Int.mul_le_mul_of_nonneg_right _ d0
        rw [Int.pow_succ]
        have : (0 : Int) < 4294967296 ^ i := Int.pow_pos (by decide)
        omega
      have hd : nval (xs.drop (i+1)) < 2147483648 := by omega
      have w1 : IntKind.i64.wrap (nval (xs.drop (i+1)) * 4294967296) = nval (xs.drop (i+1)) * 4294967296 := wrapI (by omega) (by omega)
      have w2 : IntKind.i64.wrap xs[i] = xs[i] := wrapI (by omega) (by omega)
      simp only [go_sem, ↓reduceIte, Nat.reduceEqDiff, Nat.reduceAdd, reduceCtorEq, h0, h4, h5, hge, a1, a2, bv_shl32, w1, w2, bv_or32 d0 hd xr.1 xr.2]
      rw [wrapI (by omega) (by omega)]
      refine ⟨by trivial, by trivial, by rw [e12, nval_drop hil], ?_⟩
      congr 1; omega
    · rintro env H' ⟨rfl, h0, h4, h5⟩
      have e10 : (xs.length : Int) - 1 - xs.length = -1 := by omega
      rw [e10] at h5
      rw [Nat.sub_self, List.drop_zero] at h4
      have hneg : ¬ (0 : Int) ≤ -1 := by decide
      simp only [go_sem, ↓reduceIte, Nat.reduceEqDiff, Nat.reduceAdd, reduceCtorEq, h0, h4, h5, hneg]
      exact finO_self ⟨by simp [hn], rfl⟩
end Go.AM
