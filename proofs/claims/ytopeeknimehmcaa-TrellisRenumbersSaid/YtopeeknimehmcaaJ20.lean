/- Polynomials with natural coefficients (plain words), and rows of numbers in the heap. Conditions: as stated. -/
import Derived.Test.YtopeeknimehmcaaJ19
set_option linter.unusedVariables false
set_option linter.unusedSimpArgs false
namespace Go.AM
open Go Go.Proofs

/-- behind the last place below n where F is not 0 -/
def degF (F : Nat → Int) : Nat → Nat
  | 0 => 0
  | k+1 => if F k ≠ 0 then k+1 else degF F k
theorem degF_le (F : Nat → Int) : ∀ n, degF F n ≤ n
  | 0 => Nat.le_refl _
  | k+1 => by
    have := degF_le F k
    unfold degF
    split <;> omega
theorem degF_last (F : Nat → Int) : ∀ n, 0 < degF F n → F (degF F n - 1) ≠ 0
  | 0, h => by simp [degF] at h
  | k+1, h => by
    unfold degF at h ⊢
    split
    · rename_i c; simpa using c
    · rename_i c
      rw [if_neg c] at h
      exact degF_last F k h
theorem degF_top {F : Nat → Int} {m : Nat} (h : 0 < m → F (m - 1) ≠ 0) : degF F m = m := by
  cases m with
  | zero => rfl
  | succ k =>
    have h' : F k ≠ 0 := h (by omega)
    unfold degF
    rw [if_pos h']
theorem degF_congr {F G : Nat → Int} : ∀ n, (∀ i, i < n → F i = G i) → degF F n = degF G n
  | 0, _ => rfl
  | k+1, h => by
    unfold degF
    rw [h k (by omega), degF_congr k fun i hi => h i (by omega)]
/-- the polynomial with these coefficients below n -/
def toT (F : Nat → Int) (n : Nat) : List Int := (List.range (degF F n)).map F
def cf (p : List Int) (i : Nat) : Int := p[i]?.getD 0
def trimP (p : List Int) : List Int := toT (cf p) p.length
theorem toT_len (F : Nat → Int) (n : Nat) : (toT F n).length = degF F n := by simp [toT]
theorem toT_cf {F : Nat → Int} {n i : Nat} (h : i < degF F n) : cf (toT F n) i = F i := by simp [cf, toT, h]
theorem toT_congr {F G : Nat → Int} {n : Nat} (h : ∀ i, i < n → F i = G i) : toT F n = toT G n := by
  have h1 := degF_congr n h
  have h2 := degF_le F n
  unfold toT
  rw [← h1]
  apply List.map_congr_left
  intro i hi
  have := List.mem_range.1 hi
  exact h i (by omega)
theorem trimP_take (p : List Int) : trimP p = p.take (degF (cf p) p.length) := by
  have h := degF_le (cf p) p.length
  apply List.ext_getElem?
  intro i
  rw [trimP, toT, List.getElem?_take]
  by_cases c : i < degF (cf p) p.length
  · simp [c, cf, show i < p.length by omega]
  · simp [c]
theorem trimP_toT (F : Nat → Int) (n : Nat) : trimP (toT F n) = toT F n := by
  have h1 : degF (cf (toT F n)) (degF F n) = degF F n := degF_top fun h => by
    rw [toT_cf (by omega)]; exact degF_last F n h
  unfold trimP
  rw [toT_len]
  apply List.ext_getElem?
  intro i
  rw [toT, h1]
  by_cases c : i < degF F n
  · simp [toT, c, cf]
  · simp [toT, c]
theorem toT_drop {F : Nat → Int} {n : Nat} (h : F n = 0) : toT F (n+1) = toT F n := by
  have : degF F (n+1) = degF F n := by
    conv => lhs; unfold degF
    rw [if_neg (by simpa using h)]
  rw [toT, this, toT]
def pAdd (p q : List Int) : List Int := toT (fun i => cf p i + cf q i) (max p.length q.length)
/-- the products behind j places of q in the row i -/
def rowM (p q : List Int) (i : Nat) (F : Nat → Int) : Nat → Nat → Int
  | 0 => F
  | j+1 => fun k => if k = i + j then rowM p q i F j k + cf p i * cf q j else rowM p q i F j k
def mulF (p q : List Int) : Nat → Nat → Int
  | 0 => fun _ => 0
  | i+1 => rowM p q i (mulF p q i) q.length
def pMul (p q : List Int) : List Int := toT (mulF p q p.length) (p.length + q.length)
theorem rowM_far (p q : List Int) (i : Nat) (F : Nat → Int) : ∀ j k, i + j ≤ k → rowM p q i F j k = F k
  | 0, _, _ => rfl
  | j+1, k, h => by
    simp only [rowM]
    rw [if_neg (by omega), rowM_far p q i F j k (by omega)]
theorem mulF_far (p q : List Int) (hq : 0 < q.length) : ∀ i k, i + q.length ≤ k + 1 → mulF p q i k = 0
  | 0, _, _ => rfl
  | i+1, k, h => by
    simp only [mulF]
    rw [rowM_far _ _ _ _ _ _ (by omega), mulF_far p q hq i k (by omega)]
theorem pMul_short {p q : List Int} (hq : 0 < q.length) : toT (mulF p q p.length) (p.length + q.length - 1) = pMul p q := by
  obtain ⟨n, hn⟩ : ∃ n, p.length + q.length = n + 1 := ⟨p.length + q.length - 1, by omega⟩
  rw [pMul, hn, toT_drop (mulF_far p q hq _ _ (by omega))]
  rfl
theorem pMul_len {p q : List Int} (hq : 0 < q.length) : (pMul p q).length ≤ p.length + q.length - 1 := by
  rw [← pMul_short hq, toT_len]; exact degF_le _ _
theorem pAdd_len (p q : List Int) : (pAdd p q).length ≤ max p.length q.length := by rw [pAdd, toT_len]; exact degF_le _ _

/-- the values of the edges -/
def MonoQ (q : List Int) : Prop := q = [1] ∨ q = [0, 1]
theorem MonoQ.len {q : List Int} (h : MonoQ q) : 0 < q.length ∧ q.length ≤ 2 := by rcases h with rfl | rfl <;> simp
theorem MonoQ.trim {q : List Int} (h : MonoQ q) : trimP q = q := by rcases h with rfl | rfl <;> decide
theorem MonoQ.cf {q : List Int} (h : MonoQ q) (j : Nat) : Go.AM.cf q j = 0 ∨ Go.AM.cf q j = 1 := by
  rcases h with rfl | rfl
  · match j with
    | 0 => exact .inr rfl
    | j+1 => exact .inl rfl
  · match j with
    | 0 => exact .inl rfl
    | 1 => exact .inr rfl
    | j+2 => exact .inl rfl
/-- on the way, each place holds a coefficient of p, or 0 -/
theorem mulF_bound {p q : List Int} {B : Int} (hB : 0 < B) (hq : MonoQ q) (hp : ∀ i, 0 ≤ cf p i ∧ cf p i < B) : ∀ i j k, j ≤ q.length → 0 ≤ rowM p q i (mulF p q i) j k ∧ rowM p q i (mulF p q i) j k < B := by
  have h1 : q = [1] → ∀ i k, mulF p q i k = if k < i then cf p k else 0 := by
    rintro rfl i
    induction i with
    | zero => intro k; rfl
    | succ i ih =>
      intro k
      show rowM p [1] i (mulF p [1] i) 1 k = _
      simp only [rowM, Nat.add_zero]
      rw [ih k]
      by_cases c : k = i
      · subst c
        simp [Go.AM.cf]
      · rw [if_neg c]
        by_cases d : k < i
        · simp [d, show k < i + 1 by omega]
        · simp [d, show ¬ k < i + 1 by omega]
  have h2 : q = [0, 1] → ∀ i k, mulF p q i k = if 1 ≤ k ∧ k ≤ i then cf p (k-1) else 0 := by
    rintro rfl i
    induction i with
    | zero => intro k; simp only [mulF]; rw [if_neg (by omega)]
    | succ i ih =>
      intro k
      show rowM p [0, 1] i (mulF p [0, 1] i) 2 k = _
      simp only [rowM, Nat.add_zero]
      rw [ih k]
      have e0 : Go.AM.cf [0, 1] 0 = 0 := rfl
      have e1 : Go.AM.cf [0, 1] 1 = 1 := rfl
      rw [e0, e1]
      by_cases c : k = i + 1
      · subst c
        have t1 : ¬ (i + 1 = i) := by omega
        have t2 : ¬ (i + 1 ≤ i) := by omega
        simp [t1, t2]
      · rw [if_neg c]
        by_cases d : k = i
        · subst d
          simp only [if_true, Int.mul_zero, Int.add_zero]
          by_cases e : 1 ≤ k
          · rw [if_pos ⟨e, by omega⟩, if_pos ⟨e, by omega⟩]
          · rw [if_neg (by omega), if_neg (by omega)]
        · rw [if_neg d]
          by_cases e : 1 ≤ k ∧ k ≤ i
          · rw [if_pos e, if_pos ⟨e.1, by omega⟩]
          · rw [if_neg e, if_neg (by omega)]
  have hm : ∀ i k, 0 ≤ mulF p q i k ∧ mulF p q i k < B := by
    intro i k
    rcases hq with hq | hq
    · rw [h1 hq]; split
      · exact hp k
      · exact ⟨Int.le_refl _, hB⟩
    · rw [h2 hq]; split
      · exact hp (k-1)
      · exact ⟨Int.le_refl _, hB⟩
  intro i j k hj
  rcases hq with hq | hq
  · subst hq
    match j, hj with
    | 0, _ => exact hm i k
    | 1, _ => exact hm (i+1) k
  · subst hq
    match j, hj with
    | 0, _ => exact hm i k
    | 1, _ =>
      simp only [rowM, Nat.add_zero]
      have e0 : Go.AM.cf [0, 1] 0 = 0 := rfl
      rw [e0, Int.mul_zero, Int.add_zero]
      split <;> exact hm i k
    | 2, _ => exact hm (i+1) k

theorem nval_ltB {xs : List Int} (h : Limbs xs) : nval xs < 4294967296 ^ xs.length := by
  induction xs with
  | nil => simp [nval]
  | cons x r ih =>
    have h0 := h x (List.mem_cons_self ..)
    have := ih fun y hy => h y (List.mem_cons_of_mem _ hy)
    simp only [nval, List.length_cons, Int.pow_succ]
    omega
theorem powB_leE {a b : Nat} (h : a ≤ b) : (4294967296 : Int) ^ a ≤ 4294967296 ^ b := by
  obtain ⟨d, rfl⟩ : ∃ d, b = a + d := ⟨b - a, by omega⟩
  rw [Int.pow_add]
  have h1 : (0 : Int) < 4294967296 ^ a := Int.pow_pos (by decide)
  have h2 : (0 : Int) < 4294967296 ^ d := Int.pow_pos (by decide)
  have := Int.mul_le_mul_of_nonneg_left (show 1 ≤ (4294967296 : Int) ^ d by omega) (Int.le_of_lt h1)
  rw [Int.mul_one] at this
  exact this
theorem CNat.range {H : Heap} {v : V} {n : Int} {L : Nat} (h : CNat H v n L) : 0 ≤ n ∧ n < 4294967296 ^ L := by
  obtain ⟨xs, _, hl, _, rfl, hx⟩ := h
  refine ⟨nval_nonneg hl, ?_⟩
  have := nval_ltB hl
  have h2 := powB_leE hx
  omega
theorem CNat.tight {H : Heap} {v : V} {n : Int} {L L' : Nat} (h : CNat H v n L') (hn : n < 4294967296 ^ L) : CNat H v n L := by
  obtain ⟨xs, a, hl, hc, rfl, hx⟩ := h
  refine ⟨xs, a, hl, hc, rfl, ?_⟩
  apply Classical.byContradiction
  intro hlt
  obtain ⟨m, hm'⟩ : ∃ m, xs.length = m + 1 := ⟨xs.length - 1, by omega⟩
  have e := nval_take_succ (l := xs) (k := m) (by omega)
  rw [List.take_of_length_le (by omega)] at e
  have t0 := nval_nonneg (xs := xs.take m) fun x hx => hl x (List.mem_of_mem_take hx)
  have tp : 0 < xs[m] := by
    have := hc xs[m] (by rw [List.getLast?_eq_getElem?, show xs.length - 1 = m by omega, List.getElem?_eq_getElem (by omega)])
    have := (hl xs[m] (List.getElem_mem (by omega))).1
    omega
  have hp := powB_leE (show L ≤ m by omega)
  have h1 : (0 : Int) < 4294967296 ^ m := Int.pow_pos (by decide)
  have := Int.mul_le_mul_of_nonneg_left (show 1 ≤ xs[m] by omega) (Int.le_of_lt h1)
  omega
end Go.AM

set_option linter.unusedVariables false
set_option linter.unusedSimpArgs false
namespace Go.AM
open Go Go.Proofs
attribute [local go_sem] c_skip c_ops c_seq c_ite c_blk c_exit c_ret t_normal t_exit t_ret b_normal b_exit b_ret i_nil i_cons s_guard s_mov s_pick s_new s_zero s_ld s_ldr s_st s_bin s_beq s_isnil s_eqs s_un s_conv s_fa s_fld s_ia s_sli s_ext s_ifc s_mkf s_agg s_len s_mm s_nilchk s_bsl s_mk s_app s_cpy s_call s_inv cells_agg cells_int cells_bool p_get p_none o_s o_c e_0 e_1 e_2 e_3 e_4 iteC_true iteC_false grd_tt grd_tf grd_ft grd_ff grd_und bindV_some pickV_t pickV_f beq_bool conv_int un_not not_dec mm_min mm_max bv_add bv_sub bv_mul bv_eql bv_neq bv_lss bv_leq bv_gtr bv_geq f_normal f_one f_two f_three f_none fa_ptr fld_one ext_tup len_sl len_nils decide_true decide_false not_true_eq_false not_false_eq_true List.map_cons List.map_nil List.append_nil List.cons_append List.nil_append Nat.zero_add Nat.add_zero Nat.mul_one Nat.succ_ne_self if_true if_false List.getElem?_cons_zero List.getElem?_cons_succ

/-- semiring.enumerator -/
def F157 : AF := ⟨35, [(2, none)], (.seq (.ops [⟨none, false, (some 2), (.mov (.c .nils))⟩]) (.seq (.ops [⟨none, false, (some 7), (.mov (.s 0))⟩, ⟨none, false, (some 8), (.len (.s 7))⟩, ⟨none, false, (some 9), (.mk 1 24 [.nils] (.s 8) (.s 8))⟩, ⟨none, false, (some 3), (.mov (.s 9))⟩]) (.seq (.ops [⟨none, false, (some 4), (.mov (.c (.int .i64 (0))))⟩]) (.seq (.seq (.ops [⟨none, false, (some 10), (.mov (.s 0))⟩, ⟨none, false, (some 11), (.len (.s 10))⟩, ⟨none, false, (some 12), (.mov (.c (.int .i64 (0))))⟩]) (.blk 0 (.loop (.seq (.ops [⟨none, false, (some 13), (.bin .lss (.s 12) (.s 11))⟩]) (.seq (.ite (.s 13) .skip (.exit 0)) (.seq (.blk 1 (.seq (.ops [⟨none, false, (some 14), (.mov (.s 12))⟩, ⟨none, false, (some 15), (.ia 1 (.s 10) (.s 12))⟩, ⟨none, false, (some 16), (.ld false 1 (.s 15) none)⟩, ⟨none, false, (some 5), (.mov (.s 14))⟩, ⟨none, false, (some 6), (.mov (.s 16))⟩]) (.seq (.ops [⟨none, false, (some 17), (.mov (.s 3))⟩, ⟨none, false, (some 18), (.mov (.s 5))⟩, ⟨none, false, (some 19), (.mov (.s 6))⟩, ⟨none, false, (some 20), (.call (.c (.fn 84 [])) [(.s 19)])⟩, ⟨none, false, (some 21), (.ia 1 (.s 17) (.s 18))⟩, ⟨none, false, none, (.st 1 (.s 21) (.s 20) [])⟩]) (.seq (.ops [⟨none, false, (some 22), (.mov (.s 3))⟩, ⟨none, false, (some 23), (.mov (.s 5))⟩, ⟨none, false, (some 24), (.ia 1 (.s 22) (.s 23))⟩, ⟨none, false, (some 25), (.ld false 1 (.s 24) none)⟩, ⟨none, false, (some 26), (.len (.s 25))⟩, ⟨none, false, (some 27), (.bin .gtr (.s 26) (.c (.int .i64 (0))))⟩]) (.ite (.s 27) (.ops [⟨none, false, (some 28), (.mov (.s 5))⟩, ⟨none, false, (some 29), (.bin .add (.s 28) (.c (.int .i64 (1))))⟩, ⟨none, false, (some 4), (.mov (.s 29))⟩]) .skip))))) (.ops [⟨none, false, (some 30), (.bin .add (.s 12) (.c (.int .i64 (1))))⟩, ⟨none, false, (some 12), (.mov (.s 30))⟩]))))))) (.seq (.ops [⟨none, false, (some 31), (.mov (.s 3))⟩, ⟨none, false, (some 32), (.mov (.s 4))⟩, ⟨none, false, (some 33), (.mov (.s 4))⟩, ⟨none, false, (some 34), (.sli 1 (.s 31) none (some (.s 32)) (some (.s 33)))⟩, ⟨none, false, (some 2), (.mov (.s 34))⟩]) .ret)))))⟩
theorem cv157 : cvF Try.prog 157 = some F157 := by kernel_rfl

/-- (semiring.Enumerators).Zero -/
def F155 : AF := ⟨4, [(2, none)], (.seq (.ops [⟨none, false, (some 1), (.new (.s 0))⟩, ⟨none, false, (some 2), (.mov (.c .nils))⟩]) (.seq (.ops [⟨none, false, (some 3), (.bsl 1 0 [] [])⟩, ⟨none, false, (some 2), (.mov (.s 3))⟩]) .ret))⟩
theorem cv155 : cvF Try.prog 155 = some F155 := by kernel_rfl

/-- (semiring.Enumerators).One -/
def F54 : AF := ⟨5, [(2, none)], (.seq (.ops [⟨none, false, (some 1), (.new (.s 0))⟩, ⟨none, false, (some 2), (.mov (.c .nils))⟩]) (.seq (.ops [⟨none, false, (some 3), (.call (.c (.fn 50 [])) [(.c (.int .u64 (1)))])⟩, ⟨none, false, (some 4), (.bsl 1 1 [.nils] [(0, (1, (.s 3)))])⟩, ⟨none, false, (some 2), (.mov (.s 4))⟩]) .ret))⟩
theorem cv54 : cvF Try.prog 54 = some F54 := by kernel_rfl

/-- (semiring.Enumerators).Add -/
def F153 : AF := ⟨57, [(6, none)], (.seq (.ops [⟨none, false, (some 3), (.new (.s 0))⟩, ⟨none, false, (some 6), (.mov (.c .nils))⟩]) (.seq (.ops [⟨none, false, (some 9), (.mov (.s 1))⟩, ⟨none, false, (some 10), (.len (.s 9))⟩, ⟨none, false, (some 11), (.mov (.s 2))⟩, ⟨none, false, (some 12), (.len (.s 11))⟩, ⟨none, false, (some 13), (.mm true (.s 10) (.s 12))⟩, ⟨none, false, (some 14), (.mk 1 24 [.nils] (.s 13) (.s 13))⟩, ⟨none, false, (some 7), (.mov (.s 14))⟩]) (.seq (.seq (.ops [⟨none, false, (some 15), (.mov (.s 7))⟩, ⟨none, false, (some 16), (.len (.s 15))⟩, ⟨none, false, (some 17), (.mov (.c (.int .i64 (0))))⟩]) (.blk 0 (.loop (.seq (.ops [⟨none, false, (some 18), (.bin .lss (.s 17) (.s 16))⟩]) (.seq (.ite (.s 18) .skip (.exit 0)) (.seq (.blk 1 (.seq (.ops [⟨none, false, (some 19), (.mov (.s 17))⟩, ⟨none, false, (some 8), (.mov (.s 19))⟩]) (.seq (.seq (.ops [⟨none, false, (some 20), (.mov (.s 8))⟩, ⟨none, false, (some 21), (.mov (.s 1))⟩, ⟨none, false, (some 22), (.len (.s 21))⟩, ⟨none, false, (some 23), (.bin .lss (.s 20) (.s 22))⟩]) (.ite (.s 23) (.ops [⟨none, false, (some 24), (.mov (.s 7))⟩, ⟨none, false, (some 25), (.mov (.s 8))⟩, ⟨none, false, (some 26), (.mov (.s 7))⟩, ⟨none, false, (some 27), (.mov (.s 8))⟩, ⟨none, false, (some 28), (.ia 1 (.s 26) (.s 27))⟩, ⟨none, false, (some 30), (.mov (.s 1))⟩, ⟨none, false, (some 31), (.mov (.s 8))⟩, ⟨none, false, (some 32), (.ia 1 (.s 30) (.s 31))⟩, ⟨none, false, (some 29), (.ld false 1 (.s 28) none)⟩, ⟨none, false, (some 33), (.ld false 1 (.s 32) none)⟩, ⟨none, false, (some 34), (.bsl 1 2 [.nils, .nils] [(0, (1, (.s 29))), (1, (1, (.s 33)))])⟩, ⟨none, false, (some 35), (.call (.c (.fn 156 [])) [(.s 34)])⟩, ⟨none, false, (some 36), (.ia 1 (.s 24) (.s 25))⟩, ⟨none, false, none, (.st 1 (.s 36) (.s 35) [])⟩]) .skip)) (.seq (.ops [⟨none, false, (some 37), (.mov (.s 8))⟩, ⟨none, false, (some 38), (.mov (.s 2))⟩, ⟨none, false, (some 39), (.len (.s 38))⟩, ⟨none, false, (some 40), (.bin .lss (.s 37) (.s 39))⟩]) (.ite (.s 40) (.ops [⟨none, false, (some 41), (.mov (.s 7))⟩, ⟨none, false, (some 42), (.mov (.s 8))⟩, ⟨none, false, (some 43), (.mov (.s 7))⟩, ⟨none, false, (some 44), (.mov (.s 8))⟩, ⟨none, false, (some 45), (.ia 1 (.s 43) (.s 44))⟩, ⟨none, false, (some 47), (.mov (.s 2))⟩, ⟨none, false, (some 48), (.mov (.s 8))⟩, ⟨none, false, (some 49), (.ia 1 (.s 47) (.s 48))⟩, ⟨none, false, (some 46), (.ld false 1 (.s 45) none)⟩, ⟨none, false, (some 50), (.ld false 1 (.s 49) none)⟩, ⟨none, false, (some 51), (.bsl 1 2 [.nils, .nils] [(0, (1, (.s 46))), (1, (1, (.s 50)))])⟩, ⟨none, false, (some 52), (.call (.c (.fn 156 [])) [(.s 51)])⟩, ⟨none, false, (some 53), (.ia 1 (.s 41) (.s 42))⟩, ⟨none, false, none, (.st 1 (.s 53) (.s 52) [])⟩]) .skip))))) (.ops [⟨none, false, (some 54), (.bin .add (.s 17) (.c (.int .i64 (1))))⟩, ⟨none, false, (some 17), (.mov (.s 54))⟩]))))))) (.seq (.ops [⟨none, false, (some 55), (.mov (.s 7))⟩, ⟨none, false, (some 56), (.call (.c (.fn 157 [])) [(.s 55)])⟩, ⟨none, false, (some 6), (.mov (.s 56))⟩]) .ret))))⟩
theorem cv153 : cvF Try.prog 153 = some F153 := by kernel_rfl

/-- (semiring.Enumerators).Mul -/
def F154 : AF := ⟨72, [(6, none)], (.seq (.ops [⟨none, false, (some 3), (.new (.s 0))⟩, ⟨none, false, (some 6), (.mov (.c .nils))⟩]) (.seq (.ops [⟨none, false, (some 14), (.mov (.s 1))⟩, ⟨none, false, (some 15), (.call (.c (.fn 157 [])) [(.s 14)])⟩, ⟨none, false, (some 16), (.mov (.s 2))⟩, ⟨none, false, (some 17), (.call (.c (.fn 157 [])) [(.s 16)])⟩, ⟨none, false, (some 7), (.mov (.s 15))⟩, ⟨none, false, (some 8), (.mov (.s 17))⟩]) (.seq (.seq (.ops [⟨none, false, (some 18), (.mov (.s 7))⟩, ⟨none, false, (some 19), (.len (.s 18))⟩, ⟨none, false, (some 20), (.bin .eql (.s 19) (.c (.int .i64 (0))))⟩, ⟨none, false, (some 21), (.mov (.s 20))⟩, ⟨(some (21, false)), false, (some 22), (.mov (.s 8))⟩, ⟨(some (21, false)), false, (some 23), (.len (.s 22))⟩, ⟨(some (21, false)), false, (some 24), (.bin .eql (.s 23) (.c (.int .i64 (0))))⟩, ⟨none, false, (some 25), (.pick (.s 21) (.c (.bool true)) (.s 24))⟩]) (.ite (.s 25) (.seq (.ops [⟨none, false, (some 26), (.bsl 1 0 [] [])⟩, ⟨none, false, (some 6), (.mov (.s 26))⟩]) .ret) .skip)) (.seq (.ops [⟨none, false, (some 27), (.mov (.s 7))⟩, ⟨none, false, (some 28), (.len (.s 27))⟩, ⟨none, false, (some 29), (.mov (.s 8))⟩, ⟨none, false, (some 30), (.len (.s 29))⟩, ⟨none, false, (some 31), (.bin .add (.s 28) (.s 30))⟩, ⟨none, false, (some 32), (.bin .sub (.s 31) (.c (.int .i64 (1))))⟩, ⟨none, false, (some 33), (.mk 1 24 [.nils] (.s 32) (.s 32))⟩, ⟨none, false, (some 9), (.mov (.s 33))⟩]) (.seq (.seq (.ops [⟨none, false, (some 34), (.mov (.s 7))⟩, ⟨none, false, (some 35), (.len (.s 34))⟩, ⟨none, false, (some 36), (.mov (.c (.int .i64 (0))))⟩]) (.blk 0 (.loop (.seq (.ops [⟨none, false, (some 37), (.bin .lss (.s 36) (.s 35))⟩]) (.seq (.ite (.s 37) .skip (.exit 0)) (.seq (.blk 1 (.seq (.ops [⟨none, false, (some 38), (.mov (.s 36))⟩, ⟨none, false, (some 39), (.ia 1 (.s 34) (.s 36))⟩, ⟨none, false, (some 40), (.ld false 1 (.s 39) none)⟩, ⟨none, false, (some 10), (.mov (.s 38))⟩, ⟨none, false, (some 11), (.mov (.s 40))⟩]) (.seq (.seq (.ops [⟨none, false, (some 41), (.mov (.s 11))⟩, ⟨none, false, (some 42), (.len (.s 41))⟩, ⟨none, false, (some 43), (.bin .eql (.s 42) (.c (.int .i64 (0))))⟩]) (.ite (.s 43) (.exit 1) .skip)) (.seq (.ops [⟨none, false, (some 44), (.mov (.s 8))⟩, ⟨none, false, (some 45), (.len (.s 44))⟩, ⟨none, false, (some 46), (.mov (.c (.int .i64 (0))))⟩]) (.blk 2 (.loop (.seq (.ops [⟨none, false, (some 47), (.bin .lss (.s 46) (.s 45))⟩]) (.seq (.ite (.s 47) .skip (.exit 2)) (.seq (.blk 3 (.seq (.ops [⟨none, false, (some 48), (.mov (.s 46))⟩, ⟨none, false, (some 49), (.ia 1 (.s 44) (.s 46))⟩, ⟨none, false, (some 50), (.ld false 1 (.s 49) none)⟩, ⟨none, false, (some 12), (.mov (.s 48))⟩, ⟨none, false, (some 13), (.mov (.s 50))⟩]) (.ops [⟨none, false, (some 51), (.mov (.s 9))⟩, ⟨none, false, (some 52), (.mov (.s 10))⟩, ⟨none, false, (some 53), (.mov (.s 12))⟩, ⟨none, false, (some 54), (.bin .add (.s 52) (.s 53))⟩, ⟨none, false, (some 55), (.mov (.s 9))⟩, ⟨none, false, (some 56), (.mov (.s 10))⟩, ⟨none, false, (some 57), (.mov (.s 12))⟩, ⟨none, false, (some 58), (.bin .add (.s 56) (.s 57))⟩, ⟨none, false, (some 59), (.ia 1 (.s 55) (.s 58))⟩, ⟨none, false, (some 61), (.mov (.s 11))⟩, ⟨none, false, (some 62), (.mov (.s 13))⟩, ⟨none, false, (some 60), (.ld false 1 (.s 59) none)⟩, ⟨none, false, (some 63), (.bsl 1 2 [.nils, .nils] [(0, (1, (.s 61))), (1, (1, (.s 62)))])⟩, ⟨none, true, (some 64), (.call (.c (.fn 158 [])) [(.s 63)])⟩, ⟨none, false, (some 65), (.bsl 1 2 [.nils, .nils] [(0, (1, (.s 60))), (1, (1, (.s 64)))])⟩, ⟨none, true, (some 66), (.call (.c (.fn 156 [])) [(.s 65)])⟩, ⟨none, false, (some 67), (.ia 1 (.s 51) (.s 54))⟩, ⟨none, false, none, (.st 1 (.s 67) (.s 66) [])⟩]))) (.ops [⟨none, false, (some 68), (.bin .add (.s 46) (.c (.int .i64 (1))))⟩, ⟨none, false, (some 46), (.mov (.s 68))⟩])))))))))) (.ops [⟨none, false, (some 69), (.bin .add (.s 36) (.c (.int .i64 (1))))⟩, ⟨none, false, (some 36), (.mov (.s 69))⟩]))))))) (.seq (.ops [⟨none, false, (some 70), (.mov (.s 9))⟩, ⟨none, false, (some 71), (.call (.c (.fn 157 [])) [(.s 70)])⟩, ⟨none, false, (some 6), (.mov (.s 71))⟩]) .ret))))))⟩
theorem cv154 : cvF Try.prog 154 = some F154 := by kernel_rfl


theorem CNat.nils (H : Heap) (L : Nat) : CNat H .nils 0 L := ⟨[], ⟨by simp [u32s], by simp, .inl ⟨rfl, rfl⟩⟩, fun x hx => (by cases hx), fun x hx => (by cases hx), rfl, by simp⟩
/-- a polynomial in the heap -/
def SPoly (H : Heap) (u : V) (p : List Int) (L : Nat) : Prop := SLists (fun H v n => CNat H v n L) H u p
theorem SPoly.mono {H H' : Heap} {v : V} {p : List Int} {L : Nat} (h : SPoly H v p L) (hs : Heap.sub H H') : SPoly H' v p L := SLists.mono (S := fun H v n => CNat H v n L) (fun a b => CNat.mono a b) h hs
theorem SPoly.len {H : Heap} {v : V} {p : List Int} {L : Nat} (h : SPoly H v p L) : lenR v = some (.int .i64 p.length) := SLists.len h
theorem SPoly.up {H : Heap} {v : V} {p : List Int} {L L' : Nat} (h : SPoly H v p L) (hl : L ≤ L') : SPoly H v p L' := by
  obtain ⟨vs, a, b⟩ := h
  exact ⟨vs, a, fun i hi => by obtain ⟨u, c, d⟩ := b i hi; exact ⟨u, c, d.up hl⟩⟩
theorem SPoly.cells {H : Heap} {u : V} {p : List Int} {L : Nat} (h : SPoly H u p L) : V.cells u = [u] := by
  obtain ⟨vs, ⟨_, _, ⟨rfl, _⟩ | ⟨n, o, f, b, rfl, _⟩⟩, _⟩ := h <;> rfl
theorem SPoly.get {H : Heap} {v : V} {p : List Int} {L : Nat} (h : SPoly H v p L) {k : Nat} (hk : k < p.length) (kd : IntKind) : ∃ q u, iaV 1 v (.int kd k) = some q ∧ ldV H false 1 q = some u ∧ CNat H u p[k] L := SLists.get h hk kd

/-- one row of items that hold on to data in G -/
structure VRow (H0 G H : Heap) (N : Nat) (xs : List V) (Q : Nat → Heap → V → Prop) : Prop where
  row : H N = some ⟨true, 1, xs⟩
  oN : H0 N = none
  g0 : Heap.sub H0 G
  gh : Heap.sub G H
  gN : G N = none
  rep : ∀ i, (h : i < xs.length) → Q i G xs[i]
theorem VRow.sub {H0 G H : Heap} {N : Nat} {xs : List V} {Q : Nat → Heap → V → Prop} (t : VRow H0 G H N xs Q) : Heap.sub H0 H := t.g0.trans' t.gh
theorem VRow.grow {H0 G H H' : Heap} {N : Nat} {xs : List V} {Q : Nat → Heap → V → Prop} (t : VRow H0 G H N xs Q) (hs : Heap.sub H H') : VRow H0 G H' N xs Q := ⟨hs _ _ t.row, t.oN, t.g0, t.gh.trans' hs, t.gN, t.rep⟩
theorem VRow.call {H0 G H G' H' : Heap} {N : Nat} {xs : List V} {Q : Nat → Heap → V → Prop} (t : VRow H0 G H N xs Q) (hq : ∀ i v, Q i G v → Q i G' v) (hs : Heap.sub H H') (h1 : Heap.sub G G') (h2 : Heap.sub G' H') (h3 : ∀ n, G n = none → H n ≠ none → G' n = none) : VRow H0 G' H' N xs Q :=
  ⟨hs _ _ t.row, t.oN, t.g0.trans' h1, h2, h3 N t.gN (by rw [t.row]; simp), fun i h => hq i _ (t.rep i h)⟩
theorem VRow.new {H0 G H H' : Heap} {N n : Nat} {xs : List V} {Q : Nat → Heap → V → Prop} {b : Blk} (t : VRow H0 G H N xs Q) (hq : ∀ {G G' : Heap}, Heap.sub G G' → ∀ i v, Q i G v → Q i G' v) (hn : H n = none) (hs : Heap.sub H H') (hb : H' n = some b) : ∃ G', Heap.sub G G' ∧ G' n = some b ∧ VRow H0 G' H' N xs Q := by
  have hg : G n = none := t.gh.none' hn
  have h1 : Heap.sub G (G.upd n (some b)) := Heap.sub_upd hg
  refine ⟨G.upd n (some b), h1, by simp [Heap.upd], t.call (hq h1) hs h1 (fun m c hm => ?_) fun m hm hm' => ?_⟩
  · by_cases e : m = n
    · subst e
      simp [Heap.upd] at hm
      rw [hb, hm]
    · simp [Heap.upd, e] at hm
      exact hs _ _ (t.gh _ _ hm)
  · have e : m ≠ n := by rintro rfl; exact hm' hn
    simp [Heap.upd, e, hm]
theorem VRow.set {H0 G H H' : Heap} {N : Nat} {xs : List V} {Q Q' : Nat → Heap → V → Prop} (t : VRow H0 G H N xs Q) {i : Nat} {v : V} (h : i < xs.length) (h1 : H' N = some ⟨true, 1, xs.set i v⟩) (h2 : ∀ m, m ≠ N → H' m = H m) (hv : Q' i G v) (hq : ∀ j w, j ≠ i → j < xs.length → Q j G w → Q' j G w) : VRow H0 G H' N (xs.set i v) Q' := by
  refine ⟨h1, t.oN, t.g0, fun m b hb => ?_, t.gN, fun j hj => ?_⟩
  · have : m ≠ N := by rintro rfl; rw [t.gN] at hb; cases hb
    rw [h2 m this]; exact t.gh m b hb
  · rw [List.length_set] at hj
    by_cases e : i = j
    · subst e; simpa using hv
    · rw [List.getElem_set_ne e]
      exact hq _ _ (fun h => e h.symm) hj (t.rep _ _)
theorem VRow.start {H H' : Heap} {N : Nat} {n : Nat} {z : V} {Q : Nat → Heap → V → Prop} (hN : H N = none) (hs : Heap.sub H H') (hb : H' N = some ⟨true, 1, List.replicate n z⟩) (hq : ∀ i, i < n → Q i H z) : VRow H H H' N (List.replicate n z) Q :=
  ⟨hb, hN, Heap.sub.rfl', hs, hN, fun i h => by simpa using hq i (by simpa using h)⟩
/-- the first d items, as a polynomial -/
theorem VRow.poly {H0 G H : Heap} {N d : Nat} {xs : List V} {Q : Nat → Heap → V → Prop} {p : List Int} {L : Nat} {f : Bool} (t : VRow H0 G H N xs Q) (hd : d ≤ xs.length) (hp : p.length = d) (hl : d ≤ 281474976710656) (hq : ∀ i v, (h : i < p.length) → Q i G v → CNat G v p[i] L) : SPoly H (.sl N 0 d f) p L := by
  subst hp
  refine ⟨xs.take p.length, ⟨by rw [List.length_take]; omega, hl, .inr ⟨N, 0, f, _, rfl, t.row, rfl, .inr (by simpa using hd), fun j hj => ?_⟩⟩, fun i hi => ⟨xs[i]'(by omega), ?_, (hq i _ hi (t.rep i (by omega))).mono t.gh⟩⟩
  · rw [List.getElem?_take, if_pos (by omega)]; simp
  · rw [List.getElem?_take, if_pos hi, List.getElem?_eq_getElem (by omega)]
theorem VRow.get {H0 G H : Heap} {N : Nat} {xs : List V} {Q : Nat → Heap → V → Prop} (t : VRow H0 G H N xs Q) {i : Nat} (h : i < xs.length) : ldV H false 1 (.ptr N i) = some xs[i] := by rw [ld_box t.row, List.getElem?_eq_getElem h]

theorem sli_max {H : Heap} {N n c : Nat} {own f : Bool} {cs : List V} {k k' : IntKind} (h : H N = some ⟨own, 1, cs⟩) (hc : c ≤ n) : sliV H 1 (.sl N 0 n f) none (some (.int k c)) (some (.int k' c)) = some (.sl N 0 c true) := by
  simp [sliV, cutOf, h, hc]
theorem CNat.lenV {H : Heap} {u : V} {n : Int} {L : Nat} (h : CNat H u n L) : ∃ m : Nat, lenR u = some (.int .i64 m) ∧ (0 < m ↔ n ≠ 0) ∧ m ≤ L := by
  obtain ⟨xs, a, hl, hc, rfl, hx⟩ := h
  refine ⟨xs.length, a.len, ⟨fun h => ?_, fun h => ?_⟩, hx⟩
  · have := nval_pos hl hc (by rintro rfl; simp at h)
    omega
  · apply Classical.byContradiction
    intro h0
    have : xs = [] := List.length_eq_zero_iff.1 (by omega)
    subst this
    exact h rfl

theorem enumerator_spec {av : V} {p : List Int} {L : Nat} {H : Heap} (hL : L ≤ 1099511627776) (hn : p.length ≤ 1073741824) (ha : SPoly H av p L) : ACalls Try.prog 157 [av] H fun u H' => Heap.sub H H' ∧ SPoly H' u (trimP p) L := by
  refine ACalls.of_body hm cv157 (by simp only [List.length_cons, List.length_nil]; decide) ?_
  simp only [F157, go_sem, ↓reduceIte, Nat.reduceEqDiff, Nat.reduceAdd, reduceCtorEq, ha.len]
  refine mkC_intro (Nat.le_refl _) (by omega) (by omega) fun N H1 hN hs1 hbN => ?_
  rw [flat_rep] at hbN
  simp only [go_sem, ↓reduceIte, Nat.reduceEqDiff, Nat.reduceAdd, reduceCtorEq, ha.len, beq_self_eq_true]
  have row0 := VRow.start (Q := fun i G v => i < 0 → CNat G v (cf p i) L) hN hs1 hbN fun i _ h => by omega
  refine range_loop p.length (fun k env H' => env 3 = .sl N 0 p.length true ∧ env 4 = .int .i64 (degF (cf p) k) ∧ env 10 = av ∧ env 11 = .int .i64 p.length ∧ env 12 = .int .i64 k ∧ ∃ xs G, VRow H G H' N xs (fun i G v => i < k → CNat G v (cf p i) L) ∧ xs.length = p.length) (by omega) (by decide) (by decide) ?_ ?_ ?_ ?_
  · rintro k env H' ⟨_, _, _, h7, h8, _⟩; exact ⟨h8, h7⟩
  · simp only [go_sem, ↓reduceIte, Nat.reduceEqDiff, Nat.reduceAdd, reduceCtorEq]
    exact ⟨by trivial, rfl, by trivial, by trivial, rfl, _, _, row0, by simp⟩
  · rintro k env H2 hk ⟨h3, h4, h10, h11, h12, xs, G, row, hxl⟩
    obtain ⟨q, u, a1, a2, a3⟩ := (ha.mono row.sub).get hk .i64
    have a3G : CNat G u p[k] L := by
      obtain ⟨q', u', b1, b2, b3⟩ := (ha.mono row.g0).get hk .i64
      rw [a1] at b1
      obtain rfl := Option.some.inj b1
      have := ld_mono row.gh b2
      rw [a2] at this
      obtain rfl := Option.some.inj this
      exact b3
    have hck : cf p k = p[k] := by simp [cf, hk]
    simp only [go_sem, ↓reduceIte, Nat.reduceEqDiff, Nat.reduceAdd, reduceCtorEq, h3, h4, h10, h11, h12, a1, a2]
    refine callC_in (Trim_spec hL a3G.nat) row.gh fun x H3 G3 hs3 ga gb gc hx => ?_
    have row3 := row.call (G' := G3) (H' := H3) (fun i v h c => (h c).mono ga) hs3 ga gb gc
    simp only [go_sem, ↓reduceIte, Nat.reduceEqDiff, Nat.reduceAdd, reduceCtorEq, h3, h4, h10, h11, h12, ia_nat hk]
    refine stC_intro row3.row trivial (by rw [hx.nat.cells]; rfl) (by decide) (by show k + 1 ≤ _; omega) fun H4 hb4 hf4 hs4 => ?_
    rw [hx.nat.cells, splice_one _ _ _ (by omega)] at hb4
    have row4 := row3.set (Q' := fun i G v => i < k + 1 → CNat G v (cf p i) L) (i := k) (by omega) hb4 hf4 (fun _ => by rw [hck]; exact hx) (fun j w hj _ h c => h (by omega))
    obtain ⟨m, hm1, hm2, hm3⟩ := hx.lenV
    have hld : ldV H4 false 1 (.ptr N k) = some x := by rw [row4.get (by rw [List.length_set]; omega)]; simp
    simp only [go_sem, ↓reduceIte, Nat.reduceEqDiff, Nat.reduceAdd, reduceCtorEq, h3, h4, h10, h11, h12, ia_nat hk, hld, hm1]
    refine iteC_if (fun c => ?_) (fun c => ?_)
    · have hne : cf p k ≠ 0 := by rw [hck]; exact hm2.1 (by omega)
      simp only [go_sem, ↓reduceIte, Nat.reduceEqDiff, Nat.reduceAdd, reduceCtorEq, h3, h4, h10, h11, h12]
      rw [wrapN1 (by omega)]
      refine ⟨by trivial, by trivial, ?_, by trivial, by trivial, by trivial, _, _, row4, by rw [List.length_set]; exact hxl⟩
      rw [degF, if_pos hne]
    · have hne : ¬ cf p k ≠ 0 := by rw [hck]; intro h; exact c (by have := hm2.2 h; omega)
      simp only [go_sem, ↓reduceIte, Nat.reduceEqDiff, Nat.reduceAdd, reduceCtorEq, h3, h4, h10, h11, h12]
      refine ⟨by trivial, by trivial, ?_, by trivial, by trivial, by trivial, _, _, row4, by rw [List.length_set]; exact hxl⟩
      rw [degF, if_neg hne]
  · rintro env H2 ⟨h3, h4, h10, h11, h12, xs, G, row, hxl⟩
    have hd := degF_le (cf p) p.length
    simp only [go_sem, ↓reduceIte, Nat.reduceEqDiff, Nat.reduceAdd, reduceCtorEq, h3, h4, Option.map_some, Option.map_none, sli_max row.row hd]
    refine finO_self ⟨row.sub, ?_⟩
    refine row.poly (by omega) (by rw [trimP, toT_len]) (by omega) fun i v h hq => ?_
    rw [trimP, toT_len] at h
    have : (trimP p)[i]'(by rw [trimP, toT_len]; exact h) = cf p i := by simp [trimP, toT]
    rw [this]
    exact hq (by omega)

theorem eZero_spec (H : Heap) : ACalls Try.prog 155 [.agg []] H fun u H' => Heap.sub H H' ∧ SPoly H' u [] 1 := by
  refine ACalls.of_body hm cv155 (by simp only [List.length_cons, List.length_nil]; decide) ?_
  simp only [F155, go_sem, ↓reduceIte, Nat.reduceEqDiff, Nat.reduceAdd, reduceCtorEq]
  refine newC_intro fun n1 H1 hn1 hs1 hb1 => ?_
  simp only [go_sem, ↓reduceIte, Nat.reduceEqDiff, Nat.reduceAdd, reduceCtorEq, fillV, List.length_cons, List.length_nil, splice, Nat.reduceLeDiff, Nat.zero_lt_one, and_self, List.take_zero, List.take_succ_cons, List.drop_succ_cons, List.drop_zero, List.drop_nil, Nat.reduceLT, Nat.le_refl]
  refine newC_intro fun n2 H2 hn2 hs2 hb2 => ?_
  simp only [go_sem, ↓reduceIte, Nat.reduceEqDiff, Nat.reduceAdd, reduceCtorEq]
  exact finO_self ⟨hs1.trans' hs2, [], ⟨rfl, by decide, .inr ⟨n2, 0, true, _, rfl, hb2, rfl, .inl rfl, fun j hj => by simp at hj⟩⟩, fun i h => by simp at h⟩
theorem eOne_spec (H : Heap) : ACalls Try.prog 54 [.agg []] H fun u H' => Heap.sub H H' ∧ SPoly H' u [1] 2 := by
  refine ACalls.of_body hm cv54 (by simp only [List.length_cons, List.length_nil]; decide) ?_
  simp only [F54, go_sem, ↓reduceIte, Nat.reduceEqDiff, Nat.reduceAdd, reduceCtorEq]
  refine newC_intro fun n1 H1 hn1 hs1 hb1 => ?_
  simp only [go_sem, ↓reduceIte, Nat.reduceEqDiff, Nat.reduceAdd, reduceCtorEq]
  refine callC_grow (Of_spec (by decide) (by decide) _) ?_
  intro x H2 hs2 hx
  simp only [go_sem, ↓reduceIte, Nat.reduceEqDiff, Nat.reduceAdd, reduceCtorEq, fillV, List.length_cons, List.length_nil, splice, Nat.reduceLeDiff, Nat.zero_lt_one, and_self, List.take_zero, List.take_succ_cons, List.drop_succ_cons, List.drop_zero, List.drop_nil, Nat.reduceLT, Nat.le_refl, hx.nat.cells]
  refine newC_intro fun n3 H3 hn3 hs3 hb3 => ?_
  simp only [go_sem, ↓reduceIte, Nat.reduceEqDiff, Nat.reduceAdd, reduceCtorEq]
  refine finO_self ⟨hs1.trans' (hs2.trans' hs3), [x], ⟨rfl, by decide, .inr ⟨n3, 0, true, _, rfl, hb3, rfl, .inr (by simp), fun j hj => by simp⟩⟩, fun i h => ?_⟩
  obtain rfl : i = 0 := by simp at h; omega
  exact ⟨x, rfl, hx.mono hs3⟩
end Go.AM

set_option linter.unusedVariables false
set_option linter.unusedSimpArgs false
namespace Go.AM
open Go Go.Proofs
attribute [local go_sem] c_skip c_ops c_seq c_ite c_blk c_exit c_ret t_normal t_exit t_ret b_normal b_exit b_ret i_nil i_cons s_guard s_mov s_pick s_new s_zero s_ld s_ldr s_st s_bin s_beq s_isnil s_eqs s_un s_conv s_fa s_fld s_ia s_sli s_ext s_ifc s_mkf s_agg s_len s_mm s_nilchk s_bsl s_mk s_app s_cpy s_call s_inv cells_agg cells_int cells_bool p_get p_none o_s o_c e_0 e_1 e_2 e_3 e_4 iteC_true iteC_false grd_tt grd_tf grd_ft grd_ff grd_und bindV_some pickV_t pickV_f beq_bool conv_int un_not not_dec mm_min mm_max bv_add bv_sub bv_mul bv_eql bv_neq bv_lss bv_leq bv_gtr bv_geq f_normal f_one f_two f_three f_none fa_ptr fld_one ext_tup len_sl len_nils decide_true decide_false not_true_eq_false not_false_eq_true List.map_cons List.map_nil List.append_nil List.cons_append List.nil_append Nat.zero_add Nat.add_zero Nat.mul_one Nat.succ_ne_self if_true if_false List.getElem?_cons_zero List.getElem?_cons_succ

theorem natAdd2 {u1 u2 : V} {a b : Int} {L n : Nat} {f : Bool} {H : Heap} (hb : H n = some ⟨true, 1, [u1, u2]⟩) (hL : L + 2 ≤ 1099511627776) (h1 : CNat H u1 a L) (h2 : CNat H u2 b L) : ACalls Try.prog 156 [.sl n 0 2 f] H fun u H' => Heap.sub H H' ∧ CNat H' u (a + b) (L + 2) := by
  have hv : SCells H (.sl n 0 2 f) [u1, u2] := ⟨rfl, by simp, .inr ⟨n, 0, f, _, rfl, hb, rfl, .inr (by simp), fun j hj => by simp⟩⟩
  have := natAdd_spec (ns := [a, b]) (L := L) (by simpa using hL) hv rfl fun i h => by
    match i, h with
    | 0, _ => exact h1.nat
    | 1, _ => exact h2.nat
  have e : sumI [a, b] = a + b := by simp [sumI]
  rw [e] at this
  exact this
theorem natMul2 {u1 u2 : V} {a b : Int} {L M n : Nat} {f : Bool} {H : Heap} (hb : H n = some ⟨true, 1, [u1, u2]⟩) (hL : 1 + L + M ≤ 1099511627776) (h1 : CNat H u1 a L) (h2 : CNat H u2 b M) : ACalls Try.prog 158 [.sl n 0 2 f] H fun u H' => Heap.sub H H' ∧ CNat H' u (a * b) (1 + L + M) := by
  have hv : SCells H (.sl n 0 2 f) [u1, u2] := ⟨rfl, by simp, .inr ⟨n, 0, f, _, rfl, hb, rfl, .inr (by simp), fun j hj => by simp⟩⟩
  have := natMul_spec (ns := [a, b]) (fun i => if i = 0 then L else M) (fun k => if k = 0 then 1 else if k = 1 then 1 + L else 1 + L + M) (Nat.le_refl _) (fun k hk => by
    match k, hk with
    | 0, _ => exact Nat.le_refl _
    | 1, _ => exact Nat.le_refl _) (fun k hk => by
    show (if k = 0 then 1 else if k = 1 then 1 + L else 1 + L + M) ≤ _
    split
    · decide
    · split <;> omega) hv rfl fun i h => by
    match i, h with
    | 0, _ => exact h1.nat
    | 1, _ => exact h2.nat
  have e : prodI [a, b] = a * b := by simp [prodI]
  rw [e] at this
  exact this
theorem SPoly.range {H : Heap} {u : V} {p : List Int} {L : Nat} (h : SPoly H u p L) (i : Nat) : 0 ≤ cf p i ∧ cf p i < 4294967296 ^ L := by
  have hp : (0 : Int) < 4294967296 ^ L := Int.pow_pos (by decide)
  by_cases hi : i < p.length
  · obtain ⟨vs, _, hh⟩ := h
    obtain ⟨v, _, hv⟩ := hh i hi
    have := hv.range
    simpa [cf, hi] using this
  · have : cf p i = 0 := by simp [cf, show p.length ≤ i by omega]
    rw [this]; exact ⟨Int.le_refl _, hp⟩
theorem SPoly.getG {G H : Heap} {v : V} {p : List Int} {L : Nat} (h : SPoly G v p L) (hs : Heap.sub G H) {k : Nat} (hk : k < p.length) (kd : IntKind) : ∃ q u, iaV 1 v (.int kd k) = some q ∧ ldV H false 1 q = some u ∧ CNat G u p[k] L := by
  obtain ⟨q, u, a, b, c⟩ := h.get hk kd
  exact ⟨q, u, a, ld_mono hs b, c⟩

theorem eAdd_spec {av bv : V} {p q : List Int} {L : Nat} {H : Heap} (hL : L ≤ 549755813888) (hn : p.length ≤ 1073741824) (hm' : q.length ≤ 1073741824) (ha : SPoly H av p L) (hb : SPoly H bv q L) :
    ACalls Try.prog 153 [.agg [], av, bv] H fun u H' => Heap.sub H H' ∧ SPoly H' u (pAdd p q) (L+1) := by
  refine ACalls.of_body hm cv153 (by simp only [List.length_cons, List.length_nil]; decide) ?_
  simp only [F153, go_sem, ↓reduceIte, Nat.reduceEqDiff, Nat.reduceAdd, reduceCtorEq]
  refine newC_intro fun b0 H1 hn1 hs1 hb1 => ?_
  have ha1 := ha.mono hs1
  have hb1' := hb.mono hs1
  simp only [go_sem, ↓reduceIte, Nat.reduceEqDiff, Nat.reduceAdd, reduceCtorEq, ha1.len, hb1'.len]
  obtain ⟨M, hM⟩ : ∃ M : Nat, M = max p.length q.length := ⟨_, rfl⟩
  have eM : (if (p.length : Int) < (q.length : Int) then (q.length : Int) else (p.length : Int)) = (M : Int) := by
    rw [hM]; split <;> omega
  try rw [eM]
  refine mkC_intro (Nat.le_refl _) (by omega) (by omega) fun N H2 hN hs2 hbN => ?_
  rw [flat_rep] at hbN
  simp only [go_sem, ↓reduceIte, Nat.reduceEqDiff, Nat.reduceAdd, reduceCtorEq, beq_self_eq_true]
  have row0 := VRow.start (Q := fun i G v => (i < 0 → CNat G v (cf p i + cf q i) (L+1)) ∧ (0 ≤ i → CNat G v 0 0)) hN hs2 hbN fun i _ => ⟨fun h => by omega, fun _ => CNat.nils _ _⟩
  have hqm : ∀ {k : Nat} {G G' : Heap}, Heap.sub G G' → ∀ i v, ((i < k → CNat G v (cf p i + cf q i) (L+1)) ∧ (k ≤ i → CNat G v 0 0)) → ((i < k → CNat G' v (cf p i + cf q i) (L+1)) ∧ (k ≤ i → CNat G' v 0 0)) := fun hs i v h => ⟨fun c => (h.1 c).mono hs, fun c => (h.2 c).mono hs⟩
  have hpow : (4294967296 : Int) ^ (L+1) = 4294967296 ^ L * 4294967296 := Int.pow_succ ..
  have hpos : (0 : Int) < 4294967296 ^ L := Int.pow_pos (by decide)
  refine range_loop M (fun k env H' => env 1 = av ∧ env 2 = bv ∧ env 7 = .sl N 0 M true ∧ env 16 = .int .i64 M ∧ env 17 = .int .i64 k ∧ ∃ xs G, VRow H1 G H' N xs (fun i G v => (i < k → CNat G v (cf p i + cf q i) (L+1)) ∧ (k ≤ i → CNat G v 0 0)) ∧ xs.length = M) (by omega) (by decide) (by decide) ?_ ?_ ?_ ?_
  · rintro k env H' ⟨_, _, _, h7, h8, _⟩; exact ⟨h8, h7⟩
  · simp only [go_sem, ↓reduceIte, Nat.reduceEqDiff, Nat.reduceAdd, reduceCtorEq]
    exact ⟨by trivial, by trivial, by trivial, by trivial, rfl, _, _, row0, by simp⟩
  · rintro k env H3 hk ⟨h1, h2, h7, h16, h17, xs, G, row, hxl⟩
    have rp := ha1.range k
    have rq := hb1'.range k
    simp only [go_sem, ↓reduceIte, Nat.reduceEqDiff, Nat.reduceAdd, reduceCtorEq, h1, h2, h7, h16, h17, ha1.len]
    refine iteC_join (fun env' H' => env' 1 = av ∧ env' 2 = bv ∧ env' 7 = .sl N 0 M true ∧ env' 8 = .int .i64 k ∧ env' 16 = .int .i64 M ∧ env' 17 = .int .i64 k ∧ ∃ xs G, VRow H1 G H' N xs (fun i G v => (i < k → CNat G v (cf p i + cf q i) (L+1)) ∧ (k + 1 ≤ i → CNat G v 0 0) ∧ (i = k → CNat G v (cf p k) (L+2))) ∧ xs.length = M) (fun c => ?_) (fun c => ?_) ?_
    · have hkp : k < p.length := by omega
      obtain ⟨pp, u, a1, a2, a3⟩ := (ha1.mono row.g0).getG row.gh hkp .i64
      have hcell := (row.rep k (by omega)).2 (Nat.le_refl _)
      simp only [go_sem, ↓reduceIte, Nat.reduceEqDiff, Nat.reduceAdd, reduceCtorEq, h1, h2, h7, h16, h17, a1, a2, ia_nat hk, row.get (show k < xs.length by omega), fillV, List.length_cons, List.length_nil, splice, Nat.reduceLeDiff, Nat.zero_lt_one, and_self, List.take_zero, List.take_succ_cons, List.drop_succ_cons, List.drop_zero, List.drop_nil, Nat.reduceLT, Nat.le_refl, hcell.nat.cells, a3.nat.cells]
      refine newC_intro fun nb H4 hnb hs4 hb4 => ?_
      obtain ⟨G4, hg4, hgb, row4⟩ := row.new hqm hnb hs4 hb4
      simp only [go_sem, ↓reduceIte, Nat.reduceEqDiff, Nat.reduceAdd, reduceCtorEq]
      refine callC_in (natAdd2 (L := L) hgb (by omega) ((hcell.mono hg4).up (by omega)) (a3.mono hg4)) row4.gh fun x H5 G5 hs5 ga gb gc hx => ?_
      have row5 := row4.call (G' := G5) (H' := H5) (hqm ga) hs5 ga gb gc
      simp only [go_sem, ↓reduceIte, Nat.reduceEqDiff, Nat.reduceAdd, reduceCtorEq, h1, h2, h7, h16, h17, ia_nat hk]
      refine stC_intro row5.row trivial (by rw [hx.nat.cells]; rfl) (by decide) (by show k + 1 ≤ _; omega) fun H6 hb6 hf6 hs6 => ?_
      rw [hx.nat.cells, splice_one _ _ _ (by omega)] at hb6
      simp only [go_sem, ↓reduceIte, Nat.reduceEqDiff, Nat.reduceAdd, reduceCtorEq, h1, h2, h7, h16, h17]
      refine ⟨by trivial, by trivial, by trivial, by trivial, by trivial, by trivial, _, _, row5.set (i := k) (by omega) hb6 hf6 ⟨fun h => by omega, fun h => by omega, fun _ => ?_⟩ (fun j w hj _ h => ⟨h.1, fun c => h.2 (by omega), fun c => absurd c hj⟩), by rw [List.length_set]; exact hxl⟩
      have e : cf p k = 0 + p[k] := by simp [cf, hkp]
      rw [e]; exact hx
    · simp only [go_sem, ↓reduceIte, Nat.reduceEqDiff, Nat.reduceAdd, reduceCtorEq, h1, h2, h7, h16, h17]
      have e : cf p k = 0 := by simp [cf, show p.length ≤ k by omega]
      refine ⟨by trivial, by trivial, by trivial, by trivial, by trivial, by trivial, xs, G, ⟨row.row, row.oN, row.g0, row.gh, row.gN, fun i h => ⟨(row.rep i h).1, fun c => (row.rep i h).2 (by omega), fun c => ?_⟩⟩, hxl⟩
      rw [e]; exact ((row.rep i h).2 (by omega)).up (by omega)
    rintro env H3 ⟨h1, h2, h7, h8, h16, h17, xs, G, row, hxl⟩
    have hqm2 : ∀ {G G' : Heap}, Heap.sub G G' → ∀ i v, ((i < k → CNat G v (cf p i + cf q i) (L+1)) ∧ (k + 1 ≤ i → CNat G v 0 0) ∧ (i = k → CNat G v (cf p k) (L+2))) → ((i < k → CNat G' v (cf p i + cf q i) (L+1)) ∧ (k + 1 ≤ i → CNat G' v 0 0) ∧ (i = k → CNat G' v (cf p k) (L+2))) := fun hs i v h => ⟨fun c => (h.1 c).mono hs, fun c => (h.2.1 c).mono hs, fun c => (h.2.2 c).mono hs⟩
    simp only [go_sem, ↓reduceIte, Nat.reduceEqDiff, Nat.reduceAdd, reduceCtorEq, h1, h2, h7, h8, h16, h17, hb1'.len]
    refine iteC_if (fun c => ?_) (fun c => ?_)
    · have hkq : k < q.length := by omega
      obtain ⟨pp, u, a1, a2, a3⟩ := (hb1'.mono row.g0).getG row.gh hkq .i64
      have hcell := (row.rep k (by omega)).2.2 rfl
      simp only [go_sem, ↓reduceIte, Nat.reduceEqDiff, Nat.reduceAdd, reduceCtorEq, h1, h2, h7, h8, h16, h17, a1, a2, ia_nat hk, row.get (show k < xs.length by omega), fillV, List.length_cons, List.length_nil, splice, Nat.reduceLeDiff, Nat.zero_lt_one, and_self, List.take_zero, List.take_succ_cons, List.drop_succ_cons, List.drop_zero, List.drop_nil, Nat.reduceLT, Nat.le_refl, hcell.nat.cells, a3.nat.cells]
      refine newC_intro fun nb H4 hnb hs4 hb4 => ?_
      obtain ⟨G4, hg4, hgb, row4⟩ := row.new hqm2 hnb hs4 hb4
      simp only [go_sem, ↓reduceIte, Nat.reduceEqDiff, Nat.reduceAdd, reduceCtorEq]
      refine callC_in (natAdd2 (L := L+2) hgb (by omega) (hcell.mono hg4) ((a3.mono hg4).up (by omega))) row4.gh fun x H5 G5 hs5 ga gb gc hx => ?_
      have row5 := row4.call (G' := G5) (H' := H5) (hqm2 ga) hs5 ga gb gc
      simp only [go_sem, ↓reduceIte, Nat.reduceEqDiff, Nat.reduceAdd, reduceCtorEq, h1, h2, h7, h8, h16, h17, ia_nat hk]
      refine stC_intro row5.row trivial (by rw [hx.nat.cells]; rfl) (by decide) (by show k + 1 ≤ _; omega) fun H6 hb6 hf6 hs6 => ?_
      rw [hx.nat.cells, splice_one _ _ _ (by omega)] at hb6
      simp only [go_sem, ↓reduceIte, Nat.reduceEqDiff, Nat.reduceAdd, reduceCtorEq, h1, h2, h7, h8, h16, h17]
      have e : cf q k = q[k] := by simp [cf, hkq]
      refine ⟨by trivial, by trivial, by trivial, by trivial, by trivial, by trivial, _, _, row5.set (i := k) (by omega) hb6 hf6 ⟨fun _ => ?_, fun h => by omega⟩ (fun j w hj _ h => ⟨fun c => h.1 (by omega), fun c => h.2.1 c⟩), by rw [List.length_set]; exact hxl⟩
      rw [e] at rq ⊢
      exact hx.tight (by rw [hpow]; omega)
    · simp only [go_sem, ↓reduceIte, Nat.reduceEqDiff, Nat.reduceAdd, reduceCtorEq, h1, h2, h7, h8, h16, h17]
      have e : cf q k = 0 := by simp [cf, show q.length ≤ k by omega]
      refine ⟨by trivial, by trivial, by trivial, by trivial, by trivial, by trivial, xs, G, ⟨row.row, row.oN, row.g0, row.gh, row.gN, fun i h => ⟨fun c => ?_, fun c => (row.rep i h).2.1 c⟩⟩, hxl⟩
      by_cases hik : i = k
      · subst hik
        rw [e, Int.add_zero]
        exact ((row.rep i h).2.2 rfl).tight (by rw [hpow]; omega)
      · exact (row.rep i h).1 (by omega)
  · rintro env H3 ⟨h1, h2, h7, h16, h17, xs, G, row, hxl⟩
    simp only [go_sem, ↓reduceIte, Nat.reduceEqDiff, Nat.reduceAdd, reduceCtorEq, h7]
    have hd : SPoly H3 (.sl N 0 M true) ((List.range M).map fun i => cf p i + cf q i) (L+1) := row.poly (by omega) (by simp) (by omega) fun i v h hq => by
      have : ((List.range M).map fun i => cf p i + cf q i)[i] = cf p i + cf q i := by simp
      rw [this]
      exact hq.1 (by simpa using h)
    refine callC_grow (enumerator_spec (by omega) (by simp; omega) hd) ?_
    intro x H4 hs4 hx
    simp only [go_sem, ↓reduceIte, Nat.reduceEqDiff, Nat.reduceAdd, reduceCtorEq]
    refine finO_self ⟨hs1.trans' (row.sub.trans' hs4), ?_⟩
    have e : trimP ((List.range M).map fun i => cf p i + cf q i) = pAdd p q := by
      unfold trimP pAdd
      rw [List.length_map, List.length_range, ← hM]
      exact toT_congr fun i hi => by simp [cf, hi]
    rw [← e]; exact hx
end Go.AM

set_option linter.unusedVariables false
set_option linter.unusedSimpArgs false
namespace Go.AM
open Go Go.Proofs
attribute [local go_sem] c_skip c_ops c_seq c_ite c_blk c_exit c_ret t_normal t_exit t_ret b_normal b_exit b_ret i_nil i_cons s_guard s_mov s_pick s_new s_zero s_ld s_ldr s_st s_bin s_beq s_isnil s_eqs s_un s_conv s_fa s_fld s_ia s_sli s_ext s_ifc s_mkf s_agg s_len s_mm s_nilchk s_bsl s_mk s_app s_cpy s_call s_inv cells_agg cells_int cells_bool p_get p_none o_s o_c e_0 e_1 e_2 e_3 e_4 iteC_true iteC_false grd_tt grd_tf grd_ft grd_ff grd_und bindV_some pickV_t pickV_f beq_bool conv_int un_not not_dec mm_min mm_max bv_add bv_sub bv_mul bv_eql bv_neq bv_lss bv_leq bv_gtr bv_geq f_normal f_one f_two f_three f_none fa_ptr fld_one ext_tup len_sl len_nils decide_true decide_false not_true_eq_false not_false_eq_true List.map_cons List.map_nil List.append_nil List.cons_append List.nil_append Nat.zero_add Nat.add_zero Nat.mul_one Nat.succ_ne_self if_true if_false List.getElem?_cons_zero List.getElem?_cons_succ

theorem rowM_zero {p q : List Int} {i : Nat} (h : cf p i = 0) (F : Nat → Int) : ∀ j, rowM p q i F j = F
  | 0 => rfl
  | j+1 => by
    funext k
    simp only [rowM, rowM_zero h F j, h, Int.zero_mul, Int.add_zero, ite_self]

theorem eMul_spec {av bv : V} {p q : List Int} {L : Nat} {H : Heap} (hL : L ≤ 549755813888) (hn : p.length ≤ 536870912) (hcp : trimP p = p) (hq : MonoQ q) (ha : SPoly H av p L) (hb : SPoly H bv q 2) :
    ACalls Try.prog 154 [.agg [], av, bv] H fun u H' => Heap.sub H H' ∧ SPoly H' u (pMul p q) L := by
  refine ACalls.of_body hm cv154 (by simp only [List.length_cons, List.length_nil]; decide) ?_
  obtain ⟨q0, q2⟩ := hq.len
  simp only [F154, go_sem, ↓reduceIte, Nat.reduceEqDiff, Nat.reduceAdd, reduceCtorEq]
  refine newC_intro fun b0 H1 hn1 hs1 hb1 => ?_
  simp only [go_sem, ↓reduceIte, Nat.reduceEqDiff, Nat.reduceAdd, reduceCtorEq]
  refine callC_grow (enumerator_spec (by omega) (by omega) (ha.mono hs1)) ?_
  intro pv H2 hs2 hpv
  rw [hcp] at hpv
  simp only [go_sem, ↓reduceIte, Nat.reduceEqDiff, Nat.reduceAdd, reduceCtorEq]
  refine callC_grow (enumerator_spec (by decide) (by omega) (hb.mono (hs1.trans' hs2))) ?_
  intro qv H3 hs3 hqv
  rw [hq.trim] at hqv
  have hpv3 := hpv.mono hs3
  have hs03 := hs1.trans' (hs2.trans' hs3)
  simp only [go_sem, ↓reduceIte, Nat.reduceEqDiff, Nat.reduceAdd, reduceCtorEq, hpv3.len, hqv.len]
  have hq0 : ¬ (q.length : Int) = 0 := by omega
  by_cases hp0 : (p.length : Int) = 0
  · simp only [go_sem, ↓reduceIte, Nat.reduceEqDiff, Nat.reduceAdd, reduceCtorEq, hp0, fillV, List.length_cons, List.length_nil, splice, Nat.reduceLeDiff, Nat.zero_lt_one, and_self, List.take_zero, List.take_succ_cons, List.drop_succ_cons, List.drop_zero, List.drop_nil, Nat.reduceLT, Nat.le_refl]
    refine newC_intro fun n4 H4 hn4 hs4 hb4 => ?_
    simp only [go_sem, ↓reduceIte, Nat.reduceEqDiff, Nat.reduceAdd, reduceCtorEq]
    have : p = [] := List.length_eq_zero_iff.1 (by omega)
    subst this
    have e : pMul [] q = [] := by
      apply List.eq_nil_of_length_eq_zero
      rw [pMul, toT_len]
      have : ∀ n, degF (mulF [] q ([] : List Int).length) n = 0 := by
        intro n
        induction n with
        | zero => rfl
        | succ n ih => unfold degF; rw [if_neg (by simp [mulF]), ih]
      exact this _
    rw [e]
    exact finO_self ⟨hs03.trans' hs4, [], ⟨rfl, by decide, .inr ⟨n4, 0, true, _, rfl, hb4, rfl, .inl rfl, fun j hj => by simp at hj⟩⟩, fun i h => by simp at h⟩
  simp only [go_sem, ↓reduceIte, Nat.reduceEqDiff, Nat.reduceAdd, reduceCtorEq, hp0, hq0, hpv3.len, hqv.len]
  obtain ⟨n, hnn⟩ : ∃ n, p.length + q.length = n + 1 := ⟨p.length + q.length - 1, by omega⟩
  have w1 : IntKind.i64.wrap ((p.length : Int) + q.length) = ((n + 1 : Nat) : Int) := by rw [wrapI (by omega) (by omega)]; omega
  have w2 : IntKind.i64.wrap (((n + 1 : Nat) : Int) - 1) = (n : Int) := by rw [wrapI (by omega) (by omega)]; omega
  rw [w1, w2]
  refine mkC_intro (Nat.le_refl _) (by omega) (by omega) fun N H4 hN hs4 hbN => ?_
  rw [flat_rep] at hbN
  simp only [go_sem, ↓reduceIte, Nat.reduceEqDiff, Nat.reduceAdd, reduceCtorEq, beq_self_eq_true, hpv3.len]
  have row0 := VRow.start (Q := fun k G v => CNat G v (mulF p q 0 k) L) hN hs4 hbN fun i _ => CNat.nils _ _
  have hmb := mulF_bound (p := p) (q := q) (B := 4294967296 ^ L) (Int.pow_pos (by decide)) hq hpv3.range
  refine range_loop p.length (fun i env H' => env 8 = qv ∧ env 9 = .sl N 0 n true ∧ env 34 = pv ∧ env 35 = .int .i64 p.length ∧ env 36 = .int .i64 i ∧ ∃ xs G, VRow H3 G H' N xs (fun k G v => CNat G v (mulF p q i k) L) ∧ xs.length = n) (by omega) (by decide) (by decide) ?_ ?_ ?_ ?_
  · rintro k env H' ⟨_, _, _, h7, h8, _⟩; exact ⟨h8, h7⟩
  · simp only [go_sem, ↓reduceIte, Nat.reduceEqDiff, Nat.reduceAdd, reduceCtorEq]
    exact ⟨by trivial, by trivial, by trivial, by trivial, rfl, _, _, row0, by simp⟩
  · rintro i env H5 hi ⟨h8, h9, h34, h35, h36, xs, G, row, hxl⟩
    obtain ⟨pp, x, a1, a2, a3⟩ := (hpv3.mono row.g0).getG row.gh hi .i64
    have a3' : CNat H3 x p[i] L := by
      obtain ⟨_, x', b1, b2, b3⟩ := hpv3.get hi .i64
      rw [a1] at b1
      obtain rfl := Option.some.inj b1
      have := ld_mono row.sub b2
      rw [a2] at this
      obtain rfl := Option.some.inj this
      exact b3
    have hci : cf p i = p[i] := by simp [cf, hi]
    obtain ⟨m, hm1, hm2, hm3⟩ := (a3.mono row.gh).lenV
    simp only [go_sem, ↓reduceIte, Nat.reduceEqDiff, Nat.reduceAdd, reduceCtorEq, h8, h9, h34, h35, h36, a1, a2, hm1]
    refine iteC_if (fun c => ?_) (fun c => ?_)
    · have hz : cf p i = 0 := by
        rw [hci]
        apply Classical.byContradiction
        intro h
        have := hm2.2 h
        omega
      simp only [go_sem, ↓reduceIte, Nat.reduceEqDiff, Nat.reduceAdd, reduceCtorEq, h8, h9, h34, h35, h36]
      refine ⟨by trivial, by trivial, by trivial, by trivial, by trivial, by trivial, xs, G, ?_, hxl⟩
      have : mulF p q (i+1) = mulF p q i := by simp only [mulF]; exact rowM_zero hz _ _
      rw [this]; exact row
    · simp only [go_sem, ↓reduceIte, Nat.reduceEqDiff, Nat.reduceAdd, reduceCtorEq, h8, h9, h34, h35, h36, hqv.len]
      refine range_loop q.length (fun j env H' => env 8 = qv ∧ env 9 = .sl N 0 n true ∧ env 34 = pv ∧ env 35 = .int .i64 p.length ∧ env 36 = .int .i64 i ∧ env 10 = .int .i64 i ∧ env 11 = x ∧ env 44 = qv ∧ env 45 = .int .i64 q.length ∧ env 46 = .int .i64 j ∧ ∃ xs G, VRow H3 G H' N xs (fun k G v => CNat G v (rowM p q i (mulF p q i) j k) L) ∧ xs.length = n) (by omega) (by decide) (by decide) ?_ ?_ ?_ ?_
      · rintro k env H' ⟨_, _, _, _, _, _, _, _, h7, h8, _⟩; exact ⟨h8, h7⟩
      · simp only [go_sem, ↓reduceIte, Nat.reduceEqDiff, Nat.reduceAdd, reduceCtorEq, h8, h9, h34, h35, h36]
        exact ⟨by trivial, by trivial, by trivial, by trivial, by trivial, by trivial, by trivial, by trivial, by trivial, rfl, xs, G, row, hxl⟩
      · rintro j env H6 hj ⟨h8, h9, h34, h35, h36, h10, h11, h44, h45, h46, xs, G, row, hxl⟩
        obtain ⟨qq, y, c1, c2, c3⟩ := (hqv.mono row.g0).getG row.gh hj .i64
        have hxG := a3'.mono row.g0
        have hcj : cf q j = q[j] := by simp [cf, hj]
        have hij : i + j < n := by omega
        have w3 : IntKind.i64.wrap ((i : Int) + j) = ((i + j : Nat) : Int) := by rw [← Int.natCast_add]; exact wrapN (by omega)
        have hcell := row.rep (i + j) (by omega)
        simp only [go_sem, ↓reduceIte, Nat.reduceEqDiff, Nat.reduceAdd, reduceCtorEq, h8, h9, h34, h35, h36, h10, h11, h44, h45, h46, c1, c2, w3, ia_nat hij, row.get (show i + j < xs.length by omega), fillV, List.length_cons, List.length_nil, splice, Nat.reduceLeDiff, Nat.zero_lt_one, and_self, List.take_zero, List.take_succ_cons, List.drop_succ_cons, List.drop_zero, List.drop_nil, Nat.reduceLT, Nat.le_refl, hxG.nat.cells, c3.nat.cells]
        refine newC_intro fun nb H7 hnb hs7 hb7 => ?_
        obtain ⟨G7, hg7, hgb, row7⟩ := row.new (fun hs _ _ h => h.mono hs) hnb hs7 hb7
        simp only [go_sem, ↓reduceIte, Nat.reduceEqDiff, Nat.reduceAdd, reduceCtorEq]
        refine callC_in (natMul2 (L := L) (M := 2) hgb (by omega) (hxG.mono hg7) (c3.mono hg7)) row7.gh fun z H8 G8 hs8 ga gb gc hz => ?_
        have row8 := row7.call (G' := G8) (H' := H8) (fun _ _ h => h.mono ga) hs8 ga gb gc
        have hzr : p[i] * q[j] < 4294967296 ^ L := by
          have r := (hpv3.range i).2
          rw [hci] at r
          have hpos : (0 : Int) < 4294967296 ^ L := Int.pow_pos (by decide)
          rcases hq.cf j with e | e
          · rw [hcj] at e; rw [e, Int.mul_zero]; exact hpos
          · rw [hcj] at e; rw [e, Int.mul_one]; exact r
        have hz' := hz.tight hzr
        simp only [go_sem, ↓reduceIte, Nat.reduceEqDiff, Nat.reduceAdd, reduceCtorEq, fillV, List.length_cons, List.length_nil, splice, Nat.reduceLeDiff, Nat.zero_lt_one, and_self, List.take_zero, List.take_succ_cons, List.drop_succ_cons, List.drop_zero, List.drop_nil, Nat.reduceLT, Nat.le_refl, hcell.nat.cells, hz'.nat.cells]
        refine newC_intro fun nc H9 hnc hs9 hb9 => ?_
        obtain ⟨G9, hg9, hgc, row9⟩ := row8.new (fun hs _ _ h => h.mono hs) hnc hs9 hb9
        simp only [go_sem, ↓reduceIte, Nat.reduceEqDiff, Nat.reduceAdd, reduceCtorEq]
        refine callC_in (natAdd2 (L := L) hgc (by omega) (hcell.mono (hg7.trans' (ga.trans' hg9))) (hz'.mono hg9)) row9.gh fun s Ha Ga hsa ga' gb' gc' hs' => ?_
        have rowa := row9.call (G' := Ga) (H' := Ha) (fun _ _ h => h.mono ga') hsa ga' gb' gc'
        simp only [go_sem, ↓reduceIte, Nat.reduceEqDiff, Nat.reduceAdd, reduceCtorEq, h8, h9, h34, h35, h36, h10, h11, h44, h45, h46, ia_nat hij]
        refine stC_intro rowa.row trivial (by rw [hs'.nat.cells]; rfl) (by decide) (by show i + j + 1 ≤ _; omega) fun Hb hbb hfb hsb => ?_
        rw [hs'.nat.cells, splice_one _ _ _ (by omega)] at hbb
        simp only [go_sem, ↓reduceIte, Nat.reduceEqDiff, Nat.reduceAdd, reduceCtorEq, h8, h9, h34, h35, h36, h10, h11, h44, h45, h46]
        refine ⟨by trivial, by trivial, by trivial, by trivial, by trivial, by trivial, by trivial, by trivial, by trivial, by trivial, by trivial, _, _, rowa.set (Q' := fun k G v => CNat G v (rowM p q i (mulF p q i) (j+1) k) L) (i := i + j) (by omega) hbb hfb ?_ ?_, by rw [List.length_set]; exact hxl⟩
        · have hb := (hmb i (j+1) (i + j) (by omega)).2
          have e : rowM p q i (mulF p q i) (j+1) (i + j) = rowM p q i (mulF p q i) j (i + j) + p[i] * q[j] := by simp [rowM, hci, hcj]
          rw [e] at hb ⊢
          exact hs'.tight hb
        · intro k w hk _ h
          have e : rowM p q i (mulF p q i) (j+1) k = rowM p q i (mulF p q i) j k := by simp [rowM, hk]
          rw [e]; exact h
      · rintro env H6 ⟨h8, h9, h34, h35, h36, h10, h11, h44, h45, h46, xs, G, row, hxl⟩
        simp only [go_sem, ↓reduceIte, Nat.reduceEqDiff, Nat.reduceAdd, reduceCtorEq, h8, h9, h34, h35, h36]
        exact ⟨by trivial, by trivial, by trivial, by trivial, by trivial, by trivial, xs, G, row, hxl⟩
  · rintro env H5 ⟨h8, h9, h34, h35, h36, xs, G, row, hxl⟩
    simp only [go_sem, ↓reduceIte, Nat.reduceEqDiff, Nat.reduceAdd, reduceCtorEq, h9]
    have hd : SPoly H5 (.sl N 0 n true) ((List.range n).map (mulF p q p.length)) L := row.poly (by omega) (by simp) (by omega) fun k v h hk => by
      have : ((List.range n).map (mulF p q p.length))[k] = mulF p q p.length k := by simp
      rw [this]; exact hk
    refine callC_grow (enumerator_spec (by omega) (by simp; omega) hd) ?_
    intro r H6 hs6 hr
    simp only [go_sem, ↓reduceIte, Nat.reduceEqDiff, Nat.reduceAdd, reduceCtorEq]
    refine finO_self ⟨hs03.trans' (row.sub.trans' hs6), ?_⟩
    have e : trimP ((List.range n).map (mulF p q p.length)) = pMul p q := by
      rw [← pMul_short q0, show p.length + q.length - 1 = n by omega]
      unfold trimP
      rw [List.length_map, List.length_range]
      exact toT_congr fun i hi => by simp [cf, hi]
    rw [← e]; exact hr

theorem pAdd_trim (p q : List Int) : trimP (pAdd p q) = pAdd p q := trimP_toT _ _
theorem pMul_trim (p q : List Int) : trimP (pMul p q) = pMul p q := trimP_toT _ _
/-- the polynomials -/
def enS : SRing (List Int) 155 54 153 154 where
  K := 33554432
  Rep k H v p := SPoly H v p (k + 2) ∧ trimP p = p ∧ p.length ≤ k + 1
  W H v q := SPoly H v q 2 ∧ MonoQ q
  M k H v p := SPoly H v p (k + 2) ∧ trimP p = p ∧ p.length ≤ k + 2
  zero := []
  one := [1]
  add := pAdd
  mul := pMul
  mono h hs := ⟨h.1.mono hs, h.2⟩
  wmono h hs := ⟨h.1.mono hs, h.2⟩
  cells h := h.1.cells
  up h hk := ⟨h.1.up (by omega), h.2.1, by omega⟩
  hz H := (eZero_spec H).mono fun v H' h => ⟨h.1, h.2.up (by omega), rfl, by simp⟩
  ho H := (eOne_spec H).mono fun v H' h => ⟨h.1, h.2, by decide, by simp⟩
  hm {k H u w x c} hk h1 h2 := (eMul_spec (L := k + 2) (by omega) (by omega) h1.2.1 h2.2 h1.1 h2.1).mono fun v H' h => ⟨h.1, h.2, pMul_trim _ _, by
    have := pMul_len (p := x) h2.2.len.1
    have := h2.2.len.2
    omega⟩
  ha {k H u w x c} hk h1 h2 := (eAdd_spec (L := k + 2) (by omega) (by omega) (by omega) h1.1 h2.1).mono fun v H' h => ⟨h.1, h.2.up (by omega), pAdd_trim _ _, by
    have := pAdd_len x c
    omega⟩
end Go.AM
