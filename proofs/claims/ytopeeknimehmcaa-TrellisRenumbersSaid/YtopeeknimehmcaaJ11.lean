/- math/bits.Mul of one and a small number; slices.Repeat of one item. Conditions: as stated. -/
import Derived.Test.YtopeeknimehmcaaJ10
set_option linter.unusedVariables false
set_option linter.unusedSimpArgs false
namespace Go.AM
open Go Go.Proofs
attribute [local go_sem] c_skip c_ops c_seq c_ite c_blk c_exit c_ret t_normal t_exit t_ret b_normal b_exit b_ret i_nil i_cons s_guard s_mov s_pick s_new s_zero s_ld s_ldr s_st s_bin s_beq s_isnil s_eqs s_un s_conv s_fa s_fld s_ia s_sli s_ext s_ifc s_mkf s_agg s_len s_mm s_nilchk s_bsl s_mk s_app s_cpy s_call s_inv cells_agg cells_int cells_bool p_get p_none o_s o_c e_0 e_1 e_2 e_3 e_4 iteC_true iteC_false grd_tt grd_tf grd_ft grd_ff grd_und bindV_some pickV_t pickV_f beq_bool conv_int un_not not_dec mm_min mm_max bv_add bv_sub bv_mul bv_eql bv_neq bv_lss bv_leq bv_gtr bv_geq f_normal f_one f_two f_three f_none fa_ptr fld_one ext_tup len_sl len_nils decide_true decide_false not_true_eq_false not_false_eq_true List.map_cons List.map_nil List.append_nil List.cons_append List.nil_append Nat.zero_add Nat.add_zero Nat.mul_one Nat.succ_ne_self if_true if_false List.getElem?_cons_zero List.getElem?_cons_succ

/-- math/bits.Mul64 -/
def F106 : AF := ⟨51, [(4, none), (5, none)], (.seq (.ops [⟨none, false, (some 4), (.mov (.c (.int .u64 (0))))⟩, ⟨none, false, (some 5), (.mov (.c (.int .u64 (0))))⟩]) (.seq (.ops [⟨none, false, (some 14), (.mov (.s 0))⟩, ⟨none, false, (some 15), (.bin .and (.s 14) (.c (.int .u64 (4294967295))))⟩, ⟨none, false, (some 6), (.mov (.s 15))⟩]) (.seq (.ops [⟨none, false, (some 16), (.mov (.s 0))⟩, ⟨none, false, (some 17), (.bin .shr (.s 16) (.c (.int .u64 (32))))⟩, ⟨none, false, (some 7), (.mov (.s 17))⟩]) (.seq (.ops [⟨none, false, (some 18), (.mov (.s 1))⟩, ⟨none, false, (some 19), (.bin .and (.s 18) (.c (.int .u64 (4294967295))))⟩, ⟨none, false, (some 8), (.mov (.s 19))⟩]) (.seq (.ops [⟨none, false, (some 20), (.mov (.s 1))⟩, ⟨none, false, (some 21), (.bin .shr (.s 20) (.c (.int .u64 (32))))⟩, ⟨none, false, (some 9), (.mov (.s 21))⟩]) (.seq (.ops [⟨none, false, (some 22), (.mov (.s 6))⟩, ⟨none, false, (some 23), (.mov (.s 8))⟩, ⟨none, false, (some 24), (.bin .mul (.s 22) (.s 23))⟩, ⟨none, false, (some 10), (.mov (.s 24))⟩]) (.seq (.ops [⟨none, false, (some 25), (.mov (.s 7))⟩, ⟨none, false, (some 26), (.mov (.s 8))⟩, ⟨none, false, (some 27), (.bin .mul (.s 25) (.s 26))⟩, ⟨none, false, (some 28), (.mov (.s 10))⟩, ⟨none, false, (some 29), (.bin .shr (.s 28) (.c (.int .u64 (32))))⟩, ⟨none, false, (some 30), (.bin .add (.s 27) (.s 29))⟩, ⟨none, false, (some 11), (.mov (.s 30))⟩]) (.seq (.ops [⟨none, false, (some 31), (.mov (.s 11))⟩, ⟨none, false, (some 32), (.bin .and (.s 31) (.c (.int .u64 (4294967295))))⟩, ⟨none, false, (some 12), (.mov (.s 32))⟩]) (.seq (.ops [⟨none, false, (some 33), (.mov (.s 11))⟩, ⟨none, false, (some 34), (.bin .shr (.s 33) (.c (.int .u64 (32))))⟩, ⟨none, false, (some 13), (.mov (.s 34))⟩]) (.seq (.ops [⟨none, false, (some 35), (.mov (.s 12))⟩, ⟨none, false, (some 36), (.mov (.s 6))⟩, ⟨none, false, (some 37), (.mov (.s 9))⟩, ⟨none, false, (some 38), (.bin .mul (.s 36) (.s 37))⟩, ⟨none, false, (some 39), (.bin .add (.s 35) (.s 38))⟩, ⟨none, false, (some 12), (.mov (.s 39))⟩]) (.seq (.ops [⟨none, false, (some 40), (.mov (.s 7))⟩, ⟨none, false, (some 41), (.mov (.s 9))⟩, ⟨none, false, (some 42), (.bin .mul (.s 40) (.s 41))⟩, ⟨none, false, (some 43), (.mov (.s 13))⟩, ⟨none, false, (some 44), (.bin .add (.s 42) (.s 43))⟩, ⟨none, false, (some 45), (.mov (.s 12))⟩, ⟨none, false, (some 46), (.bin .shr (.s 45) (.c (.int .u64 (32))))⟩, ⟨none, false, (some 47), (.bin .add (.s 44) (.s 46))⟩, ⟨none, false, (some 4), (.mov (.s 47))⟩]) (.seq (.ops [⟨none, false, (some 48), (.mov (.s 0))⟩, ⟨none, false, (some 49), (.mov (.s 1))⟩, ⟨none, false, (some 50), (.bin .mul (.s 48) (.s 49))⟩, ⟨none, false, (some 5), (.mov (.s 50))⟩]) .ret))))))))))))⟩
theorem cv106 : cvF Try.prog 106 = some F106 := by kernel_rfl

/-- math/bits.Mul -/
def F92 : AF := ⟨30, [(4, none), (5, none)], (.seq (.ops [⟨none, false, (some 4), (.mov (.c (.int .u64 (0))))⟩, ⟨none, false, (some 5), (.mov (.c (.int .u64 (0))))⟩]) (.seq (.ite (.c (.bool false)) (.seq (.ops [⟨none, false, (some 11), (.mov (.s 0))⟩, ⟨none, false, (some 12), (.conv .u32 (.s 11))⟩, ⟨none, false, (some 13), (.mov (.s 1))⟩, ⟨none, false, (some 14), (.conv .u32 (.s 13))⟩, ⟨none, false, (some 15), (.call (.c (.fn 105 [])) [(.s 12), (.s 14)])⟩, ⟨none, false, (some 10), (.mov (.s 15))⟩, ⟨none, false, (some 16), (.ext (.s 10) 0)⟩, ⟨none, false, (some 17), (.ext (.s 10) 1)⟩, ⟨none, false, (some 6), (.mov (.s 16))⟩, ⟨none, false, (some 7), (.mov (.s 17))⟩]) (.seq (.ops [⟨none, false, (some 18), (.mov (.s 6))⟩, ⟨none, false, (some 19), (.conv .u64 (.s 18))⟩, ⟨none, false, (some 20), (.mov (.s 7))⟩, ⟨none, false, (some 21), (.conv .u64 (.s 20))⟩, ⟨none, false, (some 4), (.mov (.s 19))⟩, ⟨none, false, (some 5), (.mov (.s 21))⟩]) .ret)) .skip) (.seq (.ops [⟨none, false, (some 23), (.mov (.s 0))⟩, ⟨none, false, (some 24), (.mov (.s 1))⟩, ⟨none, false, (some 25), (.call (.c (.fn 106 [])) [(.s 23), (.s 24)])⟩, ⟨none, false, (some 22), (.mov (.s 25))⟩, ⟨none, false, (some 26), (.ext (.s 22) 0)⟩, ⟨none, false, (some 27), (.ext (.s 22) 1)⟩, ⟨none, false, (some 8), (.mov (.s 26))⟩, ⟨none, false, (some 9), (.mov (.s 27))⟩]) (.seq (.ops [⟨none, false, (some 28), (.mov (.s 8))⟩, ⟨none, false, (some 29), (.mov (.s 9))⟩, ⟨none, false, (some 4), (.mov (.s 28))⟩, ⟨none, false, (some 5), (.mov (.s 29))⟩]) .ret))))⟩
theorem cv92 : cvF Try.prog 92 = some F92 := by kernel_rfl

/-- slices.Repeat[[]api.Nat,api.Nat] -/
def F62 : AF := ⟨48, [(4, none)], (.seq (.ops [⟨none, false, (some 4), (.mov (.c .nils))⟩]) (.seq (.seq (.ops [⟨none, false, (some 9), (.mov (.s 1))⟩, ⟨none, false, (some 10), (.bin .lss (.s 9) (.c (.int .i64 (0))))⟩]) (.ite (.s 10) (.ops [⟨none, false, (some 11), .bad⟩, ⟨none, false, none, .bad⟩]) .skip)) (.seq (.ops [⟨none, false, (some 13), (.mov (.s 0))⟩, ⟨none, false, (some 14), (.len (.s 13))⟩, ⟨none, false, (some 15), (.conv .u64 (.s 14))⟩, ⟨none, false, (some 16), (.mov (.s 1))⟩, ⟨none, false, (some 17), (.conv .u64 (.s 16))⟩, ⟨none, false, (some 18), (.call (.c (.fn 92 [])) [(.s 15), (.s 17)])⟩, ⟨none, false, (some 12), (.mov (.s 18))⟩, ⟨none, false, (some 19), (.ext (.s 12) 0)⟩, ⟨none, false, (some 20), (.ext (.s 12) 1)⟩, ⟨none, false, (some 5), (.mov (.s 19))⟩, ⟨none, false, (some 6), (.mov (.s 20))⟩]) (.seq (.seq (.ops [⟨none, false, (some 21), (.mov (.s 5))⟩, ⟨none, false, (some 22), (.bin .gtr (.s 21) (.c (.int .u64 (0))))⟩, ⟨none, false, (some 23), (.mov (.s 22))⟩, ⟨(some (23, false)), false, (some 24), (.mov (.s 6))⟩, ⟨(some (23, false)), false, (some 25), (.bin .gtr (.s 24) (.c (.int .u64 (9223372036854775807))))⟩, ⟨none, false, (some 26), (.pick (.s 23) (.c (.bool true)) (.s 25))⟩]) (.ite (.s 26) (.ops [⟨none, false, (some 27), .bad⟩, ⟨none, false, none, .bad⟩]) .skip)) (.seq (.ops [⟨none, false, (some 28), (.mov (.s 6))⟩, ⟨none, false, (some 29), (.conv .i64 (.s 28))⟩, ⟨none, false, (some 30), (.mk 1 24 [.nils] (.s 29) (.s 29))⟩, ⟨none, false, (some 7), (.mov (.s 30))⟩]) (.seq (.ops [⟨none, false, (some 31), (.mov (.s 7))⟩, ⟨none, false, (some 32), (.mov (.s 0))⟩, ⟨none, false, (some 33), (.cpy 1 (.s 31) (.s 32))⟩, ⟨none, false, (some 8), (.mov (.s 33))⟩]) (.seq (.blk 0 (.loop (.seq (.seq (.ops [⟨none, false, (some 34), (.mov (.s 8))⟩, ⟨none, false, (some 35), (.mov (.s 7))⟩, ⟨none, false, (some 36), (.len (.s 35))⟩, ⟨none, false, (some 37), (.bin .lss (.s 34) (.s 36))⟩]) (.ite (.s 37) .skip (.exit 0))) (.blk 1 (.ops [⟨none, false, (some 38), (.mov (.s 8))⟩, ⟨none, false, (some 39), (.mov (.s 7))⟩, ⟨none, false, (some 40), (.mov (.s 8))⟩, ⟨none, false, (some 42), (.mov (.s 7))⟩, ⟨none, false, (some 43), (.mov (.s 8))⟩, ⟨none, false, (some 41), (.sli 1 (.s 39) (some (.s 40)) none none)⟩, ⟨none, false, (some 44), (.sli 1 (.s 42) none (some (.s 43)) none)⟩, ⟨none, false, (some 45), (.cpy 1 (.s 41) (.s 44))⟩, ⟨none, false, (some 46), (.bin .add (.s 38) (.s 45))⟩, ⟨none, false, (some 8), (.mov (.s 46))⟩]))))) (.seq (.ops [⟨none, false, (some 47), (.mov (.s 7))⟩, ⟨none, false, (some 4), (.mov (.s 47))⟩]) .ret))))))))⟩
theorem cv62 : cvF Try.prog 62 = some F62 := by kernel_rfl


theorem bv_and32 {a : Int} (h0 : 0 ≤ a) (h1 : a < 4294967296) : binV .and (.int .u64 a) (.int .u64 4294967295) = some (.int .u64 a) := by
  have e : (BitVec.ofInt 64 a &&& BitVec.ofInt 64 4294967295).toNat = a.toNat := by
    rw [BitVec.toNat_and, BitVec.toNat_ofInt, BitVec.toNat_ofInt]
    have e1 : ((4294967295 : Int) % ((2 ^ 64 : Nat) : Int)).toNat = 2 ^ 32 - 1 := by decide
    rw [e1, Nat.and_two_pow_sub_one_eq_mod]
    omega
  have e2 : binV .and (.int .u64 a) (.int .u64 4294967295) = some (.int .u64 (IntKind.u64.wrap ((BitVec.ofInt 64 a &&& BitVec.ofInt 64 4294967295).toNat : Int))) := Eq.trans rfl rfl
  rw [e2, e, wrap64]
  congr 2; omega
theorem wrapU {a : Int} (h0 : 0 ≤ a) (h1 : a < 18446744073709551616) : IntKind.u64.wrap a = a := by rw [wrap64]; omega

theorem Mul64_spec (n : Nat) (hn : n < 4294967296) (H : Heap) : ACalls Try.prog 106 [.int .u64 1, .int .u64 n] H fun u H' => u = .tup [.int .u64 0, .int .u64 n] ∧ H' = H := by
  refine ACalls.of_body hm cv106 (by simp only [List.length_cons, List.length_nil]; decide) ?_
  have d1 : (n : Int) / 4294967296 = 0 := by omega
  have d0 : (1 : Int) / 4294967296 = 0 := by decide
  have w0 : IntKind.u64.wrap 0 = 0 := by decide
  have w1 : IntKind.u64.wrap (n : Int) = n := wrapU (by omega) (by omega)
  have a0 : binV .and (.int .u64 0) (.int .u64 4294967295) = some (.int .u64 0) := bv_and32 (by decide) (by decide)
  simp only [F106, go_sem, ↓reduceIte, Nat.reduceEqDiff, Nat.reduceAdd, reduceCtorEq, bv_and32 (show (0 : Int) ≤ 1 by decide) (by decide), bv_and32 (show (0 : Int) ≤ n by omega) (by omega), bv_shr32, d0, d1, Int.one_mul, Int.zero_mul, Int.mul_zero, Int.add_zero, Int.zero_add, w0, w1, a0]
  exact finO_self ⟨rfl, rfl⟩
theorem bitsMul_spec (n : Nat) (hn : n < 4294967296) (H : Heap) : ACalls Try.prog 92 [.int .u64 1, .int .u64 n] H fun u H' => u = .tup [.int .u64 0, .int .u64 n] ∧ H' = H := by
  refine ACalls.of_body hm cv92 (by simp only [List.length_cons, List.length_nil]; decide) ?_
  simp only [F92, go_sem, ↓reduceIte, Nat.reduceEqDiff, Nat.reduceAdd, reduceCtorEq]
  refine callC_pure (Mul64_spec n hn _) ?_
  simp only [go_sem, ↓reduceIte, Nat.reduceEqDiff, Nat.reduceAdd, reduceCtorEq]
  exact finO_self ⟨rfl, rfl⟩

theorem sli_from {H : Heap} {N n c : Nat} {own f : Bool} {cs : List V} {k : IntKind} (h : H N = some ⟨own, 1, cs⟩) (hc : c ≤ n) : sliV H 1 (.sl N 0 n f) (some (.int k c)) none none = some (.sl N c (n - c) f) := by
  simp [sliV, cutOf, h, hc]
theorem sli_to {H : Heap} {N n c : Nat} {own f : Bool} {cs : List V} {k : IntKind} (h : H N = some ⟨own, 1, cs⟩) (hc : c ≤ n) : sliV H 1 (.sl N 0 n f) none (some (.int k c)) none = some (.sl N 0 c (f && c == n)) := by
  simp [sliV, cutOf, h, hc]
theorem cpyC_intro {H : Heap} {env : Env} {d : Option Nat} {K : Env → Heap → Prop} {s : V} {n o len : Nat} {f : Bool} {ys cells : List V} (hb : H n = some ⟨true, 1, cells⟩) (hs : cellsAt H 1 s = some ys) (hl : o + len ≤ cells.length)
    (hk : ∀ H', H' n = some ⟨true, 1, splice cells o (ys.take (min (lenV s) len))⟩ → (∀ m, m ≠ n → H' m = H m) → (∀ H0, Heap.sub H0 H → H0 n = none → Heap.sub H0 H') → K (env.put d (.int .i64 ((min (lenV s) len : Nat) : Int))) H') : cpyC H 1 (.sl n o len f) s d K env := by
  simp only [cpyC, hs, hb, Nat.mul_one]
  refine ⟨trivial, hl, ?_⟩
  have e : (min (lenV s : Int) (len : Int)) = ((min (lenV s) len : Nat) : Int) := by omega
  try rw [e]
  exact hk _ (by simp [Heap.upd]) (fun m hm => by simp [Heap.upd, hm]) fun H0 hs hn => hs.upd' hn _

theorem splice_rep {c d n : Nat} {x z : V} (hd : d ≤ c) (hn : c + d ≤ n) : splice (List.replicate c x ++ List.replicate (n - c) z) c ((List.replicate c x).take d) = List.replicate (c + d) x ++ List.replicate (n - (c + d)) z := by
  have e : (List.replicate c x).take d = List.replicate d x := by simp [List.take_replicate, Nat.min_eq_left hd]
  rw [e, splice, List.length_replicate, List.take_append_of_le_length (by simp), List.drop_append]
  simp only [List.take_replicate, List.drop_replicate, List.length_replicate, Nat.min_self]
  have e1 : c - (c + d) = 0 := by omega
  have e2 : n - c - (c + d - c) = n - (c + d) := by omega
  rw [e1, e2, List.replicate_zero, List.nil_append, List.replicate_append_replicate]
theorem Repeat_spec {u x : V} {n : Nat} {H : Heap} (hx : ∃ xb f, u = .sl xb 0 1 f ∧ H xb = some ⟨true, 1, [x]⟩) (hn : n ≤ 262144) :
    ACalls Try.prog 62 [u, .int .i64 n] H fun r H' => Heap.sub H H' ∧ ∃ m, r = .sl m 0 n true ∧ H' m = some ⟨true, 1, List.replicate n x⟩ ∧ H m = none := by
  obtain ⟨xb, xf, rfl, hxb⟩ := hx
  refine ACalls.of_body hm cv62 (by simp only [List.length_cons, List.length_nil]; decide) ?_
  have h0 : ¬ (n : Int) < 0 := by omega
  have w1 : IntKind.u64.wrap 1 = 1 := by decide
  have wn : IntKind.u64.wrap (n : Int) = n := wrapU (by omega) (by omega)
  have wi : IntKind.i64.wrap (n : Int) = n := wrapN (by omega)
  have g0 : ¬ (9223372036854775807 : Int) < n := by omega
  simp only [F62, go_sem, ↓reduceIte, Nat.reduceEqDiff, Nat.reduceAdd, reduceCtorEq, h0, Int.natCast_one, w1, wn]
  refine callC_pure (bitsMul_spec n (by omega) _) ?_
  simp only [go_sem, ↓reduceIte, Nat.reduceEqDiff, Nat.reduceAdd, reduceCtorEq, Int.lt_irrefl, g0, wi]
  refine mkC_intro (Nat.le_refl _) (by omega) (by omega) fun N H1 hN hs1 hbN => ?_
  rw [flat_rep] at hbN
  have hxb1 := hs1 _ _ hxb
  have hNx : N ≠ xb := fun e => by subst e; rw [hN] at hxb; cases hxb
  simp only [go_sem, ↓reduceIte, Nat.reduceEqDiff, Nat.reduceAdd, reduceCtorEq, beq_self_eq_true]
  have hc1 : cellsAt H1 1 (.sl xb 0 1 xf) = some [x] := by simp [cellsAt, hxb1]
  refine cpyC_intro hbN hc1 (by simp) fun H2 hb2 hf2 hs2 => ?_
  have hs02 := hs2 _ hs1 hN
  have l1 : lenV (.sl xb 0 1 xf) = 1 := rfl
  rw [l1] at hb2 ⊢
  have fin : ∀ (H' : Heap) (Q : V → Heap → Prop), Heap.sub H H' → H' N = some ⟨true, 1, List.replicate n x⟩ → (∀ r H', (Heap.sub H H' ∧ ∃ m, r = .sl m 0 n true ∧ H' m = some ⟨true, 1, List.replicate n x⟩ ∧ H m = none) → Q r H') → finO (.sl N 0 n true) H' Q := fun H' Q a b q => finO_self (q _ _ ⟨a, N, rfl, b, hN⟩)
  simp only [go_sem, ↓reduceIte, Nat.reduceEqDiff, Nat.reduceAdd, reduceCtorEq]
  refine loop_count n (fun k env H' => env 7 = .sl N 0 n true ∧ ∃ c, env 8 = .int .i64 ((c : Nat) : Int) ∧ c ≤ n ∧ (k < n → k + 1 ≤ c) ∧ (n ≤ k → c = n) ∧ Heap.sub H H' ∧ H' N = some ⟨true, 1, List.replicate c x ++ List.replicate (n - c) .nils⟩) ?_ ?_ ?_
  · simp only [go_sem, ↓reduceIte, Nat.reduceEqDiff, Nat.reduceAdd, reduceCtorEq]
    refine ⟨by trivial, min 1 n, rfl, by omega, by omega, by omega, hs02, ?_⟩
    rw [hb2]
    cases n with
    | zero => simp [splice]
    | succ m =>
      have : min 1 (m + 1) = 1 := by omega
      simp [this, splice, List.replicate_succ]
  · rintro k env H' hk ⟨h7, c, h8, hcn, hc, _, hs', hb'⟩
    have hc' := hc hk
    simp only [go_sem, ↓reduceIte, Nat.reduceEqDiff, Nat.reduceAdd, reduceCtorEq, h7, h8]
    refine iteC_if (fun hlt => ?_) (fun hlt => ?_)
    · have hcl : c < n := by omega
      simp only [go_sem, ↓reduceIte, Nat.reduceEqDiff, Nat.reduceAdd, reduceCtorEq, h7, h8, Option.map_some, Option.map_none, sli_from hb' hcn, sli_to hb' hcn]
      have hc2 : cellsAt H' 1 (.sl N 0 c (true && c == n)) = some (List.replicate c x) := by
        simp only [cellsAt, hb']
        have h0c : c ≠ 0 := by omega
        simp [h0c]
      refine cpyC_intro (o := c) (len := n - c) hb' hc2 (by simp only [List.length_append, List.length_replicate]; omega) fun H3 hb3 hf3 hs3 => ?_
      have l2 : lenV (.sl N 0 c (true && c == n)) = c := rfl
      rw [l2] at hb3 ⊢
      obtain ⟨d, hd⟩ : ∃ d, min c (n - c) = d := ⟨_, rfl⟩
      rw [hd] at hb3 ⊢
      have hwd : IntKind.i64.wrap ((c : Int) + (d : Int)) = ((c + d : Nat) : Int) := by rw [← Int.natCast_add]; exact wrapN (by omega)
      simp only [go_sem, ↓reduceIte, Nat.reduceEqDiff, Nat.reduceAdd, reduceCtorEq, h7, h8, hwd]
      refine ⟨by trivial, c + d, rfl, by omega, by omega, by omega, hs3 _ hs' hN, ?_⟩
      rw [hb3]
      rw [splice_rep (by omega) (by omega)]
    · have : c = n := by omega
      subst this
      simp only [go_sem, ↓reduceIte, Nat.reduceEqDiff, Nat.reduceAdd, reduceCtorEq, h7]
      exact finO_self ⟨hs', N, rfl, by simpa using hb', hN⟩
  · rintro env H' ⟨h7, c, h8, hcn, _, hc, hs', hb'⟩
    obtain rfl := hc (Nat.le_refl _)
    simp only [go_sem, ↓reduceIte, Nat.reduceEqDiff, Nat.reduceAdd, reduceCtorEq, h7, h8, Int.lt_irrefl]
    exact finO_self ⟨hs', N, rfl, by simpa using hb', hN⟩
end Go.AM

/- slices.xorshift.Next, nextPowerOfTwo, breakPatternsCmpFunc. Conditions: as stated. -/
set_option linter.unusedVariables false
set_option linter.unusedSimpArgs false
namespace Go.AM
open Go Go.Proofs
attribute [local go_sem] c_skip c_ops c_seq c_ite c_blk c_exit c_ret t_normal t_exit t_ret b_normal b_exit b_ret i_nil i_cons s_guard s_mov s_pick s_new s_zero s_ld s_ldr s_st s_bin s_beq s_isnil s_eqs s_un s_conv s_fa s_fld s_ia s_sli s_ext s_ifc s_mkf s_agg s_len s_mm s_nilchk s_bsl s_mk s_app s_cpy s_call s_inv cells_agg cells_int cells_bool p_get p_none o_s o_c e_0 e_1 e_2 e_3 e_4 iteC_true iteC_false grd_tt grd_tf grd_ft grd_ff grd_und bindV_some pickV_t pickV_f beq_bool conv_int un_not not_dec mm_min mm_max bv_add bv_sub bv_mul bv_eql bv_neq bv_lss bv_leq bv_gtr bv_geq f_normal f_one f_two f_three f_none fa_ptr fld_one ext_tup len_sl len_nils decide_true decide_false not_true_eq_false not_false_eq_true List.map_cons List.map_nil List.append_nil List.cons_append List.nil_append Nat.zero_add Nat.add_zero Nat.mul_one Nat.succ_ne_self if_true if_false List.getElem?_cons_zero List.getElem?_cons_succ

/-- slices.nextPowerOfTwo -/
def F129 : AF := ⟨7, [(2, none)], (.seq (.ops [⟨none, false, (some 2), (.mov (.c (.int .u64 (0))))⟩]) (.seq (.ops [⟨none, false, (some 3), (.mov (.s 0))⟩, ⟨none, false, (some 4), (.conv .u64 (.s 3))⟩, ⟨none, false, (some 5), (.call (.c (.fn 109 [])) [(.s 4)])⟩, ⟨none, false, (some 6), (.bin .shl (.c (.int .u64 (1))) (.s 5))⟩, ⟨none, false, (some 2), (.mov (.s 6))⟩]) .ret))⟩
theorem cv129 : cvF Try.prog 129 = some F129 := by kernel_rfl

/-- (*slices.xorshift).Next -/
def F130 : AF := ⟨33, [(2, none)], (.seq (.ops [⟨none, false, (some 2), (.mov (.c (.int .u64 (0))))⟩]) (.seq (.ops [⟨none, false, (some 3), (.mov (.s 0))⟩, ⟨none, false, (some 4), (.nilchk (.s 3))⟩, ⟨none, false, (some 6), (.mov (.s 0))⟩, ⟨none, false, (some 7), (.nilchk (.s 6))⟩, ⟨none, false, (some 5), (.ld false 1 (.s 4) none)⟩, ⟨none, false, (some 8), (.ld false 1 (.s 7) none)⟩, ⟨none, false, (some 9), (.bin .shl (.s 8) (.c (.int .u64 (13))))⟩, ⟨none, false, (some 10), (.bin .xor (.s 5) (.s 9))⟩, ⟨none, false, (some 11), (.nilchk (.s 3))⟩, ⟨none, false, none, (.st 1 (.s 11) (.s 10) [])⟩]) (.seq (.ops [⟨none, false, (some 12), (.mov (.s 0))⟩, ⟨none, false, (some 13), (.nilchk (.s 12))⟩, ⟨none, false, (some 15), (.mov (.s 0))⟩, ⟨none, false, (some 16), (.nilchk (.s 15))⟩, ⟨none, false, (some 14), (.ld false 1 (.s 13) none)⟩, ⟨none, false, (some 17), (.ld false 1 (.s 16) none)⟩, ⟨none, false, (some 18), (.bin .shr (.s 17) (.c (.int .u64 (7))))⟩, ⟨none, false, (some 19), (.bin .xor (.s 14) (.s 18))⟩, ⟨none, false, (some 20), (.nilchk (.s 12))⟩, ⟨none, false, none, (.st 1 (.s 20) (.s 19) [])⟩]) (.seq (.ops [⟨none, false, (some 21), (.mov (.s 0))⟩, ⟨none, false, (some 22), (.nilchk (.s 21))⟩, ⟨none, false, (some 24), (.mov (.s 0))⟩, ⟨none, false, (some 25), (.nilchk (.s 24))⟩, ⟨none, false, (some 23), (.ld false 1 (.s 22) none)⟩, ⟨none, false, (some 26), (.ld false 1 (.s 25) none)⟩, ⟨none, false, (some 27), (.bin .shl (.s 26) (.c (.int .u64 (17))))⟩, ⟨none, false, (some 28), (.bin .xor (.s 23) (.s 27))⟩, ⟨none, false, (some 29), (.nilchk (.s 21))⟩, ⟨none, false, none, (.st 1 (.s 29) (.s 28) [])⟩]) (.seq (.ops [⟨none, false, (some 30), (.mov (.s 0))⟩, ⟨none, false, (some 31), (.nilchk (.s 30))⟩, ⟨none, false, (some 32), (.ld false 1 (.s 31) none)⟩, ⟨none, false, (some 2), (.mov (.s 32))⟩]) .ret)))))⟩
theorem cv130 : cvF Try.prog 130 = some F130 := by kernel_rfl

/-- slices.breakPatternsCmpFunc[int], of elements of any size -/
def bpC (k : Nat) (ag : Bool) : AF := ⟨67, [], (.seq (.ops [⟨none, false, (some 13), (.mov (.s 2))⟩, ⟨none, false, (some 14), (.mov (.s 1))⟩, ⟨none, false, (some 15), (.bin .sub (.s 13) (.s 14))⟩, ⟨none, false, (some 8), (.mov (.s 15))⟩]) (.seq (.ops [⟨none, false, (some 16), (.mov (.s 8))⟩, ⟨none, false, (some 17), (.bin .geq (.s 16) (.c (.int .i64 (8))))⟩]) (.ite (.s 17) (.seq (.ops [⟨none, false, (some 18), (.mov (.s 8))⟩, ⟨none, false, (some 19), (.conv .u64 (.s 18))⟩, ⟨none, false, (some 9), (.zero [(.int .u64 (0))])⟩, ⟨none, false, none, (.st 1 (.s 9) (.s 19) [])⟩]) (.seq (.ops [⟨none, false, (some 20), (.mov (.s 8))⟩, ⟨none, false, (some 21), (.call (.c (.fn 129 [])) [(.s 20)])⟩, ⟨none, false, (some 10), (.mov (.s 21))⟩]) (.seq (.ops [⟨none, false, (some 22), (.mov (.s 1))⟩, ⟨none, false, (some 23), (.mov (.s 8))⟩, ⟨none, false, (some 24), (.bin .quo (.s 23) (.c (.int .i64 (4))))⟩, ⟨none, false, (some 25), (.bin .mul (.s 24) (.c (.int .i64 (2))))⟩, ⟨none, false, (some 26), (.bin .add (.s 22) (.s 25))⟩, ⟨none, false, (some 27), (.bin .sub (.s 26) (.c (.int .i64 (1))))⟩, ⟨none, false, (some 11), (.mov (.s 27))⟩]) (.blk 0 (.loop (.seq (.seq (.ops [⟨none, false, (some 28), (.mov (.s 11))⟩, ⟨none, false, (some 29), (.mov (.s 1))⟩, ⟨none, false, (some 30), (.mov (.s 8))⟩, ⟨none, false, (some 31), (.bin .quo (.s 30) (.c (.int .i64 (4))))⟩, ⟨none, false, (some 32), (.bin .mul (.s 31) (.c (.int .i64 (2))))⟩, ⟨none, false, (some 33), (.bin .add (.s 29) (.s 32))⟩, ⟨none, false, (some 34), (.bin .add (.s 33) (.c (.int .i64 (1))))⟩, ⟨none, false, (some 35), (.bin .leq (.s 28) (.s 34))⟩]) (.ite (.s 35) .skip (.exit 0))) (.seq (.blk 1 (.seq (.ops [⟨none, false, (some 38), (.call (.c (.fn 130 [])) [(.s 9)])⟩, ⟨none, false, (some 39), (.mov (.s 10))⟩, ⟨none, false, (some 40), (.bin .sub (.s 39) (.c (.int .u64 (1))))⟩, ⟨none, false, (some 41), (.bin .and (.s 38) (.s 40))⟩, ⟨none, false, (some 42), (.conv .i64 (.s 41))⟩, ⟨none, false, (some 12), (.mov (.s 42))⟩]) (.seq (.seq (.ops [⟨none, false, (some 43), (.mov (.s 12))⟩, ⟨none, false, (some 44), (.mov (.s 8))⟩, ⟨none, false, (some 45), (.bin .geq (.s 43) (.s 44))⟩]) (.ite (.s 45) (.ops [⟨none, false, (some 46), (.mov (.s 12))⟩, ⟨none, false, (some 47), (.mov (.s 8))⟩, ⟨none, false, (some 48), (.bin .sub (.s 46) (.s 47))⟩, ⟨none, false, (some 12), (.mov (.s 48))⟩]) .skip)) (.ops [⟨none, false, (some 49), (.mov (.s 0))⟩, ⟨none, false, (some 50), (.mov (.s 11))⟩, ⟨none, false, (some 51), (.mov (.s 0))⟩, ⟨none, false, (some 52), (.mov (.s 1))⟩, ⟨none, false, (some 53), (.mov (.s 12))⟩, ⟨none, false, (some 54), (.bin .add (.s 52) (.s 53))⟩, ⟨none, false, (some 55), (.mov (.s 0))⟩, ⟨none, false, (some 56), (.mov (.s 1))⟩, ⟨none, false, (some 57), (.mov (.s 12))⟩, ⟨none, false, (some 58), (.bin .add (.s 56) (.s 57))⟩, ⟨none, false, (some 59), (.ia k (.s 55) (.s 58))⟩, ⟨none, false, (some 61), (.mov (.s 0))⟩, ⟨none, false, (some 62), (.mov (.s 11))⟩, ⟨none, false, (some 63), (.ia k (.s 61) (.s 62))⟩, ⟨none, false, (some 60), (.ld ag k (.s 59) none)⟩, ⟨none, false, (some 64), (.ld ag k (.s 63) none)⟩, ⟨none, false, (some 65), (.ia k (.s 49) (.s 50))⟩, ⟨none, false, none, (.st k (.s 65) (.s 60) [])⟩, ⟨none, false, (some 66), (.ia k (.s 51) (.s 54))⟩, ⟨none, false, none, (.st k (.s 66) (.s 64) [])⟩])))) (.ops [⟨none, false, (some 36), (.mov (.s 11))⟩, ⟨none, false, (some 37), (.bin .add (.s 36) (.c (.int .i64 (1))))⟩, ⟨none, false, (some 11), (.mov (.s 37))⟩])))))))) .skip)))⟩

theorem bv_xor (a b : Int) : ∃ r, binV .xor (.int .u64 a) (.int .u64 b) = some (.int .u64 r) := ⟨_, Eq.trans rfl rfl⟩
theorem bv_shl13 (a : Int) : ∃ r, binV .shl (.int .u64 a) (.int .u64 13) = some (.int .u64 r) := ⟨_, Eq.trans rfl rfl⟩
theorem bv_shl17 (a : Int) : ∃ r, binV .shl (.int .u64 a) (.int .u64 17) = some (.int .u64 r) := ⟨_, Eq.trans rfl rfl⟩
theorem bv_shr7 (a : Int) : ∃ r, binV .shr (.int .u64 a) (.int .u64 7) = some (.int .u64 r) := ⟨_, Eq.trans rfl rfl⟩
theorem bv_and_le (a : Int) {m : Int} (h0 : 0 ≤ m) (h1 : m < 18446744073709551616) : ∃ r, binV .and (.int .u64 a) (.int .u64 m) = some (.int .u64 r) ∧ 0 ≤ r ∧ r ≤ m := by
  refine ⟨IntKind.u64.wrap ((BitVec.ofInt 64 a &&& BitVec.ofInt 64 m).toNat : Int), Eq.trans rfl rfl, ?_⟩
  have e : (BitVec.ofInt 64 a &&& BitVec.ofInt 64 m).toNat ≤ m.toNat := by
    rw [BitVec.toNat_and, BitVec.toNat_ofInt, BitVec.toNat_ofInt]
    refine Nat.le_trans Nat.and_le_right ?_
    omega
  rw [wrap64]
  omega
theorem bv_shlP {L : Nat} (h : L ≤ 63) : binV .shl (.int .u64 1) (.int .i64 (L : Int)) = some (.int .u64 ((2 ^ L : Nat) : Int)) := by
  have e : min L 64 = L := Nat.min_eq_left (by omega)
  have e2 : (2 : Nat) ^ L < 2 ^ 64 := Nat.pow_lt_pow_right (by decide) (by omega)
  have e4 : (((2 ^ L : Nat)) : Int) = (2 : Int) ^ L := by simp
  have e3 : IntKind.u64.wrap (2 ^ L) = ((2 ^ L : Nat) : Int) := by
    rw [wrap64, ← e4]
    have h64 : (2 : Nat) ^ 64 = 18446744073709551616 := by decide
    generalize 2 ^ L = p at *
    omega
  simp [binV, IntKind.bits, e, e3]

theorem Next_spec {K : Heap} {sb : Nat} {s : Int} (hb : K sb = some ⟨true, 1, [.int .u64 s]⟩) : ACalls Try.prog 130 [.ptr sb 0] K fun u H' => ∃ r, u = .int .u64 r ∧ H' = bx K sb .u64 r := by
  refine ACalls.of_body hm cv130 (by simp only [List.length_cons, List.length_nil]; decide) ?_
  rw [show K = bx K sb .u64 s by
    funext m
    by_cases e : m = sb
    · subst e; rw [bx_at]; exact hb
    · rw [bx_ne _ _ _ e]]
  obtain ⟨r1, e1⟩ := bv_shl13 s
  obtain ⟨r2, e2⟩ := bv_xor s r1
  obtain ⟨r3, e3⟩ := bv_shr7 r2
  obtain ⟨r4, e4⟩ := bv_xor r2 r3
  obtain ⟨r5, e5⟩ := bv_shl17 r4
  obtain ⟨r6, e6⟩ := bv_xor r4 r5
  simp only [F130, go_sem, ↓reduceIte, Nat.reduceEqDiff, Nat.reduceAdd, reduceCtorEq, pv, ld_box (bx_at K sb .u64 s), e1, e2]
  refine bx_st ?_
  simp only [go_sem, ↓reduceIte, Nat.reduceEqDiff, Nat.reduceAdd, reduceCtorEq, pv, ld_box (bx_at K sb .u64 r2), e3, e4]
  refine bx_st ?_
  simp only [go_sem, ↓reduceIte, Nat.reduceEqDiff, Nat.reduceAdd, reduceCtorEq, pv, ld_box (bx_at K sb .u64 r4), e5, e6]
  refine bx_st ?_
  simp only [go_sem, ↓reduceIte, Nat.reduceEqDiff, Nat.reduceAdd, reduceCtorEq, pv, ld_box (bx_at K sb .u64 r6)]
  exact finO_self ⟨r6, rfl, by rw [show bx (bx K sb .u64 s) sb .u64 r6 = bx K sb .u64 r6 from bx_bx K sb .u64 s r6]⟩
theorem nextPow_spec {l : Nat} (h0 : 0 < l) (hl : l ≤ 1099511627776) (H : Heap) : ACalls Try.prog 129 [.int .i64 l] H fun u H' => (∃ M : Nat, u = .int .u64 M ∧ l < M ∧ M ≤ 2 * l) ∧ H' = H := by
  refine ACalls.of_body hm cv129 (by simp only [List.length_cons, List.length_nil]; decide) ?_
  obtain ⟨b1, b2⟩ := bitLen_bounds (x := l) (by omega)
  have b2 := b2 (by omega)
  have hL : Lib.bitLen l ≤ 63 := by
    have : (2 : Nat) ^ Lib.bitLen l < 2 ^ 64 := by
      have : (2 : Nat) ^ 64 = 18446744073709551616 := by decide
      omega
    have := (Nat.pow_lt_pow_iff_right (by decide : 1 < 2)).1 this
    omega
  have w0 : IntKind.u64.wrap (l : Int) = (l : Int) := by rw [wrap64]; omega
  simp only [F129, go_sem, ↓reduceIte, Nat.reduceEqDiff, Nat.reduceAdd, reduceCtorEq, w0]
  refine callC_pure (Len_spec (x := (l : Int)) (by omega) (by omega) _) ?_
  simp only [go_sem, ↓reduceIte, Nat.reduceEqDiff, Nat.reduceAdd, reduceCtorEq, Int.toNat_natCast, bv_shlP hL]
  exact finO_self ⟨⟨2 ^ Lib.bitLen l, rfl, b1, b2⟩, rfl⟩

section
variable {α : Type} {k : Nat} {ag : Bool} {E : Elem α k ag} {H : Heap}
theorem bx_put {A : Heap} {N sb : Nat} (hne : N ≠ sb) (kd : IntKind) (s : Int) (ys : List α) : bx (E.put A N ys) sb kd s = E.put (bx A sb kd s) N ys := by
  funext m
  simp only [bx, Elem.put, Heap.upd]
  by_cases h1 : m = sb
  · subst h1; simp [Ne.symm hne]
  · simp [h1]
theorem breakPatterns_spec {f N n a b : Nat} {fl : Bool} {xs : List α} {cv : V} (hcv : cvF Try.prog f = some (bpC k ag)) (hn : xs.length = n) (hn2 : n ≤ 1099511627776) (hab : a + 12 < b) (hb : b ≤ n) :
    ACalls Try.prog f [.sl N 0 n fl, .int .i64 a, .int .i64 b, cv] (E.put H N xs) fun u H' => ∃ ys, H' = E.put H N ys ∧ PermIn a b xs ys := by
  refine ACalls.of_body hm hcv (by simp [bpC]) ?_
  obtain ⟨l, hl⟩ : ∃ l, b = a + l := ⟨b - a, by omega⟩
  obtain ⟨q, hq⟩ : ∃ q, q + 1 = l / 4 := ⟨l / 4 - 1, by omega⟩
  have w0 : IntKind.i64.wrap ((b : Int) - a) = (l : Int) := by rw [wrapI (by omega) (by omega)]; omega
  have e0 : (l : Int) / 4 = ((q + 1 : Nat) : Int) := by omega
  have w1 : IntKind.i64.wrap (((q + 1 : Nat) : Int) * 2) = ((2 * (q + 1) : Nat) : Int) := by rw [wrapI (by omega) (by omega)]; omega
  have w2 : IntKind.i64.wrap ((a : Int) + ((2 * (q + 1) : Nat) : Int)) = ((a + 2 * (q + 1) : Nat) : Int) := by rw [wrapI (by omega) (by omega)]; omega
  have w3 : IntKind.i64.wrap (((a + 2 * (q + 1) : Nat) : Int) - 1) = ((a + 2 * q + 1 : Nat) : Int) := by rw [wrapI (by omega) (by omega)]; omega
  have w4 : IntKind.i64.wrap (((a + 2 * (q + 1) : Nat) : Int) + 1) = ((a + 2 * q + 3 : Nat) : Int) := by rw [wrapI (by omega) (by omega)]; omega
  have g8 : (8 : Int) ≤ (l : Int) := by omega
  have wl : IntKind.u64.wrap (l : Int) = (l : Int) := by rw [wrap64]; omega
  have hq4 := bv_quoI4 (a := (l : Int)) (by omega) (by omega)
  simp only [bpC, go_sem, ↓reduceIte, Nat.reduceEqDiff, Nat.reduceAdd, reduceCtorEq, w0, g8, wl]
  refine newC_intro fun sb H1 hn1 hs1 hb1 => ?_
  have hne : N ≠ sb := fun e => by rw [← e, E.put_at] at hn1; cases hn1
  have hH1 : H1 = E.put (bx H1 sb .u64 0) N xs := by
    funext m
    by_cases e : m = N
    · subst e; rw [E.put_at]; exact hs1 _ _ (E.put_at H _ xs)
    · rw [E.put_ne _ _ e]
      by_cases e2 : m = sb
      · subst e2; rw [bx_at]; exact hb1
      · rw [bx_ne _ _ _ e2]
  have back : ∀ (s : Int) (ys : List α), Heap.sub (E.put H N ys) (E.put (bx H1 sb .u64 s) N ys) := by
    intro s ys m c hc
    by_cases e : m = N
    · subst e; rw [E.put_at] at hc ⊢; exact hc
    · rw [E.put_ne _ _ e] at hc ⊢
      have hx : E.put H N xs m = some c := by rw [E.put_ne _ _ e]; exact hc
      have e2 : m ≠ sb := fun e2 => by rw [e2, hn1] at hx; cases hx
      rw [bx_ne _ _ _ e2]
      exact hs1 _ _ hx
  rw [hH1]
  simp only [go_sem, ↓reduceIte, Nat.reduceEqDiff, Nat.reduceAdd, reduceCtorEq]
  rw [← bx_put hne]
  refine bx_st ?_
  simp only [go_sem, ↓reduceIte, Nat.reduceEqDiff, Nat.reduceAdd, reduceCtorEq]
  rw [bx_put hne]
  refine callC_any (nextPow_spec (l := l) (by omega) (by omega) _) ?_
  rintro u H' ⟨⟨M, rfl, m1, m2⟩, rfl⟩
  simp only [go_sem, ↓reduceIte, Nat.reduceEqDiff, Nat.reduceAdd, reduceCtorEq, hq4, e0, w1, w2, w3]
  refine loop_count 3 (fun t env H' => env 0 = .sl N 0 n fl ∧ env 1 = .int .i64 a ∧ env 8 = .int .i64 l ∧ env 9 = .ptr sb 0 ∧ env 10 = .int .u64 M ∧ env 11 = .int .i64 ((a + 2 * q + 1 + t : Nat) : Int) ∧ ∃ s ys, H' = E.put (bx H1 sb .u64 s) N ys ∧ PermIn a b xs ys) ?_ ?_ ?_
  · simp only [go_sem, ↓reduceIte, Nat.reduceEqDiff, Nat.reduceAdd, reduceCtorEq]
    exact ⟨by first | rfl | trivial, by first | rfl | trivial, by first | rfl | trivial, by first | rfl | trivial, by first | rfl | trivial, by first | rfl | trivial, _, xs, rfl, .refl _⟩
  · rintro t env H' ht ⟨h0, h1, h8, h9, h10, h11, s, ys, rfl, hp⟩
    have hl2 := hp.length
    have c : ((a + 2 * q + 1 + t : Nat) : Int) ≤ ((a + 2 * q + 3 : Nat) : Int) := by omega
    simp only [go_sem, ↓reduceIte, Nat.reduceEqDiff, Nat.reduceAdd, reduceCtorEq, h0, h1, h8, h9, h10, h11, hq4, e0, w1, w2, w4, c]
    refine callC_any (Next_spec (K := E.put (bx H1 sb .u64 s) N ys) (s := s) (by rw [E.put_ne _ _ (Ne.symm hne), bx_at])) ?_
    rintro u H' ⟨r, rfl, rfl⟩
    have wm : IntKind.u64.wrap ((M : Int) - 1) = ((M - 1 : Nat) : Int) := by rw [wrap64]; omega
    obtain ⟨o, ho, o1, o2⟩ := bv_and_le r (m := ((M - 1 : Nat) : Int)) (by omega) (by omega)
    have wo : IntKind.i64.wrap o = o := wrapI (by omega) (by omega)
    have hx : bx (E.put (bx H1 sb .u64 s) N ys) sb .u64 r = E.put (bx H1 sb .u64 r) N ys := by
      rw [bx_put hne, show bx (bx H1 sb .u64 s) sb .u64 r = bx H1 sb .u64 r from bx_bx H1 sb .u64 s r]
    rw [hx]
    simp only [go_sem, ↓reduceIte, Nat.reduceEqDiff, Nat.reduceAdd, reduceCtorEq, h0, h1, h8, h9, h10, h11, wm, ho, wo]
    refine iteC_join (fun env' H' => env' 0 = .sl N 0 n fl ∧ env' 1 = .int .i64 a ∧ env' 8 = .int .i64 l ∧ env' 9 = .ptr sb 0 ∧ env' 10 = .int .u64 M ∧ env' 11 = .int .i64 ((a + 2 * q + 1 + t : Nat) : Int) ∧ (∃ o : Nat, env' 12 = .int .i64 o ∧ o < l) ∧ H' = E.put (bx H1 sb .u64 r) N ys) ?_ ?_ ?_
    · intro c
      simp only [go_sem, ↓reduceIte, Nat.reduceEqDiff, Nat.reduceAdd, reduceCtorEq, h0, h1, h8, h9, h10, h11]
      have w : IntKind.i64.wrap (o - (l : Int)) = ((o - l).toNat : Int) := by rw [wrapI (by omega) (by omega)]; omega
      rw [w]
      exact ⟨by first | rfl | trivial, by first | rfl | trivial, by first | rfl | trivial, by first | rfl | trivial, by first | rfl | trivial, by first | rfl | trivial, ⟨_, rfl, by omega⟩, by first | rfl | trivial⟩
    · intro c
      simp only [go_sem, ↓reduceIte, Nat.reduceEqDiff, Nat.reduceAdd, reduceCtorEq, h0, h1, h8, h9, h10, h11]
      exact ⟨by first | rfl | trivial, by first | rfl | trivial, by first | rfl | trivial, by first | rfl | trivial, by first | rfl | trivial, by first | rfl | trivial, ⟨o.toNat, congrArg (V.int .i64) (by omega), by omega⟩, by first | rfl | trivial⟩
    rintro env H' ⟨h0, h1, h8, h9, h10, h11, ⟨o, h12, ho⟩, rfl⟩
    obtain ⟨i, hi⟩ : ∃ i, i = a + 2 * q + 1 + t := ⟨_, rfl⟩
    have hwi : IntKind.i64.wrap ((i : Int) + 1) = ((a + 2 * q + 1 + (t + 1) : Nat) : Int) := by rw [wrapN1 (by omega)]; omega
    rw [← hi] at h11
    have wa : IntKind.i64.wrap ((a : Int) + (o : Int)) = ((a + o : Nat) : Int) := by rw [wrapI (by omega) (by omega)]; omega
    have hr1 := E.read (E.put_at (bx H1 sb .u64 r) N ys) (i := i) (by omega)
    have hr2 := E.read (E.put_at (bx H1 sb .u64 r) N ys) (i := a + o) (by omega)
    simp only [go_sem, ↓reduceIte, Nat.reduceEqDiff, Nat.reduceAdd, reduceCtorEq, h0, h1, h8, h9, h10, h11, h12, wa, ia_el (show i < n by omega), ia_el (show a + o < n by omega), hr1, hr2]
    refine E.st (i := i) (xs := ys) (by omega) ?_
    simp only [go_sem, ↓reduceIte, Nat.reduceEqDiff, Nat.reduceAdd, reduceCtorEq, ia_el (show a + o < n by omega)]
    refine E.st (i := a + o) (xs := ys.set i ys[a + o]) (by rw [List.length_set]; omega) ?_
    rw [show (ys.set i ys[a + o]).set (a + o) ys[i] = swapL ys i (a + o) from (swapL_eq (by omega) (by omega)).symm]
    simp only [go_sem, ↓reduceIte, Nat.reduceEqDiff, Nat.reduceAdd, reduceCtorEq, h0, h1, h8, h9, h10, h11, h12, hwi]
    exact ⟨by first | rfl | trivial, by first | rfl | trivial, by first | rfl | trivial, by first | rfl | trivial, by first | rfl | trivial, by first | rfl | trivial, r, _, rfl, hp.trans (.one _ _ (by omega) (by omega) (by omega) (by omega) (by omega) (by omega))⟩
  · rintro env H' ⟨h0, h1, h8, h9, h10, h11, s, ys, rfl, hp⟩
    have c : ¬ ((a + 2 * q + 1 + 3 : Nat) : Int) ≤ ((a + 2 * q + 3 : Nat) : Int) := by omega
    simp only [go_sem, ↓reduceIte, Nat.reduceEqDiff, Nat.reduceAdd, reduceCtorEq, h0, h1, h8, h9, h10, h11, hq4, e0, w1, w2, w4, c]
    exact finO_sub (back s ys) ⟨ys, rfl, hp⟩
end
end Go.AM

/- slices.partialInsertionSortCmpFunc. Conditions: as stated. -/
set_option linter.unusedVariables false
set_option linter.unusedSimpArgs false
namespace Go.AM
open Go Go.Proofs
attribute [local go_sem] c_skip c_ops c_seq c_ite c_blk c_exit c_ret t_normal t_exit t_ret b_normal b_exit b_ret i_nil i_cons s_guard s_mov s_pick s_new s_zero s_ld s_ldr s_st s_bin s_beq s_isnil s_eqs s_un s_conv s_fa s_fld s_ia s_sli s_ext s_ifc s_mkf s_agg s_len s_mm s_nilchk s_bsl s_mk s_app s_cpy s_call s_inv cells_agg cells_int cells_bool p_get p_none o_s o_c e_0 e_1 e_2 e_3 e_4 iteC_true iteC_false grd_tt grd_tf grd_ft grd_ff grd_und bindV_some pickV_t pickV_f beq_bool conv_int un_not not_dec mm_min mm_max bv_add bv_sub bv_mul bv_eql bv_neq bv_lss bv_leq bv_gtr bv_geq f_normal f_one f_two f_three f_none fa_ptr fld_one ext_tup len_sl len_nils decide_true decide_false not_true_eq_false not_false_eq_true List.map_cons List.map_nil List.append_nil List.cons_append List.nil_append Nat.zero_add Nat.add_zero Nat.mul_one Nat.succ_ne_self if_true if_false List.getElem?_cons_zero List.getElem?_cons_succ

/-- slices.partialInsertionSortCmpFunc[int], of elements of any size -/
def piC (k : Nat) (ag : Bool) : AF := ⟨141, [(8, none)], (.seq (.ops [⟨none, false, (some 8), (.mov (.c (.bool false)))⟩]) (.seq (.ops [⟨none, false, (some 13), (.mov (.s 1))⟩, ⟨none, false, (some 14), (.bin .add (.s 13) (.c (.int .i64 (1))))⟩, ⟨none, false, (some 9), (.mov (.s 14))⟩]) (.seq (.seq (.ops [⟨none, false, (some 10), (.mov (.c (.int .i64 (0))))⟩]) (.blk 0 (.loop (.seq (.seq (.ops [⟨none, false, (some 15), (.mov (.s 10))⟩, ⟨none, false, (some 16), (.bin .lss (.s 15) (.c (.int .i64 (5))))⟩]) (.ite (.s 16) .skip (.exit 0))) (.seq (.blk 1 (.seq (.blk 2 (.loop (.seq (.seq (.ops [⟨none, false, (some 19), (.mov (.s 9))⟩, ⟨none, false, (some 20), (.mov (.s 2))⟩, ⟨none, false, (some 21), (.bin .lss (.s 19) (.s 20))⟩, ⟨none, false, (some 22), (.mov (.s 21))⟩, ⟨(some (22, true)), false, (some 23), (.mov (.s 3))⟩, ⟨(some (22, true)), false, (some 24), (.mov (.s 0))⟩, ⟨(some (22, true)), false, (some 25), (.mov (.s 9))⟩, ⟨(some (22, true)), false, (some 26), (.ia k (.s 24) (.s 25))⟩, ⟨(some (22, true)), false, (some 28), (.mov (.s 0))⟩, ⟨(some (22, true)), false, (some 29), (.mov (.s 9))⟩, ⟨(some (22, true)), false, (some 30), (.bin .sub (.s 29) (.c (.int .i64 (1))))⟩, ⟨(some (22, true)), false, (some 31), (.ia k (.s 28) (.s 30))⟩, ⟨(some (22, true)), false, (some 27), (.ld ag k (.s 26) none)⟩, ⟨(some (22, true)), false, (some 32), (.ld ag k (.s 31) none)⟩, ⟨(some (22, true)), false, (some 33), (.call (.s 23) [(.s 27), (.s 32)])⟩, ⟨(some (22, true)), false, (some 34), (.bin .lss (.s 33) (.c (.int .i64 (0))))⟩, ⟨(some (22, true)), false, (some 35), (.un .not (.s 34))⟩, ⟨none, false, (some 36), (.pick (.s 22) (.s 35) (.c (.bool false)))⟩]) (.ite (.s 36) .skip (.exit 2))) (.blk 3 (.ops [⟨none, false, (some 37), (.mov (.s 9))⟩, ⟨none, false, (some 38), (.bin .add (.s 37) (.c (.int .i64 (1))))⟩, ⟨none, false, (some 9), (.mov (.s 38))⟩]))))) (.seq (.seq (.ops [⟨none, false, (some 39), (.mov (.s 9))⟩, ⟨none, false, (some 40), (.mov (.s 2))⟩, ⟨none, false, (some 41), (.bin .eql (.s 39) (.s 40))⟩]) (.ite (.s 41) (.seq (.ops [⟨none, false, (some 8), (.mov (.c (.bool true)))⟩]) .ret) .skip)) (.seq (.seq (.ops [⟨none, false, (some 42), (.mov (.s 2))⟩, ⟨none, false, (some 43), (.mov (.s 1))⟩, ⟨none, false, (some 44), (.bin .sub (.s 42) (.s 43))⟩, ⟨none, false, (some 45), (.bin .lss (.s 44) (.c (.int .i64 (50))))⟩]) (.ite (.s 45) (.seq (.ops [⟨none, false, (some 8), (.mov (.c (.bool false)))⟩]) .ret) .skip)) (.seq (.ops [⟨none, false, (some 46), (.mov (.s 0))⟩, ⟨none, false, (some 47), (.mov (.s 9))⟩, ⟨none, false, (some 48), (.mov (.s 0))⟩, ⟨none, false, (some 49), (.mov (.s 9))⟩, ⟨none, false, (some 50), (.bin .sub (.s 49) (.c (.int .i64 (1))))⟩, ⟨none, false, (some 51), (.mov (.s 0))⟩, ⟨none, false, (some 52), (.mov (.s 9))⟩, ⟨none, false, (some 53), (.bin .sub (.s 52) (.c (.int .i64 (1))))⟩, ⟨none, false, (some 54), (.ia k (.s 51) (.s 53))⟩, ⟨none, false, (some 56), (.mov (.s 0))⟩, ⟨none, false, (some 57), (.mov (.s 9))⟩, ⟨none, false, (some 58), (.ia k (.s 56) (.s 57))⟩, ⟨none, false, (some 55), (.ld ag k (.s 54) none)⟩, ⟨none, false, (some 59), (.ld ag k (.s 58) none)⟩, ⟨none, false, (some 60), (.ia k (.s 46) (.s 47))⟩, ⟨none, false, none, (.st k (.s 60) (.s 55) [])⟩, ⟨none, false, (some 61), (.ia k (.s 48) (.s 50))⟩, ⟨none, false, none, (.st k (.s 61) (.s 59) [])⟩]) (.seq (.seq (.ops [⟨none, false, (some 62), (.mov (.s 9))⟩, ⟨none, false, (some 63), (.mov (.s 1))⟩, ⟨none, false, (some 64), (.bin .sub (.s 62) (.s 63))⟩, ⟨none, false, (some 65), (.bin .geq (.s 64) (.c (.int .i64 (2))))⟩]) (.ite (.s 65) (.seq (.ops [⟨none, false, (some 66), (.mov (.s 9))⟩, ⟨none, false, (some 67), (.bin .sub (.s 66) (.c (.int .i64 (1))))⟩, ⟨none, false, (some 11), (.mov (.s 67))⟩]) (.blk 4 (.loop (.seq (.seq (.ops [⟨none, false, (some 68), (.mov (.s 11))⟩, ⟨none, false, (some 69), (.bin .geq (.s 68) (.c (.int .i64 (1))))⟩]) (.ite (.s 69) .skip (.exit 4))) (.seq (.blk 5 (.seq (.seq (.ops [⟨none, false, (some 72), (.mov (.s 3))⟩, ⟨none, false, (some 73), (.mov (.s 0))⟩, ⟨none, false, (some 74), (.mov (.s 11))⟩, ⟨none, false, (some 75), (.ia k (.s 73) (.s 74))⟩, ⟨none, false, (some 77), (.mov (.s 0))⟩, ⟨none, false, (some 78), (.mov (.s 11))⟩, ⟨none, false, (some 79), (.bin .sub (.s 78) (.c (.int .i64 (1))))⟩, ⟨none, false, (some 80), (.ia k (.s 77) (.s 79))⟩, ⟨none, false, (some 76), (.ld ag k (.s 75) none)⟩, ⟨none, false, (some 81), (.ld ag k (.s 80) none)⟩, ⟨none, false, (some 82), (.call (.s 72) [(.s 76), (.s 81)])⟩, ⟨none, false, (some 83), (.bin .lss (.s 82) (.c (.int .i64 (0))))⟩, ⟨none, false, (some 84), (.un .not (.s 83))⟩]) (.ite (.s 84) (.exit 4) .skip)) (.ops [⟨none, false, (some 85), (.mov (.s 0))⟩, ⟨none, false, (some 86), (.mov (.s 11))⟩, ⟨none, false, (some 87), (.mov (.s 0))⟩, ⟨none, false, (some 88), (.mov (.s 11))⟩, ⟨none, false, (some 89), (.bin .sub (.s 88) (.c (.int .i64 (1))))⟩, ⟨none, false, (some 90), (.mov (.s 0))⟩, ⟨none, false, (some 91), (.mov (.s 11))⟩, ⟨none, false, (some 92), (.bin .sub (.s 91) (.c (.int .i64 (1))))⟩, ⟨none, false, (some 93), (.ia k (.s 90) (.s 92))⟩, ⟨none, false, (some 95), (.mov (.s 0))⟩, ⟨none, false, (some 96), (.mov (.s 11))⟩, ⟨none, false, (some 97), (.ia k (.s 95) (.s 96))⟩, ⟨none, false, (some 94), (.ld ag k (.s 93) none)⟩, ⟨none, false, (some 98), (.ld ag k (.s 97) none)⟩, ⟨none, false, (some 99), (.ia k (.s 85) (.s 86))⟩, ⟨none, false, none, (.st k (.s 99) (.s 94) [])⟩, ⟨none, false, (some 100), (.ia k (.s 87) (.s 89))⟩, ⟨none, false, none, (.st k (.s 100) (.s 98) [])⟩]))) (.ops [⟨none, false, (some 70), (.mov (.s 11))⟩, ⟨none, false, (some 71), (.bin .sub (.s 70) (.c (.int .i64 (1))))⟩, ⟨none, false, (some 11), (.mov (.s 71))⟩])))))) .skip)) (.seq (.ops [⟨none, false, (some 101), (.mov (.s 2))⟩, ⟨none, false, (some 102), (.mov (.s 9))⟩, ⟨none, false, (some 103), (.bin .sub (.s 101) (.s 102))⟩, ⟨none, false, (some 104), (.bin .geq (.s 103) (.c (.int .i64 (2))))⟩]) (.ite (.s 104) (.seq (.ops [⟨none, false, (some 105), (.mov (.s 9))⟩, ⟨none, false, (some 106), (.bin .add (.s 105) (.c (.int .i64 (1))))⟩, ⟨none, false, (some 12), (.mov (.s 106))⟩]) (.blk 6 (.loop (.seq (.seq (.ops [⟨none, false, (some 107), (.mov (.s 12))⟩, ⟨none, false, (some 108), (.mov (.s 2))⟩, ⟨none, false, (some 109), (.bin .lss (.s 107) (.s 108))⟩]) (.ite (.s 109) .skip (.exit 6))) (.seq (.blk 7 (.seq (.seq (.ops [⟨none, false, (some 112), (.mov (.s 3))⟩, ⟨none, false, (some 113), (.mov (.s 0))⟩, ⟨none, false, (some 114), (.mov (.s 12))⟩, ⟨none, false, (some 115), (.ia k (.s 113) (.s 114))⟩, ⟨none, false, (some 117), (.mov (.s 0))⟩, ⟨none, false, (some 118), (.mov (.s 12))⟩, ⟨none, false, (some 119), (.bin .sub (.s 118) (.c (.int .i64 (1))))⟩, ⟨none, false, (some 120), (.ia k (.s 117) (.s 119))⟩, ⟨none, false, (some 116), (.ld ag k (.s 115) none)⟩, ⟨none, false, (some 121), (.ld ag k (.s 120) none)⟩, ⟨none, false, (some 122), (.call (.s 112) [(.s 116), (.s 121)])⟩, ⟨none, false, (some 123), (.bin .lss (.s 122) (.c (.int .i64 (0))))⟩, ⟨none, false, (some 124), (.un .not (.s 123))⟩]) (.ite (.s 124) (.exit 6) .skip)) (.ops [⟨none, false, (some 125), (.mov (.s 0))⟩, ⟨none, false, (some 126), (.mov (.s 12))⟩, ⟨none, false, (some 127), (.mov (.s 0))⟩, ⟨none, false, (some 128), (.mov (.s 12))⟩, ⟨none, false, (some 129), (.bin .sub (.s 128) (.c (.int .i64 (1))))⟩, ⟨none, false, (some 130), (.mov (.s 0))⟩, ⟨none, false, (some 131), (.mov (.s 12))⟩, ⟨none, false, (some 132), (.bin .sub (.s 131) (.c (.int .i64 (1))))⟩, ⟨none, false, (some 133), (.ia k (.s 130) (.s 132))⟩, ⟨none, false, (some 135), (.mov (.s 0))⟩, ⟨none, false, (some 136), (.mov (.s 12))⟩, ⟨none, false, (some 137), (.ia k (.s 135) (.s 136))⟩, ⟨none, false, (some 134), (.ld ag k (.s 133) none)⟩, ⟨none, false, (some 138), (.ld ag k (.s 137) none)⟩, ⟨none, false, (some 139), (.ia k (.s 125) (.s 126))⟩, ⟨none, false, none, (.st k (.s 139) (.s 134) [])⟩, ⟨none, false, (some 140), (.ia k (.s 127) (.s 129))⟩, ⟨none, false, none, (.st k (.s 140) (.s 138) [])⟩]))) (.ops [⟨none, false, (some 110), (.mov (.s 12))⟩, ⟨none, false, (some 111), (.bin .add (.s 110) (.c (.int .i64 (1))))⟩, ⟨none, false, (some 12), (.mov (.s 111))⟩])))))) .skip)))))))) (.ops [⟨none, false, (some 17), (.mov (.s 10))⟩, ⟨none, false, (some 18), (.bin .add (.s 17) (.c (.int .i64 (1))))⟩, ⟨none, false, (some 10), (.mov (.s 18))⟩])))))) (.seq (.ops [⟨none, false, (some 8), (.mov (.c (.bool false)))⟩]) .ret))))⟩

section
variable {α : Type} [Inhabited α]
/-- sorted from a to i, but for the one at j -/
def InsX (cf : α → α → Int) (a i j : Nat) (ys : List α) : Prop := ∀ p q, a ≤ p → p < q → q < i → q ≠ j → ¬ cf (el ys q) (el ys p) < 0
theorem InsX.fin {cf : α → α → Int} (s : Swo cf) {a i j : Nat} {ys : List α} (h : InsX cf a i j ys) (ja : a ≤ j) (hj : j = a ∨ ¬ cf (el ys j) (el ys (j-1)) < 0) : SortedAB cf a i ys := by
  intro p q ap pq qi
  by_cases e : q = j
  · subst e
    rcases hj with rfl | hj
    · omega
    · by_cases e2 : p = q - 1
      · rw [e2]; exact hj
      · exact s.ntrans hj (h p (q-1) ap (by omega) (by omega) (by omega))
  · exact h p q ap pq qi e
theorem InsX.swap {cf : α → α → Int} (s : Swo cf) {a i j : Nat} {ys : List α} (h : InsX cf a i (j + 1) ys) (ja : a ≤ j) (ji : j + 1 < i) (hi : i ≤ ys.length) (c : cf (el ys (j+1)) (el ys j) < 0) : InsX cf a i j (swapL ys (j+1) j) := by
  intro p q ap pq qi qj
  rw [el_swap (by omega) (by omega), el_swap (by omega) (by omega)]
  by_cases q1 : q = j + 1
  · subst q1
    rw [if_neg (by omega), if_pos rfl]
    by_cases p1 : p = j
    · rw [if_pos p1]; exact s.asym c
    · rw [if_neg p1, if_neg (by omega)]
      exact h p j ap (by omega) (by omega) (by omega)
  · rw [if_neg qj, if_neg q1]
    by_cases p1 : p = j
    · rw [if_pos p1]; exact h (j+1) q (by omega) (by omega) qi (by omega)
    · rw [if_neg p1]
      by_cases p2 : p = j + 1
      · rw [if_pos p2]; exact h j q (by omega) (by omega) qi (by omega)
      · rw [if_neg p2]; exact h p q ap pq qi (by omega)
theorem SortedAB.next {cf : α → α → Int} (s : Swo cf) {a i : Nat} {ys : List α} (h : SortedAB cf a i ys) (ai : a < i) (c : ¬ cf (el ys i) (el ys (i-1)) < 0) : SortedAB cf a (i+1) ys :=
  InsX.fin s (j := i) (fun p q h1 h2 h3 h4 => h p q h1 h2 (by omega)) (by omega) (.inr c)
theorem SortedAB.outer {cf : α → α → Int} {a i j j' : Nat} {ys : List α} (h : SortedAB cf a i ys) (hj : i ≤ j) (hj' : i ≤ j') (h1 : j < ys.length) (h2 : j' < ys.length) : SortedAB cf a i (swapL ys j j') := by
  intro p q ap pq qi
  rw [el_swap h1 h2, el_swap h1 h2, if_neg (by omega), if_neg (by omega), if_neg (by omega), if_neg (by omega)]
  exact h p q ap pq qi

variable {k : Nat} {ag : Bool} {E : Elem α k ag} {G H : Heap} {g : FuncId} {caps : List V} {cf : α → α → Int} {Pr : α → Prop}

theorem partialInsertion_spec {f N n a b : Nat} {fl : Bool} {xs : List α} (C : Cmp E G g caps cf Pr) (hcv : cvF Try.prog f = some (piC k ag)) (hG : Heap.sub G H) (hN : G N = none) (hP : ∀ x ∈ xs, Pr x) (hn : xs.length = n) (hn2 : n ≤ 1099511627776) (hab : a < b) (hb : b ≤ n)
    (hpre : a = 0 ∨ ∀ m, a ≤ m → m < b → ¬ cf (el xs m) (el xs (a-1)) < 0) :
    ACalls Try.prog f [.sl N 0 n fl, .int .i64 a, .int .i64 b, .fn g caps] (E.put H N xs) fun u H' => ∃ ys t, u = .bool t ∧ H' = E.put H N ys ∧ PermIn a b xs ys ∧ (t = true → SortedAB cf a b ys) := by
  refine ACalls.of_body hm hcv (by simp [piC]) ?_
  have hpre' : ∀ ys, PermIn a b xs ys → a = 0 ∨ ∀ m, a ≤ m → m < b → ¬ cf (el ys m) (el ys (a-1)) < 0 := by
    intro ys hp
    rcases Nat.eq_zero_or_pos a with e | e
    · exact .inl e
    · refine hpre.imp id fun h => ?_
      rw [hp.elOut (m := a - 1) (by omega)]
      exact hp.elAll (by omega) (P := fun x => ¬ cf x (el xs (a-1)) < 0) h
  have wab : IntKind.i64.wrap ((b : Int) - a) = ((b - a : Nat) : Int) := by rw [wrapI (by omega) (by omega)]; omega
  simp only [piC, go_sem, ↓reduceIte, Nat.reduceEqDiff, Nat.reduceAdd, reduceCtorEq]
  rw [wrapN1 (by omega)]
  refine loop_count 5 (fun t env H' => ∃ i ys, H' = E.put H N ys ∧ env 0 = .sl N 0 n fl ∧ env 1 = .int .i64 a ∧ env 2 = .int .i64 b ∧ env 3 = .fn g caps ∧ env 9 = .int .i64 ((i : Nat) : Int) ∧ env 10 = .int .i64 ((t : Nat) : Int) ∧ PermIn a b xs ys ∧ a < i ∧ i ≤ b ∧ SortedAB cf a i ys) ?_ ?_ ?_
  · simp only [go_sem, ↓reduceIte, Nat.reduceEqDiff, Nat.reduceAdd, reduceCtorEq]
    exact ⟨a + 1, xs, rfl, by first | rfl | trivial, by first | rfl | trivial, by first | rfl | trivial, by first | rfl | trivial, by first | rfl | trivial, by first | rfl | trivial, .refl _, by omega, by omega, fun p q h1 h2 h3 => by omega⟩
  · rintro t env H' ht ⟨i0, ys0, rfl, h0, h1, h2, h3, h9, h10, hp0, ai0, ib0, hs0⟩
    have c5 : (t : Int) < 5 := by omega
    simp only [go_sem, ↓reduceIte, Nat.reduceEqDiff, Nat.reduceAdd, reduceCtorEq, h10, c5]
    refine blk_join (fun env H' => ∃ i ys, H' = E.put H N ys ∧ env 0 = .sl N 0 n fl ∧ env 1 = .int .i64 a ∧ env 2 = .int .i64 b ∧ env 3 = .fn g caps ∧ env 9 = .int .i64 ((i : Nat) : Int) ∧ env 10 = .int .i64 ((t : Nat) : Int) ∧ PermIn a b xs ys ∧ a < i ∧ i ≤ b ∧ SortedAB cf a i ys) ?_ ?_
    · refine loop_count (b + 1) (fun m env H' => ∃ i ys, H' = E.put H N ys ∧ env 0 = .sl N 0 n fl ∧ env 1 = .int .i64 a ∧ env 2 = .int .i64 b ∧ env 3 = .fn g caps ∧ env 9 = .int .i64 ((i : Nat) : Int) ∧ env 10 = .int .i64 ((t : Nat) : Int) ∧ PermIn a b xs ys ∧ a < i ∧ i ≤ b ∧ SortedAB cf a i ys ∧ m ≤ i) ?_ ?_ ?_
      · simp only [go_sem, ↓reduceIte, Nat.reduceEqDiff, Nat.reduceAdd, reduceCtorEq, h0, h1, h2, h3, h9, h10]
        exact ⟨i0, ys0, rfl, by first | rfl | trivial, by first | rfl | trivial, by first | rfl | trivial, by first | rfl | trivial, by first | rfl | trivial, by first | rfl | trivial, hp0, ai0, ib0, hs0, Nat.zero_le _⟩
      · rintro m env H' hm' ⟨i, ys, rfl, h0, h1, h2, h3, h9, h10, hp, ai, ib, hs, hmi⟩
        have hl := hp.length
        by_cases c1 : (i : Int) < b
        · have hw : IntKind.i64.wrap ((i : Int) - 1) = ((i - 1 : Nat) : Int) := by rw [wrapI (by omega) (by omega)]; omega
          have hr1 := E.read (E.put_at H N ys) (i := i) (by omega)
          have hr2 := E.read (E.put_at H N ys) (i := i - 1) (by omega)
          simp only [go_sem, ↓reduceIte, Nat.reduceEqDiff, Nat.reduceAdd, reduceCtorEq, h0, h1, h2, h3, h9, h10, c1, hw, ia_el (show i < n by omega), ia_el (show i - 1 < n by omega), hr1, hr2]
          refine callC_pure (C.at (hp.pr hP) (E.put_sub ys hG hN) (i := i) (j := i - 1) (by omega) (by omega)) ?_
          by_cases c2 : cf (el ys i) (el ys (i-1)) < 0
          · simp only [go_sem, ↓reduceIte, Nat.reduceEqDiff, Nat.reduceAdd, reduceCtorEq, c2, Bool.not_true, Bool.not_false, h0, h1, h2, h3, h9, h10]
            exact ⟨i, ys, rfl, by first | rfl | trivial, by first | rfl | trivial, by first | rfl | trivial, by first | rfl | trivial, by first | rfl | trivial, by first | rfl | trivial, hp, ai, ib, hs⟩
          · simp only [go_sem, ↓reduceIte, Nat.reduceEqDiff, Nat.reduceAdd, reduceCtorEq, c2, Bool.not_true, Bool.not_false, h0, h1, h2, h3, h9, h10]
            rw [wrapN1 (by omega)]
            exact ⟨i + 1, ys, rfl, by first | rfl | trivial, by first | rfl | trivial, by first | rfl | trivial, by first | rfl | trivial, by first | rfl | trivial, by first | rfl | trivial, hp, by omega, by omega, hs.next C.swo ai c2, by omega⟩
        · simp only [go_sem, ↓reduceIte, Nat.reduceEqDiff, Nat.reduceAdd, reduceCtorEq, h0, h1, h2, h3, h9, h10, c1]
          exact ⟨i, ys, rfl, by first | rfl | trivial, by first | rfl | trivial, by first | rfl | trivial, by first | rfl | trivial, by first | rfl | trivial, by first | rfl | trivial, hp, ai, ib, hs⟩
      · rintro env H' ⟨i, ys, rfl, h0, h1, h2, h3, h9, h10, hp, ai, ib, hs, hmi⟩
        omega
    rintro env H' ⟨i, ys, rfl, h0, h1, h2, h3, h9, h10, hp, ai, ib, hs⟩
    have hl := hp.length
    simp only [go_sem, ↓reduceIte, Nat.reduceEqDiff, Nat.reduceAdd, reduceCtorEq, h0, h1, h2, h3, h9, h10]
    refine iteC_if (fun c => ?_) (fun c => ?_)
    · simp only [go_sem, ↓reduceIte, Nat.reduceEqDiff, Nat.reduceAdd, reduceCtorEq]
      obtain rfl : i = b := by omega
      exact finO_self ⟨ys, true, rfl, rfl, hp, fun _ => hs⟩
    simp only [go_sem, ↓reduceIte, Nat.reduceEqDiff, Nat.reduceAdd, reduceCtorEq, h0, h1, h2, h3, h9, h10, wab]
    refine iteC_if (fun c50 => ?_) (fun c50 => ?_)
    · simp only [go_sem, ↓reduceIte, Nat.reduceEqDiff, Nat.reduceAdd, reduceCtorEq]
      exact finO_self ⟨ys, false, rfl, rfl, hp, fun h => by cases h⟩
    have hw : IntKind.i64.wrap ((i : Int) - 1) = ((i - 1 : Nat) : Int) := by rw [wrapI (by omega) (by omega)]; omega
    have wia : IntKind.i64.wrap ((i : Int) - a) = ((i - a : Nat) : Int) := by rw [wrapI (by omega) (by omega)]; omega
    have wbi : IntKind.i64.wrap ((b : Int) - i) = ((b - i : Nat) : Int) := by rw [wrapI (by omega) (by omega)]; omega
    have hr1 := E.read (E.put_at H N ys) (i := i) (by omega)
    have hr2 := E.read (E.put_at H N ys) (i := i - 1) (by omega)
    simp only [go_sem, ↓reduceIte, Nat.reduceEqDiff, Nat.reduceAdd, reduceCtorEq, h0, h1, h2, h3, h9, h10, hw, ia_el (show i < n by omega), ia_el (show i - 1 < n by omega), hr1, hr2]
    refine E.st (i := i) (xs := ys) (by omega) ?_
    simp only [go_sem, ↓reduceIte, Nat.reduceEqDiff, Nat.reduceAdd, reduceCtorEq, ia_el (show i - 1 < n by omega)]
    refine E.st (i := i - 1) (xs := ys.set i ys[i - 1]) (by rw [List.length_set]; omega) ?_
    rw [show (ys.set i ys[i - 1]).set (i - 1) ys[i] = swapL ys i (i - 1) from (swapL_eq (by omega) (by omega)).symm]
    have hp1 : PermIn a b xs (swapL ys i (i - 1)) := hp.trans (.one _ _ (by omega) (by omega) (by omega) (by omega) (by omega) (by omega))
    have hx1 : InsX cf a i (i - 1) (swapL ys i (i - 1)) := by
      intro p q ap pq qi qj
      rw [el_swap (by omega) (by omega), el_swap (by omega) (by omega), if_neg (by omega), if_neg (by omega), if_neg (by omega), if_neg (by omega)]
      exact hs p q ap pq (by omega)
    simp only [go_sem, ↓reduceIte, Nat.reduceEqDiff, Nat.reduceAdd, reduceCtorEq, h0, h1, h2, h3, h9, h10, wia]
    refine iteC_join (fun env H' => ∃ ys, H' = E.put H N ys ∧ env 0 = .sl N 0 n fl ∧ env 1 = .int .i64 a ∧ env 2 = .int .i64 b ∧ env 3 = .fn g caps ∧ env 9 = .int .i64 ((i : Nat) : Int) ∧ env 10 = .int .i64 ((t : Nat) : Int) ∧ PermIn a b xs ys ∧ SortedAB cf a i ys) ?_ ?_ ?_
    · intro c2
      simp only [go_sem, ↓reduceIte, Nat.reduceEqDiff, Nat.reduceAdd, reduceCtorEq, h0, h1, h2, h3, h9, h10, hw]
      refine loop_count (i - 1 - a) (fun m env H' => ∃ ys, H' = E.put H N ys ∧ env 0 = .sl N 0 n fl ∧ env 1 = .int .i64 a ∧ env 2 = .int .i64 b ∧ env 3 = .fn g caps ∧ env 9 = .int .i64 ((i : Nat) : Int) ∧ env 10 = .int .i64 ((t : Nat) : Int) ∧ env 11 = .int .i64 ((i - 1 - m : Nat) : Int) ∧ PermIn a b xs ys ∧ InsX cf a i (i - 1 - m) ys) ?_ ?_ ?_
      · simp only [go_sem, ↓reduceIte, Nat.reduceEqDiff, Nat.reduceAdd, reduceCtorEq, h0, h1, h2, h3, h9, h10]
        exact ⟨_, rfl, by first | rfl | trivial, by first | rfl | trivial, by first | rfl | trivial, by first | rfl | trivial, by first | rfl | trivial, by first | rfl | trivial, by first | rfl | trivial, hp1, hx1⟩
      · rintro m env H' hm' ⟨ys, rfl, h0, h1, h2, h3, h9, h10, h11, hp, hx⟩
        have hl := hp.length
        obtain ⟨j, hj⟩ : ∃ j, i - 1 - m = j + 1 := ⟨i - 1 - m - 1, by omega⟩
        have hj2 : i - 1 - (m + 1) = j := by omega
        rw [hj] at h11 hx
        have c1 : (1 : Int) ≤ ((j + 1 : Nat) : Int) := by omega
        have hwj : IntKind.i64.wrap (((j + 1 : Nat) : Int) - 1) = (j : Int) := by rw [wrapI (by omega) (by omega)]; omega
        have hr1 := E.read (E.put_at H N ys) (i := j + 1) (by omega)
        have hr2 := E.read (E.put_at H N ys) (i := j) (by omega)
        simp only [go_sem, ↓reduceIte, Nat.reduceEqDiff, Nat.reduceAdd, reduceCtorEq, h0, h1, h2, h3, h9, h10, h11, c1, hwj, ia_el (show j + 1 < n by omega), ia_el (show j < n by omega), hr1, hr2]
        refine callC_pure (C.at (hp.pr hP) (E.put_sub ys hG hN) (i := j + 1) (j := j) (by omega) (by omega)) ?_
        by_cases c2 : cf (el ys (j+1)) (el ys j) < 0
        · simp only [go_sem, ↓reduceIte, Nat.reduceEqDiff, Nat.reduceAdd, reduceCtorEq, c2, Bool.not_true, Bool.not_false, h0, h1, h2, h3, h9, h10, h11, hwj, ia_el (show j + 1 < n by omega), ia_el (show j < n by omega), hr1, hr2]
          refine E.st (i := j + 1) (xs := ys) (by omega) ?_
          simp only [go_sem, ↓reduceIte, Nat.reduceEqDiff, Nat.reduceAdd, reduceCtorEq, ia_el (show j < n by omega)]
          refine E.st (i := j) (xs := ys.set (j + 1) ys[j]) (by rw [List.length_set]; omega) ?_
          rw [show (ys.set (j + 1) ys[j]).set j ys[j + 1] = swapL ys (j + 1) j from (swapL_eq (by omega) (by omega)).symm]
          simp only [go_sem, ↓reduceIte, Nat.reduceEqDiff, Nat.reduceAdd, reduceCtorEq, h0, h1, h2, h3, h9, h10, h11, hwj, hj2]
          exact ⟨_, rfl, by first | rfl | trivial, by first | rfl | trivial, by first | rfl | trivial, by first | rfl | trivial, by first | rfl | trivial, by first | rfl | trivial, by first | rfl | trivial, hp.trans (.one _ _ (by omega) (by omega) (by omega) (by omega) (by omega) (by omega)), hx.swap C.swo (by omega) (by omega) (by omega) c2⟩
        · simp only [go_sem, ↓reduceIte, Nat.reduceEqDiff, Nat.reduceAdd, reduceCtorEq, c2, Bool.not_true, Bool.not_false, h0, h1, h2, h3, h9, h10, h11]
          exact ⟨ys, rfl, by first | rfl | trivial, by first | rfl | trivial, by first | rfl | trivial, by first | rfl | trivial, by first | rfl | trivial, by first | rfl | trivial, hp, hx.fin C.swo (by omega) (.inr c2)⟩
      · rintro env H' ⟨ys, rfl, h0, h1, h2, h3, h9, h10, h11, hp, hx⟩
        have hl := hp.length
        have ea : i - 1 - (i - 1 - a) = a := by omega
        rw [ea] at h11 hx
        have hfin := hx.fin C.swo (Nat.le_refl a) (.inl rfl)
        by_cases e : a = 0
        · have c1 : ¬ (1 : Int) ≤ (a : Int) := by omega
          simp only [go_sem, ↓reduceIte, Nat.reduceEqDiff, Nat.reduceAdd, reduceCtorEq, h0, h1, h2, h3, h9, h10, h11, c1]
          exact ⟨ys, rfl, by first | rfl | trivial, by first | rfl | trivial, by first | rfl | trivial, by first | rfl | trivial, by first | rfl | trivial, by first | rfl | trivial, hp, hfin⟩
        · have c1 : (1 : Int) ≤ (a : Int) := by omega
          have hwj : IntKind.i64.wrap ((a : Int) - 1) = ((a - 1 : Nat) : Int) := by rw [wrapI (by omega) (by omega)]; omega
          have hr1 := E.read (E.put_at H N ys) (i := a) (by omega)
          have hr2 := E.read (E.put_at H N ys) (i := a - 1) (by omega)
          have c2 := (hpre' ys hp).resolve_left e a (by omega) (by omega)
          simp only [go_sem, ↓reduceIte, Nat.reduceEqDiff, Nat.reduceAdd, reduceCtorEq, h0, h1, h2, h3, h9, h10, h11, c1, hwj, ia_el (show a < n by omega), ia_el (show a - 1 < n by omega), hr1, hr2]
          refine callC_pure (C.at (hp.pr hP) (E.put_sub ys hG hN) (i := a) (j := a - 1) (by omega) (by omega)) ?_
          simp only [go_sem, ↓reduceIte, Nat.reduceEqDiff, Nat.reduceAdd, reduceCtorEq, c2, Bool.not_true, Bool.not_false, h0, h1, h2, h3, h9, h10, h11]
          exact ⟨ys, rfl, by first | rfl | trivial, by first | rfl | trivial, by first | rfl | trivial, by first | rfl | trivial, by first | rfl | trivial, by first | rfl | trivial, hp, hfin⟩
    · intro c2
      simp only [go_sem, ↓reduceIte, Nat.reduceEqDiff, Nat.reduceAdd, reduceCtorEq, h0, h1, h2, h3, h9, h10]
      exact ⟨_, rfl, by first | rfl | trivial, by first | rfl | trivial, by first | rfl | trivial, by first | rfl | trivial, by first | rfl | trivial, by first | rfl | trivial, hp1, fun p q h1 h2 h3 => by omega⟩
    rintro env H' ⟨ys, rfl, h0, h1, h2, h3, h9, h10, hp, hs⟩
    have hl := hp.length
    simp only [go_sem, ↓reduceIte, Nat.reduceEqDiff, Nat.reduceAdd, reduceCtorEq, h0, h1, h2, h3, h9, h10, wbi]
    have wt : IntKind.i64.wrap ((t : Int) + 1) = ((t + 1 : Nat) : Int) := wrapN1 (by omega)
    refine iteC_if (fun c2 => ?_) (fun c2 => ?_)
    · simp only [go_sem, ↓reduceIte, Nat.reduceEqDiff, Nat.reduceAdd, reduceCtorEq, h0, h1, h2, h3, h9, h10]
      rw [wrapN1 (by omega)]
      refine loop_count (b - (i + 1)) (fun m env H' => ∃ ys, H' = E.put H N ys ∧ env 0 = .sl N 0 n fl ∧ env 1 = .int .i64 a ∧ env 2 = .int .i64 b ∧ env 3 = .fn g caps ∧ env 9 = .int .i64 ((i : Nat) : Int) ∧ env 10 = .int .i64 ((t : Nat) : Int) ∧ env 12 = .int .i64 ((i + m + 1 : Nat) : Int) ∧ PermIn a b xs ys ∧ SortedAB cf a i ys) ?_ ?_ ?_
      · simp only [go_sem, ↓reduceIte, Nat.reduceEqDiff, Nat.reduceAdd, reduceCtorEq, h0, h1, h2, h3, h9, h10]
        exact ⟨_, rfl, by first | rfl | trivial, by first | rfl | trivial, by first | rfl | trivial, by first | rfl | trivial, by first | rfl | trivial, by first | rfl | trivial, by first | rfl | trivial, hp, hs⟩
      · rintro m env H' hm' ⟨ys, rfl, h0, h1, h2, h3, h9, h10, h12, hp, hs⟩
        have hl := hp.length
        obtain ⟨j, hj⟩ : ∃ j, i + m = j := ⟨_, rfl⟩
        have hj2 : i + (m + 1) + 1 = j + 1 + 1 := by omega
        rw [hj] at h12
        have c1 : ((j + 1 : Nat) : Int) < b := by omega
        have hwj : IntKind.i64.wrap (((j + 1 : Nat) : Int) - 1) = (j : Int) := by rw [wrapI (by omega) (by omega)]; omega
        have hwj2 : IntKind.i64.wrap (((j + 1 : Nat) : Int) + 1) = ((j + 1 + 1 : Nat) : Int) := wrapN1 (by omega)
        have hr1 := E.read (E.put_at H N ys) (i := j + 1) (by omega)
        have hr2 := E.read (E.put_at H N ys) (i := j) (by omega)
        simp only [go_sem, ↓reduceIte, Nat.reduceEqDiff, Nat.reduceAdd, reduceCtorEq, h0, h1, h2, h3, h9, h10, h12, c1, hwj, ia_el (show j + 1 < n by omega), ia_el (show j < n by omega), hr1, hr2]
        refine callC_pure (C.at (hp.pr hP) (E.put_sub ys hG hN) (i := j + 1) (j := j) (by omega) (by omega)) ?_
        by_cases c2 : cf (el ys (j+1)) (el ys j) < 0
        · simp only [go_sem, ↓reduceIte, Nat.reduceEqDiff, Nat.reduceAdd, reduceCtorEq, c2, Bool.not_true, Bool.not_false, h0, h1, h2, h3, h9, h10, h12, hwj, ia_el (show j + 1 < n by omega), ia_el (show j < n by omega), hr1, hr2]
          refine E.st (i := j + 1) (xs := ys) (by omega) ?_
          simp only [go_sem, ↓reduceIte, Nat.reduceEqDiff, Nat.reduceAdd, reduceCtorEq, ia_el (show j < n by omega)]
          refine E.st (i := j) (xs := ys.set (j + 1) ys[j]) (by rw [List.length_set]; omega) ?_
          rw [show (ys.set (j + 1) ys[j]).set j ys[j + 1] = swapL ys (j + 1) j from (swapL_eq (by omega) (by omega)).symm]
          simp only [go_sem, ↓reduceIte, Nat.reduceEqDiff, Nat.reduceAdd, reduceCtorEq, h0, h1, h2, h3, h9, h10, h12, hwj2, hj2]
          exact ⟨_, rfl, by first | rfl | trivial, by first | rfl | trivial, by first | rfl | trivial, by first | rfl | trivial, by first | rfl | trivial, by first | rfl | trivial, by first | rfl | trivial, hp.trans (.one _ _ (by omega) (by omega) (by omega) (by omega) (by omega) (by omega)), hs.outer (by omega) (by omega) (by omega) (by omega)⟩
        · simp only [go_sem, ↓reduceIte, Nat.reduceEqDiff, Nat.reduceAdd, reduceCtorEq, c2, Bool.not_true, Bool.not_false, h0, h1, h2, h3, h9, h10, h12, wt]
          exact ⟨i, ys, rfl, by first | rfl | trivial, by first | rfl | trivial, by first | rfl | trivial, by first | rfl | trivial, by first | rfl | trivial, by first | rfl | trivial, hp, ai, ib, hs⟩
      · rintro env H' ⟨ys, rfl, h0, h1, h2, h3, h9, h10, h12, hp, hs⟩
        have c1 : ¬ ((i + (b - (i + 1)) + 1 : Nat) : Int) < b := by omega
        simp only [go_sem, ↓reduceIte, Nat.reduceEqDiff, Nat.reduceAdd, reduceCtorEq, h0, h1, h2, h3, h9, h10, h12, c1, wt]
        exact ⟨i, ys, rfl, by first | rfl | trivial, by first | rfl | trivial, by first | rfl | trivial, by first | rfl | trivial, by first | rfl | trivial, by first | rfl | trivial, hp, ai, ib, hs⟩
    · simp only [go_sem, ↓reduceIte, Nat.reduceEqDiff, Nat.reduceAdd, reduceCtorEq, h0, h1, h2, h3, h9, h10, wt]
      exact ⟨i, ys, rfl, by first | rfl | trivial, by first | rfl | trivial, by first | rfl | trivial, by first | rfl | trivial, by first | rfl | trivial, by first | rfl | trivial, hp, ai, ib, hs⟩
  · rintro env H' ⟨i, ys, rfl, h0, h1, h2, h3, h9, h10, hp, ai, ib, hs⟩
    have c5 : ¬ ((5 : Nat) : Int) < 5 := by omega
    simp only [go_sem, ↓reduceIte, Nat.reduceEqDiff, Nat.reduceAdd, reduceCtorEq, h10, c5]
    exact finO_self ⟨ys, false, rfl, rfl, hp, fun h => by cases h⟩
end
end Go.AM
