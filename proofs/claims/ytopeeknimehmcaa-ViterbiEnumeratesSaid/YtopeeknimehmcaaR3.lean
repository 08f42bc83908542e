/- math/bits.Mul of one and a small number; slices.Repeat of one item. Conditions: as stated. -/
import Derived.Test.YtopeeknimehmcaaN4
import Derived.Test.YtopeeknimehmcaaR0
set_option linter.unusedVariables false
set_option linter.unusedSimpArgs false
namespace Go.AM
open Go Go.Proofs
attribute [local go_sem] c_skip c_ops c_seq c_ite c_blk c_exit c_ret t_normal t_exit t_ret b_normal b_exit b_ret i_nil i_cons s_guard s_mov s_pick s_new s_zero s_ld s_ldr s_st s_bin s_beq s_isnil s_eqs s_un s_conv s_fa s_fld s_ia s_sli s_ext s_ifc s_mkf s_agg s_len s_mm s_nilchk s_bsl s_mk s_app s_cpy s_call s_inv cells_agg cells_int cells_bool p_get p_none o_s o_c e_0 e_1 e_2 e_3 e_4 iteC_true iteC_false grd_tt grd_tf grd_ft grd_ff grd_und bindV_some pickV_t pickV_f beq_bool conv_int un_not not_dec mm_min mm_max bv_add bv_sub bv_mul bv_eql bv_neq bv_lss bv_leq bv_gtr bv_geq f_normal f_one f_two f_three f_none fa_ptr fld_one ext_tup len_sl len_nils decide_true decide_false not_true_eq_false not_false_eq_true List.map_cons List.map_nil List.append_nil List.cons_append List.nil_append Nat.zero_add Nat.add_zero Nat.mul_one Nat.succ_ne_self if_true if_false List.getElem?_cons_zero List.getElem?_cons_succ

/-- math/bits.Mul64 -/
def F106 : AF := ⟨51, [(4, none), (5, none)], (.seq (.ops [⟨none, false, (some 4), (.mov (.c (.int .u64 (0))))⟩, ⟨none, false, (some 5), (.mov (.c (.int .u64 (0))))⟩]) (.seq (.ops [⟨none, false, (some 14), (.mov (.s 0))⟩, ⟨none, false, (some 15), (.bin .and (.s 14) (.c (.int .u64 (4294967295))))⟩, ⟨none, false, (some 6), (.mov (.s 15))⟩]) (.seq (.ops [⟨none, false, (some 16), (.mov (.s 0))⟩, ⟨none, false, (some 17), (.bin .shr (.s 16) (.c (.int .u64 (32))))⟩, ⟨none, false, (some 7), (.mov (.s 17))⟩]) (.seq (.ops [⟨none, false, (some 18), (.mov (.s 1))⟩, ⟨none, false, (some 19), (.bin .and (.s 18) (.c (.int .u64 (4294967295))))⟩, ⟨none, false, (some 8), (.mov (.s 19))⟩]) (.seq (.ops [⟨none, false, (some 20), (.mov (.s 1))⟩, ⟨none, false, (some 21), (.bin .shr (.s 20) (.c (.int .u64 (32))))⟩, ⟨none, false, (some 9), (.mov (.s 21))⟩]) (.seq (.ops [⟨none, false, (some 22), (.mov (.s 6))⟩, ⟨none, false, (some 23), (.mov (.s 8))⟩, ⟨none, false, (some 24), (.bin .mul (.s 22) (.s 23))⟩, ⟨none, false, (some 10), (.mov (.s 24))⟩]) (.seq (.ops [⟨none, false, (some 25), (.mov (.s 7))⟩, ⟨none, false, (some 26), (.mov (.s 8))⟩, ⟨none, false, (some 27), (.bin .mul (.s 25) (.s 26))⟩, ⟨none, false, (some 28), (.mov (.s 10))⟩, ⟨none, false, (some 29), (.bin .shr (.s 28) (.c (.int .u64 (32))))⟩, ⟨none, false, (some 30), (.bin .add (.s 27) (.s 29))⟩, ⟨none, false, (some 11), (.mov (.s 30))⟩]) (.seq (.ops [⟨none, false, (some 31), (.mov (.s 11))⟩, ⟨none, false, (some 32), (.bin .and (.s 31) (.c (.int .u64 (4294967295))))⟩, ⟨none, false, (some 12), (.mov (.s 32))⟩]) (.seq (.ops [⟨none, false, (some 33), (.mov (.s 11))⟩, ⟨none, false, (some 34), (.bin .shr (.s 33) (.c (.int .u64 (32))))⟩, ⟨none, false, (some 13), (.mov (.s 34))⟩]) (.seq (.ops [⟨none, false, (some 35), (.mov (.s 12))⟩, ⟨none, false, (some 36), (.mov (.s 6))⟩, ⟨none, false, (some 37), (.mov (.s 9))⟩, ⟨none, false, (some 38), (.bin .mul (.s 36) (.s 37))⟩, ⟨none, false, (some 39), (.bin .add (.s 35) (.s 38))⟩, ⟨none, false, (some 12), (.mov (.s 39))⟩]) (.seq (.ops [⟨none, false, (some 40), (.mov (.s 7))⟩, ⟨none, false, (some 41), (.mov (.s 9))⟩, ⟨none, false, (some 42), (.bin .mul (.s 40) (.s 41))⟩, ⟨none, false, (some 43), (.mov (.s 13))⟩, ⟨none, false, (some 44), (.bin .add (.s 42) (.s 43))⟩, ⟨none, false, (some 45), (.mov (.s 12))⟩, ⟨none, false, (some 46), (.bin .shr (.s 45) (.c (.int .u64 (32))))⟩, ⟨none, false, (some 47), (.bin .add (.s 44) (.s 46))⟩, ⟨none, false, (some 4), (.mov (.s 47))⟩]) (.seq (.ops [⟨none, false, (some 48), (.mov (.s 0))⟩, ⟨none, false, (some 49), (.mov (.s 1))⟩, ⟨none, false, (some 50), (.bin .mul (.s 48) (.s 49))⟩, ⟨none, false, (some 5), (.mov (.s 50))⟩]) .ret))))))))))))⟩
theorem cv106 : cvF Try.prog 106 = some F106 := by kernel_rfl

/-- math/bits.Mul -/
def F92 : AF := ⟨30, [(4, none), (5, none)], (.seq (.ops [⟨none, false, (some 4), (.mov (.c (.int .u64 (0))))⟩, ⟨none, false, (some 5), (.mov (.c (.int .u64 (0))))⟩]) (.seq (.ite (.c (.bool false)) (.seq (.ops [⟨none, false, (some 11), (.mov (.s 0))⟩, ⟨none, false, (some 12), (.conv .u32 (.s 11))⟩, ⟨none, false, (some 13), (.mov (.s 1))⟩, ⟨none, false, (some 14), (.conv .u32 (.s 13))⟩, ⟨none, false, (some 15), (.call (.c (.fn 105 [])) [(.s 12), (.s 14)])⟩, ⟨none, false, (some 10), (.mov (.s 15))⟩, ⟨none, false, (some 16), (.ext (.s 10) 0)⟩, ⟨none, false, (some 17), (.ext (.s 10) 1)⟩, ⟨none, false, (some 6), (.mov (.s 16))⟩, ⟨none, false, (some 7), (.mov (.s 17))⟩]) (.seq (.ops [⟨none, false, (some 18), (.mov (.s 6))⟩, ⟨none, false, (some 19), (.conv .u64 (.s 18))⟩, ⟨none, false, (some 20), (.mov (.s 7))⟩, ⟨none, false, (some 21), (.conv .u64 (.s 20))⟩, ⟨none, false, (some 4), (.mov (.s 19))⟩, ⟨none, false, (some 5), (.mov (.s 21))⟩]) .ret)) .skip) (.seq (.ops [⟨none, false, (some 23), (.mov (.s 0))⟩, ⟨none, false, (some 24), (.mov (.s 1))⟩, ⟨none, false, (some 25), (.call (.c (.fn 106 [])) [(.s 23), (.s 24)])⟩, ⟨none, false, (some 22), (.mov (.s 25))⟩, ⟨none, false, (some 26), (.ext (.s 22) 0)⟩, ⟨none, false, (some 27), (.ext (.s 22) 1)⟩, ⟨none, false, (some 8), (.mov (.s 26))⟩, ⟨none, false, (some 9), (.mov (.s 27))⟩]) (.seq (.ops [⟨none, false, (some 28), (.mov (.s 8))⟩, ⟨none, false, (some 29), (.mov (.s 9))⟩, ⟨none, false, (some 4), (.mov (.s 28))⟩, ⟨none, false, (some 5), (.mov (.s 29))⟩]) .ret))))⟩
theorem cv92 : cvF Try.prog 92 = some F92 := by kernel_rfl

/-- slices.Repeat[[]api.Nat,api.Nat] -/
def F62 : AF := ⟨48, [(4, none)], (.seq (.ops [⟨none, false, (some 4), (.mov (.c .nils))⟩]) (.seq (.seq (.ops [⟨none, false, (some 9), (.mov (.s 1))⟩, ⟨none, false, (some 10), (.bin .lss (.s 9) (.c (.int .i64 (0))))⟩]) (.ite (.s 10) (.ops [⟨none, false, (some 11), .bad⟩, ⟨none, false, none, .bad⟩]) .skip)) (.seq (.ops [⟨none, false, (some 13), (.mov (.s 0))⟩, ⟨none, false, (some 14), (.len (.s 13))⟩, ⟨none, false, (some 15), (.conv .u64 (.s 14))⟩, ⟨none, false, (some 16), (.mov (.s 1))⟩, ⟨none, false, (some 17), (.conv .u64 (.s 16))⟩, ⟨none, false, (some 18), (.call (.c (.fn 92 [])) [(.s 15), (.s 17)])⟩, ⟨none, false, (some 12), (.mov (.s 18))⟩, ⟨none, false, (some 19), (.ext (.s 12) 0)⟩, ⟨none, false, (some 20), (.ext (.s 12) 1)⟩, ⟨none, false, (some 5), (.mov (.s 19))⟩, ⟨none, false, (some 6), (.mov (.s 20))⟩]) (.seq (.seq (.ops [⟨none, false, (some 21), (.mov (.s 5))⟩, ⟨none, false, (some 22), (.bin .gtr (.s 21) (.c (.int .u64 (0))))⟩, ⟨none, false, (some 23), (.mov (.s 22))⟩, ⟨(some (23, false)), false, (some 24), (.mov (.s 6))⟩, ⟨(some (23, false)), false, (some 25), (.bin .gtr (.s 24) (.c (.int .u64 (9223372036854775807))))⟩, ⟨none, false, (some 26), (.pick (.s 23) (.c (.bool true)) (.s 25))⟩]) (.ite (.s 26) (.ops [⟨none, false, (some 27), .bad⟩, ⟨none, false, none, .bad⟩]) .skip)) (.seq (.ops [⟨none, false, (some 28), (.mov (.s 6))⟩, ⟨none, false, (some 29), (.conv .i64 (.s 28))⟩, ⟨none, false, (some 30), (.mk 1 24 [.nils] (.s 29) (.s 29))⟩, ⟨none, false, (some 7), (.mov (.s 30))⟩]) (.seq (.ops [⟨none, false, (some 31), (.mov (.s 7))⟩, ⟨none, false, (some 32), (.mov (.s 0))⟩, ⟨none, false, (some 33), (.cpy 1 (.s 31) (.s 32))⟩, ⟨none, false, (some 8), (.mov (.s 33))⟩]) (.seq (.blk 0 (.loop (.seq (.seq (.ops [⟨none, false, (some 34), (.mov (.s 8))⟩, ⟨none, false, (some 35), (.mov (.s 7))⟩, ⟨none, false, (some 36), (.len (.s 35))⟩, ⟨none, false, (some 37), (.bin .lss (.s 34) (.s 36))⟩]) (.ite (.s 37) .skip (.exit 0))) (.blk 1 (.ops [⟨none, false, (some 38), (.mov (.s 8))⟩, ⟨none, false, (some 39), (.mov (.s 7))⟩, ⟨none, false, (some 40), (.mov (.s 8))⟩, ⟨none, false, (some 42), (.mov (.s 7))⟩, ⟨none, false, (some 43), (.mov (.s 8))⟩, ⟨none, false, (some 41), (.sli 1 (.s 39) (some (.s 40)) none none)⟩, ⟨none, false, (some 44), (.sli 1 (.s 42) none (some (.s 43)) none)⟩, ⟨none, false, (some 45), (.cpy 1 (.s 41) (.s 44))⟩, ⟨none, false, (some 46), (.bin .add (.s 38) (.s 45))⟩, ⟨none, false, (some 8), (.mov (.s 46))⟩]))))) (.seq (.ops [⟨none, false, (some 47), (.mov (.s 7))⟩, ⟨none, false, (some 4), (.mov (.s 47))⟩]) .ret))))))))⟩
theorem cv62 : cvF Try.prog 62 = some F62 := by kernel_rfl


theorem bv_and32 {a : Int} (h0 : 0 ≤ a) (h1 : a < 4294967296) : binV .and (.int .u64 a) (.int .u64 4294967295) = some (.int .u64 a) := by
  have e : (BitVec.ofInt 64 a &&& BitVec.ofInt 64 4294967295).toNat = a.toNat := by
    rw [BitVec.toNat_and, BitVec.toNat_ofInt, BitVec.toNat_ofInt]
    have e1 : ((4294967295 : Int) % ((2 ^ 64 : Nat) : Int)).toNat = 2 ^ 32 - 1 := by decide
    rw [e1, Nat.and_two_pow_sub_one_eq_mod]
    omega
  have e2 : binV .and (.int .u64 a) (.int .u64 4294967295) = some (.int .u64 (IntKind.u64.wrap ((BitVec.ofInt 64 a &&& BitVec.ofInt 64 4294967295).toNat : Int))) := Eq.trans rfl rfl
  rw [e2, e, wrap64]
  congr 2; omega
theorem wrapU {a : Int} (h0 : 0 ≤ a) (h1 : a < 18446744073709551616) : IntKind.u64.wrap a = a := by rw [wrap64]; omega

theorem Mul64_spec (n : Nat) (hn : n < 4294967296) (H : Heap) : ACalls Try.prog 106 [.int .u64 1, .int .u64 n] H fun u H' => u = .tup [.int .u64 0, .int .u64 n] ∧ H' = H := by
  refine ACalls.of_body hm cv106 (by simp only [List.length_cons, List.length_nil]; decide) ?_
  have d1 : (n : Int) / 4294967296 = 0 := by omega
  have d0 : (1 : Int) / 4294967296 = 0 := by decide
  have w0 : IntKind.u64.wrap 0 = 0 := by decide
  have w1 : IntKind.u64.wrap (n : Int) = n := wrapU (by omega) (by omega)
  have a0 : binV .and (.int .u64 0) (.int .u64 4294967295) = some (.int .u64 0) := bv_and32 (by decide) (by decide)
  simp only [F106, go_sem, ↓reduceIte, Nat.reduceEqDiff, Nat.reduceAdd, reduceCtorEq, bv_and32 (show (0 : Int) ≤ 1 by decide) (by decide), bv_and32 (show (0 : Int) ≤ n by omega) (by omega), bv_shr32, d0, d1, Int.one_mul, Int.zero_mul, Int.mul_zero, Int.add_zero, Int.zero_add, w0, w1, a0]
  exact finO_self ⟨rfl, rfl⟩
theorem bitsMul_spec (n : Nat) (hn : n < 4294967296) (H : Heap) : ACalls Try.prog 92 [.int .u64 1, .int .u64 n] H fun u H' => u = .tup [.int .u64 0, .int .u64 n] ∧ H' = H := by
  refine ACalls.of_body hm cv92 (by simp only [List.length_cons, List.length_nil]; decide) ?_
  simp only [F92, go_sem, ↓reduceIte, Nat.reduceEqDiff, Nat.reduceAdd, reduceCtorEq]
  refine callC_pure (Mul64_spec n hn _) ?_
  simp only [go_sem, ↓reduceIte, Nat.reduceEqDiff, Nat.reduceAdd, reduceCtorEq]
  exact finO_self ⟨rfl, rfl⟩

theorem sli_from {H : Heap} {N n c : Nat} {own f : Bool} {cs : List V} {k : IntKind} (h : H N = some ⟨own, 1, cs⟩) (hc : c ≤ n) : sliV H 1 (.sl N 0 n f) (some (.int k c)) none none = some (.sl N c (n - c) f) := by
  simp [sliV, cutOf, h, hc]
theorem sli_to {H : Heap} {N n c : Nat} {own f : Bool} {cs : List V} {k : IntKind} (h : H N = some ⟨own, 1, cs⟩) (hc : c ≤ n) : sliV H 1 (.sl N 0 n f) none (some (.int k c)) none = some (.sl N 0 c (f && c == n)) := by
  simp [sliV, cutOf, h, hc]
theorem cpyC_intro {H : Heap} {env : Env} {d : Option Nat} {K : Env → Heap → Prop} {s : V} {n o len : Nat} {f : Bool} {ys cells : List V} (hb : H n = some ⟨true, 1, cells⟩) (hs : cellsAt H 1 s = some ys) (hl : o + len ≤ cells.length)
    (hk : ∀ H', H' n = some ⟨true, 1, splice cells o (ys.take (min (lenV s) len))⟩ → (∀ m, m ≠ n → H' m = H m) → (∀ H0, Heap.sub H0 H → H0 n = none → Heap.sub H0 H') → K (env.put d (.int .i64 ((min (lenV s) len : Nat) : Int))) H') : cpyC H 1 (.sl n o len f) s d K env := by
  simp only [cpyC, hs, hb, Nat.mul_one]
  refine ⟨trivial, hl, ?_⟩
  have e : (min (lenV s : Int) (len : Int)) = ((min (lenV s) len : Nat) : Int) := by omega
  try rw [e]
  exact hk _ (by simp [Heap.upd]) (fun m hm => by simp [Heap.upd, hm]) fun H0 hs hn => hs.upd' hn _

theorem splice_rep {c d n : Nat} {x z : V} (hd : d ≤ c) (hn : c + d ≤ n) : splice (List.replicate c x ++ List.replicate (n - c) z) c ((List.replicate c x).take d) = List.replicate (c + d) x ++ List.replicate (n - (c + d)) z := by
  have e : (List.replicate c x).take d = List.replicate d x := by simp [List.take_replicate, Nat.min_eq_left hd]
  rw [e, splice, List.length_replicate, List.take_append_of_le_length (by simp), List.drop_append]
  simp only [List.take_replicate, List.drop_replicate, List.length_replicate, Nat.min_self]
  have e1 : c - (c + d) = 0 := by omega
  have e2 : n - c - (c + d - c) = n - (c + d) := by omega
  rw [e1, e2, List.replicate_zero, List.nil_append, List.replicate_append_replicate]
theorem Repeat_spec {u x : V} {n : Nat} {H : Heap} (hx : ∃ xb f, u = .sl xb 0 1 f ∧ H xb = some ⟨true, 1, [x]⟩) (hn : n ≤ 262144) :
    ACalls Try.prog 62 [u, .int .i64 n] H fun r H' => Heap.sub H H' ∧ ∃ m, r = .sl m 0 n true ∧ H' m = some ⟨true, 1, List.replicate n x⟩ ∧ H m = none := by
  obtain ⟨xb, xf, rfl, hxb⟩ := hx
  refine ACalls.of_body hm cv62 (by simp only [List.length_cons, List.length_nil]; decide) ?_
  have h0 : ¬ (n : Int) < 0 := by omega
  have w1 : IntKind.u64.wrap 1 = 1 := by decide
  have wn : IntKind.u64.wrap (n : Int) = n := wrapU (by omega) (by omega)
  have wi : IntKind.i64.wrap (n : Int) = n := wrapN (by omega)
  have g0 : ¬ (9223372036854775807 : Int) < n := by omega
  simp only [F62, go_sem, ↓reduceIte, Nat.reduceEqDiff, Nat.reduceAdd, reduceCtorEq, h0, Int.natCast_one, w1, wn]
  refine callC_pure (bitsMul_spec n (by omega) _) ?_
  simp only [go_sem, ↓reduceIte, Nat.reduceEqDiff, Nat.reduceAdd, reduceCtorEq, Int.lt_irrefl, g0, wi]
  refine mkC_intro (Nat.le_refl _) (by omega) (by omega) fun N H1 hN hs1 hbN => ?_
  rw [flat_rep] at hbN
  have hxb1 := hs1 _ _ hxb
  have hNx : N ≠ xb := fun e => by subst e; rw [hN] at hxb; cases hxb
  simp only [go_sem, ↓reduceIte, Nat.reduceEqDiff, Nat.reduceAdd, reduceCtorEq, beq_self_eq_true]
  have hc1 : cellsAt H1 1 (.sl xb 0 1 xf) = some [x] := by simp [cellsAt, hxb1]
  refine cpyC_intro hbN hc1 (by simp) fun H2 hb2 hf2 hs2 => ?_
  have hs02 := hs2 _ hs1 hN
  have l1 : lenV (.sl xb 0 1 xf) = 1 := rfl
  rw [l1] at hb2 ⊢
  have fin : ∀ (H' : Heap) (Q : V → Heap → Prop), Heap.sub H H' → H' N = some ⟨true, 1, List.replicate n x⟩ → (∀ r H', (Heap.sub H H' ∧ ∃ m, r = .sl m 0 n true ∧ H' m = some ⟨true, 1, List.replicate n x⟩ ∧ H m = none) → Q r H') → finO (.sl N 0 n true) H' Q := fun H' Q a b q => finO_self (q _ _ ⟨a, N, rfl, b, hN⟩)
  simp only [go_sem, ↓reduceIte, Nat.reduceEqDiff, Nat.reduceAdd, reduceCtorEq]
  refine loop_count n (fun k env H' => env 7 = .sl N 0 n true ∧ ∃ c, env 8 = .int .i64 ((c : Nat) : Int) ∧ c ≤ n ∧ (k < n → k + 1 ≤ c) ∧ (n ≤ k → c = n) ∧ Heap.sub H H' ∧ H' N = some ⟨true, 1, List.replicate c x ++ List.replicate (n - c) .nils⟩) ?_ ?_ ?_
  · simp only [go_sem, ↓reduceIte, Nat.reduceEqDiff, Nat.reduceAdd, reduceCtorEq]
    refine ⟨by trivial, min 1 n, rfl, by omega, by omega, by omega, hs02, ?_⟩
    rw [hb2]
    cases n with
    | zero => simp [splice]
    | succ m =>
      have : min 1 (m + 1) = 1 := by omega
      simp [this, splice, List.replicate_succ]
  · rintro k env H' hk ⟨h7, c, h8, hcn, hc, _, hs', hb'⟩
    have hc' := hc hk
    simp only [go_sem, ↓reduceIte, Nat.reduceEqDiff, Nat.reduceAdd, reduceCtorEq, h7, h8]
    refine iteC_if (fun hlt => ?_) (fun hlt => ?_)
    · have hcl : c < n := by omega
      simp only [go_sem, ↓reduceIte, Nat.reduceEqDiff, Nat.reduceAdd, reduceCtorEq, h7, h8, Option.map_some, Option.map_none, sli_from hb' hcn, sli_to hb' hcn]
      have hc2 : cellsAt H' 1 (.sl N 0 c (true && c == n)) = some (List.replicate c x) := by
        simp only [cellsAt, hb']
        have h0c : c ≠ 0 := by omega
        simp [h0c]
      refine cpyC_intro (o := c) (len := n - c) hb' hc2 (by simp only [List.length_append, List.length_replicate]; omega) fun H3 hb3 hf3 hs3 => ?_
      have l2 : lenV (.sl N 0 c (true && c == n)) = c := rfl
      rw [l2] at hb3 ⊢
      obtain ⟨d, hd⟩ : ∃ d, min c (n - c) = d := ⟨_, rfl⟩
      rw [hd] at hb3 ⊢
      have hwd : IntKind.i64.wrap ((c : Int) + (d : Int)) = ((c + d : Nat) : Int) := by rw [← Int.natCast_add]; exact wrapN (by omega)
      simp only [go_sem, ↓reduceIte, Nat.reduceEqDiff, Nat.reduceAdd, reduceCtorEq, h7, h8, hwd]
      refine ⟨by trivial, c + d, rfl, by omega, by omega, by omega, hs3 _ hs' hN, ?_⟩
      rw [hb3]
      rw [splice_rep (by omega) (by omega)]
    · have : c = n := by omega
      subst this
      simp only [go_sem, ↓reduceIte, Nat.reduceEqDiff, Nat.reduceAdd, reduceCtorEq, h7]
      exact finO_self ⟨hs', N, rfl, by simpa using hb', hN⟩
  · rintro env H' ⟨h7, c, h8, hcn, _, hc, hs', hb'⟩
    obtain rfl := hc (Nat.le_refl _)
    simp only [go_sem, ↓reduceIte, Nat.reduceEqDiff, Nat.reduceAdd, reduceCtorEq, h7, h8, Int.lt_irrefl]
    exact finO_self ⟨hs', N, rfl, by simpa using hb', hN⟩
end Go.AM
