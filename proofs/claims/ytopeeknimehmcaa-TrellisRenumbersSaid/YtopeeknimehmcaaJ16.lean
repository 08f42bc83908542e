/- codewrightref01: Trim, Of, limb, Add. Conditions: as stated. -/
import Derived.Test.YtopeeknimehmcaaJ15
set_option linter.unusedVariables false
set_option linter.unusedSimpArgs false
namespace Go.AM
open Go Go.Proofs
attribute [local go_sem] c_skip c_ops c_seq c_ite c_blk c_exit c_ret t_normal t_exit t_ret b_normal b_exit b_ret i_nil i_cons s_guard s_mov s_pick s_new s_zero s_ld s_ldr s_st s_bin s_beq s_isnil s_eqs s_un s_conv s_fa s_fld s_ia s_sli s_ext s_ifc s_mkf s_agg s_len s_mm s_nilchk s_bsl s_mk s_app s_cpy s_call s_inv cells_agg cells_int cells_bool p_get p_none o_s o_c e_0 e_1 e_2 e_3 e_4 iteC_true iteC_false grd_tt grd_tf grd_ft grd_ff grd_und bindV_some pickV_t pickV_f beq_bool conv_int un_not not_dec mm_min mm_max bv_add bv_sub bv_mul bv_eql bv_neq bv_lss bv_leq bv_gtr bv_geq f_normal f_one f_two f_three f_none fa_ptr fld_one ext_tup len_sl len_nils decide_true decide_false not_true_eq_false not_false_eq_true List.map_cons List.map_nil List.append_nil List.cons_append List.nil_append Nat.zero_add Nat.add_zero Nat.mul_one Nat.succ_ne_self if_true if_false List.getElem?_cons_zero List.getElem?_cons_succ

/-- codewrightref01.Trim -/
def F58 : AF := ⟨23, [(2, none)], (.seq (.ops [⟨none, false, (some 2), (.mov (.c .nils))⟩]) (.seq (.ops [⟨none, false, (some 4), (.mov (.s 0))⟩, ⟨none, false, (some 5), (.len (.s 4))⟩, ⟨none, false, (some 3), (.mov (.s 5))⟩]) (.seq (.blk 0 (.loop (.seq (.seq (.ops [⟨none, false, (some 6), (.mov (.s 3))⟩, ⟨none, false, (some 7), (.bin .gtr (.s 6) (.c (.int .i64 (0))))⟩, ⟨none, false, (some 8), (.mov (.s 7))⟩, ⟨(some (8, true)), false, (some 9), (.mov (.s 0))⟩, ⟨(some (8, true)), false, (some 10), (.mov (.s 3))⟩, ⟨(some (8, true)), false, (some 11), (.bin .sub (.s 10) (.c (.int .i64 (1))))⟩, ⟨(some (8, true)), false, (some 12), (.ia 1 (.s 9) (.s 11))⟩, ⟨(some (8, true)), false, (some 13), (.ld false 1 (.s 12) none)⟩, ⟨(some (8, true)), false, (some 14), (.bin .eql (.s 13) (.c (.int .u32 (0))))⟩, ⟨none, false, (some 15), (.pick (.s 8) (.s 14) (.c (.bool false)))⟩]) (.ite (.s 15) .skip (.exit 0))) (.blk 1 (.ops [⟨none, false, (some 16), (.mov (.s 3))⟩, ⟨none, false, (some 17), (.bin .sub (.s 16) (.c (.int .i64 (1))))⟩, ⟨none, false, (some 3), (.mov (.s 17))⟩]))))) (.seq (.ops [⟨none, false, (some 18), (.bsl 1 0 [] [])⟩, ⟨none, false, (some 19), (.mov (.s 0))⟩, ⟨none, false, (some 20), (.mov (.s 3))⟩, ⟨none, false, (some 21), (.sli 1 (.s 19) none (some (.s 20)) none)⟩, ⟨none, false, (some 22), (.app 1 4 (.s 18) (.s 21) [])⟩, ⟨none, false, (some 2), (.mov (.s 22))⟩]) .ret))))⟩
theorem cv58 : cvF Try.prog 58 = some F58 := by kernel_rfl

/-- codewrightref01.Of -/
def F97 : AF := ⟨11, [(2, none)], (.seq (.ops [⟨none, false, (some 2), (.mov (.c .nils))⟩]) (.seq (.ops [⟨none, false, (some 3), (.mov (.s 0))⟩, ⟨none, false, (some 4), (.bin .rem (.s 3) (.c (.int .u64 (4294967296))))⟩, ⟨none, false, (some 5), (.conv .u32 (.s 4))⟩, ⟨none, false, (some 6), (.mov (.s 0))⟩, ⟨none, false, (some 7), (.bin .quo (.s 6) (.c (.int .u64 (4294967296))))⟩, ⟨none, false, (some 8), (.conv .u32 (.s 7))⟩, ⟨none, false, (some 9), (.bsl 1 2 [(.int .u32 (0)), (.int .u32 (0))] [(0, (1, (.s 5))), (1, (1, (.s 8)))])⟩, ⟨none, false, (some 10), (.call (.c (.fn 58 [])) [(.s 9)])⟩, ⟨none, false, (some 2), (.mov (.s 10))⟩]) .ret))⟩
theorem cv97 : cvF Try.prog 97 = some F97 := by kernel_rfl

/-- codewrightref01.limb -/
def F69 : AF := ⟨14, [(4, none)], (.seq (.ops [⟨none, false, (some 4), (.mov (.c (.int .u64 (0))))⟩]) (.seq (.seq (.ops [⟨none, false, (some 5), (.mov (.s 1))⟩, ⟨none, false, (some 6), (.mov (.s 0))⟩, ⟨none, false, (some 7), (.len (.s 6))⟩, ⟨none, false, (some 8), (.bin .lss (.s 5) (.s 7))⟩]) (.ite (.s 8) (.seq (.ops [⟨none, false, (some 9), (.mov (.s 0))⟩, ⟨none, false, (some 10), (.mov (.s 1))⟩, ⟨none, false, (some 11), (.ia 1 (.s 9) (.s 10))⟩, ⟨none, false, (some 12), (.ld false 1 (.s 11) none)⟩, ⟨none, false, (some 13), (.conv .u64 (.s 12))⟩, ⟨none, false, (some 4), (.mov (.s 13))⟩]) .ret) .skip)) (.seq (.ops [⟨none, false, (some 4), (.mov (.c (.int .u64 (0))))⟩]) .ret)))⟩
theorem cv69 : cvF Try.prog 69 = some F69 := by kernel_rfl

/-- codewrightref01.Add -/
def F87 : AF := ⟨44, [(4, none)], (.seq (.ops [⟨none, false, (some 4), (.mov (.c .nils))⟩]) (.seq (.ops [⟨none, false, (some 5), (.mov (.c .nils))⟩]) (.seq (.ops [⟨none, false, (some 6), (.mov (.c (.int .u64 (0))))⟩]) (.seq (.seq (.ops [⟨none, false, (some 7), (.mov (.c (.int .i64 (0))))⟩]) (.blk 0 (.loop (.seq (.seq (.ops [⟨none, false, (some 9), (.mov (.s 7))⟩, ⟨none, false, (some 10), (.mov (.s 0))⟩, ⟨none, false, (some 11), (.len (.s 10))⟩, ⟨none, false, (some 12), (.bin .lss (.s 9) (.s 11))⟩, ⟨none, false, (some 13), (.mov (.s 12))⟩, ⟨(some (13, false)), false, (some 14), (.mov (.s 7))⟩, ⟨(some (13, false)), false, (some 15), (.mov (.s 1))⟩, ⟨(some (13, false)), false, (some 16), (.len (.s 15))⟩, ⟨(some (13, false)), false, (some 17), (.bin .lss (.s 14) (.s 16))⟩, ⟨none, false, (some 18), (.pick (.s 13) (.c (.bool true)) (.s 17))⟩, ⟨none, false, (some 19), (.mov (.s 18))⟩, ⟨(some (19, false)), false, (some 20), (.mov (.s 6))⟩, ⟨(some (19, false)), false, (some 21), (.bin .gtr (.s 20) (.c (.int .u64 (0))))⟩, ⟨none, false, (some 22), (.pick (.s 19) (.c (.bool true)) (.s 21))⟩]) (.ite (.s 22) .skip (.exit 0))) (.seq (.blk 1 (.seq (.ops [⟨none, false, (some 25), (.mov (.s 0))⟩, ⟨none, false, (some 26), (.mov (.s 7))⟩, ⟨none, false, (some 27), (.call (.c (.fn 69 [])) [(.s 25), (.s 26)])⟩, ⟨none, false, (some 28), (.mov (.s 1))⟩, ⟨none, false, (some 29), (.mov (.s 7))⟩, ⟨none, false, (some 30), (.call (.c (.fn 69 [])) [(.s 28), (.s 29)])⟩, ⟨none, false, (some 31), (.bin .add (.s 27) (.s 30))⟩, ⟨none, false, (some 32), (.mov (.s 6))⟩, ⟨none, false, (some 33), (.bin .add (.s 31) (.s 32))⟩, ⟨none, false, (some 8), (.mov (.s 33))⟩]) (.seq (.ops [⟨none, false, (some 34), (.mov (.s 5))⟩, ⟨none, false, (some 35), (.mov (.s 8))⟩, ⟨none, false, (some 36), (.bin .rem (.s 35) (.c (.int .u64 (4294967296))))⟩, ⟨none, false, (some 37), (.conv .u32 (.s 36))⟩, ⟨none, false, (some 38), (.bsl 1 1 [(.int .u32 (0))] [(0, (1, (.s 37)))])⟩, ⟨none, false, (some 39), (.app 1 4 (.s 34) (.s 38) [])⟩, ⟨none, false, (some 5), (.mov (.s 39))⟩]) (.ops [⟨none, false, (some 40), (.mov (.s 8))⟩, ⟨none, false, (some 41), (.bin .quo (.s 40) (.c (.int .u64 (4294967296))))⟩, ⟨none, false, (some 6), (.mov (.s 41))⟩])))) (.ops [⟨none, false, (some 23), (.mov (.s 7))⟩, ⟨none, false, (some 24), (.bin .add (.s 23) (.c (.int .i64 (1))))⟩, ⟨none, false, (some 7), (.mov (.s 24))⟩])))))) (.seq (.ops [⟨none, false, (some 42), (.mov (.s 5))⟩, ⟨none, false, (some 43), (.call (.c (.fn 58 [])) [(.s 42)])⟩, ⟨none, false, (some 4), (.mov (.s 43))⟩]) .ret)))))⟩
theorem cv87 : cvF Try.prog 87 = some F87 := by kernel_rfl


theorem Sl.cells {H : Heap} {u : V} {len : Nat} {cs : List V} (hx : Sl H u 1 len cs) : cellsAt H 1 u = some cs := by
  obtain ⟨h1, h2, ⟨rfl, h3⟩ | ⟨m, o, f, b, rfl, hbk, hz, hl, hj⟩⟩ := hx
  · have : cs = [] := List.length_eq_zero_iff.1 (by omega)
    subst this; rfl
  · unfold cellsAt
    by_cases e : len = 0
    · have : cs = [] := List.length_eq_zero_iff.1 (by omega)
      subst this; simp [e]
    · have hle := hl.resolve_left e
      simp only [e, if_false, hbk, if_pos hle]
      congr 1
      apply List.ext_getElem?
      intro j
      simp only [List.getElem?_take, List.getElem?_drop]
      by_cases hjl : j < len * 1
      · rw [if_pos hjl, hj j hjl]
      · rw [if_neg hjl, List.getElem?_eq_none (by omega)]
/-- append([]T{}, a...) -/
theorem appC_empty {H : Heap} {env : Env} {d : Option Nat} {K : Env → Heap → Prop} {n : Nat} {own : Bool} {u : V} {len bytes : Nat} {cs : List V} (hn : H n = some ⟨own, 1, []⟩) (hx : Sl H u 1 len cs) (hb : len * bytes ≤ 140737488355328) (hb2 : len ≤ 140737488355328)
    (hk : ∀ u' H', Heap.sub H H' → Sl H' u' 1 len cs → K (env.put d u') H') : appC H env 1 bytes (.sl n 0 0 true) u [] d K := by
  have hlen := Sl.lenV hx
  have h0 : lenV (.sl n 0 0 true) = 0 := rfl
  unfold appC
  rw [hx.cells, hlen, h0, Nat.zero_add]
  refine ⟨hb, hb2, ?_⟩
  have hcl := hx.1
  by_cases e : len = 0
  · rw [if_pos e]
    refine ⟨hk _ _ Heap.sub.rfl' ⟨hcl, hx.2.1, .inr ⟨n, 0, true, _, by rw [e], hn, rfl, .inl e, fun j hj => by omega⟩⟩, .inr ⟨_, _, _, _, rfl⟩⟩
  · rw [if_neg e]
    simp only [hn]
    refine ⟨trivial, ?_⟩
    simp only [if_true]
    refine ⟨by simp, fun m hm => ?_⟩
    rw [Nat.zero_add]
    refine hk _ _ (Heap.sub.upd' Heap.sub.rfl' hm _) ⟨hcl, hx.2.1, .inr ⟨m, 0, false, _, rfl, by simp [Heap.upd]; rfl, rfl, .inr (by simp; omega), fun j hj => by simp⟩⟩
theorem Sl.sliTo {H : Heap} {v : V} {len b : Nat} {cs : List V} {k2 : IntKind} (h : Sl H v 1 len cs) (hb : b ≤ len) : ∃ u, sliV H 1 v none (some (.int k2 b)) none = some u ∧ Sl H u 1 b (cs.take b) := by
  obtain ⟨u, h1, h2⟩ := Sl.sli (k1 := .i64) (k2 := k2) (a := 0) h (by decide) (Nat.zero_le _) hb
  refine ⟨u, ?_, by simpa using h2⟩
  rw [← h1]
  have e : cutOf (none : Option V) 0 = cutOf (some (.int .i64 ((0 : Nat) : Int))) 0 := rfl
  unfold sliV
  rw [e]

theorem rTrim_spec {v : V} {n : Int} {L : Nat} {H : Heap} (hL : L ≤ 2199023255552) (hv : SNat H v n L) : ACalls Try.prog 58 [v] H fun u H' => Heap.sub H H' ∧ CNat H' u n L := by
  obtain ⟨xs, hx, hl, rfl, hxL⟩ := hv
  refine ACalls.of_body hm cv58 (by simp only [List.length_cons, List.length_nil]; decide) ?_
  have hlt := hx.lt
  simp only [F58, go_sem, ↓reduceIte, Nat.reduceEqDiff, Nat.reduceAdd, reduceCtorEq, hx.len]
  refine blk_join (fun env H' => H = H' ∧ env 0 = v ∧ ∃ m : Nat, m ≤ xs.length ∧ env 3 = .int .i64 m ∧ (∀ x ∈ xs.drop m, x = 0) ∧ (∀ (h : m - 1 < xs.length), 0 < m → xs[m-1] ≠ 0)) ?_ ?_
  · refine loop_count xs.length (fun k env H' => H = H' ∧ env 0 = v ∧ ∃ m : Nat, m + k = xs.length ∧ env 3 = .int .i64 m ∧ ∀ x ∈ xs.drop m, x = 0) ?_ ?_ ?_
    · simp only [go_sem, ↓reduceIte, Nat.reduceEqDiff, Nat.reduceAdd, reduceCtorEq]
      exact ⟨by trivial, by trivial, xs.length, by omega, rfl, by simp⟩
    · rintro k env H' hk ⟨rfl, h0, m, hm', h3, hz⟩
      obtain ⟨m', rfl⟩ : ∃ m', m = m' + 1 := ⟨m - 1, by omega⟩
      have hpos : (0 : Int) < ((m' + 1 : Nat) : Int) := by omega
      have hw : IntKind.i64.wrap (((m' + 1 : Nat) : Int) - 1) = (m' : Int) := by rw [wrapI (by omega) (by omega)]; omega
      obtain ⟨p, a1, a2⟩ := hx.get (k := m') (by omega) .i64
      simp only [go_sem, ↓reduceIte, Nat.reduceEqDiff, Nat.reduceAdd, reduceCtorEq, h0, h3, hpos, hw, a1, a2]
      refine iteC_if (fun c => ?_) (fun c => ?_)
      · simp only [go_sem, ↓reduceIte, Nat.reduceEqDiff, Nat.reduceAdd, reduceCtorEq, h0, h3, hw]
        refine ⟨by trivial, by trivial, m', by omega, by trivial, fun x hx' => ?_⟩
        rw [List.drop_eq_getElem_cons (by omega)] at hx'
        rcases List.mem_cons.1 hx' with rfl | hx'
        · exact c
        · exact hz x hx'
      · simp only [go_sem, ↓reduceIte, Nat.reduceEqDiff, Nat.reduceAdd, reduceCtorEq, h0, h3]
        exact ⟨by trivial, by trivial, m'+1, by omega, by trivial, hz, fun h _ => by simpa using c⟩
    · rintro env H' ⟨rfl, h0, m, hm', h3, hz⟩
      obtain rfl : m = 0 := by omega
      have hneg : ¬ (0 : Int) < ((0 : Nat) : Int) := by decide
      simp only [go_sem, ↓reduceIte, Nat.reduceEqDiff, Nat.reduceAdd, reduceCtorEq, h0, h3, hneg]
      exact ⟨by trivial, by trivial, 0, by omega, by trivial, hz, fun h hh => by omega⟩
  · rintro env H' ⟨rfl, h0, m, hm1, h3, hz, hlast⟩
    simp only [go_sem, ↓reduceIte, Nat.reduceEqDiff, Nat.reduceAdd, reduceCtorEq, h0, h3, fillV, List.length_cons, List.length_nil, splice, Nat.reduceLeDiff, Nat.zero_lt_one, and_self, List.take_zero, List.take_succ_cons, List.drop_succ_cons, List.drop_zero, List.drop_nil, Nat.reduceLT, Nat.le_refl]
    refine newC_intro fun b1 H1 hb1 hs1 hbb1 => ?_
    obtain ⟨u, hu, hu2⟩ := Sl.sliTo (k2 := .i64) (hx.mono hs1) hm1
    simp only [go_sem, ↓reduceIte, Nat.reduceEqDiff, Nat.reduceAdd, reduceCtorEq, h0, h3, Option.map_some, Option.map_none, hu]
    refine appC_empty hbb1 hu2 (by omega) (by omega) fun u' H2 hs2 hu' => ?_
    simp only [go_sem, ↓reduceIte, Nat.reduceEqDiff, Nat.reduceAdd, reduceCtorEq]
    obtain ⟨a, b, c⟩ := take_canon hm1 hz hl hlast
    have hlen : (xs.take m).length = m := by rw [List.length_take]; omega
    refine finO_self ⟨hs1.trans' hs2, xs.take m, ?_, a, b, c, by omega⟩
    unfold SLimbs
    rw [hlen]
    have : u32s (xs.take m) = (u32s xs).take m := by simp [u32s, List.map_take]
    rw [this]; exact hu'

theorem bv_rem32 {a : Int} (h : 0 ≤ a) : binV .rem (.int .u64 a) (.int .u64 4294967296) = some (.int .u64 (a % 4294967296)) := by
  have : a.tmod 4294967296 = a % 4294967296 := Int.tmod_eq_emod_of_nonneg h
  simp [binV, this]
theorem bv_quo32 {a : Int} (h : 0 ≤ a) (h1 : a < 18446744073709551616) : binV .quo (.int .u64 a) (.int .u64 4294967296) = some (.int .u64 (a / 4294967296)) := by
  have : a.tdiv 4294967296 = a / 4294967296 := Int.tdiv_eq_ediv_of_nonneg h
  have w : IntKind.u64.wrap (a / 4294967296) = a / 4294967296 := by rw [wrap64]; omega
  simp [binV, this, w]

theorem rOf_spec {n : Int} (h0 : 0 ≤ n) (h1 : n < 18446744073709551616) (H : Heap) : ACalls Try.prog 97 [.int .u64 n] H fun u H' => Heap.sub H H' ∧ CNat H' u n 2 := by
  refine ACalls.of_body hm cv97 (by simp only [List.length_cons, List.length_nil]; decide) ?_
  have w1 : IntKind.u32.wrap (n % 4294967296) = n % 4294967296 := by rw [wrap32]; omega
  have w2 : IntKind.u32.wrap (n / 4294967296) = n / 4294967296 := by rw [wrap32]; omega
  simp only [F97, go_sem, ↓reduceIte, Nat.reduceEqDiff, Nat.reduceAdd, reduceCtorEq, bv_rem32 h0, bv_quo32 h0 h1, w1, w2, fillV, List.length_cons, List.length_nil, splice, Nat.reduceLeDiff, Nat.zero_lt_one, and_self, List.take_zero, List.take_succ_cons, List.drop_succ_cons, List.drop_zero, List.drop_nil, Nat.reduceLT, Nat.le_refl]
  refine newC_intro fun m H1 hm1 hs1 hb1 => ?_
  simp only [go_sem, ↓reduceIte, Nat.reduceEqDiff, Nat.reduceAdd, reduceCtorEq]
  have hn : SNat H1 (.sl m 0 2 true) n 2 := by
    refine ⟨[n % 4294967296, n / 4294967296], ⟨rfl, by simp, .inr ⟨m, 0, true, _, rfl, hb1, rfl, .inr (by simp), fun j hj => by simp [u32s]⟩⟩, fun x hx => ?_, ?_, by simp⟩
    · rcases List.mem_cons.1 hx with rfl | hx
      · omega
      · rcases List.mem_cons.1 hx with rfl | hx
        · omega
        · cases hx
    · simp only [nval]; omega
  refine callC_grow (rTrim_spec (by decide) hn) ?_
  intro x H2 hs2 hx
  simp only [go_sem, ↓reduceIte, Nat.reduceEqDiff, Nat.reduceAdd, reduceCtorEq]
  exact finO_self ⟨hs1.trans' hs2, hx⟩

theorem limb_spec {v : V} {xs : List Int} {i : Nat} {H : Heap} (hx : SLimbs H v xs) (hl : Limbs xs) : ACalls Try.prog 69 [v, .int .i64 i] H fun u H' => u = .int .u64 (xs[i]?.getD 0) ∧ H' = H := by
  refine ACalls.of_body hm cv69 (by simp only [List.length_cons, List.length_nil]; decide) ?_
  simp only [F69, go_sem, ↓reduceIte, Nat.reduceEqDiff, Nat.reduceAdd, reduceCtorEq, hx.len]
  refine iteC_if (fun c => ?_) (fun c => ?_)
  · have hi : i < xs.length := by omega
    obtain ⟨p, a1, a2⟩ := hx.get hi .i64
    have hxi := hl _ (List.getElem_mem hi)
    have w1 : IntKind.u64.wrap xs[i] = xs[i] := by rw [wrap64]; omega
    simp only [go_sem, ↓reduceIte, Nat.reduceEqDiff, Nat.reduceAdd, reduceCtorEq, a1, a2, w1]
    exact finO_self ⟨by simp [hi], rfl⟩
  · simp only [go_sem, ↓reduceIte, Nat.reduceEqDiff, Nat.reduceAdd, reduceCtorEq]
    have hi : ¬ i < xs.length := by omega
    exact finO_self ⟨by simp [hi], rfl⟩
theorem limb_range {xs : List Int} (hl : Limbs xs) (i : Nat) : 0 ≤ xs[i]?.getD 0 ∧ xs[i]?.getD 0 < 4294967296 := by
  by_cases h : i < xs.length
  · simp only [h, List.getElem?_eq_getElem, Option.getD_some]; exact hl _ (List.getElem_mem h)
  · rw [List.getElem?_eq_none (by omega)]; decide
theorem nval_take_limb (xs : List Int) (k : Nat) : nval (xs.take (k+1)) = nval (xs.take k) + 4294967296 ^ k * (xs[k]?.getD 0) := by
  by_cases h : k < xs.length
  · rw [nval_take_succ h]; simp [h]
  · rw [List.take_of_length_le (by omega), List.take_of_length_le (by omega), List.getElem?_eq_none (by omega)]; simp

theorem grown_limbs {H0 H : Heap} {u : V} {os : List Int} (hu : (u = .nils ∧ u32s os = []) ∨ ∃ n len, u = .sl n 0 len false ∧ H0 n = none ∧ H n = some ⟨true, 1, u32s os⟩ ∧ (u32s os).length = len * 1) (hl : os.length ≤ 281474976710656) : SLimbs H u os := by
  rcases hu with ⟨rfl, h⟩ | ⟨n, len, rfl, _, hb, hlen⟩
  · have := congrArg List.length h
    rw [u32s_len] at this
    simp only [List.length_nil] at this
    exact ⟨by rw [u32s_len]; omega, hl, .inl ⟨rfl, this⟩⟩
  · rw [u32s_len] at hlen
    obtain rfl : os.length = len := by omega
    exact ⟨by rw [u32s_len]; omega, hl, .inr ⟨n, 0, false, _, rfl, hb, rfl, .inr (by rw [u32s_len]; omega), fun j hj => by simp⟩⟩
theorem rAdd_spec {av bv : V} {a b : Int} {L : Nat} {H : Heap} (hL : L ≤ 1099511627776) (ha : SNat H av a L) (hb : SNat H bv b L) : ACalls Try.prog 87 [av, bv] H fun u H' => Heap.sub H H' ∧ CNat H' u (a + b) (L + 1) := by
  obtain ⟨xs, hx, lx, rfl, hxL⟩ := ha
  obtain ⟨ys, hy, ly, rfl, hyL⟩ := hb
  refine ACalls.of_body hm cv87 (by simp only [List.length_cons, List.length_nil]; decide) ?_
  simp only [F87, go_sem, ↓reduceIte, Nat.reduceEqDiff, Nat.reduceAdd, reduceCtorEq]
  obtain ⟨M, hM⟩ : ∃ M, M = max xs.length ys.length := ⟨_, rfl⟩
  have hML : M ≤ L := by omega
  refine blk_join (fun env H' => Heap.sub H H' ∧ ∃ (k : Nat) (os : List Int) (u : V), env 5 = u ∧ SLimbs H' u os ∧ Limbs os ∧ os.length ≤ M + 1 ∧ nval os = nval xs + nval ys) ?_ ?_
  · refine loop_count (M + 1) (fun k env H' => Heap.sub H H' ∧ env 0 = av ∧ env 1 = bv ∧ env 7 = .int .i64 k ∧ ∃ (c : Int) (os : List Int) (u : V), env 5 = u ∧ env 6 = .int .u64 c ∧ ((u = .nils ∧ u32s os = []) ∨ ∃ n len, u = .sl n 0 len false ∧ H n = none ∧ H' n = some ⟨true, 1, u32s os⟩ ∧ (u32s os).length = len * 1) ∧ os.length = k ∧ Limbs os ∧ 0 ≤ c ∧ c ≤ 1 ∧ (M < k → c = 0) ∧ nval os + c * 4294967296 ^ k = nval (xs.take k) + nval (ys.take k)) ?_ ?_ ?_
    · simp only [go_sem, ↓reduceIte, Nat.reduceEqDiff, Nat.reduceAdd, reduceCtorEq]
      exact ⟨Heap.sub.rfl', by trivial, by trivial, rfl, 0, [], .nils, by trivial, by trivial, .inl ⟨rfl, rfl⟩, rfl, fun x hx => (by cases hx), by decide, by decide, fun _ => rfl, by simp [nval]⟩
    · rintro k env H1 hk ⟨hs1, h0, h1, h7, c, os, u, h5, h6, hu, hol, lo, hc0, hc1, hcM, hinv⟩
      have hS := grown_limbs hu (by omega)
      by_cases hc : k < xs.length ∨ k < ys.length ∨ 0 < c
      · by_cases c1 : (k : Int) < xs.length <;> by_cases c2 : (k : Int) < ys.length <;> by_cases c3 : (0 : Int) < c
        all_goals first | (exfalso; omega) | skip
        all_goals
          simp only [go_sem, ↓reduceIte, Nat.reduceEqDiff, Nat.reduceAdd, reduceCtorEq, h0, h1, h6, h7, (hx.mono hs1).len, (hy.mono hs1).len, c1, c2, c3]
          refine callC_pure (limb_spec (hx.mono hs1) lx) ?_
          simp only [go_sem, ↓reduceIte, Nat.reduceEqDiff, Nat.reduceAdd, reduceCtorEq, h0, h1, h6, h7]
          refine callC_pure (limb_spec (hy.mono hs1) ly) ?_
          obtain ⟨x, hxe⟩ : ∃ x, xs[k]?.getD 0 = x := ⟨_, rfl⟩
          obtain ⟨y, hye⟩ : ∃ y, ys[k]?.getD 0 = y := ⟨_, rfl⟩
          have rx := limb_range lx k
          have ry := limb_range ly k
          rw [hxe] at rx ⊢
          rw [hye] at ry ⊢
          have w1 : IntKind.u64.wrap (x + y) = x + y := by rw [wrap64]; omega
          have w2 : IntKind.u64.wrap (x + y + c) = x + y + c := by rw [wrap64]; omega
          have w3 : IntKind.u32.wrap ((x + y + c) % 4294967296) = (x + y + c) % 4294967296 := by rw [wrap32]; omega
          simp only [go_sem, ↓reduceIte, Nat.reduceEqDiff, Nat.reduceAdd, reduceCtorEq, h0, h1, h5, h6, h7, w1, w2, bv_rem32 (show 0 ≤ x + y + c by omega), w3, fillV, List.length_cons, List.length_nil, splice, Nat.reduceLeDiff, Nat.zero_lt_one, and_self, List.take_zero, List.take_succ_cons, List.drop_succ_cons, List.drop_zero, List.drop_nil, Nat.reduceLT, Nat.le_refl]
          refine newC_intro fun xb H2 hxb hs2 hbx => ?_
          simp only [go_sem, ↓reduceIte, Nat.reduceEqDiff, Nat.reduceAdd, reduceCtorEq]
          have hu2 : (u = .nils ∧ u32s os = []) ∨ ∃ n len, u = .sl n 0 len false ∧ H2 n = some ⟨true, 1, u32s os⟩ ∧ (u32s os).length = len * 1 := by
            rcases hu with h | ⟨n, len, a, _, b, d⟩
            · exact .inl h
            · exact .inr ⟨n, len, a, hs2 _ _ b, d⟩
          have hlu : lenV u = k := by
            rcases hu with ⟨rfl, h⟩ | ⟨n, len, rfl, _, _, d⟩
            · have := congrArg List.length h
              rw [u32s_len] at this
              simp only [List.length_nil] at this
              show 0 = k; omega
            · rw [u32s_len] at d
              show len = k; omega
          refine appC_one hu2 hbx rfl (by decide) (by omega) (by omega) fun m H3 hm3 hbm hf3 => ?_
          simp only [go_sem, ↓reduceIte, Nat.reduceEqDiff, Nat.reduceAdd, reduceCtorEq, h0, h1, h7, bv_quo32 (show 0 ≤ x + y + c by omega) (by omega)]
          rw [wrapN1 (by omega)]
          have hs02 := hs1.trans' hs2
          refine ⟨fun q b hq => ?_, by trivial, by trivial, by trivial, (x + y + c) / 4294967296, os ++ [(x + y + c) % 4294967296], _, rfl, rfl, .inr ⟨m, lenV u + 1, rfl, hs02.none' hm3, ?_, ?_⟩, by simp [hol], ?_, by omega, by omega, fun hMk => ?_, ?_⟩
          · rw [hf3 q (fun e => by subst e; rw [hs02 _ _ hq] at hm3; cases hm3) fun n o l f e => ?_]
            · exact hs02 q b hq
            · rcases hu with ⟨rfl, _⟩ | ⟨n', len, rfl, hn0, _, _⟩
              · cases e
              · injection e with e
                subst e
                rintro rfl
                rw [hn0] at hq; cases hq
          · rw [hbm]; simp [u32s]
          · rw [u32s_len]; simp [hlu, hol]
          · intro z hz
            rcases List.mem_append.1 hz with h | h
            · exact lo z h
            · have : z = (x + y + c) % 4294967296 := by simpa using h
              omega
          · have e1 : xs[k]?.getD 0 = 0 := by rw [List.getElem?_eq_none (by omega)]; rfl
            have e2 : ys[k]?.getD 0 = 0 := by rw [List.getElem?_eq_none (by omega)]; rfl
            omega
          · rw [nval_append, hol, nval_take_limb, nval_take_limb, hxe, hye, Int.pow_succ, Int.mul_comm (4294967296 ^ k) 4294967296]
            have := carry_step _ _ _ _ _ (x + y + c) hinv
            simp only [nval, Int.mul_zero, Int.add_zero]
            have e3 : x + y + c - c = x + y := by omega
            rw [e3, Int.mul_add] at this
            omega
      · have c1 : ¬ (k : Int) < xs.length := by omega
        have c2 : ¬ (k : Int) < ys.length := by omega
        have c3 : ¬ (0 : Int) < c := by omega
        obtain rfl : c = 0 := by omega
        simp only [go_sem, ↓reduceIte, Nat.reduceEqDiff, Nat.reduceAdd, reduceCtorEq, h0, h1, h6, h7, (hx.mono hs1).len, (hy.mono hs1).len, c1, c2, c3]
        rw [List.take_of_length_le (by omega), List.take_of_length_le (by omega)] at hinv
        exact ⟨hs1, k, os, u, h5, hS, lo, by omega, by omega⟩
    · rintro env H1 ⟨hs1, h0, h1, h7, c, os, u, h5, h6, hu, hol, lo, hc0, hc1, hcM, hinv⟩
      have hS := grown_limbs hu (by omega)
      obtain rfl := hcM (by omega)
      have c1 : ¬ ((M + 1 : Nat) : Int) < xs.length := by omega
      have c2 : ¬ ((M + 1 : Nat) : Int) < ys.length := by omega
      have c3 : ¬ (0 : Int) < 0 := by decide
      simp only [go_sem, ↓reduceIte, Nat.reduceEqDiff, Nat.reduceAdd, reduceCtorEq, h0, h1, h6, h7, (hx.mono hs1).len, (hy.mono hs1).len, c1, c2, c3]
      rw [List.take_of_length_le (by omega), List.take_of_length_le (by omega)] at hinv
      exact ⟨hs1, M + 1, os, u, h5, hS, lo, by omega, by omega⟩
  · rintro env H1 ⟨hs1, k, os, u, h5, hu, lo, hol, hval⟩
    simp only [go_sem, ↓reduceIte, Nat.reduceEqDiff, Nat.reduceAdd, reduceCtorEq, h5]
    refine callC_grow (rTrim_spec (L := M + 1) (by omega) ⟨os, hu, lo, rfl, hol⟩) ?_
    intro x H2 hs2 hx
    simp only [go_sem, ↓reduceIte, Nat.reduceEqDiff, Nat.reduceAdd, reduceCtorEq]
    rw [hval] at hx
    exact finO_self ⟨hs1.trans' hs2, hx.up (by omega)⟩
end Go.AM

/- Bits and Int of numbers, the program's and the reference's. Conditions: as stated. -/
set_option linter.unusedVariables false
set_option linter.unusedSimpArgs false
namespace Go.AM
open Go Go.Proofs
attribute [local go_sem] c_skip c_ops c_seq c_ite c_blk c_exit c_ret t_normal t_exit t_ret b_normal b_exit b_ret i_nil i_cons s_guard s_mov s_pick s_new s_zero s_ld s_ldr s_st s_bin s_beq s_isnil s_eqs s_un s_conv s_fa s_fld s_ia s_sli s_ext s_ifc s_mkf s_agg s_len s_mm s_nilchk s_bsl s_mk s_app s_cpy s_call s_inv cells_agg cells_int cells_bool p_get p_none o_s o_c e_0 e_1 e_2 e_3 e_4 iteC_true iteC_false grd_tt grd_tf grd_ft grd_ff grd_und bindV_some pickV_t pickV_f beq_bool conv_int un_not not_dec mm_min mm_max bv_add bv_sub bv_mul bv_eql bv_neq bv_lss bv_leq bv_gtr bv_geq f_normal f_one f_two f_three f_none fa_ptr fld_one ext_tup len_sl len_nils decide_true decide_false not_true_eq_false not_false_eq_true List.map_cons List.map_nil List.append_nil List.cons_append List.nil_append Nat.zero_add Nat.add_zero Nat.mul_one Nat.succ_ne_self if_true if_false List.getElem?_cons_zero List.getElem?_cons_succ

/-- codewrightref01.Bits -/
def F68 : AF := ⟨27, [(2, none)], (.seq (.ops [⟨none, false, (some 2), (.mov (.c (.int .i64 (0))))⟩]) (.seq (.ops [⟨none, false, (some 5), (.mov (.s 0))⟩, ⟨none, false, (some 6), (.call (.c (.fn 58 [])) [(.s 5)])⟩, ⟨none, false, (some 0), (.mov (.s 6))⟩]) (.seq (.seq (.ops [⟨none, false, (some 7), (.mov (.s 0))⟩, ⟨none, false, (some 8), (.len (.s 7))⟩, ⟨none, false, (some 9), (.bin .eql (.s 8) (.c (.int .i64 (0))))⟩]) (.ite (.s 9) (.seq (.ops [⟨none, false, (some 2), (.mov (.c (.int .i64 (0))))⟩]) .ret) .skip)) (.seq (.ops [⟨none, false, (some 10), (.mov (.s 0))⟩, ⟨none, false, (some 11), (.len (.s 10))⟩, ⟨none, false, (some 12), (.bin .sub (.s 11) (.c (.int .i64 (1))))⟩, ⟨none, false, (some 13), (.bin .mul (.c (.int .i64 (32))) (.s 12))⟩, ⟨none, false, (some 3), (.mov (.s 13))⟩]) (.seq (.seq (.ops [⟨none, false, (some 14), (.mov (.s 0))⟩, ⟨none, false, (some 15), (.mov (.s 0))⟩, ⟨none, false, (some 16), (.len (.s 15))⟩, ⟨none, false, (some 17), (.bin .sub (.s 16) (.c (.int .i64 (1))))⟩, ⟨none, false, (some 18), (.ia 1 (.s 14) (.s 17))⟩, ⟨none, false, (some 19), (.ld false 1 (.s 18) none)⟩, ⟨none, false, (some 4), (.mov (.s 19))⟩]) (.blk 0 (.loop (.seq (.seq (.ops [⟨none, false, (some 20), (.mov (.s 4))⟩, ⟨none, false, (some 21), (.bin .gtr (.s 20) (.c (.int .u32 (0))))⟩]) (.ite (.s 21) .skip (.exit 0))) (.seq (.blk 1 (.ops [⟨none, false, (some 24), (.mov (.s 3))⟩, ⟨none, false, (some 25), (.bin .add (.s 24) (.c (.int .i64 (1))))⟩, ⟨none, false, (some 3), (.mov (.s 25))⟩])) (.ops [⟨none, false, (some 22), (.mov (.s 4))⟩, ⟨none, false, (some 23), (.bin .quo (.s 22) (.c (.int .u32 (2))))⟩, ⟨none, false, (some 4), (.mov (.s 23))⟩])))))) (.seq (.ops [⟨none, false, (some 26), (.mov (.s 3))⟩, ⟨none, false, (some 2), (.mov (.s 26))⟩]) .ret))))))⟩
theorem cv68 : cvF Try.prog 68 = some F68 := by kernel_rfl

/-- codewrightref01.Int -/
def F32 : AF := ⟨14, [(2, none), (3, none)], (.seq (.ops [⟨none, false, (some 2), (.mov (.c (.int .i64 (0))))⟩, ⟨none, false, (some 3), (.mov (.c (.bool false)))⟩]) (.seq (.seq (.ops [⟨none, false, (some 4), (.mov (.s 0))⟩, ⟨none, false, (some 5), (.call (.c (.fn 68 [])) [(.s 4)])⟩, ⟨none, false, (some 6), (.bin .gtr (.s 5) (.c (.int .i64 (63))))⟩]) (.ite (.s 6) (.seq (.ops [⟨none, false, (some 2), (.mov (.c (.int .i64 (0))))⟩, ⟨none, false, (some 3), (.mov (.c (.bool false)))⟩]) .ret) .skip)) (.seq (.ops [⟨none, false, (some 7), (.mov (.s 0))⟩, ⟨none, false, (some 8), (.call (.c (.fn 69 [])) [(.s 7), (.c (.int .i64 (0)))])⟩, ⟨none, false, (some 9), (.mov (.s 0))⟩, ⟨none, false, (some 10), (.call (.c (.fn 69 [])) [(.s 9), (.c (.int .i64 (1)))])⟩, ⟨none, false, (some 11), (.bin .mul (.s 10) (.c (.int .u64 (4294967296))))⟩, ⟨none, false, (some 12), (.bin .add (.s 8) (.s 11))⟩, ⟨none, false, (some 13), (.conv .i64 (.s 12))⟩, ⟨none, false, (some 2), (.mov (.s 13))⟩, ⟨none, false, (some 3), (.mov (.c (.bool true)))⟩]) .ret)))⟩
theorem cv32 : cvF Try.prog 32 = some F32 := by kernel_rfl

/-- nat.Bits -/
def F96 : AF := ⟨20, [(2, none)], (.seq (.ops [⟨none, false, (some 2), (.mov (.c (.int .i64 (0))))⟩]) (.seq (.ops [⟨none, false, (some 3), (.mov (.s 0))⟩, ⟨none, false, (some 4), (.call (.c (.fn 95 [])) [(.s 3)])⟩, ⟨none, false, (some 0), (.mov (.s 4))⟩]) (.seq (.seq (.ops [⟨none, false, (some 5), (.mov (.s 0))⟩, ⟨none, false, (some 6), (.len (.s 5))⟩, ⟨none, false, (some 7), (.bin .eql (.s 6) (.c (.int .i64 (0))))⟩]) (.ite (.s 7) (.seq (.ops [⟨none, false, (some 2), (.mov (.c (.int .i64 (0))))⟩]) .ret) .skip)) (.seq (.ops [⟨none, false, (some 8), (.mov (.s 0))⟩, ⟨none, false, (some 9), (.len (.s 8))⟩, ⟨none, false, (some 10), (.bin .sub (.s 9) (.c (.int .i64 (1))))⟩, ⟨none, false, (some 11), (.bin .mul (.c (.int .i64 (32))) (.s 10))⟩, ⟨none, false, (some 12), (.mov (.s 0))⟩, ⟨none, false, (some 13), (.mov (.s 0))⟩, ⟨none, false, (some 14), (.len (.s 13))⟩, ⟨none, false, (some 15), (.bin .sub (.s 14) (.c (.int .i64 (1))))⟩, ⟨none, false, (some 16), (.ia 1 (.s 12) (.s 15))⟩, ⟨none, false, (some 17), (.ld false 1 (.s 16) none)⟩, ⟨none, false, (some 18), (.call (.c (.fn 107 [])) [(.s 17)])⟩, ⟨none, false, (some 19), (.bin .add (.s 11) (.s 18))⟩, ⟨none, false, (some 2), (.mov (.s 19))⟩]) .ret))))⟩
theorem cv96 : cvF Try.prog 96 = some F96 := by kernel_rfl

/-- nat.Int -/
def F64 : AF := ⟨27, [(2, none), (3, none)], (.seq (.ops [⟨none, false, (some 2), (.mov (.c (.int .i64 (0))))⟩, ⟨none, false, (some 3), (.mov (.c (.bool false)))⟩]) (.seq (.ops [⟨none, false, (some 6), (.mov (.s 0))⟩, ⟨none, false, (some 7), (.call (.c (.fn 95 [])) [(.s 6)])⟩, ⟨none, false, (some 0), (.mov (.s 7))⟩]) (.seq (.seq (.ops [⟨none, false, (some 8), (.mov (.s 0))⟩, ⟨none, false, (some 9), (.call (.c (.fn 96 [])) [(.s 8)])⟩, ⟨none, false, (some 10), (.bin .gtr (.s 9) (.c (.int .i64 (63))))⟩]) (.ite (.s 10) (.seq (.ops [⟨none, false, (some 2), (.mov (.c (.int .i64 (0))))⟩, ⟨none, false, (some 3), (.mov (.c (.bool false)))⟩]) .ret) .skip)) (.seq (.ops [⟨none, false, (some 4), (.mov (.c (.int .i64 (0))))⟩]) (.seq (.seq (.ops [⟨none, false, (some 11), (.mov (.s 0))⟩, ⟨none, false, (some 12), (.len (.s 11))⟩, ⟨none, false, (some 13), (.bin .sub (.s 12) (.c (.int .i64 (1))))⟩, ⟨none, false, (some 5), (.mov (.s 13))⟩]) (.blk 0 (.loop (.seq (.seq (.ops [⟨none, false, (some 14), (.mov (.s 5))⟩, ⟨none, false, (some 15), (.bin .geq (.s 14) (.c (.int .i64 (0))))⟩]) (.ite (.s 15) .skip (.exit 0))) (.seq (.blk 1 (.ops [⟨none, false, (some 18), (.mov (.s 4))⟩, ⟨none, false, (some 19), (.bin .shl (.s 18) (.c (.int .u64 (32))))⟩, ⟨none, false, (some 20), (.mov (.s 0))⟩, ⟨none, false, (some 21), (.mov (.s 5))⟩, ⟨none, false, (some 22), (.ia 1 (.s 20) (.s 21))⟩, ⟨none, false, (some 23), (.ld false 1 (.s 22) none)⟩, ⟨none, false, (some 24), (.conv .i64 (.s 23))⟩, ⟨none, false, (some 25), (.bin .or (.s 19) (.s 24))⟩, ⟨none, false, (some 4), (.mov (.s 25))⟩])) (.ops [⟨none, false, (some 16), (.mov (.s 5))⟩, ⟨none, false, (some 17), (.bin .sub (.s 16) (.c (.int .i64 (1))))⟩, ⟨none, false, (some 5), (.mov (.s 17))⟩])))))) (.seq (.ops [⟨none, false, (some 26), (.mov (.s 4))⟩, ⟨none, false, (some 2), (.mov (.s 26))⟩, ⟨none, false, (some 3), (.mov (.c (.bool true)))⟩]) .ret))))))⟩
theorem cv64 : cvF Try.prog 64 = some F64 := by kernel_rfl


theorem pow2_le {a b : Nat} (h : a ≤ b) : (2 : Int) ^ a ≤ 2 ^ b := by exact_mod_cast Nat.pow_le_pow_right (by decide : 2 > 0) h
theorem pow_leI {B : Int} (hB : 1 ≤ B) {a b : Nat} (h : a ≤ b) : B ^ a ≤ B ^ b := by
  obtain ⟨d, rfl⟩ : ∃ d, b = a + d := ⟨b - a, by omega⟩
  rw [Int.pow_add]
  have h1 : 0 < B ^ a := Int.pow_pos (by omega)
  have h2 : 0 < B ^ d := Int.pow_pos (by omega)
  have := Int.mul_le_mul_of_nonneg_left (show 1 ≤ B ^ d by omega) (Int.le_of_lt h1)
  rw [Int.mul_one] at this
  exact this
theorem powB_le {a b : Nat} (h : a ≤ b) : (4294967296 : Int) ^ a ≤ 4294967296 ^ b := pow_leI (by decide) h
def IsBits (n : Int) (b : Nat) : Prop := n < 2 ^ b ∧ (n = 0 ∧ b = 0 ∨ 2 ^ b ≤ 2 * n)
theorem isBits_63 {n : Int} {b : Nat} (h : IsBits n b) : (63 : Int) < b ↔ 9223372036854775808 ≤ n := by
  obtain ⟨h1, h2⟩ := h
  constructor
  · intro hb
    have hb' : 64 ≤ b := by omega
    rcases h2 with ⟨_, h⟩ | h2
    · omega
    · have : (2 : Int) ^ 64 ≤ 2 ^ b := pow2_le hb'
      have e : (2 : Int) ^ 64 = 18446744073709551616 := by decide
      omega
  · intro hn
    apply Classical.byContradiction
    intro hb
    have hb' : b ≤ 63 := by omega
    have : (2 : Int) ^ b ≤ 2 ^ 63 := pow2_le hb'
    have e : (2 : Int) ^ 63 = 9223372036854775808 := by decide
    omega
theorem nval_lt {xs : List Int} (h : Limbs xs) : nval xs < 4294967296 ^ xs.length := by
  induction xs with
  | nil => simp [nval]
  | cons x r ih =>
    have h0 := h x (List.mem_cons_self ..)
    have := ih fun y hy => h y (List.mem_cons_of_mem _ hy)
    simp only [nval, List.length_cons, Int.pow_succ]
    omega
theorem isBits_of {xs : List Int} {m : Nat} {c : Nat} (h : Limbs xs) (hm : xs.length = m + 1) (h1 : xs[m] < 2 ^ c) (h2 : (2 : Int) ^ c ≤ 2 * xs[m]) : IsBits (nval xs) (32 * m + c) := by
  have e := nval_take_succ (l := xs) (k := m) (by omega)
  rw [List.take_of_length_le (by omega)] at e
  have ht : Limbs (xs.take m) := fun x hx => h x (List.mem_of_mem_take hx)
  have t0 := nval_nonneg ht
  have t1 := nval_lt ht
  have tl : (xs.take m).length = m := by rw [List.length_take]; omega
  rw [tl] at t1
  have p : (2 : Int) ^ (32 * m + c) = 4294967296 ^ m * 2 ^ c := by
    rw [Int.pow_add, Int.pow_mul]; rfl
  obtain ⟨P, hP⟩ : ∃ P : Int, P = 4294967296 ^ m := ⟨_, rfl⟩
  have hP0 : 0 < P := by rw [hP]; exact Int.pow_pos (by decide)
  unfold IsBits
  rw [p, e, ← hP]
  rw [← hP] at t1
  constructor
  · have := Int.mul_le_mul_of_nonneg_left (show xs[m] + 1 ≤ 2 ^ c by omega) (Int.le_of_lt hP0)
    rw [Int.mul_add, Int.mul_one] at this
    omega
  · right
    have := Int.mul_le_mul_of_nonneg_left h2 (Int.le_of_lt hP0)
    rw [← Int.mul_assoc, Int.mul_comm P 2, Int.mul_assoc] at this
    omega
theorem canon_last {xs : List Int} {m : Nat} (h : Limbs xs) (hc : Canon xs) (hm : xs.length = m + 1) : 0 < xs[m] := by
  have := hc xs[m] (by rw [List.getLast?_eq_getElem?, show xs.length - 1 = m by omega, List.getElem?_eq_getElem (by omega)])
  have := (h xs[m] (List.getElem_mem (by omega))).1
  omega

theorem bv_half {a : Int} (h : 0 ≤ a) (h1 : a < 4294967296) : binV .quo (.int .u32 a) (.int .u32 2) = some (.int .u32 (a / 2)) := by
  have : a.tdiv 2 = a / 2 := Int.tdiv_eq_ediv_of_nonneg h
  have w : IntKind.u32.wrap (a / 2) = a / 2 := by rw [wrap32]; omega
  simp [binV, this, w]
theorem rBits_spec {v : V} {n : Int} {L : Nat} {H : Heap} (hL : L ≤ 1099511627776) (hv : SNat H v n L) : ACalls Try.prog 68 [v] H fun u H' => (∃ b : Nat, u = .int .i64 b ∧ IsBits n b) ∧ Heap.sub H H' := by
  refine ACalls.of_body hm cv68 (by simp only [List.length_cons, List.length_nil]; decide) ?_
  simp only [F68, go_sem, ↓reduceIte, Nat.reduceEqDiff, Nat.reduceAdd, reduceCtorEq]
  refine callC_grow (rTrim_spec (by omega) hv) ?_
  rintro u H1 hs1 ⟨xs, hx, hl, hc, rfl, hxL⟩
  simp only [go_sem, ↓reduceIte, Nat.reduceEqDiff, Nat.reduceAdd, reduceCtorEq, hx.len]
  refine iteC_if (fun c => ?_) (fun c => ?_)
  · simp only [go_sem, ↓reduceIte, Nat.reduceEqDiff, Nat.reduceAdd, reduceCtorEq]
    have : xs = [] := List.length_eq_zero_iff.1 (by omega)
    subst this
    exact finO_self ⟨⟨0, rfl, by decide, .inl ⟨rfl, rfl⟩⟩, hs1⟩
  · obtain ⟨m, hm'⟩ : ∃ m, xs.length = m + 1 := ⟨xs.length - 1, by omega⟩
    have w1 : IntKind.i64.wrap ((xs.length : Int) - 1) = (m : Int) := by rw [wrapI (by omega) (by omega)]; omega
    have w2 : IntKind.i64.wrap ((32 : Int) * (m : Int)) = ((32 * m : Nat) : Int) := by rw [wrapI (by omega) (by omega)]; omega
    obtain ⟨p, a1, a2⟩ := hx.get (k := m) (by omega) .i64
    have hml : m < xs.length := by omega
    have tr := hl _ (List.getElem_mem hml)
    have tp := canon_last hl hc hm'
    obtain ⟨t, ht⟩ : ∃ t : Nat, xs[m] = t := ⟨xs[m].toNat, by omega⟩
    rw [ht] at tr tp a2
    simp only [go_sem, ↓reduceIte, Nat.reduceEqDiff, Nat.reduceAdd, reduceCtorEq, w1, w2, hx.len, a1, a2]
    refine loop_count 40 (fun k env H' => H1 = H' ∧ ∃ x : Nat, x = t / 2 ^ k ∧ env 4 = .int .u32 x ∧ env 3 = .int .i64 ((32 * m + k : Nat) : Int) ∧ (0 < k → 2 ^ k ≤ 2 * t)) ?_ ?_ ?_
    · simp only [go_sem, ↓reduceIte, Nat.reduceEqDiff, Nat.reduceAdd, reduceCtorEq]
      exact ⟨by trivial, t, by simp, rfl, by simp, fun h => by omega⟩
    · rintro k env H' hk ⟨rfl, x, hxe, h4, h3, hk2⟩
      simp only [go_sem, ↓reduceIte, Nat.reduceEqDiff, Nat.reduceAdd, reduceCtorEq, h3, h4]
      have hxt : x ≤ t := by rw [hxe]; exact Nat.div_le_self ..
      refine iteC_if (fun d => ?_) (fun d => ?_)
      · simp only [go_sem, ↓reduceIte, Nat.reduceEqDiff, Nat.reduceAdd, reduceCtorEq, h3, h4, bv_half (show (0 : Int) ≤ x by omega) (by omega)]
        rw [wrapN1 (by omega)]
        refine ⟨by trivial, x / 2, ?_, by congr 1, by trivial, fun _ => ?_⟩
        · rw [hxe, Nat.div_div_eq_div_mul, Nat.pow_succ]
        · have h1 : 1 ≤ t / 2 ^ k := by omega
          have := (Nat.le_div_iff_mul_le (Nat.pow_pos (by decide))).1 h1
          rw [Nat.pow_succ]; omega
      · simp only [go_sem, ↓reduceIte, Nat.reduceEqDiff, Nat.reduceAdd, reduceCtorEq, h3, h4]
        have hx0 : t / 2 ^ k = 0 := by omega
        have hlt : t < 2 ^ k := by
          rcases (Nat.div_eq_zero_iff).1 hx0 with h | h
          · exact absurd h (Nat.ne_of_gt (Nat.pow_pos (by decide)))
          · exact h
        have hk0 : 0 < k := by
          rcases Nat.eq_zero_or_pos k with h | h
          · subst h; simp at hlt; omega
          · exact h
        refine finO_self ⟨⟨32 * m + k, rfl, isBits_of hl hm' ?_ ?_⟩, hs1⟩
        · rw [ht]; exact_mod_cast hlt
        · rw [ht]; exact_mod_cast hk2 hk0
    · rintro env H' ⟨rfl, x, hxe, h4, h3, hk2⟩
      have := hk2 (by decide)
      omega

theorem rInt_spec {v : V} {n : Int} {L : Nat} {H : Heap} (hL : L ≤ 1099511627776) (hv : CNat H v n L) : ACalls Try.prog 32 [v] H fun u H' => u = .tup [.int .i64 (if n < 9223372036854775808 then n else 0), .bool (decide (n < 9223372036854775808))] ∧ Heap.sub H H' := by
  refine ACalls.of_body hm cv32 (by simp only [List.length_cons, List.length_nil]; decide) ?_
  simp only [F32, go_sem, ↓reduceIte, Nat.reduceEqDiff, Nat.reduceAdd, reduceCtorEq]
  refine callC_any (rBits_spec hL hv.nat) ?_
  rintro u H1 ⟨⟨b, rfl, hb⟩, hs1⟩
  have hb63 := isBits_63 hb
  obtain ⟨xs, hx, hl, hc, rfl, hxL⟩ := hv
  simp only [go_sem, ↓reduceIte, Nat.reduceEqDiff, Nat.reduceAdd, reduceCtorEq]
  refine iteC_if (fun c => ?_) (fun c => ?_)
  · simp only [go_sem, ↓reduceIte, Nat.reduceEqDiff, Nat.reduceAdd, reduceCtorEq]
    have hn : ¬ nval xs < 9223372036854775808 := by omega
    exact finO_self ⟨by simp [hn], hs1⟩
  · have hn : nval xs < 9223372036854775808 := by omega
    simp only [go_sem, ↓reduceIte, Nat.reduceEqDiff, Nat.reduceAdd, reduceCtorEq]
    refine callC_pure (limb_spec (i := 0) (hx.mono hs1) hl) ?_
    simp only [go_sem, ↓reduceIte, Nat.reduceEqDiff, Nat.reduceAdd, reduceCtorEq]
    refine callC_pure (limb_spec (i := 1) (hx.mono hs1) hl) ?_
    have hlen : xs.length ≤ 2 := by
      apply Classical.byContradiction
      intro h
      obtain ⟨m, hm'⟩ : ∃ m, xs.length = m + 1 := ⟨xs.length - 1, by omega⟩
      have tp := canon_last hl hc hm'
      have e := nval_take_succ (l := xs) (k := m) (by omega)
      rw [List.take_of_length_le (by omega)] at e
      have t0 := nval_nonneg (xs := xs.take m) fun x hx => hl x (List.mem_of_mem_take hx)
      have hp : (4294967296 : Int) ^ 2 ≤ 4294967296 ^ m := powB_le (by omega)
      have e2 : (4294967296 : Int) ^ 2 = 18446744073709551616 := by decide
      have := Int.mul_le_mul_of_nonneg_left (show 1 ≤ xs[m] by omega) (show (0 : Int) ≤ 4294967296 ^ m by omega)
      omega
    have r0 := limb_range hl 0
    have r1 := limb_range hl 1
    have hval : nval xs = xs[0]?.getD 0 + xs[1]?.getD 0 * 4294967296 := by
      match xs, hlen with
      | [], _ => rfl
      | [x], _ => simp [nval]
      | [x, y], _ => simp only [nval]; simp; omega
    have w1 : IntKind.u64.wrap (xs[1]?.getD 0 * 4294967296) = xs[1]?.getD 0 * 4294967296 := by rw [wrap64]; omega
    have w2 : IntKind.u64.wrap (xs[0]?.getD 0 + xs[1]?.getD 0 * 4294967296) = xs[0]?.getD 0 + xs[1]?.getD 0 * 4294967296 := by rw [wrap64]; omega
    have w3 : IntKind.i64.wrap (xs[0]?.getD 0 + xs[1]?.getD 0 * 4294967296) = xs[0]?.getD 0 + xs[1]?.getD 0 * 4294967296 := wrapI (by omega) (by omega)
    simp only [go_sem, ↓reduceIte, Nat.reduceEqDiff, Nat.reduceAdd, reduceCtorEq, w1, w2, w3]
    exact finO_self ⟨by rw [← hval]; simp [hn], hs1⟩

theorem nBits_spec {v : V} {n : Int} {L : Nat} {H : Heap} (hL : L ≤ 1099511627776) (hv : SNat H v n L) : ACalls Try.prog 96 [v] H fun u H' => (∃ b : Nat, u = .int .i64 b ∧ IsBits n b) ∧ H' = H := by
  refine ACalls.of_body hm cv96 (by simp only [List.length_cons, List.length_nil]; decide) ?_
  simp only [F96, go_sem, ↓reduceIte, Nat.reduceEqDiff, Nat.reduceAdd, reduceCtorEq]
  refine callC_any (short_spec hv) ?_
  rintro u H1 ⟨⟨xs, hx, hl, hc, rfl, hxL⟩, rfl⟩
  simp only [go_sem, ↓reduceIte, Nat.reduceEqDiff, Nat.reduceAdd, reduceCtorEq, hx.len]
  refine iteC_if (fun c => ?_) (fun c => ?_)
  · simp only [go_sem, ↓reduceIte, Nat.reduceEqDiff, Nat.reduceAdd, reduceCtorEq]
    have : xs = [] := List.length_eq_zero_iff.1 (by omega)
    subst this
    exact finO_self ⟨⟨0, rfl, by decide, .inl ⟨rfl, rfl⟩⟩, rfl⟩
  · obtain ⟨m, hm'⟩ : ∃ m, xs.length = m + 1 := ⟨xs.length - 1, by omega⟩
    have w1 : IntKind.i64.wrap ((xs.length : Int) - 1) = (m : Int) := by rw [wrapI (by omega) (by omega)]; omega
    have w2 : IntKind.i64.wrap ((32 : Int) * (m : Int)) = ((32 * m : Nat) : Int) := by rw [wrapI (by omega) (by omega)]; omega
    obtain ⟨p, a1, a2⟩ := hx.get (k := m) (by omega) .i64
    have hml : m < xs.length := by omega
    have tr := hl _ (List.getElem_mem hml)
    have tp := canon_last hl hc hm'
    simp only [go_sem, ↓reduceIte, Nat.reduceEqDiff, Nat.reduceAdd, reduceCtorEq, w1, w2, hx.len, a1, a2]
    refine callC_pure (Len32_spec (by omega) (by omega) _) ?_
    obtain ⟨b1, b2⟩ := bitLen_bounds (x := xs[m].toNat) (by omega)
    have b2' := b2 (by omega)
    have hle : Lib.bitLen xs[m].toNat ≤ 40 := by
      apply Classical.byContradiction
      intro h
      have : 2 ^ 41 ≤ 2 ^ Lib.bitLen xs[m].toNat := Nat.pow_le_pow_right (by decide) (by omega)
      omega
    have w3 : IntKind.i64.wrap (((32 * m : Nat) : Int) + (Lib.bitLen xs[m].toNat : Nat)) = ((32 * m + Lib.bitLen xs[m].toNat : Nat) : Int) := by rw [wrapI (by omega) (by omega)]; omega
    simp only [go_sem, ↓reduceIte, Nat.reduceEqDiff, Nat.reduceAdd, reduceCtorEq, w3]
    have et : ((xs[m].toNat : Nat) : Int) = xs[m] := by omega
    refine finO_self ⟨⟨_, rfl, isBits_of hl hm' ?_ ?_⟩, rfl⟩
    · rw [← et]; exact_mod_cast b1
    · rw [← et]; exact_mod_cast b2'

theorem bv_shl32 (a : Int) : binV .shl (.int .i64 a) (.int .u64 32) = some (.int .i64 (IntKind.i64.wrap (a * 4294967296))) := by
  simp [binV, IntKind.bits]
theorem bv_or32 {y x : Int} (y0 : 0 ≤ y) (y1 : y < 2147483648) (x0 : 0 ≤ x) (x1 : x < 4294967296) : binV .or (.int .i64 (y * 4294967296)) (.int .i64 x) = some (.int .i64 (x + 4294967296 * y)) := by
  have e : (BitVec.ofInt 64 (y * 4294967296) ||| BitVec.ofInt 64 x).toNat = (x + 4294967296 * y).toNat := by
    rw [BitVec.toNat_or, BitVec.toNat_ofInt, BitVec.toNat_ofInt]
    have e1 : (y * 4294967296 % ((2 ^ 64 : Nat) : Int)).toNat = 2 ^ 32 * y.toNat := by omega
    have e2 : (x % ((2 ^ 64 : Nat) : Int)).toNat = x.toNat := by omega
    rw [e1, e2, ← Nat.two_pow_add_eq_or_of_lt (by omega)]
    omega
  have e2 : binV .or (.int .i64 (y * 4294967296)) (.int .i64 x) = some (.int .i64 (IntKind.i64.wrap ((BitVec.ofInt 64 (y * 4294967296) ||| BitVec.ofInt 64 x).toNat : Int))) := Eq.trans rfl rfl
  rw [e2, e, wrapI (by omega) (by omega)]
  congr 2; omega
theorem nval_drop {xs : List Int} {i : Nat} (h : i < xs.length) : nval (xs.drop i) = xs[i] + 4294967296 * nval (xs.drop (i+1)) := by
  rw [List.drop_eq_getElem_cons h]; rfl
theorem nval_drop_le {xs : List Int} (hl : Limbs xs) (i : Nat) : 4294967296 ^ i * nval (xs.drop i) ≤ nval xs := by
  have := nval_append (xs.take i) (xs.drop i)
  rw [List.take_append_drop] at this
  have t0 := nval_nonneg (xs := xs.take i) fun x hx => hl x (List.mem_of_mem_take hx)
  by_cases h : i ≤ xs.length
  · have e : (xs.take i).length = i := by rw [List.length_take]; omega
    rw [e] at this
    omega
  · rw [List.drop_eq_nil_of_le (by omega)]
    have := nval_nonneg hl
    simp [nval]; exact this

theorem nInt_spec {v : V} {n : Int} {L : Nat} {H : Heap} (hL : L ≤ 1099511627776) (hv : SNat H v n L) : ACalls Try.prog 64 [v] H fun u H' => u = .tup [.int .i64 (if n < 9223372036854775808 then n else 0), .bool (decide (n < 9223372036854775808))] ∧ H' = H := by
  refine ACalls.of_body hm cv64 (by simp only [List.length_cons, List.length_nil]; decide) ?_
  simp only [F64, go_sem, ↓reduceIte, Nat.reduceEqDiff, Nat.reduceAdd, reduceCtorEq]
  refine callC_any (short_spec hv) ?_
  rintro u H1 ⟨hcn, rfl⟩
  simp only [go_sem, ↓reduceIte, Nat.reduceEqDiff, Nat.reduceAdd, reduceCtorEq]
  refine callC_any (nBits_spec hL hcn.nat) ?_
  obtain ⟨xs, hx, hl, hc, rfl, hxL⟩ := hcn
  rintro u' H2 ⟨⟨b, rfl, hb⟩, rfl⟩
  have hb63 := isBits_63 hb
  have hlt := hx.lt
  simp only [go_sem, ↓reduceIte, Nat.reduceEqDiff, Nat.reduceAdd, reduceCtorEq]
  refine iteC_if (fun c => ?_) (fun c => ?_)
  · simp only [go_sem, ↓reduceIte, Nat.reduceEqDiff, Nat.reduceAdd, reduceCtorEq]
    have hn : ¬ nval xs < 9223372036854775808 := by omega
    exact finO_self ⟨by simp [hn], rfl⟩
  · have hn : nval xs < 9223372036854775808 := by omega
    simp only [go_sem, ↓reduceIte, Nat.reduceEqDiff, Nat.reduceAdd, reduceCtorEq, hx.len]
    rw [wrapI (by omega) (by omega)]
    refine loop_count xs.length (fun k env H' => H2 = H' ∧ env 0 = u ∧ env 4 = .int .i64 (nval (xs.drop (xs.length - k))) ∧ env 5 = .int .i64 ((xs.length : Int) - 1 - k)) ?_ ?_ ?_
    · simp only [go_sem, ↓reduceIte, Nat.reduceEqDiff, Nat.reduceAdd, reduceCtorEq]
      exact ⟨by trivial, by trivial, by simp [nval], by simp⟩
    · rintro k env H' hk ⟨rfl, h0, h4, h5⟩
      obtain ⟨i, hi⟩ : ∃ i, xs.length = i + (k + 1) := ⟨xs.length - (k+1), by omega⟩
      have e10 : (xs.length : Int) - 1 - k = (i : Int) := by omega
      have e11 : xs.length - k = i + 1 := by omega
      have e12 : xs.length - (k + 1) = i := by omega
      rw [e10] at h5
      rw [e11] at h4
      have hil : i < xs.length := by omega
      obtain ⟨p, a1, a2⟩ := hx.get hil .i64
      have xr := hl _ (List.getElem_mem hil)
      have hge : (0 : Int) ≤ (i : Int) := by omega
      have d0 := nval_nonneg (xs := xs.drop (i+1)) fun x hx => hl x (List.mem_of_mem_drop hx)
      have d1 := nval_drop_le hl 1
      have dd := nval_drop_le (xs := xs) hl (i+1)
      have dd2 : 4294967296 * nval (xs.drop (i+1)) ≤ 4294967296 ^ (i+1) * nval (xs.drop (i+1)) := by
        apply Int.mul_le_mul_of_nonneg_right _ d0
        rw [Int.pow_succ]
        have : (0 : Int) < 4294967296 ^ i := Int.pow_pos (by decide)
        omega
      have hd : nval (xs.drop (i+1)) < 2147483648 := by omega
      have w1 : IntKind.i64.wrap (nval (xs.drop (i+1)) * 4294967296) = nval (xs.drop (i+1)) * 4294967296 := wrapI (by omega) (by omega)
      have w2 : IntKind.i64.wrap xs[i] = xs[i] := wrapI (by omega) (by omega)
      simp only [go_sem, ↓reduceIte, Nat.reduceEqDiff, Nat.reduceAdd, reduceCtorEq, h0, h4, h5, hge, a1, a2, bv_shl32, w1, w2, bv_or32 d0 hd xr.1 xr.2]
      rw [wrapI (by omega) (by omega)]
      refine ⟨by trivial, by trivial, by rw [e12, nval_drop hil], ?_⟩
      congr 1; omega
    · rintro env H' ⟨rfl, h0, h4, h5⟩
      have e10 : (xs.length : Int) - 1 - xs.length = -1 := by omega
      rw [e10] at h5
      rw [Nat.sub_self, List.drop_zero] at h4
      have hneg : ¬ (0 : Int) ≤ -1 := by decide
      simp only [go_sem, ↓reduceIte, Nat.reduceEqDiff, Nat.reduceAdd, reduceCtorEq, h0, h4, h5, hneg]
      exact finO_self ⟨by simp [hn], rfl⟩
end Go.AM
