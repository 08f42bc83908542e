/- codewrightref01: Trim, Of, limb, Add. Conditions: as stated. -/
import Derived.Test.YtopeeknimehmcaaS0
import Derived.Test.YtopeeknimehmcaaN4
set_option linter.unusedVariables false
set_option linter.unusedSimpArgs false
namespace Go.AM
open Go Go.Proofs
attribute [local go_sem] c_skip c_ops c_seq c_ite c_blk c_exit c_ret t_normal t_exit t_ret b_normal b_exit b_ret i_nil i_cons s_guard s_mov s_pick s_new s_zero s_ld s_ldr s_st s_bin s_beq s_isnil s_eqs s_un s_conv s_fa s_fld s_ia s_sli s_ext s_ifc s_mkf s_agg s_len s_mm s_nilchk s_bsl s_mk s_app s_cpy s_call s_inv cells_agg cells_int cells_bool p_get p_none o_s o_c e_0 e_1 e_2 e_3 e_4 iteC_true iteC_false grd_tt grd_tf grd_ft grd_ff grd_und bindV_some pickV_t pickV_f beq_bool conv_int un_not not_dec mm_min mm_max bv_add bv_sub bv_mul bv_eql bv_neq bv_lss bv_leq bv_gtr bv_geq f_normal f_one f_two f_three f_none fa_ptr fld_one ext_tup len_sl len_nils decide_true decide_false not_true_eq_false not_false_eq_true List.map_cons List.map_nil List.append_nil List.cons_append List.nil_append Nat.zero_add Nat.add_zero Nat.mul_one Nat.succ_ne_self if_true if_false List.getElem?_cons_zero List.getElem?_cons_succ

/-- codewrightref01.Trim -/
def F58 : AF := ⟨23, [(2, none)], (.seq (.ops [⟨none, false, (some 2), (.mov (.c .nils))⟩]) (.seq (.ops [⟨none, false, (some 4), (.mov (.s 0))⟩, ⟨none, false, (some 5), (.len (.s 4))⟩, ⟨none, false, (some 3), (.mov (.s 5))⟩]) (.seq (.blk 0 (.loop (.seq (.seq (.ops [⟨none, false, (some 6), (.mov (.s 3))⟩, ⟨none, false, (some 7), (.bin .gtr (.s 6) (.c (.int .i64 (0))))⟩, ⟨none, false, (some 8), (.mov (.s 7))⟩, ⟨(some (8, true)), false, (some 9), (.mov (.s 0))⟩, ⟨(some (8, true)), false, (some 10), (.mov (.s 3))⟩, ⟨(some (8, true)), false, (some 11), (.bin .sub (.s 10) (.c (.int .i64 (1))))⟩, ⟨(some (8, true)), false, (some 12), (.ia 1 (.s 9) (.s 11))⟩, ⟨(some (8, true)), false, (some 13), (.ld false 1 (.s 12) none)⟩, ⟨(some (8, true)), false, (some 14), (.bin .eql (.s 13) (.c (.int .u32 (0))))⟩, ⟨none, false, (some 15), (.pick (.s 8) (.s 14) (.c (.bool false)))⟩]) (.ite (.s 15) .skip (.exit 0))) (.blk 1 (.ops [⟨none, false, (some 16), (.mov (.s 3))⟩, ⟨none, false, (some 17), (.bin .sub (.s 16) (.c (.int .i64 (1))))⟩, ⟨none, false, (some 3), (.mov (.s 17))⟩]))))) (.seq (.ops [⟨none, false, (some 18), (.bsl 1 0 [] [])⟩, ⟨none, false, (some 19), (.mov (.s 0))⟩, ⟨none, false, (some 20), (.mov (.s 3))⟩, ⟨none, false, (some 21), (.sli 1 (.s 19) none (some (.s 20)) none)⟩, ⟨none, false, (some 22), (.app 1 4 (.s 18) (.s 21) [])⟩, ⟨none, false, (some 2), (.mov (.s 22))⟩]) .ret))))⟩
theorem cv58 : cvF Try.prog 58 = some F58 := by kernel_rfl

/-- codewrightref01.Of -/
def F97 : AF := ⟨11, [(2, none)], (.seq (.ops [⟨none, false, (some 2), (.mov (.c .nils))⟩]) (.seq (.ops [⟨none, false, (some 3), (.mov (.s 0))⟩, ⟨none, false, (some 4), (.bin .rem (.s 3) (.c (.int .u64 (4294967296))))⟩, ⟨none, false, (some 5), (.conv .u32 (.s 4))⟩, ⟨none, false, (some 6), (.mov (.s 0))⟩, ⟨none, false, (some 7), (.bin .quo (.s 6) (.c (.int .u64 (4294967296))))⟩, ⟨none, false, (some 8), (.conv .u32 (.s 7))⟩, ⟨none, false, (some 9), (.bsl 1 2 [(.int .u32 (0)), (.int .u32 (0))] [(0, (1, (.s 5))), (1, (1, (.s 8)))])⟩, ⟨none, false, (some 10), (.call (.c (.fn 58 [])) [(.s 9)])⟩, ⟨none, false, (some 2), (.mov (.s 10))⟩]) .ret))⟩
theorem cv97 : cvF Try.prog 97 = some F97 := by kernel_rfl

/-- codewrightref01.limb -/
def F69 : AF := ⟨14, [(4, none)], (.seq (.ops [⟨none, false, (some 4), (.mov (.c (.int .u64 (0))))⟩]) (.seq (.seq (.ops [⟨none, false, (some 5), (.mov (.s 1))⟩, ⟨none, false, (some 6), (.mov (.s 0))⟩, ⟨none, false, (some 7), (.len (.s 6))⟩, ⟨none, false, (some 8), (.bin .lss (.s 5) (.s 7))⟩]) (.ite (.s 8) (.seq (.ops [⟨none, false, (some 9), (.mov (.s 0))⟩, ⟨none, false, (some 10), (.mov (.s 1))⟩, ⟨none, false, (some 11), (.ia 1 (.s 9) (.s 10))⟩, ⟨none, false, (some 12), (.ld false 1 (.s 11) none)⟩, ⟨none, false, (some 13), (.conv .u64 (.s 12))⟩, ⟨none, false, (some 4), (.mov (.s 13))⟩]) .ret) .skip)) (.seq (.ops [⟨none, false, (some 4), (.mov (.c (.int .u64 (0))))⟩]) .ret)))⟩
theorem cv69 : cvF Try.prog 69 = some F69 := by kernel_rfl

/-- codewrightref01.Add -/
def F87 : AF := ⟨44, [(4, none)], (.seq (.ops [⟨none, false, (some 4), (.mov (.c .nils))⟩]) (.seq (.ops [⟨none, false, (some 5), (.mov (.c .nils))⟩]) (.seq (.ops [⟨none, false, (some 6), (.mov (.c (.int .u64 (0))))⟩]) (.seq (.seq (.ops [⟨none, false, (some 7), (.mov (.c (.int .i64 (0))))⟩]) (.blk 0 (.loop (.seq (.seq (.ops [⟨none, false, (some 9), (.mov (.s 7))⟩, ⟨none, false, (some 10), (.mov (.s 0))⟩, ⟨none, false, (some 11), (.len (.s 10))⟩, ⟨none, false, (some 12), (.bin .lss (.s 9) (.s 11))⟩, ⟨none, false, (some 13), (.mov (.s 12))⟩, ⟨(some (13, false)), false, (some 14), (.mov (.s 7))⟩, ⟨(some (13, false)), false, (some 15), (.mov (.s 1))⟩, ⟨(some (13, false)), false, (some 16), (.len (.s 15))⟩, ⟨(some (13, false)), false, (some 17), (.bin .lss (.s 14) (.s 16))⟩, ⟨none, false, (some 18), (.pick (.s 13) (.c (.bool true)) (.s 17))⟩, ⟨none, false, (some 19), (.mov (.s 18))⟩, ⟨(some (19, false)), false, (some 20), (.mov (.s 6))⟩, ⟨(some (19, false)), false, (some 21), (.bin .gtr (.s 20) (.c (.int .u64 (0))))⟩, ⟨none, false, (some 22), (.pick (.s 19) (.c (.bool true)) (.s 21))⟩]) (.ite (.s 22) .skip (.exit 0))) (.seq (.blk 1 (.seq (.ops [⟨none, false, (some 25), (.mov (.s 0))⟩, ⟨none, false, (some 26), (.mov (.s 7))⟩, ⟨none, false, (some 27), (.call (.c (.fn 69 [])) [(.s 25), (.s 26)])⟩, ⟨none, false, (some 28), (.mov (.s 1))⟩, ⟨none, false, (some 29), (.mov (.s 7))⟩, ⟨none, false, (some 30), (.call (.c (.fn 69 [])) [(.s 28), (.s 29)])⟩, ⟨none, false, (some 31), (.bin .add (.s 27) (.s 30))⟩, ⟨none, false, (some 32), (.mov (.s 6))⟩, ⟨none, false, (some 33), (.bin .add (.s 31) (.s 32))⟩, ⟨none, false, (some 8), (.mov (.s 33))⟩]) (.seq (.ops [⟨none, false, (some 34), (.mov (.s 5))⟩, ⟨none, false, (some 35), (.mov (.s 8))⟩, ⟨none, false, (some 36), (.bin .rem (.s 35) (.c (.int .u64 (4294967296))))⟩, ⟨none, false, (some 37), (.conv .u32 (.s 36))⟩, ⟨none, false, (some 38), (.bsl 1 1 [(.int .u32 (0))] [(0, (1, (.s 37)))])⟩, ⟨none, false, (some 39), (.app 1 4 (.s 34) (.s 38) [])⟩, ⟨none, false, (some 5), (.mov (.s 39))⟩]) (.ops [⟨none, false, (some 40), (.mov (.s 8))⟩, ⟨none, false, (some 41), (.bin .quo (.s 40) (.c (.int .u64 (4294967296))))⟩, ⟨none, false, (some 6), (.mov (.s 41))⟩])))) (.ops [⟨none, false, (some 23), (.mov (.s 7))⟩, ⟨none, false, (some 24), (.bin .add (.s 23) (.c (.int .i64 (1))))⟩, ⟨none, false, (some 7), (.mov (.s 24))⟩])))))) (.seq (.ops [⟨none, false, (some 42), (.mov (.s 5))⟩, ⟨none, false, (some 43), (.call (.c (.fn 58 [])) [(.s 42)])⟩, ⟨none, false, (some 4), (.mov (.s 43))⟩]) .ret)))))⟩
theorem cv87 : cvF Try.prog 87 = some F87 := by kernel_rfl


theorem Sl.cells {H : Heap} {u : V} {len : Nat} {cs : List V} (hx : Sl H u 1 len cs) : cellsAt H 1 u = some cs := by
  obtain ⟨h1, h2, ⟨rfl, h3⟩ | ⟨m, o, f, b, rfl, hbk, hz, hl, hj⟩⟩ := hx
  · have : cs = [] := List.length_eq_zero_iff.1 (by omega)
    subst this; rfl
  · unfold cellsAt
    by_cases e : len = 0
    · have : cs = [] := List.length_eq_zero_iff.1 (by omega)
      subst this; simp [e]
    · have hle := hl.resolve_left e
      simp only [e, if_false, hbk, if_pos hle]
      congr 1
      apply List.ext_getElem?
      intro j
      simp only [List.getElem?_take, List.getElem?_drop]
      by_cases hjl : j < len * 1
      · rw [if_pos hjl, hj j hjl]
      · rw [if_neg hjl, List.getElem?_eq_none (by omega)]
/-- append([]T{}, a...) -/
theorem appC_empty {H : Heap} {env : Env} {d : Option Nat} {K : Env → Heap → Prop} {n : Nat} {own : Bool} {u : V} {len bytes : Nat} {cs : List V} (hn : H n = some ⟨own, 1, []⟩) (hx : Sl H u 1 len cs) (hb : len * bytes ≤ 140737488355328) (hb2 : len ≤ 140737488355328)
    (hk : ∀ u' H', Heap.sub H H' → Sl H' u' 1 len cs → K (env.put d u') H') : appC H env 1 bytes (.sl n 0 0 true) u [] d K := by
  have hlen := Sl.lenV hx
  have h0 : lenV (.sl n 0 0 true) = 0 := rfl
  unfold appC
  rw [hx.cells, hlen, h0, Nat.zero_add]
  refine ⟨hb, hb2, ?_⟩
  have hcl := hx.1
  by_cases e : len = 0
  · rw [if_pos e]
    refine ⟨hk _ _ Heap.sub.rfl' ⟨hcl, hx.2.1, .inr ⟨n, 0, true, _, by rw [e], hn, rfl, .inl e, fun j hj => by omega⟩⟩, .inr ⟨_, _, _, _, rfl⟩⟩
  · rw [if_neg e]
    simp only [hn]
    refine ⟨trivial, ?_⟩
    simp only [if_true]
    refine ⟨by simp, fun m hm => ?_⟩
    rw [Nat.zero_add]
    refine hk _ _ (Heap.sub.upd' Heap.sub.rfl' hm _) ⟨hcl, hx.2.1, .inr ⟨m, 0, false, _, rfl, by simp [Heap.upd]; rfl, rfl, .inr (by simp; omega), fun j hj => by simp⟩⟩
theorem Sl.sliTo {H : Heap} {v : V} {len b : Nat} {cs : List V} {k2 : IntKind} (h : Sl H v 1 len cs) (hb : b ≤ len) : ∃ u, sliV H 1 v none (some (.int k2 b)) none = some u ∧ Sl H u 1 b (cs.take b) := by
  obtain ⟨u, h1, h2⟩ := Sl.sli (k1 := .i64) (k2 := k2) (a := 0) h (by decide) (Nat.zero_le _) hb
  refine ⟨u, ?_, by simpa using h2⟩
  rw [← h1]
  have e : cutOf (none : Option V) 0 = cutOf (some (.int .i64 ((0 : Nat) : Int))) 0 := rfl
  unfold sliV
  rw [e]

theorem rTrim_spec {v : V} {n : Int} {L : Nat} {H : Heap} (hL : L ≤ 2199023255552) (hv : SNat H v n L) : ACalls Try.prog 58 [v] H fun u H' => Heap.sub H H' ∧ CNat H' u n L := by
  obtain ⟨xs, hx, hl, rfl, hxL⟩ := hv
  refine ACalls.of_body hm cv58 (by simp only [List.length_cons, List.length_nil]; decide) ?_
  have hlt := hx.lt
  simp only [F58, go_sem, ↓reduceIte, Nat.reduceEqDiff, Nat.reduceAdd, reduceCtorEq, hx.len]
  refine blk_join (fun env H' => H = H' ∧ env 0 = v ∧ ∃ m : Nat, m ≤ xs.length ∧ env 3 = .int .i64 m ∧ (∀ x ∈ xs.drop m, x = 0) ∧ (∀ (h : m - 1 < xs.length), 0 < m → xs[m-1] ≠ 0)) ?_ ?_
  · refine loop_count xs.length (fun k env H' => H = H' ∧ env 0 = v ∧ ∃ m : Nat, m + k = xs.length ∧ env 3 = .int .i64 m ∧ ∀ x ∈ xs.drop m, x = 0) ?_ ?_ ?_
    · simp only [go_sem, ↓reduceIte, Nat.reduceEqDiff, Nat.reduceAdd, reduceCtorEq]
      exact ⟨by trivial, by trivial, xs.length, by omega, rfl, by simp⟩
    · rintro k env H' hk ⟨rfl, h0, m, hm', h3, hz⟩
      obtain ⟨m', rfl⟩ : ∃ m', m = m' + 1 := ⟨m - 1, by omega⟩
      have hpos : (0 : Int) < ((m' + 1 : Nat) : Int) := by omega
      have hw : IntKind.i64.wrap (((m' + 1 : Nat) : Int) - 1) = (m' : Int) := by rw [wrapI (by omega) (by omega)]; omega
      obtain ⟨p, a1, a2⟩ := hx.get (k := m') (by omega) .i64
      simp only [go_sem, ↓reduceIte, Nat.reduceEqDiff, Nat.reduceAdd, reduceCtorEq, h0, h3, hpos, hw, a1, a2]
      refine iteC_if (fun c => ?_) (fun c => ?_)
      · simp only [go_sem, ↓reduceIte, Nat.reduceEqDiff, Nat.reduceAdd, reduceCtorEq, h0, h3, hw]
        refine ⟨by trivial, by trivial, m', by omega, by trivial, fun x hx' => ?_⟩
        rw [List.drop_eq_getElem_cons (by omega)] at hx'
        rcases List.mem_cons.1 hx' with rfl | hx'
        · exact c
        · exact hz x hx'
      · simp only [go_sem, ↓reduceIte, Nat.reduceEqDiff, Nat.reduceAdd, reduceCtorEq, h0, h3]
        exact ⟨by trivial, by trivial, m'+1, by omega, by trivial, hz, fun h _ => by simpa using c⟩
    · rintro env H' ⟨rfl, h0, m, hm', h3, hz⟩
      obtain rfl : m = 0 := by omega
      have hneg : ¬ (0 : Int) < ((0 : Nat) : Int) := by decide
      simp only [go_sem, ↓reduceIte, Nat.reduceEqDiff, Nat.reduceAdd, reduceCtorEq, h0, h3, hneg]
      exact ⟨by trivial, by trivial, 0, by omega, by trivial, hz, fun h hh => by omega⟩
  · rintro env H' ⟨rfl, h0, m, hm1, h3, hz, hlast⟩
    simp only [go_sem, ↓reduceIte, Nat.reduceEqDiff, Nat.reduceAdd, reduceCtorEq, h0, h3, fillV, List.length_cons, List.length_nil, splice, Nat.reduceLeDiff, Nat.zero_lt_one, and_self, List.take_zero, List.take_succ_cons, List.drop_succ_cons, List.drop_zero, List.drop_nil, Nat.reduceLT, Nat.le_refl]
    refine newC_intro fun b1 H1 hb1 hs1 hbb1 => ?_
    obtain ⟨u, hu, hu2⟩ := Sl.sliTo (k2 := .i64) (hx.mono hs1) hm1
    simp only [go_sem, ↓reduceIte, Nat.reduceEqDiff, Nat.reduceAdd, reduceCtorEq, h0, h3, Option.map_some, Option.map_none, hu]
    refine appC_empty hbb1 hu2 (by omega) (by omega) fun u' H2 hs2 hu' => ?_
    simp only [go_sem, ↓reduceIte, Nat.reduceEqDiff, Nat.reduceAdd, reduceCtorEq]
    obtain ⟨a, b, c⟩ := take_canon hm1 hz hl hlast
    have hlen : (xs.take m).length = m := by rw [List.length_take]; omega
    refine finO_self ⟨hs1.trans' hs2, xs.take m, ?_, a, b, c, by omega⟩
    unfold SLimbs
    rw [hlen]
    have : u32s (xs.take m) = (u32s xs).take m := by simp [u32s, List.map_take]
    rw [this]; exact hu'

theorem bv_rem32 {a : Int} (h : 0 ≤ a) : binV .rem (.int .u64 a) (.int .u64 4294967296) = some (.int .u64 (a % 4294967296)) := by
  have : a.tmod 4294967296 = a % 4294967296 := Int.tmod_eq_emod_of_nonneg h
  simp [binV, this]
theorem bv_quo32 {a : Int} (h : 0 ≤ a) (h1 : a < 18446744073709551616) : binV .quo (.int .u64 a) (.int .u64 4294967296) = some (.int .u64 (a / 4294967296)) := by
  have : a.tdiv 4294967296 = a / 4294967296 := Int.tdiv_eq_ediv_of_nonneg h
  have w : IntKind.u64.wrap (a / 4294967296) = a / 4294967296 := by rw [wrap64]; omega
  simp [binV, this, w]

theorem rOf_spec {n : Int} (h0 : 0 ≤ n) (h1 : n < 18446744073709551616) (H : Heap) : ACalls Try.prog 97 [.int .u64 n] H fun u H' => Heap.sub H H' ∧ CNat H' u n 2 := by
  refine ACalls.of_body hm cv97 (by simp only [List.length_cons, List.length_nil]; decide) ?_
  have w1 : IntKind.u32.wrap (n % 4294967296) = n % 4294967296 := by rw [wrap32]; omega
  have w2 : IntKind.u32.wrap (n / 4294967296) = n / 4294967296 := by rw [wrap32]; omega
  simp only [F97, go_sem, ↓reduceIte, Nat.reduceEqDiff, Nat.reduceAdd, reduceCtorEq, bv_rem32 h0, bv_quo32 h0 h1, w1, w2, fillV, List.length_cons, List.length_nil, splice, Nat.reduceLeDiff, Nat.zero_lt_one, and_self, List.take_zero, List.take_succ_cons, List.drop_succ_cons, List.drop_zero, List.drop_nil, Nat.reduceLT, Nat.le_refl]
  refine newC_intro fun m H1 hm1 hs1 hb1 => ?_
  simp only [go_sem, ↓reduceIte, Nat.reduceEqDiff, Nat.reduceAdd, reduceCtorEq]
  have hn : SNat H1 (.sl m 0 2 true) n 2 := by
    refine ⟨[n % 4294967296, n / 4294967296], ⟨rfl, by simp, .inr ⟨m, 0, true, _, rfl, hb1, rfl, .inr (by simp), fun j hj => by simp [u32s]⟩⟩, fun x hx => ?_, ?_, by simp⟩
    · rcases List.mem_cons.1 hx with rfl | hx
      · omega
      · rcases List.mem_cons.1 hx with rfl | hx
        · omega
        · cases hx
    · simp only [nval]; omega
  refine callC_grow (rTrim_spec (by decide) hn) ?_
  intro x H2 hs2 hx
  simp only [go_sem, ↓reduceIte, Nat.reduceEqDiff, Nat.reduceAdd, reduceCtorEq]
  exact finO_self ⟨hs1.trans' hs2, hx⟩

theorem limb_spec {v : V} {xs : List Int} {i : Nat} {H : Heap} (hx : SLimbs H v xs) (hl : Limbs xs) : ACalls Try.prog 69 [v, .int .i64 i] H fun u H' => u = .int .u64 (xs[i]?.getD 0) ∧ H' = H := by
  refine ACalls.of_body hm cv69 (by simp only [List.length_cons, List.length_nil]; decide) ?_
  simp only [F69, go_sem, ↓reduceIte, Nat.reduceEqDiff, Nat.reduceAdd, reduceCtorEq, hx.len]
  refine iteC_if (fun c => ?_) (fun c => ?_)
  · have hi : i < xs.length := by omega
    obtain ⟨p, a1, a2⟩ := hx.get hi .i64
    have hxi := hl _ (List.getElem_mem hi)
    have w1 : IntKind.u64.wrap xs[i] = xs[i] := by rw [wrap64]; omega
    simp only [go_sem, ↓reduceIte, Nat.reduceEqDiff, Nat.reduceAdd, reduceCtorEq, a1, a2, w1]
    exact finO_self ⟨by simp [hi], rfl⟩
  · simp only [go_sem, ↓reduceIte, Nat.reduceEqDiff, Nat.reduceAdd, reduceCtorEq]
    have hi : ¬ i < xs.length := by omega
    exact finO_self ⟨by simp [hi], rfl⟩
theorem limb_range {xs : List Int} (hl : Limbs xs) (i : Nat) : 0 ≤ xs[i]?.getD 0 ∧ xs[i]?.getD 0 < 4294967296 := by
  by_cases h : i < xs.length
  · simp only [h, List.getElem?_eq_getElem, Option.getD_some]; exact hl _ (List.getElem_mem h)
  · rw [List.getElem?_eq_none (by omega)]; decide
theorem nval_take_limb (xs : List Int) (k : Nat) : nval (xs.take (k+1)) = nval (xs.take k) + 4294967296 ^ k * (xs[k]?.getD 0) := by
  by_cases h : k < xs.length
  · rw [nval_take_succ h]; simp [h]
  · rw [List.take_of_length_le (by omega), List.take_of_length_le (by omega), List.getElem?_eq_none (by omega)]; simp

theorem grown_limbs {H0 H : Heap} {u : V} {os : List Int} (hu : (u = .nils ∧ u32s os = []) ∨ ∃ n len, u = .sl n 0 len false ∧ H0 n = none ∧ H n = some ⟨true, 1, u32s os⟩ ∧ (u32s os).length = len * 1) (hl : os.length ≤ 281474976710656) : SLimbs H u os := by
  rcases hu with ⟨rfl, h⟩ | ⟨n, len, rfl, _, hb, hlen⟩
  · have := congrArg List.length h
    rw [u32s_len] at this
    simp only [List.length_nil] at this
    exact ⟨by rw [u32s_len]; omega, hl, .inl ⟨rfl, this⟩⟩
  · rw [u32s_len] at hlen
    obtain rfl : os.length = len := by omega
    exact ⟨by rw [u32s_len]; omega, hl, .inr ⟨n, 0, false, _, rfl, hb, rfl, .inr (by rw [u32s_len]; omega), fun j hj => by simp⟩⟩
theorem rAdd_spec {av bv : V} {a b : Int} {L : Nat} {H : Heap} (hL : L ≤ 1099511627776) (ha : SNat H av a L) (hb : SNat H bv b L) : ACalls Try.prog 87 [av, bv] H fun u H' => Heap.sub H H' ∧ CNat H' u (a + b) (L + 1) := by
  obtain ⟨xs, hx, lx, rfl, hxL⟩ := ha
  obtain ⟨ys, hy, ly, rfl, hyL⟩ := hb
  refine ACalls.of_body hm cv87 (by simp only [List.length_cons, List.length_nil]; decide) ?_
  simp only [F87, go_sem, ↓reduceIte, Nat.reduceEqDiff, Nat.reduceAdd, reduceCtorEq]
  obtain ⟨M, hM⟩ : ∃ M, M = max xs.length ys.length := ⟨_, rfl⟩
  have hML : M ≤ L := by omega
  refine blk_join (fun env H' => Heap.sub H H' ∧ ∃ (k : Nat) (os : List Int) (u : V), env 5 = u ∧ SLimbs H' u os ∧ Limbs os ∧ os.length ≤ M + 1 ∧ nval os = nval xs + nval ys) ?_ ?_
  · refine loop_count (M + 1) (fun k env H' => Heap.sub H H' ∧ env 0 = av ∧ env 1 = bv ∧ env 7 = .int .i64 k ∧ ∃ (c : Int) (os : List Int) (u : V), env 5 = u ∧ env 6 = .int .u64 c ∧ ((u = .nils ∧ u32s os = []) ∨ ∃ n len, u = .sl n 0 len false ∧ H n = none ∧ H' n = some ⟨true, 1, u32s os⟩ ∧ (u32s os).length = len * 1) ∧ os.length = k ∧ Limbs os ∧ 0 ≤ c ∧ c ≤ 1 ∧ (M < k → c = 0) ∧ nval os + c * 4294967296 ^ k = nval (xs.take k) + nval (ys.take k)) ?_ ?_ ?_
    · simp only [go_sem, ↓reduceIte, Nat.reduceEqDiff, Nat.reduceAdd, reduceCtorEq]
      exact ⟨Heap.sub.rfl', by trivial, by trivial, rfl, 0, [], .nils, by trivial, by trivial, .inl ⟨rfl, rfl⟩, rfl, fun x hx => (by cases hx), by decide, by decide, fun _ => rfl, by simp [nval]⟩
    · rintro k env H1 hk ⟨hs1, h0, h1, h7, c, os, u, h5, h6, hu, hol, lo, hc0, hc1, hcM, hinv⟩
      have hS := grown_limbs hu (by omega)
      by_cases hc : k < xs.length ∨ k < ys.length ∨ 0 < c
      · by_cases c1 : (k : Int) < xs.length <;> by_cases c2 : (k : Int) < ys.length <;> by_cases c3 : (0 : Int) < c
        all_goals first | (exfalso; omega) | skip
        all_goals
          simp only [go_sem, ↓reduceIte, Nat.reduceEqDiff, Nat.reduceAdd, reduceCtorEq, h0, h1, h6, h7, (hx.mono hs1).len, (hy.mono hs1).len, c1, c2, c3]
          refine callC_pure (limb_spec (hx.mono hs1) lx) ?_
          simp only [go_sem, ↓reduceIte, Nat.reduceEqDiff, Nat.reduceAdd, reduceCtorEq, h0, h1, h6, h7]
          refine callC_pure (limb_spec (hy.mono hs1) ly) ?_
          obtain ⟨x, hxe⟩ : ∃ x, xs[k]?.getD 0 = x := ⟨_, rfl⟩
          obtain ⟨y, hye⟩ : ∃ y, ys[k]?.getD 0 = y := ⟨_, rfl⟩
          have rx := limb_range lx k
          have ry := limb_range ly k
          rw [hxe] at rx ⊢
          rw [hye] at ry ⊢
          have w1 : IntKind.u64.wrap (x + y) = x + y := by rw [wrap64]; omega
          have w2 : IntKind.u64.wrap (x + y + c) = x + y + c := by rw [wrap64]; omega
          have w3 : IntKind.u32.wrap ((x + y + c) % 4294967296) = (x + y + c) % 4294967296 := by rw [wrap32]; omega
          simp only [go_sem, ↓reduceIte, Nat.reduceEqDiff, Nat.reduceAdd, reduceCtorEq, h0, h1, h5, h6, h7, w1, w2, bv_rem32 (show 0 ≤ x + y + c by omega), w3, fillV, List.length_cons, List.length_nil, splice, Nat.reduceLeDiff, Nat.zero_lt_one, and_self, List.take_zero, List.take_succ_cons, List.drop_succ_cons, List.drop_zero, List.drop_nil, Nat.reduceLT, Nat.le_refl]
          refine newC_intro fun xb H2 hxb hs2 hbx => ?_
          simp only [go_sem, ↓reduceIte, Nat.reduceEqDiff, Nat.reduceAdd, reduceCtorEq]
          have hu2 : (u = .nils ∧ u32s os = []) ∨ ∃ n len, u = .sl n 0 len false ∧ H2 n = some ⟨true, 1, u32s os⟩ ∧ (u32s os).length = len * 1 := by
            rcases hu with h | ⟨n, len, a, _, b, d⟩
            · exact .inl h
            · exact .inr ⟨n, len, a, hs2 _ _ b, d⟩
          have hlu : lenV u = k := by
            rcases hu with ⟨rfl, h⟩ | ⟨n, len, rfl, _, _, d⟩
            · have := congrArg List.length h
              rw [u32s_len] at this
              simp only [List.length_nil] at this
              show 0 = k; omega
            · rw [u32s_len] at d
              show len = k; omega
          refine appC_one hu2 hbx rfl (by decide) (by omega) (by omega) fun m H3 hm3 hbm hf3 => ?_
          simp only [go_sem, ↓reduceIte, Nat.reduceEqDiff, Nat.reduceAdd, reduceCtorEq, h0, h1, h7, bv_quo32 (show 0 ≤ x + y + c by omega) (by omega)]
          rw [wrapN1 (by omega)]
          have hs02 := hs1.trans' hs2
          refine ⟨fun q b hq => ?_, by trivial, by trivial, by trivial, (x + y + c) / 4294967296, os ++ [(x + y + c) % 4294967296], _, rfl, rfl, .inr ⟨m, lenV u + 1, rfl, hs02.none' hm3, ?_, ?_⟩, by simp [hol], ?_, by omega, by omega, fun hMk => ?_, ?_⟩
          · rw [hf3 q (fun e => by subst e; rw [hs02 _ _ hq] at hm3; cases hm3) fun n o l f e => ?_]
            · exact hs02 q b hq
            · rcases hu with ⟨rfl, _⟩ | ⟨n', len, rfl, hn0, _, _⟩
              · cases e
              · injection e with e
                subst e
                rintro rfl
                rw [hn0] at hq; cases hq
          · rw [hbm]; simp [u32s]
          · rw [u32s_len]; simp [hlu, hol]
          · intro z hz
            rcases List.mem_append.1 hz with h | h
            · exact lo z h
            · have : z = (x + y + c) % 4294967296 := by simpa using h
              omega
          · have e1 : xs[k]?.getD 0 = 0 := by rw [List.getElem?_eq_none (by omega)]; rfl
            have e2 : ys[k]?.getD 0 = 0 := by rw [List.getElem?_eq_none (by omega)]; rfl
            omega
          · rw [nval_append, hol, nval_take_limb, nval_take_limb, hxe, hye, Int.pow_succ, Int.mul_comm (4294967296 ^ k) 4294967296]
            have := carry_step _ _ _ _ _ (x + y + c) hinv
            simp only [nval, Int.mul_zero, Int.add_zero]
            have e3 : x + y + c - c = x + y := by omega
            rw [e3, Int.mul_add] at this
            omega
      · have c1 : ¬ (k : Int) < xs.length := by omega
        have c2 : ¬ (k : Int) < ys.length := by omega
        have c3 : ¬ (0 : Int) < c := by omega
        obtain rfl : c = 0 := by omega
        simp only [go_sem, ↓reduceIte, Nat.reduceEqDiff, Nat.reduceAdd, reduceCtorEq, h0, h1, h6, h7, (hx.mono hs1).len, (hy.mono hs1).len, c1, c2, c3]
        rw [List.take_of_length_le (by omega), List.take_of_length_le (by omega)] at hinv
        exact ⟨hs1, k, os, u, h5, hS, lo, by omega, by omega⟩
    · rintro env H1 ⟨hs1, h0, h1, h7, c, os, u, h5, h6, hu, hol, lo, hc0, hc1, hcM, hinv⟩
      have hS := grown_limbs hu (by omega)
      obtain rfl := hcM (by omega)
      have c1 : ¬ ((M + 1 : Nat) : Int) < xs.length := by omega
      have c2 : ¬ ((M + 1 : Nat) : Int) < ys.length := by omega
      have c3 : ¬ (0 : Int) < 0 := by decide
      simp only [go_sem, ↓reduceIte, Nat.reduceEqDiff, Nat.reduceAdd, reduceCtorEq, h0, h1, h6, h7, (hx.mono hs1).len, (hy.mono hs1).len, c1, c2, c3]
      rw [List.take_of_length_le (by omega), List.take_of_length_le (by omega)] at hinv
      exact ⟨hs1, M + 1, os, u, h5, hS, lo, by omega, by omega⟩
  · rintro env H1 ⟨hs1, k, os, u, h5, hu, lo, hol, hval⟩
    simp only [go_sem, ↓reduceIte, Nat.reduceEqDiff, Nat.reduceAdd, reduceCtorEq, h5]
    refine callC_grow (rTrim_spec (L := M + 1) (by omega) ⟨os, hu, lo, rfl, hol⟩) ?_
    intro x H2 hs2 hx
    simp only [go_sem, ↓reduceIte, Nat.reduceEqDiff, Nat.reduceAdd, reduceCtorEq]
    rw [hval] at hx
    exact finO_self ⟨hs1.trans' hs2, hx.up (by omega)⟩
end Go.AM
