/- slices.Clone of ints; a slice that grows; trellis.Words. Conditions: as stated. -/
import Derived.Test.YtopeeknimehmcaaJ16
set_option linter.unusedVariables false
set_option linter.unusedSimpArgs false
namespace Go.AM
open Go Go.Proofs
attribute [local go_sem] c_skip c_ops c_seq c_ite c_blk c_exit c_ret t_normal t_exit t_ret b_normal b_exit b_ret i_nil i_cons s_guard s_mov s_pick s_new s_zero s_ld s_ldr s_st s_bin s_beq s_isnil s_eqs s_un s_conv s_fa s_fld s_ia s_sli s_ext s_ifc s_mkf s_agg s_len s_mm s_nilchk s_bsl s_mk s_app s_cpy s_call s_inv cells_agg cells_int cells_bool p_get p_none o_s o_c e_0 e_1 e_2 e_3 e_4 iteC_true iteC_false grd_tt grd_tf grd_ft grd_ff grd_und bindV_some pickV_t pickV_f beq_bool conv_int un_not not_dec mm_min mm_max bv_add bv_sub bv_mul bv_eql bv_neq bv_lss bv_leq bv_gtr bv_geq f_normal f_one f_two f_three f_none fa_ptr fld_one ext_tup len_sl len_nils decide_true decide_false not_true_eq_false not_false_eq_true List.map_cons List.map_nil List.append_nil List.cons_append List.nil_append Nat.zero_add Nat.add_zero Nat.mul_one Nat.succ_ne_self if_true if_false List.getElem?_cons_zero List.getElem?_cons_succ

/-- slices.Clone[[]int,int] -/
def F66 : AF := ⟨8, [(2, none)], (.seq (.ops [⟨none, false, (some 2), (.mov (.c .nils))⟩]) (.seq (.seq (.ops [⟨none, false, (some 3), (.mov (.s 0))⟩, ⟨none, false, (some 4), (.isnil false 0 (.s 3))⟩]) (.ite (.s 4) (.seq (.ops [⟨none, false, (some 2), (.mov (.c .nils))⟩]) .ret) .skip)) (.seq (.ops [⟨none, false, (some 5), (.bsl 1 0 [] [])⟩, ⟨none, false, (some 6), (.mov (.s 0))⟩, ⟨none, false, (some 7), (.app 1 8 (.s 5) (.s 6) [])⟩, ⟨none, false, (some 2), (.mov (.s 7))⟩]) .ret)))⟩
theorem cv66 : cvF Try.prog 66 = some F66 := by kernel_rfl

/-- trellis.Words$1 -/
def F65 : AF := ⟨43, [], (.seq (.seq (.ops [⟨none, false, (some 10), (.mov (.s 0))⟩, ⟨none, false, (some 11), (.ld false 1 (.s 2) none)⟩, ⟨none, false, (some 12), (.len (.s 11))⟩, ⟨none, false, (some 13), (.bin .eql (.s 10) (.s 12))⟩]) (.ite (.s 13) (.seq (.ops [⟨none, false, (some 14), (.ld false 1 (.s 3) none)⟩, ⟨none, false, (some 15), (.ld false 1 (.s 2) none)⟩, ⟨none, true, (some 16), (.call (.c (.fn 66 [])) [(.s 15)])⟩, ⟨none, false, (some 17), (.bsl 1 1 [.nils] [(0, (1, (.s 16)))])⟩, ⟨none, false, (some 18), (.app 1 24 (.s 14) (.s 17) [])⟩, ⟨none, false, none, (.st 1 (.s 3) (.s 18) [])⟩]) .ret) .skip)) (.seq (.ops [⟨none, false, (some 19), (.fa 1 (.s 4))⟩, ⟨none, false, (some 20), (.ld false 1 (.s 19) none)⟩, ⟨none, false, (some 21), (.mov (.s 0))⟩, ⟨none, false, (some 22), (.ia 1 (.s 20) (.s 21))⟩, ⟨none, false, (some 23), (.ld false 1 (.s 22) none)⟩, ⟨none, false, (some 24), (.mov (.s 1))⟩, ⟨none, false, (some 25), (.call (.c (.fn 59 [])) [(.s 23), (.s 24)])⟩, ⟨none, false, (some 26), (.len (.s 25))⟩, ⟨none, false, (some 27), (.mov (.c (.int .i64 (0))))⟩]) (.blk 0 (.loop (.seq (.ops [⟨none, false, (some 28), (.bin .lss (.s 27) (.s 26))⟩]) (.seq (.ite (.s 28) .skip (.exit 0)) (.seq (.blk 1 (.seq (.ops [⟨none, false, (some 29), (.ia 3 (.s 25) (.s 27))⟩, ⟨none, false, (some 30), (.ld true 3 (.s 29) none)⟩, ⟨none, false, (some 9), (.zero [(.int .i64 (0)), (.int .i64 (0)), (.int .i64 (0))])⟩, ⟨none, false, none, (.st 3 (.s 9) (.s 30) [])⟩]) (.seq (.ops [⟨none, false, (some 31), (.ld false 1 (.s 2) none)⟩, ⟨none, false, (some 32), (.mov (.s 0))⟩, ⟨none, false, (some 33), (.fa 1 (.s 9))⟩, ⟨none, false, (some 34), (.ld false 1 (.s 33) none)⟩, ⟨none, false, (some 35), (.ia 1 (.s 31) (.s 32))⟩, ⟨none, false, none, (.st 1 (.s 35) (.s 34) [])⟩]) (.ops [⟨none, false, (some 36), (.ld false 1 (.s 5) none)⟩, ⟨none, false, (some 37), (.mov (.s 0))⟩, ⟨none, false, (some 38), (.bin .add (.s 37) (.c (.int .i64 (1))))⟩, ⟨none, false, (some 39), (.fa 2 (.s 9))⟩, ⟨none, false, (some 40), (.ld false 1 (.s 39) none)⟩, ⟨none, false, (some 41), (.call (.s 36) [(.s 38), (.s 40)])⟩])))) (.ops [⟨none, false, (some 42), (.bin .add (.s 27) (.c (.int .i64 (1))))⟩, ⟨none, false, (some 27), (.mov (.s 42))⟩]))))))))⟩
theorem cv65 : cvF Try.prog 65 = some F65 := by kernel_rfl

/-- trellis.Words -/
def F29 : AF := ⟨38, [(2, none), (3, none)], (.seq (.ops [⟨none, false, (some 1), (.new (.s 0))⟩, ⟨none, false, (some 2), (.mov (.c .nils))⟩, ⟨none, false, (some 3), (.mov (.c (.int .i64 (0))))⟩]) (.seq (.ops [⟨none, false, (some 12), (.ld true 2 (.s 1) none)⟩, ⟨none, false, (some 13), (.call (.c (.fn 28 [])) [(.s 12)])⟩, ⟨none, false, (some 11), (.mov (.s 13))⟩, ⟨none, false, (some 14), (.ext (.s 11) 0)⟩, ⟨none, false, (some 15), (.ext (.s 11) 1)⟩, ⟨none, false, (some 4), (.mov (.s 14))⟩, ⟨none, false, (some 5), (.mov (.s 15))⟩]) (.seq (.seq (.ops [⟨none, false, (some 16), (.mov (.s 5))⟩, ⟨none, false, (some 17), (.bin .neq (.s 16) (.c (.int .i64 (0))))⟩]) (.ite (.s 17) (.seq (.ops [⟨none, false, (some 18), (.mov (.s 5))⟩, ⟨none, false, (some 2), (.mov (.c .nils))⟩, ⟨none, false, (some 3), (.mov (.s 18))⟩]) .ret) .skip)) (.seq (.seq (.ops [⟨none, false, (some 20), (.mov (.s 4))⟩, ⟨none, false, (some 21), (.call (.c (.fn 64 [])) [(.s 20)])⟩, ⟨none, false, (some 19), (.mov (.s 21))⟩, ⟨none, false, (some 22), (.ext (.s 19) 0)⟩, ⟨none, false, (some 23), (.ext (.s 19) 1)⟩, ⟨none, false, (some 6), (.mov (.s 22))⟩, ⟨none, false, (some 7), (.mov (.s 23))⟩]) (.seq (.ops [⟨none, false, (some 24), (.mov (.s 7))⟩, ⟨none, false, (some 25), (.un .not (.s 24))⟩, ⟨none, false, (some 26), (.mov (.s 25))⟩, ⟨(some (26, false)), false, (some 27), (.mov (.s 6))⟩, ⟨(some (26, false)), false, (some 28), (.bin .gtr (.s 27) (.c (.int .i64 (65536))))⟩, ⟨none, false, (some 29), (.pick (.s 26) (.c (.bool true)) (.s 28))⟩]) (.ite (.s 29) (.seq (.ops [⟨none, false, (some 2), (.mov (.c .nils))⟩, ⟨none, false, (some 3), (.mov (.c (.int .i64 (8))))⟩]) .ret) .skip))) (.seq (.ops [⟨none, false, (some 8), (.zero [.nils])⟩]) (.seq (.ops [⟨none, false, (some 30), (.fa 1 (.s 1))⟩, ⟨none, false, (some 31), (.ld false 1 (.s 30) none)⟩, ⟨none, false, (some 32), (.len (.s 31))⟩, ⟨none, false, (some 33), (.mk 1 8 [(.int .i64 (0))] (.s 32) (.s 32))⟩, ⟨none, false, (some 9), (.zero [.nils])⟩, ⟨none, false, none, (.st 1 (.s 9) (.s 33) [])⟩]) (.seq (.ops [⟨none, false, (some 10), (.zero [.nilf])⟩]) (.seq (.ops [⟨none, false, (some 34), (.mkf 65 [(.s 9), (.s 8), (.s 1), (.s 10)])⟩, ⟨none, false, none, (.st 1 (.s 10) (.s 34) [])⟩]) (.seq (.ops [⟨none, false, (some 35), (.ld false 1 (.s 10) none)⟩, ⟨none, false, (some 36), (.call (.s 35) [(.c (.int .i64 (0))), (.c (.int .i64 (0)))])⟩]) (.seq (.ops [⟨none, false, (some 37), (.ld false 1 (.s 8) none)⟩, ⟨none, false, (some 2), (.mov (.s 37))⟩, ⟨none, false, (some 3), (.mov (.c (.int .i64 (0))))⟩]) .ret))))))))))⟩
theorem cv29 : cvF Try.prog 29 = some F29 := by kernel_rfl


theorem ints_set' (xs : List Int) (i : Nat) (v : Int) : (ints xs).set i (.int .i64 v) = ints (xs.set i v) := by simp [ints, List.map_set]
theorem isnil_sl (n o l : Nat) (f : Bool) : nilV 0 (.sl n o l f) = some false := rfl
/-- append([]T{}, a...), with the block that it lies in -/
theorem appC_emptyB {H : Heap} {env : Env} {d : Option Nat} {K : Env → Heap → Prop} {n : Nat} {own : Bool} {u : V} {len bytes : Nat} {av : List Nat} {cs : List V} (hn : H n = some ⟨own, 1, []⟩) (hav : offAll env n av) (hx : Sl H u 1 len cs) (hb : len * bytes ≤ 140737488355328) (hb2 : len ≤ 140737488355328)
    (hk : ∀ m f H', Heap.sub H H' → ((m = n ∧ own = own ∧ f = true ∧ len = 0 ∧ cs = [] ∧ H' = H) ∨ (H m = none ∧ f = false ∧ H' m = some ⟨true, 1, cs⟩)) → K (env.put d (.sl m 0 len f)) H') : appC H env 1 bytes (.sl n 0 0 true) u av d K := by
  have hlen := Sl.lenV hx
  have h0 : lenV (.sl n 0 0 true) = 0 := rfl
  unfold appC
  rw [hx.cells, hlen, h0, Nat.zero_add]
  refine ⟨hb, hb2, ?_⟩
  have hcl := hx.1
  by_cases e : len = 0
  · rw [if_pos e]
    subst e
    exact ⟨hk n true H Heap.sub.rfl' (.inl ⟨rfl, rfl, rfl, rfl, List.length_eq_zero_iff.1 (by omega), rfl⟩), .inr ⟨_, _, _, _, rfl⟩⟩
  · rw [if_neg e]
    simp only [hn]
    refine ⟨hav, ?_⟩
    simp only [if_true]
    refine ⟨by simp, fun m hm => ?_⟩
    rw [Nat.zero_add]
    exact hk m false _ (Heap.sub.upd' Heap.sub.rfl' hm _) (.inr ⟨hm, rfl, by simp [Heap.upd]⟩)

theorem Clone_spec {u : V} {n : Nat} {f : Bool} {o : Nat} {xs : List Int} {H : Heap} (hu : u = .sl n o xs.length f) (hx : SInts H u xs) (hl : xs.length ≤ 65536) : ACalls Try.prog 66 [u] H fun r H' => Heap.sub H H' ∧ ∃ m f, r = .sl m 0 xs.length f ∧ H m = none ∧ ∃ own, H' m = some ⟨own, 1, ints xs⟩ := by
  subst hu
  refine ACalls.of_body hm cv66 (by simp only [List.length_cons, List.length_nil]; decide) ?_
  simp only [F66, go_sem, ↓reduceIte, Nat.reduceEqDiff, Nat.reduceAdd, reduceCtorEq, isnil_sl, fillV, List.length_cons, List.length_nil, splice, Nat.reduceLeDiff, Nat.zero_lt_one, and_self, List.take_zero, List.take_succ_cons, List.drop_succ_cons, List.drop_zero, List.drop_nil, Nat.reduceLT, Nat.le_refl]
  refine newC_intro fun b1 H1 hb1 hs1 hbb1 => ?_
  simp only [go_sem, ↓reduceIte, Nat.reduceEqDiff, Nat.reduceAdd, reduceCtorEq]
  refine appC_emptyB hbb1 trivial (hx.mono hs1) (by omega) (by omega) fun m f' H2 hs2 hm => ?_
  simp only [go_sem, ↓reduceIte, Nat.reduceEqDiff, Nat.reduceAdd, reduceCtorEq]
  refine finO_self ⟨hs1.trans' hs2, m, f', rfl, ?_⟩
  rcases hm with ⟨rfl, _, _, h0, h1, rfl⟩ | ⟨h1, _, h2⟩
  · exact ⟨hb1, true, by rw [h1]; exact hbb1⟩
  · exact ⟨hs1.none' h1, true, h2⟩

/-- the state of the search for words: G holds what stays -/
structure WSt (W bo : Nat) (G H : Heap) (ww : List Int) (ov : V) (us : List V) (outs : List (List Int)) : Prop where
  gh : Heap.sub G H
  gW : G W = none
  gb : G bo = none
  ne : W ≠ bo
  hW : H W = some ⟨true, 1, ints ww⟩
  hb : H bo = some ⟨true, 1, [ov]⟩
  out : (ov = .nils ∧ us = []) ∨ ∃ No, ov = .sl No 0 us.length false ∧ H No = some ⟨true, 1, us⟩ ∧ G No = none ∧ No ≠ W ∧ No ≠ bo
  len : us.length = outs.length
  each : ∀ i, (h : i < us.length) → SInts G us[i] (outs[i]'(by omega))
theorem WSt.grow {W bo : Nat} {G H H' : Heap} {ww : List Int} {ov : V} {us : List V} {outs : List (List Int)} (s : WSt W bo G H ww ov us outs) (hs : Heap.sub H H') : WSt W bo G H' ww ov us outs :=
  ⟨s.gh.trans' hs, s.gW, s.gb, s.ne, hs _ _ s.hW, hs _ _ s.hb, s.out.imp id fun ⟨No, a, b, c⟩ => ⟨No, a, hs _ _ b, c⟩, s.len, s.each⟩
theorem WSt.call {W bo : Nat} {G H G' H' : Heap} {ww : List Int} {ov : V} {us : List V} {outs : List (List Int)} (s : WSt W bo G H ww ov us outs) (hs : Heap.sub H H') (h1 : Heap.sub G G') (h2 : Heap.sub G' H') (h3 : ∀ n, G n = none → H n ≠ none → G' n = none) : WSt W bo G' H' ww ov us outs :=
  ⟨h2, h3 W s.gW (by rw [s.hW]; simp), h3 bo s.gb (by rw [s.hb]; simp), s.ne, hs _ _ s.hW, hs _ _ s.hb, s.out.imp id fun ⟨No, a, b, c, d⟩ => ⟨No, a, hs _ _ b, h3 No c (by rw [b]; simp), d⟩, s.len, fun i h => (s.each i h).mono h1⟩
/-- a change elsewhere -/
theorem WSt.off {W bo n : Nat} {G H H' : Heap} {ww : List Int} {ov : V} {us : List V} {outs : List (List Int)} (s : WSt W bo G H ww ov us outs) (hg : G n = none) (hW : n ≠ W) (hb : n ≠ bo) (hN : ∀ m o l f, ov = V.sl m o l f → n ≠ m) (hf : ∀ m, m ≠ n → H' m = H m) : WSt W bo G H' ww ov us outs := by
  refine ⟨fun q b hq => ?_, s.gW, s.gb, s.ne, by rw [hf W hW.symm]; exact s.hW, by rw [hf bo hb.symm]; exact s.hb, s.out.imp id fun ⟨No, a, b, c⟩ => ⟨No, a, by rw [hf No (hN _ _ _ _ a).symm]; exact b, c⟩, s.len, s.each⟩
  have : q ≠ n := by rintro rfl; rw [hg] at hq; cases hq
  rw [hf q this]; exact s.gh q b hq
/-- a letter of the word is written -/
theorem WSt.letter {W bo : Nat} {G H H' : Heap} {ww : List Int} {ov : V} {us : List V} {outs : List (List Int)} (s : WSt W bo G H ww ov us outs) (ww' : List Int) (h1 : H' W = some ⟨true, 1, ints ww'⟩) (hf : ∀ m, m ≠ W → H' m = H m) : WSt W bo G H' ww' ov us outs := by
  refine ⟨fun q b hq => ?_, s.gW, s.gb, s.ne, h1, by rw [hf bo s.ne.symm]; exact s.hb, s.out.imp id fun ⟨No, a, b, c, d⟩ => ⟨No, a, by rw [hf No d.1]; exact b, c, d⟩, s.len, s.each⟩
  have : q ≠ W := by rintro rfl; rw [s.gW] at hq; cases hq
  rw [hf q this]; exact s.gh q b hq

theorem walk_spec {ws : List Int} {es : List (List Ed)} {G0 : Heap} {sv ev : V} {W bw bo b1 bk : Nat} (sh : Shaped ws es) (hgood : ∀ i, (h : i < es.length) → GoodSec (ws[i]?.getD 0) (ws[i+1]?.getD 0) es[i]) (he : SSecs G0 ev es)
    (hb1 : ∃ o, G0 b1 = some ⟨o, 1, [sv, ev]⟩) (hbw : ∃ o, G0 bw = some ⟨o, 1, [.sl W 0 es.length true]⟩) (hbk : ∃ o, G0 bk = some ⟨o, 1, [.fn 65 [.ptr bw 0, .ptr bo 0, .ptr b1 0, .ptr bk 0]]⟩) :
    ∀ (m i : Nat) (v : Int) (G H : Heap) (ww : List Int) (ov : V) (us : List V) (outs : List (List Int)), i + m = es.length → Heap.sub G0 G → WSt W bo G H ww ov us outs → ww.length = es.length → outs.length + (suf es m v).length ≤ 65536 →
      ACalls Try.prog 65 [.int .i64 i, .int .i64 v, .ptr bw 0, .ptr bo 0, .ptr b1 0, .ptr bk 0] H fun u H' => ∃ G' ww' ov' us', Heap.sub G G' ∧ WSt W bo G' H' ww' ov' us' (outs ++ (suf es m v).map (ww.take i ++ ·)) ∧ ww'.length = es.length ∧ ww'.take i = ww.take i := by
  have hn := sh.n
  obtain ⟨o1, hb1⟩ := hb1
  obtain ⟨o2, hbw⟩ := hbw
  obtain ⟨o3, hbk⟩ := hbk
  intro m
  induction m with
  | zero =>
    intro i v G H ww ov us outs him hg s hwl hbound
    obtain rfl : i = es.length := by omega
    refine ACalls.of_body hm cv65 (by simp only [List.length_cons, List.length_nil]; decide) ?_
    have k1 := s.gh _ _ (hg _ _ hbw)
    simp only [F65, go_sem, ↓reduceIte, Nat.reduceEqDiff, Nat.reduceAdd, reduceCtorEq, ld_box k1, ld_box s.hb]
    have hin : SInts H (.sl W 0 es.length true) ww := by
      unfold SInts
      rw [hwl]
      exact sl_block s.hW (by rw [ints_len, hwl]; omega) (by omega)
    have hin' : SInts H (.sl W 0 ww.length true) ww := by rw [hwl]; exact hin
    rw [← hwl]
    refine callC_grow (Clone_spec rfl hin' (by omega)) ?_
    rintro r H1 hs1 ⟨mm, f, rfl, hmm, own, hbm⟩
    simp only [go_sem, ↓reduceIte, Nat.reduceEqDiff, Nat.reduceAdd, reduceCtorEq, fillV, List.length_cons, List.length_nil, splice, Nat.reduceLeDiff, Nat.zero_lt_one, and_self, List.take_zero, List.take_succ_cons, List.drop_succ_cons, List.drop_zero, List.drop_nil, Nat.reduceLT, Nat.le_refl, show V.cells (V.sl mm 0 ww.length f) = [V.sl mm 0 ww.length f] from rfl]
    refine newC_intro fun xb H2 hxb hs2 hbx => ?_
    have hs12 := hs1.trans' hs2
    have s2 := s.grow hs12
    have hmm2 : H2 mm = some ⟨own, 1, ints ww⟩ := hs2 _ _ hbm
    have hou : (ov = .nils ∧ us = []) ∨ ∃ n len, ov = .sl n 0 len false ∧ H2 n = some ⟨true, 1, us⟩ ∧ us.length = len * 1 := by
      rcases s2.out with h | ⟨No, a, b, _⟩
      · exact .inl h
      · exact .inr ⟨No, us.length, a, b, by omega⟩
    have hlu : lenV ov = us.length := by
      rcases s.out with ⟨rfl, h⟩ | ⟨No, a, _⟩
      · rw [h]; rfl
      · rw [a]; rfl
    have hul := s.len
    have hsuf : (suf es 0 v).length = 1 := rfl
    simp only [go_sem, ↓reduceIte, Nat.reduceEqDiff, Nat.reduceAdd, reduceCtorEq]
    refine appC_one hou hbx rfl (by decide) (by omega) (by omega) fun m2 H3 hm2 hbm2 hf3 => ?_
    have q1 : m2 ≠ bo := by rintro rfl; rw [s2.hb] at hm2; cases hm2
    have q2 : m2 ≠ W := by rintro rfl; rw [s2.hW] at hm2; cases hm2
    have q3 : m2 ≠ mm := by rintro rfl; rw [hmm2] at hm2; cases hm2
    have hov : ∀ q, G q ≠ none ∨ q = W ∨ q = bo ∨ q = mm → ∀ n o l f, ov = V.sl n o l f → q ≠ n := by
      rintro q hq n o l f rfl rfl
      rcases s.out with ⟨h, _⟩ | ⟨No, a, b, c, d, e⟩
      · cases h
      · injection a with a
        subst a
        rcases hq with h | h | h | h
        · exact h c
        · exact d h
        · exact e h
        · rw [← h, b] at hmm; cases hmm
    have hbo3 : H3 bo = some ⟨true, 1, [ov]⟩ := by rw [hf3 bo q1.symm (hov bo (.inr (.inr (.inl rfl))))]; exact s2.hb
    simp only [go_sem, ↓reduceIte, Nat.reduceEqDiff, Nat.reduceAdd, reduceCtorEq]
    refine stC_intro hbo3 trivial rfl (by decide) (by show 0 + 1 ≤ 1; decide) fun H4 hb4 hf4 hs4 => ?_
    simp only [go_sem, ↓reduceIte, Nat.reduceEqDiff, Nat.reduceAdd, reduceCtorEq]
    have hgm : G mm = none := s.gh.none' hmm
    have hGG : Heap.sub G (G.upd mm (some ⟨own, 1, ints ww⟩)) := Heap.sub_upd hgm
    have hbw' : mm ≠ bo := by rintro rfl; rw [s.hb] at hmm; cases hmm
    have hWw' : mm ≠ W := by rintro rfl; rw [s.hW] at hmm; cases hmm
    refine finO_self ⟨G.upd mm (some ⟨own, 1, ints ww⟩), ww, .sl m2 0 (lenV ov + 1) false, us ++ [.sl mm 0 ww.length f], hGG, ⟨fun q b hq => ?_, ?_, ?_, s.ne, ?_, ?_, .inr ⟨m2, by simp [hlu], ?_, ?_, q2, q1⟩, by simp [hul, suf], fun j hj => ?_⟩, rfl, rfl⟩
    · by_cases e : q = mm
      · subst e
        simp [Heap.upd] at hq
        rw [hf4 q hbw', hf3 q q3.symm (hov q (.inr (.inr (.inr rfl)))), hmm2, hq]
      · simp [Heap.upd, e] at hq
        have r1 : q ≠ bo := by rintro rfl; rw [s.gb] at hq; cases hq
        have r2 : q ≠ m2 := by rintro rfl; rw [s2.gh _ _ hq] at hm2; cases hm2
        rw [hf4 q r1, hf3 q r2 (hov q (.inl (by rw [hq]; simp)))]
        exact s2.gh _ _ hq
    · simp [Heap.upd, hWw'.symm, s.gW]
    · simp [Heap.upd, hbw'.symm, s.gb]
    · rw [hf4 W s.ne, hf3 W q2.symm (hov W (.inr (.inl rfl)))]; exact s2.hW
    · rw [hb4]; rfl
    · rw [hf4 m2 q1]; exact hbm2
    · simp [Heap.upd, q3, s.gh.none' (hs12.none' hm2)]
    · by_cases e : j < us.length
      · rw [List.getElem_append_left e]
        have := (s.each j e).mono hGG
        simp only [List.getElem_append_left (show j < outs.length by omega)]
        exact this
      · have hj' : j = us.length := by simp at hj; omega
        subst hj'
        have e1 : (outs ++ List.map (fun x => List.take ww.length ww ++ x) (suf es 0 v))[us.length]'(by simp [suf]; omega) = ww := by
          rw [List.getElem_append_right (by omega)]
          simp [suf]
        simp only [e1, List.getElem_append_right (Nat.le_refl _), Nat.sub_self, List.getElem_singleton]
        exact sl_block (n := mm) (own := own) (by simp [Heap.upd]) (by rw [ints_len]; omega) (by omega)
  | succ m ih =>
    intro i v G H ww ov us outs him hg s hwl hbound
    have hil : i < es.length := by omega
    refine ACalls.of_body hm cv65 (by simp only [List.length_cons, List.length_nil]; decide) ?_
    have k1 := s.gh _ _ (hg _ _ hbw)
    have k2 := s.gh _ _ (hg _ _ hb1)
    have hne : ¬ (i : Int) = es.length := by omega
    have heG := SSecs.mono he hg
    obtain ⟨p, ue, a1, a2, a3⟩ := heG.get hil .i64
    have gd := hgood i hil
    have hfl : (fromI es[i] v).length ≤ es[i].length := List.length_filter_le ..
    have hlk := sh.each i hil
    simp only [F65, go_sem, ↓reduceIte, Nat.reduceEqDiff, Nat.reduceAdd, reduceCtorEq, ld_box k1, hne, ld_box k2, a1, ld_mono s.gh a2]
    refine callC_in (R := fun u G' => SEds G' u (fromI es[i] v)) ((from_spec a3 hlk (sorted_of gd.up)).mono fun u G' h => ⟨by rw [h.2]; exact Heap.sub.rfl', by rw [h.2]; exact h.1⟩) s.gh fun u H1 G1 hs1 ga gb gc hu => ?_
    have s1 := s.call hs1 ga gb gc
    obtain ⟨fl, hfle⟩ : ∃ fl, fl = fromI es[i] v := ⟨_, rfl⟩
    rw [← hfle] at hu hfl
    obtain ⟨f, hf⟩ : ∃ f : Ed → List (List Int), f = fun e => (suf es m e.to).map fun s => ww.take i ++ (e.lb :: s) := ⟨_, rfl⟩
    have hP : (suf es (m+1) v).map (ww.take i ++ ·) = fl.flatMap f := by
      have e1 : es.length - (m + 1) = i := by omega
      rw [suf, e1, hfle, hf]
      simp only [hil, List.getElem?_eq_getElem, Option.getD_some, List.map_flatMap, List.map_map, Function.comp_def]
    have hPs : ∀ k, (h : k < fl.length) → (fl.take (k+1)).flatMap f = (fl.take k).flatMap f ++ f fl[k] := fun k h => by
      rw [List.take_add_one, List.getElem?_eq_getElem h, List.flatMap_append]; simp
    have hPb : ∀ k, (h : k < fl.length) → outs.length + ((fl.take k).flatMap f).length + (f fl[k]).length ≤ 65536 := fun k h => by
      have e1 : (fl.flatMap f).length = ((fl.take (k+1)).flatMap f).length + ((fl.drop (k+1)).flatMap f).length := by
        conv => lhs; rw [← List.take_append_drop (k+1) fl, List.flatMap_append, List.length_append]
      rw [← hP, List.length_map, hPs k h, List.length_append] at e1
      omega
    simp only [go_sem, ↓reduceIte, Nat.reduceEqDiff, Nat.reduceAdd, reduceCtorEq, hu.len]
    refine range_loop fl.length (fun k env H' => env 0 = .int .i64 i ∧ env 2 = .ptr bw 0 ∧ env 5 = .ptr bk 0 ∧ env 25 = u ∧ env 26 = .int .i64 fl.length ∧ env 27 = .int .i64 k ∧ ∃ G' ww' ov' us', Heap.sub G1 G' ∧ WSt W bo G' H' ww' ov' us' (outs ++ (fl.take k).flatMap f) ∧ ww'.length = es.length ∧ ww'.take i = ww.take i) (by omega) (by decide) (by decide) ?_ ?_ ?_ ?_
    · rintro k env H' ⟨_, _, _, _, h7, h8, _⟩; exact ⟨h8, h7⟩
    · simp only [go_sem, ↓reduceIte, Nat.reduceEqDiff, Nat.reduceAdd, reduceCtorEq]
      exact ⟨by trivial, by trivial, by trivial, by trivial, by trivial, rfl, G1, ww, ov, us, Heap.sub.rfl', by simpa using s1, hwl, rfl⟩
    · rintro k env H2 hk ⟨h0, h2, h5, h25, h26, h27, G2, ww2, ov2, us2, hg2, s2, hwl2, hwt2⟩
      have hgG2 := hg.trans' (ga.trans' hg2)
      obtain ⟨p2, q0, q1, q2, c1, c2, _⟩ := (hu.mono (hg2.trans' s2.gh)).get hk .i64
      simp only [go_sem, ↓reduceIte, Nat.reduceEqDiff, Nat.reduceAdd, reduceCtorEq, h0, h2, h5, h25, h26, h27, c1, c2]
      refine newC_intro fun n9 H3 hn9 hs3 hb9 => ?_
      simp only [go_sem, ↓reduceIte, Nat.reduceEqDiff, Nat.reduceAdd, reduceCtorEq]
      refine stC_intro hb9 trivial rfl (by decide) (by decide) fun H4 hb4 hf4 hs4 => ?_
      simp only [Ed.cells, fillV, List.length_cons, List.length_nil, splice, Nat.reduceLeDiff, Nat.zero_lt_one, and_self, List.take_zero, List.take_succ_cons, List.drop_succ_cons, List.drop_zero, List.drop_nil, Nat.reduceLT, Nat.le_refl, go_sem, ↓reduceIte, Nat.reduceEqDiff, Nat.reduceAdd, reduceCtorEq] at hb4
      have s4 : WSt W bo G2 H4 ww2 ov2 us2 _ := (s2.grow hs3).off (n := n9) (s2.gh.none' hn9) (by rintro rfl; rw [s2.hW] at hn9; cases hn9) (by rintro rfl; rw [s2.hb] at hn9; cases hn9) (by
        rintro n o l f' rfl rfl
        rcases s2.out with ⟨h, _⟩ | ⟨No, a, b, _⟩
        · cases h
        · injection a with a; subst a; rw [b] at hn9; cases hn9) hf4
      have k1 := s4.gh _ _ (hgG2 _ _ hbw)
      have k3 := s4.gh _ _ (hgG2 _ _ hbk)
      have h9W : n9 ≠ W := by rintro rfl; rw [s2.hW] at hn9; cases hn9
      simp only [go_sem, ↓reduceIte, Nat.reduceEqDiff, Nat.reduceAdd, reduceCtorEq, h0, h2, h5, ld_box hb4, ld_box k1, ia_nat hil]
      refine stC_intro s4.hW trivial rfl (by decide) (by show i + 1 ≤ _; rw [ints_len]; omega) fun H5 hb5 hf5 hs5 => ?_
      rw [cells_int, splice_one _ _ _ (by rw [ints_len]; omega), ints_set'] at hb5
      have s5 := s4.letter _ hb5 hf5
      have k3 := s5.gh _ _ (hgG2 _ _ hbk)
      have hb59 : H5 n9 = some ⟨true, 1, [V.int .i64 fl[k].fr, V.int .i64 fl[k].lb, V.int .i64 fl[k].to]⟩ := by rw [hf5 n9 h9W]; exact hb4
      simp only [go_sem, ↓reduceIte, Nat.reduceEqDiff, Nat.reduceAdd, reduceCtorEq, h0, h2, h5, ld_box k3, ld_box hb59]
      rw [wrapN1 (by omega)]
      have hbd := hPb k hk
      have hfk : (f fl[k]).length = (suf es m fl[k].to).length := by rw [hf]; simp
      refine callC_any (ih (i+1) fl[k].to G2 H5 _ ov2 us2 _ (by omega) hgG2 s5 (by rw [List.length_set]; exact hwl2) (by rw [List.length_append]; omega)) ?_
      rintro r H6 ⟨G6, ww6, ov6, us6, hg6, s6, hwl6, hwt6⟩
      simp only [go_sem, ↓reduceIte, Nat.reduceEqDiff, Nat.reduceAdd, reduceCtorEq, h0, h2, h5, h25, h26, h27]
      have et : (ww2.set i fl[k].lb).take (i+1) = ww.take i ++ [fl[k].lb] := by
        rw [List.take_add_one, List.take_set_of_le (Nat.le_refl i), hwt2, List.getElem?_set_self (by omega)]; rfl
      refine ⟨by trivial, by trivial, by trivial, by trivial, by trivial, by trivial, by trivial, G6, ww6, ov6, us6, hg2.trans' hg6, ?_, hwl6, ?_⟩
      · rw [hPs k hk, ← List.append_assoc]
        rw [et] at s6
        have : (suf es m fl[k].to).map (ww.take i ++ [fl[k].lb] ++ ·) = f fl[k] := by
          rw [hf]; simp
        rw [this] at s6
        exact s6
      · have := congrArg (List.take i) hwt6
        rw [List.take_take, List.take_take, Nat.min_eq_left (by omega), List.take_set_of_le (Nat.le_refl i)] at this
        rw [this, hwt2]
    · rintro env H' ⟨h0, h2, h5, h25, h26, h27, G', ww', ov', us', hg', s', hwl', hwt'⟩
      rw [List.take_length, ← hP] at s'
      simp only [go_sem, ↓reduceIte, Nat.reduceEqDiff, Nat.reduceAdd, reduceCtorEq]
      exact finO_self ⟨G', ww', ov', us', ga.trans' hg', s', hwl', hwt'⟩

theorem WSt.rows {W bo : Nat} {G H : Heap} {ww : List Int} {ov : V} {us : List V} {outs : List (List Int)} (s : WSt W bo G H ww ov us outs) (hl : outs.length ≤ 65536) : SRows H ov outs := by
  refine ⟨us, ?_, fun i hi => ⟨us[i]'(by rw [s.len]; exact hi), by simp [s.len, hi], (s.each i (by rw [s.len]; exact hi)).mono s.gh⟩⟩
  have hl' := s.len
  rcases s.out with ⟨rfl, h⟩ | ⟨No, rfl, b, _⟩
  · subst h
    exact ⟨by simp at hl' ⊢; omega, by omega, .inl ⟨rfl, by simpa using hl'.symm⟩⟩
  · rw [← s.len]
    exact sl_block b (by omega) (by omega)

theorem Words_spec {sv ev : V} {ws : List Int} {es : List (List Ed)} {H : Heap} (hs : SInts H sv ws) (he : SSecs H ev es) : ACalls Try.prog 29 [.agg [sv, ev]] H fun u H' => Heap.sub H H' ∧
    ((properI ws es ≠ 0 ∧ u = .tup [.nils, .int .i64 (properI ws es)]) ∨ (properI ws es = 0 ∧ 65536 < pathsI es ∧ u = .tup [.nils, .int .i64 8]) ∨ (properI ws es = 0 ∧ pathsI es ≤ 65536 ∧ ∃ v, u = .tup [v, .int .i64 0] ∧ SRows H' v (suf es es.length 0))) := by
  refine ACalls.of_body hm cv29 (by simp only [List.length_cons, List.length_nil]; decide) ?_
  simp only [F29, go_sem, ↓reduceIte, Nat.reduceEqDiff, Nat.reduceAdd, reduceCtorEq]
  refine newC_intro fun b1 H1 hn1 hs1 hb1 => ?_
  simp only [go_sem, ↓reduceIte, Nat.reduceEqDiff, Nat.reduceAdd, reduceCtorEq, ld_boxa hb1 (show 0 + 2 ≤ _ by simp), fillV, List.length_cons, List.length_nil, splice, Nat.reduceLeDiff, Nat.zero_lt_one, and_self, List.take_zero, List.take_succ_cons, List.drop_succ_cons, List.drop_zero, List.drop_nil, Nat.reduceLT, Nat.le_refl]
  refine callC_grow (Paths_spec (hs.mono hs1) (SSecs.mono he hs1)) ?_
  rintro u H2 hs2 (⟨hne, rfl⟩ | ⟨hp, v, rfl, hv⟩)
  · have hne' : ¬ properI ws es = 0 := hne
    simp only [go_sem, ↓reduceIte, Nat.reduceEqDiff, Nat.reduceAdd, reduceCtorEq, hne']
    exact finO_self ⟨hs1.trans' hs2, .inl ⟨hne, rfl⟩⟩
  have hs02 := hs1.trans' hs2
  obtain ⟨h0, w0, wl, hgood⟩ := proper_of hp
  have sh := shaped_of h0
  have hn := sh.n
  have hpl := paths_len sh wl
  simp only [go_sem, ↓reduceIte, Nat.reduceEqDiff, Nat.reduceAdd, reduceCtorEq]
  refine callC_pure (nInt_spec (by decide) hv.nat) ?_
  by_cases c1 : pathsI es < 9223372036854775808
  · by_cases c2 : 65536 < pathsI es
    · simp only [go_sem, ↓reduceIte, Nat.reduceEqDiff, Nat.reduceAdd, reduceCtorEq, c1, c2, Bool.not_true]
      exact finO_self ⟨hs02, .inr (.inl ⟨hp, by first | trivial | assumption, rfl⟩)⟩
    · simp only [go_sem, ↓reduceIte, Nat.reduceEqDiff, Nat.reduceAdd, reduceCtorEq, c1, c2, Bool.not_true]
      refine newC_intro fun bo H3 hn3 hs3 hb3 => ?_
      have hb13 := hs3 _ _ (hs2 _ _ hb1)
      have he3 := SSecs.mono he (hs02.trans' hs3)
      simp only [go_sem, ↓reduceIte, Nat.reduceEqDiff, Nat.reduceAdd, reduceCtorEq, ld_box hb13, SLists.len he3]
      refine mkC_intro (Nat.le_refl _) (by omega) (by omega) fun W H4 hn4 hs4 hb4 => ?_
      rw [flat_rep] at hb4
      simp only [go_sem, ↓reduceIte, Nat.reduceEqDiff, Nat.reduceAdd, reduceCtorEq, beq_self_eq_true]
      refine newC_intro fun bw H5 hn5 hs5 hb5 => ?_
      simp only [go_sem, ↓reduceIte, Nat.reduceEqDiff, Nat.reduceAdd, reduceCtorEq]
      refine stC_intro hb5 trivial rfl (by decide) (by decide) fun H6 hb6 hf6 hs6 => ?_
      simp only [go_sem, ↓reduceIte, Nat.reduceEqDiff, Nat.reduceAdd, reduceCtorEq]
      refine newC_intro fun bk H7 hn7 hs7 hb7 => ?_
      simp only [go_sem, ↓reduceIte, Nat.reduceEqDiff, Nat.reduceAdd, reduceCtorEq]
      refine stC_intro hb7 trivial rfl (by decide) (by decide) fun H8 hb8 hf8 hs8 => ?_
      have h46 := hs6 _ hs5 hn5
      have h68 := hs8 _ hs7 hn7
      have h48 := h46.trans' h68
      have hWb : W ≠ bo := by rintro rfl; rw [hb3] at hn4; cases hn4
      have hbwW : bw ≠ W := by rintro rfl; rw [hb4] at hn5; cases hn5
      have hbwb : bw ≠ bo := by rintro rfl; rw [hs4 _ _ hb3] at hn5; cases hn5
      have hbkW : bk ≠ W := by rintro rfl; rw [h46 _ _ hb4] at hn7; cases hn7
      have hbkb : bk ≠ bo := by rintro rfl; rw [h46 _ _ (hs4 _ _ hb3)] at hn7; cases hn7
      have hb1W : b1 ≠ W := by rintro rfl; rw [hb13] at hn4; cases hn4
      have hb1b : b1 ≠ bo := by rintro rfl; rw [hs2 _ _ hb1] at hn3; cases hn3
      obtain ⟨G, hG⟩ : ∃ G : Heap, G = fun q => if q = W ∨ q = bo then none else H8 q := ⟨_, rfl⟩
      have hGW : G W = none := by rw [hG]; simp
      have hGb : G bo = none := by rw [hG]; simp
      have hGo : ∀ q, q ≠ W → q ≠ bo → G q = H8 q := fun q h h' => by rw [hG]; simp [h, h']
      have hGH : Heap.sub G H8 := fun q b hq => by
        by_cases e1 : q = W
        · subst e1; rw [hGW] at hq; cases hq
        · by_cases e2 : q = bo
          · subst e2; rw [hGb] at hq; cases hq
          · rw [hGo q e1 e2] at hq; exact hq
      have h2G : Heap.sub H2 G := fun q b hq => by
        have r1 : q ≠ W := by rintro rfl; rw [hs3 _ _ hq] at hn4; cases hn4
        have r2 : q ≠ bo := by rintro rfl; rw [hq] at hn3; cases hn3
        rw [hGo q r1 r2]
        exact h48 _ _ (hs4 _ _ (hs3 _ _ hq))
      have wst : WSt W bo G H8 (List.replicate es.length 0) .nils [] [] := by
        refine ⟨hGH, hGW, hGb, hWb, ?_, h48 _ _ (hs4 _ _ hb3), .inl ⟨rfl, rfl⟩, rfl, fun i h => by simp at h⟩
        rw [h48 _ _ hb4]; simp [ints]
      simp only [go_sem, ↓reduceIte, Nat.reduceEqDiff, Nat.reduceAdd, reduceCtorEq, ld_box hb8]
      refine callC_any (walk_spec (G0 := G) (W := W) (bw := bw) (bo := bo) (b1 := b1) (bk := bk) sh hgood (SSecs.mono he (hs02.trans' h2G)) ⟨true, by rw [hGo b1 hb1W hb1b]; exact h48 _ _ (hs4 _ _ hb13)⟩ ⟨true, by rw [hGo bw hbwW hbwb]; exact h68 _ _ hb6⟩ ⟨true, by rw [hGo bk hbkW hbkb]; exact hb8⟩ es.length 0 0 G H8 _ _ _ _ (by omega) Heap.sub.rfl' wst (by simp) (by simp only [List.length_nil]; omega)) ?_
      rintro r H9 ⟨G9, ww9, ov9, us9, hg9, s9, _, _⟩
      have e9 : [] ++ (suf es es.length 0).map (fun x => (List.replicate es.length (0 : Int)).take 0 ++ x) = suf es es.length 0 := by simp
      rw [e9] at s9
      simp only [go_sem, ↓reduceIte, Nat.reduceEqDiff, Nat.reduceAdd, reduceCtorEq, ld_box s9.hb]
      exact finO_self ⟨hs02.trans' (h2G.trans' (hg9.trans' s9.gh)), .inr (.inr ⟨hp, by omega, ov9, rfl, s9.rows (by omega)⟩)⟩
  · simp only [go_sem, ↓reduceIte, Nat.reduceEqDiff, Nat.reduceAdd, reduceCtorEq, c1, Bool.not_false]
    exact finO_self ⟨hs02, .inr (.inl ⟨hp, by omega, rfl⟩)⟩
end Go.AM

/- Compare and Same of lists of ints, Few. Conditions: none. -/
set_option linter.unusedVariables false
set_option linter.unusedSimpArgs false
namespace Go.AM
open Go Go.Proofs
attribute [local go_sem] c_skip c_ops c_seq c_ite c_blk c_exit c_ret t_normal t_exit t_ret b_normal b_exit b_ret i_nil i_cons s_guard s_mov s_pick s_new s_zero s_ld s_ldr s_st s_bin s_beq s_isnil s_eqs s_un s_conv s_fa s_fld s_ia s_sli s_ext s_ifc s_mkf s_agg s_len s_mm s_nilchk s_bsl s_mk s_app s_cpy s_call s_inv cells_agg cells_int cells_bool p_get p_none o_s o_c e_0 e_1 e_2 e_3 e_4 iteC_true iteC_false grd_tt grd_tf grd_ft grd_ff grd_und bindV_some pickV_t pickV_f beq_bool conv_int un_not not_dec mm_min mm_max bv_add bv_sub bv_mul bv_eql bv_neq bv_lss bv_leq bv_gtr bv_geq f_normal f_one f_two f_three f_none fa_ptr fld_one ext_tup len_sl len_nils decide_true decide_false not_true_eq_false not_false_eq_true List.map_cons List.map_nil List.append_nil List.cons_append List.nil_append Nat.zero_add Nat.add_zero Nat.mul_one Nat.succ_ne_self if_true if_false List.getElem?_cons_zero List.getElem?_cons_succ

/-- codewrightref11.Compare -/
def F46 : AF := ⟨46, [(4, none)], (.seq (.ops [⟨none, false, (some 4), (.mov (.c (.int .i64 (0))))⟩]) (.seq (.seq (.ops [⟨none, false, (some 5), (.mov (.c (.int .i64 (0))))⟩]) (.blk 0 (.loop (.seq (.seq (.ops [⟨none, false, (some 6), (.mov (.s 5))⟩, ⟨none, false, (some 7), (.mov (.s 0))⟩, ⟨none, false, (some 8), (.len (.s 7))⟩, ⟨none, false, (some 9), (.bin .lss (.s 6) (.s 8))⟩, ⟨none, false, (some 10), (.mov (.s 9))⟩, ⟨(some (10, true)), false, (some 11), (.mov (.s 5))⟩, ⟨(some (10, true)), false, (some 12), (.mov (.s 1))⟩, ⟨(some (10, true)), false, (some 13), (.len (.s 12))⟩, ⟨(some (10, true)), false, (some 14), (.bin .lss (.s 11) (.s 13))⟩, ⟨none, false, (some 15), (.pick (.s 10) (.s 14) (.c (.bool false)))⟩]) (.ite (.s 15) .skip (.exit 0))) (.seq (.blk 1 (.seq (.seq (.ops [⟨none, false, (some 18), (.mov (.s 0))⟩, ⟨none, false, (some 19), (.mov (.s 5))⟩, ⟨none, false, (some 20), (.ia 1 (.s 18) (.s 19))⟩, ⟨none, false, (some 22), (.mov (.s 1))⟩, ⟨none, false, (some 23), (.mov (.s 5))⟩, ⟨none, false, (some 24), (.ia 1 (.s 22) (.s 23))⟩, ⟨none, false, (some 21), (.ld false 1 (.s 20) none)⟩, ⟨none, false, (some 25), (.ld false 1 (.s 24) none)⟩, ⟨none, false, (some 26), (.bin .lss (.s 21) (.s 25))⟩]) (.ite (.s 26) (.seq (.ops [⟨none, false, (some 4), (.mov (.c (.int .i64 (-1))))⟩]) .ret) .skip)) (.seq (.ops [⟨none, false, (some 27), (.mov (.s 0))⟩, ⟨none, false, (some 28), (.mov (.s 5))⟩, ⟨none, false, (some 29), (.ia 1 (.s 27) (.s 28))⟩, ⟨none, false, (some 31), (.mov (.s 1))⟩, ⟨none, false, (some 32), (.mov (.s 5))⟩, ⟨none, false, (some 33), (.ia 1 (.s 31) (.s 32))⟩, ⟨none, false, (some 30), (.ld false 1 (.s 29) none)⟩, ⟨none, false, (some 34), (.ld false 1 (.s 33) none)⟩, ⟨none, false, (some 35), (.bin .gtr (.s 30) (.s 34))⟩]) (.ite (.s 35) (.seq (.ops [⟨none, false, (some 4), (.mov (.c (.int .i64 (1))))⟩]) .ret) .skip)))) (.ops [⟨none, false, (some 16), (.mov (.s 5))⟩, ⟨none, false, (some 17), (.bin .add (.s 16) (.c (.int .i64 (1))))⟩, ⟨none, false, (some 5), (.mov (.s 17))⟩])))))) (.seq (.seq (.ops [⟨none, false, (some 36), (.mov (.s 0))⟩, ⟨none, false, (some 37), (.len (.s 36))⟩, ⟨none, false, (some 38), (.mov (.s 1))⟩, ⟨none, false, (some 39), (.len (.s 38))⟩, ⟨none, false, (some 40), (.bin .lss (.s 37) (.s 39))⟩]) (.ite (.s 40) (.seq (.ops [⟨none, false, (some 4), (.mov (.c (.int .i64 (-1))))⟩]) .ret) .skip)) (.seq (.seq (.ops [⟨none, false, (some 41), (.mov (.s 0))⟩, ⟨none, false, (some 42), (.len (.s 41))⟩, ⟨none, false, (some 43), (.mov (.s 1))⟩, ⟨none, false, (some 44), (.len (.s 43))⟩, ⟨none, false, (some 45), (.bin .gtr (.s 42) (.s 44))⟩]) (.ite (.s 45) (.seq (.ops [⟨none, false, (some 4), (.mov (.c (.int .i64 (1))))⟩]) .ret) .skip)) (.seq (.ops [⟨none, false, (some 4), (.mov (.c (.int .i64 (0))))⟩]) .ret)))))⟩
theorem cv46 : cvF Try.prog 46 = some F46 := by kernel_rfl

/-- codewrightref11.Same -/
def F15 : AF := ⟨9, [(4, none)], (.seq (.ops [⟨none, false, (some 4), (.mov (.c (.bool false)))⟩]) (.seq (.ops [⟨none, false, (some 5), (.mov (.s 0))⟩, ⟨none, false, (some 6), (.mov (.s 1))⟩, ⟨none, false, (some 7), (.call (.c (.fn 46 [])) [(.s 5), (.s 6)])⟩, ⟨none, false, (some 8), (.bin .eql (.s 7) (.c (.int .i64 (0))))⟩, ⟨none, false, (some 4), (.mov (.s 8))⟩]) .ret))⟩
theorem cv15 : cvF Try.prog 15 = some F15 := by kernel_rfl

/-- codewrightref47.Few -/
def F10 : AF := ⟨39, [(4, none)], (.seq (.ops [⟨none, false, (some 2), (.new (.s 0))⟩, ⟨none, false, (some 4), (.mov (.c (.bool false)))⟩]) (.seq (.ops [⟨none, false, (some 5), (.mov (.c (.int .i64 (0))))⟩]) (.seq (.seq (.ops [⟨none, false, (some 6), (.mov (.c (.int .i64 (0))))⟩]) (.blk 0 (.loop (.seq (.seq (.ops [⟨none, false, (some 7), (.mov (.s 6))⟩, ⟨none, false, (some 8), (.fa 1 (.s 2))⟩, ⟨none, false, (some 9), (.ld false 1 (.s 8) none)⟩, ⟨none, false, (some 10), (.len (.s 9))⟩, ⟨none, false, (some 11), (.bin .lss (.s 7) (.s 10))⟩, ⟨none, false, (some 12), (.mov (.s 11))⟩, ⟨(some (12, true)), false, (some 13), (.mov (.s 5))⟩, ⟨(some (12, true)), false, (some 14), (.mov (.s 1))⟩, ⟨(some (12, true)), false, (some 15), (.bin .leq (.s 13) (.s 14))⟩, ⟨none, false, (some 16), (.pick (.s 12) (.s 15) (.c (.bool false)))⟩]) (.ite (.s 16) .skip (.exit 0))) (.seq (.blk 1 (.ops [⟨none, false, (some 19), (.mov (.s 5))⟩, ⟨none, false, (some 20), (.fa 1 (.s 2))⟩, ⟨none, false, (some 21), (.ld false 1 (.s 20) none)⟩, ⟨none, false, (some 22), (.mov (.s 6))⟩, ⟨none, false, (some 23), (.ia 1 (.s 21) (.s 22))⟩, ⟨none, false, (some 24), (.ld false 1 (.s 23) none)⟩, ⟨none, false, (some 25), (.len (.s 24))⟩, ⟨none, false, (some 26), (.mov (.s 1))⟩, ⟨none, false, (some 27), (.bin .add (.s 26) (.c (.int .i64 (1))))⟩, ⟨none, false, (some 28), (.mm false (.s 25) (.s 27))⟩, ⟨none, false, (some 29), (.bin .add (.s 19) (.s 28))⟩, ⟨none, false, (some 5), (.mov (.s 29))⟩])) (.ops [⟨none, false, (some 17), (.mov (.s 6))⟩, ⟨none, false, (some 18), (.bin .add (.s 17) (.c (.int .i64 (1))))⟩, ⟨none, false, (some 6), (.mov (.s 18))⟩])))))) (.seq (.ops [⟨none, false, (some 30), (.mov (.s 5))⟩, ⟨none, false, (some 31), (.mov (.s 1))⟩, ⟨none, false, (some 32), (.bin .leq (.s 30) (.s 31))⟩, ⟨none, false, (some 33), (.mov (.s 32))⟩, ⟨(some (33, true)), false, (some 34), (.fa 1 (.s 2))⟩, ⟨(some (33, true)), false, (some 35), (.ld false 1 (.s 34) none)⟩, ⟨(some (33, true)), false, (some 36), (.len (.s 35))⟩, ⟨(some (33, true)), false, (some 37), (.bin .leq (.s 36) (.c (.int .i64 (100))))⟩, ⟨none, false, (some 38), (.pick (.s 33) (.s 37) (.c (.bool false)))⟩, ⟨none, false, (some 4), (.mov (.s 38))⟩]) .ret))))⟩
theorem cv10 : cvF Try.prog 10 = some F10 := by kernel_rfl


theorem rCompare_spec {av bv : V} {xa xb : List Int} {H : Heap} (ha : SInts H av xa) (hb : SInts H bv xb) : ACalls Try.prog 46 [av, bv] H fun u H' => (∃ n : Int, u = .int .i64 n ∧ (n = 0 ↔ xa = xb)) ∧ H' = H := by
  refine ACalls.of_body hm cv46 (by simp only [List.length_cons, List.length_nil]; decide) ?_
  have hla := ha.lt
  have hlb := hb.lt
  simp only [F46, go_sem, ↓reduceIte, Nat.reduceEqDiff, Nat.reduceAdd, reduceCtorEq]
  have fin0 : ∀ (n : Int), n ≠ 0 → xa ≠ xb → finO (.int .i64 n) H fun u H' => (∃ n : Int, u = .int .i64 n ∧ (n = 0 ↔ xa = xb)) ∧ H' = H := fun n h1 h2 => finO_self ⟨⟨n, rfl, by simp [h1, h2]⟩, rfl⟩
  refine loop_count xa.length (fun k env H' => H = H' ∧ env 0 = av ∧ env 1 = bv ∧ env 5 = .int .i64 k ∧ k ≤ xb.length ∧ ∀ i, (h : i < xa.length) → (h' : i < xb.length) → i < k → xa[i] = xb[i]) ?_ ?_ ?_
  · simp only [go_sem, ↓reduceIte, Nat.reduceEqDiff, Nat.reduceAdd, reduceCtorEq]; simp
  · rintro k env H' hk ⟨rfl, h0, h1, h5, hkb, hz⟩
    have hk' : (k : Int) < xa.length := by omega
    simp only [go_sem, ↓reduceIte, Nat.reduceEqDiff, Nat.reduceAdd, reduceCtorEq, h0, h1, h5, ha.len, hb.len, hk']
    by_cases c : (k : Int) < xb.length
    · have hkb' : k < xb.length := by omega
      obtain ⟨p, a1, a2⟩ := ha.get hk .i64
      obtain ⟨q, b1, b2⟩ := hb.get hkb' .i64
      have ne : ∀ h : xa[k] ≠ xb[k], xa ≠ xb := fun h e => by subst e; exact h rfl
      simp only [c, go_sem, ↓reduceIte, Nat.reduceEqDiff, Nat.reduceAdd, reduceCtorEq, h0, h1, h5, a1, a2, b1, b2]
      refine iteC_if (fun d => ?_) (fun d => ?_)
      · simp only [go_sem, ↓reduceIte, Nat.reduceEqDiff, Nat.reduceAdd, reduceCtorEq]
        exact fin0 _ (by decide) (ne (by omega))
      simp only [go_sem, ↓reduceIte, Nat.reduceEqDiff, Nat.reduceAdd, reduceCtorEq, h0, h1, h5, a1, a2, b1, b2]
      refine iteC_if (fun d' => ?_) (fun d' => ?_)
      · simp only [go_sem, ↓reduceIte, Nat.reduceEqDiff, Nat.reduceAdd, reduceCtorEq]
        exact fin0 _ (by decide) (ne (by omega))
      simp only [go_sem, ↓reduceIte, Nat.reduceEqDiff, Nat.reduceAdd, reduceCtorEq, h0, h1, h5]
      rw [wrapN1 (by omega)]
      refine ⟨by trivial, by trivial, by trivial, by trivial, by omega, fun i h h' hi => ?_⟩
      rcases Nat.lt_succ_iff_lt_or_eq.1 hi with hi | rfl
      · exact hz i h h' hi
      · omega
    · have hne : xa ≠ xb := fun e => by subst e; omega
      have g1 : ¬ (xa.length : Int) < xb.length := by omega
      have g2 : (xb.length : Int) < xa.length := by omega
      simp only [c, go_sem, ↓reduceIte, Nat.reduceEqDiff, Nat.reduceAdd, reduceCtorEq, h0, h1, ha.len, hb.len, g1, g2]
      exact fin0 _ (by decide) hne
  · rintro env H' ⟨rfl, h0, h1, h5, hkb, hz⟩
    simp only [go_sem, ↓reduceIte, Nat.reduceEqDiff, Nat.reduceAdd, reduceCtorEq, h0, h1, h5, ha.len, hb.len, Int.lt_irrefl]
    refine iteC_if (fun d => ?_) (fun d => ?_)
    · simp only [go_sem, ↓reduceIte, Nat.reduceEqDiff, Nat.reduceAdd, reduceCtorEq]
      exact fin0 _ (by decide) (fun e => by subst e; omega)
    have g2 : ¬ (xb.length : Int) < xa.length := by omega
    simp only [go_sem, ↓reduceIte, Nat.reduceEqDiff, Nat.reduceAdd, reduceCtorEq, h0, h1, ha.len, hb.len, g2]
    refine finO_self ⟨⟨0, rfl, by
      simp only [true_iff]
      exact List.ext_getElem (by omega) fun i h h' => hz i h h' h⟩, rfl⟩

theorem rSame_spec {av bv : V} {xa xb : List Int} {H : Heap} (ha : SInts H av xa) (hb : SInts H bv xb) : ACalls Try.prog 15 [av, bv] H fun u H' => u = .bool (decide (xa = xb)) ∧ H' = H := by
  refine ACalls.of_body hm cv15 (by simp only [List.length_cons, List.length_nil]; decide) ?_
  simp only [F15, go_sem, ↓reduceIte, Nat.reduceEqDiff, Nat.reduceAdd, reduceCtorEq]
  refine callC_any (rCompare_spec ha hb) ?_
  rintro u H' ⟨⟨n, rfl, hn⟩, rfl⟩
  simp only [go_sem, ↓reduceIte, Nat.reduceEqDiff, Nat.reduceAdd, reduceCtorEq]
  exact finO_self ⟨by simp [hn], rfl⟩

/-- Few: a bool; and where it's true, all is small -/
theorem Few_spec {sv ev : V} {ws : List Int} {es : List (List Ed)} {H : Heap} {most : Int} (hm0 : 0 ≤ most) (hm1 : most ≤ 100000) (he : SSecs H ev es) : ACalls Try.prog 10 [.agg [sv, ev], .int .i64 most] H fun u H' => (∃ b, u = .bool b) ∧ H' = H := by
  refine ACalls.of_body hm cv10 (by simp only [List.length_cons, List.length_nil]; decide) ?_
  have hlt := SLists.lt he
  simp only [F10, go_sem, ↓reduceIte, Nat.reduceEqDiff, Nat.reduceAdd, reduceCtorEq]
  refine newC_intro fun n1 H1 hn1 hs1 hb1 => ?_
  simp only [go_sem, ↓reduceIte, Nat.reduceEqDiff, Nat.reduceAdd, reduceCtorEq]
  refine loop_count es.length (fun k env H' => H1 = H' ∧ env 2 = .ptr n1 0 ∧ env 1 = .int .i64 most ∧ env 6 = .int .i64 k ∧ ∃ n : Int, env 5 = .int .i64 n ∧ 0 ≤ n ∧ n ≤ 300000) ?_ ?_ ?_
  · simp only [go_sem, ↓reduceIte, Nat.reduceEqDiff, Nat.reduceAdd, reduceCtorEq]
    exact ⟨by trivial, by trivial, by trivial, by trivial, 0, rfl, by omega, by omega⟩
  · rintro k env H' hk ⟨rfl, h2, h1, h6, n, h5, hn0, hn1⟩
    obtain ⟨p, ue, a1, a2, a3⟩ := (SSecs.mono he hs1).get hk .i64
    have hl3 := a3.lt
    have hk' : (k : Int) < es.length := by omega
    simp only [go_sem, ↓reduceIte, Nat.reduceEqDiff, Nat.reduceAdd, reduceCtorEq, h2, h1, h6, h5, ld_box hb1, SLists.len he, hk']
    refine iteC_if (fun c => ?_) (fun c => ?_)
    · simp (disch := omega) only [go_sem, ↓reduceIte, Nat.reduceEqDiff, Nat.reduceAdd, reduceCtorEq, h2, h1, h6, h5, ld_box hb1, a1, a2, a3.len, wrapI]
      by_cases d : most + 1 < (es[k].length : Int)
      · simp (disch := omega) only [d, go_sem, ↓reduceIte, Nat.reduceEqDiff, Nat.reduceAdd, reduceCtorEq, h2, h1, h6, h5, wrapI]
        exact ⟨by trivial, by trivial, by trivial, by rw [Int.natCast_add]; rfl, n + (most + 1), rfl, by omega, by omega⟩
      · simp (disch := omega) only [d, go_sem, ↓reduceIte, Nat.reduceEqDiff, Nat.reduceAdd, reduceCtorEq, h2, h1, h6, h5, wrapI]
        exact ⟨by trivial, by trivial, by trivial, by rw [Int.natCast_add]; rfl, n + es[k].length, rfl, by omega, by omega⟩
    · simp only [c, go_sem, ↓reduceIte, Nat.reduceEqDiff, Nat.reduceAdd, reduceCtorEq, h2, h1, h5]
      exact finO_sub hs1 ⟨⟨_, rfl⟩, rfl⟩
  · rintro env H' ⟨rfl, h2, h1, h6, n, h5, hn0, hn1⟩
    simp only [go_sem, ↓reduceIte, Nat.reduceEqDiff, Nat.reduceAdd, reduceCtorEq, h2, h1, h6, h5, ld_box hb1, SLists.len he, Int.lt_irrefl]
    by_cases c : n ≤ most
    · simp only [c, go_sem, ↓reduceIte, Nat.reduceEqDiff, Nat.reduceAdd, reduceCtorEq, h2, ld_box hb1, SLists.len he]
      exact finO_sub hs1 ⟨⟨_, rfl⟩, rfl⟩
    · simp only [c, go_sem, ↓reduceIte, Nat.reduceEqDiff, Nat.reduceAdd, reduceCtorEq]
      exact finO_sub hs1 ⟨⟨_, rfl⟩, rfl⟩
end Go.AM
