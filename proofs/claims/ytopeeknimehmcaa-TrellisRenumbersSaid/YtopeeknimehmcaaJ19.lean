/- trellis.rename. Conditions: as stated. -/
import Derived.Test.YtopeeknimehmcaaJ18
set_option linter.unusedVariables false
set_option linter.unusedSimpArgs false
namespace Go.AM
open Go Go.Proofs
attribute [local go_sem] c_skip c_ops c_seq c_ite c_blk c_exit c_ret t_normal t_exit t_ret b_normal b_exit b_ret i_nil i_cons s_guard s_mov s_pick s_new s_zero s_ld s_ldr s_st s_bin s_beq s_isnil s_eqs s_un s_conv s_fa s_fld s_ia s_sli s_ext s_ifc s_mkf s_agg s_len s_mm s_nilchk s_bsl s_mk s_app s_cpy s_call s_inv cells_agg cells_int cells_bool p_get p_none o_s o_c e_0 e_1 e_2 e_3 e_4 iteC_true iteC_false grd_tt grd_tf grd_ft grd_ff grd_und bindV_some pickV_t pickV_f beq_bool conv_int un_not not_dec mm_min mm_max bv_add bv_sub bv_mul bv_eql bv_neq bv_lss bv_leq bv_gtr bv_geq f_normal f_one f_two f_three f_none fa_ptr fld_one ext_tup len_sl len_nils decide_true decide_false not_true_eq_false not_false_eq_true List.map_cons List.map_nil List.append_nil List.cons_append List.nil_append Nat.zero_add Nat.add_zero Nat.mul_one Nat.succ_ne_self if_true if_false List.getElem?_cons_zero List.getElem?_cons_succ

/-- trellis.rename -/
def F72 : AF := ⟨72, [(4, (some (true, 2)))], (.seq (.ops [⟨none, false, (some 2), (.new (.s 0))⟩, ⟨none, false, (some 4), (.zero [.nils, .nils])⟩]) (.seq (.ops [⟨none, false, (some 10), (.fa 0 (.s 2))⟩, ⟨none, false, (some 13), (.fa 1 (.s 2))⟩, ⟨none, false, (some 11), (.ld false 1 (.s 10) none)⟩, ⟨none, false, (some 14), (.ld false 1 (.s 13) none)⟩, ⟨none, false, (some 15), (.len (.s 14))⟩, ⟨none, true, (some 12), (.call (.c (.fn 66 [])) [(.s 11)])⟩, ⟨none, false, (some 16), (.mk 1 24 [.nils] (.s 15) (.s 15))⟩, ⟨none, false, (some 17), (.agg [.nils, .nils] [(0, (1, (.s 12))), (1, (1, (.s 16)))])⟩, ⟨none, false, (some 5), (.zero [.nils, .nils])⟩, ⟨none, false, none, (.st 2 (.s 5) (.s 17) [])⟩]) (.seq (.seq (.ops [⟨none, false, (some 18), (.fa 1 (.s 2))⟩, ⟨none, false, (some 19), (.ld false 1 (.s 18) none)⟩, ⟨none, false, (some 20), (.len (.s 19))⟩, ⟨none, false, (some 21), (.mov (.c (.int .i64 (0))))⟩]) (.blk 0 (.loop (.seq (.ops [⟨none, false, (some 22), (.bin .lss (.s 21) (.s 20))⟩]) (.seq (.ite (.s 22) .skip (.exit 0)) (.seq (.blk 1 (.seq (.ops [⟨none, false, (some 23), (.mov (.s 21))⟩, ⟨none, false, (some 24), (.ia 1 (.s 19) (.s 21))⟩, ⟨none, false, (some 25), (.ld false 1 (.s 24) none)⟩, ⟨none, false, (some 6), (.mov (.s 23))⟩, ⟨none, false, (some 7), (.mov (.s 25))⟩]) (.seq (.seq (.ops [⟨none, false, (some 26), (.mov (.s 7))⟩, ⟨none, false, (some 27), (.len (.s 26))⟩, ⟨none, false, (some 28), (.mov (.c (.int .i64 (0))))⟩]) (.blk 2 (.loop (.seq (.ops [⟨none, false, (some 29), (.bin .lss (.s 28) (.s 27))⟩]) (.seq (.ite (.s 29) .skip (.exit 2)) (.seq (.blk 3 (.seq (.ops [⟨none, false, (some 30), (.ia 3 (.s 26) (.s 28))⟩, ⟨none, false, (some 31), (.ld true 3 (.s 30) none)⟩, ⟨none, false, (some 9), (.zero [(.int .i64 (0)), (.int .i64 (0)), (.int .i64 (0))])⟩, ⟨none, false, none, (.st 3 (.s 9) (.s 31) [])⟩]) (.ops [⟨none, false, (some 32), (.fa 1 (.s 5))⟩, ⟨none, false, (some 34), (.mov (.s 6))⟩, ⟨none, false, (some 35), (.fa 1 (.s 5))⟩, ⟨none, false, (some 37), (.mov (.s 6))⟩, ⟨none, false, (some 40), (.mov (.s 1))⟩, ⟨none, false, (some 41), (.mov (.s 6))⟩, ⟨none, false, (some 42), (.ia 1 (.s 40) (.s 41))⟩, ⟨none, false, (some 44), (.fa 0 (.s 9))⟩, ⟨none, false, (some 48), (.fa 1 (.s 9))⟩, ⟨none, false, (some 50), (.mov (.s 1))⟩, ⟨none, false, (some 51), (.mov (.s 6))⟩, ⟨none, false, (some 52), (.bin .add (.s 51) (.c (.int .i64 (1))))⟩, ⟨none, false, (some 53), (.ia 1 (.s 50) (.s 52))⟩, ⟨none, false, (some 55), (.fa 2 (.s 9))⟩, ⟨none, false, (some 33), (.ld false 1 (.s 32) (some 5))⟩, ⟨none, false, (some 36), (.ld false 1 (.s 35) none)⟩, ⟨none, false, (some 38), (.ia 1 (.s 36) (.s 37))⟩, ⟨none, false, (some 39), (.ld false 1 (.s 38) none)⟩, ⟨none, false, (some 43), (.ld false 1 (.s 42) none)⟩, ⟨none, false, (some 45), (.ld false 1 (.s 44) none)⟩, ⟨none, false, (some 46), (.ia 1 (.s 43) (.s 45))⟩, ⟨none, false, (some 47), (.ld false 1 (.s 46) none)⟩, ⟨none, false, (some 49), (.ld false 1 (.s 48) none)⟩, ⟨none, false, (some 54), (.ld false 1 (.s 53) none)⟩, ⟨none, false, (some 56), (.ld false 1 (.s 55) none)⟩, ⟨none, false, (some 57), (.ia 1 (.s 54) (.s 56))⟩, ⟨none, false, (some 58), (.ld false 1 (.s 57) none)⟩, ⟨none, false, (some 59), (.agg [(.int .i64 (0)), (.int .i64 (0)), (.int .i64 (0))] [(0, (1, (.s 47))), (1, (1, (.s 49))), (2, (1, (.s 58)))])⟩, ⟨none, false, (some 60), (.bsl 3 1 [(.int .i64 (0)), (.int .i64 (0)), (.int .i64 (0))] [(0, (3, (.s 59)))])⟩, ⟨none, false, (some 61), (.app 3 24 (.s 39) (.s 60) [5])⟩, ⟨none, false, (some 62), (.ia 1 (.s 33) (.s 34))⟩, ⟨none, false, none, (.st 1 (.s 62) (.s 61) [])⟩]))) (.ops [⟨none, false, (some 63), (.bin .add (.s 28) (.c (.int .i64 (1))))⟩, ⟨none, false, (some 28), (.mov (.s 63))⟩]))))))) (.ops [⟨none, false, (some 64), (.fa 1 (.s 5))⟩, ⟨none, false, (some 65), (.ld false 1 (.s 64) none)⟩, ⟨none, false, (some 66), (.mov (.s 6))⟩, ⟨none, false, (some 67), (.ia 1 (.s 65) (.s 66))⟩, ⟨none, false, (some 68), (.ld false 1 (.s 67) none)⟩, ⟨none, false, (some 69), (.call (.c (.fn 100 [])) [(.s 68), (.c (.fn 48 []))])⟩])))) (.ops [⟨none, false, (some 70), (.bin .add (.s 21) (.c (.int .i64 (1))))⟩, ⟨none, false, (some 21), (.mov (.s 70))⟩]))))))) (.seq (.ops [⟨none, false, (some 71), (.ld true 2 (.s 5) none)⟩, ⟨none, false, none, (.st 2 (.s 4) (.s 71) [])⟩]) .ret))))⟩
theorem cv72 : cvF Try.prog 72 = some F72 := by kernel_rfl


/-- one more item behind a row that nobody else has -/
theorem appC_row {H : Heap} {env : Env} {d : Option Nat} {K : Env → Heap → Prop} {u : V} {xs : List V} {xb bytes sz : Nat} {f : Bool} {vs : List V} {av : List Nat}
    (hu : (u = .nils ∧ xs = []) ∨ ∃ n len, u = .sl n 0 len false ∧ H n = some ⟨true, sz, xs⟩ ∧ xs.length = len * sz ∧ offAll env n av) (hx : H xb = some ⟨true, sz, vs⟩) (hvs : vs.length = sz) (hz : 0 < sz)
    (hb : (lenV u + 1) * bytes ≤ 140737488355328) (hb2 : lenV u + 1 ≤ 140737488355328)
    (hk : ∀ m H', H m = none → H' m = some ⟨true, sz, xs ++ vs⟩ → (∀ k, k ≠ m → (∀ n o l f, u = .sl n o l f → k ≠ n) → H' k = H k) → K (env.put d (.sl m 0 (lenV u + 1) false)) H') :
    appC H env sz bytes u (.sl xb 0 1 f) av d K := by
  have hc : cellsAt H sz (.sl xb 0 1 f) = some vs := by
    simp [cellsAt, hx, hvs, List.take_of_length_le]
  unfold appC
  rw [hc]
  refine ⟨hb, hb2, ?_⟩
  have h1 : lenV (.sl xb 0 1 f) = 1 := rfl
  rw [h1, if_neg (by decide)]
  rcases hu with ⟨rfl, rfl⟩ | ⟨n, len, rfl, hn, hl, hav⟩
  · intro m hm
    refine hk m _ hm (by simp [Heap.upd]) fun k h1 _ => by simp [Heap.upd, h1]
  · simp only [hn]
    refine ⟨hav, ?_⟩
    simp only [Bool.false_eq_true, if_false]
    refine ⟨trivial, trivial, trivial, hl, fun m hm => ?_⟩
    refine hk m _ hm (by simp [Heap.upd]) fun k h1 h2 => ?_
    have := h2 n 0 len false rfl
    simp [Heap.upd, h1, this]

theorem lessCmp (G : Heap) : Cmp Eed G 48 [] lessI fun _ => True := ⟨swo_less, fun a b _ _ => less_spec a b G⟩

/-- an item of a row of a table of numbers -/
def nat2 (c : List (List Int)) (i : Nat) (a : Int) : Int := (c[i]?.getD [])[a.toNat]?.getD 0
def ndE (nm : List (List Int)) (i : Nat) (e : Ed) : Ed := ⟨nat2 nm i e.fr, e.lb, nat2 nm (i+1) e.to⟩
theorem SRows.get2 {H : Heap} {v : V} {ls : List (List Int)} (h : SRows H v ls) {i : Nat} (hi : i < ls.length) {a : Int} (h0 : 0 ≤ a) (h1 : a < ls[i].length) : ∃ p u q, iaV 1 v (.int .i64 i) = some p ∧ ldV H false 1 p = some u ∧ iaV 1 u (.int .i64 a) = some q ∧ ldV H false 1 q = some (.int .i64 (nat2 ls i a)) := by
  obtain ⟨p, u, b1, b2, b3⟩ := h.get hi .i64
  obtain ⟨k, rfl⟩ : ∃ k : Nat, a = k := ⟨a.toNat, by omega⟩
  obtain ⟨q, c1, c2⟩ := SInts.get b3 (k := k) (by omega) .i64
  refine ⟨p, u, q, b1, b2, c1, ?_⟩
  rw [c2]
  simp [nat2, hi, show k < ls[i].length by omega]

/-- rows of edges that are being made: those before i lie in G -/
structure Mk (G H : Heap) (N b4 n i : Nat) (us : List V) (out : List (List Ed)) (cur : V) (done : List Ed) : Prop where
  gh : Heap.sub G H
  gN : G N = none
  g4 : G b4 = none
  ne : N ≠ b4
  hN : H N = some ⟨true, 1, us⟩
  h4 : H b4 = some ⟨true, 1, [.nils, .nils]⟩
  len : us.length = n
  cu : us[i]? = some cur
  before : ∀ r, r < i → ∃ u, us[r]? = some u ∧ SEds G u (out[r]?.getD [])
  after : ∀ r, i < r → r < n → us[r]? = some .nils
  row : (cur = .nils ∧ done = []) ∨ ∃ q, cur = .sl q 0 done.length false ∧ H q = some ⟨true, 3, ecells done⟩ ∧ G q = none ∧ q ≠ N ∧ q ≠ b4
theorem Mk.grow {G H H' : Heap} {N b4 n i : Nat} {us : List V} {out : List (List Ed)} {cur : V} {done : List Ed} (s : Mk G H N b4 n i us out cur done) (hs : Heap.sub H H') : Mk G H' N b4 n i us out cur done :=
  ⟨s.gh.trans' hs, s.gN, s.g4, s.ne, hs _ _ s.hN, hs _ _ s.h4, s.len, s.cu, s.before, s.after, s.row.imp id fun ⟨q, a, b, c, d⟩ => ⟨q, a, hs _ _ b, c, d⟩⟩
theorem Mk.lenV {G H : Heap} {N b4 n i : Nat} {us : List V} {out : List (List Ed)} {cur : V} {done : List Ed} (s : Mk G H N b4 n i us out cur done) : lenV cur = done.length := by
  rcases s.row with ⟨rfl, rfl⟩ | ⟨q, rfl, _⟩ <;> rfl
theorem ecells_append (a b : List Ed) : ecells (a ++ b) = ecells a ++ ecells b := by simp [ecells]
/-- one edge more -/
theorem Mk.push {G H H7 H8 : Heap} {N b4 n i m : Nat} {us : List V} {out : List (List Ed)} {cur : V} {done : List Ed} {e : Ed} (s : Mk G H N b4 n i us out cur done)
    (hm : H m = none) (hb : H7 m = some ⟨true, 3, ecells done ++ e.cells⟩) (hf : ∀ k, k ≠ m → (∀ n o l f, cur = .sl n o l f → k ≠ n) → H7 k = H k)
    (h8 : H8 N = some ⟨true, 1, us.set i (.sl m 0 (done.length + 1) false)⟩) (hf8 : ∀ k, k ≠ N → H8 k = H7 k) : Mk G H8 N b4 n i (us.set i (.sl m 0 (done.length + 1) false)) out (.sl m 0 (done.length + 1) false) (done ++ [e]) := by
  have hil : i < us.length := (List.getElem?_eq_some_iff.1 s.cu).1
  have hmN : m ≠ N := by rintro rfl; rw [s.hN] at hm; cases hm
  have hm4 : m ≠ b4 := by rintro rfl; rw [s.h4] at hm; cases hm
  have hgm : G m = none := s.gh.none' hm
  have hq : ∀ n o l f, cur = .sl n o l f → G n = none ∧ n ≠ N ∧ n ≠ b4 := by
    rintro n' o l f rfl
    rcases s.row with ⟨e, _⟩ | ⟨q, e, _, h1, h2, h3⟩
    · cases e
    · injection e with e1; subst e1; exact ⟨h1, h2, h3⟩
  refine ⟨fun k c hk => ?_, s.gN, s.g4, s.ne, h8, ?_, by rw [List.length_set]; exact s.len, by rw [List.getElem?_set_self hil], fun r hr => ?_, fun r h1 h2 => ?_, .inr ⟨m, by rw [List.length_append]; rfl, ?_, hgm, hmN, hm4⟩⟩
  · have k1 : k ≠ N := by rintro rfl; rw [s.gN] at hk; cases hk
    have k2 : k ≠ m := by rintro rfl; rw [hgm] at hk; cases hk
    rw [hf8 k k1, hf k k2 fun n' o l f e1 e2 => by subst e2; rw [(hq _ _ _ _ e1).1] at hk; cases hk]
    exact s.gh k c hk
  · rw [hf8 b4 (Ne.symm s.ne), hf b4 (Ne.symm hm4) fun n' o l f e1 e2 => (hq _ _ _ _ e1).2.2 e2.symm]
    exact s.h4
  · rw [List.getElem?_set_ne (by omega)]; exact s.before r hr
  · rw [List.getElem?_set_ne (by omega)]; exact s.after r h1 h2
  · rw [hf8 m hmN, hb, ecells_append]; simp [ecells]
/-- a row is sorted and stays -/
theorem Mk.done {G H : Heap} {N b4 n i q : Nat} {us : List V} {out : List (List Ed)} {done ys : List Ed} (s : Mk G H N b4 n i us out (.sl q 0 done.length false) done) (hl : ys.length = done.length) (hl2 : done.length ≤ 281474976710656) (ho : out[i]?.getD [] = ys) :
    H q = some ⟨true, 3, ecells done⟩ ∧ G q = none ∧ ∃ G', Heap.sub G G' ∧ Heap.sub G' (Eed.put H q ys) ∧ G' N = none ∧ G' b4 = none ∧ Eed.put H q ys N = some ⟨true, 1, us⟩ ∧ Eed.put H q ys b4 = some ⟨true, 1, [.nils, .nils]⟩ ∧ ∀ r, r < i + 1 → ∃ u, us[r]? = some u ∧ SEds G' u (out[r]?.getD []) := by
  obtain ⟨q', e, h1, h2, h3, h4⟩ : ∃ q', V.sl q 0 done.length false = .sl q' 0 done.length false ∧ H q' = some ⟨true, 3, ecells done⟩ ∧ G q' = none ∧ q' ≠ N ∧ q' ≠ b4 := by
    rcases s.row with ⟨e, _⟩ | h
    · cases e
    · exact h
  injection e with e; subst e
  have hsub : Heap.sub G (G.upd q (some ⟨true, 3, ecells ys⟩)) := fun k c hk => by
    have : k ≠ q := by rintro rfl; rw [h2] at hk; cases hk
    simp [Heap.upd, this, hk]
  refine ⟨h1, h2, G.upd q (some ⟨true, 3, ecells ys⟩), hsub, fun k c hk => ?_, ?_, ?_, ?_, ?_, fun r hr => ?_⟩
  · by_cases e : k = q
    · subst e; rw [Eed.put_at]; simpa [Heap.upd, Eed_cells] using hk
    · rw [Eed.put_ne _ _ e]
      exact s.gh k c (by simpa [Heap.upd, e] using hk)
  · simp only [Heap.upd, if_neg (Ne.symm h3)]; exact s.gN
  · simp only [Heap.upd, if_neg (Ne.symm h4)]; exact s.g4
  · rw [Eed.put_ne _ _ (Ne.symm h3)]; exact s.hN
  · rw [Eed.put_ne _ _ (Ne.symm h4)]; exact s.h4
  · rcases Nat.lt_succ_iff_lt_or_eq.1 hr with hr | rfl
    · obtain ⟨u, a, b⟩ := s.before r hr
      exact ⟨u, a, SEds.mono b hsub⟩
    · refine ⟨_, s.cu, ?_⟩
      rw [ho]
      refine ⟨by rw [ecells_len], by omega, .inr ⟨q, 0, false, ⟨true, 3, ecells ys⟩, by rw [hl], by simp [Heap.upd], rfl, .inr (by rw [ecells_len]; simp), fun j hj => by simp⟩⟩

theorem f_box1 {t : Nat} {sz n o s : Nat} {own : Bool} {cs : List V} {env : Env} {H : Heap} {R : V → Heap → Prop} (h1 : env t = .ptr n o) (hb : H n = some ⟨own, s, cs⟩) (hl : o + sz ≤ cs.length) (h : finO (.agg ((cs.drop o).take sz)) H R) : fin [(t, some (true, sz))] R .ret env H := by
  obtain ⟨H', a, b⟩ := h
  refine ⟨_, H', ?_, a, b⟩
  simp only [resV, mapO, res1, h1, ld_boxa hb hl, Option.map]

theorem rename_spec {sv ev nv : V} {ws : List Int} {es out : List (List Ed)} {names : List (List Int)} {H : Heap} (hs : SInts H sv ws) (he : SSecs H ev es) (sh : Shaped ws es) (hn : SRows H nv names) (hnl : names.length = es.length + 1)
    (hnr : ∀ i, (h : i < names.length) → (names[i].length : Int) = ws[i]?.getD 0) (hne : ∀ i, (h : i < es.length) → es[i] ≠ []) (hol : out.length = es.length) (hp : ∀ i, (h : i < es.length) → (out[i]'(by omega)).Perm (es[i].map (ndE names i))) (hso : ∀ i, (h : i < es.length) → (out[i]'(by omega)).Pairwise LexLt) :
    ACalls Try.prog 72 [.agg [sv, ev], nv] H fun u H' => Heap.sub H H' ∧ ∃ sv' ev', u = .agg [sv', ev'] ∧ SInts H' sv' ws ∧ SSecs H' ev' out := by
  refine ACalls.of_body hm cv72 (by simp only [List.length_cons, List.length_nil]; decide) ?_
  have hnb := sh.n
  have hwl := sh.len
  simp only [F72, go_sem, ↓reduceIte, Nat.reduceEqDiff, Nat.reduceAdd, reduceCtorEq]
  refine newC_intro fun b2 H1 hn1 hs1 hb1 => ?_
  simp only [go_sem, ↓reduceIte, Nat.reduceEqDiff, Nat.reduceAdd, reduceCtorEq, fillV, List.length_cons, List.length_nil, splice, Nat.reduceLeDiff, Nat.zero_lt_one, and_self, List.take_zero, List.take_succ_cons, List.drop_succ_cons, List.drop_zero, List.drop_nil, Nat.reduceLT, Nat.le_refl]
  refine newC_intro fun b4 H2 hn2 hs2 hb2 => ?_
  have hb21 := hs2 _ _ hb1
  simp only [go_sem, ↓reduceIte, Nat.reduceEqDiff, Nat.reduceAdd, reduceCtorEq, ld_box hb21, SLists.len he]
  obtain ⟨n0, o0, f0, hsv⟩ : ∃ n o f, sv = .sl n o ws.length f := by
    obtain ⟨_, _, ⟨rfl, h⟩ | ⟨n, o, f, b, rfl, _⟩⟩ := hs
    · omega
    · exact ⟨n, o, f, rfl⟩
  have hs02 := hs1.trans' hs2
  refine callC_grow (Clone_spec hsv (hs.mono hs02) (by omega)) ?_
  rintro wv H3 hs3 ⟨mw, fw, rfl, hmw, ownw, hbw⟩
  simp only [go_sem, ↓reduceIte, Nat.reduceEqDiff, Nat.reduceAdd, reduceCtorEq]
  refine mkC_intro (by omega) (by omega) (by omega) fun N H4 hnN hs4 hbN => ?_
  simp only [go_sem, ↓reduceIte, Nat.reduceEqDiff, Nat.reduceAdd, reduceCtorEq, fillV, List.length_cons, List.length_nil, splice, Nat.reduceLeDiff, Nat.zero_lt_one, and_self, List.take_zero, List.take_succ_cons, List.drop_succ_cons, List.drop_zero, List.drop_nil, Nat.reduceLT, Nat.le_refl]
  refine newC_intro fun b5 H5 hn5 hs5 hb5 => ?_
  simp only [go_sem, ↓reduceIte, Nat.reduceEqDiff, Nat.reduceAdd, reduceCtorEq]
  refine stC_intro hb5 trivial rfl (by decide) (by decide) fun H6 hb6 hf6 hs6 => ?_
  have hb6 : H6 b5 = some ⟨true, 1, [.sl mw 0 ws.length fw, .sl N 0 es.length (es.length == es.length)]⟩ := hb6
  rw [beq_self_eq_true] at hb6
  have hb46 : H6 b4 = some ⟨true, 1, [.nils, .nils]⟩ := by
    have : b4 ≠ b5 := by
      have := hs5 _ _ (hs4 _ _ (hs3 _ _ hb2))
      rintro rfl; rw [hs4 _ _ (hs3 _ _ hb2)] at hn5; cases hn5
    rw [hf6 b4 this]; exact hs5 _ _ (hs4 _ _ (hs3 _ _ hb2))
  have hN5 : N ≠ b5 := by rintro rfl; rw [hbN] at hn5; cases hn5
  have hbN6 : H6 N = some ⟨true, 1, List.replicate es.length .nils⟩ := by
    rw [hf6 N hN5, hs5 _ _ hbN, flat_rep]
  have hN4 : N ≠ b4 := by rintro rfl; rw [hs3 _ _ hb2] at hnN; cases hnN
  have hs36 : Heap.sub H3 H6 := hs6 _ (hs4.trans' hs5) (hs4.none' hn5)
  have hs06 : Heap.sub H H6 := (hs02.trans' hs3).trans' hs36
  have hH4 : H b4 = none := hs1.none' hn2
  have hHN : H N = none := (hs02.trans' hs3).none' hnN
  have hw6 := hs36 _ _ hbw
  obtain ⟨G0, hG0⟩ : ∃ G0, G0 = (H6.upd b4 none).upd N none := ⟨_, rfl⟩
  have g0h : Heap.sub G0 H6 := by
    intro k c hk
    rw [hG0] at hk
    simp only [Heap.upd] at hk
    split at hk
    · cases hk
    · split at hk
      · cases hk
      · exact hk
  have hg0 : Heap.sub H G0 := by rw [hG0]; exact (hs06.upd' hH4 _).upd' hHN _
  have g0N : G0 N = none := by rw [hG0]; simp [Heap.upd]
  have g04 : G0 b4 = none := by rw [hG0]; simp [Heap.upd, Ne.symm hN4]
  have keep : ∀ k, k ≠ b4 → k ≠ N → G0 k = H6 k := fun k h1 h2 => by rw [hG0]; simp [Heap.upd, h1, h2]
  have hb54 : b5 ≠ b4 := by rintro rfl; rw [hs4 _ _ (hs3 _ _ hb2)] at hn5; cases hn5
  have g05 : G0 b5 = some ⟨true, 1, [.sl mw 0 ws.length fw, .sl N 0 es.length true]⟩ := by rw [keep b5 hb54 (Ne.symm hN5)]; exact hb6
  have hmw4 : mw ≠ b4 := by rintro rfl; rw [hb2] at hmw; cases hmw
  have hmwN : mw ≠ N := by rintro rfl; rw [hbw] at hnN; cases hnN
  have g0w : G0 mw = some ⟨ownw, 1, ints ws⟩ := by rw [keep mw hmw4 hmwN]; exact hw6
  clear keep hG0
  have he0 := SSecs.mono he hg0
  have hn0 := SRows.mono hn hg0
  have hb26 : H6 b2 = some ⟨true, 1, [sv, ev]⟩ := by
    have : b2 ≠ b5 := by rintro rfl; rw [hs4 _ _ (hs3 _ _ hb21)] at hn5; cases hn5
    rw [hf6 b2 this]; exact hs5 _ _ (hs4 _ _ (hs3 _ _ hb21))
  simp only [go_sem, ↓reduceIte, Nat.reduceEqDiff, Nat.reduceAdd, reduceCtorEq, ld_box hb26, SLists.len he, beq_self_eq_true]
  refine range_loop es.length (fun i env H' => env 1 = nv ∧ env 4 = .ptr b4 0 ∧ env 5 = .ptr b5 0 ∧ env 19 = ev ∧ env 20 = .int .i64 es.length ∧ env 21 = .int .i64 i ∧ ∃ G us, Heap.sub G0 G ∧ ((i < es.length ∧ Mk G H' N b4 es.length i us out .nils []) ∨ (i = es.length ∧ Heap.sub G H' ∧ G N = none ∧ G b4 = none ∧ N ≠ b4 ∧ H' N = some ⟨true, 1, us⟩ ∧ H' b4 = some ⟨true, 1, [.nils, .nils]⟩ ∧ us.length = es.length ∧ ∀ r, r < es.length → ∃ u, us[r]? = some u ∧ SEds G u (out[r]?.getD [])))) (by omega) (by decide) (by decide) ?_ ?_ ?_ ?_
  · rintro k env H' ⟨_, _, _, _, h7, h8, _⟩; exact ⟨h8, h7⟩
  · simp only [go_sem, ↓reduceIte, Nat.reduceEqDiff, Nat.reduceAdd, reduceCtorEq]
    refine ⟨by first | rfl | trivial, by first | rfl | trivial, by first | rfl | trivial, by first | rfl | trivial, by first | rfl | trivial, by first | rfl | trivial, G0, List.replicate es.length .nils, Heap.sub.rfl', ?_⟩
    rcases Nat.eq_zero_or_pos es.length with e0 | e0
    · exact .inr ⟨e0.symm, g0h, g0N, g04, hN4, hbN6, hb46, by simp, fun r hr => by omega⟩
    · refine .inl ⟨e0, g0h, g0N, g04, hN4, hbN6, hb46, by simp, by simp [e0], fun r hr => by omega, fun r h1 h2 => by simp [h2], .inl ⟨rfl, rfl⟩⟩
  · rintro i env H7 hi ⟨h1, h4, h5, h19, h20, h21, G, us, hg, hst⟩
    have st : Mk G H7 N b4 es.length i us out .nils [] := by
      rcases hst with ⟨_, h⟩ | ⟨h, _⟩
      · exact h
      · omega
    clear hst
    obtain ⟨p, ue, a1, a2, a3⟩ := SLists.get he0 hi .i64
    have hgood := sh.good i hi
    have heach := sh.each i hi
    simp only [go_sem, ↓reduceIte, Nat.reduceEqDiff, Nat.reduceAdd, reduceCtorEq, h1, h4, h5, h19, h20, h21, a1, ld_mono (hg.trans' st.gh) a2, SEds.len a3]
    refine blk_join (fun env H' => env 1 = nv ∧ env 4 = .ptr b4 0 ∧ env 5 = .ptr b5 0 ∧ env 6 = .int .i64 i ∧ env 19 = ev ∧ env 20 = .int .i64 es.length ∧ env 21 = .int .i64 i ∧ ∃ us cur, Mk G H' N b4 es.length i us out cur (es[i].map (ndE names i))) ?_ ?_
    · refine range_loop es[i].length (fun j env H' => env 1 = nv ∧ env 4 = .ptr b4 0 ∧ env 5 = .ptr b5 0 ∧ env 6 = .int .i64 i ∧ env 19 = ev ∧ env 20 = .int .i64 es.length ∧ env 21 = .int .i64 i ∧ env 26 = ue ∧ env 27 = .int .i64 es[i].length ∧ env 28 = .int .i64 j ∧ ∃ us cur, Mk G H' N b4 es.length i us out cur ((es[i].take j).map (ndE names i))) (by omega) (by decide) (by decide) ?_ ?_ ?_ ?_
      · rintro k env H' ⟨_, _, _, _, _, _, _, _, h7, h8, _⟩; exact ⟨h8, h7⟩
      · simp only [go_sem, ↓reduceIte, Nat.reduceEqDiff, Nat.reduceAdd, reduceCtorEq, h1, h4, h5, h19, h20, h21]
        exact ⟨by first | rfl | trivial, by first | rfl | trivial, by first | rfl | trivial, by first | rfl | trivial, by first | rfl | trivial, by first | rfl | trivial, by first | rfl | trivial, by first | rfl | trivial, by first | rfl | trivial, by first | rfl | trivial, us, .nils, st⟩
      · rintro j env H8 hj ⟨h1, h4, h5, h6, h19, h20, h21, h26, h27, h28, us, cur, st⟩
        have hg8 := hg.trans' st.gh
        obtain ⟨p', q0, q1, q2, c1, c2, c3, c4, c5, c6, c7, c8⟩ := (SEds.mono a3 hg8).get hj .i64
        have hb := hgood _ (List.getElem_mem hj)
        simp only [go_sem, ↓reduceIte, Nat.reduceEqDiff, Nat.reduceAdd, reduceCtorEq, h1, h4, h5, h6, h19, h20, h21, h26, h27, h28, c1, c2]
        refine newC_intro fun b9 H9 hn9 hs9 hb9 => ?_
        simp only [go_sem, ↓reduceIte, Nat.reduceEqDiff, Nat.reduceAdd, reduceCtorEq]
        refine stC_intro hb9 trivial rfl (by decide) (by decide) fun H10 hb10 hf10 hs10 => ?_
        simp only [cells_agg, fillV, List.length_cons, List.length_nil, splice, Nat.reduceLeDiff, Nat.zero_lt_one, and_self, List.take_zero, List.take_succ_cons, List.drop_succ_cons, List.drop_zero, List.drop_nil, Nat.reduceLT, Nat.le_refl, Ed.cells, List.append_nil, List.nil_append, List.cons_append] at hb10
        have hs810 := hs10 _ hs9 hn9
        have st10 := st.grow hs810
        have hg10 := hg.trans' st10.gh
        have d5 := hg10 _ _ g05
        obtain ⟨pa, ua, qa, r1, r2, r3, r4⟩ := (SRows.mono hn0 hg10).get2 (i := i) (by omega) hb.1 (by rw [hnr i (by omega)]; exact hb.2.1)
        obtain ⟨pb, ub, qb, t1, t2, t3, t4⟩ := (SRows.mono hn0 hg10).get2 (i := i+1) (by omega) hb.2.2.1 (by rw [hnr (i+1) (by omega)]; exact hb.2.2.2)
        have hil : i < us.length := by rw [st.len]; exact hi
        have hcu : us[i] = cur := by have := st.cu; rw [List.getElem?_eq_getElem hil] at this; injection this
        have w1 : IntKind.i64.wrap ((i : Int) + 1) = ((i + 1 : Nat) : Int) := wrapN1 (by omega)
        simp only [go_sem, ↓reduceIte, Nat.reduceEqDiff, Nat.reduceAdd, reduceCtorEq, h1, h4, h5, h6, h19, h20, h21, h26, h27, h28, ld_box d5, ld_box hb10, sameName, beq_self_eq_true, true_and, ia_nat hi, r1, r2, r3, r4, w1, t1, t2, t3, t4, Nat.zero_add, Nat.mul_one, ld_box st10.hN, st.cu, fillV, List.length_cons, List.length_nil, splice, Nat.reduceLeDiff, Nat.zero_lt_one, and_self, List.take_zero, List.take_succ_cons, List.drop_succ_cons, List.drop_zero, List.drop_nil, Nat.reduceLT, Nat.le_refl]
        refine newC_intro fun bx H11 hn11 hs11 hbx => ?_
        have st11 := st10.grow hs11
        have hlr : ((es[i].take j).map (ndE names i)).length = j := by rw [List.length_map, List.length_take]; omega
        have hlv := st11.lenV
        rw [hlr] at hlv
        have g5q : ∀ q, G q = none → b5 ≠ q := by rintro q hq rfl; rw [hg _ _ g05] at hq; cases hq
        have hqN : ∀ n o l f, cur = V.sl n o l f → N ≠ n := by
          rintro n' o l f rfl
          rcases st11.row with ⟨e, _⟩ | ⟨q, e, _, _, h, _⟩
          · cases e
          · injection e with e1; rw [e1]; exact Ne.symm h
        simp only [go_sem, ↓reduceIte, Nat.reduceEqDiff, Nat.reduceAdd, reduceCtorEq]
        refine appC_row (xs := ecells ((es[i].take j).map (ndE names i))) ?_ hbx rfl (by decide) (by rw [hlv]; omega) (by rw [hlv]; omega) fun m H12 hm12 hb12 hf12 => ?_
        · rcases st11.row with ⟨e1, e2⟩ | ⟨q, e1, e2, e3, _⟩
          · exact .inl ⟨e1, by rw [e2]; rfl⟩
          · refine .inr ⟨q, _, e1, e2, by rw [ecells_len], ?_⟩
            simp only [offAll, go_sem, ↓reduceIte, Nat.reduceEqDiff, Nat.reduceAdd, reduceCtorEq, h5]
            exact ⟨g5q q e3, trivial⟩
        have hmN : N ≠ m := by rintro rfl; rw [st11.hN] at hm12; cases hm12
        have hN12 : H12 N = some ⟨true, 1, us⟩ := by rw [hf12 N hmN hqN]; exact st11.hN
        simp only [go_sem, ↓reduceIte, Nat.reduceEqDiff, Nat.reduceAdd, reduceCtorEq, hlv, ia_nat hi, Nat.zero_add, Nat.mul_one]
        refine stC_intro hN12 trivial rfl (by decide) (by omega) fun H13 hb13 hf13 hs13 => ?_
        simp only [go_sem, ↓reduceIte, Nat.reduceEqDiff, Nat.reduceAdd, reduceCtorEq, h1, h4, h5, h6, h19, h20, h21, h26, h27, h28]
        rw [show (V.sl m 0 (j + 1) false).cells = [V.sl m 0 (j + 1) false] from rfl, splice_one _ _ _ hil] at hb13
        have pu := st11.push (e := ndE names i es[i][j]) hm12 hb12 hf12 (by rw [hlr]; exact hb13) hf13
        rw [hlr] at pu
        refine ⟨by first | rfl | trivial, by first | rfl | trivial, by first | rfl | trivial, by first | rfl | trivial, by first | rfl | trivial, by first | rfl | trivial, by first | rfl | trivial, by first | rfl | trivial, by first | rfl | trivial, by first | rfl | trivial, us.set i (.sl m 0 (j + 1) false), .sl m 0 (j + 1) false, ?_⟩
        rw [List.take_add_one, List.getElem?_eq_getElem hj, List.map_append]
        exact pu
      · rintro env H' ⟨h1, h4, h5, h6, h19, h20, h21, h26, h27, h28, us, cur, st⟩
        simp only [go_sem, ↓reduceIte, Nat.reduceEqDiff, Nat.reduceAdd, reduceCtorEq, h1, h4, h5, h6, h19, h20, h21]
        rw [List.take_length] at st
        exact ⟨by first | rfl | trivial, by first | rfl | trivial, by first | rfl | trivial, by first | rfl | trivial, by first | rfl | trivial, by first | rfl | trivial, by first | rfl | trivial, us, cur, st⟩
    · rintro env H8 ⟨h1, h4, h5, h6, h19, h20, h21, us, cur, st⟩
      have hlr : (es[i].map (ndE names i)).length = es[i].length := by rw [List.length_map]
      have hpos : 0 < es[i].length := List.length_pos_iff.2 (hne i hi)
      have d5 := st.gh _ _ (hg _ _ g05)
      obtain ⟨q, rfl⟩ : ∃ q, cur = .sl q 0 (es[i].map (ndE names i)).length false := by
        rcases st.row with ⟨_, e⟩ | ⟨q, e, _⟩
        · rw [List.map_eq_nil_iff] at e; exact absurd e (hne i hi)
        · exact ⟨q, e⟩
      have hoi : out[i]?.getD [] = out[i]'(by omega) := by simp [show i < out.length by omega]
      have hpl := (hp i hi).length_eq
      obtain ⟨e1, e2, G', k1, k2, k3, k4, k5, k6, k7⟩ := st.done hpl (by omega) hoi
      simp only [go_sem, ↓reduceIte, Nat.reduceEqDiff, Nat.reduceAdd, reduceCtorEq, h1, h4, h5, h6, h19, h20, h21, ld_box d5, ia_nat hi, Nat.zero_add, Nat.mul_one, ld_box st.hN, st.cu]
      refine callC_any (sort_spec sortEdge (lessCmp G) (by rw [Eed_cells]; exact e1) st.gh e2 (fun _ _ => trivial) rfl (by omega)) ?_
      rintro u H' ⟨ys, rfl, y1, y2⟩
      obtain rfl : ys = out[i]'(by omega) := sorted_unique (R := fun x y => lessI x y < 0) (y1.trans (hp i hi).symm) ((hso i hi).imp fun h => (less_lt _ _).2 h) y2
      simp only [go_sem, ↓reduceIte, Nat.reduceEqDiff, Nat.reduceAdd, reduceCtorEq, h1, h4, h5, h6, h19, h20, h21]
      refine ⟨by first | rfl | trivial, by first | rfl | trivial, by first | rfl | trivial, by first | rfl | trivial, by first | rfl | trivial, by first | rfl | trivial, by first | rfl | trivial, G', us, hg.trans' k1, ?_⟩
      by_cases c : i + 1 < es.length
      · exact .inl ⟨c, k2, k3, k4, st.ne, k5, k6, st.len, st.after (i+1) (by omega) c, k7, fun r a b => st.after r (by omega) b, .inl ⟨rfl, rfl⟩⟩
      · have e : i + 1 = es.length := by omega
        exact .inr ⟨e, k2, k3, k4, st.ne, k5, k6, st.len, fun r hr => k7 r (by omega)⟩
  · rintro env H' ⟨h1, h4, h5, h19, h20, h21, G, us, hg, hst⟩
    obtain ⟨_, k2, k3, k4, k0, k5, k6, k8, k7⟩ := hst.resolve_left (fun h => by omega)
    have d5 := k2 _ _ (hg _ _ g05)
    simp only [go_sem, ↓reduceIte, Nat.reduceEqDiff, Nat.reduceAdd, reduceCtorEq, h1, h4, h5, ld_boxa d5 (show 0 + 2 ≤ _ by simp), fillV, List.length_cons, List.length_nil, splice, Nat.reduceLeDiff, Nat.zero_lt_one, and_self, List.take_zero, List.take_succ_cons, List.drop_succ_cons, List.drop_zero, List.drop_nil, Nat.reduceLT, Nat.le_refl]
    refine stC_intro k6 trivial rfl (by decide) (by decide) fun H8 hb8 hf8 hs8 => ?_
    have hgs := hs8 G k2 k4
    have hb8' : H8 b4 = some ⟨true, 1, [.sl mw 0 ws.length fw, .sl N 0 es.length true]⟩ := hb8
    simp only [go_sem, ↓reduceIte, Nat.reduceEqDiff, Nat.reduceAdd, reduceCtorEq]
    refine f_box1 (n := b4) (o := 0) (by simp only [go_sem, ↓reduceIte, Nat.reduceEqDiff, Nat.reduceAdd, reduceCtorEq, h4]) hb8' (by show 0 + 2 ≤ 2; decide) ?_
    refine finO_self ⟨(hg0.trans' hg).trans' hgs, _, _, rfl, ?_, ?_⟩
    · exact sl_block (hgs _ _ (hg _ _ g0w)) (by rw [ints_len]; omega) (by omega)
    · refine ⟨us, ?_, fun r hr => ?_⟩
      · rw [hol]
        exact sl_block (by rw [hf8 N k0]; exact k5) (by omega) (by omega)
      · obtain ⟨u, a, b⟩ := k7 r (by omega)
        refine ⟨u, a, SEds.mono ?_ hgs⟩
        simpa [hr] using b
end Go.AM

/- codewrightref01.Mul. Conditions: as stated. -/
set_option linter.unusedVariables false
set_option linter.unusedSimpArgs false
namespace Go.AM
open Go Go.Proofs
attribute [local go_sem] c_skip c_ops c_seq c_ite c_blk c_exit c_ret t_normal t_exit t_ret b_normal b_exit b_ret i_nil i_cons s_guard s_mov s_pick s_new s_zero s_ld s_ldr s_st s_bin s_beq s_isnil s_eqs s_un s_conv s_fa s_fld s_ia s_sli s_ext s_ifc s_mkf s_agg s_len s_mm s_nilchk s_bsl s_mk s_app s_cpy s_call s_inv cells_agg cells_int cells_bool p_get p_none o_s o_c e_0 e_1 e_2 e_3 e_4 iteC_true iteC_false grd_tt grd_tf grd_ft grd_ff grd_und bindV_some pickV_t pickV_f beq_bool conv_int un_not not_dec mm_min mm_max bv_add bv_sub bv_mul bv_eql bv_neq bv_lss bv_leq bv_gtr bv_geq f_normal f_one f_two f_three f_none fa_ptr fld_one ext_tup len_sl len_nils decide_true decide_false not_true_eq_false not_false_eq_true List.map_cons List.map_nil List.append_nil List.cons_append List.nil_append Nat.zero_add Nat.add_zero Nat.mul_one Nat.succ_ne_self if_true if_false List.getElem?_cons_zero List.getElem?_cons_succ

/-- codewrightref01.Mul -/
def F89 : AF := ⟨69, [(4, none)], (.seq (.ops [⟨none, false, (some 4), (.mov (.c .nils))⟩]) (.seq (.ops [⟨none, false, (some 10), (.mov (.s 0))⟩, ⟨none, false, (some 11), (.len (.s 10))⟩, ⟨none, false, (some 12), (.mov (.s 1))⟩, ⟨none, false, (some 13), (.len (.s 12))⟩, ⟨none, false, (some 14), (.bin .add (.s 11) (.s 13))⟩, ⟨none, false, (some 15), (.mk 1 4 [(.int .u32 (0))] (.s 14) (.s 14))⟩, ⟨none, false, (some 5), (.mov (.s 15))⟩]) (.seq (.seq (.ops [⟨none, false, (some 6), (.mov (.c (.int .i64 (0))))⟩]) (.blk 0 (.loop (.seq (.seq (.ops [⟨none, false, (some 16), (.mov (.s 6))⟩, ⟨none, false, (some 17), (.mov (.s 0))⟩, ⟨none, false, (some 18), (.len (.s 17))⟩, ⟨none, false, (some 19), (.bin .lss (.s 16) (.s 18))⟩]) (.ite (.s 19) .skip (.exit 0))) (.seq (.blk 1 (.seq (.ops [⟨none, false, (some 7), (.mov (.c (.int .u64 (0))))⟩]) (.seq (.seq (.ops [⟨none, false, (some 8), (.mov (.c (.int .i64 (0))))⟩]) (.blk 2 (.loop (.seq (.seq (.ops [⟨none, false, (some 22), (.mov (.s 8))⟩, ⟨none, false, (some 23), (.mov (.s 1))⟩, ⟨none, false, (some 24), (.len (.s 23))⟩, ⟨none, false, (some 25), (.bin .lss (.s 22) (.s 24))⟩]) (.ite (.s 25) .skip (.exit 2))) (.seq (.blk 3 (.seq (.ops [⟨none, false, (some 28), (.mov (.s 0))⟩, ⟨none, false, (some 29), (.mov (.s 6))⟩, ⟨none, false, (some 30), (.ia 1 (.s 28) (.s 29))⟩, ⟨none, false, (some 33), (.mov (.s 1))⟩, ⟨none, false, (some 34), (.mov (.s 8))⟩, ⟨none, false, (some 35), (.ia 1 (.s 33) (.s 34))⟩, ⟨none, false, (some 39), (.mov (.s 5))⟩, ⟨none, false, (some 40), (.mov (.s 6))⟩, ⟨none, false, (some 41), (.mov (.s 8))⟩, ⟨none, false, (some 42), (.bin .add (.s 40) (.s 41))⟩, ⟨none, false, (some 43), (.ia 1 (.s 39) (.s 42))⟩, ⟨none, false, (some 47), (.mov (.s 7))⟩, ⟨none, false, (some 31), (.ld false 1 (.s 30) none)⟩, ⟨none, false, (some 32), (.conv .u64 (.s 31))⟩, ⟨none, false, (some 36), (.ld false 1 (.s 35) none)⟩, ⟨none, false, (some 37), (.conv .u64 (.s 36))⟩, ⟨none, false, (some 38), (.bin .mul (.s 32) (.s 37))⟩, ⟨none, false, (some 44), (.ld false 1 (.s 43) none)⟩, ⟨none, false, (some 45), (.conv .u64 (.s 44))⟩, ⟨none, false, (some 46), (.bin .add (.s 38) (.s 45))⟩, ⟨none, false, (some 48), (.bin .add (.s 46) (.s 47))⟩, ⟨none, false, (some 9), (.mov (.s 48))⟩]) (.seq (.ops [⟨none, false, (some 49), (.mov (.s 5))⟩, ⟨none, false, (some 50), (.mov (.s 6))⟩, ⟨none, false, (some 51), (.mov (.s 8))⟩, ⟨none, false, (some 52), (.bin .add (.s 50) (.s 51))⟩, ⟨none, false, (some 53), (.mov (.s 9))⟩, ⟨none, false, (some 54), (.bin .rem (.s 53) (.c (.int .u64 (4294967296))))⟩, ⟨none, false, (some 55), (.conv .u32 (.s 54))⟩, ⟨none, false, (some 56), (.ia 1 (.s 49) (.s 52))⟩, ⟨none, false, none, (.st 1 (.s 56) (.s 55) [])⟩]) (.ops [⟨none, false, (some 57), (.mov (.s 9))⟩, ⟨none, false, (some 58), (.bin .quo (.s 57) (.c (.int .u64 (4294967296))))⟩, ⟨none, false, (some 7), (.mov (.s 58))⟩])))) (.ops [⟨none, false, (some 26), (.mov (.s 8))⟩, ⟨none, false, (some 27), (.bin .add (.s 26) (.c (.int .i64 (1))))⟩, ⟨none, false, (some 8), (.mov (.s 27))⟩])))))) (.ops [⟨none, false, (some 59), (.mov (.s 5))⟩, ⟨none, false, (some 60), (.mov (.s 6))⟩, ⟨none, false, (some 61), (.mov (.s 1))⟩, ⟨none, false, (some 62), (.len (.s 61))⟩, ⟨none, false, (some 63), (.bin .add (.s 60) (.s 62))⟩, ⟨none, false, (some 64), (.mov (.s 7))⟩, ⟨none, false, (some 65), (.conv .u32 (.s 64))⟩, ⟨none, false, (some 66), (.ia 1 (.s 59) (.s 63))⟩, ⟨none, false, none, (.st 1 (.s 66) (.s 65) [])⟩])))) (.ops [⟨none, false, (some 20), (.mov (.s 6))⟩, ⟨none, false, (some 21), (.bin .add (.s 20) (.c (.int .i64 (1))))⟩, ⟨none, false, (some 6), (.mov (.s 21))⟩])))))) (.seq (.ops [⟨none, false, (some 67), (.mov (.s 5))⟩, ⟨none, false, (some 68), (.call (.c (.fn 58 [])) [(.s 67)])⟩, ⟨none, false, (some 4), (.mov (.s 68))⟩]) .ret))))⟩
theorem cv89 : cvF Try.prog 89 = some F89 := by kernel_rfl


theorem rMul_spec {av bv : V} {a b : Int} {L M : Nat} {H : Heap} (hL : L + M ≤ 1099511627776) (ha : SNat H av a L) (hb : SNat H bv b M) : ACalls Try.prog 89 [av, bv] H fun u H' => Heap.sub H H' ∧ CNat H' u (a * b) (L + M) := by
  obtain ⟨xs, hx, lx, rfl, hxL⟩ := ha
  obtain ⟨ys, hy, ly, rfl, hyL⟩ := hb
  refine ACalls.of_body hm cv89 (by simp only [List.length_cons, List.length_nil]; decide) ?_
  simp only [F89, go_sem, ↓reduceIte, Nat.reduceEqDiff, Nat.reduceAdd, reduceCtorEq, hx.len, hy.len]
  have hw0 : IntKind.i64.wrap ((xs.length : Int) + ys.length) = ((xs.length + ys.length : Nat) : Int) := by rw [wrapI (by omega) (by omega)]; omega
  rw [hw0]
  refine mkC_intro (Nat.le_refl _) (by omega) (by omega) fun N H1 hN hs1 hbN => ?_
  rw [flat_rep] at hbN
  simp only [go_sem, ↓reduceIte, Nat.reduceEqDiff, Nat.reduceAdd, reduceCtorEq, beq_self_eq_true]
  refine loop_count xs.length (fun i env H' => env 0 = av ∧ env 1 = bv ∧ env 5 = .sl N 0 (xs.length + ys.length) true ∧ env 6 = .int .i64 i ∧ Heap.sub H H' ∧
      ∃ os : List Int, H' N = some ⟨true, 1, u32s os⟩ ∧ os.length = xs.length + ys.length ∧ Limbs os ∧ nval os = nval (xs.take i) * nval ys ∧ ∀ r, (h : r < os.length) → i + ys.length ≤ r → os[r] = 0) ?_ ?_ ?_
  · simp only [go_sem, ↓reduceIte, Nat.reduceEqDiff, Nat.reduceAdd, reduceCtorEq]
    refine ⟨by trivial, by trivial, by trivial, rfl, hs1, List.replicate (xs.length + ys.length) 0, by simpa [u32s] using hbN, by simp, fun x hx => by rw [(List.mem_replicate.1 hx).2]; decide, ?_, fun r h _ => by simp⟩
    rw [nval_zeros fun x hx => (List.mem_replicate.1 hx).2]; simp [nval]
  · rintro i env H2 hi ⟨h0, h1, h5, h6, hs2, os, hbo, hol, lo, hinv, hz⟩
    obtain ⟨p, a1, a2⟩ := (hx.mono hs2).get hi .i64
    have hxi := lx _ (List.getElem_mem hi)
    have hlt : (i : Int) < xs.length := by omega
    simp only [go_sem, ↓reduceIte, Nat.reduceEqDiff, Nat.reduceAdd, reduceCtorEq, h0, h1, h5, h6, hx.len, hlt]
    refine blk_join (fun env H' => env 0 = av ∧ env 1 = bv ∧ env 5 = .sl N 0 (xs.length + ys.length) true ∧ env 6 = .int .i64 i ∧ Heap.sub H H' ∧
      ∃ (c : Int) (os : List Int), env 7 = .int .u64 c ∧ 0 ≤ c ∧ c < 4294967296 ∧ H' N = some ⟨true, 1, u32s os⟩ ∧ os.length = xs.length + ys.length ∧ Limbs os ∧ nval os + c * 4294967296 ^ (i + ys.length) = nval (xs.take i) * nval ys + xs[i] * nval (ys.take ys.length) * 4294967296 ^ i ∧ ∀ r, (h : r < os.length) → i + ys.length ≤ r → os[r] = 0) ?_ ?_
    · refine loop_count ys.length (fun j env H' => env 0 = av ∧ env 1 = bv ∧ env 5 = .sl N 0 (xs.length + ys.length) true ∧ env 6 = .int .i64 i ∧ env 8 = .int .i64 j ∧ Heap.sub H H' ∧
        ∃ (c : Int) (os : List Int), env 7 = .int .u64 c ∧ 0 ≤ c ∧ c < 4294967296 ∧ H' N = some ⟨true, 1, u32s os⟩ ∧ os.length = xs.length + ys.length ∧ Limbs os ∧ nval os + c * 4294967296 ^ (i + j) = nval (xs.take i) * nval ys + xs[i] * nval (ys.take j) * 4294967296 ^ i ∧ ∀ r, (h : r < os.length) → i + ys.length ≤ r → os[r] = 0) ?_ ?_ ?_
      · simp only [go_sem, ↓reduceIte, Nat.reduceEqDiff, Nat.reduceAdd, reduceCtorEq, h0, h1, h5, h6]
        exact ⟨by trivial, by trivial, by trivial, by trivial, rfl, hs2, 0, os, by trivial, by decide, by decide, hbo, hol, lo, by simp [nval, hinv], hz⟩
      · rintro j env H3 hj ⟨h0, h1, h5, h6, h8, hs3, c, os, h7, hc0, hc1, hbo, hol, lo, hinv, hz⟩
        obtain ⟨p, a1, a2⟩ := (hx.mono hs3).get hi .i64
        obtain ⟨q, b1, b2⟩ := (hy.mono hs3).get hj .i64
        have hyj := ly _ (List.getElem_mem hj)
        have hoj := lo _ (List.getElem_mem (by omega : i + j < os.length))
        have hxy0 : 0 ≤ xs[i] * ys[j] := Int.mul_nonneg hxi.1 hyj.1
        have hxy1 : xs[i] * ys[j] ≤ 4294967295 * 4294967295 := Int.mul_le_mul (by omega) (by omega) hyj.1 (by decide)
        have w1 : IntKind.u64.wrap xs[i] = xs[i] := by rw [wrap64]; omega
        have w2 : IntKind.u64.wrap ys[j] = ys[j] := by rw [wrap64]; omega
        have w3 : IntKind.u64.wrap (xs[i] * ys[j]) = xs[i] * ys[j] := by rw [wrap64]; omega
        have w4 : IntKind.u64.wrap os[i+j] = os[i+j] := by rw [wrap64]; omega
        have w5 : IntKind.u64.wrap (xs[i] * ys[j] + os[i+j]) = xs[i] * ys[j] + os[i+j] := by rw [wrap64]; omega
        have w6 : IntKind.u64.wrap (xs[i] * ys[j] + os[i+j] + c) = xs[i] * ys[j] + os[i+j] + c := by rw [wrap64]; omega
        have w7 : IntKind.i64.wrap ((i : Int) + j) = ((i + j : Nat) : Int) := by rw [wrapI (by omega) (by omega)]; omega
        have w8 : IntKind.u32.wrap ((xs[i] * ys[j] + os[i+j] + c) % 4294967296) = (xs[i] * ys[j] + os[i+j] + c) % 4294967296 := by rw [wrap32]; omega
        have hltj : (j : Int) < ys.length := by omega
        simp only [go_sem, ↓reduceIte, Nat.reduceEqDiff, Nat.reduceAdd, reduceCtorEq, h0, h1, h5, h6, h7, h8, hy.len, hltj, a1, a2, b1, b2, w1, w2, w3, w7, ia_nat (show i + j < xs.length + ys.length by omega), ld_box hbo, u32s_get (show i + j < os.length by omega), w4, w5, w6, bv_rem32 (show 0 ≤ xs[i] * ys[j] + os[i+j] + c by omega), w8]
        refine stC_intro hbo trivial rfl (by decide) (by show i + j + 1 ≤ _; rw [u32s_len]; omega) fun H4 hb4 hf4 hs4 => ?_
        rw [cells_int, splice_one _ _ _ (by rw [u32s_len]; omega)] at hb4
        simp only [go_sem, ↓reduceIte, Nat.reduceEqDiff, Nat.reduceAdd, reduceCtorEq, h0, h1, h5, h6, h7, h8, bv_quo32 (show 0 ≤ xs[i] * ys[j] + os[i+j] + c by omega) (by omega)]
        rw [wrapN1 (by omega)]
        refine ⟨by trivial, by trivial, by trivial, by trivial, by trivial, hs4 H hs3 hN, _, os.set (i+j) ((xs[i] * ys[j] + os[i+j] + c) % 4294967296), rfl, by omega, by omega, by rw [hb4]; simp [u32s, List.map_set], by simpa using hol, fun x hx' => ?_, ?_, fun r h hr => ?_⟩
        · rcases List.mem_or_eq_of_mem_set hx' with h | rfl
          · exact lo x h
          · omega
        · have := mul_step (x := xs[i]) (y := ys[j]) (o := os[i+j]) hinv rfl
          rw [nval_set (by omega), nval_take_succ hj, row_next, ← Int.pow_add, show i + (j + 1) = i + j + 1 by omega, Int.pow_succ, Int.mul_comm (4294967296 ^ (i+j)) 4294967296]
          omega
        · rw [List.getElem_set_ne (by omega)]
          exact hz r (by simpa using h) hr
      · rintro env H3 ⟨h0, h1, h5, h6, h8, hs3, c, os, h7, hc0, hc1, hbo, hol, lo, hinv, hz⟩
        simp only [go_sem, ↓reduceIte, Nat.reduceEqDiff, Nat.reduceAdd, reduceCtorEq, h0, h1, h5, h6, h7, h8, hy.len, Int.lt_irrefl]
        exact ⟨by trivial, by trivial, by trivial, by trivial, hs3, c, os, by trivial, hc0, hc1, hbo, hol, lo, hinv, hz⟩
    · rintro env H3 ⟨h0, h1, h5, h6, hs3, c, os, h7, hc0, hc1, hbo, hol, lo, hinv, hz⟩
      have w7 : IntKind.i64.wrap ((i : Int) + ys.length) = ((i + ys.length : Nat) : Int) := by rw [wrapI (by omega) (by omega)]; omega
      have w8 : IntKind.u32.wrap c = c := by rw [wrap32]; omega
      simp only [go_sem, ↓reduceIte, Nat.reduceEqDiff, Nat.reduceAdd, reduceCtorEq, h0, h1, h5, h6, h7, hy.len, w7, w8, ia_nat (show i + ys.length < xs.length + ys.length by omega)]
      refine stC_intro hbo trivial rfl (by decide) (by show i + ys.length + 1 ≤ _; rw [u32s_len]; omega) fun H4 hb4 hf4 hs4 => ?_
      rw [cells_int, splice_one _ _ _ (by rw [u32s_len]; omega)] at hb4
      simp only [go_sem, ↓reduceIte, Nat.reduceEqDiff, Nat.reduceAdd, reduceCtorEq, h0, h1, h5, h6]
      rw [wrapN1 (by omega)]
      refine ⟨by trivial, by trivial, by trivial, by trivial, hs4 H hs3 hN, os.set (i + ys.length) c, by rw [hb4]; simp [u32s, List.map_set], by simpa using hol, fun x hx' => ?_, ?_, fun r h hr => ?_⟩
      · rcases List.mem_or_eq_of_mem_set hx' with h | rfl
        · exact lo x h
        · omega
      · rw [nval_set (by omega), hz _ (by omega) (Nat.le_refl _), nval_take_succ hi, Int.add_mul]
        rw [List.take_length] at hinv
        rw [Int.mul_comm (4294967296 ^ i) xs[i], Int.mul_assoc xs[i], Int.mul_comm (4294967296 ^ i) (nval ys), ← Int.mul_assoc xs[i]]
        rw [Int.sub_zero, Int.mul_comm (4294967296 ^ (i + ys.length)) c]
        exact hinv
      · rw [List.getElem_set_ne (by omega)]
        exact hz r (by simpa using h) (by omega)
  · rintro env H2 ⟨h0, h1, h5, h6, hs2, os, hbo, hol, lo, hinv, hz⟩
    rw [List.take_length] at hinv
    have hn : SNat H2 (.sl N 0 (xs.length + ys.length) true) (nval xs * nval ys) (L + M) := by
      refine ⟨os, ?_, lo, hinv, by omega⟩
      unfold SLimbs
      rw [hol]
      exact ⟨by rw [u32s_len]; omega, by omega, .inr ⟨N, 0, true, _, rfl, hbo, rfl, .inr (by rw [u32s_len]; omega), fun j hj => by simp⟩⟩
    simp only [go_sem, ↓reduceIte, Nat.reduceEqDiff, Nat.reduceAdd, reduceCtorEq, h0, h1, h5, h6, hx.len, Int.lt_irrefl]
    refine callC_grow (rTrim_spec (by omega) hn) ?_
    intro u H3 hs3 hc
    simp only [go_sem, ↓reduceIte, Nat.reduceEqDiff, Nat.reduceAdd, reduceCtorEq]
    exact finO_self ⟨hs2.trans' hs3, hc⟩
end Go.AM
