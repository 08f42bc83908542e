/- The document's Along. Conditions: none. -/
import Derived.Test.YtopeeknimehmcaaQ4
set_option linter.unusedVariables false
set_option linter.unusedSimpArgs false
namespace Go.AM
open Go Go.Proofs
attribute [local go_sem] c_skip c_ops c_seq c_ite c_blk c_exit c_ret t_normal t_exit t_ret b_normal b_exit b_ret i_nil i_cons s_guard s_mov s_pick s_new s_zero s_ld s_ldr s_st s_bin s_beq s_isnil s_eqs s_un s_conv s_fa s_fld s_ia s_sli s_ext s_ifc s_mkf s_agg s_len s_mm s_nilchk s_bsl s_mk s_app s_cpy s_call s_inv cells_agg cells_int cells_bool p_get p_none o_s o_c e_0 e_1 e_2 e_3 e_4 iteC_true iteC_false grd_tt grd_tf grd_ft grd_ff grd_und bindV_some pickV_t pickV_f beq_bool conv_int un_not not_dec mm_min mm_max bv_add bv_sub bv_mul bv_eql bv_neq bv_lss bv_leq bv_gtr bv_geq f_normal f_one f_two f_three f_none fa_ptr fld_one ext_tup len_sl len_nils decide_true decide_false not_true_eq_false not_false_eq_true List.map_cons List.map_nil List.append_nil List.cons_append List.nil_append Nat.zero_add Nat.add_zero Nat.mul_one Nat.succ_ne_self if_true if_false List.getElem?_cons_zero List.getElem?_cons_succ

/-- codewrightref49.Along -/
def F14 : AF := ⟨95, [(4, none), (5, none)], (.seq (.ops [⟨none, false, (some 2), (.new (.s 0))⟩, ⟨none, false, (some 4), (.mov (.c .nils))⟩, ⟨none, false, (some 5), (.mov (.c (.int .i64 (0))))⟩]) (.seq (.ops [⟨none, false, (some 14), (.ld true 2 (.s 2) none)⟩, ⟨none, false, (some 15), (.mov (.s 1))⟩, ⟨none, false, (some 16), (.call (.c (.fn 44 [])) [(.s 14), (.s 15)])⟩, ⟨none, false, (some 6), (.mov (.s 16))⟩]) (.seq (.ops [⟨none, false, (some 17), (.ld true 2 (.s 2) none)⟩, ⟨none, false, (some 18), (.mov (.s 6))⟩, ⟨none, false, (some 19), (.call (.c (.fn 45 [])) [(.s 17), (.s 18)])⟩, ⟨none, false, (some 7), (.mov (.s 19))⟩]) (.seq (.ops [⟨none, false, (some 20), (.bsl 1 0 [] [])⟩, ⟨none, false, (some 8), (.mov (.s 20))⟩]) (.seq (.ops [⟨none, false, (some 9), (.mov (.c (.int .i64 (0))))⟩]) (.seq (.seq (.ops [⟨none, false, (some 10), (.mov (.c (.int .i64 (0))))⟩]) (.blk 0 (.loop (.seq (.seq (.ops [⟨none, false, (some 21), (.mov (.s 10))⟩, ⟨none, false, (some 22), (.fa 1 (.s 2))⟩, ⟨none, false, (some 23), (.ld false 1 (.s 22) none)⟩, ⟨none, false, (some 24), (.len (.s 23))⟩, ⟨none, false, (some 25), (.bin .lss (.s 21) (.s 24))⟩]) (.ite (.s 25) .skip (.exit 0))) (.seq (.blk 1 (.seq (.ops [⟨none, false, (some 11), (.mov (.c (.int .i64 (-1))))⟩]) (.seq (.seq (.ops [⟨none, false, (some 12), (.mov (.c (.int .i64 (0))))⟩]) (.blk 2 (.loop (.seq (.seq (.ops [⟨none, false, (some 28), (.mov (.s 12))⟩, ⟨none, false, (some 29), (.fa 1 (.s 2))⟩, ⟨none, false, (some 30), (.ld false 1 (.s 29) none)⟩, ⟨none, false, (some 31), (.mov (.s 10))⟩, ⟨none, false, (some 32), (.ia 1 (.s 30) (.s 31))⟩, ⟨none, false, (some 33), (.ld false 1 (.s 32) none)⟩, ⟨none, false, (some 34), (.len (.s 33))⟩, ⟨none, false, (some 35), (.bin .lss (.s 28) (.s 34))⟩]) (.ite (.s 35) .skip (.exit 2))) (.seq (.blk 3 (.seq (.ops [⟨none, false, (some 38), (.fa 1 (.s 2))⟩, ⟨none, false, (some 39), (.ld false 1 (.s 38) none)⟩, ⟨none, false, (some 40), (.mov (.s 10))⟩, ⟨none, false, (some 41), (.ia 1 (.s 39) (.s 40))⟩, ⟨none, false, (some 42), (.ld false 1 (.s 41) none)⟩, ⟨none, false, (some 43), (.mov (.s 12))⟩, ⟨none, false, (some 44), (.ia 3 (.s 42) (.s 43))⟩, ⟨none, false, (some 45), (.ld true 3 (.s 44) none)⟩, ⟨none, false, (some 13), (.zero [(.int .i64 (0)), (.int .i64 (0)), (.int .i64 (0))])⟩, ⟨none, false, none, (.st 3 (.s 13) (.s 45) [])⟩]) (.seq (.ops [⟨none, false, (some 46), (.mov (.s 11))⟩, ⟨none, false, (some 47), (.bin .lss (.s 46) (.c (.int .i64 (0))))⟩, ⟨none, false, (some 48), (.mov (.s 47))⟩, ⟨(some (48, true)), false, (some 49), (.fa 0 (.s 13))⟩, ⟨(some (48, true)), false, (some 51), (.mov (.s 9))⟩, ⟨(some (48, true)), false, (some 50), (.ld false 1 (.s 49) none)⟩, ⟨(some (48, true)), false, (some 52), (.bin .eql (.s 50) (.s 51))⟩, ⟨none, false, (some 53), (.pick (.s 48) (.s 52) (.c (.bool false)))⟩, ⟨none, false, (some 54), (.mov (.s 53))⟩, ⟨(some (54, true)), false, (some 55), (.mov (.s 6))⟩, ⟨(some (54, true)), false, (some 56), (.mov (.s 10))⟩, ⟨(some (54, true)), false, (some 57), (.ia 1 (.s 55) (.s 56))⟩, ⟨(some (54, true)), false, (some 59), (.mov (.s 12))⟩, ⟨(some (54, true)), false, (some 62), (.mov (.s 7))⟩, ⟨(some (54, true)), false, (some 63), (.mov (.s 10))⟩, ⟨(some (54, true)), false, (some 64), (.bin .add (.s 63) (.c (.int .i64 (1))))⟩, ⟨(some (54, true)), false, (some 65), (.ia 1 (.s 62) (.s 64))⟩, ⟨(some (54, true)), false, (some 67), (.fa 2 (.s 13))⟩, ⟨(some (54, true)), false, (some 72), (.mov (.s 7))⟩, ⟨(some (54, true)), false, (some 73), (.mov (.s 10))⟩, ⟨(some (54, true)), false, (some 74), (.ia 1 (.s 72) (.s 73))⟩, ⟨(some (54, true)), false, (some 76), (.mov (.s 9))⟩, ⟨(some (54, true)), false, (some 58), (.ld false 1 (.s 57) none)⟩, ⟨(some (54, true)), false, (some 60), (.ia 1 (.s 58) (.s 59))⟩, ⟨(some (54, true)), false, (some 61), (.ld false 1 (.s 60) none)⟩, ⟨(some (54, true)), false, (some 66), (.ld false 1 (.s 65) none)⟩, ⟨(some (54, true)), false, (some 68), (.ld false 1 (.s 67) none)⟩, ⟨(some (54, true)), false, (some 69), (.ia 1 (.s 66) (.s 68))⟩, ⟨(some (54, true)), false, (some 70), (.ld false 1 (.s 69) none)⟩, ⟨(some (54, true)), false, (some 71), (.bin .add (.s 61) (.s 70))⟩, ⟨(some (54, true)), false, (some 75), (.ld false 1 (.s 74) none)⟩, ⟨(some (54, true)), false, (some 77), (.ia 1 (.s 75) (.s 76))⟩, ⟨(some (54, true)), false, (some 78), (.ld false 1 (.s 77) none)⟩, ⟨(some (54, true)), false, (some 79), (.bin .eql (.s 71) (.s 78))⟩, ⟨none, false, (some 80), (.pick (.s 54) (.s 79) (.c (.bool false)))⟩]) (.ite (.s 80) (.seq (.ops [⟨none, false, (some 81), (.mov (.s 8))⟩, ⟨none, false, (some 82), (.fa 1 (.s 13))⟩, ⟨none, false, (some 83), (.ld false 1 (.s 82) none)⟩, ⟨none, false, (some 84), (.bsl 1 1 [(.int .i64 (0))] [(0, (1, (.s 83)))])⟩, ⟨none, false, (some 85), (.app 1 8 (.s 81) (.s 84) [])⟩, ⟨none, false, (some 8), (.mov (.s 85))⟩]) (.ops [⟨none, false, (some 86), (.fa 2 (.s 13))⟩, ⟨none, false, (some 87), (.ld false 1 (.s 86) none)⟩, ⟨none, false, (some 11), (.mov (.s 87))⟩])) .skip)))) (.ops [⟨none, false, (some 36), (.mov (.s 12))⟩, ⟨none, false, (some 37), (.bin .add (.s 36) (.c (.int .i64 (1))))⟩, ⟨none, false, (some 12), (.mov (.s 37))⟩])))))) (.ops [⟨none, false, (some 88), (.mov (.s 11))⟩, ⟨none, false, (some 9), (.mov (.s 88))⟩])))) (.ops [⟨none, false, (some 26), (.mov (.s 10))⟩, ⟨none, false, (some 27), (.bin .add (.s 26) (.c (.int .i64 (1))))⟩, ⟨none, false, (some 10), (.mov (.s 27))⟩])))))) (.seq (.ops [⟨none, false, (some 89), (.mov (.s 8))⟩, ⟨none, false, (some 90), (.mov (.s 7))⟩, ⟨none, false, (some 91), (.ia 1 (.s 90) (.c (.int .i64 (0))))⟩, ⟨none, false, (some 4), (.mov (.s 89))⟩, ⟨none, false, (some 92), (.ld false 1 (.s 91) none)⟩, ⟨none, false, (some 93), (.ia 1 (.s 92) (.c (.int .i64 (0))))⟩, ⟨none, false, (some 94), (.ld false 1 (.s 93) none)⟩, ⟨none, false, (some 5), (.mov (.s 94))⟩]) .ret)))))))⟩
theorem cv14 : cvF Try.prog 14 = some F14 := by kernel_rfl


/-- a list that grows at its end: nobody else has its block -/
def Own (H0 H : Heap) (u : V) (xs : List V) : Prop := ∃ n f, u = .sl n 0 xs.length f ∧ H n = some ⟨true, 1, xs⟩ ∧ H0 n = none
theorem Own.mono {H0 H H' : Heap} {u : V} {xs : List V} (h : Own H0 H u xs) (hs : Heap.sub H H') : Own H0 H' u xs := by
  obtain ⟨n, f, a, b, c⟩ := h
  exact ⟨n, f, a, hs _ _ b, c⟩
theorem appC_own {H0 H : Heap} {env : Env} {d : Option Nat} {K : Env → Heap → Prop} {u v : V} {xs : List V} {xb bytes : Nat} {f : Bool} (h0 : Heap.sub H0 H) (hu : Own H0 H u xs) (hx : H xb = some ⟨true, 1, [v]⟩)
    (hb : (xs.length + 1) * bytes ≤ 140737488355328) (hb2 : xs.length + 1 ≤ 140737488355328)
    (hk : ∀ u' H', Own H0 H' u' (xs ++ [v]) → Heap.sub H0 H' → (∀ q b, H q = some b → (∀ n o l f, u = .sl n o l f → q ≠ n) → H' q = some b) → K (env.put d u') H') : appC H env 1 bytes u (.sl xb 0 1 f) [] d K := by
  obtain ⟨n, g, rfl, hn, hn0⟩ := hu
  have hc : cellsAt H 1 (.sl xb 0 1 f) = some [v] := by
    simp [cellsAt, hx, List.take_of_length_le]
  unfold appC
  rw [hc]
  refine ⟨hb, hb2, ?_⟩
  have h1 : lenV (.sl xb 0 1 f) = 1 := rfl
  rw [h1, if_neg (by decide)]
  simp only [hn]
  refine ⟨trivial, ?_⟩
  have hlen : lenV (.sl n 0 xs.length g) = xs.length := rfl
  cases g
  · simp only [Bool.false_eq_true, if_false]
    refine ⟨trivial, trivial, trivial, by omega, fun m hm => ?_⟩
    refine hk _ _ ⟨m, false, by simp, by simp [Heap.upd], h0.none' hm⟩ (fun q b hq => ?_) fun q b hq hne => ?_
    · have q1 : q ≠ n := by rintro rfl; rw [hn0] at hq; cases hq
      have q2 : q ≠ m := by rintro rfl; rw [h0.none' hm] at hq; cases hq
      simp [Heap.upd, q1, q2, h0 q b hq]
    · have q1 := hne n 0 xs.length false rfl
      have q2 : q ≠ m := by rintro rfl; rw [hm] at hq; cases hq
      simp [Heap.upd, q1, q2, hq]
  · simp only [if_true]
    refine ⟨by simp, fun m hm => ?_⟩
    refine hk _ _ ⟨m, false, by simp, by simp [Heap.upd], h0.none' hm⟩ (fun q b hq => ?_) fun q b hq hne => ?_
    · have q2 : q ≠ m := by rintro rfl; rw [h0.none' hm] at hq; cases hq
      simp [Heap.upd, q2, h0 q b hq]
    · have q2 : q ≠ m := by rintro rfl; rw [hm] at hq; cases hq
      simp [Heap.upd, q2, hq]

def optTo : Option Ed → Int | none => -1 | some e => e.to
def optLb : Option Ed → List Int | none => [] | some e => [e.lb]
def labs (es : List (List Ed)) (rest : List (List Int)) (z : Nat → Int → Int) (i : Nat) : List Int := (List.range i).map (labAt es rest z)

theorem rAlong_spec {sv ev cv : V} {ws : List Int} {es : List (List Ed)} {costs : List (List Int)} {H : Heap} (hs : SInts H sv ws) (he : SSecs H ev es) (hc : SRows H cv costs) (c : Costed ws es (at2 costs))
    (hl : costs.length = es.length) (hlab : ∀ i, (h : i < es.length) → ∀ e ∈ es[i], 0 ≤ e.lb ∧ e.lb < (costs[i]'(by omega)).length) :
    ACalls Try.prog 14 [.agg [sv, ev], cv] H fun u H' => Heap.sub H H' ∧ ∃ wv, u = .tup [wv, .int .i64 (at2 (bTab ws es (at2 costs)) 0 0)] ∧ SInts H' wv (labs es (bTab ws es (at2 costs)) (at2 costs) es.length) := by
  refine ACalls.of_body hm cv14 (by simp only [List.length_cons, List.length_nil]; decide) ?_
  have sh := shaped_of c.shape
  have hn := sh.n
  have e2 := sh.len
  simp only [F14, go_sem, ↓reduceIte, Nat.reduceEqDiff, Nat.reduceAdd, reduceCtorEq]
  refine newC_intro fun b2 H2 hn2 hs02 hb2' => ?_
  simp only [go_sem, ↓reduceIte, Nat.reduceEqDiff, Nat.reduceAdd, reduceCtorEq, ld_boxa hb2' (show 0 + 2 ≤ _ by simp), fillV, List.length_cons, List.length_nil, splice, Nat.reduceLeDiff, Nat.zero_lt_one, and_self, List.take_zero, List.take_succ_cons, List.drop_succ_cons, List.drop_zero, List.drop_nil, Nat.reduceLT, Nat.le_refl]
  refine callC_grow (rvals_spec (SSecs.mono he hs02) sh (SRows.mono hc hs02) hl hlab) ?_
  rintro u H3 hs3 ⟨Nv, uv, rfl, tabv⟩
  have hvl : ∀ xs ∈ vtab es (fun i a => V.int .i64 (at2 costs i a)), xs.length ≤ 281474976710656 := by
    intro xs hx
    obtain ⟨i, hi, rfl⟩ := List.getElem_of_mem hx
    rw [vtab_len] at hi
    rw [vtab_get hi, List.length_map]
    have := sh.each i hi; omega
  have hvr := tabv.rows (g := true) (n := es.length) (vtab_len _ _).symm (by omega) hvl
  simp only [go_sem, ↓reduceIte, Nat.reduceEqDiff, Nat.reduceAdd, reduceCtorEq, ld_boxa (hs3 _ _ hb2') (show 0 + 2 ≤ _ by simp), fillV, List.length_cons, List.length_nil, splice, Nat.reduceLeDiff, Nat.zero_lt_one, and_self, List.take_zero, List.take_succ_cons, List.drop_succ_cons, List.drop_zero, List.drop_nil, Nat.reduceLT, Nat.le_refl]
  refine callC_grow (rBackward_spec (hs.mono (hs02.trans' hs3)) (SSecs.mono he (hs02.trans' hs3)) sh hvr) ?_
  rintro u H4 hs4 ⟨N, us, rfl, tab⟩
  have hs24 := hs3.trans' hs4
  have hrl : ∀ xs ∈ (bTab ws es (at2 costs)).map ints, xs.length ≤ 281474976710656 := by
    intro xs hx
    obtain ⟨i, hi, rfl⟩ := List.getElem_of_mem hx
    rw [List.length_map, bTab_len] at hi
    rw [List.getElem_map, ints_len, bTab_get hi, bTab_width hi]
    have := sh.pos i (by omega)
    unfold width; rw [getD_eq (by omega)]; omega
  have hrr := tab.rows (g := true) (n := es.length + 1) (by simp [bTab_len]) (by omega) hrl
  have hvr4 := hvr.mono hs4
  have hb24 := hs24 _ _ hb2'
  simp only [go_sem, ↓reduceIte, Nat.reduceEqDiff, Nat.reduceAdd, reduceCtorEq, fillV, List.length_cons, List.length_nil, splice, Nat.reduceLeDiff, Nat.zero_lt_one, and_self, List.take_zero, List.take_succ_cons, List.drop_succ_cons, List.drop_zero, List.drop_nil, Nat.reduceLT, Nat.le_refl]
  refine newC_intro fun nb H5 hnb hs5 hbnb => ?_
  simp only [go_sem, ↓reduceIte, Nat.reduceEqDiff, Nat.reduceAdd, reduceCtorEq]
  have rest_at : ∀ {H' : Heap}, Heap.sub H4 H' → ∀ i a : Nat, i < es.length + 1 → a < width ws i → ∃ p q u, iaV 1 (.sl N 0 (es.length + 1) true) (.int .i64 i) = some p ∧ ldV H' false 1 p = some u ∧ iaV 1 u (.int .i64 a) = some q ∧ ldV H' false 1 q = some (.int .i64 (at2 (bTab ws es (at2 costs)) i a)) ∧ 0 ≤ at2 (bTab ws es (at2 costs)) i a ∧ at2 (bTab ws es (at2 costs)) i a ≤ Inf := by
    intro H' hs' i a hi ha
    obtain ⟨p, u, x1, x2, x3⟩ := (SRowsV.mono hrr hs').get (k := i) (by simp [bTab_len]; omega) .i64
    rw [List.getElem_map, bTab_get hi] at x3
    obtain ⟨q, y1, y2⟩ := x3.get (k := a) (by rw [ints_len, bTab_width hi]; exact ha) .i64
    have e : at2 (bTab ws es (at2 costs)) i a = (bRow ws es (at2 costs) (es.length - i))[a]'(by rw [bTab_width hi]; exact ha) := by
      rw [at2_get (by rw [bTab_len]; exact hi) (by rw [bTab_get hi, bTab_width hi]; exact ha)]
      simp [bTab]
    refine ⟨p, q, u, x1, x2, y1, ?_, ?_⟩
    · rw [y2, e]; simp [ints]
    · rw [e]; exact InR_bRow _ _ _ _ _ (List.getElem_mem _)
  have hpath := path_ok c
  have hcost := c.cost
  have hbTab : ∀ xs ∈ (bTab ws es (at2 costs)), True := fun _ _ => trivial
  generalize hR : bTab ws es (at2 costs) = R at rest_at hpath ⊢
  generalize hZ : at2 costs = Z at rest_at hpath hvr4 hcost ⊢
  refine loop_count es.length (fun k env H' => env 2 = .ptr b2 0 ∧ env 6 = .sl Nv 0 es.length true ∧ env 7 = .sl N 0 (es.length + 1) true ∧ env 10 = .int .i64 k ∧ env 9 = .int .i64 (nodeAt es R Z k) ∧ Heap.sub H4 H' ∧ Own H4 H' (env 8) (ints (labs es R Z k))) ?_ ?_ ?_
  · simp only [go_sem, ↓reduceIte, Nat.reduceEqDiff, Nat.reduceAdd, reduceCtorEq]
    exact ⟨by trivial, by trivial, by trivial, by trivial, by trivial, hs5, nb, true, rfl, hbnb, hnb⟩
  · rintro k env H6 hk ⟨h2, h6, h7, h10, h9, hs6, hown⟩
    obtain ⟨p, ue, a1, a2, a3⟩ := (SSecs.mono he hs02).get hk .i64
    have hlk := sh.each k hk
    have hk' : (k : Int) < es.length := by omega
    obtain ⟨⟨hnode0, hnode1⟩, hpk⟩ := hpath k (by omega)
    obtain ⟨ek, hek, hpick⟩ := hpk hk
    have gi := getD_eq (xs := ws) (k := k) (by omega)
    have gi1 := getD_eq (xs := ws) (k := k+1) (by omega)
    have goodk := sh.good k hk
    obtain ⟨nd, hnd⟩ : ∃ n : Nat, nodeAt es R Z k = n := ⟨(nodeAt es R Z k).toNat, by omega⟩
    simp only [go_sem, ↓reduceIte, Nat.reduceEqDiff, Nat.reduceAdd, reduceCtorEq, h2, h6, h7, h9, h10, ld_box (hs6 _ _ hb24), SLists.len he, hk']
    refine loop_count es[k].length (fun j env H' => env 2 = .ptr b2 0 ∧ env 6 = .sl Nv 0 es.length true ∧ env 7 = .sl N 0 (es.length + 1) true ∧ env 10 = .int .i64 k ∧ env 9 = .int .i64 (nodeAt es R Z k) ∧ env 12 = .int .i64 j ∧ env 11 = .int .i64 (optTo (pickE R Z k (es[k].take j) (nodeAt es R Z k))) ∧ Heap.sub H4 H' ∧ Own H4 H' (env 8) (ints (labs es R Z k ++ optLb (pickE R Z k (es[k].take j) (nodeAt es R Z k))))) ?_ ?_ ?_
    · simp only [go_sem, ↓reduceIte, Nat.reduceEqDiff, Nat.reduceAdd, reduceCtorEq, h2, h6, h7, h9, h10]
      exact ⟨by trivial, by trivial, by trivial, by trivial, by trivial, by trivial, by rfl, hs6, by simpa [pickE, optLb] using hown⟩
    · rintro j env H7 hj ⟨h2, h6, h7, h10, h9, h12, h11, hs7, hown⟩
      have hs27 := hs24.trans' hs7
      have hj' : (j : Int) < es[k].length := by omega
      obtain ⟨p, q0, q1, q2, c1, c2, _⟩ := (a3.mono hs27).get hj .i64
      simp only [go_sem, ↓reduceIte, Nat.reduceEqDiff, Nat.reduceAdd, reduceCtorEq, h2, h6, h7, h9, h10, h11, h12, ld_box (hs7 _ _ hb24), a1, ld_mono hs27 a2, a3.len, hj', c1, c2]
      refine newC_intro fun n4 H8 hn4 hs8 hb8 => ?_
      simp only [go_sem, ↓reduceIte, Nat.reduceEqDiff, Nat.reduceAdd, reduceCtorEq]
      refine stC_intro hb8 trivial rfl (by decide) (by decide) fun H9 hb9 hf9 hs9 => ?_
      simp only [Ed.cells, fillV, List.length_cons, List.length_nil, splice, Nat.reduceLeDiff, Nat.zero_lt_one, and_self, List.take_zero, List.take_succ_cons, List.drop_succ_cons, List.drop_zero, List.drop_nil, Nat.reduceLT, Nat.le_refl, go_sem, ↓reduceIte, Nat.reduceEqDiff, Nat.reduceAdd, reduceCtorEq] at hb9
      have hs79 : Heap.sub H7 H9 := hs9 H7 hs8 hn4
      have hs49 := hs7.trans' hs79
      have hown9 := hown.mono hs79
      have gd := goodk _ (List.getElem_mem hj)
      rw [gi, gi1] at gd
      cases ho : pickE R Z k (es[k].take j) (nodeAt es R Z k) with
      | some e0 =>
        have hto0 : ¬ e0.to < 0 := by
          have := goodk e0 (List.mem_of_mem_take (List.mem_of_find?_eq_some ho))
          omega
        have hnext : pickE R Z k (es[k].take (j+1)) (nodeAt es R Z k) = some e0 := by
          unfold pickE at ho ⊢
          rw [List.take_add_one, List.find?_append, ho]; rfl
        rw [ho] at h11 hown9
        simp only [optTo] at h11
        simp only [go_sem, ↓reduceIte, Nat.reduceEqDiff, Nat.reduceAdd, reduceCtorEq, h2, h6, h7, h9, h10, h11, h12, hto0, optTo]
        rw [wrapN1 (by omega)]
        exact ⟨by trivial, by trivial, by trivial, by trivial, by trivial, by trivial, by rw [hnext], hs49, by rw [hnext]; exact hown9⟩
      | none =>
        rw [ho] at h11 hown9
        simp only [optTo] at h11
        have hm1 : (-1 : Int) < 0 := by decide
        have hsnoc : ∀ b : Bool, (decide (es[k][j].fr = nodeAt es R Z k) && decide (Z k es[k][j].lb + at2 R (k+1) es[k][j].to = at2 R k (nodeAt es R Z k))) = b →
            pickE R Z k (es[k].take (j+1)) (nodeAt es R Z k) = if b then some es[k][j] else none := by
          intro b hb
          unfold pickE at ho ⊢
          rw [List.take_add_one, List.getElem?_eq_getElem hj, List.find?_append, ho]
          cases b <;> simp [hb]
        simp only [go_sem, ↓reduceIte, Nat.reduceEqDiff, Nat.reduceAdd, reduceCtorEq, h2, h6, h7, h9, h10, h11, h12, hm1, ld_box hb9, optTo]
        by_cases d1 : es[k][j].fr = nodeAt es R Z k
        case neg =>
          have hnext := hsnoc false (by simp [d1])
          simp only [d1, go_sem, ↓reduceIte, Nat.reduceEqDiff, Nat.reduceAdd, reduceCtorEq, h2, h6, h7, h9, h10, h11, h12]
          rw [wrapN1 (by omega)]
          exact ⟨by trivial, by trivial, by trivial, by trivial, by trivial, by trivial, by rw [hnext]; rfl, hs49, by rw [hnext]; exact hown9⟩
        obtain ⟨to, hto⟩ : ∃ n : Nat, es[k][j].to = n := ⟨es[k][j].to.toNat, by omega⟩
        obtain ⟨p1, p2, p3, x1, x2, x3, x4, x5, x6⟩ := rest_at hs49 k nd (by omega) (by unfold width; rw [gi]; rw [gi] at hnode1; omega)
        obtain ⟨r1, r2, r3, y1, y2, y3, y4, y5, y6⟩ := rest_at hs49 (k+1) to (by omega) (by unfold width; rw [gi1]; omega)
        obtain ⟨pv, uv, v1, v2, v3⟩ := (SRowsV.mono hvr4 hs49).get (k := k) (by rw [vtab_len]; exact hk) .i64
        rw [vtab_get hk] at v3
        obtain ⟨pz, z1, z2⟩ := v3.get (k := j) (by simpa using hj) .i64
        rw [List.getElem_map] at z2
        have hzr := hcost k hk _ (List.getElem_mem hj)
        have hw1 : IntKind.i64.wrap ((k : Int) + 1) = ((k + 1 : Nat) : Int) := wrapN1 (by omega)
        unfold Inf at y6 x6
        simp (disch := omega) only [d1, go_sem, ↓reduceIte, Nat.reduceEqDiff, Nat.reduceAdd, reduceCtorEq, h2, h6, h7, h9, h10, h11, h12, hw1, hnd, hto, v1, v2, x1, x2, x3, x4, y1, y2, y3, y4, z1, z2, ld_box hb9, wrapI]
        refine iteC_if (fun d2 => ?_) (fun d2 => ?_)
        · have hnext := hsnoc true (by simp only [d1, hnd, hto, d2, decide_true, Bool.and_self])
          simp only [go_sem, ↓reduceIte, Nat.reduceEqDiff, Nat.reduceAdd, reduceCtorEq, fillV, List.length_cons, List.length_nil, splice, Nat.reduceLeDiff, Nat.zero_lt_one, and_self, List.take_zero, List.take_succ_cons, List.drop_succ_cons, List.drop_zero, List.drop_nil, Nat.reduceLT, Nat.le_refl, h2, h6, h7, h9, h10, h11, h12, ld_box hb9]
          refine newC_intro fun xb Ha hxb hsa hbx => ?_
          simp only [go_sem, ↓reduceIte, Nat.reduceEqDiff, Nat.reduceAdd, reduceCtorEq]
          have hll : (ints (labs es R Z k ++ optLb none)).length = k := by simp [ints, labs, optLb]
          refine appC_own (hs49.trans' hsa) (hown9.mono hsa) hbx (by rw [hll]; omega) (by rw [hll]; omega) fun u' Hb hob hsb hkeep => ?_
          have hb9b : Hb n4 = some ⟨true, 1, [.int .i64 es[k][j].fr, .int .i64 es[k][j].lb, .int .i64 es[k][j].to]⟩ := by
            refine hkeep _ _ (hsa _ _ hb9) ?_
            intro n o l f hu hne
            obtain ⟨n', f', hu', hn', _⟩ := hown
            rw [hu] at hu'
            obtain ⟨rfl, _⟩ : n = n' ∧ True := by injection hu' with a; exact ⟨a, trivial⟩
            rw [← hne, hn4] at hn'
            cases hn'
          simp only [go_sem, ↓reduceIte, Nat.reduceEqDiff, Nat.reduceAdd, reduceCtorEq, h2, h6, h7, h9, h10, h11, h12, ld_box hb9b]
          rw [wrapN1 (by omega)]
          refine ⟨by trivial, by trivial, by trivial, by trivial, by rw [hnd], by trivial, by rw [← hnd, hnext]; rfl, hsb, ?_⟩
          rw [← hnd, hnext]
          simpa [optLb, ints] using hob
        · have hnext := hsnoc false (by simp only [d1, hnd, hto, d2, decide_false, Bool.and_false])
          simp only [go_sem, ↓reduceIte, Nat.reduceEqDiff, Nat.reduceAdd, reduceCtorEq, h2, h6, h7, h9, h10, h11, h12]
          rw [wrapN1 (by omega)]
          exact ⟨by trivial, by trivial, by trivial, by trivial, by rw [hnd], by trivial, by rw [← hnd, hnext]; rfl, hs49, by rw [← hnd, hnext]; exact hown9⟩
    · rintro env H7 ⟨h2, h6, h7, h10, h9, h12, h11, hs7, hown⟩
      have hs27 := hs24.trans' hs7
      rw [List.take_length, hpick] at h11 hown
      have hl' : labAt es R Z k = ek.lb := by unfold labAt; simp only [hk, List.getElem?_eq_getElem, Option.getD_some, hpick]
      have hn' : nodeAt es R Z (k+1) = ek.to := by rw [nodeAt]; simp only [hk, List.getElem?_eq_getElem, Option.getD_some, hpick]
      simp only [go_sem, ↓reduceIte, Nat.reduceEqDiff, Nat.reduceAdd, reduceCtorEq, h2, h6, h7, h9, h10, h11, h12, ld_box (hs7 _ _ hb24), a1, ld_mono hs27 a2, a3.len, Int.lt_irrefl]
      rw [wrapN1 (by omega)]
      refine ⟨by trivial, by trivial, by trivial, by trivial, by rw [hn']; rfl, hs7, ?_⟩
      have : labs es R Z (k+1) = labs es R Z k ++ [ek.lb] := by unfold labs; rw [List.range_succ, List.map_append, List.map_cons, hl']; rfl
      rw [this]; exact hown
  · rintro env H6 ⟨h2, h6, h7, h10, h9, hs6, hown⟩
    have p0 := sh.pos 0 (by omega)
    obtain ⟨p1, p2, p3, x1, x2, x3, x4, _⟩ := rest_at hs6 0 0 (by omega) (by unfold width; rw [getD_eq (by omega)]; omega)
    have x1' : iaV 1 (.sl N 0 (es.length + 1) true) (.int .i64 0) = some p1 := x1
    have x3' : iaV 1 p3 (.int .i64 0) = some p2 := x3
    simp only [go_sem, ↓reduceIte, Nat.reduceEqDiff, Nat.reduceAdd, reduceCtorEq, h2, h7, h10, ld_box (hs6 _ _ hb24), SLists.len he, Int.lt_irrefl, x1', x2, x3', x4]
    refine finO_self ⟨hs02.trans' (hs24.trans' hs6), env 8, rfl, ?_⟩
    obtain ⟨n, f, hu, hn, _⟩ := hown
    rw [hu]
    exact ⟨by rw [ints_len]; omega, by simp [labs]; omega, .inr ⟨n, 0, f, _, by rw [ints_len], hn, rfl, .inr (by rw [ints_len]; omega), fun j hj => by simp⟩⟩
end Go.AM
