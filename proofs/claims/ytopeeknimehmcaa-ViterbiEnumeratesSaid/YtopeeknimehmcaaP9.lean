/- viterbi.along. Conditions: none. -/
import Derived.Test.YtopeeknimehmcaaP8
set_option linter.unusedVariables false
set_option linter.unusedSimpArgs false
namespace Go.AM
open Go Go.Proofs
attribute [local go_sem] c_skip c_ops c_seq c_ite c_blk c_exit c_ret t_normal t_exit t_ret b_normal b_exit b_ret i_nil i_cons s_guard s_mov s_pick s_new s_zero s_ld s_ldr s_st s_bin s_beq s_isnil s_eqs s_un s_conv s_fa s_fld s_ia s_sli s_ext s_ifc s_mkf s_agg s_len s_mm s_nilchk s_bsl s_mk s_app s_cpy s_call s_inv cells_agg cells_int cells_bool p_get p_none o_s o_c e_0 e_1 e_2 e_3 e_4 iteC_true iteC_false grd_tt grd_tf grd_ft grd_ff grd_und bindV_some pickV_t pickV_f beq_bool conv_int un_not not_dec mm_min mm_max bv_add bv_sub bv_mul bv_eql bv_neq bv_lss bv_leq bv_gtr bv_geq f_normal f_one f_two f_three f_none fa_ptr fld_one ext_tup len_sl len_nils decide_true decide_false not_true_eq_false not_false_eq_true List.map_cons List.map_nil List.append_nil List.cons_append List.nil_append Nat.zero_add Nat.add_zero Nat.mul_one Nat.succ_ne_self if_true if_false List.getElem?_cons_zero List.getElem?_cons_succ

/-- viterbi.along -/
def F42 : AF := ⟨90, [(4, none), (5, none)], (.seq (.ops [⟨none, false, (some 2), (.new (.s 0))⟩, ⟨none, false, (some 3), (.new (.s 1))⟩, ⟨none, false, (some 4), (.mov (.c .nils))⟩, ⟨none, false, (some 5), (.mov (.c (.int .i64 (0))))⟩]) (.seq (.ops [⟨none, false, (some 15), (.ld true 2 (.s 2) none)⟩, ⟨none, false, (some 16), (.mkf 78 [(.s 3)])⟩, ⟨none, false, (some 17), (.call (.c (.fn 77 [])) [(.s 15), (.s 16)])⟩, ⟨none, false, (some 6), (.mov (.s 17))⟩]) (.seq (.ops [⟨none, false, (some 19), (.agg [] [])⟩, ⟨none, false, (some 20), (.ld true 2 (.s 2) none)⟩, ⟨none, false, (some 21), (.mov (.s 6))⟩, ⟨none, false, (some 22), (.call (.c (.fn 79 [])) [(.s 19), (.s 20), (.s 21)])⟩, ⟨none, false, (some 18), (.mov (.s 22))⟩, ⟨none, false, (some 23), (.ext (.s 18) 0)⟩, ⟨none, false, (some 24), (.ext (.s 18) 1)⟩, ⟨none, false, (some 7), (.mov (.s 23))⟩, ⟨none, false, (some 8), (.mov (.s 24))⟩]) (.seq (.ops [⟨none, false, (some 25), (.fa 1 (.s 2))⟩, ⟨none, false, (some 26), (.ld false 1 (.s 25) none)⟩, ⟨none, false, (some 27), (.len (.s 26))⟩, ⟨none, false, (some 28), (.mk 1 8 [(.int .i64 (0))] (.s 27) (.s 27))⟩, ⟨none, false, (some 9), (.mov (.s 28))⟩]) (.seq (.ops [⟨none, false, (some 10), (.mov (.c (.int .i64 (0))))⟩]) (.seq (.seq (.ops [⟨none, false, (some 29), (.fa 1 (.s 2))⟩, ⟨none, false, (some 30), (.ld false 1 (.s 29) none)⟩, ⟨none, false, (some 31), (.len (.s 30))⟩, ⟨none, false, (some 32), (.mov (.c (.int .i64 (0))))⟩]) (.blk 0 (.loop (.seq (.ops [⟨none, false, (some 33), (.bin .lss (.s 32) (.s 31))⟩]) (.seq (.ite (.s 33) .skip (.exit 0)) (.seq (.blk 1 (.seq (.ops [⟨none, false, (some 34), (.mov (.s 32))⟩, ⟨none, false, (some 35), (.ia 1 (.s 30) (.s 32))⟩, ⟨none, false, (some 36), (.ld false 1 (.s 35) none)⟩, ⟨none, false, (some 11), (.mov (.s 34))⟩, ⟨none, false, (some 12), (.mov (.s 36))⟩]) (.seq (.ops [⟨none, false, (some 37), (.mov (.s 12))⟩, ⟨none, false, (some 38), (.len (.s 37))⟩, ⟨none, false, (some 39), (.mov (.c (.int .i64 (0))))⟩]) (.blk 2 (.loop (.seq (.ops [⟨none, false, (some 40), (.bin .lss (.s 39) (.s 38))⟩]) (.seq (.ite (.s 40) .skip (.exit 2)) (.seq (.blk 3 (.seq (.ops [⟨none, false, (some 41), (.mov (.s 39))⟩, ⟨none, false, (some 42), (.ia 3 (.s 37) (.s 39))⟩, ⟨none, false, (some 43), (.ld true 3 (.s 42) none)⟩, ⟨none, false, (some 14), (.zero [(.int .i64 (0)), (.int .i64 (0)), (.int .i64 (0))])⟩, ⟨none, false, (some 13), (.mov (.s 41))⟩, ⟨none, false, none, (.st 3 (.s 14) (.s 43) [])⟩]) (.seq (.ops [⟨none, false, (some 44), (.fa 0 (.s 14))⟩, ⟨none, false, (some 46), (.mov (.s 10))⟩, ⟨none, false, (some 45), (.ld false 1 (.s 44) none)⟩, ⟨none, false, (some 47), (.bin .eql (.s 45) (.s 46))⟩, ⟨none, false, (some 48), (.mov (.s 47))⟩, ⟨(some (48, true)), false, (some 49), (.mov (.s 6))⟩, ⟨(some (48, true)), false, (some 50), (.mov (.s 11))⟩, ⟨(some (48, true)), false, (some 51), (.ia 1 (.s 49) (.s 50))⟩, ⟨(some (48, true)), false, (some 53), (.mov (.s 13))⟩, ⟨(some (48, true)), false, (some 56), (.mov (.s 7))⟩, ⟨(some (48, true)), false, (some 57), (.mov (.s 11))⟩, ⟨(some (48, true)), false, (some 58), (.bin .add (.s 57) (.c (.int .i64 (1))))⟩, ⟨(some (48, true)), false, (some 59), (.ia 1 (.s 56) (.s 58))⟩, ⟨(some (48, true)), false, (some 61), (.fa 2 (.s 14))⟩, ⟨(some (48, true)), false, (some 66), (.mov (.s 7))⟩, ⟨(some (48, true)), false, (some 67), (.mov (.s 11))⟩, ⟨(some (48, true)), false, (some 68), (.ia 1 (.s 66) (.s 67))⟩, ⟨(some (48, true)), false, (some 70), (.mov (.s 10))⟩, ⟨(some (48, true)), false, (some 52), (.ld false 1 (.s 51) none)⟩, ⟨(some (48, true)), false, (some 54), (.ia 1 (.s 52) (.s 53))⟩, ⟨(some (48, true)), false, (some 55), (.ld false 1 (.s 54) none)⟩, ⟨(some (48, true)), false, (some 60), (.ld false 1 (.s 59) none)⟩, ⟨(some (48, true)), false, (some 62), (.ld false 1 (.s 61) none)⟩, ⟨(some (48, true)), false, (some 63), (.ia 1 (.s 60) (.s 62))⟩, ⟨(some (48, true)), false, (some 64), (.ld false 1 (.s 63) none)⟩, ⟨(some (48, true)), false, (some 65), (.bin .add (.s 55) (.s 64))⟩, ⟨(some (48, true)), false, (some 69), (.ld false 1 (.s 68) none)⟩, ⟨(some (48, true)), false, (some 71), (.ia 1 (.s 69) (.s 70))⟩, ⟨(some (48, true)), false, (some 72), (.ld false 1 (.s 71) none)⟩, ⟨(some (48, true)), false, (some 73), (.bin .eql (.s 65) (.s 72))⟩, ⟨none, false, (some 74), (.pick (.s 48) (.s 73) (.c (.bool false)))⟩]) (.ite (.s 74) (.seq (.ops [⟨none, false, (some 75), (.mov (.s 9))⟩, ⟨none, false, (some 76), (.mov (.s 11))⟩, ⟨none, false, (some 77), (.fa 1 (.s 14))⟩, ⟨none, false, (some 79), (.fa 2 (.s 14))⟩, ⟨none, false, (some 78), (.ld false 1 (.s 77) none)⟩, ⟨none, false, (some 81), (.ia 1 (.s 75) (.s 76))⟩, ⟨none, false, (some 80), (.ld false 1 (.s 79) (some 14))⟩, ⟨none, false, none, (.st 1 (.s 81) (.s 78) [14])⟩, ⟨none, false, (some 10), (.mov (.s 80))⟩]) (.exit 2)) .skip)))) (.ops [⟨none, false, (some 82), (.bin .add (.s 39) (.c (.int .i64 (1))))⟩, ⟨none, false, (some 39), (.mov (.s 82))⟩]))))))))) (.ops [⟨none, false, (some 83), (.bin .add (.s 32) (.c (.int .i64 (1))))⟩, ⟨none, false, (some 32), (.mov (.s 83))⟩]))))))) (.seq (.ops [⟨none, false, (some 84), (.mov (.s 9))⟩, ⟨none, false, (some 85), (.mov (.s 7))⟩, ⟨none, false, (some 86), (.ia 1 (.s 85) (.c (.int .i64 (0))))⟩, ⟨none, false, (some 4), (.mov (.s 84))⟩, ⟨none, false, (some 87), (.ld false 1 (.s 86) none)⟩, ⟨none, false, (some 88), (.ia 1 (.s 87) (.c (.int .i64 (0))))⟩, ⟨none, false, (some 89), (.ld false 1 (.s 88) none)⟩, ⟨none, false, (some 5), (.mov (.s 89))⟩]) .ret)))))))⟩
theorem cv42 : cvF Try.prog 42 = some F42 := by kernel_rfl

/-- viterbi.priced -/
def F41 : AF := ⟨27, [(2, none)], (.seq (.ops [⟨none, false, (some 2), (.mov (.c (.int .i64 (0))))⟩]) (.seq (.seq (.ops [⟨none, false, (some 7), (.mov (.s 0))⟩, ⟨none, false, (some 8), (.len (.s 7))⟩, ⟨none, false, (some 9), (.mov (.c (.int .i64 (0))))⟩]) (.blk 0 (.loop (.seq (.ops [⟨none, false, (some 10), (.bin .lss (.s 9) (.s 8))⟩]) (.seq (.ite (.s 10) .skip (.exit 0)) (.seq (.blk 1 (.seq (.ops [⟨none, false, (some 11), (.ia 1 (.s 7) (.s 9))⟩, ⟨none, false, (some 12), (.ld false 1 (.s 11) none)⟩, ⟨none, false, (some 4), (.mov (.s 12))⟩]) (.seq (.ops [⟨none, false, (some 13), (.mov (.s 4))⟩, ⟨none, false, (some 14), (.len (.s 13))⟩, ⟨none, false, (some 15), (.mov (.c (.int .i64 (0))))⟩]) (.blk 2 (.loop (.seq (.ops [⟨none, false, (some 16), (.bin .lss (.s 15) (.s 14))⟩]) (.seq (.ite (.s 16) .skip (.exit 2)) (.seq (.blk 3 (.seq (.ops [⟨none, false, (some 17), (.ia 1 (.s 13) (.s 15))⟩, ⟨none, false, (some 18), (.ld false 1 (.s 17) none)⟩, ⟨none, false, (some 6), (.mov (.s 18))⟩]) (.seq (.ops [⟨none, false, (some 19), (.mov (.s 6))⟩, ⟨none, false, (some 20), (.bin .lss (.s 19) (.c (.int .i64 (0))))⟩, ⟨none, false, (some 21), (.mov (.s 20))⟩, ⟨(some (21, false)), false, (some 22), (.mov (.s 6))⟩, ⟨(some (21, false)), false, (some 23), (.bin .gtr (.s 22) (.c (.int .i64 (2147483648))))⟩, ⟨none, false, (some 24), (.pick (.s 21) (.c (.bool true)) (.s 23))⟩]) (.ite (.s 24) (.seq (.ops [⟨none, false, (some 2), (.mov (.c (.int .i64 (6))))⟩]) .ret) .skip)))) (.ops [⟨none, false, (some 25), (.bin .add (.s 15) (.c (.int .i64 (1))))⟩, ⟨none, false, (some 15), (.mov (.s 25))⟩]))))))))) (.ops [⟨none, false, (some 26), (.bin .add (.s 9) (.c (.int .i64 (1))))⟩, ⟨none, false, (some 9), (.mov (.s 26))⟩]))))))) (.seq (.ops [⟨none, false, (some 2), (.mov (.c (.int .i64 (0))))⟩]) .ret)))⟩
theorem cv41 : cvF Try.prog 41 = some F41 := by kernel_rfl


theorem mpAdd_range (a b : Int) : 0 ≤ mpAdd a b ∧ mpAdd a b ≤ Inf := by
  unfold mpAdd; have := costI_range a; have := costI_range b; split <;> omega
theorem mpMul_range (a b : Int) : 0 ≤ mpMul a b ∧ mpMul a b ≤ Inf := by
  unfold mpMul; have := costI_range a; have := costI_range b; unfold Inf at *; split <;> omega
def InR (l : List Int) : Prop := ∀ x ∈ l, 0 ≤ x ∧ x ≤ Inf
theorem InR_rep (n : Nat) : InR (List.replicate n Inf) := fun x hx => by rw [(List.mem_replicate.1 hx).2]; unfold Inf; omega
theorem InR_set {l : List Int} (h : InR l) (i : Nat) {v : Int} (hv : 0 ≤ v ∧ v ≤ Inf) : InR (l.set i v) := fun x hx => by
  rcases List.mem_or_eq_of_mem_set hx with hx | rfl
  · exact h x hx
  · exact hv
theorem InR_fold (nx : List Int) (z : Int → Int) (l : List Ed) {row : List Int} (h : InR row) : InR (foldB nx z l row) := by
  unfold foldB
  induction l generalizing row with
  | nil => exact h
  | cons e r ih => exact ih (InR_set h _ (mpAdd_range _ _))
theorem InR_bRow (ws : List Int) (es : List (List Ed)) (z : Nat → Int → Int) (m : Nat) : InR (bRow ws es z m) := by
  cases m with
  | zero => exact InR_set (InR_rep _) _ (by unfold Inf; omega)
  | succ m => exact InR_fold _ _ _ (InR_rep _)
theorem bTab_len (ws : List Int) (es : List (List Ed)) (z : Nat → Int → Int) : (bTab ws es z).length = es.length + 1 := by simp [bTab]
theorem bTab_get {ws : List Int} {es : List (List Ed)} {z : Nat → Int → Int} {r : Nat} (h : r < es.length + 1) : (bTab ws es z)[r]'(by rw [bTab_len]; exact h) = bRow ws es z (es.length - r) := by simp [bTab]
theorem bTab_width {ws : List Int} {es : List (List Ed)} {z : Nat → Int → Int} {r : Nat} (h : r < es.length + 1) : (bRow ws es z (es.length - r)).length = width ws r := by
  rw [bRow_len _ (by omega)]; congr 1; omega

theorem find_take {α : Type} {p : α → Bool} {l : List α} {k : Nat} {x : α} (h : (l.take k).find? p = some x) : l.find? p = some x := by
  have := List.find?_append (xs := l.take k) (ys := l.drop k) (p := p)
  rw [List.take_append_drop, h] at this
  exact this
/-- the edge that the path takes -/
def pickE (rest : List (List Int)) (z : Nat → Int → Int) (i : Nat) (l : List Ed) (v : Int) : Option Ed :=
  l.find? fun e => decide (e.fr = v) && decide (z i e.lb + at2 rest (i+1) e.to = at2 rest i v)
def nodeAt (es : List (List Ed)) (rest : List (List Int)) (z : Nat → Int → Int) : Nat → Int
  | 0 => 0
  | i+1 => match pickE rest z i (es[i]?.getD []) (nodeAt es rest z i) with | some e => e.to | none => nodeAt es rest z i
def labAt (es : List (List Ed)) (rest : List (List Int)) (z : Nat → Int → Int) (i : Nat) : Int :=
  match pickE rest z i (es[i]?.getD []) (nodeAt es rest z i) with | some e => e.lb | none => 0
def wordUpTo (es : List (List Ed)) (rest : List (List Int)) (z : Nat → Int → Int) (n i : Nat) : List Int := (List.range n).map fun r => if r < i then labAt es rest z r else 0
theorem word_len (es : List (List Ed)) (rest : List (List Int)) (z : Nat → Int → Int) (n i : Nat) : (wordUpTo es rest z n i).length = n := by simp [wordUpTo]
theorem word_step (es : List (List Ed)) (rest : List (List Int)) (z : Nat → Int → Int) {n i : Nat} (h : i < n) : (wordUpTo es rest z n i).set i (labAt es rest z i) = wordUpTo es rest z n (i+1) := by
  apply List.ext_getElem
  · simp [wordUpTo]
  · intro r h1 h2
    by_cases e : i = r
    · subst e; simp [wordUpTo]
    · rw [List.getElem_set_ne e]
      simp only [wordUpTo, List.getElem_map, List.getElem_range]
      by_cases h3 : r < i
      · rw [if_pos h3, if_pos (by omega)]
      · rw [if_neg h3, if_neg (by omega)]
theorem word_same (es : List (List Ed)) (rest : List (List Int)) (z : Nat → Int → Int) {n i : Nat} (h : labAt es rest z i = 0) : wordUpTo es rest z n i = wordUpTo es rest z n (i+1) := by
  unfold wordUpTo
  apply List.map_congr_left
  intro r hr
  by_cases h3 : r < i
  · rw [if_pos h3, if_pos (by omega)]
  · by_cases e : r = i
    · subst e; rw [if_neg (Nat.lt_irrefl _), if_pos (by omega), h]
    · rw [if_neg h3, if_neg (by omega)]
theorem word_zero (es : List (List Ed)) (rest : List (List Int)) (z : Nat → Int → Int) (n : Nat) : ints (wordUpTo es rest z n 0) = List.replicate n (.int .i64 0) := by
  apply List.ext_getElem?
  intro i
  by_cases h : i < n <;> simp [ints, wordUpTo, h]
theorem at2_get {c : List (List Int)} {i a : Nat} (h : i < c.length) (h' : a < c[i].length) : at2 c i a = c[i][a] := by simp [at2, h, h']

theorem along_spec {sv ev cv : V} {ws : List Int} {es : List (List Ed)} {costs : List (List Int)} {H : Heap} (hs : SInts H sv ws) (he : SSecs H ev es) (h0 : shapeI ws es = 0) (hc : SRows H cv costs)
    (hl : costs.length = es.length) (hlab : ∀ i, (h : i < es.length) → ∀ e ∈ es[i], 0 ≤ e.lb ∧ e.lb < (costs[i]'(by omega)).length) (hz : ∀ l ∈ costs, ∀ x ∈ l, 0 ≤ x ∧ x ≤ 2147483648) :
    ACalls Try.prog 42 [.agg [sv, ev], cv] H fun u H' => Heap.sub H H' ∧ ∃ m, u = .tup [.sl m 0 es.length true, .int .i64 (at2 (bTab ws es (at2 costs)) 0 0)] ∧ H' m = some ⟨true, 1, ints (wordUpTo es (bTab ws es (at2 costs)) (at2 costs) es.length es.length)⟩ := by
  refine ACalls.of_body hm cv42 (by simp only [List.length_cons, List.length_nil]; decide) ?_
  have sh := shaped_of h0
  have hn := sh.n
  have e2 := sh.len
  simp only [F42, go_sem, ↓reduceIte, Nat.reduceEqDiff, Nat.reduceAdd, reduceCtorEq]
  refine newC_intro fun b2 H1 hn1 hs1 hb2 => ?_
  simp only [go_sem, ↓reduceIte, Nat.reduceEqDiff, Nat.reduceAdd, reduceCtorEq]
  refine newC_intro fun b3 H2 hn2 hs2 hb3 => ?_
  have hs02 := hs1.trans' hs2
  have hb2' := hs2 _ _ hb2
  have hcv : V.cells cv = [cv] := by
    obtain ⟨vs, hsl, _⟩ := hc
    obtain ⟨_, _, ⟨rfl, _⟩ | ⟨n, o, f, b, rfl, _⟩⟩ := hsl <;> rfl
  rw [hcv] at hb3
  simp only [go_sem, ↓reduceIte, Nat.reduceEqDiff, Nat.reduceAdd, reduceCtorEq, ld_boxa hb2' (show 0 + 2 ≤ _ by simp), fillV, List.length_cons, List.length_nil, splice, Nat.reduceLeDiff, Nat.zero_lt_one, and_self, List.take_zero, List.take_succ_cons, List.drop_succ_cons, List.drop_zero, List.drop_nil, Nat.reduceLT, Nat.le_refl]
  refine callC_grow (vvalued_spec (z := fun i a => .int .i64 (at2 costs i a)) (SSecs.mono he hs02) sh (fun _ _ _ _ => rfl) fun i j h h' H' hs' => ?_) ?_
  · have := hlab i h _ (List.getElem_mem h')
    exact closure_spec (hs' _ _ hb3) (SRows.mono hc (hs02.trans' hs')) (by omega) this.1 (by exact this.2)
  rintro u H3 hs3 ⟨Nv, uv, rfl, tabv⟩
  have hvl : ∀ xs ∈ vtab es (fun i a => V.int .i64 (at2 costs i a)), xs.length ≤ 281474976710656 := by
    intro xs hx
    obtain ⟨i, hi, rfl⟩ := List.getElem_of_mem hx
    rw [vtab_len] at hi
    rw [vtab_get hi, List.length_map]
    have := sh.each i hi; omega
  have hvr := tabv.rows (g := true) (n := es.length) (vtab_len _ _).symm (by omega) hvl
  simp only [go_sem, ↓reduceIte, Nat.reduceEqDiff, Nat.reduceAdd, reduceCtorEq, ld_boxa (hs3 _ _ hb2') (show 0 + 2 ≤ _ by simp), fillV, List.length_cons, List.length_nil, splice, Nat.reduceLeDiff, Nat.zero_lt_one, and_self, List.take_zero, List.take_succ_cons, List.drop_succ_cons, List.drop_zero, List.drop_nil, Nat.reduceLT, Nat.le_refl, Option.map_some]
  refine callC_grow (Backward_spec (hs.mono (hs02.trans' hs3)) (SSecs.mono he (hs02.trans' hs3)) h0 hvr) ?_
  rintro u H4 hs4 ⟨N, us, rfl, tab⟩
  have hs24 := hs3.trans' hs4
  have hrl : ∀ xs ∈ (bTab ws es (at2 costs)).map ints, xs.length ≤ 281474976710656 := by
    intro xs hx
    obtain ⟨i, hi, rfl⟩ := List.getElem_of_mem hx
    rw [List.length_map, bTab_len] at hi
    rw [List.getElem_map, ints_len, bTab_get hi, bTab_width hi]
    have := sh.pos i (by omega)
    unfold width; rw [getD_eq (by omega)]; omega
  have hrr := tab.rows (g := true) (n := es.length + 1) (by simp [bTab_len]) (by omega) hrl
  have hvr4 := hvr.mono hs4
  have hb24 := hs24 _ _ hb2'
  simp only [go_sem, ↓reduceIte, Nat.reduceEqDiff, Nat.reduceAdd, reduceCtorEq, ld_box hb24, SLists.len he]
  refine mkC_intro (Nat.le_refl _) (by omega) (by omega) fun m H5 hm hs5 hbm => ?_
  rw [flat_rep, ← word_zero es (bTab ws es (at2 costs)) (at2 costs)] at hbm
  simp only [go_sem, ↓reduceIte, Nat.reduceEqDiff, Nat.reduceAdd, reduceCtorEq, ld_box (hs5 _ _ hb24), SLists.len he, beq_self_eq_true]
  -- what the tables hold
  have rest_at : ∀ {H' : Heap}, Heap.sub H4 H' → ∀ i a : Nat, i < es.length + 1 → a < width ws i → ∃ p q u, iaV 1 (.sl N 0 (es.length + 1) true) (.int .i64 i) = some p ∧ ldV H' false 1 p = some u ∧ iaV 1 u (.int .i64 a) = some q ∧ ldV H' false 1 q = some (.int .i64 (at2 (bTab ws es (at2 costs)) i a)) ∧ 0 ≤ at2 (bTab ws es (at2 costs)) i a ∧ at2 (bTab ws es (at2 costs)) i a ≤ Inf := by
    intro H' hs' i a hi ha
    obtain ⟨p, u, x1, x2, x3⟩ := (SRowsV.mono hrr hs').get (k := i) (by simp [bTab_len]; omega) .i64
    rw [List.getElem_map, bTab_get hi] at x3
    obtain ⟨q, y1, y2⟩ := x3.get (k := a) (by rw [ints_len, bTab_width hi]; exact ha) .i64
    have e : at2 (bTab ws es (at2 costs)) i a = (bRow ws es (at2 costs) (es.length - i))[a]'(by rw [bTab_width hi]; exact ha) := by
      rw [at2_get (by rw [bTab_len]; exact hi) (by rw [bTab_get hi, bTab_width hi]; exact ha)]
      simp [bTab]
    refine ⟨p, q, u, x1, x2, y1, ?_, ?_⟩
    · rw [y2, e]; simp [ints]
    · rw [e]; exact InR_bRow _ _ _ _ _ (List.getElem_mem _)
  refine range_loop es.length (fun k env H' => env 2 = .ptr b2 0 ∧ env 6 = .sl Nv 0 es.length true ∧ env 7 = .sl N 0 (es.length + 1) true ∧ env 9 = .sl m 0 es.length true ∧ env 30 = ev ∧ env 31 = .int .i64 es.length ∧ env 32 = .int .i64 k ∧ env 10 = .int .i64 (nodeAt es (bTab ws es (at2 costs)) (at2 costs) k) ∧
      Heap.sub H4 H' ∧ H' m = some ⟨true, 1, ints (wordUpTo es (bTab ws es (at2 costs)) (at2 costs) es.length k)⟩) (by omega) (by decide) (by decide) ?_ ?_ ?_ ?_
  · rintro k env H' ⟨_, _, _, _, _, h7, h8, _⟩; exact ⟨h8, h7⟩
  · simp only [go_sem, ↓reduceIte, Nat.reduceEqDiff, Nat.reduceAdd, reduceCtorEq]
    exact ⟨by trivial, by trivial, by trivial, by trivial, by trivial, by trivial, by trivial, by trivial, hs5, hbm⟩
  · rintro k env H6 hk ⟨h2, h6, h7, h9, h30, h31, h32, h10, hs6, hbm6⟩
    obtain ⟨p, ue, a1, a2, a3⟩ := (SSecs.mono he hs02).get hk .i64
    have hs26 := hs24.trans' hs6
    have hlk := sh.each k hk
    simp only [go_sem, ↓reduceIte, Nat.reduceEqDiff, Nat.reduceAdd, reduceCtorEq, h2, h6, h7, h9, h30, h31, h32, h10, a1, ld_mono hs26 a2, a3.len]
    refine range_loop es[k].length (fun j env H' => env 2 = .ptr b2 0 ∧ env 6 = .sl Nv 0 es.length true ∧ env 7 = .sl N 0 (es.length + 1) true ∧ env 9 = .sl m 0 es.length true ∧ env 30 = ev ∧ env 31 = .int .i64 es.length ∧ env 32 = .int .i64 k ∧ env 11 = .int .i64 k ∧ env 37 = ue ∧ env 38 = .int .i64 es[k].length ∧ env 39 = .int .i64 j ∧ env 10 = .int .i64 (nodeAt es (bTab ws es (at2 costs)) (at2 costs) k) ∧
      Heap.sub H4 H' ∧ H' m = some ⟨true, 1, ints (wordUpTo es (bTab ws es (at2 costs)) (at2 costs) es.length k)⟩ ∧ pickE (bTab ws es (at2 costs)) (at2 costs) k (es[k].take j) (nodeAt es (bTab ws es (at2 costs)) (at2 costs) k) = none) (by omega) (by decide) (by decide) ?_ ?_ ?_ ?_
    · rintro j env H' ⟨_, _, _, _, _, _, _, _, _, h7, h8, _⟩; exact ⟨h8, h7⟩
    · simp only [go_sem, ↓reduceIte, Nat.reduceEqDiff, Nat.reduceAdd, reduceCtorEq, h2, h6, h7, h9, h30, h31, h32, h10]
      exact ⟨by trivial, by trivial, by trivial, by trivial, by trivial, by trivial, by trivial, by trivial, by trivial, by trivial, by trivial, by trivial, hs6, hbm6, rfl⟩
    · rintro j env H7 hj ⟨h2, h6, h7, h9, h30, h31, h32, h11, h37, h38, h39, h10, hs7, hbm7, hnone⟩
      have hs27 := hs24.trans' hs7
      obtain ⟨p, q0, q1, q2, c1, c2, _⟩ := (a3.mono hs27).get hj .i64
      simp only [go_sem, ↓reduceIte, Nat.reduceEqDiff, Nat.reduceAdd, reduceCtorEq, h2, h6, h7, h9, h30, h31, h32, h10, h11, h37, h38, h39, c1, c2]
      refine newC_intro fun n4 H8 hn4 hs8 hb8 => ?_
      simp only [go_sem, ↓reduceIte, Nat.reduceEqDiff, Nat.reduceAdd, reduceCtorEq, h39]
      refine stC_intro hb8 trivial rfl (by decide) (by decide) fun H9 hb9 hf9 hs9 => ?_
      simp only [Ed.cells, fillV, List.length_cons, List.length_nil, splice, Nat.reduceLeDiff, Nat.zero_lt_one, and_self, List.take_zero, List.take_succ_cons, List.drop_succ_cons, List.drop_zero, List.drop_nil, Nat.reduceLT, Nat.le_refl, go_sem, ↓reduceIte, Nat.reduceEqDiff, Nat.reduceAdd, reduceCtorEq] at hb9
      have hs79 : Heap.sub H7 H9 := hs9 H7 hs8 hn4
      have hs49 := hs7.trans' hs79
      have hmn : m ≠ n4 := name_ne hbm7 hn4
      have hbm9 := hs79 _ _ hbm7
      simp only [go_sem, ↓reduceIte, Nat.reduceEqDiff, Nat.reduceAdd, reduceCtorEq, h2, h6, h7, h9, h30, h31, h32, h10, h11, h37, h38, h39, ld_box hb9]
      have hsnoc : ∀ b : Bool, (decide (es[k][j].fr = nodeAt es (bTab ws es (at2 costs)) (at2 costs) k) && decide (at2 costs k es[k][j].lb + at2 (bTab ws es (at2 costs)) (k+1) es[k][j].to = at2 (bTab ws es (at2 costs)) k (nodeAt es (bTab ws es (at2 costs)) (at2 costs) k))) = b →
          pickE (bTab ws es (at2 costs)) (at2 costs) k (es[k].take (j+1)) (nodeAt es (bTab ws es (at2 costs)) (at2 costs) k) = if b then some es[k][j] else none := by
        intro b hb
        unfold pickE at hnone ⊢
        rw [List.take_add_one, List.getElem?_eq_getElem hj, List.find?_append, hnone]
        cases b <;> simp [hb]
      by_cases d1 : es[k][j].fr = nodeAt es (bTab ws es (at2 costs)) (at2 costs) k
      case neg =>
        simp only [d1, go_sem, ↓reduceIte, Nat.reduceEqDiff, Nat.reduceAdd, reduceCtorEq, h2, h6, h7, h9, h30, h31, h32, h10, h11, h37, h38, h39]
        exact ⟨by trivial, by trivial, by trivial, by trivial, by trivial, by trivial, by trivial, by trivial, by trivial, by trivial, by trivial, by trivial, by trivial, hs49, hbm9, hsnoc false (by simp [d1])⟩
      have gd := sh.good k hk _ (List.getElem_mem hj)
      rw [getD_eq (by omega), getD_eq (by omega)] at gd
      have gi := getD_eq (xs := ws) (k := k) (by omega)
      have gi1 := getD_eq (xs := ws) (k := k+1) (by omega)
      obtain ⟨fr, hfr⟩ : ∃ n : Nat, es[k][j].fr = n := ⟨es[k][j].fr.toNat, by omega⟩
      obtain ⟨to, hto⟩ : ∃ n : Nat, es[k][j].to = n := ⟨es[k][j].to.toNat, by omega⟩
      have hnode : nodeAt es (bTab ws es (at2 costs)) (at2 costs) k = fr := by rw [← d1, hfr]
      obtain ⟨p1, p2, p3, x1, x2, x3, x4, x5, x6⟩ := rest_at hs49 k fr (by omega) (by unfold width; rw [gi]; omega)
      obtain ⟨r1, r2, r3, y1, y2, y3, y4, y5, y6⟩ := rest_at hs49 (k+1) to (by omega) (by unfold width; rw [gi1]; omega)
      obtain ⟨pv, uv, v1, v2, v3⟩ := (SRowsV.mono hvr4 hs49).get (k := k) (by rw [vtab_len]; exact hk) .i64
      rw [vtab_get hk] at v3
      obtain ⟨pz, z1, z2⟩ := v3.get (k := j) (by simpa using hj) .i64
      rw [List.getElem_map] at z2
      have hlb := hlab k hk _ (List.getElem_mem hj)
      have hzr : 0 ≤ at2 costs k es[k][j].lb ∧ at2 costs k es[k][j].lb ≤ 2147483648 := by
        obtain ⟨lb, hlb'⟩ : ∃ n : Nat, es[k][j].lb = n := ⟨es[k][j].lb.toNat, by omega⟩
        rw [hlb', at2_get (by omega) (by omega)]
        exact hz _ (List.getElem_mem _) _ (List.getElem_mem _)
      have hw1 : IntKind.i64.wrap ((k : Int) + 1) = ((k + 1 : Nat) : Int) := wrapN1 (by omega)
      unfold Inf at y6 x6
      simp (disch := omega) only [d1, go_sem, ↓reduceIte, Nat.reduceEqDiff, Nat.reduceAdd, reduceCtorEq, h2, h6, h7, h9, h30, h31, h32, h10, h11, h37, h38, h39, hw1, hnode, hto, v1, v2, x1, x2, x3, x4, y1, y2, y3, y4, z1, z2, ld_box hb9, wrapI]
      have hval : at2 (bTab ws es (at2 costs)) (k+1) (to : Int) = at2 (bTab ws es (at2 costs)) (k+1) es[k][j].to := by rw [hto]
      refine iteC_if (fun d2 => ?_) (fun d2 => ?_)
      · have hp := hsnoc true (by simp only [d1, hnode, hto, d2, decide_true, Bool.and_self])
        have hpick : pickE (bTab ws es (at2 costs)) (at2 costs) k es[k] (nodeAt es (bTab ws es (at2 costs)) (at2 costs) k) = some es[k][j] := by
          exact find_take hp
        have hl' : labAt es (bTab ws es (at2 costs)) (at2 costs) k = es[k][j].lb := by unfold labAt; simp only [hk, List.getElem?_eq_getElem, Option.getD_some, hpick]
        have hn' : nodeAt es (bTab ws es (at2 costs)) (at2 costs) (k+1) = es[k][j].to := by rw [nodeAt]; simp only [hk, List.getElem?_eq_getElem, Option.getD_some, hpick]
        simp only [go_sem, ↓reduceIte, Nat.reduceEqDiff, Nat.reduceAdd, reduceCtorEq, h2, h6, h7, h9, h30, h31, h32, h10, h11, h37, h38, h39, ld_box hb9, ia_nat hk, sameName, beq_self_eq_true, true_and]
        refine stC_intro hbm9 ⟨by simp only [go_sem, ↓reduceIte, Nat.reduceEqDiff, Nat.reduceAdd, reduceCtorEq]; exact hmn.symm, trivial⟩ rfl (by decide) (by show k + 1 ≤ _; rw [ints_len, word_len]; omega) fun Ha hba hfa hsa => ?_
        rw [cells_int, splice_one _ _ _ (by rw [ints_len, word_len]; omega), ints_set, ← hl', word_step _ _ _ hk] at hba
        simp only [go_sem, ↓reduceIte, Nat.reduceEqDiff, Nat.reduceAdd, reduceCtorEq, h2, h6, h7, h9, h30, h31, h32]
        exact ⟨by trivial, by trivial, by trivial, by trivial, by trivial, by trivial, by trivial, by rw [hn'], hsa H4 hs49 hm, hba⟩
      · simp only [go_sem, ↓reduceIte, Nat.reduceEqDiff, Nat.reduceAdd, reduceCtorEq, h2, h6, h7, h9, h30, h31, h32, h10, h11, h37, h38, h39, hnode]
        exact ⟨by trivial, by trivial, by trivial, by trivial, by trivial, by trivial, by trivial, by trivial, by trivial, by trivial, by trivial, by trivial, by trivial, hs49, hbm9, by rw [← hnode]; exact hsnoc false (by simp only [d1, hnode, hto, d2, decide_false, Bool.and_false])⟩
    · rintro env H7 ⟨h2, h6, h7, h9, h30, h31, h32, h11, h37, h38, h39, h10, hs7, hbm7, hnone⟩
      rw [List.take_length] at hnone
      have hl' : labAt es (bTab ws es (at2 costs)) (at2 costs) k = 0 := by unfold labAt; simp only [hk, List.getElem?_eq_getElem, Option.getD_some, hnone]
      have hn' : nodeAt es (bTab ws es (at2 costs)) (at2 costs) (k+1) = nodeAt es (bTab ws es (at2 costs)) (at2 costs) k := by rw [nodeAt]; simp only [hk, List.getElem?_eq_getElem, Option.getD_some, hnone]
      simp only [go_sem, ↓reduceIte, Nat.reduceEqDiff, Nat.reduceAdd, reduceCtorEq, h2, h6, h7, h9, h30, h31, h32, h10]
      exact ⟨by trivial, by trivial, by trivial, by trivial, by trivial, by trivial, by trivial, by trivial, by rw [hn'], hs7, by rw [← word_same _ _ _ hl']; exact hbm7⟩
  · rintro env H6 ⟨h2, h6, h7, h9, h30, h31, h32, h10, hs6, hbm6⟩
    have p0 := sh.pos 0 (by omega)
    obtain ⟨p1, p2, p3, x1, x2, x3, x4, _⟩ := rest_at hs6 0 0 (by omega) (by unfold width; rw [getD_eq (by omega)]; omega)
    have x1' : iaV 1 (.sl N 0 (es.length + 1) true) (.int .i64 0) = some p1 := x1
    have x3' : iaV 1 p3 (.int .i64 0) = some p2 := x3
    simp only [go_sem, ↓reduceIte, Nat.reduceEqDiff, Nat.reduceAdd, reduceCtorEq, h7, h9, x1', x2, x3', x4]
    exact finO_self ⟨hs02.trans' (hs24.trans' hs6), m, rfl, hbm6⟩
end Go.AM
