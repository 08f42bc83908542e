/- semiring.Backward over MinPlus. Conditions: none. -/
import Derived.Test.YtopeeknimehmcaaP7
set_option linter.unusedVariables false
set_option linter.unusedSimpArgs false
namespace Go.AM
open Go Go.Proofs
attribute [local go_sem] c_skip c_ops c_seq c_ite c_blk c_exit c_ret t_normal t_exit t_ret b_normal b_exit b_ret i_nil i_cons s_guard s_mov s_pick s_new s_zero s_ld s_ldr s_st s_bin s_beq s_isnil s_eqs s_un s_conv s_fa s_fld s_ia s_sli s_ext s_ifc s_mkf s_agg s_len s_mm s_nilchk s_bsl s_mk s_app s_cpy s_call s_inv cells_agg cells_int cells_bool p_get p_none o_s o_c e_0 e_1 e_2 e_3 e_4 iteC_true iteC_false grd_tt grd_tf grd_ft grd_ff grd_und bindV_some pickV_t pickV_f beq_bool conv_int un_not not_dec mm_min mm_max bv_add bv_sub bv_mul bv_eql bv_neq bv_lss bv_leq bv_gtr bv_geq f_normal f_one f_two f_three f_none fa_ptr fld_one ext_tup len_sl len_nils decide_true decide_false not_true_eq_false not_false_eq_true List.map_cons List.map_nil List.append_nil List.cons_append List.nil_append Nat.zero_add Nat.add_zero Nat.mul_one Nat.succ_ne_self if_true if_false List.getElem?_cons_zero List.getElem?_cons_succ

/-- semiring.Backward[int,semiring.MinPlus] -/
def F79 : AF := ⟨90, [(6, none), (7, none)], (.seq (.ops [⟨none, false, (some 3), (.new (.s 0))⟩, ⟨none, false, (some 4), (.new (.s 1))⟩, ⟨none, false, (some 6), (.mov (.c .nils))⟩, ⟨none, false, (some 7), (.mov (.c (.int .i64 (0))))⟩]) (.seq (.seq (.ops [⟨none, false, (some 13), (.ld true 2 (.s 4) none)⟩, ⟨none, false, (some 14), (.mov (.s 2))⟩, ⟨none, false, (some 15), (.call (.c (.fn 101 [])) [(.s 13), (.s 14)])⟩, ⟨none, false, (some 8), (.mov (.s 15))⟩]) (.seq (.ops [⟨none, false, (some 16), (.mov (.s 8))⟩, ⟨none, false, (some 17), (.bin .neq (.s 16) (.c (.int .i64 (0))))⟩]) (.ite (.s 17) (.seq (.ops [⟨none, false, (some 18), (.mov (.s 8))⟩, ⟨none, false, (some 6), (.mov (.c .nils))⟩, ⟨none, false, (some 7), (.mov (.s 18))⟩]) .ret) .skip))) (.seq (.ops [⟨none, false, (some 19), (.ld true 0 (.s 3) none)⟩, ⟨none, false, (some 20), (.ld true 2 (.s 4) none)⟩, ⟨none, false, (some 21), (.call (.c (.fn 102 [])) [(.s 19), (.s 20)])⟩, ⟨none, false, (some 9), (.mov (.s 21))⟩]) (.seq (.ops [⟨none, false, (some 22), (.mov (.s 9))⟩, ⟨none, false, (some 23), (.fa 1 (.s 4))⟩, ⟨none, false, (some 24), (.ld false 1 (.s 23) none)⟩, ⟨none, false, (some 25), (.len (.s 24))⟩, ⟨none, false, (some 26), (.ia 1 (.s 22) (.s 25))⟩, ⟨none, false, (some 27), (.ld false 1 (.s 26) none)⟩, ⟨none, false, (some 28), (.ld true 0 (.s 3) none)⟩, ⟨none, false, (some 29), (.ifc 115 (.s 28))⟩, ⟨none, true, (some 30), (.inv (.s 29) 115 167 [])⟩, ⟨none, false, (some 31), (.ia 1 (.s 27) (.c (.int .i64 (0))))⟩, ⟨none, false, none, (.st 1 (.s 31) (.s 30) [])⟩]) (.seq (.seq (.ops [⟨none, false, (some 32), (.fa 1 (.s 4))⟩, ⟨none, false, (some 33), (.ld false 1 (.s 32) none)⟩, ⟨none, false, (some 34), (.len (.s 33))⟩, ⟨none, false, (some 35), (.bin .sub (.s 34) (.c (.int .i64 (1))))⟩, ⟨none, false, (some 10), (.mov (.s 35))⟩]) (.blk 0 (.loop (.seq (.seq (.ops [⟨none, false, (some 36), (.mov (.s 10))⟩, ⟨none, false, (some 37), (.bin .geq (.s 36) (.c (.int .i64 (0))))⟩]) (.ite (.s 37) .skip (.exit 0))) (.seq (.blk 1 (.seq (.ops [⟨none, false, (some 40), (.fa 1 (.s 4))⟩, ⟨none, false, (some 41), (.ld false 1 (.s 40) none)⟩, ⟨none, false, (some 42), (.mov (.s 10))⟩, ⟨none, false, (some 43), (.ia 1 (.s 41) (.s 42))⟩, ⟨none, false, (some 44), (.ld false 1 (.s 43) none)⟩, ⟨none, false, (some 45), (.len (.s 44))⟩, ⟨none, false, (some 46), (.mov (.c (.int .i64 (0))))⟩]) (.blk 2 (.loop (.seq (.ops [⟨none, false, (some 47), (.bin .lss (.s 46) (.s 45))⟩]) (.seq (.ite (.s 47) .skip (.exit 2)) (.seq (.blk 3 (.seq (.ops [⟨none, false, (some 48), (.mov (.s 46))⟩, ⟨none, false, (some 49), (.ia 3 (.s 44) (.s 46))⟩, ⟨none, false, (some 50), (.ld true 3 (.s 49) none)⟩, ⟨none, false, (some 12), (.zero [(.int .i64 (0)), (.int .i64 (0)), (.int .i64 (0))])⟩, ⟨none, false, (some 11), (.mov (.s 48))⟩, ⟨none, false, none, (.st 3 (.s 12) (.s 50) [])⟩]) (.ops [⟨none, false, (some 51), (.mov (.s 9))⟩, ⟨none, false, (some 52), (.mov (.s 10))⟩, ⟨none, false, (some 53), (.ia 1 (.s 51) (.s 52))⟩, ⟨none, false, (some 55), (.fa 0 (.s 12))⟩, ⟨none, false, (some 59), (.mov (.s 9))⟩, ⟨none, false, (some 60), (.mov (.s 10))⟩, ⟨none, false, (some 61), (.ia 1 (.s 59) (.s 60))⟩, ⟨none, false, (some 63), (.fa 0 (.s 12))⟩, ⟨none, false, (some 69), (.mov (.s 2))⟩, ⟨none, false, (some 70), (.mov (.s 10))⟩, ⟨none, false, (some 71), (.ia 1 (.s 69) (.s 70))⟩, ⟨none, false, (some 73), (.mov (.s 11))⟩, ⟨none, false, (some 76), (.mov (.s 9))⟩, ⟨none, false, (some 77), (.mov (.s 10))⟩, ⟨none, false, (some 78), (.bin .add (.s 77) (.c (.int .i64 (1))))⟩, ⟨none, false, (some 79), (.ia 1 (.s 76) (.s 78))⟩, ⟨none, false, (some 81), (.fa 2 (.s 12))⟩, ⟨none, false, (some 54), (.ld false 1 (.s 53) none)⟩, ⟨none, false, (some 56), (.ld false 1 (.s 55) none)⟩, ⟨none, false, (some 57), (.ld true 0 (.s 3) none)⟩, ⟨none, false, (some 58), (.ifc 115 (.s 57))⟩, ⟨none, false, (some 62), (.ld false 1 (.s 61) none)⟩, ⟨none, false, (some 64), (.ld false 1 (.s 63) none)⟩, ⟨none, false, (some 65), (.ia 1 (.s 62) (.s 64))⟩, ⟨none, false, (some 66), (.ld false 1 (.s 65) none)⟩, ⟨none, false, (some 67), (.ld true 0 (.s 3) none)⟩, ⟨none, false, (some 68), (.ifc 115 (.s 67))⟩, ⟨none, false, (some 72), (.ld false 1 (.s 71) none)⟩, ⟨none, false, (some 74), (.ia 1 (.s 72) (.s 73))⟩, ⟨none, false, (some 75), (.ld false 1 (.s 74) none)⟩, ⟨none, false, (some 80), (.ld false 1 (.s 79) none)⟩, ⟨none, false, (some 82), (.ld false 1 (.s 81) none)⟩, ⟨none, false, (some 83), (.ia 1 (.s 80) (.s 82))⟩, ⟨none, false, (some 84), (.ld false 1 (.s 83) none)⟩, ⟨none, true, (some 85), (.inv (.s 68) 115 166 [(.s 75), (.s 84)])⟩, ⟨none, true, (some 86), (.inv (.s 58) 115 165 [(.s 66), (.s 85)])⟩, ⟨none, false, (some 87), (.ia 1 (.s 54) (.s 56))⟩, ⟨none, false, none, (.st 1 (.s 87) (.s 86) [])⟩]))) (.ops [⟨none, false, (some 88), (.bin .add (.s 46) (.c (.int .i64 (1))))⟩, ⟨none, false, (some 46), (.mov (.s 88))⟩])))))))) (.ops [⟨none, false, (some 38), (.mov (.s 10))⟩, ⟨none, false, (some 39), (.bin .sub (.s 38) (.c (.int .i64 (1))))⟩, ⟨none, false, (some 10), (.mov (.s 39))⟩])))))) (.seq (.ops [⟨none, false, (some 89), (.mov (.s 9))⟩, ⟨none, false, (some 6), (.mov (.s 89))⟩, ⟨none, false, (some 7), (.mov (.c (.int .i64 (0))))⟩]) .ret))))))⟩
theorem cv79 : cvF Try.prog 79 = some F79 := by kernel_rfl


def updB (nx : List Int) (row : List Int) (e : Ed) (c : Int) : List Int := row.set e.fr.toNat (mpAdd (row[e.fr.toNat]?.getD 0) (mpMul c (nx[e.to.toNat]?.getD 0)))
def foldB (nx : List Int) (z : Int → Int) (l : List Ed) (row : List Int) : List Int := l.foldl (fun row e => updB nx row e (z e.lb)) row
theorem foldB_len (nx : List Int) (z : Int → Int) (l : List Ed) (row : List Int) : (foldB nx z l row).length = row.length := by
  unfold foldB
  induction l generalizing row with
  | nil => rfl
  | cons e r ih => rw [List.foldl_cons, ih]; simp [updB]
theorem foldB_snoc (nx : List Int) (z : Int → Int) (l : List Ed) (row : List Int) {j : Nat} (h : j < l.length) : foldB nx z (l.take (j+1)) row = updB nx (foldB nx z (l.take j) row) l[j] (z l[j].lb) := by
  unfold foldB
  rw [List.take_add_one, List.getElem?_eq_getElem h, List.foldl_append]; rfl
def width (ws : List Int) (i : Nat) : Nat := (ws[i]?.getD 0).toNat
/-- the row of the time n - m -/
def bRow (ws : List Int) (es : List (List Ed)) (z : Nat → Int → Int) : Nat → List Int
  | 0 => (List.replicate (width ws es.length) Inf).set 0 0
  | m+1 => foldB (bRow ws es z m) (z (es.length - (m+1))) (es[es.length - (m+1)]?.getD []) (List.replicate (width ws (es.length - (m+1))) Inf)
def bTab (ws : List Int) (es : List (List Ed)) (z : Nat → Int → Int) : List (List Int) := (List.range (es.length+1)).map fun r => bRow ws es z (es.length - r)
/-- while the section i is gone through, behind j of its edges -/
def stP (ws : List Int) (es : List (List Ed)) (z : Nat → Int → Int) (i j : Nat) : List (List Int) := (List.range (es.length+1)).map fun r =>
  if i < r then bRow ws es z (es.length - r) else if r = i then foldB (bRow ws es z (es.length - (i+1))) (z i) ((es[i]?.getD []).take j) (List.replicate (width ws i) Inf) else List.replicate (width ws r) Inf
/-- rows from m on are done -/
def stD (ws : List Int) (es : List (List Ed)) (z : Nat → Int → Int) (m : Nat) : List (List Int) := (List.range (es.length+1)).map fun r => if m ≤ r then bRow ws es z (es.length - r) else List.replicate (width ws r) Inf
theorem stP_len (ws : List Int) (es : List (List Ed)) (z : Nat → Int → Int) (i j : Nat) : (stP ws es z i j).length = es.length + 1 := by simp [stP]
theorem stP_get {ws : List Int} {es : List (List Ed)} {z : Nat → Int → Int} {i j r : Nat} (h : r < es.length + 1) : (stP ws es z i j)[r]'(by rw [stP_len]; exact h) = if i < r then bRow ws es z (es.length - r) else if r = i then foldB (bRow ws es z (es.length - (i+1))) (z i) ((es[i]?.getD []).take j) (List.replicate (width ws i) Inf) else List.replicate (width ws r) Inf := by simp [stP]
theorem stP_zero (ws : List Int) (es : List (List Ed)) (z : Nat → Int → Int) (i : Nat) : stP ws es z i 0 = stD ws es z (i+1) := by
  unfold stP stD
  apply List.map_congr_left
  intro r hr
  by_cases h1 : i < r
  · simp [h1, show i + 1 ≤ r by omega]
  · by_cases h2 : r = i
    · subst h2; simp [foldB, show ¬ r + 1 ≤ r by omega]
    · simp [h1, h2, show ¬ i + 1 ≤ r by omega]
theorem stP_full (ws : List Int) (es : List (List Ed)) (z : Nat → Int → Int) {i : Nat} (h : i < es.length) : stP ws es z i es[i].length = stD ws es z i := by
  unfold stP stD
  apply List.map_congr_left
  intro r hr
  by_cases h1 : i < r
  · rw [if_pos h1, if_pos (by omega)]
  · rw [if_neg h1]
    by_cases h2 : r = i
    · subst h2
      rw [if_pos rfl, if_pos (Nat.le_refl _)]
      have e : es.length - r = (es.length - (r+1)) + 1 := by omega
      rw [e, bRow]
      have e2 : es.length - (es.length - (r + 1) + 1) = r := by omega
      rw [e2]
      simp [h]
    · rw [if_neg h2, if_neg (by omega)]
theorem stD_zero (ws : List Int) (es : List (List Ed)) (z : Nat → Int → Int) : stD ws es z 0 = bTab ws es z := by
  unfold stD bTab
  apply List.map_congr_left
  intro r hr
  rw [if_pos (Nat.zero_le _)]
theorem stP_step (ws : List Int) (es : List (List Ed)) (z : Nat → Int → Int) {i j : Nat} (h : i < es.length) (hj : j < es[i].length) :
    (stP ws es z i j).set i (updB (bRow ws es z (es.length - (i+1))) (foldB (bRow ws es z (es.length - (i+1))) (z i) (es[i].take j) (List.replicate (width ws i) Inf)) es[i][j] (z i es[i][j].lb)) = stP ws es z i (j+1) := by
  apply List.ext_getElem
  · simp [stP]
  · intro r h1 h2
    have hr : r < es.length + 1 := by simpa [stP] using h2
    rw [stP_get hr]
    by_cases e : i = r
    · subst e
      rw [List.getElem_set_self, if_neg (Nat.lt_irrefl _), if_pos rfl]
      simp only [h, List.getElem?_eq_getElem, Option.getD_some]
      rw [foldB_snoc _ _ _ _ hj]
    · rw [List.getElem_set_ne e, stP_get hr]
      have : ¬ r = i := fun h => e h.symm
      simp [this]
theorem ints_rep (n : Nat) (x : Int) : ints (List.replicate n x) = List.replicate n (.int .i64 x) := by simp [ints]
theorem stD_start (ws : List Int) (es : List (List Ed)) (z : Nat → Int → Int) (e2 : ws.length = es.length + 1) :
    (ws.map fun w => List.replicate w.toNat (V.int .i64 Inf)).set es.length ((List.replicate (width ws es.length) (V.int .i64 Inf)).set 0 (.int .i64 0)) = (stD ws es z es.length).map ints := by
  apply List.ext_getElem
  · simp [stD, e2]
  · intro r h1 h2
    have hr : r < es.length + 1 := by simpa [stD] using h2
    by_cases e : es.length = r
    · subst e
      simp [stD, bRow, ints, List.map_set]
    · rw [List.getElem_set_ne e]
      simp [stD, show ¬ es.length ≤ r by omega, ints_rep, width, show r < ws.length by omega]
theorem ints_set (xs : List Int) (i : Nat) (v : Int) : (ints xs).set i (.int .i64 v) = ints (xs.set i v) := by simp [ints, List.map_set]

theorem vtab_len (es : List (List Ed)) (z : Nat → Int → V) : (vtab es z).length = es.length := by simp [vtab]
theorem vtab_get {es : List (List Ed)} {z : Nat → Int → V} {i : Nat} (h : i < es.length) : (vtab es z)[i]'(by rw [vtab_len]; exact h) = es[i].map fun e => z i e.lb := by simp [vtab, vrow, h]

theorem bRow_len {ws : List Int} {es : List (List Ed)} {z : Nat → Int → Int} (m : Nat) (h : m ≤ es.length) : (bRow ws es z m).length = width ws (es.length - m) := by
  cases m with
  | zero => simp [bRow]
  | succ m => rw [bRow, foldB_len]; simp

theorem Backward_spec {sv ev vv : V} {ws : List Int} {es : List (List Ed)} {z : Nat → Int → Int} {H : Heap} (hs : SInts H sv ws) (he : SSecs H ev es) (h0 : shapeI ws es = 0) (hv : SRowsV H vv (vtab es fun i a => .int .i64 (z i a))) :
    ACalls Try.prog 79 [.agg [], .agg [sv, ev], vv] H fun u H' => Heap.sub H H' ∧ ∃ N us, u = .tup [.sl N 0 (es.length + 1) true, .int .i64 0] ∧ Tab H H' N false us ((bTab ws es z).map ints) := by
  refine ACalls.of_body hm cv79 (by simp only [List.length_cons, List.length_nil]; decide) ?_
  have sh := shaped_of h0
  have hn := sh.n
  have e2 := sh.len
  simp only [F79, go_sem, ↓reduceIte, Nat.reduceEqDiff, Nat.reduceAdd, reduceCtorEq]
  refine newC_intro fun b3 H1 hn1 hs1 hb3 => ?_
  simp only [go_sem, ↓reduceIte, Nat.reduceEqDiff, Nat.reduceAdd, reduceCtorEq]
  refine newC_intro fun b4 H2 hn2 hs2 hb4 => ?_
  have hs02 := hs1.trans' hs2
  have hb3' := hs2 _ _ hb3
  simp only [go_sem, ↓reduceIte, Nat.reduceEqDiff, Nat.reduceAdd, reduceCtorEq, ld_boxa hb4 (show 0 + 2 ≤ _ by simp), fillV, List.length_cons, List.length_nil, splice, Nat.reduceLeDiff, Nat.zero_lt_one, and_self, List.take_zero, List.take_succ_cons, List.drop_succ_cons, List.drop_zero, List.drop_nil, Nat.reduceLT, Nat.le_refl]
  refine callC_pure (valued_spec (hs.mono hs02) (SSecs.mono he hs02) h0 (SRowsV.mono hv hs02) (vtab_len _ _) fun i h => by rw [vtab_get h]; simp) ?_
  simp only [go_sem, ↓reduceIte, Nat.reduceEqDiff, Nat.reduceAdd, reduceCtorEq, ld_boxa hb4 (show 0 + 2 ≤ _ by simp), ld_boxa hb3' (show 0 + 0 ≤ _ by simp), List.take_zero, fillV, List.length_cons, List.length_nil, splice, Nat.reduceLeDiff, Nat.zero_lt_one, and_self, List.take_zero, List.take_succ_cons, List.drop_succ_cons, List.drop_zero, List.drop_nil, Nat.reduceLT, Nat.le_refl]
  refine callC_grow (rows_spec (hs.mono hs02) sh.pos (by omega)) ?_
  rintro u H3 hs3 ⟨N, us, rfl, tab⟩
  have w0 : (ws.map fun w => List.replicate w.toNat (V.int .i64 Inf)).length = es.length + 1 := by simp [e2]
  obtain ⟨pe, us_n, hu, hlu, hlr, hrow⟩ : ∃ _ : Unit, _ := ⟨(), tab.get (i := es.length) (by rw [w0]; omega)⟩
  have pn := sh.pos es.length (by omega)
  have hrl : ((ws.map fun w => List.replicate w.toNat (V.int .i64 Inf))[es.length]'(by rw [w0]; omega)) = List.replicate (width ws es.length) (V.int .i64 Inf) := by
    simp [width, show es.length < ws.length by omega]
  have hwn : 0 < width ws es.length := by unfold width; rw [getD_eq (by omega)]; omega
  obtain ⟨n, hun, hbn, _, hnN, hia, hld⟩ := tab.at (i := es.length) (j := 0) (by rw [w0]; omega) (by rw [hrl]; simpa using hwn) .i64
  rw [hrl, List.length_replicate] at hun hia
  rw [hrl] at hbn
  have hia' : iaV 1 (.sl n 0 (width ws es.length) false) (.int .i64 0) = some (.ptr n 0) := hia
  simp only [go_sem, ↓reduceIte, Nat.reduceEqDiff, Nat.reduceAdd, reduceCtorEq, ld_box (hs3 _ _ hb4), SLists.len he, ia_nat (show es.length < ws.length by omega), ld_box tab.outer, hun, ld_boxa (hs3 _ _ hb3') (show 0 + 0 ≤ _ by simp), List.take_zero]
  refine invC_pure (One_spec _) ?_
  simp only [go_sem, ↓reduceIte, Nat.reduceEqDiff, Nat.reduceAdd, reduceCtorEq, hia']
  refine stC_intro hbn trivial rfl (by decide) (by show 0 + 1 ≤ _; rw [List.length_replicate]; omega) fun H4 hb4n hf4 hs4 => ?_
  have htab4 : Tab H2 H4 N false us ((stD ws es z es.length).map ints) := by
    rw [← stD_start ws es z e2]
    have := tab.set (H' := H4) (i := es.length) (j := 0) (n := n) (v := .int .i64 0) (by rw [w0]; omega) (by rw [hrl, List.length_replicate]; exact hun) (by rw [hrl, List.length_replicate]; exact hwn) (by
      rw [hb4n, cells_int, splice_one _ _ _ (by rw [List.length_replicate]; exact hwn), hrl]) hf4
    rw [hrl] at this
    exact this
  simp only [go_sem, ↓reduceIte, Nat.reduceEqDiff, Nat.reduceAdd, reduceCtorEq, ld_box (htab4.sub _ _ hb4), SLists.len he]
  have hI0 : IntKind.i64.wrap ((es.length : Int) - 1) = es.length - 1 := wrapI (by omega) (by omega)
  rw [hI0]
  have hdl : ∀ m, ((stD ws es z m).map ints).length = es.length + 1 := fun m => by simp [stD]
  have hpl : ∀ i j, ((stP ws es z i j).map ints).length = es.length + 1 := fun i j => by simp [stP]
  refine loop_count es.length (fun k env H' => env 2 = vv ∧ env 3 = .ptr b3 0 ∧ env 4 = .ptr b4 0 ∧ env 9 = .sl N 0 ws.length true ∧ env 10 = .int .i64 ((es.length : Int) - 1 - k) ∧ Tab H2 H' N false us ((stD ws es z (es.length - k)).map ints)) ?_ ?_ ?_
  · simp only [go_sem, ↓reduceIte, Nat.reduceEqDiff, Nat.reduceAdd, reduceCtorEq]
    exact ⟨by trivial, by trivial, by trivial, by trivial, by simp, by simpa using htab4⟩
  · rintro k env H5 hk ⟨h2, h3, h4, h9, h10, tab⟩
    obtain ⟨i, hi⟩ : ∃ i, es.length = i + (k + 1) := ⟨es.length - (k+1), by omega⟩
    have hil : i < es.length := by omega
    have e10 : (es.length : Int) - 1 - k = (i : Int) := by omega
    rw [e10] at h10
    have hge : (0 : Int) ≤ (i : Int) := by omega
    obtain ⟨p, ue, a1, a2, a3⟩ := (SSecs.mono he hs02).get hil .i64
    have hlk := sh.each i hil
    have ek : es.length - k = i + 1 := by omega
    rw [ek, ← stP_zero] at tab
    obtain ⟨pv, uv, v1, v2, v3⟩ := (SRowsV.mono hv hs02).get (k := i) (by rw [vtab_len]; exact hil) .i64
    rw [vtab_get hil] at v3
    have gi := getD_eq (xs := ws) (k := i) (by omega)
    have gi1 := getD_eq (xs := ws) (k := i+1) (by omega)
    simp only [go_sem, ↓reduceIte, Nat.reduceEqDiff, Nat.reduceAdd, reduceCtorEq, h2, h3, h4, h9, h10, hge, ld_box (tab.sub _ _ hb4), a1, ld_mono tab.sub a2, a3.len]
    refine range_loop es[i].length (fun j env H' => env 2 = vv ∧ env 3 = .ptr b3 0 ∧ env 4 = .ptr b4 0 ∧ env 9 = .sl N 0 ws.length true ∧ env 10 = .int .i64 i ∧ env 44 = ue ∧ env 45 = .int .i64 es[i].length ∧ env 46 = .int .i64 j ∧ Tab H2 H' N false us ((stP ws es z i j).map ints)) (by omega) (by decide) (by decide) ?_ ?_ ?_ ?_
    · rintro j env H' ⟨_, _, _, _, _, _, h7, h8, _⟩; exact ⟨h8, h7⟩
    · simp only [go_sem, ↓reduceIte, Nat.reduceEqDiff, Nat.reduceAdd, reduceCtorEq, h2, h3, h4, h9, h10]
      exact ⟨by trivial, by trivial, by trivial, by trivial, by trivial, by trivial, by trivial, by trivial, tab⟩
    · rintro j env H6 hj ⟨h2, h3, h4, h9, h10, h44, h45, h46, tab⟩
      obtain ⟨p, q0, q1, q2, c1, c2, _⟩ := (a3.mono tab.sub).get hj .i64
      have gd := sh.good i hil _ (List.getElem_mem hj)
      rw [gi, gi1] at gd
      have pi := sh.pos i (by omega)
      have pi1 := sh.pos (i+1) (by omega)
      obtain ⟨fr, hfr⟩ : ∃ n : Nat, es[i][j].fr = n := ⟨es[i][j].fr.toNat, by omega⟩
      obtain ⟨to, hto⟩ : ∃ n : Nat, es[i][j].to = n := ⟨es[i][j].to.toNat, by omega⟩
      simp only [go_sem, ↓reduceIte, Nat.reduceEqDiff, Nat.reduceAdd, reduceCtorEq, h2, h3, h4, h9, h10, h44, h45, h46, c1, c2]
      refine newC_intro fun n4 H7 hn4 hs7 hb7 => ?_
      simp only [go_sem, ↓reduceIte, Nat.reduceEqDiff, Nat.reduceAdd, reduceCtorEq, h46]
      refine stC_intro hb7 trivial rfl (by decide) (by decide) fun H8 hb8 hf8 hs8 => ?_
      simp only [Ed.cells, fillV, List.length_cons, List.length_nil, splice, Nat.reduceLeDiff, Nat.zero_lt_one, and_self, List.take_zero, List.take_succ_cons, List.drop_succ_cons, List.drop_zero, List.drop_nil, Nat.reduceLT, Nat.le_refl, go_sem, ↓reduceIte, Nat.reduceEqDiff, Nat.reduceAdd, reduceCtorEq] at hb8
      have hs68 : Heap.sub H6 H8 := hs8 H6 hs7 hn4
      have tab8 := tab.grow hs68
      have r1 : ((stP ws es z i j).map ints)[i]'(by rw [hpl]; omega) = ints (foldB (bRow ws es z (es.length - (i+1))) (z i) (es[i].take j) (List.replicate (width ws i) Inf)) := by
        rw [List.getElem_map, stP_get (by omega)]; simp [hil]
      have r2 : ((stP ws es z i j).map ints)[i+1]'(by rw [hpl]; omega) = ints (bRow ws es z (es.length - (i+1))) := by
        rw [List.getElem_map, stP_get (by omega)]; simp
      have l1 : (ints (foldB (bRow ws es z (es.length - (i+1))) (z i) (es[i].take j) (List.replicate (width ws i) Inf))).length = width ws i := by rw [ints_len, foldB_len]; simp
      have l2 : (ints (bRow ws es z (es.length - (i+1)))).length = width ws (i+1) := by
        rw [ints_len, bRow_len _ (by omega)]; congr 1; omega
      have wi : width ws i = ws[i].toNat := by unfold width; rw [gi]
      have wi1 : width ws (i+1) = ws[i+1].toNat := by unfold width; rw [gi1]
      obtain ⟨m1, um1, hm1, _, _, ia1, ld1⟩ := tab8.at (i := i) (j := fr) (by rw [hpl]; omega) (by rw [r1, l1]; omega) .i64
      obtain ⟨m2, um2, hm2, _, _, ia2, ld2⟩ := tab8.at (i := i+1) (j := to) (by rw [hpl]; omega) (by rw [r2, l2]; omega) .i64
      rw [r1, ints_get (by rw [ints_len] at l1; omega)] at ld1
      rw [r2, ints_get (by rw [ints_len] at l2; omega)] at ld2
      obtain ⟨pz, z1, z2⟩ := (v3.mono tab8.sub).get (k := j) (by simpa using hj) .i64
      rw [List.getElem_map] at z2
      have hw1 : IntKind.i64.wrap ((i : Int) + 1) = ((i + 1 : Nat) : Int) := wrapN1 (by omega)
      simp only [go_sem, ↓reduceIte, Nat.reduceEqDiff, Nat.reduceAdd, reduceCtorEq, h2, h3, h4, h9, h10, h44, h45, h46, hw1, ia_nat (show i < ws.length by omega), ia_nat (show i + 1 < ws.length by omega), v1, ld_mono tab8.sub v2, ld_box tab8.outer, um1, um2, ld_box hb8, hfr, hto, ia1, ia2, ld1, ld2, z1, z2, ld_boxa (tab8.sub _ _ hb3') (show 0 + 0 ≤ _ by simp), List.take_zero]
      refine invC_pure (Mul_spec _ _ _) ?_
      simp only [go_sem, ↓reduceIte, Nat.reduceEqDiff, Nat.reduceAdd, reduceCtorEq]
      refine invC_pure (Add_spec _ _ _) ?_
      simp only [go_sem, ↓reduceIte, Nat.reduceEqDiff, Nat.reduceAdd, reduceCtorEq, ia1]
      refine stC_intro hm1 trivial rfl (by decide) (by show fr + 1 ≤ _; rw [r1, l1]; omega) fun H9 hb9 hf9 hs9 => ?_
      simp only [go_sem, ↓reduceIte, Nat.reduceEqDiff, Nat.reduceAdd, reduceCtorEq, h2, h3, h4, h9, h10, h44, h45, h46]
      refine ⟨by trivial, by trivial, by trivial, by trivial, by trivial, by trivial, by trivial, by trivial, by trivial, ?_⟩
      rw [cells_int, splice_one _ _ _ (by rw [r1, l1]; omega)] at hb9
      have := tab8.set (H' := H9) (i := i) (j := fr) (n := m1) (by rw [hpl]; omega) um1 (by rw [r1, l1]; omega) hb9 hf9
      rw [r1, ints_set] at this
      rw [← stP_step ws es z hil hj, List.map_set]
      have e3 : updB (bRow ws es z (es.length - (i+1))) (foldB (bRow ws es z (es.length - (i+1))) (z i) (es[i].take j) (List.replicate (width ws i) Inf)) es[i][j] (z i es[i][j].lb) =
          (foldB (bRow ws es z (es.length - (i+1))) (z i) (es[i].take j) (List.replicate (width ws i) Inf)).set fr (mpAdd ((foldB (bRow ws es z (es.length - (i+1))) (z i) (es[i].take j) (List.replicate (width ws i) Inf))[fr]'(by rw [ints_len] at l1; omega)) (mpMul (z i es[i][j].lb) ((bRow ws es z (es.length - (i+1)))[to]'(by rw [ints_len] at l2; omega)))) := by
        unfold updB
        rw [hfr, hto, Int.toNat_natCast, Int.toNat_natCast, getD_eq (by rw [ints_len] at l1; omega), getD_eq (by rw [ints_len] at l2; omega)]
      rw [e3]
      exact this
    · rintro env H' ⟨h2, h3, h4, h9, h10, h44, h45, h46, tab⟩
      simp only [go_sem, ↓reduceIte, Nat.reduceEqDiff, Nat.reduceAdd, reduceCtorEq, h2, h3, h4, h9, h10]
      rw [wrapI (by omega) (by omega)]
      rw [stP_full _ _ _ hil] at tab
      refine ⟨by trivial, by trivial, by trivial, by trivial, ?_, ?_⟩
      · congr 1; omega
      · have : es.length - (k+1) = i := by omega
        rw [this]; exact tab
  · rintro env H' ⟨h2, h3, h4, h9, h10, tab⟩
    have e10 : (es.length : Int) - 1 - es.length = -1 := by omega
    rw [e10] at h10
    have hlt : ¬ (0 : Int) ≤ -1 := by omega
    simp only [go_sem, ↓reduceIte, Nat.reduceEqDiff, Nat.reduceAdd, reduceCtorEq, h9, h10, hlt]
    rw [Nat.sub_self, stD_zero] at tab
    exact finO_self ⟨hs02.trans' tab.sub, N, us, by rw [e2], tab.down hs02⟩
end Go.AM
