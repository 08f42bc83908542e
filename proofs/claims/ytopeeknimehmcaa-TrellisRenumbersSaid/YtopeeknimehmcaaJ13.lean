/- trellis.Proper. Conditions: none. -/
import Derived.Test.YtopeeknimehmcaaJ12
set_option linter.unusedVariables false
set_option linter.unusedSimpArgs false
namespace Go.AM
open Go Go.Proofs
attribute [local go_sem] c_skip c_ops c_seq c_ite c_blk c_exit c_ret t_normal t_exit t_ret b_normal b_exit b_ret i_nil i_cons s_guard s_mov s_pick s_new s_zero s_ld s_ldr s_st s_bin s_beq s_isnil s_eqs s_un s_conv s_fa s_fld s_ia s_sli s_ext s_ifc s_mkf s_agg s_len s_mm s_nilchk s_bsl s_mk s_app s_cpy s_call s_inv cells_agg cells_int cells_bool p_get p_none o_s o_c e_0 e_1 e_2 e_3 e_4 iteC_true iteC_false grd_tt grd_tf grd_ft grd_ff grd_und bindV_some pickV_t pickV_f beq_bool conv_int un_not not_dec mm_min mm_max bv_add bv_sub bv_mul bv_eql bv_neq bv_lss bv_leq bv_gtr bv_geq f_normal f_one f_two f_three f_none fa_ptr fld_one ext_tup len_sl len_nils decide_true decide_false not_true_eq_false not_false_eq_true List.map_cons List.map_nil List.append_nil List.cons_append List.nil_append Nat.zero_add Nat.add_zero Nat.mul_one Nat.succ_ne_self if_true if_false List.getElem?_cons_zero List.getElem?_cons_succ

theorem SInts.get0 {H : Heap} {v : V} {xs : List Int} (h : SInts H v xs) (hk : 0 < xs.length) (kd : IntKind) : ∃ p, iaV 1 v (.int kd 0) = some p ∧ ldV H false 1 p = some (.int .i64 xs[0]) := h.get hk kd
theorem Heap.sub.upd_keep {H0 H H' : Heap} {n m : Nat} {b : Blk} (hf : ∀ m, m ≠ n → H' m = H m) (h : H m = some b) (hne : m ≠ n) : H' m = some b := by rw [hf m hne]; exact h
theorem name_ne {H : Heap} {n m : Nat} {b : Blk} (h1 : H n = some b) (h2 : H m = none) : n ≠ m := by rintro rfl; rw [h1] at h2; cases h2
theorem ld_mono {H H' : Heap} (hs : Heap.sub H H') {agg : Bool} {sz : Nat} {p v : V} (h : ldV H agg sz p = some v) : ldV H' agg sz p = some v := by
  cases p <;> simp only [ldV, reduceCtorEq] at h ⊢
  split at h
  · rename_i b hb
    rw [hs _ _ hb]; exact h
  · cases h
theorem map_take_succ {α β : Type} (f : α → β) (l : List α) {j : Nat} (h : j < l.length) : (l.take (j+1)).map f = (l.take j).map f ++ [f l[j]] := by
  rw [List.take_add_one, List.getElem?_eq_getElem h, List.map_append]; rfl
theorem getD_eq {xs : List Int} {k : Nat} (h : k < xs.length) : xs[k]?.getD 0 = xs[k] := by simp [h]

theorem Proper_spec {sv ev : V} {ws : List Int} {es : List (List Ed)} {H : Heap} (hs : SInts H sv ws) (he : SSecs H ev es) : ACalls Try.prog 18 [.agg [sv, ev]] H fun u H' => u = .int .i64 (properI ws es) ∧ H' = H := by
  refine ACalls.of_body hm cv18 (by simp only [List.length_cons, List.length_nil]; decide) ?_
  simp only [F18, go_sem, ↓reduceIte, Nat.reduceEqDiff, Nat.reduceAdd, reduceCtorEq]
  refine newC_intro fun n1 H1 hn1 hs1 hb1 => ?_
  simp only [ld_boxa hb1 (show 0 + 2 ≤ _ by simp), fillV, List.length_cons, List.length_nil, splice, Nat.reduceLeDiff, Nat.zero_lt_one, and_self, List.take_zero, List.take_succ_cons, List.drop_succ_cons, List.drop_zero, List.drop_nil, Nat.reduceLT, Nat.le_refl, go_sem, ↓reduceIte, Nat.reduceEqDiff, Nat.reduceAdd, reduceCtorEq]
  refine callC_pure (Shape_spec (hs.mono hs1) (SSecs.mono he hs1)) ?_
  simp only [go_sem, ↓reduceIte, Nat.reduceEqDiff, Nat.reduceAdd, reduceCtorEq]
  refine iteC_if (fun c0 => ?_) (fun c0 => ?_)
  · simp only [go_sem, ↓reduceIte, Nat.reduceEqDiff, Nat.reduceAdd, reduceCtorEq]
    refine finO_sub hs1 ⟨?_, rfl⟩
    rw [properI, if_pos c0]
  have sh := shaped_of (ws := ws) (es := es) (by omega)
  have e2 := sh.len
  simp only [ld_box hb1, SLists.len he, go_sem, ↓reduceIte, Nat.reduceEqDiff, Nat.reduceAdd, reduceCtorEq]
  obtain ⟨p0, i0, l0⟩ := (hs.mono hs1).get0 (by omega) .i64
  obtain ⟨pn, i1, l1⟩ := (hs.mono hs1).get (k := es.length) (by omega) .i64
  simp only [i0, l0, go_sem, ↓reduceIte, Nat.reduceEqDiff, Nat.reduceAdd, reduceCtorEq]
  have g0 := getD_eq (xs := ws) (k := 0) (by omega)
  have gn := getD_eq (xs := ws) (k := es.length) (by omega)
  by_cases c1 : ws[0] = 1
  case neg =>
    simp only [c1, go_sem, ↓reduceIte, Nat.reduceEqDiff, Nat.reduceAdd, reduceCtorEq]
    refine finO_sub hs1 ⟨?_, rfl⟩
    rw [properI, if_neg c0, if_pos (.inl (by rw [g0]; exact c1))]
  simp only [c1, i1, l1, ld_box hb1, go_sem, ↓reduceIte, Nat.reduceEqDiff, Nat.reduceAdd, reduceCtorEq]
  refine iteC_if (fun c2 => ?_) (fun c2 => ?_)
  · simp only [go_sem, ↓reduceIte, Nat.reduceEqDiff, Nat.reduceAdd, reduceCtorEq]
    refine finO_sub hs1 ⟨?_, rfl⟩
    rw [properI, if_neg c0, if_pos (.inr (by rw [gn]; exact c2))]
  have nn : ¬ (ws[0]?.getD 0 ≠ 1 ∨ ws[es.length]?.getD 0 ≠ 1) := by rw [g0, gn]; omega
  simp only [ld_box hb1, SLists.len he, go_sem, ↓reduceIte, Nat.reduceEqDiff, Nat.reduceAdd, reduceCtorEq]
  have bad : ∀ i, (h : i < es.length) → ¬ GoodSec (ws[i]?.getD 0) (ws[i+1]?.getD 0) es[i] → V.int .i64 5 = V.int .i64 (properI ws es) := by
    intro i h hb
    rw [properI, if_neg c0, if_neg nn, if_neg fun hh => hb (hh i h)]
  refine range_loop es.length (fun k env H' => Heap.sub H1 H' ∧ env 1 = .ptr n1 0 ∧ env 33 = ev ∧ env 34 = .int .i64 es.length ∧ env 35 = .int .i64 k ∧ ∀ i, (h : i < es.length) → i < k → GoodSec (ws[i]?.getD 0) (ws[i+1]?.getD 0) es[i]) (by have := sh.n; omega) (by decide) (by decide) ?_ ?_ ?_ ?_
  · rintro k env H' ⟨_, _, _, h7, h8, _⟩; exact ⟨h8, h7⟩
  · simp only [go_sem, ↓reduceIte, Nat.reduceEqDiff, Nat.reduceAdd, reduceCtorEq]; simp; exact Heap.sub.rfl'
  · rintro k env H2 hk ⟨hs2, h1, h33, h34, h35, hz⟩
    have hs12 := hs1.trans' hs2
    obtain ⟨pe, ue, ae1, ae2', ae0⟩ := (SSecs.mono he hs1).get hk .i64
    have ae2 := ld_mono hs2 ae2'
    have ae3 := ae0.mono hs2
    obtain ⟨pw, w1, w2⟩ := (hs.mono hs12).get (k := k) (by omega) .i64
    have gk := getD_eq (xs := ws) (k := k) (by omega)
    have gk1 := getD_eq (xs := ws) (k := k+1) (by omega)
    have pk := sh.pos k (by omega)
    have pk1 := sh.pos (k+1) (by omega)
    obtain ⟨wk, hwk⟩ : ∃ n : Nat, ws[k] = n := ⟨ws[k].toNat, by omega⟩
    obtain ⟨wk1, hwk1⟩ : ∃ n : Nat, ws[k+1] = n := ⟨ws[k+1].toNat, by omega⟩
    simp only [go_sem, ↓reduceIte, Nat.reduceEqDiff, Nat.reduceAdd, reduceCtorEq, h1, h33, h34, h35, ae1, ae2, ld_box (hs2 _ _ hb1), w1, w2, hwk]
    refine mkC_intro (Nat.le_refl _) (by omega) (by omega) fun m1 H3 hm1 hs3 hbm1 => ?_
    simp only [go_sem, ↓reduceIte, Nat.reduceEqDiff, Nat.reduceAdd, reduceCtorEq, h1, h33, h34, h35, ld_box (hs3 _ _ (hs2 _ _ hb1))]
    rw [wrapN1 (by have := sh.n; omega)]
    obtain ⟨pw', w3, w4⟩ := (hs.mono (hs12.trans' hs3)).get (k := k+1) (by omega) .i64
    simp only [w3, w4, hwk1, go_sem, ↓reduceIte, Nat.reduceEqDiff, Nat.reduceAdd, reduceCtorEq]
    refine mkC_intro (Nat.le_refl _) (by omega) (by omega) fun m2 H4 hm2 hs4 hbm2 => ?_
    have hs14 : Heap.sub H1 H4 := hs2.trans' (hs3.trans' hs4)
    have hm1' : H1 m1 = none := hs2.none' hm1
    have hm2' : H1 m2 = none := (hs2.trans' hs3).none' hm2
    have hm12 : m1 ≠ m2 := name_ne hbm1 hm2
    have ae4 : SEds H4 ue es[k] := ae3.mono (hs3.trans' hs4)
    simp only [go_sem, ↓reduceIte, Nat.reduceEqDiff, Nat.reduceAdd, reduceCtorEq, h1, h33, h34, h35, ae4.len]
    rw [flat_rep, ← marks_nil] at hbm1 hbm2
    have hbm1' := hs4 _ _ hbm1
    have hlk := sh.each k hk
    -- the edges of the section
    refine range_loop es[k].length (fun j env H' => Heap.sub H1 H' ∧ env 1 = .ptr n1 0 ∧ env 33 = ev ∧ env 34 = .int .i64 es.length ∧ env 35 = .int .i64 k ∧ env 6 = ue ∧ env 7 = .sl m1 0 wk true ∧ env 8 = .sl m2 0 wk1 true ∧ env 53 = ue ∧ env 54 = .int .i64 es[k].length ∧ env 55 = .int .i64 j ∧ SEds H' ue es[k] ∧
        H' m1 = some ⟨true, 1, bools (marks wk ((es[k].take j).map Ed.fr))⟩ ∧ H' m2 = some ⟨true, 1, bools (marks wk1 ((es[k].take j).map Ed.to))⟩ ∧
        (∀ i, (h : i < es[k].length) → i < j → 0 ≤ es[k][i].lb ∧ es[k][i].lb < 256) ∧ ∀ i, (h : i + 1 < es[k].length) → i + 1 < j → LexLt es[k][i] es[k][i+1]) (by omega) (by decide) (by decide) ?_ ?_ ?_ ?_
    · rintro j env H' ⟨_, _, _, _, _, _, _, _, _, h54, h55, _⟩; exact ⟨h55, h54⟩
    · simp only [go_sem, ↓reduceIte, Nat.reduceEqDiff, Nat.reduceAdd, reduceCtorEq, h1, h33, h34, h35]
      simp [hs14, hbm1', hbm2, ae4]
    · rintro j env H5 hj ⟨hs5, h1, h33, h34, h35, h6, h7, h8, h53, h54, h55, hu, hb1j, hb2j, hlab, hup⟩
      obtain ⟨p, q0, q1, q2, b1, b2, b3, b4, b5, b6, b7, b8⟩ := hu.get hj .i64
      simp only [go_sem, ↓reduceIte, Nat.reduceEqDiff, Nat.reduceAdd, reduceCtorEq, h1, h33, h34, h35, h6, h7, h8, h53, h54, h55, b1, b2]
      refine newC_intro fun n4 H6 hn4 hs6 hb4 => ?_
      simp only [go_sem, ↓reduceIte, Nat.reduceEqDiff, Nat.reduceAdd, reduceCtorEq]
      refine stC_intro hb4 trivial rfl (by decide) (by decide) fun H7 hb5 hf7 hs7 => ?_
      simp only [Ed.cells, fillV, List.length_cons, List.length_nil, splice, Nat.reduceLeDiff, Nat.zero_lt_one, and_self, List.take_zero, List.take_succ_cons, List.drop_succ_cons, List.drop_zero, List.drop_nil, Nat.reduceLT, Nat.le_refl, go_sem, ↓reduceIte, Nat.reduceEqDiff, Nat.reduceAdd, reduceCtorEq] at hb5
      have hs17 : Heap.sub H1 H7 := hs7 H1 (hs5.trans' hs6) (hs5.none' hn4)
      have hs57 : Heap.sub H5 H7 := hs7 H5 hs6 hn4
      have hm14 : m1 ≠ n4 := name_ne hb1j hn4
      have hm24 : m2 ≠ n4 := name_ne hb2j hn4
      have hn14 : n1 ≠ n4 := name_ne (hs5 _ _ hb1) hn4
      have hu7 := hu.mono hs57
      have hb1j := hs57 _ _ hb1j
      have hb2j := hs57 _ _ hb2j
      have gd := sh.good k hk _ (List.getElem_mem hj)
      rw [gk, gk1, hwk, hwk1] at gd
      obtain ⟨fr, hfr⟩ : ∃ n : Nat, es[k][j].fr = n := ⟨es[k][j].fr.toNat, by omega⟩
      obtain ⟨to, hto⟩ : ∃ n : Nat, es[k][j].to = n := ⟨es[k][j].to.toNat, by omega⟩
      have bad5 : ¬ GoodSec (ws[k]?.getD 0) (ws[k+1]?.getD 0) es[k] → finO (.int .i64 5) H7 fun u H' => u = .int .i64 (properI ws es) ∧ H' = H := fun hb => finO_sub (hs1.trans' hs17) ⟨bad k hk hb, rfl⟩
      simp only [go_sem, ↓reduceIte, Nat.reduceEqDiff, Nat.reduceAdd, reduceCtorEq, h1, h33, h34, h35, h6, h7, h8, h53, h54, h55, ld_box hb5]
      by_cases d1 : es[k][j].lb < 0
      · simp only [d1, go_sem, ↓reduceIte, Nat.reduceEqDiff, Nat.reduceAdd, reduceCtorEq]
        exact bad5 fun g => by have := g.lab _ (List.getElem_mem hj); omega
      simp only [d1, go_sem, ↓reduceIte, Nat.reduceEqDiff, Nat.reduceAdd, reduceCtorEq, h1, h33, h34, h35, h6, h7, h8, h53, h54, h55, ld_box hb5]
      by_cases d2 : 256 ≤ es[k][j].lb
      · simp only [d2, go_sem, ↓reduceIte, Nat.reduceEqDiff, Nat.reduceAdd, reduceCtorEq]
        exact bad5 fun g => by have := g.lab _ (List.getElem_mem hj); omega
      simp only [d2, go_sem, ↓reduceIte, Nat.reduceEqDiff, Nat.reduceAdd, reduceCtorEq, h1, h33, h34, h35, h6, h7, h8, h53, h54, h55, ld_box hb5]
      by_cases d3 : (0 : Int) < j
      · obtain ⟨j', rfl⟩ : ∃ j', j = j' + 1 := ⟨j - 1, by omega⟩
        obtain ⟨p', r0, r1, r2, x1, x2, _⟩ := hu7.get (k := j') (by omega) .i64
        have hw' : IntKind.i64.wrap ((j' + 1 : Nat) - 1 : Int) = j' := by rw [wrapI (by omega) (by omega)]; omega
        simp only [d3, go_sem, ↓reduceIte, Nat.reduceEqDiff, Nat.reduceAdd, reduceCtorEq, h1, h33, h34, h35, h6, h7, h8, h53, h54, h55, ld_box hb5, hw', x1, x2, ld_boxa hb5 (show 0 + 3 ≤ _ by simp), fillV, List.length_cons, List.length_nil, splice, Nat.reduceLeDiff, Nat.zero_lt_one, and_self, List.take_zero, List.take_succ_cons, List.drop_succ_cons, List.drop_zero, List.drop_nil, Nat.reduceLT, Nat.le_refl]
        refine callC_pure (less_spec es[k][j'] es[k][j'+1] H7) ?_
        simp only [go_sem, ↓reduceIte, Nat.reduceEqDiff, Nat.reduceAdd, reduceCtorEq]
        refine iteC_if (fun d4 => ?_) (fun d4 => ?_)
        · simp only [go_sem, ↓reduceIte, Nat.reduceEqDiff, Nat.reduceAdd, reduceCtorEq]
          exact bad5 fun g => (less_ge _ _).1 d4 (g.up j' hj)
        have hlex : LexLt es[k][j'] es[k][j'+1] := Classical.byContradiction fun hh => d4 ((less_ge _ _).2 hh)
        have hup' : ∀ i, (h : i + 1 < es[k].length) → i + 1 < j' + 1 + 1 → LexLt es[k][i] es[k][i+1] := by
          intro i h hi
          rcases Nat.lt_succ_iff_lt_or_eq.1 hi with hi | hi
          · exact hup i h hi
          · obtain rfl : i = j' := by omega
            exact hlex
        simp only [go_sem, ↓reduceIte, Nat.reduceEqDiff, Nat.reduceAdd, reduceCtorEq, h1, h33, h34, h35, h6, h7, h8, h53, h54, h55, ld_box hb5, hfr, hto, ia_nat (show fr < wk by omega), ia_nat (show to < wk1 by omega), sameName, beq_self_eq_true, true_and]
        refine stC_intro hb1j ⟨by simp only [go_sem, ↓reduceIte, Nat.reduceEqDiff, Nat.reduceAdd, reduceCtorEq]; exact hm14.symm, trivial⟩ rfl (by decide) (by rw [bools_len, marks_len]; omega) fun H8 hb8 hf8 hs8 => ?_
        have hs18 := hs8 H1 hs17 hm1'
        have hb2j8 := Heap.sub.upd_keep (H0 := H8) hf8 hb2j hm12.symm
        rw [cells_bool, splice_one _ _ _ (by rw [bools_len, marks_len]; omega), bools_set, marks_snoc] at hb8
        simp only [go_sem, ↓reduceIte, Nat.reduceEqDiff, Nat.reduceAdd, reduceCtorEq, h1, h33, h34, h35, h6, h7, h8, h53, h54, h55, hto, ia_nat (show to < wk1 by omega)]
        refine stC_intro hb2j8 trivial rfl (by decide) (by rw [bools_len, marks_len]; omega) fun H9 hb9 hf9 hs9 => ?_
        have hs19 := hs9 H1 hs18 hm2'
        have hb19 := Heap.sub.upd_keep (H0 := H9) hf9 hb8 hm12
        rw [cells_bool, splice_one _ _ _ (by rw [bools_len, marks_len]; omega), bools_set, marks_snoc] at hb9
        simp only [go_sem, ↓reduceIte, Nat.reduceEqDiff, Nat.reduceAdd, reduceCtorEq, h1, h33, h34, h35, h6, h7, h8, h53, h54, h55]
        refine ⟨by trivial, hs19, by trivial, by trivial, by trivial, by trivial, by trivial, by trivial, by trivial, by trivial, by trivial, ae0.mono hs19, ?_, ?_, fun i h hi => ?_, hup'⟩
        · rw [map_take_succ _ _ hj, hfr]; exact hb19
        · rw [map_take_succ _ _ hj, hto]; exact hb9
        · rcases Nat.lt_succ_iff_lt_or_eq.1 hi with hi | rfl
          · exact hlab i h hi
          · omega
      · have hup' : ∀ i, (h : i + 1 < es[k].length) → i + 1 < j + 1 → LexLt es[k][i] es[k][i+1] := fun i h hi => by omega
        simp only [d3, go_sem, ↓reduceIte, Nat.reduceEqDiff, Nat.reduceAdd, reduceCtorEq]
        simp only [go_sem, ↓reduceIte, Nat.reduceEqDiff, Nat.reduceAdd, reduceCtorEq, h1, h33, h34, h35, h6, h7, h8, h53, h54, h55, ld_box hb5, hfr, hto, ia_nat (show fr < wk by omega), ia_nat (show to < wk1 by omega), sameName, beq_self_eq_true, true_and]
        refine stC_intro hb1j ⟨by simp only [go_sem, ↓reduceIte, Nat.reduceEqDiff, Nat.reduceAdd, reduceCtorEq]; exact hm14.symm, trivial⟩ rfl (by decide) (by rw [bools_len, marks_len]; omega) fun H8 hb8 hf8 hs8 => ?_
        have hs18 := hs8 H1 hs17 hm1'
        have hb2j8 := Heap.sub.upd_keep (H0 := H8) hf8 hb2j hm12.symm
        rw [cells_bool, splice_one _ _ _ (by rw [bools_len, marks_len]; omega), bools_set, marks_snoc] at hb8
        simp only [go_sem, ↓reduceIte, Nat.reduceEqDiff, Nat.reduceAdd, reduceCtorEq, h1, h33, h34, h35, h6, h7, h8, h53, h54, h55, hto, ia_nat (show to < wk1 by omega)]
        refine stC_intro hb2j8 trivial rfl (by decide) (by rw [bools_len, marks_len]; omega) fun H9 hb9 hf9 hs9 => ?_
        have hs19 := hs9 H1 hs18 hm2'
        have hb19 := Heap.sub.upd_keep (H0 := H9) hf9 hb8 hm12
        rw [cells_bool, splice_one _ _ _ (by rw [bools_len, marks_len]; omega), bools_set, marks_snoc] at hb9
        simp only [go_sem, ↓reduceIte, Nat.reduceEqDiff, Nat.reduceAdd, reduceCtorEq, h1, h33, h34, h35, h6, h7, h8, h53, h54, h55]
        refine ⟨by trivial, hs19, by trivial, by trivial, by trivial, by trivial, by trivial, by trivial, by trivial, by trivial, by trivial, ae0.mono hs19, ?_, ?_, fun i h hi => ?_, hup'⟩
        · rw [map_take_succ _ _ hj, hfr]; exact hb19
        · rw [map_take_succ _ _ hj, hto]; exact hb9
        · rcases Nat.lt_succ_iff_lt_or_eq.1 hi with hi | rfl
          · exact hlab i h hi
          · omega
    · rintro env H5 ⟨hs5, h1, h33, h34, h35, h6, h7, h8, h53, h54, h55, hu, hb1j, hb2j, hlab, hup⟩
      rw [List.take_length] at hb1j hb2j
      simp only [go_sem, ↓reduceIte, Nat.reduceEqDiff, Nat.reduceAdd, reduceCtorEq, h1, h33, h34, h35, h6, h7, h8]
      have c1' : Sl H5 (.sl m1 0 wk true) 1 (marks wk (es[k].map Ed.fr)).length (bools (marks wk (es[k].map Ed.fr))) := ⟨by rw [bools_len]; omega, by rw [marks_len]; omega, .inr ⟨m1, 0, true, _, by rw [marks_len], hb1j, rfl, .inr (by rw [bools_len]; omega), fun j hj => by simp⟩⟩
      have c2' : Sl H5 (.sl m2 0 wk1 true) 1 (marks wk1 (es[k].map Ed.to)).length (bools (marks wk1 (es[k].map Ed.to))) := ⟨by rw [bools_len]; omega, by rw [marks_len]; omega, .inr ⟨m2, 0, true, _, by rw [marks_len], hb2j, rfl, .inr (by rw [bools_len]; omega), fun j hj => by simp⟩⟩
      refine callC_pure (Contains_spec c1') ?_
      simp only [go_sem, ↓reduceIte, Nat.reduceEqDiff, Nat.reduceAdd, reduceCtorEq, h7, h8]
      by_cases d5 : false ∈ marks wk (es[k].map Ed.fr)
      · simp only [d5, go_sem, ↓reduceIte, Nat.reduceEqDiff, Nat.reduceAdd, reduceCtorEq]
        refine finO_sub (hs1.trans' hs5) ⟨bad k hk fun g => ?_, rfl⟩
        obtain ⟨v, v1, v2, v3⟩ := (marks_false _ _).1 d5
        obtain ⟨e, he1, he2⟩ := g.out v v1 (by rw [gk, hwk]; exact v2)
        exact v3 (he2 ▸ List.mem_map_of_mem he1)
      simp only [d5, go_sem, ↓reduceIte, Nat.reduceEqDiff, Nat.reduceAdd, reduceCtorEq, h7, h8]
      refine callC_pure (Contains_spec c2') ?_
      simp only [go_sem, ↓reduceIte, Nat.reduceEqDiff, Nat.reduceAdd, reduceCtorEq]
      refine iteC_if (fun d6 => ?_) (fun d6 => ?_)
      · simp only [go_sem, ↓reduceIte, Nat.reduceEqDiff, Nat.reduceAdd, reduceCtorEq]
        refine finO_sub (hs1.trans' hs5) ⟨bad k hk fun g => ?_, rfl⟩
        obtain ⟨v, v1, v2, v3⟩ := (marks_false _ _).1 d6
        obtain ⟨e, he1, he2⟩ := g.inn v v1 (by rw [gk1, hwk1]; exact v2)
        exact v3 (he2 ▸ List.mem_map_of_mem he1)
      simp only [go_sem, ↓reduceIte, Nat.reduceEqDiff, Nat.reduceAdd, reduceCtorEq, h1, h33, h34, h35]
      refine ⟨by trivial, hs5, by trivial, by trivial, by trivial, by trivial, fun i h hi => ?_⟩
      rcases Nat.lt_succ_iff_lt_or_eq.1 hi with hi | rfl
      · exact hz i h hi
      refine ⟨fun e he => ?_, fun j h => hup j h h, fun v v1 v2 => ?_, fun v v1 v2 => ?_⟩
      · obtain ⟨j, hj, rfl⟩ := List.getElem_of_mem he; exact hlab j hj hj
      · rw [gk, hwk] at v2
        have : v ∈ es[i].map Ed.fr := Classical.byContradiction fun hh => d5 ((marks_false _ _).2 ⟨v, v1, v2, hh⟩)
        obtain ⟨e, he1, he2⟩ := List.mem_map.1 this
        exact ⟨e, he1, he2⟩
      · rw [gk1, hwk1] at v2
        have : v ∈ es[i].map Ed.to := Classical.byContradiction fun hh => d6 ((marks_false _ _).2 ⟨v, v1, v2, hh⟩)
        obtain ⟨e, he1, he2⟩ := List.mem_map.1 this
        exact ⟨e, he1, he2⟩
  · rintro env H' ⟨hs2, h1, h33, h34, h35, hz⟩
    simp only [go_sem, ↓reduceIte, Nat.reduceEqDiff, Nat.reduceAdd, reduceCtorEq]
    refine finO_sub (hs1.trans' hs2) ⟨?_, rfl⟩
    rw [properI, if_neg c0, if_neg nn, if_pos fun i h => hz i h h]
end Go.AM

/- trellis.Accepts and its reference. Conditions: as stated. -/
set_option linter.unusedVariables false
set_option linter.unusedSimpArgs false
namespace Go.AM
open Go Go.Proofs
attribute [local go_sem] c_skip c_ops c_seq c_ite c_blk c_exit c_ret t_normal t_exit t_ret b_normal b_exit b_ret i_nil i_cons s_guard s_mov s_pick s_new s_zero s_ld s_ldr s_st s_bin s_beq s_isnil s_eqs s_un s_conv s_fa s_fld s_ia s_sli s_ext s_ifc s_mkf s_agg s_len s_mm s_nilchk s_bsl s_mk s_app s_cpy s_call s_inv cells_agg cells_int cells_bool p_get p_none o_s o_c e_0 e_1 e_2 e_3 e_4 iteC_true iteC_false grd_tt grd_tf grd_ft grd_ff grd_und bindV_some pickV_t pickV_f beq_bool conv_int un_not not_dec mm_min mm_max bv_add bv_sub bv_mul bv_eql bv_neq bv_lss bv_leq bv_gtr bv_geq f_normal f_one f_two f_three f_none fa_ptr fld_one ext_tup len_sl len_nils decide_true decide_false not_true_eq_false not_false_eq_true List.map_cons List.map_nil List.append_nil List.cons_append List.nil_append Nat.zero_add Nat.add_zero Nat.mul_one Nat.succ_ne_self if_true if_false List.getElem?_cons_zero List.getElem?_cons_succ

/-- trellis.Accepts -/
def F26 : AF := ⟨48, [(4, none), (5, none)], (.seq (.ops [⟨none, false, (some 2), (.new (.s 0))⟩, ⟨none, false, (some 4), (.mov (.c (.bool false)))⟩, ⟨none, false, (some 5), (.mov (.c (.int .i64 (0))))⟩]) (.seq (.seq (.ops [⟨none, false, (some 12), (.ld true 2 (.s 2) none)⟩, ⟨none, false, (some 13), (.call (.c (.fn 18 [])) [(.s 12)])⟩, ⟨none, false, (some 6), (.mov (.s 13))⟩]) (.seq (.ops [⟨none, false, (some 14), (.mov (.s 6))⟩, ⟨none, false, (some 15), (.bin .neq (.s 14) (.c (.int .i64 (0))))⟩]) (.ite (.s 15) (.seq (.ops [⟨none, false, (some 16), (.mov (.s 6))⟩, ⟨none, false, (some 4), (.mov (.c (.bool false)))⟩, ⟨none, false, (some 5), (.mov (.s 16))⟩]) .ret) .skip))) (.seq (.seq (.ops [⟨none, false, (some 17), (.mov (.s 1))⟩, ⟨none, false, (some 18), (.len (.s 17))⟩, ⟨none, false, (some 19), (.fa 1 (.s 2))⟩, ⟨none, false, (some 20), (.ld false 1 (.s 19) none)⟩, ⟨none, false, (some 21), (.len (.s 20))⟩, ⟨none, false, (some 22), (.bin .neq (.s 18) (.s 21))⟩]) (.ite (.s 22) (.seq (.ops [⟨none, false, (some 4), (.mov (.c (.bool false)))⟩, ⟨none, false, (some 5), (.mov (.c (.int .i64 (4))))⟩]) .ret) .skip)) (.seq (.ops [⟨none, false, (some 7), (.mov (.c (.int .i64 (0))))⟩]) (.seq (.seq (.ops [⟨none, false, (some 23), (.mov (.s 1))⟩, ⟨none, false, (some 24), (.len (.s 23))⟩, ⟨none, false, (some 25), (.mov (.c (.int .i64 (0))))⟩]) (.blk 0 (.loop (.seq (.ops [⟨none, false, (some 26), (.bin .lss (.s 25) (.s 24))⟩]) (.seq (.ite (.s 26) .skip (.exit 0)) (.seq (.blk 1 (.seq (.ops [⟨none, false, (some 27), (.mov (.s 25))⟩, ⟨none, false, (some 28), (.ia 1 (.s 23) (.s 25))⟩, ⟨none, false, (some 29), (.ld false 1 (.s 28) none)⟩, ⟨none, false, (some 9), (.zero [(.int .i64 (0))])⟩, ⟨none, false, (some 8), (.mov (.s 27))⟩, ⟨none, false, none, (.st 1 (.s 9) (.s 29) [])⟩]) (.seq (.ops [⟨none, false, (some 30), (.fa 1 (.s 2))⟩, ⟨none, false, (some 31), (.ld false 1 (.s 30) none)⟩, ⟨none, false, (some 32), (.mov (.s 8))⟩, ⟨none, false, (some 33), (.ia 1 (.s 31) (.s 32))⟩, ⟨none, false, (some 34), (.ld false 1 (.s 33) none)⟩, ⟨none, false, (some 35), (.mov (.s 7))⟩, ⟨none, false, (some 36), (.call (.c (.fn 59 [])) [(.s 34), (.s 35)])⟩, ⟨none, false, (some 10), (.mov (.s 36))⟩]) (.seq (.ops [⟨none, false, (some 37), (.mov (.s 10))⟩, ⟨none, false, (some 38), (.mkf 61 [(.s 9)])⟩, ⟨none, false, (some 39), (.call (.c (.fn 60 [])) [(.s 37), (.s 38)])⟩, ⟨none, false, (some 11), (.mov (.s 39))⟩]) (.seq (.seq (.ops [⟨none, false, (some 40), (.mov (.s 11))⟩, ⟨none, false, (some 41), (.bin .lss (.s 40) (.c (.int .i64 (0))))⟩]) (.ite (.s 41) (.seq (.ops [⟨none, false, (some 4), (.mov (.c (.bool false)))⟩, ⟨none, false, (some 5), (.mov (.c (.int .i64 (0))))⟩]) .ret) .skip)) (.ops [⟨none, false, (some 42), (.mov (.s 10))⟩, ⟨none, false, (some 43), (.mov (.s 11))⟩, ⟨none, false, (some 44), (.ia 3 (.s 42) (.s 43))⟩, ⟨none, false, (some 45), (.fa 2 (.s 44))⟩, ⟨none, false, (some 46), (.ld false 1 (.s 45) none)⟩, ⟨none, false, (some 7), (.mov (.s 46))⟩])))))) (.ops [⟨none, false, (some 47), (.bin .add (.s 25) (.c (.int .i64 (1))))⟩, ⟨none, false, (some 25), (.mov (.s 47))⟩]))))))) (.seq (.ops [⟨none, false, (some 4), (.mov (.c (.bool true)))⟩, ⟨none, false, (some 5), (.mov (.c (.int .i64 (0))))⟩]) .ret))))))⟩
theorem cv26 : cvF Try.prog 26 = some F26 := by kernel_rfl

/-- codewrightref47.Accepts -/
def F27 : AF := ⟨65, [(4, none)], (.seq (.ops [⟨none, false, (some 2), (.new (.s 0))⟩, ⟨none, false, (some 4), (.mov (.c (.bool false)))⟩]) (.seq (.ops [⟨none, false, (some 5), (.mov (.c (.int .i64 (0))))⟩]) (.seq (.seq (.ops [⟨none, false, (some 6), (.mov (.c (.int .i64 (0))))⟩]) (.blk 0 (.loop (.seq (.seq (.ops [⟨none, false, (some 9), (.mov (.s 6))⟩, ⟨none, false, (some 10), (.fa 1 (.s 2))⟩, ⟨none, false, (some 11), (.ld false 1 (.s 10) none)⟩, ⟨none, false, (some 12), (.len (.s 11))⟩, ⟨none, false, (some 13), (.bin .lss (.s 9) (.s 12))⟩]) (.ite (.s 13) .skip (.exit 0))) (.seq (.blk 1 (.seq (.ops [⟨none, false, (some 7), (.mov (.c (.int .i64 (-1))))⟩]) (.seq (.seq (.ops [⟨none, false, (some 8), (.mov (.c (.int .i64 (0))))⟩]) (.blk 2 (.loop (.seq (.seq (.ops [⟨none, false, (some 16), (.mov (.s 8))⟩, ⟨none, false, (some 17), (.fa 1 (.s 2))⟩, ⟨none, false, (some 18), (.ld false 1 (.s 17) none)⟩, ⟨none, false, (some 19), (.mov (.s 6))⟩, ⟨none, false, (some 20), (.ia 1 (.s 18) (.s 19))⟩, ⟨none, false, (some 21), (.ld false 1 (.s 20) none)⟩, ⟨none, false, (some 22), (.len (.s 21))⟩, ⟨none, false, (some 23), (.bin .lss (.s 16) (.s 22))⟩]) (.ite (.s 23) .skip (.exit 2))) (.seq (.blk 3 (.seq (.ops [⟨none, false, (some 26), (.fa 1 (.s 2))⟩, ⟨none, false, (some 28), (.mov (.s 6))⟩, ⟨none, false, (some 31), (.mov (.s 8))⟩, ⟨none, false, (some 35), (.mov (.s 5))⟩, ⟨none, false, (some 27), (.ld false 1 (.s 26) none)⟩, ⟨none, false, (some 29), (.ia 1 (.s 27) (.s 28))⟩, ⟨none, false, (some 30), (.ld false 1 (.s 29) none)⟩, ⟨none, false, (some 32), (.ia 3 (.s 30) (.s 31))⟩, ⟨none, false, (some 33), (.fa 0 (.s 32))⟩, ⟨none, false, (some 34), (.ld false 1 (.s 33) none)⟩, ⟨none, false, (some 36), (.bin .eql (.s 34) (.s 35))⟩, ⟨none, false, (some 37), (.mov (.s 36))⟩, ⟨(some (37, true)), false, (some 38), (.fa 1 (.s 2))⟩, ⟨(some (37, true)), false, (some 40), (.mov (.s 6))⟩, ⟨(some (37, true)), false, (some 43), (.mov (.s 8))⟩, ⟨(some (37, true)), false, (some 47), (.mov (.s 1))⟩, ⟨(some (37, true)), false, (some 48), (.mov (.s 6))⟩, ⟨(some (37, true)), false, (some 49), (.ia 1 (.s 47) (.s 48))⟩, ⟨(some (37, true)), false, (some 39), (.ld false 1 (.s 38) none)⟩, ⟨(some (37, true)), false, (some 41), (.ia 1 (.s 39) (.s 40))⟩, ⟨(some (37, true)), false, (some 42), (.ld false 1 (.s 41) none)⟩, ⟨(some (37, true)), false, (some 44), (.ia 3 (.s 42) (.s 43))⟩, ⟨(some (37, true)), false, (some 45), (.fa 1 (.s 44))⟩, ⟨(some (37, true)), false, (some 46), (.ld false 1 (.s 45) none)⟩, ⟨(some (37, true)), false, (some 50), (.ld false 1 (.s 49) none)⟩, ⟨(some (37, true)), false, (some 51), (.bin .eql (.s 46) (.s 50))⟩, ⟨none, false, (some 52), (.pick (.s 37) (.s 51) (.c (.bool false)))⟩]) (.ite (.s 52) (.ops [⟨none, false, (some 53), (.fa 1 (.s 2))⟩, ⟨none, false, (some 54), (.ld false 1 (.s 53) none)⟩, ⟨none, false, (some 55), (.mov (.s 6))⟩, ⟨none, false, (some 56), (.ia 1 (.s 54) (.s 55))⟩, ⟨none, false, (some 57), (.ld false 1 (.s 56) none)⟩, ⟨none, false, (some 58), (.mov (.s 8))⟩, ⟨none, false, (some 59), (.ia 3 (.s 57) (.s 58))⟩, ⟨none, false, (some 60), (.fa 2 (.s 59))⟩, ⟨none, false, (some 61), (.ld false 1 (.s 60) none)⟩, ⟨none, false, (some 7), (.mov (.s 61))⟩]) .skip))) (.ops [⟨none, false, (some 24), (.mov (.s 8))⟩, ⟨none, false, (some 25), (.bin .add (.s 24) (.c (.int .i64 (1))))⟩, ⟨none, false, (some 8), (.mov (.s 25))⟩])))))) (.seq (.seq (.ops [⟨none, false, (some 62), (.mov (.s 7))⟩, ⟨none, false, (some 63), (.bin .lss (.s 62) (.c (.int .i64 (0))))⟩]) (.ite (.s 63) (.seq (.ops [⟨none, false, (some 4), (.mov (.c (.bool false)))⟩]) .ret) .skip)) (.ops [⟨none, false, (some 64), (.mov (.s 7))⟩, ⟨none, false, (some 5), (.mov (.s 64))⟩]))))) (.ops [⟨none, false, (some 14), (.mov (.s 6))⟩, ⟨none, false, (some 15), (.bin .add (.s 14) (.c (.int .i64 (1))))⟩, ⟨none, false, (some 6), (.mov (.s 15))⟩])))))) (.seq (.ops [⟨none, false, (some 4), (.mov (.c (.bool true)))⟩]) .ret))))⟩
theorem cv27 : cvF Try.prog 27 = some F27 := by kernel_rfl


/-- where an edge with a label leads from a node, or -1 -/
def nextI (l : List Ed) (v a : Int) : Int := match l.find? fun e => decide (e.fr = v) && decide (e.lb = a) with
  | some e => e.to
  | none => -1
theorem nextI_none {l : List Ed} {v a : Int} (h : ∀ e ∈ l, e.fr = v → e.lb ≠ a) : nextI l v a = -1 := by
  have : l.find? (fun e => decide (e.fr = v) && decide (e.lb = a)) = none := by
    rw [List.find?_eq_none]
    intro e he
    simpa using h e he
  rw [nextI, this]
theorem nextI_some {l : List Ed} {v a : Int} {i : Nat} (up : ∀ j, (h : j + 1 < l.length) → LexLt l[j] l[j+1]) (h : i < l.length) (h1 : l[i].fr = v) (h2 : l[i].lb = a) : nextI l v a = l[i].to := by
  unfold nextI
  cases e : l.find? fun e => decide (e.fr = v) && decide (e.lb = a) with
  | none =>
    rw [List.find?_eq_none] at e
    have := e l[i] (List.getElem_mem h)
    simp [h1, h2] at this
  | some x =>
    have hx := List.mem_of_find?_eq_some e
    have hp := List.find?_some e
    simp only [Bool.and_eq_true, decide_eq_true_eq] at hp
    obtain ⟨j, hj, rfl⟩ := List.getElem_of_mem hx
    have := lex_unique up hj h (by rw [hp.1, h1]) (by rw [hp.2, h2])
    subst this; rfl
/-- the node behind k labels of a word -/
def accSt (es : List (List Ed)) (w : List Int) : Nat → Int
  | 0 => 0
  | k+1 => nextI (es[k]?.getD []) (accSt es w k) (w[k]?.getD 0)
def accB (es : List (List Ed)) (w : List Int) : Bool := (List.range (es.length + 1)).all fun k => decide (0 ≤ accSt es w k)
theorem accB_true {es : List (List Ed)} {w : List Int} (h : ∀ k, k ≤ es.length → 0 ≤ accSt es w k) : accB es w = true := by
  simp only [accB, List.all_eq_true, List.mem_range, decide_eq_true_eq]
  exact fun k hk => h k (by omega)
theorem accB_false {es : List (List Ed)} {w : List Int} {k : Nat} (hk : k ≤ es.length) (h : accSt es w k < 0) : accB es w = false := by
  rw [Bool.eq_false_iff]
  intro e
  simp only [accB, List.all_eq_true, List.mem_range, decide_eq_true_eq] at e
  have := e k (by omega)
  omega
noncomputable def accE (ws : List Int) (es : List (List Ed)) (w : List Int) : Int := if properI ws es ≠ 0 then properI ws es else if w.length ≠ es.length then 4 else 0

theorem Accepts_spec {sv ev wv : V} {ws w : List Int} {es : List (List Ed)} {H : Heap} (hs : SInts H sv ws) (he : SSecs H ev es) (hw : SInts H wv w) :
    ACalls Try.prog 26 [.agg [sv, ev], wv] H fun u H' => u = .tup [.bool (if accE ws es w = 0 then accB es w else false), .int .i64 (accE ws es w)] ∧ H' = H := by
  refine ACalls.of_body hm cv26 (by simp only [List.length_cons, List.length_nil]; decide) ?_
  simp only [F26, go_sem, ↓reduceIte, Nat.reduceEqDiff, Nat.reduceAdd, reduceCtorEq]
  refine newC_intro fun b2 H1 hn1 hs1 hb1 => ?_
  simp only [go_sem, ↓reduceIte, Nat.reduceEqDiff, Nat.reduceAdd, reduceCtorEq, ld_boxa hb1 (show 0 + 2 ≤ _ by simp), fillV, List.length_cons, List.length_nil, splice, Nat.reduceLeDiff, Nat.zero_lt_one, and_self, List.take_zero, List.take_succ_cons, List.drop_succ_cons, List.drop_zero, List.drop_nil, Nat.reduceLT, Nat.le_refl]
  refine callC_pure (Proper_spec (hs.mono hs1) (SSecs.mono he hs1)) ?_
  simp only [go_sem, ↓reduceIte, Nat.reduceEqDiff, Nat.reduceAdd, reduceCtorEq]
  refine iteC_if (fun c => ?_) (fun c => ?_)
  · simp only [go_sem, ↓reduceIte, Nat.reduceEqDiff, Nat.reduceAdd, reduceCtorEq]
    have e : accE ws es w = properI ws es := by rw [accE, if_pos c]
    exact finO_sub hs1 ⟨by rw [e, if_neg c], rfl⟩
  have hp : properI ws es = 0 := Classical.byContradiction c
  obtain ⟨h0, w0, wl, hgood⟩ := proper_of hp
  have sh := shaped_of h0
  have hn := sh.n
  simp only [go_sem, ↓reduceIte, Nat.reduceEqDiff, Nat.reduceAdd, reduceCtorEq, ld_box hb1, SLists.len he, hw.len]
  refine iteC_if (fun c2 => ?_) (fun c2 => ?_)
  · simp only [go_sem, ↓reduceIte, Nat.reduceEqDiff, Nat.reduceAdd, reduceCtorEq]
    have e : accE ws es w = 4 := by rw [accE, if_neg (by simp [hp]), if_pos (by omega)]
    exact finO_sub hs1 ⟨by rw [e, if_neg (by decide)], rfl⟩
  have hl : w.length = es.length := by omega
  have e0 : accE ws es w = 0 := by rw [accE, if_neg (by simp [hp]), if_neg (by omega)]
  simp only [go_sem, ↓reduceIte, Nat.reduceEqDiff, Nat.reduceAdd, reduceCtorEq, hw.len]
  refine range_loop w.length (fun k env H' => Heap.sub H1 H' ∧ env 2 = .ptr b2 0 ∧ env 7 = .int .i64 (accSt es w k) ∧ env 23 = wv ∧ env 24 = .int .i64 w.length ∧ env 25 = .int .i64 k ∧ ∀ i, i ≤ k → 0 ≤ accSt es w i) (by omega) (by decide) (by decide) ?_ ?_ ?_ ?_
  · rintro k env H' ⟨_, _, _, _, h7, h8, _⟩; exact ⟨h8, h7⟩
  · simp only [go_sem, ↓reduceIte, Nat.reduceEqDiff, Nat.reduceAdd, reduceCtorEq]
    refine ⟨Heap.sub.rfl', by trivial, rfl, by trivial, by trivial, rfl, fun i hi => ?_⟩
    obtain rfl : i = 0 := by omega
    exact Int.le_refl _
  · rintro k env H2 hk ⟨hs2, h2, h7, h23, h24, h25, hz⟩
    have hs02 := hs1.trans' hs2
    have hke : k < es.length := by omega
    obtain ⟨p, a1, a2⟩ := (hw.mono hs02).get hk .i64
    simp only [go_sem, ↓reduceIte, Nat.reduceEqDiff, Nat.reduceAdd, reduceCtorEq, h2, h7, h23, h24, h25, a1, a2]
    refine newC_intro fun n9 H3 hn3 hs3 hb3 => ?_
    simp only [go_sem, ↓reduceIte, Nat.reduceEqDiff, Nat.reduceAdd, reduceCtorEq, h25]
    refine stC_intro hb3 trivial rfl (by decide) (by decide) fun H4 hb4 hf4 hs4 => ?_
    have hs24 := hs4 _ hs3 hn3
    have hs04 := hs02.trans' hs24
    have hs14 := hs2.trans' hs24
    simp only [fillV, List.length_cons, List.length_nil, splice, Nat.reduceLeDiff, Nat.zero_lt_one, and_self, List.take_zero, List.take_succ_cons, List.drop_succ_cons, List.drop_zero, List.drop_nil, Nat.reduceLT, Nat.le_refl, go_sem, ↓reduceIte, Nat.reduceEqDiff, Nat.reduceAdd, reduceCtorEq] at hb4
    obtain ⟨q, ue, c1, c2', c3⟩ := (SSecs.mono he hs04).get hke .i64
    have gd := hgood k hke
    simp only [go_sem, ↓reduceIte, Nat.reduceEqDiff, Nat.reduceAdd, reduceCtorEq, h2, h7, h23, h24, h25, ld_box (hs14 _ _ hb1), c1, c2']
    refine callC_any (from_spec c3 (sh.each k hke) (sorted_of gd.up)) ?_
    rintro u H5 ⟨hu, rfl⟩
    simp only [go_sem, ↓reduceIte, Nat.reduceEqDiff, Nat.reduceAdd, reduceCtorEq]
    refine callC_any (IndexFunc_spec (p := fun e => e.lb = w[k]) hu fun e _ => accC_spec hb4) ?_
    have gw : (es[k]?.getD []) = es[k] := by simp [hke]
    have gw2 : (w[k]?.getD 0) = w[k] := by simp [hk]
    have hstep : accSt es w (k+1) = nextI es[k] (accSt es w k) w[k] := by rw [accSt, gw, gw2]
    rintro r H6 ⟨hr | ⟨i, hi, hr, hp1, hp2⟩, rfl⟩
    · obtain ⟨rfl, hnone⟩ := hr
      have e1 : accSt es w (k+1) = -1 := by
        rw [hstep]
        exact nextI_none fun e he hfr => hnone e (List.mem_filter.2 ⟨he, by simpa using hfr⟩)
      simp only [go_sem, ↓reduceIte, Nat.reduceEqDiff, Nat.reduceAdd, reduceCtorEq, show ((-1 : Int) < 0) = True from eq_true (by decide)]
      refine finO_sub hs04 ⟨?_, rfl⟩
      rw [e0, if_pos rfl, accB_false (k := k+1) (by omega) (by omega)]
    · subst hr
      have hmem : (fromI es[k] (accSt es w k))[i] ∈ fromI es[k] (accSt es w k) := List.getElem_mem hi
      have hmem2 := List.mem_filter.1 hmem
      obtain ⟨j, hj, hje⟩ := List.getElem_of_mem hmem2.1
      have e1 : accSt es w (k+1) = (fromI es[k] (accSt es w k))[i].to := by
        rw [hstep, nextI_some gd.up hj (by rw [hje]; simpa using hmem2.2) (by rw [hje]; exact hp1), hje]
      have hgt : ((i : Int) < 0) = False := eq_false (by omega)
      obtain ⟨p2, q0, q1, q2, d1, _, _, _, d4, _, _, d7⟩ := hu.get hi .i64
      have hto := sh.good k hke _ (List.getElem_mem hj)
      rw [hje] at hto
      simp only [go_sem, ↓reduceIte, Nat.reduceEqDiff, Nat.reduceAdd, reduceCtorEq, hgt, h2, h7, h23, h24, h25, d1, d4, d7]
      refine ⟨by trivial, hs14, by trivial, by rw [e1], by trivial, by trivial, by trivial, fun x hx => ?_⟩
      rcases Nat.lt_or_ge k x with h | h
      · have : x = k + 1 := by omega
        subst this
        rw [e1]; exact hto.2.2.1
      · exact hz x h
  · rintro env H' ⟨hs2, h2, h7, h23, h24, h25, hz⟩
    simp only [go_sem, ↓reduceIte, Nat.reduceEqDiff, Nat.reduceAdd, reduceCtorEq]
    refine finO_sub (hs1.trans' hs2) ⟨?_, rfl⟩
    rw [e0, if_pos rfl, accB_true fun k hk => hz k (by omega)]

theorem rAccepts_spec {sv ev wv : V} {ws w : List Int} {es : List (List Ed)} {H : Heap} (hs : SInts H sv ws) (he : SSecs H ev es) (hw : SInts H wv w) (hp : properI ws es = 0) (hl : w.length = es.length) :
    ACalls Try.prog 27 [.agg [sv, ev], wv] H fun u H' => u = .bool (accB es w) ∧ H' = H := by
  refine ACalls.of_body hm cv27 (by simp only [List.length_cons, List.length_nil]; decide) ?_
  obtain ⟨h0, w0, wl, hgood⟩ := proper_of hp
  have sh := shaped_of h0
  have hn := sh.n
  simp only [F27, go_sem, ↓reduceIte, Nat.reduceEqDiff, Nat.reduceAdd, reduceCtorEq]
  refine newC_intro fun b2 H1 hn1 hs1 hb1 => ?_
  have he1 := SSecs.mono he hs1
  simp only [go_sem, ↓reduceIte, Nat.reduceEqDiff, Nat.reduceAdd, reduceCtorEq]
  refine loop_count es.length (fun k env H' => H1 = H' ∧ env 1 = wv ∧ env 2 = .ptr b2 0 ∧ env 5 = .int .i64 (accSt es w k) ∧ env 6 = .int .i64 k ∧ ∀ i, i ≤ k → 0 ≤ accSt es w i) ?_ ?_ ?_
  · simp only [go_sem, ↓reduceIte, Nat.reduceEqDiff, Nat.reduceAdd, reduceCtorEq]
    refine ⟨by trivial, by trivial, by trivial, rfl, by trivial, fun i hi => ?_⟩
    obtain rfl : i = 0 := by omega
    exact Int.le_refl _
  · rintro k env H' hk ⟨rfl, h1, h2, h5, h6, hz⟩
    have hlt : (k : Int) < es.length := by omega
    obtain ⟨q, ue, c1, c2, c3⟩ := he1.get hk .i64
    have gd := hgood k hk
    have hlk := sh.each k hk
    obtain ⟨pw, d1, d2⟩ := (hw.mono hs1).get (k := k) (by omega) .i64
    have gw : (es[k]?.getD []) = es[k] := by simp [hk]
    have gw2 : (w[k]?.getD 0) = w[k] := by simp [show k < w.length by omega]
    have hstep : accSt es w (k+1) = nextI es[k] (accSt es w k) w[k] := by rw [accSt, gw, gw2]
    simp only [go_sem, ↓reduceIte, Nat.reduceEqDiff, Nat.reduceAdd, reduceCtorEq, h1, h2, h5, h6, ld_box hb1, SLists.len he1, hlt]
    refine blk_join (fun env H' => H1 = H' ∧ env 1 = wv ∧ env 2 = .ptr b2 0 ∧ env 5 = .int .i64 (accSt es w k) ∧ env 6 = .int .i64 k ∧ env 7 = .int .i64 (accSt es w (k+1))) ?_ ?_
    · refine loop_count es[k].length (fun j env H' => H1 = H' ∧ env 1 = wv ∧ env 2 = .ptr b2 0 ∧ env 5 = .int .i64 (accSt es w k) ∧ env 6 = .int .i64 k ∧ env 8 = .int .i64 j ∧ ∃ x, env 7 = .int .i64 x ∧ ((x = -1 ∧ ∀ m, (h : m < es[k].length) → m < j → ¬ (es[k][m].fr = accSt es w k ∧ es[k][m].lb = w[k])) ∨ ∃ m, ∃ h : m < es[k].length, es[k][m].fr = accSt es w k ∧ es[k][m].lb = w[k] ∧ x = es[k][m].to)) ?_ ?_ ?_
      · simp only [go_sem, ↓reduceIte, Nat.reduceEqDiff, Nat.reduceAdd, reduceCtorEq, h1, h2, h5, h6]
        exact ⟨by trivial, by trivial, by trivial, by trivial, by trivial, rfl, -1, by trivial, .inl ⟨rfl, fun m h h' => by omega⟩⟩
      · rintro j env H' hj ⟨rfl, h1, h2, h5, h6, h8, x, h7, hx⟩
        have hltj : (j : Int) < es[k].length := by omega
        obtain ⟨p2, q0, q1, q2, a1, _, a2, a3, a4, a5, a6, a7⟩ := c3.get hj .i64
        have next : ∀ y, ((y = -1 ∧ ∀ m, (h : m < es[k].length) → m < j + 1 → ¬ (es[k][m].fr = accSt es w k ∧ es[k][m].lb = w[k])) ∨ ∃ m, ∃ h : m < es[k].length, es[k][m].fr = accSt es w k ∧ es[k][m].lb = w[k] ∧ y = es[k][m].to) → ((y = -1 ∧ ∀ m, (h : m < es[k].length) → m < j + 1 → ¬ (es[k][m].fr = accSt es w k ∧ es[k][m].lb = w[k])) ∨ ∃ m, ∃ h : m < es[k].length, es[k][m].fr = accSt es w k ∧ es[k][m].lb = w[k] ∧ y = es[k][m].to) := fun _ h => h
        by_cases e1 : es[k][j].fr = accSt es w k
        · by_cases e2 : es[k][j].lb = w[k]
          · simp only [go_sem, ↓reduceIte, Nat.reduceEqDiff, Nat.reduceAdd, reduceCtorEq, h1, h2, h5, h6, h7, h8, ld_box hb1, c1, c2, c3.len, hltj, a1, a2, a3, a4, a5, a6, a7, d1, d2, e1, e2]
            rw [wrapN1 (by omega)]
            exact ⟨by trivial, by trivial, by trivial, by trivial, by trivial, by trivial, _, by trivial, .inr ⟨j, hj, e1, e2, rfl⟩⟩
          · simp only [go_sem, ↓reduceIte, Nat.reduceEqDiff, Nat.reduceAdd, reduceCtorEq, h1, h2, h5, h6, h7, h8, ld_box hb1, c1, c2, c3.len, hltj, a1, a2, a3, a4, a5, a6, a7, d1, d2, e1, e2]
            rw [wrapN1 (by omega)]
            refine ⟨by trivial, by trivial, by trivial, by trivial, by trivial, by trivial, x, by trivial, hx.imp (fun h => ⟨h.1, fun m hm hmj => ?_⟩) id⟩
            rcases Nat.lt_succ_iff_lt_or_eq.1 hmj with h' | rfl
            · exact h.2 m hm h'
            · exact fun e => e2 e.2
        · simp only [go_sem, ↓reduceIte, Nat.reduceEqDiff, Nat.reduceAdd, reduceCtorEq, h1, h2, h5, h6, h7, h8, ld_box hb1, c1, c2, c3.len, hltj, a1, a2, a3, a4, a5, a6, a7, d1, d2, e1]
          rw [wrapN1 (by omega)]
          refine ⟨by trivial, by trivial, by trivial, by trivial, by trivial, by trivial, x, by trivial, hx.imp (fun h => ⟨h.1, fun m hm hmj => ?_⟩) id⟩
          rcases Nat.lt_succ_iff_lt_or_eq.1 hmj with h' | rfl
          · exact h.2 m hm h'
          · exact fun e => e1 e.1
      · rintro env H' ⟨rfl, h1, h2, h5, h6, h8, x, h7, hx⟩
        have hxx : x = accSt es w (k+1) := by
          rw [hstep]
          rcases hx with ⟨rfl, hx⟩ | ⟨m, hm, e1, e2, rfl⟩
          · rw [nextI_none]
            intro e he hfr hlb
            obtain ⟨m, hm, rfl⟩ := List.getElem_of_mem he
            exact hx m hm hm ⟨hfr, hlb⟩
          · rw [nextI_some gd.up hm e1 e2]
        subst hxx
        simp only [go_sem, ↓reduceIte, Nat.reduceEqDiff, Nat.reduceAdd, reduceCtorEq, h1, h2, h5, h6, h7, h8, ld_box hb1, c1, c2, c3.len, Int.lt_irrefl]
        trivial
    · rintro env H' ⟨rfl, h1, h2, h5, h6, h7⟩
      simp only [go_sem, ↓reduceIte, Nat.reduceEqDiff, Nat.reduceAdd, reduceCtorEq, h1, h2, h5, h6, h7]
      refine iteC_if (fun d => ?_) (fun d => ?_)
      · simp only [go_sem, ↓reduceIte, Nat.reduceEqDiff, Nat.reduceAdd, reduceCtorEq]
        refine finO_sub hs1 ⟨?_, rfl⟩
        rw [accB_false (k := k+1) (by omega) d]
      · simp only [go_sem, ↓reduceIte, Nat.reduceEqDiff, Nat.reduceAdd, reduceCtorEq, h1, h2, h5, h6, h7]
        rw [wrapN1 (by omega)]
        refine ⟨by trivial, by trivial, by trivial, by trivial, by trivial, fun i hi => ?_⟩
        rcases Nat.lt_or_ge k i with h | h
        · have : i = k + 1 := by omega
          subst this; omega
        · exact hz i h
  · rintro env H' ⟨rfl, h1, h2, h5, h6, hz⟩
    simp only [go_sem, ↓reduceIte, Nat.reduceEqDiff, Nat.reduceAdd, reduceCtorEq, h1, h2, h5, h6, ld_box hb1, SLists.len he1, Int.lt_irrefl]
    refine finO_sub hs1 ⟨?_, rfl⟩
    rw [accB_true hz]
end Go.AM
