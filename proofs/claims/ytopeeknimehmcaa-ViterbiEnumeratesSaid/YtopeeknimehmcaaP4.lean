/- trellis.Proper. Conditions: none. -/
import Derived.Test.YtopeeknimehmcaaP3
set_option linter.unusedVariables false
set_option linter.unusedSimpArgs false
namespace Go.AM
open Go Go.Proofs
attribute [local go_sem] c_skip c_ops c_seq c_ite c_blk c_exit c_ret t_normal t_exit t_ret b_normal b_exit b_ret i_nil i_cons s_guard s_mov s_pick s_new s_zero s_ld s_ldr s_st s_bin s_beq s_isnil s_eqs s_un s_conv s_fa s_fld s_ia s_sli s_ext s_ifc s_mkf s_agg s_len s_mm s_nilchk s_bsl s_mk s_app s_cpy s_call s_inv cells_agg cells_int cells_bool p_get p_none o_s o_c e_0 e_1 e_2 e_3 e_4 iteC_true iteC_false grd_tt grd_tf grd_ft grd_ff grd_und bindV_some pickV_t pickV_f beq_bool conv_int un_not not_dec mm_min mm_max bv_add bv_sub bv_mul bv_eql bv_neq bv_lss bv_leq bv_gtr bv_geq f_normal f_one f_two f_three f_none fa_ptr fld_one ext_tup len_sl len_nils decide_true decide_false not_true_eq_false not_false_eq_true List.map_cons List.map_nil List.append_nil List.cons_append List.nil_append Nat.zero_add Nat.add_zero Nat.mul_one Nat.succ_ne_self if_true if_false List.getElem?_cons_zero List.getElem?_cons_succ

theorem SInts.get0 {H : Heap} {v : V} {xs : List Int} (h : SInts H v xs) (hk : 0 < xs.length) (kd : IntKind) : ∃ p, iaV 1 v (.int kd 0) = some p ∧ ldV H false 1 p = some (.int .i64 xs[0]) := h.get hk kd
theorem Heap.sub.upd_keep {H0 H H' : Heap} {n m : Nat} {b : Blk} (hf : ∀ m, m ≠ n → H' m = H m) (h : H m = some b) (hne : m ≠ n) : H' m = some b := by rw [hf m hne]; exact h
theorem name_ne {H : Heap} {n m : Nat} {b : Blk} (h1 : H n = some b) (h2 : H m = none) : n ≠ m := by rintro rfl; rw [h1] at h2; cases h2
theorem ld_mono {H H' : Heap} (hs : Heap.sub H H') {agg : Bool} {sz : Nat} {p v : V} (h : ldV H agg sz p = some v) : ldV H' agg sz p = some v := by
  cases p <;> simp only [ldV, reduceCtorEq] at h ⊢
  split at h
  · rename_i b hb
    rw [hs _ _ hb]; exact h
  · cases h
theorem map_take_succ {α β : Type} (f : α → β) (l : List α) {j : Nat} (h : j < l.length) : (l.take (j+1)).map f = (l.take j).map f ++ [f l[j]] := by
  rw [List.take_add_one, List.getElem?_eq_getElem h, List.map_append]; rfl
theorem getD_eq {xs : List Int} {k : Nat} (h : k < xs.length) : xs[k]?.getD 0 = xs[k] := by simp [h]

theorem Proper_spec {sv ev : V} {ws : List Int} {es : List (List Ed)} {H : Heap} (hs : SInts H sv ws) (he : SSecs H ev es) : ACalls Try.prog 18 [.agg [sv, ev]] H fun u H' => u = .int .i64 (properI ws es) ∧ H' = H := by
  refine ACalls.of_body hm cv18 (by simp only [List.length_cons, List.length_nil]; decide) ?_
  simp only [F18, go_sem, ↓reduceIte, Nat.reduceEqDiff, Nat.reduceAdd, reduceCtorEq]
  refine newC_intro fun n1 H1 hn1 hs1 hb1 => ?_
  simp only [ld_boxa hb1 (show 0 + 2 ≤ _ by simp), fillV, List.length_cons, List.length_nil, splice, Nat.reduceLeDiff, Nat.zero_lt_one, and_self, List.take_zero, List.take_succ_cons, List.drop_succ_cons, List.drop_zero, List.drop_nil, Nat.reduceLT, Nat.le_refl, go_sem, ↓reduceIte, Nat.reduceEqDiff, Nat.reduceAdd, reduceCtorEq]
  refine callC_pure (Shape_spec (hs.mono hs1) (SSecs.mono he hs1)) ?_
  simp only [go_sem, ↓reduceIte, Nat.reduceEqDiff, Nat.reduceAdd, reduceCtorEq]
  refine iteC_if (fun c0 => ?_) (fun c0 => ?_)
  · simp only [go_sem, ↓reduceIte, Nat.reduceEqDiff, Nat.reduceAdd, reduceCtorEq]
    refine finO_sub hs1 ⟨?_, rfl⟩
    rw [properI, if_pos c0]
  have sh := shaped_of (ws := ws) (es := es) (by omega)
  have e2 := sh.len
  simp only [ld_box hb1, SLists.len he, go_sem, ↓reduceIte, Nat.reduceEqDiff, Nat.reduceAdd, reduceCtorEq]
  obtain ⟨p0, i0, l0⟩ := (hs.mono hs1).get0 (by omega) .i64
  obtain ⟨pn, i1, l1⟩ := (hs.mono hs1).get (k := es.length) (by omega) .i64
  simp only [i0, l0, go_sem, ↓reduceIte, Nat.reduceEqDiff, Nat.reduceAdd, reduceCtorEq]
  have g0 := getD_eq (xs := ws) (k := 0) (by omega)
  have gn := getD_eq (xs := ws) (k := es.length) (by omega)
  by_cases c1 : ws[0] = 1
  case neg =>
    simp only [c1, go_sem, ↓reduceIte, Nat.reduceEqDiff, Nat.reduceAdd, reduceCtorEq]
    refine finO_sub hs1 ⟨?_, rfl⟩
    rw [properI, if_neg c0, if_pos (.inl (by rw [g0]; exact c1))]
  simp only [c1, i1, l1, ld_box hb1, go_sem, ↓reduceIte, Nat.reduceEqDiff, Nat.reduceAdd, reduceCtorEq]
  refine iteC_if (fun c2 => ?_) (fun c2 => ?_)
  · simp only [go_sem, ↓reduceIte, Nat.reduceEqDiff, Nat.reduceAdd, reduceCtorEq]
    refine finO_sub hs1 ⟨?_, rfl⟩
    rw [properI, if_neg c0, if_pos (.inr (by rw [gn]; exact c2))]
  have nn : ¬ (ws[0]?.getD 0 ≠ 1 ∨ ws[es.length]?.getD 0 ≠ 1) := by rw [g0, gn]; omega
  simp only [ld_box hb1, SLists.len he, go_sem, ↓reduceIte, Nat.reduceEqDiff, Nat.reduceAdd, reduceCtorEq]
  have bad : ∀ i, (h : i < es.length) → ¬ GoodSec (ws[i]?.getD 0) (ws[i+1]?.getD 0) es[i] → V.int .i64 5 = V.int .i64 (properI ws es) := by
    intro i h hb
    rw [properI, if_neg c0, if_neg nn, if_neg fun hh => hb (hh i h)]
  refine range_loop es.length (fun k env H' => Heap.sub H1 H' ∧ env 1 = .ptr n1 0 ∧ env 33 = ev ∧ env 34 = .int .i64 es.length ∧ env 35 = .int .i64 k ∧ ∀ i, (h : i < es.length) → i < k → GoodSec (ws[i]?.getD 0) (ws[i+1]?.getD 0) es[i]) (by have := sh.n; omega) (by decide) (by decide) ?_ ?_ ?_ ?_
  · rintro k env H' ⟨_, _, _, h7, h8, _⟩; exact ⟨h8, h7⟩
  · simp only [go_sem, ↓reduceIte, Nat.reduceEqDiff, Nat.reduceAdd, reduceCtorEq]; simp; exact Heap.sub.rfl'
  · rintro k env H2 hk ⟨hs2, h1, h33, h34, h35, hz⟩
    have hs12 := hs1.trans' hs2
    obtain ⟨pe, ue, ae1, ae2', ae0⟩ := (SSecs.mono he hs1).get hk .i64
    have ae2 := ld_mono hs2 ae2'
    have ae3 := ae0.mono hs2
    obtain ⟨pw, w1, w2⟩ := (hs.mono hs12).get (k := k) (by omega) .i64
    have gk := getD_eq (xs := ws) (k := k) (by omega)
    have gk1 := getD_eq (xs := ws) (k := k+1) (by omega)
    have pk := sh.pos k (by omega)
    have pk1 := sh.pos (k+1) (by omega)
    obtain ⟨wk, hwk⟩ : ∃ n : Nat, ws[k] = n := ⟨ws[k].toNat, by omega⟩
    obtain ⟨wk1, hwk1⟩ : ∃ n : Nat, ws[k+1] = n := ⟨ws[k+1].toNat, by omega⟩
    simp only [go_sem, ↓reduceIte, Nat.reduceEqDiff, Nat.reduceAdd, reduceCtorEq, h1, h33, h34, h35, ae1, ae2, ld_box (hs2 _ _ hb1), w1, w2, hwk]
    refine mkC_intro (Nat.le_refl _) (by omega) (by omega) fun m1 H3 hm1 hs3 hbm1 => ?_
    simp only [go_sem, ↓reduceIte, Nat.reduceEqDiff, Nat.reduceAdd, reduceCtorEq, h1, h33, h34, h35, ld_box (hs3 _ _ (hs2 _ _ hb1))]
    rw [wrapN1 (by have := sh.n; omega)]
    obtain ⟨pw', w3, w4⟩ := (hs.mono (hs12.trans' hs3)).get (k := k+1) (by omega) .i64
    simp only [w3, w4, hwk1, go_sem, ↓reduceIte, Nat.reduceEqDiff, Nat.reduceAdd, reduceCtorEq]
    refine mkC_intro (Nat.le_refl _) (by omega) (by omega) fun m2 H4 hm2 hs4 hbm2 => ?_
    have hs14 : Heap.sub H1 H4 := hs2.trans' (hs3.trans' hs4)
    have hm1' : H1 m1 = none := hs2.none' hm1
    have hm2' : H1 m2 = none := (hs2.trans' hs3).none' hm2
    have hm12 : m1 ≠ m2 := name_ne hbm1 hm2
    have ae4 : SEds H4 ue es[k] := ae3.mono (hs3.trans' hs4)
    simp only [go_sem, ↓reduceIte, Nat.reduceEqDiff, Nat.reduceAdd, reduceCtorEq, h1, h33, h34, h35, ae4.len]
    rw [flat_rep, ← marks_nil] at hbm1 hbm2
    have hbm1' := hs4 _ _ hbm1
    have hlk := sh.each k hk
    -- the edges of the section
    refine range_loop es[k].length (fun j env H' => Heap.sub H1 H' ∧ env 1 = .ptr n1 0 ∧ env 33 = ev ∧ env 34 = .int .i64 es.length ∧ env 35 = .int .i64 k ∧ env 6 = ue ∧ env 7 = .sl m1 0 wk true ∧ env 8 = .sl m2 0 wk1 true ∧ env 53 = ue ∧ env 54 = .int .i64 es[k].length ∧ env 55 = .int .i64 j ∧ SEds H' ue es[k] ∧
        H' m1 = some ⟨true, 1, bools (marks wk ((es[k].take j).map Ed.fr))⟩ ∧ H' m2 = some ⟨true, 1, bools (marks wk1 ((es[k].take j).map Ed.to))⟩ ∧
        (∀ i, (h : i < es[k].length) → i < j → 0 ≤ es[k][i].lb ∧ es[k][i].lb < 256) ∧ ∀ i, (h : i + 1 < es[k].length) → i + 1 < j → LexLt es[k][i] es[k][i+1]) (by omega) (by decide) (by decide) ?_ ?_ ?_ ?_
    · rintro j env H' ⟨_, _, _, _, _, _, _, _, _, h54, h55, _⟩; exact ⟨h55, h54⟩
    · simp only [go_sem, ↓reduceIte, Nat.reduceEqDiff, Nat.reduceAdd, reduceCtorEq, h1, h33, h34, h35]
      simp [hs14, hbm1', hbm2, ae4]
    · rintro j env H5 hj ⟨hs5, h1, h33, h34, h35, h6, h7, h8, h53, h54, h55, hu, hb1j, hb2j, hlab, hup⟩
      obtain ⟨p, q0, q1, q2, b1, b2, b3, b4, b5, b6, b7, b8⟩ := hu.get hj .i64
      simp only [go_sem, ↓reduceIte, Nat.reduceEqDiff, Nat.reduceAdd, reduceCtorEq, h1, h33, h34, h35, h6, h7, h8, h53, h54, h55, b1, b2]
      refine newC_intro fun n4 H6 hn4 hs6 hb4 => ?_
      simp only [go_sem, ↓reduceIte, Nat.reduceEqDiff, Nat.reduceAdd, reduceCtorEq]
      refine stC_intro hb4 trivial rfl (by decide) (by decide) fun H7 hb5 hf7 hs7 => ?_
      simp only [Ed.cells, fillV, List.length_cons, List.length_nil, splice, Nat.reduceLeDiff, Nat.zero_lt_one, and_self, List.take_zero, List.take_succ_cons, List.drop_succ_cons, List.drop_zero, List.drop_nil, Nat.reduceLT, Nat.le_refl, go_sem, ↓reduceIte, Nat.reduceEqDiff, Nat.reduceAdd, reduceCtorEq] at hb5
      have hs17 : Heap.sub H1 H7 := hs7 H1 (hs5.trans' hs6) (hs5.none' hn4)
      have hs57 : Heap.sub H5 H7 := hs7 H5 hs6 hn4
      have hm14 : m1 ≠ n4 := name_ne hb1j hn4
      have hm24 : m2 ≠ n4 := name_ne hb2j hn4
      have hn14 : n1 ≠ n4 := name_ne (hs5 _ _ hb1) hn4
      have hu7 := hu.mono hs57
      have hb1j := hs57 _ _ hb1j
      have hb2j := hs57 _ _ hb2j
      have gd := sh.good k hk _ (List.getElem_mem hj)
      rw [gk, gk1, hwk, hwk1] at gd
      obtain ⟨fr, hfr⟩ : ∃ n : Nat, es[k][j].fr = n := ⟨es[k][j].fr.toNat, by omega⟩
      obtain ⟨to, hto⟩ : ∃ n : Nat, es[k][j].to = n := ⟨es[k][j].to.toNat, by omega⟩
      have bad5 : ¬ GoodSec (ws[k]?.getD 0) (ws[k+1]?.getD 0) es[k] → finO (.int .i64 5) H7 fun u H' => u = .int .i64 (properI ws es) ∧ H' = H := fun hb => finO_sub (hs1.trans' hs17) ⟨bad k hk hb, rfl⟩
      simp only [go_sem, ↓reduceIte, Nat.reduceEqDiff, Nat.reduceAdd, reduceCtorEq, h1, h33, h34, h35, h6, h7, h8, h53, h54, h55, ld_box hb5]
      by_cases d1 : es[k][j].lb < 0
      · simp only [d1, go_sem, ↓reduceIte, Nat.reduceEqDiff, Nat.reduceAdd, reduceCtorEq]
        exact bad5 fun g => by have := g.lab _ (List.getElem_mem hj); omega
      simp only [d1, go_sem, ↓reduceIte, Nat.reduceEqDiff, Nat.reduceAdd, reduceCtorEq, h1, h33, h34, h35, h6, h7, h8, h53, h54, h55, ld_box hb5]
      by_cases d2 : 256 ≤ es[k][j].lb
      · simp only [d2, go_sem, ↓reduceIte, Nat.reduceEqDiff, Nat.reduceAdd, reduceCtorEq]
        exact bad5 fun g => by have := g.lab _ (List.getElem_mem hj); omega
      simp only [d2, go_sem, ↓reduceIte, Nat.reduceEqDiff, Nat.reduceAdd, reduceCtorEq, h1, h33, h34, h35, h6, h7, h8, h53, h54, h55, ld_box hb5]
      by_cases d3 : (0 : Int) < j
      · obtain ⟨j', rfl⟩ : ∃ j', j = j' + 1 := ⟨j - 1, by omega⟩
        obtain ⟨p', r0, r1, r2, x1, x2, _⟩ := hu7.get (k := j') (by omega) .i64
        have hw' : IntKind.i64.wrap ((j' + 1 : Nat) - 1 : Int) = j' := by rw [wrapI (by omega) (by omega)]; omega
        simp only [d3, go_sem, ↓reduceIte, Nat.reduceEqDiff, Nat.reduceAdd, reduceCtorEq, h1, h33, h34, h35, h6, h7, h8, h53, h54, h55, ld_box hb5, hw', x1, x2, ld_boxa hb5 (show 0 + 3 ≤ _ by simp), fillV, List.length_cons, List.length_nil, splice, Nat.reduceLeDiff, Nat.zero_lt_one, and_self, List.take_zero, List.take_succ_cons, List.drop_succ_cons, List.drop_zero, List.drop_nil, Nat.reduceLT, Nat.le_refl]
        refine callC_pure (less_spec es[k][j'] es[k][j'+1] H7) ?_
        simp only [go_sem, ↓reduceIte, Nat.reduceEqDiff, Nat.reduceAdd, reduceCtorEq]
        refine iteC_if (fun d4 => ?_) (fun d4 => ?_)
        · simp only [go_sem, ↓reduceIte, Nat.reduceEqDiff, Nat.reduceAdd, reduceCtorEq]
          exact bad5 fun g => (less_ge _ _).1 d4 (g.up j' hj)
        have hlex : LexLt es[k][j'] es[k][j'+1] := Classical.byContradiction fun hh => d4 ((less_ge _ _).2 hh)
        have hup' : ∀ i, (h : i + 1 < es[k].length) → i + 1 < j' + 1 + 1 → LexLt es[k][i] es[k][i+1] := by
          intro i h hi
          rcases Nat.lt_succ_iff_lt_or_eq.1 hi with hi | hi
          · exact hup i h hi
          · obtain rfl : i = j' := by omega
            exact hlex
        simp only [go_sem, ↓reduceIte, Nat.reduceEqDiff, Nat.reduceAdd, reduceCtorEq, h1, h33, h34, h35, h6, h7, h8, h53, h54, h55, ld_box hb5, hfr, hto, ia_nat (show fr < wk by omega), ia_nat (show to < wk1 by omega), sameName, beq_self_eq_true, true_and]
        refine stC_intro hb1j ⟨by simp only [go_sem, ↓reduceIte, Nat.reduceEqDiff, Nat.reduceAdd, reduceCtorEq]; exact hm14.symm, trivial⟩ rfl (by decide) (by rw [bools_len, marks_len]; omega) fun H8 hb8 hf8 hs8 => ?_
        have hs18 := hs8 H1 hs17 hm1'
        have hb2j8 := Heap.sub.upd_keep (H0 := H8) hf8 hb2j hm12.symm
        rw [cells_bool, splice_one _ _ _ (by rw [bools_len, marks_len]; omega), bools_set, marks_snoc] at hb8
        simp only [go_sem, ↓reduceIte, Nat.reduceEqDiff, Nat.reduceAdd, reduceCtorEq, h1, h33, h34, h35, h6, h7, h8, h53, h54, h55, hto, ia_nat (show to < wk1 by omega)]
        refine stC_intro hb2j8 trivial rfl (by decide) (by rw [bools_len, marks_len]; omega) fun H9 hb9 hf9 hs9 => ?_
        have hs19 := hs9 H1 hs18 hm2'
        have hb19 := Heap.sub.upd_keep (H0 := H9) hf9 hb8 hm12
        rw [cells_bool, splice_one _ _ _ (by rw [bools_len, marks_len]; omega), bools_set, marks_snoc] at hb9
        simp only [go_sem, ↓reduceIte, Nat.reduceEqDiff, Nat.reduceAdd, reduceCtorEq, h1, h33, h34, h35, h6, h7, h8, h53, h54, h55]
        refine ⟨by trivial, hs19, by trivial, by trivial, by trivial, by trivial, by trivial, by trivial, by trivial, by trivial, by trivial, ae0.mono hs19, ?_, ?_, fun i h hi => ?_, hup'⟩
        · rw [map_take_succ _ _ hj, hfr]; exact hb19
        · rw [map_take_succ _ _ hj, hto]; exact hb9
        · rcases Nat.lt_succ_iff_lt_or_eq.1 hi with hi | rfl
          · exact hlab i h hi
          · omega
      · have hup' : ∀ i, (h : i + 1 < es[k].length) → i + 1 < j + 1 → LexLt es[k][i] es[k][i+1] := fun i h hi => by omega
        simp only [d3, go_sem, ↓reduceIte, Nat.reduceEqDiff, Nat.reduceAdd, reduceCtorEq]
        simp only [go_sem, ↓reduceIte, Nat.reduceEqDiff, Nat.reduceAdd, reduceCtorEq, h1, h33, h34, h35, h6, h7, h8, h53, h54, h55, ld_box hb5, hfr, hto, ia_nat (show fr < wk by omega), ia_nat (show to < wk1 by omega), sameName, beq_self_eq_true, true_and]
        refine stC_intro hb1j ⟨by simp only [go_sem, ↓reduceIte, Nat.reduceEqDiff, Nat.reduceAdd, reduceCtorEq]; exact hm14.symm, trivial⟩ rfl (by decide) (by rw [bools_len, marks_len]; omega) fun H8 hb8 hf8 hs8 => ?_
        have hs18 := hs8 H1 hs17 hm1'
        have hb2j8 := Heap.sub.upd_keep (H0 := H8) hf8 hb2j hm12.symm
        rw [cells_bool, splice_one _ _ _ (by rw [bools_len, marks_len]; omega), bools_set, marks_snoc] at hb8
        simp only [go_sem, ↓reduceIte, Nat.reduceEqDiff, Nat.reduceAdd, reduceCtorEq, h1, h33, h34, h35, h6, h7, h8, h53, h54, h55, hto, ia_nat (show to < wk1 by omega)]
        refine stC_intro hb2j8 trivial rfl (by decide) (by rw [bools_len, marks_len]; omega) fun H9 hb9 hf9 hs9 => ?_
        have hs19 := hs9 H1 hs18 hm2'
        have hb19 := Heap.sub.upd_keep (H0 := H9) hf9 hb8 hm12
        rw [cells_bool, splice_one _ _ _ (by rw [bools_len, marks_len]; omega), bools_set, marks_snoc] at hb9
        simp only [go_sem, ↓reduceIte, Nat.reduceEqDiff, Nat.reduceAdd, reduceCtorEq, h1, h33, h34, h35, h6, h7, h8, h53, h54, h55]
        refine ⟨by trivial, hs19, by trivial, by trivial, by trivial, by trivial, by trivial, by trivial, by trivial, by trivial, by trivial, ae0.mono hs19, ?_, ?_, fun i h hi => ?_, hup'⟩
        · rw [map_take_succ _ _ hj, hfr]; exact hb19
        · rw [map_take_succ _ _ hj, hto]; exact hb9
        · rcases Nat.lt_succ_iff_lt_or_eq.1 hi with hi | rfl
          · exact hlab i h hi
          · omega
    · rintro env H5 ⟨hs5, h1, h33, h34, h35, h6, h7, h8, h53, h54, h55, hu, hb1j, hb2j, hlab, hup⟩
      rw [List.take_length] at hb1j hb2j
      simp only [go_sem, ↓reduceIte, Nat.reduceEqDiff, Nat.reduceAdd, reduceCtorEq, h1, h33, h34, h35, h6, h7, h8]
      have c1' : Sl H5 (.sl m1 0 wk true) 1 (marks wk (es[k].map Ed.fr)).length (bools (marks wk (es[k].map Ed.fr))) := ⟨by rw [bools_len]; omega, by rw [marks_len]; omega, .inr ⟨m1, 0, true, _, by rw [marks_len], hb1j, rfl, .inr (by rw [bools_len]; omega), fun j hj => by simp⟩⟩
      have c2' : Sl H5 (.sl m2 0 wk1 true) 1 (marks wk1 (es[k].map Ed.to)).length (bools (marks wk1 (es[k].map Ed.to))) := ⟨by rw [bools_len]; omega, by rw [marks_len]; omega, .inr ⟨m2, 0, true, _, by rw [marks_len], hb2j, rfl, .inr (by rw [bools_len]; omega), fun j hj => by simp⟩⟩
      refine callC_pure (Contains_spec c1') ?_
      simp only [go_sem, ↓reduceIte, Nat.reduceEqDiff, Nat.reduceAdd, reduceCtorEq, h7, h8]
      by_cases d5 : false ∈ marks wk (es[k].map Ed.fr)
      · simp only [d5, go_sem, ↓reduceIte, Nat.reduceEqDiff, Nat.reduceAdd, reduceCtorEq]
        refine finO_sub (hs1.trans' hs5) ⟨bad k hk fun g => ?_, rfl⟩
        obtain ⟨v, v1, v2, v3⟩ := (marks_false _ _).1 d5
        obtain ⟨e, he1, he2⟩ := g.out v v1 (by rw [gk, hwk]; exact v2)
        exact v3 (he2 ▸ List.mem_map_of_mem he1)
      simp only [d5, go_sem, ↓reduceIte, Nat.reduceEqDiff, Nat.reduceAdd, reduceCtorEq, h7, h8]
      refine callC_pure (Contains_spec c2') ?_
      simp only [go_sem, ↓reduceIte, Nat.reduceEqDiff, Nat.reduceAdd, reduceCtorEq]
      refine iteC_if (fun d6 => ?_) (fun d6 => ?_)
      · simp only [go_sem, ↓reduceIte, Nat.reduceEqDiff, Nat.reduceAdd, reduceCtorEq]
        refine finO_sub (hs1.trans' hs5) ⟨bad k hk fun g => ?_, rfl⟩
        obtain ⟨v, v1, v2, v3⟩ := (marks_false _ _).1 d6
        obtain ⟨e, he1, he2⟩ := g.inn v v1 (by rw [gk1, hwk1]; exact v2)
        exact v3 (he2 ▸ List.mem_map_of_mem he1)
      simp only [go_sem, ↓reduceIte, Nat.reduceEqDiff, Nat.reduceAdd, reduceCtorEq, h1, h33, h34, h35]
      refine ⟨by trivial, hs5, by trivial, by trivial, by trivial, by trivial, fun i h hi => ?_⟩
      rcases Nat.lt_succ_iff_lt_or_eq.1 hi with hi | rfl
      · exact hz i h hi
      refine ⟨fun e he => ?_, fun j h => hup j h h, fun v v1 v2 => ?_, fun v v1 v2 => ?_⟩
      · obtain ⟨j, hj, rfl⟩ := List.getElem_of_mem he; exact hlab j hj hj
      · rw [gk, hwk] at v2
        have : v ∈ es[i].map Ed.fr := Classical.byContradiction fun hh => d5 ((marks_false _ _).2 ⟨v, v1, v2, hh⟩)
        obtain ⟨e, he1, he2⟩ := List.mem_map.1 this
        exact ⟨e, he1, he2⟩
      · rw [gk1, hwk1] at v2
        have : v ∈ es[i].map Ed.to := Classical.byContradiction fun hh => d6 ((marks_false _ _).2 ⟨v, v1, v2, hh⟩)
        obtain ⟨e, he1, he2⟩ := List.mem_map.1 this
        exact ⟨e, he1, he2⟩
  · rintro env H' ⟨hs2, h1, h33, h34, h35, hz⟩
    simp only [go_sem, ↓reduceIte, Nat.reduceEqDiff, Nat.reduceAdd, reduceCtorEq]
    refine finO_sub (hs1.trans' hs2) ⟨?_, rfl⟩
    rw [properI, if_neg c0, if_neg nn, if_pos fun i h => hz i h h]
end Go.AM
