/- codewrightref46.ForwardNat. Conditions: as stated. -/
import Derived.Test.YtopeeknimehmcaaM1
import Derived.Test.YtopeeknimehmcaaR4
set_option linter.unusedVariables false
set_option linter.unusedSimpArgs false
namespace Go.AM
open Go Go.Proofs
attribute [local go_sem] c_skip c_ops c_seq c_ite c_blk c_exit c_ret t_normal t_exit t_ret b_normal b_exit b_ret i_nil i_cons s_guard s_mov s_pick s_new s_zero s_ld s_ldr s_st s_bin s_beq s_isnil s_eqs s_un s_conv s_fa s_fld s_ia s_sli s_ext s_ifc s_mkf s_agg s_len s_mm s_nilchk s_bsl s_mk s_app s_cpy s_call s_inv cells_agg cells_int cells_bool p_get p_none o_s o_c e_0 e_1 e_2 e_3 e_4 iteC_true iteC_false grd_tt grd_tf grd_ft grd_ff grd_und bindV_some pickV_t pickV_f beq_bool conv_int un_not not_dec mm_min mm_max bv_add bv_sub bv_mul bv_eql bv_neq bv_lss bv_leq bv_gtr bv_geq f_normal f_one f_two f_three f_none fa_ptr fld_one ext_tup len_sl len_nils decide_true decide_false not_true_eq_false not_false_eq_true List.map_cons List.map_nil List.append_nil List.cons_append List.nil_append Nat.zero_add Nat.add_zero Nat.mul_one Nat.succ_ne_self if_true if_false List.getElem?_cons_zero List.getElem?_cons_succ

/-- codewrightref46.ForwardNat -/
def F67 : AF := ⟨95, [(4, none)], (.seq (.ops [⟨none, false, (some 2), (.new (.s 0))⟩, ⟨none, false, (some 4), (.mov (.c .nils))⟩]) (.seq (.ops [⟨none, false, (some 10), (.fa 0 (.s 2))⟩, ⟨none, false, (some 11), (.ld false 1 (.s 10) none)⟩, ⟨none, false, (some 12), (.len (.s 11))⟩, ⟨none, false, (some 13), (.mk 1 24 [.nils] (.s 12) (.s 12))⟩, ⟨none, false, (some 5), (.mov (.s 13))⟩]) (.seq (.seq (.ops [⟨none, false, (some 6), (.mov (.c (.int .i64 (0))))⟩]) (.blk 0 (.loop (.seq (.seq (.ops [⟨none, false, (some 14), (.mov (.s 6))⟩, ⟨none, false, (some 15), (.fa 0 (.s 2))⟩, ⟨none, false, (some 16), (.ld false 1 (.s 15) none)⟩, ⟨none, false, (some 17), (.len (.s 16))⟩, ⟨none, false, (some 18), (.bin .lss (.s 14) (.s 17))⟩]) (.ite (.s 18) .skip (.exit 0))) (.seq (.blk 1 (.ops [⟨none, false, (some 21), (.mov (.s 5))⟩, ⟨none, false, (some 22), (.mov (.s 6))⟩, ⟨none, false, (some 23), (.fa 0 (.s 2))⟩, ⟨none, false, (some 24), (.ld false 1 (.s 23) none)⟩, ⟨none, false, (some 25), (.mov (.s 6))⟩, ⟨none, false, (some 26), (.ia 1 (.s 24) (.s 25))⟩, ⟨none, false, (some 27), (.ld false 1 (.s 26) none)⟩, ⟨none, false, (some 28), (.mk 1 24 [.nils] (.s 27) (.s 27))⟩, ⟨none, false, (some 29), (.ia 1 (.s 21) (.s 22))⟩, ⟨none, false, none, (.st 1 (.s 29) (.s 28) [])⟩])) (.ops [⟨none, false, (some 19), (.mov (.s 6))⟩, ⟨none, false, (some 20), (.bin .add (.s 19) (.c (.int .i64 (1))))⟩, ⟨none, false, (some 6), (.mov (.s 20))⟩])))))) (.seq (.ops [⟨none, false, (some 30), (.mov (.s 5))⟩, ⟨none, false, (some 31), (.ia 1 (.s 30) (.c (.int .i64 (0))))⟩, ⟨none, false, (some 32), (.ld false 1 (.s 31) none)⟩, ⟨none, true, (some 33), (.call (.c (.fn 97 [])) [(.c (.int .u64 (1)))])⟩, ⟨none, false, (some 34), (.ia 1 (.s 32) (.c (.int .i64 (0))))⟩, ⟨none, false, none, (.st 1 (.s 34) (.s 33) [])⟩]) (.seq (.seq (.ops [⟨none, false, (some 7), (.mov (.c (.int .i64 (0))))⟩]) (.blk 2 (.loop (.seq (.seq (.ops [⟨none, false, (some 35), (.mov (.s 7))⟩, ⟨none, false, (some 36), (.fa 1 (.s 2))⟩, ⟨none, false, (some 37), (.ld false 1 (.s 36) none)⟩, ⟨none, false, (some 38), (.len (.s 37))⟩, ⟨none, false, (some 39), (.bin .lss (.s 35) (.s 38))⟩]) (.ite (.s 39) .skip (.exit 2))) (.seq (.blk 3 (.seq (.ops [⟨none, false, (some 8), (.mov (.c (.int .i64 (0))))⟩]) (.blk 4 (.loop (.seq (.seq (.ops [⟨none, false, (some 42), (.mov (.s 8))⟩, ⟨none, false, (some 43), (.fa 1 (.s 2))⟩, ⟨none, false, (some 44), (.ld false 1 (.s 43) none)⟩, ⟨none, false, (some 45), (.mov (.s 7))⟩, ⟨none, false, (some 46), (.ia 1 (.s 44) (.s 45))⟩, ⟨none, false, (some 47), (.ld false 1 (.s 46) none)⟩, ⟨none, false, (some 48), (.len (.s 47))⟩, ⟨none, false, (some 49), (.bin .lss (.s 42) (.s 48))⟩]) (.ite (.s 49) .skip (.exit 4))) (.seq (.blk 5 (.seq (.ops [⟨none, false, (some 52), (.fa 1 (.s 2))⟩, ⟨none, false, (some 53), (.ld false 1 (.s 52) none)⟩, ⟨none, false, (some 54), (.mov (.s 7))⟩, ⟨none, false, (some 55), (.ia 1 (.s 53) (.s 54))⟩, ⟨none, false, (some 56), (.ld false 1 (.s 55) none)⟩, ⟨none, false, (some 57), (.mov (.s 8))⟩, ⟨none, false, (some 58), (.ia 3 (.s 56) (.s 57))⟩, ⟨none, false, (some 59), (.ld true 3 (.s 58) none)⟩, ⟨none, false, (some 9), (.zero [(.int .i64 (0)), (.int .i64 (0)), (.int .i64 (0))])⟩, ⟨none, false, none, (.st 3 (.s 9) (.s 59) [])⟩]) (.ops [⟨none, false, (some 60), (.mov (.s 5))⟩, ⟨none, false, (some 61), (.mov (.s 7))⟩, ⟨none, false, (some 62), (.bin .add (.s 61) (.c (.int .i64 (1))))⟩, ⟨none, false, (some 63), (.ia 1 (.s 60) (.s 62))⟩, ⟨none, false, (some 65), (.fa 2 (.s 9))⟩, ⟨none, false, (some 67), (.mov (.s 5))⟩, ⟨none, false, (some 68), (.mov (.s 7))⟩, ⟨none, false, (some 69), (.bin .add (.s 68) (.c (.int .i64 (1))))⟩, ⟨none, false, (some 70), (.ia 1 (.s 67) (.s 69))⟩, ⟨none, false, (some 72), (.fa 2 (.s 9))⟩, ⟨none, false, (some 76), (.mov (.s 5))⟩, ⟨none, false, (some 77), (.mov (.s 7))⟩, ⟨none, false, (some 78), (.ia 1 (.s 76) (.s 77))⟩, ⟨none, false, (some 80), (.fa 0 (.s 9))⟩, ⟨none, false, (some 84), (.mov (.s 1))⟩, ⟨none, false, (some 85), (.mov (.s 7))⟩, ⟨none, false, (some 86), (.ia 1 (.s 84) (.s 85))⟩, ⟨none, false, (some 88), (.mov (.s 8))⟩, ⟨none, false, (some 64), (.ld false 1 (.s 63) none)⟩, ⟨none, false, (some 66), (.ld false 1 (.s 65) none)⟩, ⟨none, false, (some 71), (.ld false 1 (.s 70) none)⟩, ⟨none, false, (some 73), (.ld false 1 (.s 72) none)⟩, ⟨none, false, (some 74), (.ia 1 (.s 71) (.s 73))⟩, ⟨none, false, (some 75), (.ld false 1 (.s 74) none)⟩, ⟨none, false, (some 79), (.ld false 1 (.s 78) none)⟩, ⟨none, false, (some 81), (.ld false 1 (.s 80) none)⟩, ⟨none, false, (some 82), (.ia 1 (.s 79) (.s 81))⟩, ⟨none, false, (some 83), (.ld false 1 (.s 82) none)⟩, ⟨none, false, (some 87), (.ld false 1 (.s 86) none)⟩, ⟨none, false, (some 89), (.ia 1 (.s 87) (.s 88))⟩, ⟨none, false, (some 90), (.ld false 1 (.s 89) none)⟩, ⟨none, true, (some 91), (.call (.c (.fn 89 [])) [(.s 83), (.s 90)])⟩, ⟨none, true, (some 92), (.call (.c (.fn 87 [])) [(.s 75), (.s 91)])⟩, ⟨none, false, (some 93), (.ia 1 (.s 64) (.s 66))⟩, ⟨none, false, none, (.st 1 (.s 93) (.s 92) [])⟩]))) (.ops [⟨none, false, (some 50), (.mov (.s 8))⟩, ⟨none, false, (some 51), (.bin .add (.s 50) (.c (.int .i64 (1))))⟩, ⟨none, false, (some 8), (.mov (.s 51))⟩]))))))) (.ops [⟨none, false, (some 40), (.mov (.s 7))⟩, ⟨none, false, (some 41), (.bin .add (.s 40) (.c (.int .i64 (1))))⟩, ⟨none, false, (some 7), (.mov (.s 41))⟩])))))) (.seq (.ops [⟨none, false, (some 94), (.mov (.s 5))⟩, ⟨none, false, (some 4), (.mov (.s 94))⟩]) .ret))))))⟩
theorem cv67 : cvF Try.prog 67 = some F67 := by kernel_rfl


theorem Tab.toV {H0 H : Heap} {N : Nat} {f : Bool} {us : List V} {T : List (List V)} {Q : Nat → Nat → Heap → V → Prop} (t : Tab H0 H N f us T) (hq : ∀ i j, (h : i < T.length) → (h' : j < T[i].length) → Q i j H0 T[i][j]) : VTab H0 H0 H N f us T Q := by
  refine ⟨t, Heap.sub.rfl', t.sub, t.oN, fun i n l hu => ?_, hq⟩
  have hi : i < T.length := by rw [← t.len]; exact (List.getElem?_eq_some_iff.1 hu).1
  rcases t.row i hi with ⟨a, _⟩ | ⟨m, a, b, c, _⟩
  · rw [hu] at a; cases a
  · rw [sl_name hu a]; exact c
theorem VTab.lay {H0 G H H' : Heap} {N : Nat} {f : Bool} {us : List V} {T : List (List V)} {Q Q' : Nat → Nat → Heap → V → Prop} (t : VTab H0 G H N f us T Q) {i m : Nat} {ys : List V} (h : i < T.length) (hm : H m = none)
    (hN : H' N = some ⟨true, 1, us.set i (.sl m 0 ys.length f)⟩) (h1 : H' m = some ⟨true, 1, ys⟩) (h2 : ∀ k b, k ≠ N → k ≠ m → H k = some b → H' k = some b) (hy : ∀ j, (h' : j < ys.length) → Q' i j G ys[j]) (hq : ∀ i' j v, i' ≠ i → i' < T.length → Q i' j G v → Q' i' j G v) :
    VTab H0 G H' N f (us.set i (.sl m 0 ys.length f)) (T.set i ys) Q' := by
  have hgm : G m = none := t.gh.none' hm
  refine ⟨t.tab.lay h hm hN h1 fun k b a1 a2 _ hb => h2 k b a1 a2 hb, t.g0, fun q b hq => ?_, t.gN, fun i' n l hu => ?_, fun i' j a b => ?_⟩
  · have q1 : q ≠ N := by rintro rfl; rw [t.gN] at hq; cases hq
    have q2 : q ≠ m := by rintro rfl; rw [hgm] at hq; cases hq
    exact h2 q b q1 q2 (t.gh q b hq)
  · by_cases e : i = i'
    · subst e
      rw [List.getElem?_set_self (by rw [t.tab.len]; exact h)] at hu
      have : m = n := by injection hu with hu; injection hu
      subst this; exact hgm
    · rw [List.getElem?_set_ne e] at hu; exact t.gr _ _ _ hu
  · rw [List.length_set] at a
    by_cases e : i = i'
    · subst e
      simp only [List.getElem_set_self] at b ⊢
      exact hy j b
    · simp only [List.getElem_set_ne e] at b ⊢
      exact hq _ _ _ (fun h => e h.symm) a (t.rep _ _ _ _)
/-- a new block that the items may hold on to -/
theorem VTab.new {H0 G H H' : Heap} {N n : Nat} {f : Bool} {us : List V} {T : List (List V)} {Q : Nat → Nat → Heap → V → Prop} {b : Blk} (t : VTab H0 G H N f us T Q) (hq : ∀ {G G' : Heap}, Heap.sub G G' → ∀ i j v, Q i j G v → Q i j G' v) (hn : H n = none) (hs : Heap.sub H H') (hb : H' n = some b) :
    ∃ G', Heap.sub G G' ∧ G' n = some b ∧ VTab H0 G' H' N f us T Q := by
  have hg : G n = none := t.gh.none' hn
  have h1 : Heap.sub G (G.upd n (some b)) := Heap.sub_upd hg
  refine ⟨G.upd n (some b), h1, by simp [Heap.upd], t.call (hq h1) hs h1 (fun m c hm => ?_) fun m hm hm' => ?_⟩
  · by_cases e : m = n
    · subst e
      simp [Heap.upd] at hm
      rw [hb, hm]
    · simp [Heap.upd, e] at hm
      exact hs _ _ (t.gh _ _ hm)
  · have e : m ≠ n := by rintro rfl; exact hm' hn
    simp [Heap.upd, e, hm]

theorem SNat.nils (H : Heap) (L : Nat) : CNat H .nils 0 L := ⟨[], ⟨by simp [u32s], by simp, .inl ⟨rfl, rfl⟩⟩, fun x hx => (by cases hx), fun x hx => (by cases hx), rfl, by simp⟩

theorem rForward_spec {sv ev vv : V} {ws : List Int} {es : List (List Ed)} {xss : List (List V)} {z : Nat → Nat → Int} {H : Heap} {E : Nat} (hE : E = 262144) (hs : SInts H sv ws) (he : SSecs H ev es) (h0 : shapeI ws es = 0) (hv : SRowsV H vv xss)
    (hl : xss.length = es.length) (hx : ∀ i, (h : i < es.length) → (xss[i]'(by omega)).length = es[i].length) (hw : ∀ i j, (h : i < xss.length) → (h' : j < xss[i].length) → SNat H xss[i][j] (z i j) 2) :
    ACalls Try.prog 67 [.agg [sv, ev], vv] H fun u H' => Heap.sub H H' ∧ ∃ N us T G, u = .sl N 0 (es.length + 1) true ∧ VTab H G H' N true us T (fun r v G x => CNat G x (rowF ctS z es r v) (2 + 5 * (es.length * E))) ∧ T.length = es.length + 1 ∧ ∀ i, (h : i < T.length) → T[i].length = (ws[i]?.getD 0).toNat := by
  refine ACalls.of_body hm cv67 (by simp only [List.length_cons, List.length_nil]; decide) ?_
  have sh := shaped_of h0
  have hn := sh.n
  have e2 := sh.len
  have hEs : es.length * E ≤ 16777216 := by subst hE; omega
  simp only [F67, go_sem, ↓reduceIte, Nat.reduceEqDiff, Nat.reduceAdd, reduceCtorEq]
  refine newC_intro fun b2 H1 hn1 hs1 hb2 => ?_
  have hs' := hs.mono hs1
  have he' := SSecs.mono he hs1
  simp only [go_sem, ↓reduceIte, Nat.reduceEqDiff, Nat.reduceAdd, reduceCtorEq, ld_box hb2, hs'.len]
  refine mkC_intro (Nat.le_refl _) (by omega) (by omega) fun N H2 hN hs2 hbN => ?_
  rw [flat_rep] at hbN
  simp only [go_sem, ↓reduceIte, Nat.reduceEqDiff, Nat.reduceAdd, reduceCtorEq, beq_self_eq_true]
  refine blk_join (fun env H' => env 1 = vv ∧ env 2 = .ptr b2 0 ∧ env 5 = .sl N 0 ws.length true ∧ ∃ us, Tab H1 H' N true us ((List.range ws.length).map fun i => List.replicate (ws[i]?.getD 0).toNat .nils)) ?_ ?_
  · refine loop_count ws.length (fun k env H' => env 1 = vv ∧ env 2 = .ptr b2 0 ∧ env 5 = .sl N 0 ws.length true ∧ env 6 = .int .i64 k ∧ ∃ us, Tab H1 H' N true us (partR ws.length (fun i => List.replicate (ws[i]?.getD 0).toNat .nils) k 0)) ?_ ?_ ?_
    · simp only [go_sem, ↓reduceIte, Nat.reduceEqDiff, Nat.reduceAdd, reduceCtorEq]
      exact ⟨by trivial, by trivial, by trivial, rfl, _, partR_startT hs2 hN hbN⟩
    · rintro k env H3 hk ⟨h1, h2, h5, h6, us, tab⟩
      have hlt : (k : Int) < ws.length := by omega
      have pk := sh.pos k hk
      obtain ⟨wk, hwk⟩ : ∃ n : Nat, ws[k] = n := ⟨ws[k].toNat, by omega⟩
      obtain ⟨p, a1, a2⟩ := (hs'.mono tab.sub).get hk .i64
      simp only [go_sem, ↓reduceIte, Nat.reduceEqDiff, Nat.reduceAdd, reduceCtorEq, h1, h2, h5, h6, ld_box (tab.sub _ _ hb2), hs'.len, hlt, a1, a2, hwk]
      refine mkC_intro (Nat.le_refl _) (by omega) (by omega) fun m H4 hm4 hs4 hbm => ?_
      rw [flat_rep] at hbm
      have tab4 := tab.grow hs4
      have hmN : N ≠ m := by rintro rfl; rw [tab.outer] at hm4; cases hm4
      have hul : us.length = ws.length := by rw [tab.len, partR_len]
      simp only [go_sem, ↓reduceIte, Nat.reduceEqDiff, Nat.reduceAdd, reduceCtorEq, h1, h2, h5, h6, ia_nat hk, beq_self_eq_true]
      refine stC_intro tab4.outer trivial rfl (by decide) (by show k + 1 ≤ us.length; omega) fun H5 hb5 hf5 hs5 => ?_
      simp only [go_sem, ↓reduceIte, Nat.reduceEqDiff, Nat.reduceAdd, reduceCtorEq, h1, h2, h5, h6]
      rw [wrapN1 (by omega)]
      have tab5 := tab.lay (H' := H5) (i := k) (m := m) (ys := List.replicate wk .nils) (by rw [partR_len]; exact hk) hm4 (by
        rw [hb5, show V.cells (V.sl m 0 wk true) = [V.sl m 0 wk true] from rfl, splice_one _ _ _ (by omega), List.length_replicate]) (by rw [hf5 m (Ne.symm hmN)]; exact hbm) (fun q b h1 h2 h3 hb => by rw [hf5 q h1]; exact hs4 q b hb)
      have hfull : (fun i => List.replicate (ws[i]?.getD 0).toNat V.nils) k = List.replicate wk .nils := by simp [hk, hwk]
      rw [← hfull, partR_lay hk] at tab5
      exact ⟨by trivial, by trivial, by trivial, by trivial, _, tab5⟩
    · rintro env H3 ⟨h1, h2, h5, h6, us, tab⟩
      rw [partR_done] at tab
      simp only [go_sem, ↓reduceIte, Nat.reduceEqDiff, Nat.reduceAdd, reduceCtorEq, h1, h2, h5, h6, ld_box (tab.sub _ _ hb2), hs'.len, Int.lt_irrefl]
      exact ⟨by trivial, by trivial, by trivial, us, tab⟩
  rintro env H3 ⟨h1, h2, h5, us, tab0⟩
  obtain ⟨T, hTe⟩ : ∃ T, T = (List.range ws.length).map fun i => List.replicate (ws[i]?.getD 0).toNat V.nils := ⟨_, rfl⟩
  rw [← hTe] at tab0
  have hT : T.length = ws.length := by rw [hTe]; simp
  have hTr : ∀ i, (h : i < T.length) → T[i] = List.replicate (ws[i]?.getD 0).toNat V.nils := fun i h => by subst hTe; simp
  have hTl : ∀ i, (h : i < T.length) → T[i].length = (ws[i]?.getD 0).toNat := fun i h => by rw [hTr i h]; simp
  have tab : VTab H1 H1 H3 N true us T (fun r v G x => CNat G x 0 2) := tab0.toV fun i j h h' => by
    have : T[i][j] = V.nils := by
      have h'' := h'
      simp only [hTr i h] at h'' ⊢
      simp
    rw [this]; exact SNat.nils _ _
  have p0 := sh.pos 0 (by omega)
  have hT0 : 0 < T.length := by omega
  have hT00 : 0 < T[0].length := by rw [hTl 0 hT0, getD_eq (by omega)]; omega
  obtain ⟨n, hun, hbn, _, hnN, hia, hld⟩ := tab.tab.at (i := 0) (j := 0) hT0 hT00 .i64
  have hia' : iaV 1 (.sl n 0 T[0].length true) (.int .i64 0) = some (.ptr n 0) := hia
  have ia0 : iaV 1 (.sl N 0 ws.length true) (.int .i64 0) = some (.ptr N 0) := by
    have := ia_nat (sz := 1) (n := N) (o := 0) (f := true) (k := .i64) (show 0 < ws.length by omega)
    simpa using this
  simp only [go_sem, ↓reduceIte, Nat.reduceEqDiff, Nat.reduceAdd, reduceCtorEq, h1, h2, h5, ia0, ld_box tab.tab.outer, hun]
  refine callC_in (rOf_spec (by decide) (by decide) _) tab.gh fun x1 H4 G4 hs4 ga gb gc hx1 => ?_
  have tab4 := tab.call (G' := G4) (H' := H4) (fun _ _ _ h => h.mono ga) hs4 ga gb gc
  obtain ⟨n', hun', hbn', _, _, _, _⟩ := tab4.tab.at (i := 0) (j := 0) hT0 hT00 .i64
  obtain rfl : n = n' := sl_name hun hun'
  simp only [go_sem, ↓reduceIte, Nat.reduceEqDiff, Nat.reduceAdd, reduceCtorEq, hia']
  refine stC_intro hbn' trivial (by rw [hx1.nat.cells]; rfl) (by decide) (by show 0 + 1 ≤ _; omega) fun H5 hb5 hf5 hs5 => ?_
  rw [hx1.nat.cells, splice_one _ _ _ hT00] at hb5
  have tab5 : VTab H1 G4 H5 N true us (T.set 0 (T[0].set 0 x1)) (fun r v G x => CNat G x (stF ctS z es 0 0 r v) (2 + 5 * (0 * E))) := by
    refine tab4.set (i := 0) (j := 0) hT0 hun hT00 hb5 hf5 ?_ ?_
    · have : stF ctS z es 0 0 0 0 = 1 := rfl
      rw [this]; exact hx1.up (by omega)
    · intro r v w hne h
      have : stF ctS z es 0 0 r v = 0 := by
        unfold stF
        by_cases h1 : r ≤ 0
        · have : r = 0 := by omega
          subst this
          rw [if_pos h1]
          exact if_neg (fun h => hne ⟨rfl, h⟩)
        · rw [if_neg h1]
          split
          · rfl
          · rfl
      rw [this]; exact h.up (by omega)
  simp only [go_sem, ↓reduceIte, Nat.reduceEqDiff, Nat.reduceAdd, reduceCtorEq, h1, h2, h5]
  refine loop_count es.length (fun k env H' => env 1 = vv ∧ env 2 = .ptr b2 0 ∧ env 5 = .sl N 0 ws.length true ∧ env 7 = .int .i64 k ∧ ∃ T G, VTab H1 G H' N true us T (fun r v G x => CNat G x (stF ctS z es k 0 r v) (2 + 5 * (k * E))) ∧ T.length = ws.length ∧ ∀ i, (h : i < T.length) → T[i].length = (ws[i]?.getD 0).toNat) ?_ ?_ ?_
  · simp only [go_sem, ↓reduceIte, Nat.reduceEqDiff, Nat.reduceAdd, reduceCtorEq, h1, h2, h5]
    refine ⟨by trivial, by trivial, by trivial, rfl, _, _, tab5, by rw [List.length_set]; exact hT, fun i hi => ?_⟩
    rw [List.length_set] at hi
    by_cases e : 0 = i
    · subst e; simp [hTl 0 hT0]
    · rw [List.getElem_set_ne e]; exact hTl i hi
  · rintro i env H6 hi ⟨h1, h2, h5, h7, T, G, tab, hT, hTl⟩
    have hlti : (i : Int) < es.length := by omega
    have hlk := sh.each i hi
    have hix : i < xss.length := by omega
    obtain ⟨pv, uv, v1, v2, v3⟩ := (SRowsV.mono hv hs1).get (k := i) hix .i64
    have gi := getD_eq (xs := ws) (k := i) (by omega)
    have gi1 := getD_eq (xs := ws) (k := i+1) (by omega)
    simp only [go_sem, ↓reduceIte, Nat.reduceEqDiff, Nat.reduceAdd, reduceCtorEq, h1, h2, h5, h7, ld_box (tab.tab.sub _ _ hb2), SLists.len he', hlti]
    refine loop_count es[i].length (fun j env H' => env 1 = vv ∧ env 2 = .ptr b2 0 ∧ env 5 = .sl N 0 ws.length true ∧ env 7 = .int .i64 i ∧ env 8 = .int .i64 j ∧ ∃ T G, VTab H1 G H' N true us T (fun r v G x => CNat G x (stF ctS z es i j r v) (2 + 5 * (i * E + j))) ∧ T.length = ws.length ∧ ∀ i, (h : i < T.length) → T[i].length = (ws[i]?.getD 0).toNat) ?_ ?_ ?_
    · simp only [go_sem, ↓reduceIte, Nat.reduceEqDiff, Nat.reduceAdd, reduceCtorEq, h1, h2, h5, h7]
      exact ⟨by trivial, by trivial, by trivial, by trivial, rfl, T, G, tab, hT, hTl⟩
    · rintro j env H7 hj ⟨h1, h2, h5, h7, h8, T, G, tab, hT, hTl⟩
      have hltj : (j : Int) < es[i].length := by omega
      obtain ⟨p', ue, d1, d2, d3⟩ := he'.get hi .i64
      obtain ⟨p, q0, q1, q2, c1, c2, _⟩ := (d3.mono tab.tab.sub).get hj .i64
      have gd := sh.good i hi _ (List.getElem_mem hj)
      rw [gi, gi1] at gd
      have pi := sh.pos i (by omega)
      have pi1 := sh.pos (i+1) (by omega)
      obtain ⟨fr, hfr⟩ : ∃ n : Nat, es[i][j].fr = n := ⟨es[i][j].fr.toNat, by omega⟩
      obtain ⟨to, hto⟩ : ∃ n : Nat, es[i][j].to = n := ⟨es[i][j].to.toNat, by omega⟩
      have hTi : i < T.length := by omega
      have hTi1 : i + 1 < T.length := by omega
      have tl0 := hTl i hTi
      have tl1 := hTl (i+1) hTi1
      rw [gi] at tl0
      rw [gi1] at tl1
      simp only [go_sem, ↓reduceIte, Nat.reduceEqDiff, Nat.reduceAdd, reduceCtorEq, h1, h2, h5, h7, h8, ld_box (tab.tab.sub _ _ hb2), d1, ld_mono tab.tab.sub d2, d3.len, hltj, c1, c2]
      refine newC_intro fun n4 H8 hn4 hs8 hb8 => ?_
      simp only [go_sem, ↓reduceIte, Nat.reduceEqDiff, Nat.reduceAdd, reduceCtorEq]
      refine stC_intro hb8 trivial rfl (by decide) (by decide) fun H9 hb9 hf9 hs9 => ?_
      simp only [Ed.cells, fillV, List.length_cons, List.length_nil, splice, Nat.reduceLeDiff, Nat.zero_lt_one, and_self, List.take_zero, List.take_succ_cons, List.drop_succ_cons, List.drop_zero, List.drop_nil, Nat.reduceLT, Nat.le_refl, go_sem, ↓reduceIte, Nat.reduceEqDiff, Nat.reduceAdd, reduceCtorEq] at hb9
      have hs79 : Heap.sub H7 H9 := hs9 H7 hs8 hn4
      have tab9 := tab.grow hs79
      obtain ⟨m1, um1, hm1, _, _, ia1, ld1⟩ := tab9.tab.at (i := i) (j := fr) hTi (by omega) .i64
      obtain ⟨m2, um2, hm2, _, _, ia2, ld2⟩ := tab9.tab.at (i := i+1) (j := to) hTi1 (by omega) .i64
      have r1 := tab9.rep i fr hTi (by omega)
      have r2 := tab9.rep (i+1) to hTi1 (by omega)
      rw [List.getElem?_eq_getElem (by omega)] at ld1
      rw [List.getElem?_eq_getElem (by omega)] at ld2
      have hjx : j < xss[i].length := by rw [hx i hi]; exact hj
      obtain ⟨pz, z1, z2⟩ := (v3.mono tab9.tab.sub).get (k := j) hjx .i64
      have hW := (hw i j hix hjx).mono (hs1.trans' tab9.g0)
      have hw1 : IntKind.i64.wrap ((i : Int) + 1) = ((i + 1 : Nat) : Int) := wrapN1 (by omega)
      have hkK : i * E + j < 16777216 := by
        have : (i + 1) * E ≤ es.length * E := Nat.mul_le_mul_right _ hi
        rw [Nat.add_mul] at this
        omega
      simp only [go_sem, ↓reduceIte, Nat.reduceEqDiff, Nat.reduceAdd, reduceCtorEq, h1, h2, h5, h7, h8, hw1, ia_nat (show i < ws.length by omega), ia_nat (show i + 1 < ws.length by omega), v1, ld_mono tab9.tab.sub v2, ld_box tab9.tab.outer, um1, um2, ld_box hb9, hfr, hto, ia1, ia2, ld1, ld2, z1, z2]
      refine callC_in (rMul_spec (L := 2 + 5 * (i * E + j)) (M := 2) (by omega) r1.nat hW) tab9.gh fun x10 H10 G10 hs10 ga gb gc hx10 => ?_
      have tab10 := tab9.call (G' := G10) (H' := H10) (fun _ _ _ h => h.mono ga) hs10 ga gb gc
      simp only [go_sem, ↓reduceIte, Nat.reduceEqDiff, Nat.reduceAdd, reduceCtorEq]
      refine callC_in (rAdd_spec (L := 4 + 5 * (i * E + j)) (by omega) ((r2.mono ga).up (by omega)).nat (hx10.up (by omega)).nat) tab10.gh fun x11 H11 G11 hs11 ga' gb' gc' hx11 => ?_
      have tab11 := tab10.call (G' := G11) (H' := H11) (fun _ _ _ h => h.mono ga') hs11 ga' gb' gc'
      obtain ⟨m3, um3, hm3, _, _, ia3, _⟩ := tab11.tab.at (i := i+1) (j := to) hTi1 (by omega) .i64
      obtain rfl : m2 = m3 := sl_name um2 um3
      simp only [go_sem, ↓reduceIte, Nat.reduceEqDiff, Nat.reduceAdd, reduceCtorEq, ia2]
      refine stC_intro hm3 trivial (by rw [hx11.nat.cells]; rfl) (by decide) (by show to + 1 ≤ _; omega) fun H12 hb12 hf12 hs12 => ?_
      rw [hx11.nat.cells, splice_one _ _ _ (by omega)] at hb12
      simp only [go_sem, ↓reduceIte, Nat.reduceEqDiff, Nat.reduceAdd, reduceCtorEq, h1, h2, h5, h7, h8]
      rw [wrapN1 (by omega)]
      refine ⟨by trivial, by trivial, by trivial, by trivial, by trivial, _, _, tab11.set (i := i+1) (j := to) hTi1 um3 (by omega) hb12 hf12 ?_ ?_, by rw [List.length_set]; exact hT, fun r hr => ?_⟩
      · have : stF ctS z es i (j+1) (i+1) to = stF ctS z es i j (i+1) to + (stF ctS z es i j i fr) * (z i j) := by
          unfold stF
          rw [if_neg (by omega), if_pos rfl, if_neg (by omega), if_pos rfl, if_pos (Nat.le_refl i), secF]
          simp [hi, hj, hto, hfr, ctS]
        rw [this]; exact hx11.up (by omega)
      · intro r v w hne h
        have : stF ctS z es i (j+1) r v = stF ctS z es i j r v := by
          unfold stF
          by_cases h1 : r ≤ i
          · rw [if_pos h1, if_pos h1]
          · rw [if_neg h1, if_neg h1]
            by_cases h2 : r = i + 1
            · have hvt : ¬ v = to := fun h => hne ⟨h2, h⟩
              rw [if_pos h2, if_pos h2, secF]
              simp [hi, hj, hto, hvt]
            · rw [if_neg h2, if_neg h2]
        rw [this]; exact h.up (by omega)
      · rw [List.length_set] at hr
        by_cases e : i + 1 = r
        · subst e; simp [hTl (i+1) hTi1]
        · rw [List.getElem_set_ne e]; exact hTl r hr
    · rintro env H' ⟨h1, h2, h5, h7, h8, T, G, tab, hT, hTl⟩
      obtain ⟨p', ue, d1, d2, d3⟩ := he'.get hi .i64
      simp only [go_sem, ↓reduceIte, Nat.reduceEqDiff, Nat.reduceAdd, reduceCtorEq, h1, h2, h5, h7, h8, ld_box (tab.tab.sub _ _ hb2), d1, ld_mono tab.tab.sub d2, d3.len, Int.lt_irrefl]
      rw [wrapN1 (by omega)]
      refine ⟨by trivial, by trivial, by trivial, by trivial, T, G, ?_, hT, hTl⟩
      rw [← stF_next hi]
      exact tab.weaken fun r v x _ h => h.up (by rw [Nat.add_mul]; omega)
  · rintro env H' ⟨h1, h2, h5, h7, T, G, tab, hT, hTl⟩
    simp only [go_sem, ↓reduceIte, Nat.reduceEqDiff, Nat.reduceAdd, reduceCtorEq, h1, h2, h5, h7, ld_box (tab.tab.sub _ _ hb2), SLists.len he', Int.lt_irrefl]
    refine finO_self ⟨hs1.trans' tab.tab.sub, N, us, T, G, by rw [e2], ?_, by omega, hTl⟩
    refine VTab.weaken (Q := fun r v G x => CNat G x (stF ctS z es es.length 0 r v) (2 + 5 * (es.length * E))) ⟨tab.tab.down hs1, hs1.trans' tab.g0, tab.gh, tab.gN, tab.gr, tab.rep⟩ fun r v x hr h => ?_
    have : stF ctS z es es.length 0 r v = rowF ctS z es r v := by unfold stF; rw [if_pos (by omega)]
    rw [this] at h
    exact h
end Go.AM

set_option linter.unusedVariables false
set_option linter.unusedSimpArgs false
namespace Go.AM
open Go Go.Proofs
attribute [local go_sem] c_skip c_ops c_seq c_ite c_blk c_exit c_ret t_normal t_exit t_ret b_normal b_exit b_ret i_nil i_cons s_guard s_mov s_pick s_new s_zero s_ld s_ldr s_st s_bin s_beq s_isnil s_eqs s_un s_conv s_fa s_fld s_ia s_sli s_ext s_ifc s_mkf s_agg s_len s_mm s_nilchk s_bsl s_mk s_app s_cpy s_call s_inv cells_agg cells_int cells_bool p_get p_none o_s o_c e_0 e_1 e_2 e_3 e_4 iteC_true iteC_false grd_tt grd_tf grd_ft grd_ff grd_und bindV_some pickV_t pickV_f beq_bool conv_int un_not not_dec mm_min mm_max bv_add bv_sub bv_mul bv_eql bv_neq bv_lss bv_leq bv_gtr bv_geq f_normal f_one f_two f_three f_none fa_ptr fld_one ext_tup len_sl len_nils decide_true decide_false not_true_eq_false not_false_eq_true List.map_cons List.map_nil List.append_nil List.cons_append List.nil_append Nat.zero_add Nat.add_zero Nat.mul_one Nat.succ_ne_self if_true if_false List.getElem?_cons_zero List.getElem?_cons_succ

/-- codewrightref47.Paths -/
def F30 : AF := ⟨53, [(2, none)], (.seq (.ops [⟨none, false, (some 1), (.new (.s 0))⟩, ⟨none, false, (some 2), (.mov (.c .nils))⟩]) (.seq (.ops [⟨none, false, (some 6), (.fa 1 (.s 1))⟩, ⟨none, false, (some 7), (.ld false 1 (.s 6) none)⟩, ⟨none, false, (some 8), (.len (.s 7))⟩, ⟨none, false, (some 9), (.mk 1 24 [.nils] (.s 8) (.s 8))⟩, ⟨none, false, (some 3), (.mov (.s 9))⟩]) (.seq (.seq (.ops [⟨none, false, (some 4), (.mov (.c (.int .i64 (0))))⟩]) (.blk 0 (.loop (.seq (.seq (.ops [⟨none, false, (some 10), (.mov (.s 4))⟩, ⟨none, false, (some 11), (.fa 1 (.s 1))⟩, ⟨none, false, (some 12), (.ld false 1 (.s 11) none)⟩, ⟨none, false, (some 13), (.len (.s 12))⟩, ⟨none, false, (some 14), (.bin .lss (.s 10) (.s 13))⟩]) (.ite (.s 14) .skip (.exit 0))) (.seq (.blk 1 (.seq (.ops [⟨none, false, (some 17), (.mov (.s 3))⟩, ⟨none, false, (some 18), (.mov (.s 4))⟩, ⟨none, false, (some 19), (.fa 1 (.s 1))⟩, ⟨none, false, (some 20), (.ld false 1 (.s 19) none)⟩, ⟨none, false, (some 21), (.mov (.s 4))⟩, ⟨none, false, (some 22), (.ia 1 (.s 20) (.s 21))⟩, ⟨none, false, (some 23), (.ld false 1 (.s 22) none)⟩, ⟨none, false, (some 24), (.len (.s 23))⟩, ⟨none, false, (some 25), (.mk 1 24 [.nils] (.s 24) (.s 24))⟩, ⟨none, false, (some 26), (.ia 1 (.s 17) (.s 18))⟩, ⟨none, false, none, (.st 1 (.s 26) (.s 25) [])⟩]) (.seq (.ops [⟨none, false, (some 5), (.mov (.c (.int .i64 (0))))⟩]) (.blk 2 (.loop (.seq (.seq (.ops [⟨none, false, (some 27), (.mov (.s 5))⟩, ⟨none, false, (some 28), (.mov (.s 3))⟩, ⟨none, false, (some 29), (.mov (.s 4))⟩, ⟨none, false, (some 30), (.ia 1 (.s 28) (.s 29))⟩, ⟨none, false, (some 31), (.ld false 1 (.s 30) none)⟩, ⟨none, false, (some 32), (.len (.s 31))⟩, ⟨none, false, (some 33), (.bin .lss (.s 27) (.s 32))⟩]) (.ite (.s 33) .skip (.exit 2))) (.seq (.blk 3 (.ops [⟨none, false, (some 36), (.mov (.s 3))⟩, ⟨none, false, (some 37), (.mov (.s 4))⟩, ⟨none, false, (some 38), (.ia 1 (.s 36) (.s 37))⟩, ⟨none, false, (some 39), (.ld false 1 (.s 38) none)⟩, ⟨none, false, (some 40), (.mov (.s 5))⟩, ⟨none, false, (some 41), (.bsl 1 1 [(.int .u32 (0))] [(0, (1, (.c (.int .u32 (1)))))])⟩, ⟨none, false, (some 42), (.ia 1 (.s 39) (.s 40))⟩, ⟨none, false, none, (.st 1 (.s 42) (.s 41) [])⟩])) (.ops [⟨none, false, (some 34), (.mov (.s 5))⟩, ⟨none, false, (some 35), (.bin .add (.s 34) (.c (.int .i64 (1))))⟩, ⟨none, false, (some 5), (.mov (.s 35))⟩])))))))) (.ops [⟨none, false, (some 15), (.mov (.s 4))⟩, ⟨none, false, (some 16), (.bin .add (.s 15) (.c (.int .i64 (1))))⟩, ⟨none, false, (some 4), (.mov (.s 16))⟩])))))) (.seq (.ops [⟨none, false, (some 44), (.mov (.s 3))⟩, ⟨none, false, (some 46), (.fa 1 (.s 1))⟩, ⟨none, false, (some 43), (.ld true 2 (.s 1) none)⟩, ⟨none, false, (some 47), (.ld false 1 (.s 46) none)⟩, ⟨none, false, (some 48), (.len (.s 47))⟩, ⟨none, true, (some 45), (.call (.c (.fn 67 [])) [(.s 43), (.s 44)])⟩, ⟨none, false, (some 49), (.ia 1 (.s 45) (.s 48))⟩, ⟨none, false, (some 50), (.ld false 1 (.s 49) none)⟩, ⟨none, false, (some 51), (.ia 1 (.s 50) (.c (.int .i64 (0))))⟩, ⟨none, false, (some 52), (.ld false 1 (.s 51) none)⟩, ⟨none, false, (some 2), (.mov (.s 52))⟩]) .ret))))⟩
theorem cv30 : cvF Try.prog 30 = some F30 := by kernel_rfl


theorem rPaths_spec {sv ev : V} {ws : List Int} {es : List (List Ed)} {H : Heap} (hs : SInts H sv ws) (he : SSecs H ev es) (hp : properI ws es = 0) :
    ACalls Try.prog 30 [.agg [sv, ev]] H fun u H' => Heap.sub H H' ∧ CNat H' u (pathsI es) 1000000000 := by
  refine ACalls.of_body hm cv30 (by simp only [List.length_cons, List.length_nil]; decide) ?_
  obtain ⟨h0, w0, wl, hgood⟩ := proper_of hp
  have sh := shaped_of h0
  have hn := sh.n
  have e2 := sh.len
  simp only [F30, go_sem, ↓reduceIte, Nat.reduceEqDiff, Nat.reduceAdd, reduceCtorEq]
  refine newC_intro fun b1 H1 hn1 hs1 hb1 => ?_
  have he' := SSecs.mono he hs1
  simp only [go_sem, ↓reduceIte, Nat.reduceEqDiff, Nat.reduceAdd, reduceCtorEq, ld_box hb1, SLists.len he']
  refine mkC_intro (Nat.le_refl _) (by omega) (by omega) fun N H2 hN hs2 hbN => ?_
  rw [flat_rep] at hbN
  simp only [go_sem, ↓reduceIte, Nat.reduceEqDiff, Nat.reduceAdd, reduceCtorEq, beq_self_eq_true]
  have hq : ∀ {k j : Nat} {G G' : Heap}, Heap.sub G G' → ∀ (i j' : Nat) (v : V), ((i < k ∨ (i = k ∧ j' < j)) → SNat G v 1 2) → ((i < k ∨ (i = k ∧ j' < j)) → SNat G' v 1 2) := fun hs _ _ _ h c => (h c).mono hs
  have tab0 : VTab H1 H1 H2 N true (List.replicate es.length .nils) (List.replicate es.length []) (fun i j' G v => (i < 0 ∨ (i = 0 ∧ j' < 0)) → SNat G v 1 2) := by
    refine ⟨⟨hs2, hbN, hN, by simp, fun i h => ?_, fun i j n l l' h => ?_⟩, Heap.sub.rfl', hs2, hN, fun i n l h => ?_, fun i j h h' => ?_⟩
    · rw [List.length_replicate] at h
      exact .inl ⟨by simp [h], by simp, trivial⟩
    · simp [List.getElem?_replicate] at h
    · simp [List.getElem?_replicate] at h
    · simp at h'
  refine blk_join (fun env H' => env 1 = .ptr b1 0 ∧ env 3 = .sl N 0 es.length true ∧ ∃ us T G, VTab H1 G H' N true us T (fun i j' G v => (i < es.length ∨ (i = es.length ∧ j' < 0)) → SNat G v 1 2) ∧ T.length = es.length ∧ ∀ i, (h : i < T.length) → T[i].length = if i < es.length then (es[i]?.getD []).length else 0) ?_ ?_
  · refine loop_count es.length (fun k env H' => env 1 = .ptr b1 0 ∧ env 3 = .sl N 0 es.length true ∧ env 4 = .int .i64 k ∧ ∃ us T G, VTab H1 G H' N true us T (fun i j' G v => (i < k ∨ (i = k ∧ j' < 0)) → SNat G v 1 2) ∧ T.length = es.length ∧ ∀ i, (h : i < T.length) → T[i].length = if i < k then (es[i]?.getD []).length else 0) ?_ ?_ ?_
    · simp only [go_sem, ↓reduceIte, Nat.reduceEqDiff, Nat.reduceAdd, reduceCtorEq]
      exact ⟨by trivial, by trivial, rfl, _, _, _, tab0, by simp, by simp⟩
    · rintro k env H3 hk ⟨h1, h3, h4, us, T, G, tab, hT, hTl⟩
      have hlt : (k : Int) < es.length := by omega
      have hlk := sh.each k hk
      obtain ⟨p, ue, a1, a2, a3⟩ := he'.get hk .i64
      have hTk : k < T.length := by omega
      simp only [go_sem, ↓reduceIte, Nat.reduceEqDiff, Nat.reduceAdd, reduceCtorEq, h1, h3, h4, ld_box (tab.tab.sub _ _ hb1), SLists.len he', hlt, a1, ld_mono tab.tab.sub a2, a3.len]
      refine mkC_intro (Nat.le_refl _) (by omega) (by omega) fun m H4 hm4 hs4 hbm => ?_
      rw [flat_rep] at hbm
      have tab4 := tab.grow hs4
      have hmN : N ≠ m := by rintro rfl; rw [tab.tab.outer] at hm4; cases hm4
      have hul : us.length = es.length := by rw [tab.tab.len, hT]
      simp only [go_sem, ↓reduceIte, Nat.reduceEqDiff, Nat.reduceAdd, reduceCtorEq, h1, h3, h4, ia_nat hk, beq_self_eq_true]
      refine stC_intro tab4.tab.outer trivial rfl (by decide) (by show k + 1 ≤ us.length; omega) fun H5 hb5 hf5 hs5 => ?_
      have tab5 := tab.lay (H' := H5) (Q' := fun i j' G v => (i < k ∨ (i = k ∧ j' < 0)) → SNat G v 1 2) (i := k) (m := m) (ys := List.replicate es[k].length .nils) hTk hm4 (by
        rw [hb5, show V.cells (V.sl m 0 es[k].length true) = [V.sl m 0 es[k].length true] from rfl, splice_one _ _ _ (by omega), List.length_replicate]) (by rw [hf5 m (Ne.symm hmN)]; exact hbm) (fun q b h1 h2 hb => by rw [hf5 q h1]; exact hs4 q b hb) (fun j hj h => by omega) (fun i' j v _ _ h => h)
      have gk : (es[k]?.getD []) = es[k] := by simp [hk]
      simp only [go_sem, ↓reduceIte, Nat.reduceEqDiff, Nat.reduceAdd, reduceCtorEq, h1, h3, h4]
      refine loop_count es[k].length (fun j env H' => env 1 = .ptr b1 0 ∧ env 3 = .sl N 0 es.length true ∧ env 4 = .int .i64 k ∧ env 5 = .int .i64 j ∧ ∃ us T G, VTab H1 G H' N true us T (fun i j' G v => (i < k ∨ (i = k ∧ j' < j)) → SNat G v 1 2) ∧ T.length = es.length ∧ ∀ i, (h : i < T.length) → T[i].length = if i < k + 1 then (es[i]?.getD []).length else 0) ?_ ?_ ?_
      · simp only [go_sem, ↓reduceIte, Nat.reduceEqDiff, Nat.reduceAdd, reduceCtorEq, h1, h3, h4]
        refine ⟨by trivial, by trivial, by trivial, rfl, _, _, _, tab5, by rw [List.length_set]; exact hT, fun i hi => ?_⟩
        rw [List.length_set] at hi
        by_cases e : k = i
        · subst e; simp [hk]
        · rw [List.getElem_set_ne e, hTl i hi]
          by_cases h : i < k
          · simp [h, show i < k + 1 by omega]
          · simp [h, show ¬ i < k + 1 by omega]
      · rintro j env H6 hj ⟨h1, h3, h4, h5, us, T, G, tab, hT, hTl⟩
        have hTk : k < T.length := by omega
        have hlk' : T[k].length = es[k].length := by rw [hTl k hTk, if_pos (by omega), gk]
        have hltj : (j : Int) < es[k].length := by omega
        obtain ⟨m1, um1, hm1, _, hm1N, ia1, _⟩ := tab.tab.at (i := k) (j := j) hTk (by omega) .i64
        rw [hlk'] at um1 ia1
        simp only [go_sem, ↓reduceIte, Nat.reduceEqDiff, Nat.reduceAdd, reduceCtorEq, h1, h3, h4, h5, ia_nat hk, ld_box tab.tab.outer, um1, hltj, fillV, List.length_cons, List.length_nil, splice, Nat.reduceLeDiff, Nat.zero_lt_one, and_self, List.take_zero, List.take_succ_cons, List.drop_succ_cons, List.drop_zero, List.drop_nil, Nat.reduceLT, Nat.le_refl]
        refine newC_intro fun xb H7 hxb hs7 hbx => ?_
        obtain ⟨G7, hg7, hgx, tab7⟩ := tab.new hq hxb hs7 hbx
        obtain ⟨m3, um3, hm3, _, _, ia3, _⟩ := tab7.tab.at (i := k) (j := j) hTk (by omega) .i64
        obtain rfl : m1 = m3 := sl_name um1 um3
        have hx1 : SNat G7 (.sl xb 0 1 true) 1 2 := ⟨[1], ⟨rfl, by simp, .inr ⟨xb, 0, true, _, rfl, hgx, rfl, .inr (by simp), fun j hj => by simp [u32s]⟩⟩, fun x hx => by simp at hx; omega, by simp [nval], by simp⟩
        simp only [go_sem, ↓reduceIte, Nat.reduceEqDiff, Nat.reduceAdd, reduceCtorEq, h1, h3, h4, h5, ia1]
        refine stC_intro hm3 trivial rfl (by decide) (by show j + 1 ≤ _; omega) fun H8 hb8 hf8 hs8 => ?_
        rw [show V.cells (V.sl xb 0 1 true) = [V.sl xb 0 1 true] from rfl, splice_one _ _ _ (by omega)] at hb8
        simp only [go_sem, ↓reduceIte, Nat.reduceEqDiff, Nat.reduceAdd, reduceCtorEq, h1, h3, h4, h5]
        rw [wrapN1 (by omega)]
        refine ⟨by trivial, by trivial, by trivial, by trivial, us, _, _, tab7.set (Q' := fun i j' G v => (i < k ∨ (i = k ∧ j' < j + 1)) → SNat G v 1 2) (i := k) (j := j) hTk um3 (by omega) hb8 hf8 (fun _ => hx1) (fun i' j' w hne h c => h (by omega)), by rw [List.length_set]; exact hT, fun i hi => ?_⟩
        rw [List.length_set] at hi
        by_cases e : k = i
        · subst e; simpa using hTl k hTk
        · rw [List.getElem_set_ne e]; exact hTl i hi
      · rintro env H6 ⟨h1, h3, h4, h5, us, T, G, tab, hT, hTl⟩
        have hTk : k < T.length := by omega
        have hlk' : T[k].length = es[k].length := by rw [hTl k hTk, if_pos (by omega), gk]
        obtain ⟨u, hu, _, hlr, _⟩ := tab.tab.get hTk
        rw [hlk'] at hlr
        simp only [go_sem, ↓reduceIte, Nat.reduceEqDiff, Nat.reduceAdd, reduceCtorEq, h1, h3, h4, h5, ia_nat hk, ld_box tab.tab.outer, hu, hlr, Int.lt_irrefl]
        rw [wrapN1 (by omega)]
        refine ⟨by trivial, by trivial, by trivial, us, T, G, ⟨tab.tab, tab.g0, tab.gh, tab.gN, tab.gr, fun i j' h h' c => tab.rep i j' h h' ?_⟩, hT, hTl⟩
        rcases Nat.lt_or_ge i k with h2 | h2
        · exact .inl h2
        · have : i = k := by omega
          subst this
          exact .inr ⟨rfl, by rw [hlk'] at h'; exact h'⟩
    · rintro env H' ⟨h1, h3, h4, us, T, G, tab, hT, hTl⟩
      simp only [go_sem, ↓reduceIte, Nat.reduceEqDiff, Nat.reduceAdd, reduceCtorEq, h1, h3, h4, ld_box (tab.tab.sub _ _ hb1), SLists.len he', Int.lt_irrefl]
      exact ⟨by trivial, by trivial, us, T, G, tab, hT, hTl⟩
  rintro env H3 ⟨h1, h3, us, T, G, tab, hT, hTl⟩
  have hTl' : ∀ i, (h : i < es.length) → (T[i]'(by omega)).length = es[i].length := fun i h => by
    rw [hTl i (by omega), if_pos h]; simp [h]
  have hrows : SRowsV H3 (.sl N 0 es.length true) T := tab.tab.rows hT.symm (by omega) fun xs hxs => by
    obtain ⟨i, hi, rfl⟩ := List.getElem_of_mem hxs
    have := sh.each i (by omega)
    rw [hTl' i (by omega)]; omega
  have hs3 := hs1.trans' tab.tab.sub
  simp only [go_sem, ↓reduceIte, Nat.reduceEqDiff, Nat.reduceAdd, reduceCtorEq, h1, h3, ld_boxa (tab.tab.sub _ _ hb1) (show 0 + 2 ≤ _ by simp), fillV, List.length_cons, List.length_nil, splice, Nat.reduceLeDiff, Nat.zero_lt_one, and_self, List.take_zero, List.take_succ_cons, List.drop_succ_cons, List.drop_zero, List.drop_nil, Nat.reduceLT, Nat.le_refl, ld_box (tab.tab.sub _ _ hb1), SLists.len he']
  refine callC_grow (rForward_spec (E := 262144) (z := fun _ _ => (1 : Int)) rfl (hs.mono hs3) (SSecs.mono he hs3) h0 hrows hT hTl' fun i j h h' => (tab.rep i j h h' (.inl (by omega))).mono tab.gh) ?_
  rintro u H8 hs8 ⟨N2, us2, T2, G2, rfl, vt, hT2, hTl2⟩
  have hlen : es.length < T2.length := by omega
  have hl0 : 0 < T2[es.length].length := by rw [hTl2 _ hlen, wl]; decide
  obtain ⟨m2, um2, hm2, _, _, ia2, ld2⟩ := vt.tab.at (i := es.length) (j := 0) hlen hl0 .i64
  have r2 := vt.rep es.length 0 hlen hl0
  rw [List.getElem?_eq_getElem hl0] at ld2
  have ia2' : iaV 1 (.sl m2 0 T2[es.length].length true) (.int .i64 0) = some (.ptr m2 0) := ia2
  have hc := r2.mono vt.gh
  simp only [go_sem, ↓reduceIte, Nat.reduceEqDiff, Nat.reduceAdd, reduceCtorEq, ia_nat (show es.length < es.length + 1 by omega), ld_box vt.tab.outer, um2, ia2', ld2]
  exact finO_self ⟨hs3.trans' hs8, hc.up (by omega)⟩
end Go.AM
