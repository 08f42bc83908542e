/- Counting as a semiring; trellis.Paths. Conditions: none. -/
import Derived.Test.YtopeeknimehmcaaR2
import Derived.Test.YtopeeknimehmcaaR3
import Derived.Test.YtopeeknimehmcaaX0
set_option linter.unusedVariables false
set_option linter.unusedSimpArgs false
namespace Go.AM
open Go Go.Proofs
attribute [local go_sem] c_skip c_ops c_seq c_ite c_blk c_exit c_ret t_normal t_exit t_ret b_normal b_exit b_ret i_nil i_cons s_guard s_mov s_pick s_new s_zero s_ld s_ldr s_st s_bin s_beq s_isnil s_eqs s_un s_conv s_fa s_fld s_ia s_sli s_ext s_ifc s_mkf s_agg s_len s_mm s_nilchk s_bsl s_mk s_app s_cpy s_call s_inv cells_agg cells_int cells_bool p_get p_none o_s o_c e_0 e_1 e_2 e_3 e_4 iteC_true iteC_false grd_tt grd_tf grd_ft grd_ff grd_und bindV_some pickV_t pickV_f beq_bool conv_int un_not not_dec mm_min mm_max bv_add bv_sub bv_mul bv_eql bv_neq bv_lss bv_leq bv_gtr bv_geq f_normal f_one f_two f_three f_none fa_ptr fld_one ext_tup len_sl len_nils decide_true decide_false not_true_eq_false not_false_eq_true List.map_cons List.map_nil List.append_nil List.cons_append List.nil_append Nat.zero_add Nat.add_zero Nat.mul_one Nat.succ_ne_self if_true if_false List.getElem?_cons_zero List.getElem?_cons_succ

/-- trellis.Paths -/
def F28 : AF := ⟨56, [(2, none), (3, none)], (.seq (.ops [⟨none, false, (some 1), (.new (.s 0))⟩, ⟨none, false, (some 2), (.mov (.c .nils))⟩, ⟨none, false, (some 3), (.mov (.c (.int .i64 (0))))⟩]) (.seq (.seq (.ops [⟨none, false, (some 11), (.ld true 2 (.s 1) none)⟩, ⟨none, false, (some 12), (.call (.c (.fn 18 [])) [(.s 11)])⟩, ⟨none, false, (some 4), (.mov (.s 12))⟩]) (.seq (.ops [⟨none, false, (some 13), (.mov (.s 4))⟩, ⟨none, false, (some 14), (.bin .neq (.s 13) (.c (.int .i64 (0))))⟩]) (.ite (.s 14) (.seq (.ops [⟨none, false, (some 15), (.mov (.s 4))⟩, ⟨none, false, (some 2), (.mov (.c .nils))⟩, ⟨none, false, (some 3), (.mov (.s 15))⟩]) .ret) .skip))) (.seq (.ops [⟨none, false, (some 16), (.call (.c (.fn 50 [])) [(.c (.int .u64 (1)))])⟩, ⟨none, false, (some 5), (.mov (.s 16))⟩]) (.seq (.ops [⟨none, false, (some 17), (.fa 1 (.s 1))⟩, ⟨none, false, (some 18), (.ld false 1 (.s 17) none)⟩, ⟨none, false, (some 19), (.len (.s 18))⟩, ⟨none, false, (some 20), (.mk 1 24 [.nils] (.s 19) (.s 19))⟩, ⟨none, false, (some 6), (.mov (.s 20))⟩]) (.seq (.seq (.ops [⟨none, false, (some 21), (.fa 1 (.s 1))⟩, ⟨none, false, (some 22), (.ld false 1 (.s 21) none)⟩, ⟨none, false, (some 23), (.len (.s 22))⟩, ⟨none, false, (some 24), (.mov (.c (.int .i64 (0))))⟩]) (.blk 0 (.loop (.seq (.ops [⟨none, false, (some 25), (.bin .lss (.s 24) (.s 23))⟩]) (.seq (.ite (.s 25) .skip (.exit 0)) (.seq (.blk 1 (.seq (.ops [⟨none, false, (some 26), (.mov (.s 24))⟩, ⟨none, false, (some 27), (.ia 1 (.s 22) (.s 24))⟩, ⟨none, false, (some 28), (.ld false 1 (.s 27) none)⟩, ⟨none, false, (some 7), (.mov (.s 26))⟩, ⟨none, false, (some 8), (.mov (.s 28))⟩]) (.ops [⟨none, false, (some 29), (.mov (.s 6))⟩, ⟨none, false, (some 30), (.mov (.s 7))⟩, ⟨none, false, (some 31), (.mov (.s 5))⟩, ⟨none, false, (some 32), (.bsl 1 1 [.nils] [(0, (1, (.s 31)))])⟩, ⟨none, false, (some 33), (.mov (.s 8))⟩, ⟨none, false, (some 34), (.len (.s 33))⟩, ⟨none, false, (some 35), (.call (.c (.fn 62 [])) [(.s 32), (.s 34)])⟩, ⟨none, false, (some 36), (.ia 1 (.s 29) (.s 30))⟩, ⟨none, false, none, (.st 1 (.s 36) (.s 35) [])⟩]))) (.ops [⟨none, false, (some 37), (.bin .add (.s 24) (.c (.int .i64 (1))))⟩, ⟨none, false, (some 24), (.mov (.s 37))⟩]))))))) (.seq (.ops [⟨none, false, (some 39), (.agg [] [])⟩, ⟨none, false, (some 40), (.ld true 2 (.s 1) none)⟩, ⟨none, false, (some 41), (.mov (.s 6))⟩, ⟨none, false, (some 42), (.call (.c (.fn 63 [])) [(.s 39), (.s 40), (.s 41)])⟩, ⟨none, false, (some 38), (.mov (.s 42))⟩, ⟨none, false, (some 43), (.ext (.s 38) 0)⟩, ⟨none, false, (some 44), (.ext (.s 38) 1)⟩, ⟨none, false, (some 9), (.mov (.s 43))⟩, ⟨none, false, (some 10), (.mov (.s 44))⟩]) (.seq (.seq (.ops [⟨none, false, (some 45), (.mov (.s 10))⟩, ⟨none, false, (some 46), (.bin .neq (.s 45) (.c (.int .i64 (0))))⟩]) (.ite (.s 46) (.seq (.ops [⟨none, false, (some 47), (.mov (.s 10))⟩, ⟨none, false, (some 2), (.mov (.c .nils))⟩, ⟨none, false, (some 3), (.mov (.s 47))⟩]) .ret) .skip)) (.seq (.ops [⟨none, false, (some 48), (.mov (.s 9))⟩, ⟨none, false, (some 49), (.fa 1 (.s 1))⟩, ⟨none, false, (some 50), (.ld false 1 (.s 49) none)⟩, ⟨none, false, (some 51), (.len (.s 50))⟩, ⟨none, false, (some 52), (.ia 1 (.s 48) (.s 51))⟩, ⟨none, false, (some 53), (.ld false 1 (.s 52) none)⟩, ⟨none, false, (some 54), (.ia 1 (.s 53) (.c (.int .i64 (0))))⟩, ⟨none, false, (some 55), (.ld false 1 (.s 54) none)⟩, ⟨none, false, (some 2), (.mov (.s 55))⟩, ⟨none, false, (some 3), (.mov (.c (.int .i64 (0))))⟩]) .ret))))))))⟩
theorem cv28 : cvF Try.prog 28 = some F28 := by kernel_rfl


theorem cvRows : cvF Try.prog 94 = some (rowsC 101 164) := by kernel_rfl
theorem cvFwd : cvF Try.prog 63 = some (fwdC 93 94 101 164 163 161 162) := by kernel_rfl
theorem cvVal : cvF Try.prog 93 = some F101 := by kernel_rfl

/-- the natural numbers -/
def ctS : SRing Int 164 163 161 162 where
  K := 33554432
  Rep k H v n := CNat H v n (2 + 5 * k)
  W H v n := SNat H v n 2
  M k H v n := CNat H v n (5 + 5 * k)
  zero := 0
  one := 1
  add a b := a + b
  mul a b := a * b
  mono h hs := h.mono hs
  wmono h hs := h.mono hs
  cells h := h.nat.cells
  up h hk := h.up (by omega)
  hz H := cZero_spec H
  ho H := cOne_spec H
  hm {k H u w x c} hk h1 h2 := (cMul_spec (L := 2 + 5 * k) (M := 2) (by omega) h1.nat h2).mono fun v H' h => ⟨h.1, h.2.up (by omega)⟩
  ha {k H u w x c} hk h1 h2 := (cAdd_spec (L := 5 + 5 * k) (by omega) (h1.up (by omega)).nat h2.nat).mono fun v H' h => ⟨h.1, h.2.up (by omega)⟩

/-- how many paths there are -/
def pathsI (es : List (List Ed)) : Int := rowF ctS (fun _ _ => 1) es es.length 0

theorem partR_lay {n : Nat} {full : Nat → List V} {k : Nat} (h : k < n) : (partR n full k 0).set k (full k) = partR n full (k+1) 0 := by
  apply List.ext_getElem
  · simp [partR_len]
  · intro i h1 h2
    have hi : i < n := by rw [partR_len] at h2; exact h2
    rw [partR_get hi]
    by_cases e : k = i
    · subst e; simp
    · rw [List.getElem_set_ne e, partR_get hi]
      by_cases h1 : i < k
      · simp [h1, show i < k + 1 by omega]
      · simp [h1, show ¬ i = k by omega, show ¬ i < k + 1 by omega]

theorem Paths_spec {sv ev : V} {ws : List Int} {es : List (List Ed)} {H : Heap} (hs : SInts H sv ws) (he : SSecs H ev es) : ACalls Try.prog 28 [.agg [sv, ev]] H fun u H' => Heap.sub H H' ∧
    ((properI ws es ≠ 0 ∧ u = .tup [.nils, .int .i64 (properI ws es)]) ∨ (properI ws es = 0 ∧ ∃ v, u = .tup [v, .int .i64 0] ∧ CNat H' v (pathsI es) 1000000000)) := by
  refine ACalls.of_body hm cv28 (by simp only [List.length_cons, List.length_nil]; decide) ?_
  simp only [F28, go_sem, ↓reduceIte, Nat.reduceEqDiff, Nat.reduceAdd, reduceCtorEq]
  refine newC_intro fun b1 H1 hn1 hs1 hb1 => ?_
  simp only [go_sem, ↓reduceIte, Nat.reduceEqDiff, Nat.reduceAdd, reduceCtorEq, ld_boxa hb1 (show 0 + 2 ≤ _ by simp), fillV, List.length_cons, List.length_nil, splice, Nat.reduceLeDiff, Nat.zero_lt_one, and_self, List.take_zero, List.take_succ_cons, List.drop_succ_cons, List.drop_zero, List.drop_nil, Nat.reduceLT, Nat.le_refl]
  refine callC_pure (Proper_spec (hs.mono hs1) (SSecs.mono he hs1)) ?_
  simp only [go_sem, ↓reduceIte, Nat.reduceEqDiff, Nat.reduceAdd, reduceCtorEq]
  refine iteC_if (fun c => ?_) (fun c => ?_)
  · simp only [go_sem, ↓reduceIte, Nat.reduceEqDiff, Nat.reduceAdd, reduceCtorEq]
    exact finO_self ⟨hs1, .inl ⟨c, rfl⟩⟩
  have hp : properI ws es = 0 := Classical.byContradiction c
  obtain ⟨h0, w0, wl, hgood⟩ := proper_of hp
  have sh := shaped_of h0
  have hn := sh.n
  have e2 := sh.len
  simp only [go_sem, ↓reduceIte, Nat.reduceEqDiff, Nat.reduceAdd, reduceCtorEq]
  refine callC_grow (Of_spec (by decide) (by decide) _) ?_
  intro x H2 hs2 hx
  have hb1' := hs2 _ _ hb1
  have hs02 := hs1.trans' hs2
  simp only [go_sem, ↓reduceIte, Nat.reduceEqDiff, Nat.reduceAdd, reduceCtorEq, ld_box hb1', SLists.len he]
  refine mkC_intro (Nat.le_refl _) (by omega) (by omega) fun N H3 hN hs3 hbN => ?_
  rw [flat_rep] at hbN
  simp only [go_sem, ↓reduceIte, Nat.reduceEqDiff, Nat.reduceAdd, reduceCtorEq, ld_box (hs3 _ _ hb1'), SLists.len he, beq_self_eq_true]
  refine range_loop es.length (fun k env H' => env 1 = .ptr b1 0 ∧ env 5 = x ∧ env 6 = .sl N 0 es.length true ∧ env 22 = ev ∧ env 23 = .int .i64 es.length ∧ env 24 = .int .i64 k ∧ ∃ us, Tab H2 H' N true us (partR es.length (fun i => List.replicate (es[i]?.getD []).length x) k 0)) (by omega) (by decide) (by decide) ?_ ?_ ?_ ?_
  · rintro k env H' ⟨_, _, _, _, h7, h8, _⟩; exact ⟨h8, h7⟩
  · simp only [go_sem, ↓reduceIte, Nat.reduceEqDiff, Nat.reduceAdd, reduceCtorEq]
    exact ⟨by trivial, by trivial, by trivial, by trivial, by trivial, rfl, _, partR_startT hs3 hN hbN⟩
  · rintro k env H4 hk ⟨h1, h5, h6, h22, h23, h24, us, tab⟩
    obtain ⟨p, ue, a1, a2, a3⟩ := (SSecs.mono he hs02).get hk .i64
    have hlk := sh.each k hk
    simp only [go_sem, ↓reduceIte, Nat.reduceEqDiff, Nat.reduceAdd, reduceCtorEq, h1, h5, h6, h22, h23, h24, a1, ld_mono tab.sub a2, a3.len, fillV, List.length_cons, List.length_nil, splice, Nat.reduceLeDiff, Nat.zero_lt_one, and_self, List.take_zero, List.take_succ_cons, List.drop_succ_cons, List.drop_zero, List.drop_nil, Nat.reduceLT, Nat.le_refl, hx.nat.cells]
    refine newC_intro fun xb H5 hxb hs5 hbx => ?_
    simp only [go_sem, ↓reduceIte, Nat.reduceEqDiff, Nat.reduceAdd, reduceCtorEq, a3.len]
    refine callC_grow (Repeat_spec (x := x) (n := es[k].length) ⟨xb, _, rfl, hbx⟩ (by omega)) ?_
    rintro r H6 hs6 ⟨m, rfl, hbm, hm5⟩
    have hs46 := hs5.trans' hs6
    have tab6 := tab.grow hs46
    have hmN : N ≠ m := by rintro rfl; rw [(tab.grow hs5).outer] at hm5; cases hm5
    have hul : us.length = es.length := by rw [tab.len, partR_len]
    simp only [go_sem, ↓reduceIte, Nat.reduceEqDiff, Nat.reduceAdd, reduceCtorEq, h1, h5, h6, h22, h23, h24, ia_nat hk]
    refine stC_intro tab6.outer trivial rfl (by decide) (by show k + 1 ≤ us.length; omega) fun H7 hb7 hf7 hs7 => ?_
    simp only [go_sem, ↓reduceIte, Nat.reduceEqDiff, Nat.reduceAdd, reduceCtorEq, h1, h5, h6, h22, h23, h24]
    have hm4 : H4 m = none := hs5.none' hm5
    have tab7 := tab.lay (H' := H7) (i := k) (m := m) (ys := List.replicate es[k].length x) (by rw [partR_len]; exact hk) hm4 (by
      rw [hb7, show V.cells (V.sl m 0 es[k].length true) = [V.sl m 0 es[k].length true] from rfl, splice_one _ _ _ (by omega), List.length_replicate]) (by rw [hf7 m (Ne.symm hmN)]; exact hbm) (fun q b h1 h2 h3 hb => by rw [hf7 q h1]; exact hs46 q b hb)
    have hfull : (fun i => List.replicate (es[i]?.getD []).length x) k = List.replicate es[k].length x := by simp [hk]
    rw [← hfull, partR_lay hk] at tab7
    exact ⟨by trivial, by trivial, by trivial, by trivial, by trivial, by trivial, by trivial, _, tab7⟩
  · rintro env H' ⟨h1, h5, h6, h22, h23, h24, us, tab⟩
    rw [partR_done] at tab
    obtain ⟨xss, hxss⟩ : ∃ xss, xss = (List.range es.length).map (fun i => List.replicate (es[i]?.getD []).length x) := ⟨_, rfl⟩
    rw [← hxss] at tab
    have hxl : xss.length = es.length := by rw [hxss]; simp
    have hxr : ∀ i, (h : i < es.length) → xss[i]'(by omega) = List.replicate es[i].length x := fun i h => by subst hxss; simp [h]
    have hrows : SRowsV H' (.sl N 0 es.length true) xss := tab.rows hxl.symm (by omega) fun xs hxs => by
      rw [hxss] at hxs
      obtain ⟨i, hi, rfl⟩ := List.mem_map.1 hxs
      rw [List.mem_range] at hi
      have := sh.each i hi
      simp [hi]; omega
    have hbb := tab.sub _ _ hb1'
    have hs2' := hs02.trans' tab.sub
    simp only [go_sem, ↓reduceIte, Nat.reduceEqDiff, Nat.reduceAdd, reduceCtorEq, h1, h5, h6, ld_boxa hbb (show 0 + 2 ≤ _ by simp), fillV, List.length_cons, List.length_nil, splice, Nat.reduceLeDiff, Nat.zero_lt_one, and_self, List.take_zero, List.take_succ_cons, List.drop_succ_cons, List.drop_zero, List.drop_nil, Nat.reduceLT, Nat.le_refl, Option.map_some]
    refine callC_grow (ForwardG_spec (E := 262144) (z := fun _ _ => (1 : Int)) ctS cvFwd cvVal cvRows rfl (show es.length * 262144 ≤ 33554432 by omega) (hs.mono hs2') (SSecs.mono he hs2') h0 hrows hxl (fun i h => by rw [hxr i h]; simp) fun i j h h' => ?_) ?_
    · have : xss[i][j] = x := by
        have h'' := h'
        simp only [hxr i (by omega)] at h'' ⊢
        simp
      rw [this]
      exact (hx.nat).mono tab.sub
    rintro u H8 hs8 ⟨N2, us2, T, G, rfl, vt, hT, hTl⟩
    have hlen : es.length < T.length := by omega
    have hl0 : 0 < T[es.length].length := by rw [hTl _ hlen, wl]; decide
    obtain ⟨m2, um2, hm2, _, _, ia2, ld2⟩ := vt.tab.at (i := es.length) (j := 0) hlen hl0 .i64
    have r2 := vt.rep es.length 0 hlen hl0
    rw [List.getElem?_eq_getElem hl0] at ld2
    have ia2' : iaV 1 (.sl m2 0 T[es.length].length false) (.int .i64 0) = some (.ptr m2 0) := ia2
    have hc := (show CNat G _ (pathsI es) (2 + 5 * (es.length * 262144)) from r2).mono vt.gh
    simp only [go_sem, ↓reduceIte, Nat.reduceEqDiff, Nat.reduceAdd, reduceCtorEq, h1, ld_box (hs8 _ _ hbb), SLists.len he, ia_nat (show es.length < es.length + 1 by omega), ld_box vt.tab.outer, um2, ia2', ld2]
    exact finO_self ⟨hs2'.trans' hs8, .inr ⟨hp, _, rfl, hc.up (by omega)⟩⟩
end Go.AM
