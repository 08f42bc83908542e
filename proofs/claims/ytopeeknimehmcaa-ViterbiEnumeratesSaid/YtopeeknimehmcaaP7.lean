/- viterbi.valued, semiring.valued over ints, the closure of along. Conditions: none. -/
import Derived.Test.YtopeeknimehmcaaP6
set_option linter.unusedVariables false
set_option linter.unusedSimpArgs false
namespace Go.AM
open Go Go.Proofs
attribute [local go_sem] c_skip c_ops c_seq c_ite c_blk c_exit c_ret t_normal t_exit t_ret b_normal b_exit b_ret i_nil i_cons s_guard s_mov s_pick s_new s_zero s_ld s_ldr s_st s_bin s_beq s_isnil s_eqs s_un s_conv s_fa s_fld s_ia s_sli s_ext s_ifc s_mkf s_agg s_len s_mm s_nilchk s_bsl s_mk s_app s_cpy s_call s_inv cells_agg cells_int cells_bool p_get p_none o_s o_c e_0 e_1 e_2 e_3 e_4 iteC_true iteC_false grd_tt grd_tf grd_ft grd_ff grd_und bindV_some pickV_t pickV_f beq_bool conv_int un_not not_dec mm_min mm_max bv_add bv_sub bv_mul bv_eql bv_neq bv_lss bv_leq bv_gtr bv_geq f_normal f_one f_two f_three f_none fa_ptr fld_one ext_tup len_sl len_nils decide_true decide_false not_true_eq_false not_false_eq_true List.map_cons List.map_nil List.append_nil List.cons_append List.nil_append Nat.zero_add Nat.add_zero Nat.mul_one Nat.succ_ne_self if_true if_false List.getElem?_cons_zero List.getElem?_cons_succ

/-- viterbi.valued[int] -/
def F77 : AF := ⟨45, [(4, none)], (.seq (.ops [⟨none, false, (some 2), (.new (.s 0))⟩, ⟨none, false, (some 4), (.mov (.c .nils))⟩]) (.seq (.ops [⟨none, false, (some 10), (.fa 1 (.s 2))⟩, ⟨none, false, (some 11), (.ld false 1 (.s 10) none)⟩, ⟨none, false, (some 12), (.len (.s 11))⟩, ⟨none, false, (some 13), (.mk 1 24 [.nils] (.s 12) (.s 12))⟩, ⟨none, false, (some 5), (.mov (.s 13))⟩]) (.seq (.seq (.ops [⟨none, false, (some 14), (.fa 1 (.s 2))⟩, ⟨none, false, (some 15), (.ld false 1 (.s 14) none)⟩, ⟨none, false, (some 16), (.len (.s 15))⟩, ⟨none, false, (some 17), (.mov (.c (.int .i64 (0))))⟩]) (.blk 0 (.loop (.seq (.ops [⟨none, false, (some 18), (.bin .lss (.s 17) (.s 16))⟩]) (.seq (.ite (.s 18) .skip (.exit 0)) (.seq (.blk 1 (.seq (.ops [⟨none, false, (some 19), (.mov (.s 17))⟩, ⟨none, false, (some 20), (.ia 1 (.s 15) (.s 17))⟩, ⟨none, false, (some 21), (.ld false 1 (.s 20) none)⟩, ⟨none, false, (some 6), (.mov (.s 19))⟩, ⟨none, false, (some 7), (.mov (.s 21))⟩]) (.seq (.ops [⟨none, false, (some 22), (.mov (.s 7))⟩, ⟨none, false, (some 23), (.len (.s 22))⟩, ⟨none, false, (some 24), (.mov (.c (.int .i64 (0))))⟩]) (.blk 2 (.loop (.seq (.ops [⟨none, false, (some 25), (.bin .lss (.s 24) (.s 23))⟩]) (.seq (.ite (.s 25) .skip (.exit 2)) (.seq (.blk 3 (.seq (.ops [⟨none, false, (some 26), (.ia 3 (.s 22) (.s 24))⟩, ⟨none, false, (some 27), (.ld true 3 (.s 26) none)⟩, ⟨none, false, (some 9), (.zero [(.int .i64 (0)), (.int .i64 (0)), (.int .i64 (0))])⟩, ⟨none, false, none, (.st 3 (.s 9) (.s 27) [])⟩]) (.ops [⟨none, false, (some 28), (.mov (.s 5))⟩, ⟨none, false, (some 29), (.mov (.s 6))⟩, ⟨none, false, (some 30), (.mov (.s 5))⟩, ⟨none, false, (some 31), (.mov (.s 6))⟩, ⟨none, false, (some 32), (.ia 1 (.s 30) (.s 31))⟩, ⟨none, false, (some 34), (.mov (.s 1))⟩, ⟨none, false, (some 35), (.mov (.s 6))⟩, ⟨none, false, (some 36), (.fa 1 (.s 9))⟩, ⟨none, false, (some 33), (.ld false 1 (.s 32) none)⟩, ⟨none, false, (some 37), (.ld false 1 (.s 36) none)⟩, ⟨none, true, (some 38), (.call (.s 34) [(.s 35), (.s 37)])⟩, ⟨none, false, (some 39), (.bsl 1 1 [(.int .i64 (0))] [(0, (1, (.s 38)))])⟩, ⟨none, false, (some 40), (.app 1 8 (.s 33) (.s 39) [])⟩, ⟨none, false, (some 41), (.ia 1 (.s 28) (.s 29))⟩, ⟨none, false, none, (.st 1 (.s 41) (.s 40) [])⟩]))) (.ops [⟨none, false, (some 42), (.bin .add (.s 24) (.c (.int .i64 (1))))⟩, ⟨none, false, (some 24), (.mov (.s 42))⟩]))))))))) (.ops [⟨none, false, (some 43), (.bin .add (.s 17) (.c (.int .i64 (1))))⟩, ⟨none, false, (some 17), (.mov (.s 43))⟩]))))))) (.seq (.ops [⟨none, false, (some 44), (.mov (.s 5))⟩, ⟨none, false, (some 4), (.mov (.s 44))⟩]) .ret))))⟩
theorem cv77 : cvF Try.prog 77 = some F77 := by kernel_rfl

/-- viterbi.along$1 -/
def F78 : AF := ⟨13, [(5, none)], (.seq (.ops [⟨none, false, (some 5), (.mov (.c (.int .i64 (0))))⟩]) (.seq (.ops [⟨none, false, (some 6), (.ld false 1 (.s 2) none)⟩, ⟨none, false, (some 7), (.mov (.s 0))⟩, ⟨none, false, (some 8), (.ia 1 (.s 6) (.s 7))⟩, ⟨none, false, (some 9), (.ld false 1 (.s 8) none)⟩, ⟨none, false, (some 10), (.mov (.s 1))⟩, ⟨none, false, (some 11), (.ia 1 (.s 9) (.s 10))⟩, ⟨none, false, (some 12), (.ld false 1 (.s 11) none)⟩, ⟨none, false, (some 5), (.mov (.s 12))⟩]) .ret))⟩
theorem cv78 : cvF Try.prog 78 = some F78 := by kernel_rfl


/-- the values of the edges -/
def vrow (es : List (List Ed)) (z : Nat → Int → V) (i : Nat) : List V := (es[i]?.getD []).map fun e => z i e.lb
def vtab (es : List (List Ed)) (z : Nat → Int → V) : List (List V) := (List.range es.length).map (vrow es z)

theorem vvalued_spec {sv ev : V} {ws : List Int} {es : List (List Ed)} {H : Heap} {g : FuncId} {caps : List V} {z : Nat → Int → V} (he : SSecs H ev es) (sh : Shaped ws es)
    (hc : ∀ i j, (h : i < es.length) → (h' : j < es[i].length) → (z i es[i][j].lb).cells = [z i es[i][j].lb])
    (hz : ∀ i j, (h : i < es.length) → (h' : j < es[i].length) → ∀ H', Heap.sub H H' → ACalls Try.prog g ([.int .i64 i, .int .i64 es[i][j].lb] ++ caps) H' fun v H'' => v = z i es[i][j].lb ∧ H'' = H') :
    ACalls Try.prog 77 [.agg [sv, ev], .fn g caps] H fun u H' => Heap.sub H H' ∧ ∃ N us, u = .sl N 0 es.length true ∧ Tab H H' N false us (vtab es z) := by
  refine ACalls.of_body hm cv77 (by simp only [List.length_cons, List.length_nil]; decide) ?_
  have hn := sh.n
  simp only [F77, go_sem, ↓reduceIte, Nat.reduceEqDiff, Nat.reduceAdd, reduceCtorEq]
  refine newC_intro fun b2 H1 hn1 hs1 hb1 => ?_
  simp only [go_sem, ↓reduceIte, Nat.reduceEqDiff, Nat.reduceAdd, reduceCtorEq, ld_box hb1, SLists.len he]
  refine mkC_intro (Nat.le_refl _) (by omega) (by omega) fun N H2 hN hs2 hbN => ?_
  rw [flat_rep] at hbN
  simp only [go_sem, ↓reduceIte, Nat.reduceEqDiff, Nat.reduceAdd, reduceCtorEq, ld_box (hs2 _ _ hb1), SLists.len he, beq_self_eq_true]
  have tab0 := partR_start (full := vrow es z) hs2 hN hbN
  refine range_loop es.length (fun k env H' => env 1 = .fn g caps ∧ env 5 = .sl N 0 es.length true ∧ env 15 = ev ∧ env 16 = .int .i64 es.length ∧ env 17 = .int .i64 k ∧ ∃ us, Tab H1 H' N false us (partR es.length (vrow es z) k 0)) (by omega) (by decide) (by decide) ?_ ?_ ?_ ?_
  · rintro k env H' ⟨_, _, _, h7, h8, _⟩; exact ⟨h8, h7⟩
  · simp only [go_sem, ↓reduceIte, Nat.reduceEqDiff, Nat.reduceAdd, reduceCtorEq]
    exact ⟨by trivial, by trivial, by trivial, by trivial, by trivial, _, tab0⟩
  · rintro k env H4 hk ⟨h1, h5, h15, h16, h17, us, tab⟩
    obtain ⟨p, ue, a1, a2, a3⟩ := (SSecs.mono he hs1).get hk .i64
    have hlk := sh.each k hk
    have hfull : vrow es z k = es[k].map fun e => z k e.lb := by simp [vrow, hk]
    simp only [go_sem, ↓reduceIte, Nat.reduceEqDiff, Nat.reduceAdd, reduceCtorEq, h1, h5, h15, h16, h17, a1, ld_mono tab.sub a2, a3.len]
    refine range_loop es[k].length (fun j env H' => env 1 = .fn g caps ∧ env 5 = .sl N 0 es.length true ∧ env 15 = ev ∧ env 16 = .int .i64 es.length ∧ env 17 = .int .i64 k ∧ env 6 = .int .i64 k ∧ env 22 = ue ∧ env 23 = .int .i64 es[k].length ∧ env 24 = .int .i64 j ∧ ∃ us, Tab H1 H' N false us (partR es.length (vrow es z) k j)) (by omega) (by decide) (by decide) ?_ ?_ ?_ ?_
    · rintro j env H' ⟨_, _, _, _, _, _, _, h7, h8, _⟩; exact ⟨h8, h7⟩
    · simp only [go_sem, ↓reduceIte, Nat.reduceEqDiff, Nat.reduceAdd, reduceCtorEq, h1, h5, h15, h16, h17]
      exact ⟨by trivial, by trivial, by trivial, by trivial, by trivial, by trivial, by trivial, by trivial, by trivial, us, tab⟩
    · rintro j env H5 hj ⟨h1, h5, h15, h16, h17, h6, h22, h23, h24, us, tab⟩
      obtain ⟨p, q0, q1, q2, b1, b2, b3, b4, b5, b6, b7, b8⟩ := (a3.mono tab.sub).get hj .i64
      have hkp : k < (partR es.length (vrow es z) k j).length := by rw [partR_len]; exact hk
      have hjf : j < (vrow es z k).length := by rw [hfull]; simpa using hj
      have hvj : (vrow es z k)[j] = z k es[k][j].lb := by simp [hfull]
      simp only [go_sem, ↓reduceIte, Nat.reduceEqDiff, Nat.reduceAdd, reduceCtorEq, h1, h5, h15, h16, h17, h6, h22, h23, h24, b1, b2]
      refine newC_intro fun n4 H6 hn4 hs6 hb4 => ?_
      simp only [go_sem, ↓reduceIte, Nat.reduceEqDiff, Nat.reduceAdd, reduceCtorEq, h6]
      refine stC_intro hb4 trivial rfl (by decide) (by decide) fun H7 hb5 hf7 hs7 => ?_
      simp only [Ed.cells, fillV, List.length_cons, List.length_nil, splice, Nat.reduceLeDiff, Nat.zero_lt_one, and_self, List.take_zero, List.take_succ_cons, List.drop_succ_cons, List.drop_zero, List.drop_nil, Nat.reduceLT, Nat.le_refl, go_sem, ↓reduceIte, Nat.reduceEqDiff, Nat.reduceAdd, reduceCtorEq] at hb5
      have hs57 : Heap.sub H5 H7 := hs7 H5 hs6 hn4
      have tab7 := tab.grow hs57
      obtain ⟨u, hu, hlu, hlr, _⟩ := tab7.get hkp
      have hpl : ((partR es.length (vrow es z) k j)[k]).length = j := by rw [partR_get hk]; simp; omega
      simp only [go_sem, ↓reduceIte, Nat.reduceEqDiff, Nat.reduceAdd, reduceCtorEq, h1, h5, h15, h16, h17, h6, h22, h23, h24, ia_nat hk, ld_box tab7.outer, hu, ld_box hb5]
      refine callC_pure (hz k j hk hj H7 (hs1.trans' tab7.sub)) ?_
      simp only [go_sem, ↓reduceIte, Nat.reduceEqDiff, Nat.reduceAdd, reduceCtorEq, fillV, List.length_cons, List.length_nil, splice, Nat.reduceLeDiff, Nat.zero_lt_one, and_self, List.take_zero, List.take_succ_cons, List.drop_succ_cons, List.drop_zero, List.drop_nil, Nat.reduceLT, Nat.le_refl, hc k j hk hj]
      refine newC_intro fun xb H8 hxb hs8 hbx => ?_
      have tab8 := tab7.grow hs8
      simp only [go_sem, ↓reduceIte, Nat.reduceEqDiff, Nat.reduceAdd, reduceCtorEq]
      refine appC_tab tab8 hkp hu hbx (by omega) (by omega) fun m H9 hm hN9 hlu' hgo => ?_
      have hul : us.length = es.length := by rw [tab.len, partR_len]
      simp only [go_sem, ↓reduceIte, Nat.reduceEqDiff, Nat.reduceAdd, reduceCtorEq, h1, h5, h15, h16, h17, h6, h22, h23, h24, ia_nat hk]
      refine stC_intro hN9 trivial rfl (by decide) (by show k + 1 ≤ us.length; omega) fun Ha hba hfa hsa => ?_
      simp only [go_sem, ↓reduceIte, Nat.reduceEqDiff, Nat.reduceAdd, reduceCtorEq, h1, h5, h15, h16, h17, h6, h22, h23, h24]
      refine ⟨by trivial, by trivial, by trivial, by trivial, by trivial, by trivial, by trivial, by trivial, by trivial, by trivial, us.set k (.sl m 0 ((partR es.length (vrow es z) k j)[k].length + 1) false), ?_⟩
      rw [← partR_push hk hjf, hvj]
      exact hgo Ha (by rw [hba, show V.cells (V.sl m 0 ((partR es.length (vrow es z) k j)[k].length + 1) false) = [V.sl m 0 ((partR es.length (vrow es z) k j)[k].length + 1) false] from rfl, splice_one _ _ _ (by omega)]) hfa
    · rintro env H' ⟨h1, h5, h15, h16, h17, h6, h22, h23, h24, us, tab⟩
      simp only [go_sem, ↓reduceIte, Nat.reduceEqDiff, Nat.reduceAdd, reduceCtorEq, h1, h5, h15, h16, h17]
      refine ⟨by trivial, by trivial, by trivial, by trivial, by trivial, by trivial, us, ?_⟩
      rw [← partR_next (j := es[k].length) (by rw [hfull]; simp)]
      exact tab
  · rintro env H' ⟨h1, h5, h15, h16, h17, us, tab⟩
    simp only [go_sem, ↓reduceIte, Nat.reduceEqDiff, Nat.reduceAdd, reduceCtorEq, h5]
    rw [partR_done] at tab
    exact finO_self ⟨hs1.trans' tab.sub, N, us, rfl, tab.down hs1⟩

/-- the item of a list of rows -/
def at2 (c : List (List Int)) (i : Nat) (a : Int) : Int := ((c[i]?.getD [])[a.toNat]?).getD 0

theorem closure_spec {b : Nat} {cv : V} {costs : List (List Int)} {H : Heap} {i : Nat} {a : Int} (hb : H b = some ⟨true, 1, [cv]⟩) (hc : SRows H cv costs) (hi : i < costs.length) (h0 : 0 ≤ a) (h1 : a < costs[i].length) :
    ACalls Try.prog 78 [.int .i64 i, .int .i64 a, .ptr b 0] H fun u H' => u = .int .i64 (at2 costs i a) ∧ H' = H := by
  refine ACalls.of_body hm cv78 (by simp only [List.length_cons, List.length_nil]; decide) ?_
  obtain ⟨p, u, a1, a2, a3⟩ := SLists.get hc hi .i64
  obtain ⟨q, b1, b2⟩ := a3.get (k := a.toNat) (by omega) .i64
  rw [Int.toNat_of_nonneg h0] at b1
  simp only [F78, go_sem, ↓reduceIte, Nat.reduceEqDiff, Nat.reduceAdd, reduceCtorEq, ld_box hb, a1, a2, b1, b2]
  refine finO_self ⟨?_, rfl⟩
  have : a.toNat < costs[i].length := by omega
  simp [at2, hi, this]

theorem valued_spec {sv ev vv : V} {ws : List Int} {es : List (List Ed)} {xss : List (List V)} {H : Heap} (hs : SInts H sv ws) (he : SSecs H ev es) (h0 : shapeI ws es = 0) (hv : SRowsV H vv xss) (hl : xss.length = es.length) (hx : ∀ i, (h : i < es.length) → (xss[i]'(by omega)).length = es[i].length) :
    ACalls Try.prog 101 [.agg [sv, ev], vv] H fun u H' => u = .int .i64 0 ∧ H' = H := by
  refine ACalls.of_body hm cv101 (by simp only [List.length_cons, List.length_nil]; decide) ?_
  have sh := shaped_of h0
  have hn := sh.n
  simp only [F101, go_sem, ↓reduceIte, Nat.reduceEqDiff, Nat.reduceAdd, reduceCtorEq]
  refine newC_intro fun n1 H1 hn1 hs1 hb1 => ?_
  simp only [ld_boxa hb1 (show 0 + 2 ≤ _ by simp), fillV, List.length_cons, List.length_nil, splice, Nat.reduceLeDiff, Nat.zero_lt_one, and_self, List.take_zero, List.take_succ_cons, List.drop_succ_cons, List.drop_zero, List.drop_nil, Nat.reduceLT, Nat.le_refl, go_sem, ↓reduceIte, Nat.reduceEqDiff, Nat.reduceAdd, reduceCtorEq]
  refine callC_pure (Shape_spec (hs.mono hs1) (SSecs.mono he hs1)) ?_
  rw [h0]
  simp only [go_sem, ↓reduceIte, Nat.reduceEqDiff, Nat.reduceAdd, reduceCtorEq, ld_box hb1, SLists.len he, SLists.len hv, hl]
  refine range_loop es.length (fun k env H' => H1 = H' ∧ env 1 = vv ∧ env 20 = ev ∧ env 21 = .int .i64 es.length ∧ env 22 = .int .i64 k) (by omega) (by decide) (by decide) ?_ ?_ ?_ ?_
  · rintro k env H' ⟨_, _, _, h7, h8⟩; exact ⟨h8, h7⟩
  · simp only [go_sem, ↓reduceIte, Nat.reduceEqDiff, Nat.reduceAdd, reduceCtorEq]; simp
  · rintro k env H' hk ⟨rfl, h1, h20, h21, h22⟩
    obtain ⟨p, u, a1, a2, a3⟩ := (SSecs.mono he hs1).get hk .i64
    obtain ⟨p', u', b1, b2, b3⟩ := (SRowsV.mono hv hs1).get (k := k) (by omega) .i64
    simp only [go_sem, ↓reduceIte, Nat.reduceEqDiff, Nat.reduceAdd, reduceCtorEq, h1, h20, h21, h22, a1, a2, a3.len, b1, b2, b3.len, hx k hk]
    exact ⟨by trivial, by trivial, by trivial, by trivial, by trivial, by trivial⟩
  · rintro env H' ⟨rfl, h1, h20, h21, h22⟩
    simp only [go_sem, ↓reduceIte, Nat.reduceEqDiff, Nat.reduceAdd, reduceCtorEq]
    exact finO_sub hs1 ⟨rfl, rfl⟩
end Go.AM
