/- The forward sums over any semiring whose values are one cell each. Conditions: as stated. -/
import Derived.Test.YtopeeknimehmcaaR1
set_option linter.unusedVariables false
set_option linter.unusedSimpArgs false
namespace Go.AM
open Go Go.Proofs
attribute [local go_sem] c_skip c_ops c_seq c_ite c_blk c_exit c_ret t_normal t_exit t_ret b_normal b_exit b_ret i_nil i_cons s_guard s_mov s_pick s_new s_zero s_ld s_ldr s_st s_bin s_beq s_isnil s_eqs s_un s_conv s_fa s_fld s_ia s_sli s_ext s_ifc s_mkf s_agg s_len s_mm s_nilchk s_bsl s_mk s_app s_cpy s_call s_inv cells_agg cells_int cells_bool p_get p_none o_s o_c e_0 e_1 e_2 e_3 e_4 iteC_true iteC_false grd_tt grd_tf grd_ft grd_ff grd_und bindV_some pickV_t pickV_f beq_bool conv_int un_not not_dec mm_min mm_max bv_add bv_sub bv_mul bv_eql bv_neq bv_lss bv_leq bv_gtr bv_geq f_normal f_one f_two f_three f_none fa_ptr fld_one ext_tup len_sl len_nils decide_true decide_false not_true_eq_false not_false_eq_true List.map_cons List.map_nil List.append_nil List.cons_append List.nil_append Nat.zero_add Nat.add_zero Nat.mul_one Nat.succ_ne_self if_true if_false List.getElem?_cons_zero List.getElem?_cons_succ

section
variable {A : Type} {zf of af mf : Nat}
/-- the sums behind j edges of a section; z: the values of its edges -/
def secF (S : SRing A zf of af mf) (src : Nat → A) (z : Nat → A) (es : List Ed) : Nat → Nat → A
  | 0 => fun _ => S.zero
  | j+1 => match es[j]? with
    | some e => fun v => if v = e.to.toNat then S.add (secF S src z es j v) (S.mul (src e.fr.toNat) (z j)) else secF S src z es j v
    | none => secF S src z es j
def rowF (S : SRing A zf of af mf) (z : Nat → Nat → A) (es : List (List Ed)) : Nat → Nat → A
  | 0 => fun v => if v = 0 then S.one else S.zero
  | i+1 => secF S (rowF S z es i) (z i) (es[i]?.getD []) (es[i]?.getD []).length
/-- in the section i, behind j edges -/
def stF (S : SRing A zf of af mf) (z : Nat → Nat → A) (es : List (List Ed)) (i j : Nat) (r v : Nat) : A :=
  if r ≤ i then rowF S z es r v else if r = i + 1 then secF S (rowF S z es i) (z i) (es[i]?.getD []) j v else S.zero
theorem stF_next {S : SRing A zf of af mf} {z : Nat → Nat → A} {es : List (List Ed)} {i : Nat} (h : i < es.length) : stF S z es i es[i].length = stF S z es (i+1) 0 := by
  funext r v
  unfold stF
  by_cases h1 : r ≤ i
  · rw [if_pos h1, if_pos (by omega)]
  · rw [if_neg h1]
    by_cases h2 : r = i + 1
    · rw [if_pos h2, if_pos (by omega)]
      subst h2
      rw [rowF]
      simp [h]
    · rw [if_neg h2, if_neg (by omega)]
      by_cases h3 : r = i + 1 + 1
      · rw [if_pos h3, secF]
      · rw [if_neg h3]

theorem ForwardG_spec {f va ro ty : Nat} (S : SRing A zf of af mf) (hcv : cvF Try.prog f = some (fwdC va ro ty zf of af mf)) (hva : cvF Try.prog va = some F101) (hro : cvF Try.prog ro = some (rowsC ty zf))
    {sv ev vv : V} {ws : List Int} {es : List (List Ed)} {xss : List (List V)} {z : Nat → Nat → A} {H : Heap} {E : Nat} (hE : E = 262144) (hK : es.length * E ≤ S.K) (hs : SInts H sv ws) (he : SSecs H ev es) (h0 : shapeI ws es = 0) (hv : SRowsV H vv xss)
    (hl : xss.length = es.length) (hx : ∀ i, (h : i < es.length) → (xss[i]'(by omega)).length = es[i].length) (hw : ∀ i j, (h : i < xss.length) → (h' : j < xss[i].length) → S.W H xss[i][j] (z i j)) :
    ACalls Try.prog f [.agg [], .agg [sv, ev], vv] H fun u H' => Heap.sub H H' ∧ ∃ N us T G, u = .tup [.sl N 0 (es.length + 1) true, .int .i64 0] ∧ VTab H G H' N false us T (fun r v G x => S.Rep (es.length * E) G x (rowF S z es r v)) ∧ T.length = es.length + 1 ∧ ∀ i, (h : i < T.length) → T[i].length = (ws[i]?.getD 0).toNat := by
  refine ACalls.of_body hm hcv (by simp [fwdC]) ?_
  have sh := shaped_of h0
  have hn := sh.n
  have e2 := sh.len
  simp only [fwdC, go_sem, ↓reduceIte, Nat.reduceEqDiff, Nat.reduceAdd, reduceCtorEq]
  refine newC_intro fun b3 H1 hn1 hs1 hb3 => ?_
  simp only [go_sem, ↓reduceIte, Nat.reduceEqDiff, Nat.reduceAdd, reduceCtorEq]
  refine newC_intro fun b4 H2 hn2 hs2 hb4 => ?_
  have hs02 := hs1.trans' hs2
  have hb3' := hs2 _ _ hb3
  simp only [go_sem, ↓reduceIte, Nat.reduceEqDiff, Nat.reduceAdd, reduceCtorEq, ld_boxa hb4 (show 0 + 2 ≤ _ by simp), fillV, List.length_cons, List.length_nil, splice, Nat.reduceLeDiff, Nat.zero_lt_one, and_self, List.take_zero, List.take_succ_cons, List.drop_succ_cons, List.drop_zero, List.drop_nil, Nat.reduceLT, Nat.le_refl]
  refine callC_pure (valuedG_spec hva (hs.mono hs02) (SSecs.mono he hs02) h0 (SRowsV.mono hv hs02) hl hx) ?_
  simp only [go_sem, ↓reduceIte, Nat.reduceEqDiff, Nat.reduceAdd, reduceCtorEq, ld_boxa hb4 (show 0 + 2 ≤ _ by simp), ld_boxa hb3' (show 0 + 0 ≤ _ by simp), List.take_zero, fillV, List.length_cons, List.length_nil, splice, Nat.reduceLeDiff, Nat.zero_lt_one, and_self, List.take_zero, List.take_succ_cons, List.drop_succ_cons, List.drop_zero, List.drop_nil, Nat.reduceLT, Nat.le_refl]
  refine callC_grow (rowsG_spec S hro (hs.mono hs02) sh.pos (by omega)) ?_
  rintro u H3 hs3 ⟨N, us, T, G, rfl, tab, hT, hTl⟩
  have p0 := sh.pos 0 (by omega)
  have hT0 : 0 < T.length := by omega
  have hT00 : 0 < T[0].length := by rw [hTl 0 hT0, getD_eq (by omega)]; omega
  obtain ⟨n, hun, hbn, _, hnN, hia, hld⟩ := tab.tab.at (i := 0) (j := 0) hT0 hT00 .i64
  have hia' : iaV 1 (.sl n 0 T[0].length false) (.int .i64 0) = some (.ptr n 0) := hia
  have ia0 : iaV 1 (.sl N 0 ws.length true) (.int .i64 0) = some (.ptr N 0) := by
    have := ia_nat (sz := 1) (n := N) (o := 0) (f := true) (k := .i64) (show 0 < ws.length by omega)
    simpa using this
  simp only [go_sem, ↓reduceIte, Nat.reduceEqDiff, Nat.reduceAdd, reduceCtorEq, ia0, ld_box tab.tab.outer, hun, ld_boxa (hs3 _ _ hb3') (show 0 + 0 ≤ _ by simp), List.take_zero]
  refine invC_in (S.ho _) tab.gh fun x1 H4 G4 hs4 ga gb gc hx1 => ?_
  have tab4 := tab.call (G' := G4) (H' := H4) (fun _ _ _ h => S.mono h ga) hs4 ga gb gc
  obtain ⟨n', hun', hbn', _, _, _, _⟩ := tab4.tab.at (i := 0) (j := 0) hT0 hT00 .i64
  obtain rfl : n = n' := sl_name hun hun'
  simp only [go_sem, ↓reduceIte, Nat.reduceEqDiff, Nat.reduceAdd, reduceCtorEq, hia']
  refine stC_intro hbn' trivial (by rw [S.cells hx1]; rfl) (by decide) (by show 0 + 1 ≤ _; omega) fun H5 hb5 hf5 hs5 => ?_
  rw [S.cells hx1, splice_one _ _ _ hT00] at hb5
  have tab5 : VTab H2 G4 H5 N false us (T.set 0 (T[0].set 0 x1)) (fun r v G x => S.Rep (0 * E) G x (stF S z es 0 0 r v)) := by
    refine tab4.set (i := 0) (j := 0) hT0 hun hT00 hb5 hf5 ?_ ?_
    · simp only [stF, rowF, Nat.le_refl, if_true]
      exact S.up hx1 (by omega)
    · intro r v w hne h
      have : stF S z es 0 0 r v = S.zero := by
        unfold stF
        by_cases h1 : r ≤ 0
        · have : r = 0 := by omega
          subst this
          rw [if_pos h1]
          exact if_neg (fun h => hne ⟨rfl, h⟩)
        · rw [if_neg h1]
          split
          · rw [secF]
          · rfl
      rw [this]; exact S.up h (by omega)
  simp only [go_sem, ↓reduceIte, Nat.reduceEqDiff, Nat.reduceAdd, reduceCtorEq, ld_box (tab5.tab.sub _ _ hb4), SLists.len he]
  refine range_loop es.length (fun k env H' => env 2 = vv ∧ env 3 = .ptr b3 0 ∧ env 4 = .ptr b4 0 ∧ env 9 = .sl N 0 ws.length true ∧ env 31 = ev ∧ env 32 = .int .i64 es.length ∧ env 33 = .int .i64 k ∧ ∃ T G, VTab H2 G H' N false us T (fun r v G x => S.Rep (k * E) G x (stF S z es k 0 r v)) ∧ T.length = ws.length ∧ ∀ i, (h : i < T.length) → T[i].length = (ws[i]?.getD 0).toNat) (by omega) (by decide) (by decide) ?_ ?_ ?_ ?_
  · rintro k env H' ⟨_, _, _, _, _, h7, h8, _⟩; exact ⟨h8, h7⟩
  · simp only [go_sem, ↓reduceIte, Nat.reduceEqDiff, Nat.reduceAdd, reduceCtorEq]
    refine ⟨by trivial, by trivial, by trivial, by trivial, by trivial, by trivial, rfl, _, _, tab5, by rw [List.length_set]; exact hT, fun i hi => ?_⟩
    rw [List.length_set] at hi
    by_cases e : 0 = i
    · subst e; simp [hTl 0 hT0]
    · rw [List.getElem_set_ne e]; exact hTl i hi
  · rintro i env H6 hi ⟨h2, h3, h4, h9, h31, h32, h33, T, G, tab, hT, hTl⟩
    obtain ⟨p, ue, a1, a2, a3⟩ := (SSecs.mono he hs02).get hi .i64
    have hlk := sh.each i hi
    have hix : i < xss.length := by omega
    obtain ⟨pv, uv, v1, v2, v3⟩ := (SRowsV.mono hv hs02).get (k := i) hix .i64
    have gi := getD_eq (xs := ws) (k := i) (by omega)
    have gi1 := getD_eq (xs := ws) (k := i+1) (by omega)
    simp only [go_sem, ↓reduceIte, Nat.reduceEqDiff, Nat.reduceAdd, reduceCtorEq, h2, h3, h4, h9, h31, h32, h33, a1, ld_mono tab.tab.sub a2, a3.len]
    refine range_loop es[i].length (fun j env H' => env 2 = vv ∧ env 3 = .ptr b3 0 ∧ env 4 = .ptr b4 0 ∧ env 9 = .sl N 0 ws.length true ∧ env 31 = ev ∧ env 32 = .int .i64 es.length ∧ env 33 = .int .i64 i ∧ env 10 = .int .i64 i ∧ env 38 = ue ∧ env 39 = .int .i64 es[i].length ∧ env 40 = .int .i64 j ∧ ∃ T G, VTab H2 G H' N false us T (fun r v G x => S.Rep (i * E + j) G x (stF S z es i j r v)) ∧ T.length = ws.length ∧ ∀ i, (h : i < T.length) → T[i].length = (ws[i]?.getD 0).toNat) (by omega) (by decide) (by decide) ?_ ?_ ?_ ?_
    · rintro j env H' ⟨_, _, _, _, _, _, _, _, _, h7, h8, _⟩; exact ⟨h8, h7⟩
    · simp only [go_sem, ↓reduceIte, Nat.reduceEqDiff, Nat.reduceAdd, reduceCtorEq, h2, h3, h4, h9, h31, h32, h33]
      exact ⟨by trivial, by trivial, by trivial, by trivial, by trivial, by trivial, by trivial, by trivial, by trivial, by trivial, rfl, T, G, tab, hT, hTl⟩
    · rintro j env H7 hj ⟨h2, h3, h4, h9, h31, h32, h33, h10, h38, h39, h40, T, G, tab, hT, hTl⟩
      obtain ⟨p, q0, q1, q2, c1, c2, _⟩ := (a3.mono tab.tab.sub).get hj .i64
      have gd := sh.good i hi _ (List.getElem_mem hj)
      rw [gi, gi1] at gd
      have pi := sh.pos i (by omega)
      have pi1 := sh.pos (i+1) (by omega)
      obtain ⟨fr, hfr⟩ : ∃ n : Nat, es[i][j].fr = n := ⟨es[i][j].fr.toNat, by omega⟩
      obtain ⟨to, hto⟩ : ∃ n : Nat, es[i][j].to = n := ⟨es[i][j].to.toNat, by omega⟩
      have hTi : i < T.length := by omega
      have hTi1 : i + 1 < T.length := by omega
      have tl0 := hTl i hTi
      have tl1 := hTl (i+1) hTi1
      rw [gi] at tl0
      rw [gi1] at tl1
      simp only [go_sem, ↓reduceIte, Nat.reduceEqDiff, Nat.reduceAdd, reduceCtorEq, h2, h3, h4, h9, h10, h31, h32, h33, h38, h39, h40, c1, c2]
      refine newC_intro fun n4 H8 hn4 hs8 hb8 => ?_
      simp only [go_sem, ↓reduceIte, Nat.reduceEqDiff, Nat.reduceAdd, reduceCtorEq, h40]
      refine stC_intro hb8 trivial rfl (by decide) (by decide) fun H9 hb9 hf9 hs9 => ?_
      simp only [Ed.cells, fillV, List.length_cons, List.length_nil, splice, Nat.reduceLeDiff, Nat.zero_lt_one, and_self, List.take_zero, List.take_succ_cons, List.drop_succ_cons, List.drop_zero, List.drop_nil, Nat.reduceLT, Nat.le_refl, go_sem, ↓reduceIte, Nat.reduceEqDiff, Nat.reduceAdd, reduceCtorEq] at hb9
      have hs79 : Heap.sub H7 H9 := hs9 H7 hs8 hn4
      have tab9 := tab.grow hs79
      obtain ⟨m1, um1, hm1, _, _, ia1, ld1⟩ := tab9.tab.at (i := i) (j := fr) hTi (by omega) .i64
      obtain ⟨m2, um2, hm2, _, _, ia2, ld2⟩ := tab9.tab.at (i := i+1) (j := to) hTi1 (by omega) .i64
      have r1 := tab9.rep i fr hTi (by omega)
      have r2 := tab9.rep (i+1) to hTi1 (by omega)
      rw [List.getElem?_eq_getElem (by omega)] at ld1
      rw [List.getElem?_eq_getElem (by omega)] at ld2
      have hjx : j < xss[i].length := by rw [hx i hi]; exact hj
      obtain ⟨pz, z1, z2⟩ := (v3.mono tab9.tab.sub).get (k := j) hjx .i64
      have hW := S.wmono (hw i j hix hjx) (hs02.trans' tab9.g0)
      have hw1 : IntKind.i64.wrap ((i : Int) + 1) = ((i + 1 : Nat) : Int) := wrapN1 (by omega)
      have hkK : i * E + j < S.K := by
        have : (i + 1) * E ≤ es.length * E := Nat.mul_le_mul_right _ hi
        rw [Nat.add_mul] at this
        omega
      simp only [go_sem, ↓reduceIte, Nat.reduceEqDiff, Nat.reduceAdd, reduceCtorEq, h2, h3, h4, h9, h10, h31, h32, h33, h38, h39, h40, hw1, ia_nat (show i < ws.length by omega), ia_nat (show i + 1 < ws.length by omega), v1, ld_mono tab9.tab.sub v2, ld_box tab9.tab.outer, um1, um2, ld_box hb9, hfr, hto, ia1, ia2, ld1, ld2, z1, z2, ld_boxa (tab9.tab.sub _ _ hb3') (show 0 + 0 ≤ _ by simp), List.take_zero]
      refine invC_in (S.hm hkK r1 hW) tab9.gh fun x10 H10 G10 hs10 ga gb gc hx10 => ?_
      have tab10 := tab9.call (G' := G10) (H' := H10) (fun _ _ _ h => S.mono h ga) hs10 ga gb gc
      simp only [go_sem, ↓reduceIte, Nat.reduceEqDiff, Nat.reduceAdd, reduceCtorEq]
      refine invC_in (S.ha hkK (S.mono r2 ga) hx10) tab10.gh fun x11 H11 G11 hs11 ga' gb' gc' hx11 => ?_
      have tab11 := tab10.call (G' := G11) (H' := H11) (fun _ _ _ h => S.mono h ga') hs11 ga' gb' gc'
      obtain ⟨m3, um3, hm3, _, _, ia3, _⟩ := tab11.tab.at (i := i+1) (j := to) hTi1 (by omega) .i64
      obtain rfl : m2 = m3 := sl_name um2 um3
      simp only [go_sem, ↓reduceIte, Nat.reduceEqDiff, Nat.reduceAdd, reduceCtorEq, ia2]
      refine stC_intro hm3 trivial (by rw [S.cells hx11]; rfl) (by decide) (by show to + 1 ≤ _; omega) fun H12 hb12 hf12 hs12 => ?_
      rw [S.cells hx11, splice_one _ _ _ (by omega)] at hb12
      simp only [go_sem, ↓reduceIte, Nat.reduceEqDiff, Nat.reduceAdd, reduceCtorEq, h2, h3, h4, h9, h10, h31, h32, h33, h38, h39, h40]
      refine ⟨by trivial, by trivial, by trivial, by trivial, by trivial, by trivial, by trivial, by trivial, by trivial, by trivial, by trivial, by trivial, _, _, tab11.set (i := i+1) (j := to) hTi1 um3 (by omega) hb12 hf12 ?_ ?_, by rw [List.length_set]; exact hT, fun r hr => ?_⟩
      · have : stF S z es i (j+1) (i+1) to = S.add (stF S z es i j (i+1) to) (S.mul (stF S z es i j i fr) (z i j)) := by
          unfold stF
          rw [if_neg (by omega), if_pos rfl, if_neg (by omega), if_pos rfl, if_pos (Nat.le_refl i), secF]
          simp [hi, hj, hto, hfr]
        rw [this]; exact hx11
      · intro r v w hne h
        have : stF S z es i (j+1) r v = stF S z es i j r v := by
          unfold stF
          by_cases h1 : r ≤ i
          · rw [if_pos h1, if_pos h1]
          · rw [if_neg h1, if_neg h1]
            by_cases h2 : r = i + 1
            · have hvt : ¬ v = to := fun h => hne ⟨h2, h⟩
              rw [if_pos h2, if_pos h2, secF]
              simp [hi, hj, hto, hvt]
            · rw [if_neg h2, if_neg h2]
        rw [this]; exact S.up h (by omega)
      · rw [List.length_set] at hr
        by_cases e : i + 1 = r
        · subst e; simp [hTl (i+1) hTi1]
        · rw [List.getElem_set_ne e]; exact hTl r hr
    · rintro env H' ⟨h2, h3, h4, h9, h31, h32, h33, h10, h38, h39, h40, T, G, tab, hT, hTl⟩
      simp only [go_sem, ↓reduceIte, Nat.reduceEqDiff, Nat.reduceAdd, reduceCtorEq, h2, h3, h4, h9, h31, h32, h33]
      refine ⟨by trivial, by trivial, by trivial, by trivial, by trivial, by trivial, by trivial, by trivial, T, G, ?_, hT, hTl⟩
      rw [← stF_next hi]
      exact tab.weaken fun r v x _ h => S.up h (by rw [Nat.add_mul]; omega)
  · rintro env H' ⟨h2, h3, h4, h9, h31, h32, h33, T, G, tab, hT, hTl⟩
    simp only [go_sem, ↓reduceIte, Nat.reduceEqDiff, Nat.reduceAdd, reduceCtorEq, h9]
    refine finO_self ⟨hs02.trans' tab.tab.sub, N, us, T, G, by rw [e2], ?_, by omega, hTl⟩
    refine VTab.weaken (Q := fun r v G x => S.Rep (es.length * E) G x (stF S z es es.length 0 r v)) ⟨tab.tab.down hs02, hs02.trans' tab.g0, tab.gh, tab.gN, tab.gr, tab.rep⟩ fun r v x hr h => ?_
    have : stF S z es es.length 0 r v = rowF S z es r v := by unfold stF; rw [if_pos (by omega)]
    rw [this] at h
    exact h
end
end Go.AM
