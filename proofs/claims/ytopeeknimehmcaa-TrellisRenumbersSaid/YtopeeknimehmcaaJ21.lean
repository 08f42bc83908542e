/- viterbi.valued of polynomials, viterbi.Enumerator. Conditions: as stated. -/
import Derived.Test.YtopeeknimehmcaaJ20
set_option linter.unusedVariables false
set_option linter.unusedSimpArgs false
namespace Go.AM
open Go Go.Proofs
attribute [local go_sem] c_skip c_ops c_seq c_ite c_blk c_exit c_ret t_normal t_exit t_ret b_normal b_exit b_ret i_nil i_cons s_guard s_mov s_pick s_new s_zero s_ld s_ldr s_st s_bin s_beq s_isnil s_eqs s_un s_conv s_fa s_fld s_ia s_sli s_ext s_ifc s_mkf s_agg s_len s_mm s_nilchk s_bsl s_mk s_app s_cpy s_call s_inv cells_agg cells_int cells_bool p_get p_none o_s o_c e_0 e_1 e_2 e_3 e_4 iteC_true iteC_false grd_tt grd_tf grd_ft grd_ff grd_und bindV_some pickV_t pickV_f beq_bool conv_int un_not not_dec mm_min mm_max bv_add bv_sub bv_mul bv_eql bv_neq bv_lss bv_leq bv_gtr bv_geq f_normal f_one f_two f_three f_none fa_ptr fld_one ext_tup len_sl len_nils decide_true decide_false not_true_eq_false not_false_eq_true List.map_cons List.map_nil List.append_nil List.cons_append List.nil_append Nat.zero_add Nat.add_zero Nat.mul_one Nat.succ_ne_self if_true if_false List.getElem?_cons_zero List.getElem?_cons_succ

/-- viterbi.valued[[]api.Nat] -/
def F52 : AF := ⟨45, [(4, none)], (.seq (.ops [⟨none, false, (some 2), (.new (.s 0))⟩, ⟨none, false, (some 4), (.mov (.c .nils))⟩]) (.seq (.ops [⟨none, false, (some 10), (.fa 1 (.s 2))⟩, ⟨none, false, (some 11), (.ld false 1 (.s 10) none)⟩, ⟨none, false, (some 12), (.len (.s 11))⟩, ⟨none, false, (some 13), (.mk 1 24 [.nils] (.s 12) (.s 12))⟩, ⟨none, false, (some 5), (.mov (.s 13))⟩]) (.seq (.seq (.ops [⟨none, false, (some 14), (.fa 1 (.s 2))⟩, ⟨none, false, (some 15), (.ld false 1 (.s 14) none)⟩, ⟨none, false, (some 16), (.len (.s 15))⟩, ⟨none, false, (some 17), (.mov (.c (.int .i64 (0))))⟩]) (.blk 0 (.loop (.seq (.ops [⟨none, false, (some 18), (.bin .lss (.s 17) (.s 16))⟩]) (.seq (.ite (.s 18) .skip (.exit 0)) (.seq (.blk 1 (.seq (.ops [⟨none, false, (some 19), (.mov (.s 17))⟩, ⟨none, false, (some 20), (.ia 1 (.s 15) (.s 17))⟩, ⟨none, false, (some 21), (.ld false 1 (.s 20) none)⟩, ⟨none, false, (some 6), (.mov (.s 19))⟩, ⟨none, false, (some 7), (.mov (.s 21))⟩]) (.seq (.ops [⟨none, false, (some 22), (.mov (.s 7))⟩, ⟨none, false, (some 23), (.len (.s 22))⟩, ⟨none, false, (some 24), (.mov (.c (.int .i64 (0))))⟩]) (.blk 2 (.loop (.seq (.ops [⟨none, false, (some 25), (.bin .lss (.s 24) (.s 23))⟩]) (.seq (.ite (.s 25) .skip (.exit 2)) (.seq (.blk 3 (.seq (.ops [⟨none, false, (some 26), (.ia 3 (.s 22) (.s 24))⟩, ⟨none, false, (some 27), (.ld true 3 (.s 26) none)⟩, ⟨none, false, (some 9), (.zero [(.int .i64 (0)), (.int .i64 (0)), (.int .i64 (0))])⟩, ⟨none, false, none, (.st 3 (.s 9) (.s 27) [])⟩]) (.ops [⟨none, false, (some 28), (.mov (.s 5))⟩, ⟨none, false, (some 29), (.mov (.s 6))⟩, ⟨none, false, (some 30), (.mov (.s 5))⟩, ⟨none, false, (some 31), (.mov (.s 6))⟩, ⟨none, false, (some 32), (.ia 1 (.s 30) (.s 31))⟩, ⟨none, false, (some 34), (.mov (.s 1))⟩, ⟨none, false, (some 35), (.mov (.s 6))⟩, ⟨none, false, (some 36), (.fa 1 (.s 9))⟩, ⟨none, false, (some 33), (.ld false 1 (.s 32) none)⟩, ⟨none, false, (some 37), (.ld false 1 (.s 36) none)⟩, ⟨none, true, (some 38), (.call (.s 34) [(.s 35), (.s 37)])⟩, ⟨none, false, (some 39), (.bsl 1 1 [.nils] [(0, (1, (.s 38)))])⟩, ⟨none, false, (some 40), (.app 1 24 (.s 33) (.s 39) [])⟩, ⟨none, false, (some 41), (.ia 1 (.s 28) (.s 29))⟩, ⟨none, false, none, (.st 1 (.s 41) (.s 40) [])⟩]))) (.ops [⟨none, false, (some 42), (.bin .add (.s 24) (.c (.int .i64 (1))))⟩, ⟨none, false, (some 24), (.mov (.s 42))⟩]))))))))) (.ops [⟨none, false, (some 43), (.bin .add (.s 17) (.c (.int .i64 (1))))⟩, ⟨none, false, (some 17), (.mov (.s 43))⟩]))))))) (.seq (.ops [⟨none, false, (some 44), (.mov (.s 5))⟩, ⟨none, false, (some 4), (.mov (.s 44))⟩]) .ret))))⟩
theorem cv52 : cvF Try.prog 52 = some F52 := by kernel_rfl

/-- viterbi.Enumerator$1 -/
def F53 : AF := ⟨12, [(6, none)], (.seq (.ops [⟨none, false, (some 6), (.mov (.c .nils))⟩]) (.seq (.seq (.ops [⟨none, false, (some 7), (.mov (.s 1))⟩, ⟨none, false, (some 8), (.bin .eql (.s 7) (.c (.int .i64 (0))))⟩]) (.ite (.s 8) (.seq (.ops [⟨none, false, (some 9), (.ld true 0 (.s 2) none)⟩, ⟨none, false, (some 10), (.call (.c (.fn 54 [])) [(.s 9)])⟩, ⟨none, false, (some 6), (.mov (.s 10))⟩]) .ret) .skip)) (.seq (.ops [⟨none, false, (some 11), (.ld false 1 (.s 3) none)⟩, ⟨none, false, (some 6), (.mov (.s 11))⟩]) .ret)))⟩
theorem cv53 : cvF Try.prog 53 = some F53 := by kernel_rfl

/-- viterbi.Enumerator -/
def F20 : AF := ⟨46, [(2, none), (3, none)], (.seq (.ops [⟨none, false, (some 1), (.new (.s 0))⟩, ⟨none, false, (some 2), (.mov (.c .nils))⟩, ⟨none, false, (some 3), (.mov (.c (.int .i64 (0))))⟩]) (.seq (.seq (.ops [⟨none, false, (some 10), (.ld true 2 (.s 1) none)⟩, ⟨none, false, (some 11), (.call (.c (.fn 18 [])) [(.s 10)])⟩, ⟨none, false, (some 4), (.mov (.s 11))⟩]) (.seq (.ops [⟨none, false, (some 12), (.mov (.s 4))⟩, ⟨none, false, (some 13), (.bin .neq (.s 12) (.c (.int .i64 (0))))⟩]) (.ite (.s 13) (.seq (.ops [⟨none, false, (some 14), (.mov (.s 4))⟩, ⟨none, false, (some 2), (.mov (.c .nils))⟩, ⟨none, false, (some 3), (.mov (.s 14))⟩]) .ret) .skip))) (.seq (.ops [⟨none, false, (some 15), (.agg [] [])⟩, ⟨none, false, (some 5), (.zero [])⟩, ⟨none, false, none, (.st 0 (.s 5) (.s 15) [])⟩]) (.seq (.ops [⟨none, false, (some 16), (.call (.c (.fn 50 [])) [(.c (.int .u64 (1)))])⟩, ⟨none, false, (some 17), (.bsl 1 2 [.nils, .nils] [(0, (1, (.c .nils))), (1, (1, (.s 16)))])⟩, ⟨none, false, (some 6), (.zero [.nils])⟩, ⟨none, false, none, (.st 1 (.s 6) (.s 17) [])⟩]) (.seq (.ops [⟨none, false, (some 22), (.mkf 53 [(.s 5), (.s 6)])⟩, ⟨none, false, (some 19), (.ld true 0 (.s 5) none)⟩, ⟨none, false, (some 20), (.ld true 2 (.s 1) none)⟩, ⟨none, false, (some 21), (.ld true 2 (.s 1) none)⟩, ⟨none, true, (some 23), (.call (.c (.fn 52 [])) [(.s 21), (.s 22)])⟩, ⟨none, true, (some 24), (.call (.c (.fn 51 [])) [(.s 19), (.s 20), (.s 23)])⟩, ⟨none, false, (some 18), (.mov (.s 24))⟩, ⟨none, false, (some 25), (.ext (.s 18) 0)⟩, ⟨none, false, (some 26), (.ext (.s 18) 1)⟩, ⟨none, false, (some 7), (.mov (.s 25))⟩, ⟨none, false, (some 8), (.mov (.s 26))⟩]) (.seq (.seq (.ops [⟨none, false, (some 27), (.mov (.s 8))⟩, ⟨none, false, (some 28), (.bin .neq (.s 27) (.c (.int .i64 (0))))⟩]) (.ite (.s 28) (.seq (.ops [⟨none, false, (some 29), (.mov (.s 8))⟩, ⟨none, false, (some 2), (.mov (.c .nils))⟩, ⟨none, false, (some 3), (.mov (.s 29))⟩]) .ret) .skip)) (.seq (.ops [⟨none, false, (some 30), (.fa 1 (.s 1))⟩, ⟨none, false, (some 31), (.ld false 1 (.s 30) none)⟩, ⟨none, false, (some 32), (.len (.s 31))⟩, ⟨none, false, (some 33), (.bin .add (.s 32) (.c (.int .i64 (1))))⟩, ⟨none, false, (some 34), (.mk 1 24 [.nils] (.s 33) (.s 33))⟩, ⟨none, false, (some 9), (.mov (.s 34))⟩]) (.seq (.ops [⟨none, false, (some 35), (.mov (.s 9))⟩, ⟨none, false, (some 36), (.mov (.s 7))⟩, ⟨none, false, (some 37), (.fa 1 (.s 1))⟩, ⟨none, false, (some 38), (.ld false 1 (.s 37) none)⟩, ⟨none, false, (some 39), (.len (.s 38))⟩, ⟨none, false, (some 40), (.ia 1 (.s 36) (.s 39))⟩, ⟨none, false, (some 41), (.ld false 1 (.s 40) none)⟩, ⟨none, false, (some 42), (.ia 1 (.s 41) (.c (.int .i64 (0))))⟩, ⟨none, false, (some 43), (.ld false 1 (.s 42) none)⟩, ⟨none, false, (some 44), (.cpy 1 (.s 35) (.s 43))⟩]) (.seq (.ops [⟨none, false, (some 45), (.mov (.s 9))⟩, ⟨none, false, (some 2), (.mov (.s 45))⟩, ⟨none, false, (some 3), (.mov (.c (.int .i64 (0))))⟩]) .ret)))))))))⟩
theorem cv20 : cvF Try.prog 20 = some F20 := by kernel_rfl


theorem cvRowsE : cvF Try.prog 86 = some (rowsC 82 155) := by kernel_rfl
theorem cvFwdE : cvF Try.prog 51 = some (fwdC 85 86 82 155 54 153 154) := by kernel_rfl
theorem cvValE : cvF Try.prog 85 = some F101 := by kernel_rfl

def zq (a : Int) : List Int := if a = 0 then [1] else [0, 1]
theorem zq_mono (a : Int) : MonoQ (zq a) := by unfold zq MonoQ; split <;> simp
def zE (es : List (List Ed)) (i j : Nat) : List Int := zq (((es[i]?.getD [])[j]?.map Ed.lb).getD 0)
def enumP (es : List (List Ed)) : List Int := rowF enS (zE es) es es.length 0
def padP (p : List Int) (n : Nat) : List Int := (List.range n).map (cf p)

theorem secF_lenP {S : Nat → List Int} {z : Nat → List Int} {l : List Ed} {B : Nat} (hs : ∀ v, (S v).length ≤ B) (hz : ∀ j, MonoQ (z j)) : ∀ j v, (secF enS S z l j v).length ≤ B + 1
  | 0, v => by show ([] : List Int).length ≤ _; simp
  | j+1, v => by
    have ih := secF_lenP (S := S) (z := z) (l := l) hs hz j v
    unfold secF
    cases e : l[j]? with
    | none => exact ih
    | some x =>
      simp only
      split
      · have h1 := pAdd_len (secF enS S z l j v) (pMul (S x.fr.toNat) (z j))
        have h2 := pMul_len (p := S x.fr.toNat) (hz j).len.1
        have h3 := (hz j).len.2
        have h4 := hs x.fr.toNat
        show (pAdd (secF enS S z l j v) (pMul (S x.fr.toNat) (z j))).length ≤ _
        omega
      · exact ih
theorem rowF_lenP (es : List (List Ed)) : ∀ i v, (rowF enS (zE es) es i v).length ≤ i + 1
  | 0, v => by
    show (if v = 0 then [1] else ([] : List Int)).length ≤ _
    split <;> simp
  | i+1, v => secF_lenP (rowF_lenP es i) (fun j => zq_mono _) _ v

theorem vvalP_spec {sv ev : V} {ws : List Int} {es : List (List Ed)} {H : Heap} {g : FuncId} {caps : List V} (he : SSecs H ev es) (sh : Shaped ws es)
    (hz : ∀ i j, (h : i < es.length) → (h' : j < es[i].length) → ∀ G, Heap.sub H G → ACalls Try.prog g ([.int .i64 i, .int .i64 es[i][j].lb] ++ caps) G fun v G' => Heap.sub G G' ∧ enS.W G' v (zq es[i][j].lb)) :
    ACalls Try.prog 52 [.agg [sv, ev], .fn g caps] H fun u H' => Heap.sub H H' ∧ ∃ N us T G, u = .sl N 0 es.length true ∧ VTab H G H' N false us T (fun i j G v => enS.W G v (zE es i j)) ∧ T.length = es.length ∧ ∀ i, (h : i < T.length) → T[i].length = (es[i]?.getD []).length := by
  refine ACalls.of_body hm cv52 (by simp only [List.length_cons, List.length_nil]; decide) ?_
  have hn := sh.n
  simp only [F52, go_sem, ↓reduceIte, Nat.reduceEqDiff, Nat.reduceAdd, reduceCtorEq]
  refine newC_intro fun b2 H1 hn1 hs1 hb1 => ?_
  simp only [go_sem, ↓reduceIte, Nat.reduceEqDiff, Nat.reduceAdd, reduceCtorEq, ld_box hb1, SLists.len he]
  refine mkC_intro (Nat.le_refl _) (by omega) (by omega) fun N H2 hN hs2 hbN => ?_
  rw [flat_rep] at hbN
  simp only [go_sem, ↓reduceIte, Nat.reduceEqDiff, Nat.reduceAdd, reduceCtorEq, ld_box (hs2 _ _ hb1), SLists.len he, beq_self_eq_true]
  have hq : ∀ {G G' : Heap}, Heap.sub G G' → ∀ (i j : Nat) (v : V), enS.W G v (zE es i j) → enS.W G' v (zE es i j) := fun hs _ _ _ h => enS.wmono h hs
  have tab0 : VTab H1 H1 H2 N false (List.replicate es.length .nils) (List.replicate es.length []) (fun i j G v => enS.W G v (zE es i j)) := by
    refine ⟨⟨hs2, hbN, hN, by simp, fun i h => ?_, fun i j n l l' h => ?_⟩, Heap.sub.rfl', hs2, hN, fun i n l h => ?_, fun i j h h' => ?_⟩
    · rw [List.length_replicate] at h
      exact .inl ⟨by simp [h], by simp, trivial⟩
    · simp [List.getElem?_replicate] at h
    · simp [List.getElem?_replicate] at h
    · simp at h'
  refine range_loop es.length (fun k env H' => env 1 = .fn g caps ∧ env 5 = .sl N 0 es.length true ∧ env 15 = ev ∧ env 16 = .int .i64 es.length ∧ env 17 = .int .i64 k ∧ ∃ us T G, VTab H1 G H' N false us T (fun i j G v => enS.W G v (zE es i j)) ∧ T.length = es.length ∧ ∀ i, (h : i < T.length) → T[i].length = if i < k then (es[i]?.getD []).length else if i = k then 0 else 0) (by omega) (by decide) (by decide) ?_ ?_ ?_ ?_
  · rintro k env H' ⟨_, _, _, h7, h8, _⟩; exact ⟨h8, h7⟩
  · simp only [go_sem, ↓reduceIte, Nat.reduceEqDiff, Nat.reduceAdd, reduceCtorEq]
    exact ⟨by trivial, by trivial, by trivial, by trivial, rfl, _, _, _, tab0, by simp, by simp⟩
  · rintro k env H4 hk ⟨h1, h5, h15, h16, h17, us, T, G, tab, hT, hTl⟩
    obtain ⟨p, ue, a1, a2, a3⟩ := (SSecs.mono he hs1).get hk .i64
    have hlk := sh.each k hk
    have gk : (es[k]?.getD []) = es[k] := by simp [hk]
    simp only [go_sem, ↓reduceIte, Nat.reduceEqDiff, Nat.reduceAdd, reduceCtorEq, h1, h5, h15, h16, h17, a1, ld_mono tab.tab.sub a2, a3.len]
    refine range_loop es[k].length (fun j env H' => env 1 = .fn g caps ∧ env 5 = .sl N 0 es.length true ∧ env 15 = ev ∧ env 16 = .int .i64 es.length ∧ env 17 = .int .i64 k ∧ env 6 = .int .i64 k ∧ env 22 = ue ∧ env 23 = .int .i64 es[k].length ∧ env 24 = .int .i64 j ∧ ∃ us T G, VTab H1 G H' N false us T (fun i j G v => enS.W G v (zE es i j)) ∧ T.length = es.length ∧ ∀ i, (h : i < T.length) → T[i].length = if i < k then (es[i]?.getD []).length else if i = k then j else 0) (by omega) (by decide) (by decide) ?_ ?_ ?_ ?_
    · rintro j env H' ⟨_, _, _, _, _, _, _, h7, h8, _⟩; exact ⟨h8, h7⟩
    · simp only [go_sem, ↓reduceIte, Nat.reduceEqDiff, Nat.reduceAdd, reduceCtorEq, h1, h5, h15, h16, h17]
      exact ⟨by trivial, by trivial, by trivial, by trivial, by trivial, by trivial, by trivial, by trivial, rfl, us, T, G, tab, hT, hTl⟩
    · rintro j env H5 hj ⟨h1, h5, h15, h16, h17, h6, h22, h23, h24, us, T, G, tab, hT, hTl⟩
      obtain ⟨p, q0, q1, q2, b1, b2, b3, b4, b5, b6, b7, b8⟩ := (a3.mono tab.tab.sub).get hj .i64
      have hkp : k < T.length := by omega
      have hpl : T[k].length = j := by have := hTl k hkp; simpa using this
      simp only [go_sem, ↓reduceIte, Nat.reduceEqDiff, Nat.reduceAdd, reduceCtorEq, h1, h5, h15, h16, h17, h6, h22, h23, h24, b1, b2]
      refine newC_intro fun n4 H6 hn4 hs6 hb4 => ?_
      simp only [go_sem, ↓reduceIte, Nat.reduceEqDiff, Nat.reduceAdd, reduceCtorEq, h6]
      refine stC_intro hb4 trivial rfl (by decide) (by decide) fun H7 hb5 hf7 hs7 => ?_
      simp only [Ed.cells, fillV, List.length_cons, List.length_nil, splice, Nat.reduceLeDiff, Nat.zero_lt_one, and_self, List.take_zero, List.take_succ_cons, List.drop_succ_cons, List.drop_zero, List.drop_nil, Nat.reduceLT, Nat.le_refl, go_sem, ↓reduceIte, Nat.reduceEqDiff, Nat.reduceAdd, reduceCtorEq] at hb5
      have hs57 : Heap.sub H5 H7 := hs7 H5 hs6 hn4
      have tab7 := tab.grow hs57
      obtain ⟨u, hu, hlu, hlr, _⟩ := tab7.tab.get hkp
      simp only [go_sem, ↓reduceIte, Nat.reduceEqDiff, Nat.reduceAdd, reduceCtorEq, h1, h5, h15, h16, h17, h6, h22, h23, h24, ia_nat hk, ld_box tab7.tab.outer, hu, ld_box hb5]
      refine callC_in (hz k j hk hj G (hs1.trans' tab7.g0)) tab7.gh fun x H8 G8 hs8 ga gb gc hx => ?_
      have tab8 := tab7.call (G' := G8) (H' := H8) (hq ga) hs8 ga gb gc
      simp only [go_sem, ↓reduceIte, Nat.reduceEqDiff, Nat.reduceAdd, reduceCtorEq, fillV, List.length_cons, List.length_nil, splice, Nat.reduceLeDiff, Nat.zero_lt_one, and_self, List.take_zero, List.take_succ_cons, List.drop_succ_cons, List.drop_zero, List.drop_nil, Nat.reduceLT, Nat.le_refl, hx.1.cells]
      refine newC_intro fun xb H9 hxb hs9 hbx => ?_
      have tab9 := tab8.grow hs9
      simp only [go_sem, ↓reduceIte, Nat.reduceEqDiff, Nat.reduceAdd, reduceCtorEq]
      have hzz : zE es k j = zq es[k][j].lb := by simp [zE, hk, hj]
      refine appC_vtab tab9 hkp hu hbx (by omega) (by omega) (by rw [hpl, hzz]; exact hx) fun m Ha hba hlua hta => ?_
      have hul : us.length = es.length := by rw [tab.tab.len, hT]
      simp only [go_sem, ↓reduceIte, Nat.reduceEqDiff, Nat.reduceAdd, reduceCtorEq, h1, h5, h15, h16, h17, h6, h22, h23, h24, ia_nat hk]
      refine stC_intro hba trivial rfl (by decide) (by show k + 1 ≤ us.length; omega) fun Hb hbb hfb hsb => ?_
      simp only [go_sem, ↓reduceIte, Nat.reduceEqDiff, Nat.reduceAdd, reduceCtorEq, h1, h5, h15, h16, h17, h6, h22, h23, h24]
      exact ⟨by trivial, by trivial, by trivial, by trivial, by trivial, by trivial, by trivial, by trivial, by trivial, by trivial, _, _, _, hta Hb (by
        rw [hbb, show V.cells (V.sl m 0 (T[k].length + 1) false) = [V.sl m 0 (T[k].length + 1) false] from rfl, splice_one _ _ _ (by omega)]) hfb, by rw [List.length_set]; exact hT, part_lens hT hTl hkp⟩
    · rintro env H' ⟨h1, h5, h15, h16, h17, h6, h22, h23, h24, us, T, G, tab, hT, hTl⟩
      simp only [go_sem, ↓reduceIte, Nat.reduceEqDiff, Nat.reduceAdd, reduceCtorEq, h1, h5, h15, h16, h17]
      refine ⟨by trivial, by trivial, by trivial, by trivial, by trivial, by trivial, us, T, G, tab, hT, fun i hi => ?_⟩
      rw [hTl i hi]
      by_cases h1 : i < k
      · simp [h1, show i < k + 1 by omega]
      · by_cases h2 : i = k
        · subst h2; simp [hk]
        · simp [h1, h2, show ¬ i < k + 1 by omega]
  · rintro env H' ⟨h1, h5, h15, h16, h17, us, T, G, tab, hT, hTl⟩
    simp only [go_sem, ↓reduceIte, Nat.reduceEqDiff, Nat.reduceAdd, reduceCtorEq, h5]
    refine finO_self ⟨hs1.trans' tab.tab.sub, N, us, T, G, rfl, ⟨tab.tab.down hs1, hs1.trans' tab.g0, tab.gh, tab.gN, tab.gr, tab.rep⟩, hT, fun i hi => ?_⟩
    rw [hTl i hi, if_pos (by omega)]

theorem enumC_spec {b5 b6 : Nat} {zv : V} {G : Heap} {i : Nat} {a : Int} (h5 : ∃ o s, G b5 = some ⟨o, s, []⟩) (h6 : ∃ o, G b6 = some ⟨o, 1, [zv]⟩) (hz : SPoly G zv [0, 1] 2) :
    ACalls Try.prog 53 [.int .i64 i, .int .i64 a, .ptr b5 0, .ptr b6 0] G fun v G' => Heap.sub G G' ∧ enS.W G' v (zq a) := by
  refine ACalls.of_body hm cv53 (by simp only [List.length_cons, List.length_nil]; decide) ?_
  obtain ⟨o5, s5, h5⟩ := h5
  obtain ⟨o6, h6⟩ := h6
  simp only [F53, go_sem, ↓reduceIte, Nat.reduceEqDiff, Nat.reduceAdd, reduceCtorEq]
  refine iteC_if (fun c => ?_) (fun c => ?_)
  · simp only [go_sem, ↓reduceIte, Nat.reduceEqDiff, Nat.reduceAdd, reduceCtorEq, ld_boxa h5 (show 0 + 0 ≤ _ by simp), List.take_zero]
    refine callC_grow (eOne_spec _) ?_
    intro x H2 hs2 hx
    simp only [go_sem, ↓reduceIte, Nat.reduceEqDiff, Nat.reduceAdd, reduceCtorEq]
    exact finO_self ⟨hs2, by rw [zq, if_pos c]; exact hx, zq_mono _⟩
  · simp only [go_sem, ↓reduceIte, Nat.reduceEqDiff, Nat.reduceAdd, reduceCtorEq, ld_box h6]
    exact finO_self ⟨Heap.sub.rfl', by rw [zq, if_neg c]; exact hz, zq_mono _⟩
end Go.AM

set_option linter.unusedVariables false
set_option linter.unusedSimpArgs false
namespace Go.AM
open Go Go.Proofs
attribute [local go_sem] c_skip c_ops c_seq c_ite c_blk c_exit c_ret t_normal t_exit t_ret b_normal b_exit b_ret i_nil i_cons s_guard s_mov s_pick s_new s_zero s_ld s_ldr s_st s_bin s_beq s_isnil s_eqs s_un s_conv s_fa s_fld s_ia s_sli s_ext s_ifc s_mkf s_agg s_len s_mm s_nilchk s_bsl s_mk s_app s_cpy s_call s_inv cells_agg cells_int cells_bool p_get p_none o_s o_c e_0 e_1 e_2 e_3 e_4 iteC_true iteC_false grd_tt grd_tf grd_ft grd_ff grd_und bindV_some pickV_t pickV_f beq_bool conv_int un_not not_dec mm_min mm_max bv_add bv_sub bv_mul bv_eql bv_neq bv_lss bv_leq bv_gtr bv_geq f_normal f_one f_two f_three f_none fa_ptr fld_one ext_tup len_sl len_nils decide_true decide_false not_true_eq_false not_false_eq_true List.map_cons List.map_nil List.append_nil List.cons_append List.nil_append Nat.zero_add Nat.add_zero Nat.mul_one Nat.succ_ne_self if_true if_false List.getElem?_cons_zero List.getElem?_cons_succ

/-- viterbi.Lightest -/
def F21 : AF := ⟨36, [(2, (some (true, 2))), (3, none)], (.seq (.ops [⟨none, false, (some 1), (.new (.s 0))⟩, ⟨none, false, (some 2), (.zero [(.int .i64 (0)), .nils])⟩, ⟨none, false, (some 3), (.mov (.c (.int .i64 (0))))⟩]) (.seq (.ops [⟨none, false, (some 9), (.ld true 2 (.s 1) none)⟩, ⟨none, false, (some 10), (.call (.c (.fn 20 [])) [(.s 9)])⟩, ⟨none, false, (some 8), (.mov (.s 10))⟩, ⟨none, false, (some 11), (.ext (.s 8) 0)⟩, ⟨none, false, (some 12), (.ext (.s 8) 1)⟩, ⟨none, false, (some 4), (.mov (.s 11))⟩, ⟨none, false, (some 5), (.mov (.s 12))⟩]) (.seq (.seq (.ops [⟨none, false, (some 13), (.mov (.s 5))⟩, ⟨none, false, (some 14), (.bin .neq (.s 13) (.c (.int .i64 (0))))⟩]) (.ite (.s 14) (.seq (.ops [⟨none, false, (some 15), (.agg [(.int .i64 (0)), .nils] [])⟩, ⟨none, false, (some 16), (.mov (.s 5))⟩, ⟨none, false, none, (.st 2 (.s 2) (.s 15) [])⟩, ⟨none, false, (some 3), (.mov (.s 16))⟩]) .ret) .skip)) (.seq (.seq (.ops [⟨none, false, (some 17), (.mov (.s 4))⟩, ⟨none, false, (some 18), (.len (.s 17))⟩, ⟨none, false, (some 19), (.mov (.c (.int .i64 (0))))⟩]) (.blk 0 (.loop (.seq (.ops [⟨none, false, (some 20), (.bin .lss (.s 19) (.s 18))⟩]) (.seq (.ite (.s 20) .skip (.exit 0)) (.seq (.blk 1 (.seq (.ops [⟨none, false, (some 21), (.mov (.s 19))⟩, ⟨none, false, (some 22), (.ia 1 (.s 17) (.s 19))⟩, ⟨none, false, (some 23), (.ld false 1 (.s 22) none)⟩, ⟨none, false, (some 6), (.mov (.s 21))⟩, ⟨none, false, (some 7), (.mov (.s 23))⟩]) (.seq (.ops [⟨none, false, (some 24), (.mov (.s 6))⟩, ⟨none, false, (some 25), (.bin .gtr (.s 24) (.c (.int .i64 (0))))⟩, ⟨none, false, (some 26), (.mov (.s 25))⟩, ⟨(some (26, true)), false, (some 27), (.mov (.s 7))⟩, ⟨(some (26, true)), false, (some 28), (.len (.s 27))⟩, ⟨(some (26, true)), false, (some 29), (.bin .gtr (.s 28) (.c (.int .i64 (0))))⟩, ⟨none, false, (some 30), (.pick (.s 26) (.s 29) (.c (.bool false)))⟩]) (.ite (.s 30) (.seq (.ops [⟨none, false, (some 31), (.mov (.s 6))⟩, ⟨none, false, (some 32), (.mov (.s 7))⟩, ⟨none, false, (some 33), (.agg [(.int .i64 (0)), .nils] [(0, (1, (.s 31))), (1, (1, (.s 32)))])⟩, ⟨none, false, none, (.st 2 (.s 2) (.s 33) [])⟩, ⟨none, false, (some 3), (.mov (.c (.int .i64 (0))))⟩]) .ret) .skip)))) (.ops [⟨none, false, (some 34), (.bin .add (.s 19) (.c (.int .i64 (1))))⟩, ⟨none, false, (some 19), (.mov (.s 34))⟩]))))))) (.seq (.ops [⟨none, false, (some 35), (.agg [(.int .i64 (0)), .nils] [])⟩, ⟨none, false, none, (.st 2 (.s 2) (.s 35) [])⟩, ⟨none, false, (some 3), (.mov (.c (.int .i64 (11))))⟩]) .ret)))))⟩
theorem cv21 : cvF Try.prog 21 = some F21 := by kernel_rfl


theorem padP_get {p : List Int} {n i : Nat} (h : i < (padP p n).length) : (padP p n)[i] = cf p i := by simp [padP]
theorem padP_len (p : List Int) (n : Nat) : (padP p n).length = n := by simp [padP]
/-- a row of numbers that is put together -/
theorem poly_block {H : Heap} {N n L : Nat} {own f : Bool} {cs : List V} {p : List Int} (hb : H N = some ⟨own, 1, cs⟩) (hl : cs.length = n) (hp : p.length = n) (hn : n ≤ 281474976710656) (hq : ∀ i, (h : i < p.length) → ∃ u, cs[i]? = some u ∧ CNat H u p[i] L) : SPoly H (.sl N 0 n f) p L := by
  refine ⟨cs, ?_, hq⟩
  rw [hp]
  exact ⟨by omega, hn, .inr ⟨N, 0, f, _, rfl, hb, rfl, .inr (by simp [hl]), fun j hj => by simp⟩⟩

def LE : Nat := 16777218
theorem Enumerator_spec {sv ev : V} {ws : List Int} {es : List (List Ed)} {H : Heap} (hs : SInts H sv ws) (he : SSecs H ev es) : ACalls Try.prog 20 [.agg [sv, ev]] H fun u H' => Heap.sub H H' ∧
    ((properI ws es ≠ 0 ∧ u = .tup [.nils, .int .i64 (properI ws es)]) ∨ (properI ws es = 0 ∧ ∃ v, u = .tup [v, .int .i64 0] ∧ SPoly H' v (padP (enumP es) (es.length + 1)) LE)) := by
  refine ACalls.of_body hm cv20 (by simp only [List.length_cons, List.length_nil]; decide) ?_
  simp only [F20, go_sem, ↓reduceIte, Nat.reduceEqDiff, Nat.reduceAdd, reduceCtorEq]
  refine newC_intro fun b1 H1 hn1 hs1 hb1 => ?_
  simp only [go_sem, ↓reduceIte, Nat.reduceEqDiff, Nat.reduceAdd, reduceCtorEq, ld_boxa hb1 (show 0 + 2 ≤ _ by simp), fillV, List.length_cons, List.length_nil, splice, Nat.reduceLeDiff, Nat.zero_lt_one, and_self, List.take_zero, List.take_succ_cons, List.drop_succ_cons, List.drop_zero, List.drop_nil, Nat.reduceLT, Nat.le_refl]
  refine callC_pure (Proper_spec (hs.mono hs1) (SSecs.mono he hs1)) ?_
  simp only [go_sem, ↓reduceIte, Nat.reduceEqDiff, Nat.reduceAdd, reduceCtorEq]
  refine iteC_if (fun c => ?_) (fun c => ?_)
  · simp only [go_sem, ↓reduceIte, Nat.reduceEqDiff, Nat.reduceAdd, reduceCtorEq]
    exact finO_self ⟨hs1, .inl ⟨c, rfl⟩⟩
  have hp : properI ws es = 0 := Classical.byContradiction c
  obtain ⟨h0, w0, wl, hgood⟩ := proper_of hp
  have sh := shaped_of h0
  have hn := sh.n
  have e2 := sh.len
  simp only [go_sem, ↓reduceIte, Nat.reduceEqDiff, Nat.reduceAdd, reduceCtorEq, fillV, List.length_cons, List.length_nil, splice, Nat.reduceLeDiff, Nat.zero_lt_one, and_self, List.take_zero, List.take_succ_cons, List.drop_succ_cons, List.drop_zero, List.drop_nil, Nat.reduceLT, Nat.le_refl, Option.map_some]
  refine newC_intro fun b5 H2 hn2 hs2 hb2 => ?_
  simp only [go_sem, ↓reduceIte, Nat.reduceEqDiff, Nat.reduceAdd, reduceCtorEq]
  refine stC_empty hb2 trivial (by simp) ?_
  simp only [go_sem, ↓reduceIte, Nat.reduceEqDiff, Nat.reduceAdd, reduceCtorEq]
  refine callC_grow (Of_spec (by decide) (by decide) _) ?_
  intro x H3 hs3 hx
  simp only [go_sem, ↓reduceIte, Nat.reduceEqDiff, Nat.reduceAdd, reduceCtorEq, fillV, List.length_cons, List.length_nil, splice, Nat.reduceLeDiff, Nat.zero_lt_one, and_self, List.take_zero, List.take_succ_cons, List.drop_succ_cons, List.drop_zero, List.drop_nil, Nat.reduceLT, Nat.le_refl, hx.nat.cells, show V.cells V.nils = [V.nils] from rfl]
  refine newC_intro fun nb H4 hn4 hs4 hb4 => ?_
  simp only [go_sem, ↓reduceIte, Nat.reduceEqDiff, Nat.reduceAdd, reduceCtorEq]
  refine newC_intro fun b6 H5 hn5 hs5 hb5 => ?_
  simp only [go_sem, ↓reduceIte, Nat.reduceEqDiff, Nat.reduceAdd, reduceCtorEq]
  refine stC_intro hb5 trivial rfl (by decide) (by decide) fun H6 hb6 hf6 hs6 => ?_
  have h46 := hs6 _ hs5 hn5
  have h36 := hs4.trans' h46
  have h26 := hs3.trans' h36
  have h16 := hs2.trans' h26
  have hs06 := hs1.trans' h16
  have hb16 := h16 _ _ hb1
  have hb26 := h26 _ _ hb2
  have hzv : SPoly H6 (.sl nb 0 2 true) [0, 1] 2 := poly_block (h46 _ _ hb4) rfl rfl (by decide) fun i hi => by
    match i, hi with
    | 0, _ => exact ⟨_, rfl, CNat.nils _ _⟩
    | 1, _ => exact ⟨_, rfl, hx.mono h36⟩
  simp only [fillV, List.length_cons, List.length_nil, splice, Nat.reduceLeDiff, Nat.zero_lt_one, and_self, List.take_zero, List.take_succ_cons, List.drop_succ_cons, List.drop_zero, List.drop_nil, Nat.reduceLT, Nat.le_refl, show V.cells (V.sl nb 0 2 true) = [V.sl nb 0 2 true] from rfl] at hb6
  simp only [go_sem, ↓reduceIte, Nat.reduceEqDiff, Nat.reduceAdd, reduceCtorEq, ld_boxa hb26 (show 0 + 0 ≤ _ by simp), List.take_zero, ld_boxa hb16 (show 0 + 2 ≤ _ by simp), fillV, List.length_cons, List.length_nil, splice, Nat.reduceLeDiff, Nat.zero_lt_one, and_self, List.take_zero, List.take_succ_cons, List.drop_succ_cons, List.drop_zero, List.drop_nil, Nat.reduceLT, Nat.le_refl]
  refine callC_grow (vvalP_spec (ws := ws) (SSecs.mono he hs06) sh fun i j h h' G hg => enumC_spec ⟨_, _, hg _ _ hb26⟩ ⟨_, hg _ _ hb6⟩ (hzv.mono hg)) ?_
  rintro u H7 hs7 ⟨N, us, T, G, rfl, vt, hT, hTl⟩
  have hTl' : ∀ i, (h : i < es.length) → (T[i]'(by omega)).length = es[i].length := fun i h => by rw [hTl i (by omega)]; simp [h]
  have hrows : SRowsV H7 (.sl N 0 es.length true) T := vt.tab.rows hT.symm (by omega) fun xs hxs => by
    obtain ⟨i, hi, rfl⟩ := List.getElem_of_mem hxs
    have := sh.each i (by omega)
    rw [hTl' i (by omega)]; omega
  have hs07 := hs06.trans' hs7
  simp only [go_sem, ↓reduceIte, Nat.reduceEqDiff, Nat.reduceAdd, reduceCtorEq]
  refine callC_grow (ForwardG_spec (E := 262144) (z := zE es) enS cvFwdE cvValE cvRowsE rfl (show es.length * 262144 ≤ 33554432 by omega) (hs.mono hs07) (SSecs.mono he hs07) h0 hrows hT hTl' fun i j h h' => enS.wmono (vt.rep i j h h') vt.gh) ?_
  rintro u H8 hs8 ⟨N2, us2, T2, G2, rfl, vt2, hT2, hTl2⟩
  have hlen : es.length < T2.length := by omega
  have hl0 : 0 < T2[es.length].length := by rw [hTl2 _ hlen, wl]; decide
  obtain ⟨m2, um2, hm2, _, _, ia2, ld2⟩ := vt2.tab.at (i := es.length) (j := 0) hlen hl0 .i64
  have r2 := vt2.rep es.length 0 hlen hl0
  rw [List.getElem?_eq_getElem hl0] at ld2
  have ia2' : iaV 1 (.sl m2 0 T2[es.length].length false) (.int .i64 0) = some (.ptr m2 0) := ia2
  have hP : SPoly G2 T2[es.length][0] (enumP es) (es.length * 262144 + 2) := r2.1
  have hPl : (enumP es).length ≤ es.length + 1 := rowF_lenP es es.length 0
  have hb18 := hs8 _ _ (hs7 _ _ hb16)
  have hw : IntKind.i64.wrap ((es.length : Int) + 1) = ((es.length + 1 : Nat) : Int) := wrapN1 (by omega)
  simp only [go_sem, ↓reduceIte, Nat.reduceEqDiff, Nat.reduceAdd, reduceCtorEq, ld_box hb18, SLists.len he, hw]
  refine mkC_intro (Nat.le_refl _) (by omega) (by omega) fun NO H9 hn9 hs9 hb9 => ?_
  rw [flat_rep] at hb9
  have hs28 := vt2.gh
  simp only [go_sem, ↓reduceIte, Nat.reduceEqDiff, Nat.reduceAdd, reduceCtorEq, ld_box (hs9 _ _ hb18), SLists.len he, ia_nat (show es.length < es.length + 1 by omega), ld_box (hs9 _ _ vt2.tab.outer), um2, ia2', ld_mono hs9 ld2, beq_self_eq_true]
  obtain ⟨vs, hv1, hv2⟩ := hP
  have hc9 := (hv1.mono (hs28.trans' hs9)).cells
  have hl9 := Sl.lenV hv1
  have hvl : vs.length = (enumP es).length := by have := hv1.1; omega
  refine cpyC_intro hb9 hc9 (by simp) fun Ha hba hfa hsa => ?_
  rw [hl9, Nat.min_eq_left hPl, List.take_of_length_le (by omega)] at hba
  have hG2a := hsa G2 (hs28.trans' hs9) (hs28.none' hn9)
  have hHa := hsa H8 hs9 hn9
  simp only [go_sem, ↓reduceIte, Nat.reduceEqDiff, Nat.reduceAdd, reduceCtorEq]
  refine finO_self ⟨hs07.trans' (hs8.trans' hHa), .inr ⟨hp, _, rfl, poly_block hba ?_ (padP_len _ _) (by omega) fun i hi => ?_⟩⟩
  · have hPl' : (enumP es).length ≤ es.length + 1 := hPl
    simp [splice, hvl]; omega
  · rw [padP_get hi]
    rw [padP_len] at hi
    by_cases ci : i < (enumP es).length
    · obtain ⟨u, hu1, hu2⟩ := hv2 i ci
      refine ⟨u, ?_, ?_⟩
      · rw [splice, List.take_zero, List.nil_append, List.getElem?_append_left (by omega)]; exact hu1
      · have : cf (enumP es) i = (enumP es)[i] := by simp [cf, ci]
        rw [this]
        exact (hu2.mono hG2a).up (by unfold LE; omega)
    · refine ⟨.nils, ?_, ?_⟩
      · rw [splice, List.take_zero, List.nil_append, List.getElem?_append_right (by omega), Nat.zero_add, List.getElem?_drop, List.getElem?_replicate, if_pos (by omega)]
      · have : cf (enumP es) i = 0 := by simp [cf, show (enumP es).length ≤ i by omega]
        rw [this]; exact CNat.nils _ _

/-- a result that lies in a box -/
theorem f_box2 {t u : Nat} {sz n o s : Nat} {own : Bool} {cs : List V} {env : Env} {H : Heap} {R : V → Heap → Prop} (h1 : env t = .ptr n o) (hb : H n = some ⟨own, s, cs⟩) (hl : o + sz ≤ cs.length) (h : finO (.tup [.agg ((cs.drop o).take sz), env u]) H R) : fin [(t, some (true, sz)), (u, none)] R .ret env H := by
  obtain ⟨H', a, b⟩ := h
  refine ⟨_, H', ?_, a, b⟩
  simp only [resV, mapO, res1, h1, ld_boxa hb hl, Option.map]

/-- the first place behind 0 that is not 0 -/
def firstP (p : List Int) : Option Nat := (List.range p.length).find? fun d => decide (0 < d) && decide (cf p d ≠ 0)
theorem firstP_some {p : List Int} {d : Nat} (hd : d < p.length) (h0 : 0 < d) (h1 : cf p d ≠ 0) (hz : ∀ i, i < d → 0 < i → cf p i = 0) : firstP p = some d := by
  rw [firstP, List.find?_range_eq_some]
  refine ⟨by simp [h0, h1], List.mem_range.2 hd, fun j hj => ?_⟩
  by_cases c : 0 < j
  · simp [hz j hj c]
  · simp [c]
theorem firstP_none {p : List Int} (hz : ∀ i, i < p.length → 0 < i → cf p i = 0) : firstP p = none := by
  rw [firstP, List.find?_eq_none]
  intro j hj
  have := List.mem_range.1 hj
  by_cases c : 0 < j
  · simp [hz j this c]
  · simp [c]

theorem Lightest_spec {sv ev : V} {ws : List Int} {es : List (List Ed)} {H : Heap} (hs : SInts H sv ws) (he : SSecs H ev es) : ACalls Try.prog 21 [.agg [sv, ev]] H fun u H' => Heap.sub H H' ∧
    ((properI ws es ≠ 0 ∧ u = .tup [.agg [.int .i64 0, .nils], .int .i64 (properI ws es)]) ∨
     (properI ws es = 0 ∧ firstP (padP (enumP es) (es.length + 1)) = none ∧ u = .tup [.agg [.int .i64 0, .nils], .int .i64 11]) ∨
     (properI ws es = 0 ∧ ∃ (d : Nat) (v : V), firstP (padP (enumP es) (es.length + 1)) = some d ∧ u = .tup [.agg [.int .i64 d, v], .int .i64 0] ∧ CNat H' v (cf (padP (enumP es) (es.length + 1)) d) LE)) := by
  refine ACalls.of_body hm cv21 (by simp only [List.length_cons, List.length_nil]; decide) ?_
  simp only [F21, go_sem, ↓reduceIte, Nat.reduceEqDiff, Nat.reduceAdd, reduceCtorEq]
  refine newC_intro fun b1 H1 hn1 hs1 hb1 => ?_
  simp only [go_sem, ↓reduceIte, Nat.reduceEqDiff, Nat.reduceAdd, reduceCtorEq]
  refine newC_intro fun b2 H2 hn2 hs2 hb2 => ?_
  have hs02 := hs1.trans' hs2
  simp only [go_sem, ↓reduceIte, Nat.reduceEqDiff, Nat.reduceAdd, reduceCtorEq, ld_boxa (hs2 _ _ hb1) (show 0 + 2 ≤ _ by simp), fillV, List.length_cons, List.length_nil, splice, Nat.reduceLeDiff, Nat.zero_lt_one, and_self, List.take_zero, List.take_succ_cons, List.drop_succ_cons, List.drop_zero, List.drop_nil, Nat.reduceLT, Nat.le_refl]
  refine callC_in (Enumerator_spec (hs.mono hs1) (SSecs.mono he hs1)) hs2 fun u H3 G3 hs3 ga gb gc hcase => ?_
  have hG2 : G3 b2 = none := gc b2 hn2 (by rw [hb2]; simp)
  rcases hcase with ⟨hne, rfl⟩ | ⟨hp, v, rfl, hv⟩
  · have hne' : ¬ properI ws es = 0 := hne
    simp only [go_sem, ↓reduceIte, Nat.reduceEqDiff, Nat.reduceAdd, reduceCtorEq, hne', fillV, List.length_cons, List.length_nil, splice, Nat.reduceLeDiff, Nat.zero_lt_one, and_self, List.take_zero, List.take_succ_cons, List.drop_succ_cons, List.drop_zero, List.drop_nil, Nat.reduceLT, Nat.le_refl, Option.map_some]
    refine stC_intro (hs3 _ _ hb2) trivial rfl (by decide) (by decide) fun H4 hb4 hf4 hs4 => ?_
    have hs1' := hs4 H1 (hs2.trans' hs3) hn2
    simp only [go_sem, ↓reduceIte, Nat.reduceEqDiff, Nat.reduceAdd, reduceCtorEq]
    refine f_box2 (n := b2) (o := 0) (by simp only [go_sem, ↓reduceIte, Nat.reduceEqDiff, Nat.reduceAdd, reduceCtorEq]) hb4 (by decide) ?_
    simp only [go_sem, ↓reduceIte, Nat.reduceEqDiff, Nat.reduceAdd, reduceCtorEq]
    exact finO_self ⟨hs1.trans' hs1', .inl ⟨hne, rfl⟩⟩
  · have hp' : ¬ ¬ (0 : Int) = 0 := by simp
    simp only [go_sem, ↓reduceIte, Nat.reduceEqDiff, Nat.reduceAdd, reduceCtorEq, (hv.mono gb).len, padP_len]
    obtain ⟨pl, hpl⟩ : ∃ pl, pl = padP (enumP es) (es.length + 1) := ⟨_, rfl⟩
    have hpll : pl.length = es.length + 1 := by rw [hpl, padP_len]
    obtain ⟨h0, _⟩ := proper_of hp
    have hn := (shaped_of h0).n
    rw [← hpl] at hv ⊢
    refine range_loop (es.length + 1) (fun k env H' => H3 = H' ∧ env 2 = .ptr b2 0 ∧ env 17 = v ∧ env 18 = .int .i64 ((es.length + 1 : Nat) : Int) ∧ env 19 = .int .i64 k ∧ ∀ i, i < k → 0 < i → cf pl i = 0) (by omega) (by decide) (by decide) ?_ ?_ ?_ ?_
    · rintro k env H' ⟨_, _, _, h7, h8, _⟩; exact ⟨h8, h7⟩
    · simp only [go_sem, ↓reduceIte, Nat.reduceEqDiff, Nat.reduceAdd, reduceCtorEq]
      exact ⟨by trivial, by trivial, by trivial, by trivial, rfl, fun i h _ => by omega⟩
    · rintro k env H' hk ⟨rfl, h2, h17, h18, h19, hz⟩
      obtain ⟨q, x, a1, a2, a3G⟩ := hv.getG gb (k := k) (by omega) .i64
      have a3 := a3G.mono gb
      obtain ⟨m, hm1, hm2, hm3⟩ := a3.lenV
      have hck : cf pl k = pl[k]'(by omega) := by simp [cf, show k < pl.length by omega]
      by_cases c1 : (0 : Int) < k
      · simp only [go_sem, ↓reduceIte, Nat.reduceEqDiff, Nat.reduceAdd, reduceCtorEq, h2, h17, h18, h19, a1, a2, hm1, c1]
        refine iteC_if (fun c2 => ?_) (fun c2 => ?_)
        · have hne : cf pl k ≠ 0 := by rw [hck]; exact hm2.1 (by omega)
          simp only [go_sem, ↓reduceIte, Nat.reduceEqDiff, Nat.reduceAdd, reduceCtorEq, h2, fillV, List.length_cons, List.length_nil, splice, Nat.reduceLeDiff, Nat.zero_lt_one, and_self, List.take_zero, List.take_succ_cons, List.drop_succ_cons, List.drop_zero, List.drop_nil, Nat.reduceLT, Nat.le_refl, a3.nat.cells, Option.map_some]
          refine stC_intro (hs3 _ _ hb2) trivial rfl (by decide) (by decide) fun H4 hb4 hf4 hs4 => ?_
          have hs1' := hs4 H1 (hs2.trans' hs3) hn2
          have hg4 := hs4 G3 gb hG2
          simp only [go_sem, ↓reduceIte, Nat.reduceEqDiff, Nat.reduceAdd, reduceCtorEq]
          refine f_box2 (n := b2) (o := 0) (by simp only [go_sem, ↓reduceIte, Nat.reduceEqDiff, Nat.reduceAdd, reduceCtorEq, h2]) hb4 (by show 0 + 2 ≤ 2; decide) ?_
          simp only [go_sem, ↓reduceIte, Nat.reduceEqDiff, Nat.reduceAdd, reduceCtorEq]
          refine finO_self ⟨hs1.trans' hs1', .inr (.inr ⟨hp, k, x, firstP_some (by omega) (by omega) hne fun i hi h0 => hz i hi h0, rfl, ?_⟩)⟩
          rw [hck]; exact a3G.mono hg4
        · have hz0 : cf pl k = 0 := by
            rw [hck]
            apply Classical.byContradiction
            intro h
            have := hm2.2 h
            omega
          simp only [go_sem, ↓reduceIte, Nat.reduceEqDiff, Nat.reduceAdd, reduceCtorEq, h2, h17, h18, h19]
          refine ⟨by trivial, by trivial, by trivial, by trivial, by trivial, by trivial, fun i hi h0 => ?_⟩
          rcases Nat.lt_succ_iff_lt_or_eq.1 hi with hi | rfl
          · exact hz i hi h0
          · exact hz0
      · simp only [go_sem, ↓reduceIte, Nat.reduceEqDiff, Nat.reduceAdd, reduceCtorEq, h2, h17, h18, h19, a1, a2, hm1, c1]
        exact ⟨by trivial, by trivial, by trivial, by trivial, by trivial, by trivial, fun i hi h0 => by omega⟩
    · rintro env H' ⟨rfl, h2, h17, h18, h19, hz⟩
      simp only [go_sem, ↓reduceIte, Nat.reduceEqDiff, Nat.reduceAdd, reduceCtorEq, h2, fillV, List.length_cons, List.length_nil, splice, Nat.reduceLeDiff, Nat.zero_lt_one, and_self, List.take_zero, List.take_succ_cons, List.drop_succ_cons, List.drop_zero, List.drop_nil, Nat.reduceLT, Nat.le_refl, Option.map_some]
      refine stC_intro (hs3 _ _ hb2) trivial rfl (by decide) (by decide) fun H4 hb4 hf4 hs4 => ?_
      have hs1' := hs4 H1 (hs2.trans' hs3) hn2
      simp only [go_sem, ↓reduceIte, Nat.reduceEqDiff, Nat.reduceAdd, reduceCtorEq]
      refine f_box2 (n := b2) (o := 0) (by simp only [go_sem, ↓reduceIte, Nat.reduceEqDiff, Nat.reduceAdd, reduceCtorEq, h2]) hb4 (by decide) ?_
      simp only [go_sem, ↓reduceIte, Nat.reduceEqDiff, Nat.reduceAdd, reduceCtorEq]
      exact finO_self ⟨hs1.trans' hs1', .inr (.inl ⟨hp, firstP_none fun i hi => hz i (by omega), rfl⟩)⟩
end Go.AM
