/- Rows of zeros, and the forward sums, over any semiring whose values are one cell each. Conditions: as stated. -/
import Derived.Test.YtopeeknimehmcaaJ14
set_option linter.unusedVariables false
set_option linter.unusedSimpArgs false
namespace Go.AM
open Go Go.Proofs
attribute [local go_sem] c_skip c_ops c_seq c_ite c_blk c_exit c_ret t_normal t_exit t_ret b_normal b_exit b_ret i_nil i_cons s_guard s_mov s_pick s_new s_zero s_ld s_ldr s_st s_bin s_beq s_isnil s_eqs s_un s_conv s_fa s_fld s_ia s_sli s_ext s_ifc s_mkf s_agg s_len s_mm s_nilchk s_bsl s_mk s_app s_cpy s_call s_inv cells_agg cells_int cells_bool p_get p_none o_s o_c e_0 e_1 e_2 e_3 e_4 iteC_true iteC_false grd_tt grd_tf grd_ft grd_ff grd_und bindV_some pickV_t pickV_f beq_bool conv_int un_not not_dec mm_min mm_max bv_add bv_sub bv_mul bv_eql bv_neq bv_lss bv_leq bv_gtr bv_geq f_normal f_one f_two f_three f_none fa_ptr fld_one ext_tup len_sl len_nils decide_true decide_false not_true_eq_false not_false_eq_true List.map_cons List.map_nil List.append_nil List.cons_append List.nil_append Nat.zero_add Nat.add_zero Nat.mul_one Nat.succ_ne_self if_true if_false List.getElem?_cons_zero List.getElem?_cons_succ

/-- semiring.rows[api.Nat,semiring.Counting], of any kind -/
def rowsC (ty z : Nat) : AF := ⟨38, [(4, none)], (.seq (.ops [⟨none, false, (some 2), (.new (.s 0))⟩, ⟨none, false, (some 3), (.new (.s 1))⟩, ⟨none, false, (some 4), (.mov (.c .nils))⟩]) (.seq (.ops [⟨none, false, (some 8), (.fa 0 (.s 3))⟩, ⟨none, false, (some 9), (.ld false 1 (.s 8) none)⟩, ⟨none, false, (some 10), (.len (.s 9))⟩, ⟨none, false, (some 11), (.mk 1 24 [.nils] (.s 10) (.s 10))⟩, ⟨none, false, (some 5), (.mov (.s 11))⟩]) (.seq (.seq (.ops [⟨none, false, (some 12), (.fa 0 (.s 3))⟩, ⟨none, false, (some 13), (.ld false 1 (.s 12) none)⟩, ⟨none, false, (some 14), (.len (.s 13))⟩, ⟨none, false, (some 15), (.mov (.c (.int .i64 (0))))⟩]) (.blk 0 (.loop (.seq (.ops [⟨none, false, (some 16), (.bin .lss (.s 15) (.s 14))⟩]) (.seq (.ite (.s 16) .skip (.exit 0)) (.seq (.blk 1 (.seq (.ops [⟨none, false, (some 17), (.mov (.s 15))⟩, ⟨none, false, (some 18), (.ia 1 (.s 13) (.s 15))⟩, ⟨none, false, (some 19), (.ld false 1 (.s 18) none)⟩, ⟨none, false, (some 6), (.mov (.s 17))⟩, ⟨none, false, (some 7), (.mov (.s 19))⟩]) (.seq (.ops [⟨none, false, (some 20), (.mov (.s 7))⟩, ⟨none, false, (some 21), (.mov (.c (.int .i64 (0))))⟩]) (.blk 2 (.loop (.seq (.ops [⟨none, false, (some 22), (.bin .lss (.s 21) (.s 20))⟩]) (.seq (.ite (.s 22) .skip (.exit 2)) (.seq (.blk 3 (.ops [⟨none, false, (some 23), (.mov (.s 5))⟩, ⟨none, false, (some 24), (.mov (.s 6))⟩, ⟨none, false, (some 25), (.mov (.s 5))⟩, ⟨none, false, (some 26), (.mov (.s 6))⟩, ⟨none, false, (some 27), (.ia 1 (.s 25) (.s 26))⟩, ⟨none, false, (some 28), (.ld false 1 (.s 27) none)⟩, ⟨none, false, (some 29), (.ld true 0 (.s 2) none)⟩, ⟨none, false, (some 30), (.ifc ty (.s 29))⟩, ⟨none, true, (some 31), (.inv (.s 30) ty z [])⟩, ⟨none, false, (some 32), (.bsl 1 1 [.nils] [(0, (1, (.s 31)))])⟩, ⟨none, false, (some 33), (.app 1 24 (.s 28) (.s 32) [])⟩, ⟨none, false, (some 34), (.ia 1 (.s 23) (.s 24))⟩, ⟨none, false, none, (.st 1 (.s 34) (.s 33) [])⟩])) (.ops [⟨none, false, (some 35), (.bin .add (.s 21) (.c (.int .i64 (1))))⟩, ⟨none, false, (some 21), (.mov (.s 35))⟩]))))))))) (.ops [⟨none, false, (some 36), (.bin .add (.s 15) (.c (.int .i64 (1))))⟩, ⟨none, false, (some 15), (.mov (.s 36))⟩]))))))) (.seq (.ops [⟨none, false, (some 37), (.mov (.s 5))⟩, ⟨none, false, (some 4), (.mov (.s 37))⟩]) .ret))))⟩
/-- semiring.Forward[api.Nat,semiring.Counting], of any kind -/
def fwdC (va ro ty z o a m : Nat) : AF := ⟨86, [(6, none), (7, none)], (.seq (.ops [⟨none, false, (some 3), (.new (.s 0))⟩, ⟨none, false, (some 4), (.new (.s 1))⟩, ⟨none, false, (some 6), (.mov (.c .nils))⟩, ⟨none, false, (some 7), (.mov (.c (.int .i64 (0))))⟩]) (.seq (.seq (.ops [⟨none, false, (some 14), (.ld true 2 (.s 4) none)⟩, ⟨none, false, (some 15), (.mov (.s 2))⟩, ⟨none, false, (some 16), (.call (.c (.fn va [])) [(.s 14), (.s 15)])⟩, ⟨none, false, (some 8), (.mov (.s 16))⟩]) (.seq (.ops [⟨none, false, (some 17), (.mov (.s 8))⟩, ⟨none, false, (some 18), (.bin .neq (.s 17) (.c (.int .i64 (0))))⟩]) (.ite (.s 18) (.seq (.ops [⟨none, false, (some 19), (.mov (.s 8))⟩, ⟨none, false, (some 6), (.mov (.c .nils))⟩, ⟨none, false, (some 7), (.mov (.s 19))⟩]) .ret) .skip))) (.seq (.ops [⟨none, false, (some 20), (.ld true 0 (.s 3) none)⟩, ⟨none, false, (some 21), (.ld true 2 (.s 4) none)⟩, ⟨none, false, (some 22), (.call (.c (.fn ro [])) [(.s 20), (.s 21)])⟩, ⟨none, false, (some 9), (.mov (.s 22))⟩]) (.seq (.ops [⟨none, false, (some 23), (.mov (.s 9))⟩, ⟨none, false, (some 24), (.ia 1 (.s 23) (.c (.int .i64 (0))))⟩, ⟨none, false, (some 25), (.ld false 1 (.s 24) none)⟩, ⟨none, false, (some 26), (.ld true 0 (.s 3) none)⟩, ⟨none, false, (some 27), (.ifc ty (.s 26))⟩, ⟨none, true, (some 28), (.inv (.s 27) ty o [])⟩, ⟨none, false, (some 29), (.ia 1 (.s 25) (.c (.int .i64 (0))))⟩, ⟨none, false, none, (.st 1 (.s 29) (.s 28) [])⟩]) (.seq (.seq (.ops [⟨none, false, (some 30), (.fa 1 (.s 4))⟩, ⟨none, false, (some 31), (.ld false 1 (.s 30) none)⟩, ⟨none, false, (some 32), (.len (.s 31))⟩, ⟨none, false, (some 33), (.mov (.c (.int .i64 (0))))⟩]) (.blk 0 (.loop (.seq (.ops [⟨none, false, (some 34), (.bin .lss (.s 33) (.s 32))⟩]) (.seq (.ite (.s 34) .skip (.exit 0)) (.seq (.blk 1 (.seq (.ops [⟨none, false, (some 35), (.mov (.s 33))⟩, ⟨none, false, (some 36), (.ia 1 (.s 31) (.s 33))⟩, ⟨none, false, (some 37), (.ld false 1 (.s 36) none)⟩, ⟨none, false, (some 10), (.mov (.s 35))⟩, ⟨none, false, (some 11), (.mov (.s 37))⟩]) (.seq (.ops [⟨none, false, (some 38), (.mov (.s 11))⟩, ⟨none, false, (some 39), (.len (.s 38))⟩, ⟨none, false, (some 40), (.mov (.c (.int .i64 (0))))⟩]) (.blk 2 (.loop (.seq (.ops [⟨none, false, (some 41), (.bin .lss (.s 40) (.s 39))⟩]) (.seq (.ite (.s 41) .skip (.exit 2)) (.seq (.blk 3 (.seq (.ops [⟨none, false, (some 42), (.mov (.s 40))⟩, ⟨none, false, (some 43), (.ia 3 (.s 38) (.s 40))⟩, ⟨none, false, (some 44), (.ld true 3 (.s 43) none)⟩, ⟨none, false, (some 13), (.zero [(.int .i64 (0)), (.int .i64 (0)), (.int .i64 (0))])⟩, ⟨none, false, (some 12), (.mov (.s 42))⟩, ⟨none, false, none, (.st 3 (.s 13) (.s 44) [])⟩]) (.ops [⟨none, false, (some 45), (.mov (.s 9))⟩, ⟨none, false, (some 46), (.mov (.s 10))⟩, ⟨none, false, (some 47), (.bin .add (.s 46) (.c (.int .i64 (1))))⟩, ⟨none, false, (some 48), (.ia 1 (.s 45) (.s 47))⟩, ⟨none, false, (some 50), (.fa 2 (.s 13))⟩, ⟨none, false, (some 54), (.mov (.s 9))⟩, ⟨none, false, (some 55), (.mov (.s 10))⟩, ⟨none, false, (some 56), (.bin .add (.s 55) (.c (.int .i64 (1))))⟩, ⟨none, false, (some 57), (.ia 1 (.s 54) (.s 56))⟩, ⟨none, false, (some 59), (.fa 2 (.s 13))⟩, ⟨none, false, (some 65), (.mov (.s 9))⟩, ⟨none, false, (some 66), (.mov (.s 10))⟩, ⟨none, false, (some 67), (.ia 1 (.s 65) (.s 66))⟩, ⟨none, false, (some 69), (.fa 0 (.s 13))⟩, ⟨none, false, (some 73), (.mov (.s 2))⟩, ⟨none, false, (some 74), (.mov (.s 10))⟩, ⟨none, false, (some 75), (.ia 1 (.s 73) (.s 74))⟩, ⟨none, false, (some 77), (.mov (.s 12))⟩, ⟨none, false, (some 49), (.ld false 1 (.s 48) none)⟩, ⟨none, false, (some 51), (.ld false 1 (.s 50) none)⟩, ⟨none, false, (some 52), (.ld true 0 (.s 3) none)⟩, ⟨none, false, (some 53), (.ifc ty (.s 52))⟩, ⟨none, false, (some 58), (.ld false 1 (.s 57) none)⟩, ⟨none, false, (some 60), (.ld false 1 (.s 59) none)⟩, ⟨none, false, (some 61), (.ia 1 (.s 58) (.s 60))⟩, ⟨none, false, (some 62), (.ld false 1 (.s 61) none)⟩, ⟨none, false, (some 63), (.ld true 0 (.s 3) none)⟩, ⟨none, false, (some 64), (.ifc ty (.s 63))⟩, ⟨none, false, (some 68), (.ld false 1 (.s 67) none)⟩, ⟨none, false, (some 70), (.ld false 1 (.s 69) none)⟩, ⟨none, false, (some 71), (.ia 1 (.s 68) (.s 70))⟩, ⟨none, false, (some 72), (.ld false 1 (.s 71) none)⟩, ⟨none, false, (some 76), (.ld false 1 (.s 75) none)⟩, ⟨none, false, (some 78), (.ia 1 (.s 76) (.s 77))⟩, ⟨none, false, (some 79), (.ld false 1 (.s 78) none)⟩, ⟨none, true, (some 80), (.inv (.s 64) ty m [(.s 72), (.s 79)])⟩, ⟨none, true, (some 81), (.inv (.s 53) ty a [(.s 62), (.s 80)])⟩, ⟨none, false, (some 82), (.ia 1 (.s 49) (.s 51))⟩, ⟨none, false, none, (.st 1 (.s 82) (.s 81) [])⟩]))) (.ops [⟨none, false, (some 83), (.bin .add (.s 40) (.c (.int .i64 (1))))⟩, ⟨none, false, (some 40), (.mov (.s 83))⟩]))))))))) (.ops [⟨none, false, (some 84), (.bin .add (.s 33) (.c (.int .i64 (1))))⟩, ⟨none, false, (some 33), (.mov (.s 84))⟩]))))))) (.seq (.ops [⟨none, false, (some 85), (.mov (.s 9))⟩, ⟨none, false, (some 6), (.mov (.s 85))⟩, ⟨none, false, (some 7), (.mov (.c (.int .i64 (0))))⟩]) .ret))))))⟩

/-- what the proofs need of a semiring: its values' forms in the heap (k: how many edges are gone through), the values of the edges, the products -/
structure SRing (A : Type) (z o a m : Nat) where
  K : Nat
  Rep : Nat → Heap → V → A → Prop
  W : Heap → V → A → Prop
  M : Nat → Heap → V → A → Prop
  zero : A
  one : A
  add : A → A → A
  mul : A → A → A
  mono : ∀ {k H H' v x}, Rep k H v x → Heap.sub H H' → Rep k H' v x
  wmono : ∀ {H H' v x}, W H v x → Heap.sub H H' → W H' v x
  cells : ∀ {k H v x}, Rep k H v x → v.cells = [v]
  up : ∀ {k k' H v x}, Rep k H v x → k ≤ k' → Rep k' H v x
  hz : ∀ H, ACalls Try.prog z [.agg []] H fun u H' => Heap.sub H H' ∧ Rep 0 H' u zero
  ho : ∀ H, ACalls Try.prog o [.agg []] H fun u H' => Heap.sub H H' ∧ Rep 0 H' u one
  hm : ∀ {k H u w x c}, k < K → Rep k H u x → W H w c → ACalls Try.prog m [.agg [], u, w] H fun r H' => Heap.sub H H' ∧ M k H' r (mul x c)
  ha : ∀ {k H u w x c}, k < K → Rep k H u x → M k H w c → ACalls Try.prog a [.agg [], u, w] H fun r H' => Heap.sub H H' ∧ Rep (k+1) H' r (add x c)

theorem part_lens {n : Nat} {w : Nat → Nat} {T : List (List V)} {k j : Nat} {v : V} (hl : T.length = n) (h : ∀ i, (h : i < T.length) → T[i].length = if i < k then w i else if i = k then j else 0) (hk : k < T.length) :
    ∀ i, (h : i < (T.set k (T[k] ++ [v])).length) → (T.set k (T[k] ++ [v]))[i].length = if i < k then w i else if i = k then j+1 else 0 := by
  intro i hi
  rw [List.length_set] at hi
  have := h i hi
  by_cases e : k = i
  · subst e
    simp at this ⊢
    exact this
  · rw [List.getElem_set_ne e]
    rw [this]
    simp [show ¬ i = k by omega]

theorem rowsG_spec {A : Type} {f ty z o a m : Nat} (S : SRing A z o a m) (hcv : cvF Try.prog f = some (rowsC ty z)) {sv ev : V} {ws : List Int} {H : Heap} (hs : SInts H sv ws) (hw : ∀ i, (h : i < ws.length) → 1 ≤ ws[i] ∧ ws[i] ≤ 65536) (hl : ws.length ≤ 65) :
    ACalls Try.prog f [.agg [], .agg [sv, ev]] H fun u H' => Heap.sub H H' ∧ ∃ N us T G, u = .sl N 0 ws.length true ∧ VTab H G H' N false us T (fun _ _ G v => S.Rep 0 G v S.zero) ∧ T.length = ws.length ∧ ∀ i, (h : i < T.length) → T[i].length = (ws[i]?.getD 0).toNat := by
  refine ACalls.of_body hm hcv (by simp [rowsC]) ?_
  simp only [rowsC, go_sem, ↓reduceIte, Nat.reduceEqDiff, Nat.reduceAdd, reduceCtorEq]
  refine newC_intro fun b2 H1 hn1 hs1 hb1 => ?_
  simp only [go_sem, ↓reduceIte, Nat.reduceEqDiff, Nat.reduceAdd, reduceCtorEq]
  refine newC_intro fun b3 H2 hn2 hs2 hb2 => ?_
  have hs02 := hs1.trans' hs2
  simp only [go_sem, ↓reduceIte, Nat.reduceEqDiff, Nat.reduceAdd, reduceCtorEq, ld_box hb2, hs.len]
  refine mkC_intro (Nat.le_refl _) (by omega) (by omega) fun N H3 hN hs3 hbN => ?_
  have hb2' := hs3 _ _ hb2
  rw [flat_rep] at hbN
  simp only [go_sem, ↓reduceIte, Nat.reduceEqDiff, Nat.reduceAdd, reduceCtorEq, ld_box hb2', hs.len, beq_self_eq_true]
  have tab0 : VTab H2 H2 H3 N false (List.replicate ws.length .nils) (List.replicate ws.length []) (fun _ _ G v => S.Rep 0 G v S.zero) := by
    refine ⟨⟨hs3, hbN, hN, by simp, fun i h => ?_, fun i j n l l' h => ?_⟩, Heap.sub.rfl', hs3, hN, fun i n l h => ?_, fun i j h h' => ?_⟩
    · rw [List.length_replicate] at h
      exact .inl ⟨by simp [h], by simp, trivial⟩
    · simp [List.getElem?_replicate] at h
    · simp [List.getElem?_replicate] at h
    · simp at h'
  have hq : ∀ {G G' : Heap}, Heap.sub G G' → ∀ (i j : Nat) (v : V), S.Rep 0 G v S.zero → S.Rep 0 G' v S.zero := fun hs _ _ _ h => S.mono h hs
  refine range_loop ws.length (fun k env H' => env 2 = .ptr b2 0 ∧ env 5 = .sl N 0 ws.length true ∧ env 13 = sv ∧ env 14 = .int .i64 ws.length ∧ env 15 = .int .i64 k ∧ ∃ us T G, VTab H2 G H' N false us T (fun _ _ G v => S.Rep 0 G v S.zero) ∧ T.length = ws.length ∧ ∀ i, (h : i < T.length) → T[i].length = if i < k then (ws[i]?.getD 0).toNat else if i = k then 0 else 0) (by omega) (by decide) (by decide) ?_ ?_ ?_ ?_
  · rintro k env H' ⟨_, _, _, h7, h8, _⟩; exact ⟨h8, h7⟩
  · simp only [go_sem, ↓reduceIte, Nat.reduceEqDiff, Nat.reduceAdd, reduceCtorEq]
    exact ⟨by trivial, by trivial, by trivial, by trivial, rfl, _, _, _, tab0, by simp, by simp⟩
  · rintro k env H4 hk ⟨h2, h5, h13, h14, h15, us, T, G, tab, hT, hTl⟩
    obtain ⟨p, a1, a2⟩ := ((hs.mono hs02).mono tab.tab.sub).get hk .i64
    have gk := getD_eq hk
    have pk := hw k hk
    obtain ⟨wk, hwk⟩ : ∃ n : Nat, ws[k] = n := ⟨ws[k].toNat, by omega⟩
    simp only [go_sem, ↓reduceIte, Nat.reduceEqDiff, Nat.reduceAdd, reduceCtorEq, h2, h5, h13, h14, h15, a1, a2, hwk]
    refine range_loop wk (fun j env H' => env 2 = .ptr b2 0 ∧ env 5 = .sl N 0 ws.length true ∧ env 13 = sv ∧ env 14 = .int .i64 ws.length ∧ env 15 = .int .i64 k ∧ env 6 = .int .i64 k ∧ env 20 = .int .i64 wk ∧ env 21 = .int .i64 j ∧ ∃ us T G, VTab H2 G H' N false us T (fun _ _ G v => S.Rep 0 G v S.zero) ∧ T.length = ws.length ∧ ∀ i, (h : i < T.length) → T[i].length = if i < k then (ws[i]?.getD 0).toNat else if i = k then j else 0) (by omega) (by decide) (by decide) ?_ ?_ ?_ ?_
    · rintro j env H' ⟨_, _, _, _, _, _, h7, h8, _⟩; exact ⟨h8, h7⟩
    · simp only [go_sem, ↓reduceIte, Nat.reduceEqDiff, Nat.reduceAdd, reduceCtorEq, h2, h5, h13, h14, h15]
      exact ⟨by trivial, by trivial, by trivial, by trivial, by trivial, by trivial, by trivial, rfl, us, T, G, tab, hT, hTl⟩
    · rintro j env H5 hj ⟨h2, h5, h13, h14, h15, h6, h20, h21, us, T, G, tab, hT, hTl⟩
      have hkp : k < T.length := by rw [hT]; exact hk
      obtain ⟨u, hu, hlu, hlr, hrow⟩ := tab.tab.get hkp
      have hpl : T[k].length = j := by have := hTl k hkp; simpa using this
      have hbs := tab.tab.sub _ _ (hs2 _ _ hb1)
      simp only [go_sem, ↓reduceIte, Nat.reduceEqDiff, Nat.reduceAdd, reduceCtorEq, h2, h5, h13, h14, h15, h6, h20, h21, ia_nat hk, ld_box tab.tab.outer, hu, ld_boxa hbs (show 0 + 0 ≤ _ by simp), List.take_zero]
      refine invC_in (S.hz _) tab.gh fun x H6 G6 hs6 a b c hx => ?_
      have tab6 := tab.call (hq a) hs6 a b c
      simp only [go_sem, ↓reduceIte, Nat.reduceEqDiff, Nat.reduceAdd, reduceCtorEq, fillV, List.length_cons, List.length_nil, splice, Nat.reduceLeDiff, Nat.zero_lt_one, and_self, List.take_zero, List.take_succ_cons, List.drop_succ_cons, List.drop_zero, List.drop_nil, Nat.reduceLT, Nat.le_refl, S.cells hx]
      refine newC_intro fun xb H7 hxb hs7 hbx => ?_
      have tab7 := tab6.grow hs7
      simp only [go_sem, ↓reduceIte, Nat.reduceEqDiff, Nat.reduceAdd, reduceCtorEq]
      refine appC_vtab tab7 hkp hu hbx (by rw [hpl]; omega) (by omega) hx fun m H8 hb8 hlu8 ht8 => ?_
      simp only [go_sem, ↓reduceIte, Nat.reduceEqDiff, Nat.reduceAdd, reduceCtorEq, h2, h5, h13, h14, h15, h6, h20, h21, ia_nat hk]
      have hul : us.length = ws.length := by rw [tab.tab.len, hT]
      refine stC_intro hb8 trivial rfl (by decide) (by show k + 1 ≤ us.length; omega) fun H9 hb9 hf9 hs9 => ?_
      simp only [go_sem, ↓reduceIte, Nat.reduceEqDiff, Nat.reduceAdd, reduceCtorEq, h2, h5, h13, h14, h15, h6, h20, h21]
      refine ⟨by trivial, by trivial, by trivial, by trivial, by trivial, by trivial, by trivial, by trivial, by trivial, _, _, _, ht8 H9 (by
        rw [hb9, show V.cells (V.sl m 0 (T[k].length + 1) false) = [V.sl m 0 (T[k].length + 1) false] from rfl, splice_one _ _ _ (by omega)]) hf9, by rw [List.length_set]; exact hT, part_lens hT hTl hkp⟩
    · rintro env H' ⟨h2, h5, h13, h14, h15, h6, h20, h21, us, T, G, tab, hT, hTl⟩
      simp only [go_sem, ↓reduceIte, Nat.reduceEqDiff, Nat.reduceAdd, reduceCtorEq, h2, h5, h13, h14, h15]
      refine ⟨by trivial, by trivial, by trivial, by trivial, by trivial, by trivial, us, T, G, tab, hT, fun i hi => ?_⟩
      rw [hTl i hi]
      by_cases h1 : i < k
      · simp [h1, show i < k + 1 by omega]
      · by_cases h2 : i = k
        · subst h2; simp [hwk, hk]
        · simp [h1, h2, show ¬ i < k + 1 by omega]
  · rintro env H' ⟨h2, h5, h13, h14, h15, us, T, G, tab, hT, hTl⟩
    simp only [go_sem, ↓reduceIte, Nat.reduceEqDiff, Nat.reduceAdd, reduceCtorEq, h5]
    refine finO_self ⟨hs02.trans' tab.tab.sub, N, us, T, G, rfl, ⟨tab.tab.down hs02, hs02.trans' tab.g0, tab.gh, tab.gN, tab.gr, tab.rep⟩, hT, fun i hi => ?_⟩
    rw [hTl i hi, if_pos (by omega)]
/-- semiring.valued, of any kind -/
theorem valuedG_spec {f : Nat} (hcv : cvF Try.prog f = some F101) {sv ev vv : V} {ws : List Int} {es : List (List Ed)} {xss : List (List V)} {H : Heap} (hs : SInts H sv ws) (he : SSecs H ev es) (h0 : shapeI ws es = 0) (hv : SRowsV H vv xss) (hl : xss.length = es.length) (hx : ∀ i, (h : i < es.length) → (xss[i]'(by omega)).length = es[i].length) :
    ACalls Try.prog f [.agg [sv, ev], vv] H fun u H' => u = .int .i64 0 ∧ H' = H := by
  refine ACalls.of_body hm hcv (by simp only [List.length_cons, List.length_nil]; decide) ?_
  have sh := shaped_of h0
  have hn := sh.n
  simp only [F101, go_sem, ↓reduceIte, Nat.reduceEqDiff, Nat.reduceAdd, reduceCtorEq]
  refine newC_intro fun n1 H1 hn1 hs1 hb1 => ?_
  simp only [ld_boxa hb1 (show 0 + 2 ≤ _ by simp), fillV, List.length_cons, List.length_nil, splice, Nat.reduceLeDiff, Nat.zero_lt_one, and_self, List.take_zero, List.take_succ_cons, List.drop_succ_cons, List.drop_zero, List.drop_nil, Nat.reduceLT, Nat.le_refl, go_sem, ↓reduceIte, Nat.reduceEqDiff, Nat.reduceAdd, reduceCtorEq]
  refine callC_pure (Shape_spec (hs.mono hs1) (SSecs.mono he hs1)) ?_
  rw [h0]
  simp only [go_sem, ↓reduceIte, Nat.reduceEqDiff, Nat.reduceAdd, reduceCtorEq, ld_box hb1, SLists.len he, SLists.len hv, hl]
  refine range_loop es.length (fun k env H' => H1 = H' ∧ env 1 = vv ∧ env 20 = ev ∧ env 21 = .int .i64 es.length ∧ env 22 = .int .i64 k) (by omega) (by decide) (by decide) ?_ ?_ ?_ ?_
  · rintro k env H' ⟨_, _, _, h7, h8⟩; exact ⟨h8, h7⟩
  · simp only [go_sem, ↓reduceIte, Nat.reduceEqDiff, Nat.reduceAdd, reduceCtorEq]; simp
  · rintro k env H' hk ⟨rfl, h1, h20, h21, h22⟩
    obtain ⟨p, u, a1, a2, a3⟩ := (SSecs.mono he hs1).get hk .i64
    obtain ⟨p', u', b1, b2, b3⟩ := (SRowsV.mono hv hs1).get (k := k) (by omega) .i64
    simp only [go_sem, ↓reduceIte, Nat.reduceEqDiff, Nat.reduceAdd, reduceCtorEq, h1, h20, h21, h22, a1, a2, a3.len, b1, b2, b3.len, hx k hk]
    exact ⟨by trivial, by trivial, by trivial, by trivial, by trivial, by trivial⟩
  · rintro env H' ⟨rfl, h1, h20, h21, h22⟩
    simp only [go_sem, ↓reduceIte, Nat.reduceEqDiff, Nat.reduceAdd, reduceCtorEq]
    exact finO_sub hs1 ⟨rfl, rfl⟩
end Go.AM

/- The forward sums over any semiring whose values are one cell each. Conditions: as stated. -/
set_option linter.unusedVariables false
set_option linter.unusedSimpArgs false
namespace Go.AM
open Go Go.Proofs
attribute [local go_sem] c_skip c_ops c_seq c_ite c_blk c_exit c_ret t_normal t_exit t_ret b_normal b_exit b_ret i_nil i_cons s_guard s_mov s_pick s_new s_zero s_ld s_ldr s_st s_bin s_beq s_isnil s_eqs s_un s_conv s_fa s_fld s_ia s_sli s_ext s_ifc s_mkf s_agg s_len s_mm s_nilchk s_bsl s_mk s_app s_cpy s_call s_inv cells_agg cells_int cells_bool p_get p_none o_s o_c e_0 e_1 e_2 e_3 e_4 iteC_true iteC_false grd_tt grd_tf grd_ft grd_ff grd_und bindV_some pickV_t pickV_f beq_bool conv_int un_not not_dec mm_min mm_max bv_add bv_sub bv_mul bv_eql bv_neq bv_lss bv_leq bv_gtr bv_geq f_normal f_one f_two f_three f_none fa_ptr fld_one ext_tup len_sl len_nils decide_true decide_false not_true_eq_false not_false_eq_true List.map_cons List.map_nil List.append_nil List.cons_append List.nil_append Nat.zero_add Nat.add_zero Nat.mul_one Nat.succ_ne_self if_true if_false List.getElem?_cons_zero List.getElem?_cons_succ

section
variable {A : Type} {zf of af mf : Nat}
/-- the sums behind j edges of a section; z: the values of its edges -/
def secF (S : SRing A zf of af mf) (src : Nat → A) (z : Nat → A) (es : List Ed) : Nat → Nat → A
  | 0 => fun _ => S.zero
  | j+1 => match es[j]? with
    | some e => fun v => if v = e.to.toNat then S.add (secF S src z es j v) (S.mul (src e.fr.toNat) (z j)) else secF S src z es j v
    | none => secF S src z es j
def rowF (S : SRing A zf of af mf) (z : Nat → Nat → A) (es : List (List Ed)) : Nat → Nat → A
  | 0 => fun v => if v = 0 then S.one else S.zero
  | i+1 => secF S (rowF S z es i) (z i) (es[i]?.getD []) (es[i]?.getD []).length
/-- in the section i, behind j edges -/
def stF (S : SRing A zf of af mf) (z : Nat → Nat → A) (es : List (List Ed)) (i j : Nat) (r v : Nat) : A :=
  if r ≤ i then rowF S z es r v else if r = i + 1 then secF S (rowF S z es i) (z i) (es[i]?.getD []) j v else S.zero
theorem stF_next {S : SRing A zf of af mf} {z : Nat → Nat → A} {es : List (List Ed)} {i : Nat} (h : i < es.length) : stF S z es i es[i].length = stF S z es (i+1) 0 := by
  funext r v
  unfold stF
  by_cases h1 : r ≤ i
  · rw [if_pos h1, if_pos (by omega)]
  · rw [if_neg h1]
    by_cases h2 : r = i + 1
    · rw [if_pos h2, if_pos (by omega)]
      subst h2
      rw [rowF]
      simp [h]
    · rw [if_neg h2, if_neg (by omega)]
      by_cases h3 : r = i + 1 + 1
      · rw [if_pos h3, secF]
      · rw [if_neg h3]

theorem ForwardG_spec {f va ro ty : Nat} (S : SRing A zf of af mf) (hcv : cvF Try.prog f = some (fwdC va ro ty zf of af mf)) (hva : cvF Try.prog va = some F101) (hro : cvF Try.prog ro = some (rowsC ty zf))
    {sv ev vv : V} {ws : List Int} {es : List (List Ed)} {xss : List (List V)} {z : Nat → Nat → A} {H : Heap} {E : Nat} (hE : E = 262144) (hK : es.length * E ≤ S.K) (hs : SInts H sv ws) (he : SSecs H ev es) (h0 : shapeI ws es = 0) (hv : SRowsV H vv xss)
    (hl : xss.length = es.length) (hx : ∀ i, (h : i < es.length) → (xss[i]'(by omega)).length = es[i].length) (hw : ∀ i j, (h : i < xss.length) → (h' : j < xss[i].length) → S.W H xss[i][j] (z i j)) :
    ACalls Try.prog f [.agg [], .agg [sv, ev], vv] H fun u H' => Heap.sub H H' ∧ ∃ N us T G, u = .tup [.sl N 0 (es.length + 1) true, .int .i64 0] ∧ VTab H G H' N false us T (fun r v G x => S.Rep (es.length * E) G x (rowF S z es r v)) ∧ T.length = es.length + 1 ∧ ∀ i, (h : i < T.length) → T[i].length = (ws[i]?.getD 0).toNat := by
  refine ACalls.of_body hm hcv (by simp [fwdC]) ?_
  have sh := shaped_of h0
  have hn := sh.n
  have e2 := sh.len
  simp only [fwdC, go_sem, ↓reduceIte, Nat.reduceEqDiff, Nat.reduceAdd, reduceCtorEq]
  refine newC_intro fun b3 H1 hn1 hs1 hb3 => ?_
  simp only [go_sem, ↓reduceIte, Nat.reduceEqDiff, Nat.reduceAdd, reduceCtorEq]
  refine newC_intro fun b4 H2 hn2 hs2 hb4 => ?_
  have hs02 := hs1.trans' hs2
  have hb3' := hs2 _ _ hb3
  simp only [go_sem, ↓reduceIte, Nat.reduceEqDiff, Nat.reduceAdd, reduceCtorEq, ld_boxa hb4 (show 0 + 2 ≤ _ by simp), fillV, List.length_cons, List.length_nil, splice, Nat.reduceLeDiff, Nat.zero_lt_one, and_self, List.take_zero, List.take_succ_cons, List.drop_succ_cons, List.drop_zero, List.drop_nil, Nat.reduceLT, Nat.le_refl]
  refine callC_pure (valuedG_spec hva (hs.mono hs02) (SSecs.mono he hs02) h0 (SRowsV.mono hv hs02) hl hx) ?_
  simp only [go_sem, ↓reduceIte, Nat.reduceEqDiff, Nat.reduceAdd, reduceCtorEq, ld_boxa hb4 (show 0 + 2 ≤ _ by simp), ld_boxa hb3' (show 0 + 0 ≤ _ by simp), List.take_zero, fillV, List.length_cons, List.length_nil, splice, Nat.reduceLeDiff, Nat.zero_lt_one, and_self, List.take_zero, List.take_succ_cons, List.drop_succ_cons, List.drop_zero, List.drop_nil, Nat.reduceLT, Nat.le_refl]
  refine callC_grow (rowsG_spec S hro (hs.mono hs02) sh.pos (by omega)) ?_
  rintro u H3 hs3 ⟨N, us, T, G, rfl, tab, hT, hTl⟩
  have p0 := sh.pos 0 (by omega)
  have hT0 : 0 < T.length := by omega
  have hT00 : 0 < T[0].length := by rw [hTl 0 hT0, getD_eq (by omega)]; omega
  obtain ⟨n, hun, hbn, _, hnN, hia, hld⟩ := tab.tab.at (i := 0) (j := 0) hT0 hT00 .i64
  have hia' : iaV 1 (.sl n 0 T[0].length false) (.int .i64 0) = some (.ptr n 0) := hia
  have ia0 : iaV 1 (.sl N 0 ws.length true) (.int .i64 0) = some (.ptr N 0) := by
    have := ia_nat (sz := 1) (n := N) (o := 0) (f := true) (k := .i64) (show 0 < ws.length by omega)
    simpa using this
  simp only [go_sem, ↓reduceIte, Nat.reduceEqDiff, Nat.reduceAdd, reduceCtorEq, ia0, ld_box tab.tab.outer, hun, ld_boxa (hs3 _ _ hb3') (show 0 + 0 ≤ _ by simp), List.take_zero]
  refine invC_in (S.ho _) tab.gh fun x1 H4 G4 hs4 ga gb gc hx1 => ?_
  have tab4 := tab.call (G' := G4) (H' := H4) (fun _ _ _ h => S.mono h ga) hs4 ga gb gc
  obtain ⟨n', hun', hbn', _, _, _, _⟩ := tab4.tab.at (i := 0) (j := 0) hT0 hT00 .i64
  obtain rfl : n = n' := sl_name hun hun'
  simp only [go_sem, ↓reduceIte, Nat.reduceEqDiff, Nat.reduceAdd, reduceCtorEq, hia']
  refine stC_intro hbn' trivial (by rw [S.cells hx1]; rfl) (by decide) (by show 0 + 1 ≤ _; omega) fun H5 hb5 hf5 hs5 => ?_
  rw [S.cells hx1, splice_one _ _ _ hT00] at hb5
  have tab5 : VTab H2 G4 H5 N false us (T.set 0 (T[0].set 0 x1)) (fun r v G x => S.Rep (0 * E) G x (stF S z es 0 0 r v)) := by
    refine tab4.set (i := 0) (j := 0) hT0 hun hT00 hb5 hf5 ?_ ?_
    · simp only [stF, rowF, Nat.le_refl, if_true]
      exact S.up hx1 (by omega)
    · intro r v w hne h
      have : stF S z es 0 0 r v = S.zero := by
        unfold stF
        by_cases h1 : r ≤ 0
        · have : r = 0 := by omega
          subst this
          rw [if_pos h1]
          exact if_neg (fun h => hne ⟨rfl, h⟩)
        · rw [if_neg h1]
          split
          · rw [secF]
          · rfl
      rw [this]; exact S.up h (by omega)
  simp only [go_sem, ↓reduceIte, Nat.reduceEqDiff, Nat.reduceAdd, reduceCtorEq, ld_box (tab5.tab.sub _ _ hb4), SLists.len he]
  refine range_loop es.length (fun k env H' => env 2 = vv ∧ env 3 = .ptr b3 0 ∧ env 4 = .ptr b4 0 ∧ env 9 = .sl N 0 ws.length true ∧ env 31 = ev ∧ env 32 = .int .i64 es.length ∧ env 33 = .int .i64 k ∧ ∃ T G, VTab H2 G H' N false us T (fun r v G x => S.Rep (k * E) G x (stF S z es k 0 r v)) ∧ T.length = ws.length ∧ ∀ i, (h : i < T.length) → T[i].length = (ws[i]?.getD 0).toNat) (by omega) (by decide) (by decide) ?_ ?_ ?_ ?_
  · rintro k env H' ⟨_, _, _, _, _, h7, h8, _⟩; exact ⟨h8, h7⟩
  · simp only [go_sem, ↓reduceIte, Nat.reduceEqDiff, Nat.reduceAdd, reduceCtorEq]
    refine ⟨by trivial, by trivial, by trivial, by trivial, by trivial, by trivial, rfl, _, _, tab5, by rw [List.length_set]; exact hT, fun i hi => ?_⟩
    rw [List.length_set] at hi
    by_cases e : 0 = i
    · subst e; simp [hTl 0 hT0]
    · rw [List.getElem_set_ne e]; exact hTl i hi
  · rintro i env H6 hi ⟨h2, h3, h4, h9, h31, h32, h33, T, G, tab, hT, hTl⟩
    obtain ⟨p, ue, a1, a2, a3⟩ := (SSecs.mono he hs02).get hi .i64
    have hlk := sh.each i hi
    have hix : i < xss.length := by omega
    obtain ⟨pv, uv, v1, v2, v3⟩ := (SRowsV.mono hv hs02).get (k := i) hix .i64
    have gi := getD_eq (xs := ws) (k := i) (by omega)
    have gi1 := getD_eq (xs := ws) (k := i+1) (by omega)
    simp only [go_sem, ↓reduceIte, Nat.reduceEqDiff, Nat.reduceAdd, reduceCtorEq, h2, h3, h4, h9, h31, h32, h33, a1, ld_mono tab.tab.sub a2, a3.len]
    refine range_loop es[i].length (fun j env H' => env 2 = vv ∧ env 3 = .ptr b3 0 ∧ env 4 = .ptr b4 0 ∧ env 9 = .sl N 0 ws.length true ∧ env 31 = ev ∧ env 32 = .int .i64 es.length ∧ env 33 = .int .i64 i ∧ env 10 = .int .i64 i ∧ env 38 = ue ∧ env 39 = .int .i64 es[i].length ∧ env 40 = .int .i64 j ∧ ∃ T G, VTab H2 G H' N false us T (fun r v G x => S.Rep (i * E + j) G x (stF S z es i j r v)) ∧ T.length = ws.length ∧ ∀ i, (h : i < T.length) → T[i].length = (ws[i]?.getD 0).toNat) (by omega) (by decide) (by decide) ?_ ?_ ?_ ?_
    · rintro j env H' ⟨_, _, _, _, _, _, _, _, _, h7, h8, _⟩; exact ⟨h8, h7⟩
    · simp only [go_sem, ↓reduceIte, Nat.reduceEqDiff, Nat.reduceAdd, reduceCtorEq, h2, h3, h4, h9, h31, h32, h33]
      exact ⟨by trivial, by trivial, by trivial, by trivial, by trivial, by trivial, by trivial, by trivial, by trivial, by trivial, rfl, T, G, tab, hT, hTl⟩
    · rintro j env H7 hj ⟨h2, h3, h4, h9, h31, h32, h33, h10, h38, h39, h40, T, G, tab, hT, hTl⟩
      obtain ⟨p, q0, q1, q2, c1, c2, _⟩ := (a3.mono tab.tab.sub).get hj .i64
      have gd := sh.good i hi _ (List.getElem_mem hj)
      rw [gi, gi1] at gd
      have pi := sh.pos i (by omega)
      have pi1 := sh.pos (i+1) (by omega)
      obtain ⟨fr, hfr⟩ : ∃ n : Nat, es[i][j].fr = n := ⟨es[i][j].fr.toNat, by omega⟩
      obtain ⟨to, hto⟩ : ∃ n : Nat, es[i][j].to = n := ⟨es[i][j].to.toNat, by omega⟩
      have hTi : i < T.length := by omega
      have hTi1 : i + 1 < T.length := by omega
      have tl0 := hTl i hTi
      have tl1 := hTl (i+1) hTi1
      rw [gi] at tl0
      rw [gi1] at tl1
      simp only [go_sem, ↓reduceIte, Nat.reduceEqDiff, Nat.reduceAdd, reduceCtorEq, h2, h3, h4, h9, h10, h31, h32, h33, h38, h39, h40, c1, c2]
      refine newC_intro fun n4 H8 hn4 hs8 hb8 => ?_
      simp only [go_sem, ↓reduceIte, Nat.reduceEqDiff, Nat.reduceAdd, reduceCtorEq, h40]
      refine stC_intro hb8 trivial rfl (by decide) (by decide) fun H9 hb9 hf9 hs9 => ?_
      simp only [Ed.cells, fillV, List.length_cons, List.length_nil, splice, Nat.reduceLeDiff, Nat.zero_lt_one, and_self, List.take_zero, List.take_succ_cons, List.drop_succ_cons, List.drop_zero, List.drop_nil, Nat.reduceLT, Nat.le_refl, go_sem, ↓reduceIte, Nat.reduceEqDiff, Nat.reduceAdd, reduceCtorEq] at hb9
      have hs79 : Heap.sub H7 H9 := hs9 H7 hs8 hn4
      have tab9 := tab.grow hs79
      obtain ⟨m1, um1, hm1, _, _, ia1, ld1⟩ := tab9.tab.at (i := i) (j := fr) hTi (by omega) .i64
      obtain ⟨m2, um2, hm2, _, _, ia2, ld2⟩ := tab9.tab.at (i := i+1) (j := to) hTi1 (by omega) .i64
      have r1 := tab9.rep i fr hTi (by omega)
      have r2 := tab9.rep (i+1) to hTi1 (by omega)
      rw [List.getElem?_eq_getElem (by omega)] at ld1
      rw [List.getElem?_eq_getElem (by omega)] at ld2
      have hjx : j < xss[i].length := by rw [hx i hi]; exact hj
      obtain ⟨pz, z1, z2⟩ := (v3.mono tab9.tab.sub).get (k := j) hjx .i64
      have hW := S.wmono (hw i j hix hjx) (hs02.trans' tab9.g0)
      have hw1 : IntKind.i64.wrap ((i : Int) + 1) = ((i + 1 : Nat) : Int) := wrapN1 (by omega)
      have hkK : i * E + j < S.K := by
        have : (i + 1) * E ≤ es.length * E := Nat.mul_le_mul_right _ hi
        rw [Nat.add_mul] at this
        omega
      simp only [go_sem, ↓reduceIte, Nat.reduceEqDiff, Nat.reduceAdd, reduceCtorEq, h2, h3, h4, h9, h10, h31, h32, h33, h38, h39, h40, hw1, ia_nat (show i < ws.length by omega), ia_nat (show i + 1 < ws.length by omega), v1, ld_mono tab9.tab.sub v2, ld_box tab9.tab.outer, um1, um2, ld_box hb9, hfr, hto, ia1, ia2, ld1, ld2, z1, z2, ld_boxa (tab9.tab.sub _ _ hb3') (show 0 + 0 ≤ _ by simp), List.take_zero]
      refine invC_in (S.hm hkK r1 hW) tab9.gh fun x10 H10 G10 hs10 ga gb gc hx10 => ?_
      have tab10 := tab9.call (G' := G10) (H' := H10) (fun _ _ _ h => S.mono h ga) hs10 ga gb gc
      simp only [go_sem, ↓reduceIte, Nat.reduceEqDiff, Nat.reduceAdd, reduceCtorEq]
      refine invC_in (S.ha hkK (S.mono r2 ga) hx10) tab10.gh fun x11 H11 G11 hs11 ga' gb' gc' hx11 => ?_
      have tab11 := tab10.call (G' := G11) (H' := H11) (fun _ _ _ h => S.mono h ga') hs11 ga' gb' gc'
      obtain ⟨m3, um3, hm3, _, _, ia3, _⟩ := tab11.tab.at (i := i+1) (j := to) hTi1 (by omega) .i64
      obtain rfl : m2 = m3 := sl_name um2 um3
      simp only [go_sem, ↓reduceIte, Nat.reduceEqDiff, Nat.reduceAdd, reduceCtorEq, ia2]
      refine stC_intro hm3 trivial (by rw [S.cells hx11]; rfl) (by decide) (by show to + 1 ≤ _; omega) fun H12 hb12 hf12 hs12 => ?_
      rw [S.cells hx11, splice_one _ _ _ (by omega)] at hb12
      simp only [go_sem, ↓reduceIte, Nat.reduceEqDiff, Nat.reduceAdd, reduceCtorEq, h2, h3, h4, h9, h10, h31, h32, h33, h38, h39, h40]
      refine ⟨by trivial, by trivial, by trivial, by trivial, by trivial, by trivial, by trivial, by trivial, by trivial, by trivial, by trivial, by trivial, _, _, tab11.set (i := i+1) (j := to) hTi1 um3 (by omega) hb12 hf12 ?_ ?_, by rw [List.length_set]; exact hT, fun r hr => ?_⟩
      · have : stF S z es i (j+1) (i+1) to = S.add (stF S z es i j (i+1) to) (S.mul (stF S z es i j i fr) (z i j)) := by
          unfold stF
          rw [if_neg (by omega), if_pos rfl, if_neg (by omega), if_pos rfl, if_pos (Nat.le_refl i), secF]
          simp [hi, hj, hto, hfr]
        rw [this]; exact hx11
      · intro r v w hne h
        have : stF S z es i (j+1) r v = stF S z es i j r v := by
          unfold stF
          by_cases h1 : r ≤ i
          · rw [if_pos h1, if_pos h1]
          · rw [if_neg h1, if_neg h1]
            by_cases h2 : r = i + 1
            · have hvt : ¬ v = to := fun h => hne ⟨h2, h⟩
              rw [if_pos h2, if_pos h2, secF]
              simp [hi, hj, hto, hvt]
            · rw [if_neg h2, if_neg h2]
        rw [this]; exact S.up h (by omega)
      · rw [List.length_set] at hr
        by_cases e : i + 1 = r
        · subst e; simp [hTl (i+1) hTi1]
        · rw [List.getElem_set_ne e]; exact hTl r hr
    · rintro env H' ⟨h2, h3, h4, h9, h31, h32, h33, h10, h38, h39, h40, T, G, tab, hT, hTl⟩
      simp only [go_sem, ↓reduceIte, Nat.reduceEqDiff, Nat.reduceAdd, reduceCtorEq, h2, h3, h4, h9, h31, h32, h33]
      refine ⟨by trivial, by trivial, by trivial, by trivial, by trivial, by trivial, by trivial, by trivial, T, G, ?_, hT, hTl⟩
      rw [← stF_next hi]
      exact tab.weaken fun r v x _ h => S.up h (by rw [Nat.add_mul]; omega)
  · rintro env H' ⟨h2, h3, h4, h9, h31, h32, h33, T, G, tab, hT, hTl⟩
    simp only [go_sem, ↓reduceIte, Nat.reduceEqDiff, Nat.reduceAdd, reduceCtorEq, h9]
    refine finO_self ⟨hs02.trans' tab.tab.sub, N, us, T, G, by rw [e2], ?_, by omega, hTl⟩
    refine VTab.weaken (Q := fun r v G x => S.Rep (es.length * E) G x (stF S z es es.length 0 r v)) ⟨tab.tab.down hs02, hs02.trans' tab.g0, tab.gh, tab.gN, tab.gr, tab.rep⟩ fun r v x hr h => ?_
    have : stF S z es es.length 0 r v = rowF S z es r v := by unfold stF; rw [if_pos (by omega)]
    rw [this] at h
    exact h
end
end Go.AM

/- Counting as a semiring; trellis.Paths. Conditions: none. -/
set_option linter.unusedVariables false
set_option linter.unusedSimpArgs false
namespace Go.AM
open Go Go.Proofs
attribute [local go_sem] c_skip c_ops c_seq c_ite c_blk c_exit c_ret t_normal t_exit t_ret b_normal b_exit b_ret i_nil i_cons s_guard s_mov s_pick s_new s_zero s_ld s_ldr s_st s_bin s_beq s_isnil s_eqs s_un s_conv s_fa s_fld s_ia s_sli s_ext s_ifc s_mkf s_agg s_len s_mm s_nilchk s_bsl s_mk s_app s_cpy s_call s_inv cells_agg cells_int cells_bool p_get p_none o_s o_c e_0 e_1 e_2 e_3 e_4 iteC_true iteC_false grd_tt grd_tf grd_ft grd_ff grd_und bindV_some pickV_t pickV_f beq_bool conv_int un_not not_dec mm_min mm_max bv_add bv_sub bv_mul bv_eql bv_neq bv_lss bv_leq bv_gtr bv_geq f_normal f_one f_two f_three f_none fa_ptr fld_one ext_tup len_sl len_nils decide_true decide_false not_true_eq_false not_false_eq_true List.map_cons List.map_nil List.append_nil List.cons_append List.nil_append Nat.zero_add Nat.add_zero Nat.mul_one Nat.succ_ne_self if_true if_false List.getElem?_cons_zero List.getElem?_cons_succ

/-- trellis.Paths -/
def F28 : AF := ⟨56, [(2, none), (3, none)], (.seq (.ops [⟨none, false, (some 1), (.new (.s 0))⟩, ⟨none, false, (some 2), (.mov (.c .nils))⟩, ⟨none, false, (some 3), (.mov (.c (.int .i64 (0))))⟩]) (.seq (.seq (.ops [⟨none, false, (some 11), (.ld true 2 (.s 1) none)⟩, ⟨none, false, (some 12), (.call (.c (.fn 18 [])) [(.s 11)])⟩, ⟨none, false, (some 4), (.mov (.s 12))⟩]) (.seq (.ops [⟨none, false, (some 13), (.mov (.s 4))⟩, ⟨none, false, (some 14), (.bin .neq (.s 13) (.c (.int .i64 (0))))⟩]) (.ite (.s 14) (.seq (.ops [⟨none, false, (some 15), (.mov (.s 4))⟩, ⟨none, false, (some 2), (.mov (.c .nils))⟩, ⟨none, false, (some 3), (.mov (.s 15))⟩]) .ret) .skip))) (.seq (.ops [⟨none, false, (some 16), (.call (.c (.fn 50 [])) [(.c (.int .u64 (1)))])⟩, ⟨none, false, (some 5), (.mov (.s 16))⟩]) (.seq (.ops [⟨none, false, (some 17), (.fa 1 (.s 1))⟩, ⟨none, false, (some 18), (.ld false 1 (.s 17) none)⟩, ⟨none, false, (some 19), (.len (.s 18))⟩, ⟨none, false, (some 20), (.mk 1 24 [.nils] (.s 19) (.s 19))⟩, ⟨none, false, (some 6), (.mov (.s 20))⟩]) (.seq (.seq (.ops [⟨none, false, (some 21), (.fa 1 (.s 1))⟩, ⟨none, false, (some 22), (.ld false 1 (.s 21) none)⟩, ⟨none, false, (some 23), (.len (.s 22))⟩, ⟨none, false, (some 24), (.mov (.c (.int .i64 (0))))⟩]) (.blk 0 (.loop (.seq (.ops [⟨none, false, (some 25), (.bin .lss (.s 24) (.s 23))⟩]) (.seq (.ite (.s 25) .skip (.exit 0)) (.seq (.blk 1 (.seq (.ops [⟨none, false, (some 26), (.mov (.s 24))⟩, ⟨none, false, (some 27), (.ia 1 (.s 22) (.s 24))⟩, ⟨none, false, (some 28), (.ld false 1 (.s 27) none)⟩, ⟨none, false, (some 7), (.mov (.s 26))⟩, ⟨none, false, (some 8), (.mov (.s 28))⟩]) (.ops [⟨none, false, (some 29), (.mov (.s 6))⟩, ⟨none, false, (some 30), (.mov (.s 7))⟩, ⟨none, false, (some 31), (.mov (.s 5))⟩, ⟨none, false, (some 32), (.bsl 1 1 [.nils] [(0, (1, (.s 31)))])⟩, ⟨none, false, (some 33), (.mov (.s 8))⟩, ⟨none, false, (some 34), (.len (.s 33))⟩, ⟨none, false, (some 35), (.call (.c (.fn 62 [])) [(.s 32), (.s 34)])⟩, ⟨none, false, (some 36), (.ia 1 (.s 29) (.s 30))⟩, ⟨none, false, none, (.st 1 (.s 36) (.s 35) [])⟩]))) (.ops [⟨none, false, (some 37), (.bin .add (.s 24) (.c (.int .i64 (1))))⟩, ⟨none, false, (some 24), (.mov (.s 37))⟩]))))))) (.seq (.ops [⟨none, false, (some 39), (.agg [] [])⟩, ⟨none, false, (some 40), (.ld true 2 (.s 1) none)⟩, ⟨none, false, (some 41), (.mov (.s 6))⟩, ⟨none, false, (some 42), (.call (.c (.fn 63 [])) [(.s 39), (.s 40), (.s 41)])⟩, ⟨none, false, (some 38), (.mov (.s 42))⟩, ⟨none, false, (some 43), (.ext (.s 38) 0)⟩, ⟨none, false, (some 44), (.ext (.s 38) 1)⟩, ⟨none, false, (some 9), (.mov (.s 43))⟩, ⟨none, false, (some 10), (.mov (.s 44))⟩]) (.seq (.seq (.ops [⟨none, false, (some 45), (.mov (.s 10))⟩, ⟨none, false, (some 46), (.bin .neq (.s 45) (.c (.int .i64 (0))))⟩]) (.ite (.s 46) (.seq (.ops [⟨none, false, (some 47), (.mov (.s 10))⟩, ⟨none, false, (some 2), (.mov (.c .nils))⟩, ⟨none, false, (some 3), (.mov (.s 47))⟩]) .ret) .skip)) (.seq (.ops [⟨none, false, (some 48), (.mov (.s 9))⟩, ⟨none, false, (some 49), (.fa 1 (.s 1))⟩, ⟨none, false, (some 50), (.ld false 1 (.s 49) none)⟩, ⟨none, false, (some 51), (.len (.s 50))⟩, ⟨none, false, (some 52), (.ia 1 (.s 48) (.s 51))⟩, ⟨none, false, (some 53), (.ld false 1 (.s 52) none)⟩, ⟨none, false, (some 54), (.ia 1 (.s 53) (.c (.int .i64 (0))))⟩, ⟨none, false, (some 55), (.ld false 1 (.s 54) none)⟩, ⟨none, false, (some 2), (.mov (.s 55))⟩, ⟨none, false, (some 3), (.mov (.c (.int .i64 (0))))⟩]) .ret))))))))⟩
theorem cv28 : cvF Try.prog 28 = some F28 := by kernel_rfl


theorem cvRows : cvF Try.prog 94 = some (rowsC 101 164) := by kernel_rfl
theorem cvFwd : cvF Try.prog 63 = some (fwdC 93 94 101 164 163 161 162) := by kernel_rfl
theorem cvVal : cvF Try.prog 93 = some F101 := by kernel_rfl

/-- the natural numbers -/
def ctS : SRing Int 164 163 161 162 where
  K := 33554432
  Rep k H v n := CNat H v n (2 + 5 * k)
  W H v n := SNat H v n 2
  M k H v n := CNat H v n (5 + 5 * k)
  zero := 0
  one := 1
  add a b := a + b
  mul a b := a * b
  mono h hs := h.mono hs
  wmono h hs := h.mono hs
  cells h := h.nat.cells
  up h hk := h.up (by omega)
  hz H := cZero_spec H
  ho H := cOne_spec H
  hm {k H u w x c} hk h1 h2 := (cMul_spec (L := 2 + 5 * k) (M := 2) (by omega) h1.nat h2).mono fun v H' h => ⟨h.1, h.2.up (by omega)⟩
  ha {k H u w x c} hk h1 h2 := (cAdd_spec (L := 5 + 5 * k) (by omega) (h1.up (by omega)).nat h2.nat).mono fun v H' h => ⟨h.1, h.2.up (by omega)⟩

/-- how many paths there are -/
def pathsI (es : List (List Ed)) : Int := rowF ctS (fun _ _ => 1) es es.length 0

theorem partR_lay {n : Nat} {full : Nat → List V} {k : Nat} (h : k < n) : (partR n full k 0).set k (full k) = partR n full (k+1) 0 := by
  apply List.ext_getElem
  · simp [partR_len]
  · intro i h1 h2
    have hi : i < n := by rw [partR_len] at h2; exact h2
    rw [partR_get hi]
    by_cases e : k = i
    · subst e; simp
    · rw [List.getElem_set_ne e, partR_get hi]
      by_cases h1 : i < k
      · simp [h1, show i < k + 1 by omega]
      · simp [h1, show ¬ i = k by omega, show ¬ i < k + 1 by omega]

theorem Paths_spec {sv ev : V} {ws : List Int} {es : List (List Ed)} {H : Heap} (hs : SInts H sv ws) (he : SSecs H ev es) : ACalls Try.prog 28 [.agg [sv, ev]] H fun u H' => Heap.sub H H' ∧
    ((properI ws es ≠ 0 ∧ u = .tup [.nils, .int .i64 (properI ws es)]) ∨ (properI ws es = 0 ∧ ∃ v, u = .tup [v, .int .i64 0] ∧ CNat H' v (pathsI es) 1000000000)) := by
  refine ACalls.of_body hm cv28 (by simp only [List.length_cons, List.length_nil]; decide) ?_
  simp only [F28, go_sem, ↓reduceIte, Nat.reduceEqDiff, Nat.reduceAdd, reduceCtorEq]
  refine newC_intro fun b1 H1 hn1 hs1 hb1 => ?_
  simp only [go_sem, ↓reduceIte, Nat.reduceEqDiff, Nat.reduceAdd, reduceCtorEq, ld_boxa hb1 (show 0 + 2 ≤ _ by simp), fillV, List.length_cons, List.length_nil, splice, Nat.reduceLeDiff, Nat.zero_lt_one, and_self, List.take_zero, List.take_succ_cons, List.drop_succ_cons, List.drop_zero, List.drop_nil, Nat.reduceLT, Nat.le_refl]
  refine callC_pure (Proper_spec (hs.mono hs1) (SSecs.mono he hs1)) ?_
  simp only [go_sem, ↓reduceIte, Nat.reduceEqDiff, Nat.reduceAdd, reduceCtorEq]
  refine iteC_if (fun c => ?_) (fun c => ?_)
  · simp only [go_sem, ↓reduceIte, Nat.reduceEqDiff, Nat.reduceAdd, reduceCtorEq]
    exact finO_self ⟨hs1, .inl ⟨c, rfl⟩⟩
  have hp : properI ws es = 0 := Classical.byContradiction c
  obtain ⟨h0, w0, wl, hgood⟩ := proper_of hp
  have sh := shaped_of h0
  have hn := sh.n
  have e2 := sh.len
  simp only [go_sem, ↓reduceIte, Nat.reduceEqDiff, Nat.reduceAdd, reduceCtorEq]
  refine callC_grow (Of_spec (by decide) (by decide) _) ?_
  intro x H2 hs2 hx
  have hb1' := hs2 _ _ hb1
  have hs02 := hs1.trans' hs2
  simp only [go_sem, ↓reduceIte, Nat.reduceEqDiff, Nat.reduceAdd, reduceCtorEq, ld_box hb1', SLists.len he]
  refine mkC_intro (Nat.le_refl _) (by omega) (by omega) fun N H3 hN hs3 hbN => ?_
  rw [flat_rep] at hbN
  simp only [go_sem, ↓reduceIte, Nat.reduceEqDiff, Nat.reduceAdd, reduceCtorEq, ld_box (hs3 _ _ hb1'), SLists.len he, beq_self_eq_true]
  refine range_loop es.length (fun k env H' => env 1 = .ptr b1 0 ∧ env 5 = x ∧ env 6 = .sl N 0 es.length true ∧ env 22 = ev ∧ env 23 = .int .i64 es.length ∧ env 24 = .int .i64 k ∧ ∃ us, Tab H2 H' N true us (partR es.length (fun i => List.replicate (es[i]?.getD []).length x) k 0)) (by omega) (by decide) (by decide) ?_ ?_ ?_ ?_
  · rintro k env H' ⟨_, _, _, _, h7, h8, _⟩; exact ⟨h8, h7⟩
  · simp only [go_sem, ↓reduceIte, Nat.reduceEqDiff, Nat.reduceAdd, reduceCtorEq]
    exact ⟨by trivial, by trivial, by trivial, by trivial, by trivial, rfl, _, partR_startT hs3 hN hbN⟩
  · rintro k env H4 hk ⟨h1, h5, h6, h22, h23, h24, us, tab⟩
    obtain ⟨p, ue, a1, a2, a3⟩ := (SSecs.mono he hs02).get hk .i64
    have hlk := sh.each k hk
    simp only [go_sem, ↓reduceIte, Nat.reduceEqDiff, Nat.reduceAdd, reduceCtorEq, h1, h5, h6, h22, h23, h24, a1, ld_mono tab.sub a2, a3.len, fillV, List.length_cons, List.length_nil, splice, Nat.reduceLeDiff, Nat.zero_lt_one, and_self, List.take_zero, List.take_succ_cons, List.drop_succ_cons, List.drop_zero, List.drop_nil, Nat.reduceLT, Nat.le_refl, hx.nat.cells]
    refine newC_intro fun xb H5 hxb hs5 hbx => ?_
    simp only [go_sem, ↓reduceIte, Nat.reduceEqDiff, Nat.reduceAdd, reduceCtorEq, a3.len]
    refine callC_grow (Repeat_spec (x := x) (n := es[k].length) ⟨xb, _, rfl, hbx⟩ (by omega)) ?_
    rintro r H6 hs6 ⟨m, rfl, hbm, hm5⟩
    have hs46 := hs5.trans' hs6
    have tab6 := tab.grow hs46
    have hmN : N ≠ m := by rintro rfl; rw [(tab.grow hs5).outer] at hm5; cases hm5
    have hul : us.length = es.length := by rw [tab.len, partR_len]
    simp only [go_sem, ↓reduceIte, Nat.reduceEqDiff, Nat.reduceAdd, reduceCtorEq, h1, h5, h6, h22, h23, h24, ia_nat hk]
    refine stC_intro tab6.outer trivial rfl (by decide) (by show k + 1 ≤ us.length; omega) fun H7 hb7 hf7 hs7 => ?_
    simp only [go_sem, ↓reduceIte, Nat.reduceEqDiff, Nat.reduceAdd, reduceCtorEq, h1, h5, h6, h22, h23, h24]
    have hm4 : H4 m = none := hs5.none' hm5
    have tab7 := tab.lay (H' := H7) (i := k) (m := m) (ys := List.replicate es[k].length x) (by rw [partR_len]; exact hk) hm4 (by
      rw [hb7, show V.cells (V.sl m 0 es[k].length true) = [V.sl m 0 es[k].length true] from rfl, splice_one _ _ _ (by omega), List.length_replicate]) (by rw [hf7 m (Ne.symm hmN)]; exact hbm) (fun q b h1 h2 h3 hb => by rw [hf7 q h1]; exact hs46 q b hb)
    have hfull : (fun i => List.replicate (es[i]?.getD []).length x) k = List.replicate es[k].length x := by simp [hk]
    rw [← hfull, partR_lay hk] at tab7
    exact ⟨by trivial, by trivial, by trivial, by trivial, by trivial, by trivial, by trivial, _, tab7⟩
  · rintro env H' ⟨h1, h5, h6, h22, h23, h24, us, tab⟩
    rw [partR_done] at tab
    obtain ⟨xss, hxss⟩ : ∃ xss, xss = (List.range es.length).map (fun i => List.replicate (es[i]?.getD []).length x) := ⟨_, rfl⟩
    rw [← hxss] at tab
    have hxl : xss.length = es.length := by rw [hxss]; simp
    have hxr : ∀ i, (h : i < es.length) → xss[i]'(by omega) = List.replicate es[i].length x := fun i h => by subst hxss; simp [h]
    have hrows : SRowsV H' (.sl N 0 es.length true) xss := tab.rows hxl.symm (by omega) fun xs hxs => by
      rw [hxss] at hxs
      obtain ⟨i, hi, rfl⟩ := List.mem_map.1 hxs
      rw [List.mem_range] at hi
      have := sh.each i hi
      simp [hi]; omega
    have hbb := tab.sub _ _ hb1'
    have hs2' := hs02.trans' tab.sub
    simp only [go_sem, ↓reduceIte, Nat.reduceEqDiff, Nat.reduceAdd, reduceCtorEq, h1, h5, h6, ld_boxa hbb (show 0 + 2 ≤ _ by simp), fillV, List.length_cons, List.length_nil, splice, Nat.reduceLeDiff, Nat.zero_lt_one, and_self, List.take_zero, List.take_succ_cons, List.drop_succ_cons, List.drop_zero, List.drop_nil, Nat.reduceLT, Nat.le_refl, Option.map_some]
    refine callC_grow (ForwardG_spec (E := 262144) (z := fun _ _ => (1 : Int)) ctS cvFwd cvVal cvRows rfl (show es.length * 262144 ≤ 33554432 by omega) (hs.mono hs2') (SSecs.mono he hs2') h0 hrows hxl (fun i h => by rw [hxr i h]; simp) fun i j h h' => ?_) ?_
    · have : xss[i][j] = x := by
        have h'' := h'
        simp only [hxr i (by omega)] at h'' ⊢
        simp
      rw [this]
      exact (hx.nat).mono tab.sub
    rintro u H8 hs8 ⟨N2, us2, T, G, rfl, vt, hT, hTl⟩
    have hlen : es.length < T.length := by omega
    have hl0 : 0 < T[es.length].length := by rw [hTl _ hlen, wl]; decide
    obtain ⟨m2, um2, hm2, _, _, ia2, ld2⟩ := vt.tab.at (i := es.length) (j := 0) hlen hl0 .i64
    have r2 := vt.rep es.length 0 hlen hl0
    rw [List.getElem?_eq_getElem hl0] at ld2
    have ia2' : iaV 1 (.sl m2 0 T[es.length].length false) (.int .i64 0) = some (.ptr m2 0) := ia2
    have hc := (show CNat G _ (pathsI es) (2 + 5 * (es.length * 262144)) from r2).mono vt.gh
    simp only [go_sem, ↓reduceIte, Nat.reduceEqDiff, Nat.reduceAdd, reduceCtorEq, h1, ld_box (hs8 _ _ hbb), SLists.len he, ia_nat (show es.length < es.length + 1 by omega), ld_box vt.tab.outer, um2, ia2', ld2]
    exact finO_self ⟨hs2'.trans' hs8, .inr ⟨hp, _, rfl, hc.up (by omega)⟩⟩
end Go.AM

/- The labels of the paths of a trellis, and how many they are (plain words). Conditions: none. -/
set_option linter.unusedVariables false
set_option linter.unusedSimpArgs false
namespace Go.AM
open Go Go.Proofs

/-- the labels of the paths that are left, m sections ahead of the end -/
def suf (es : List (List Ed)) : Nat → Int → List (List Int)
  | 0, _ => [[]]
  | m+1, v => (fromI (es[es.length - (m+1)]?.getD []) v).flatMap fun e => (suf es m e.to).map (e.lb :: ·)
/-- the labels of the paths to the time i, each with its end -/
def pre (es : List (List Ed)) : Nat → List (List Int × Int)
  | 0 => [([], 0)]
  | i+1 => (pre es i).flatMap fun p => (fromI (es[i]?.getD []) p.2).map fun e => (p.1 ++ [e.lb], e.to)
theorem pre_suf (es : List (List Ed)) : ∀ i, i ≤ es.length → (pre es i).flatMap (fun p => (suf es (es.length - i) p.2).map (p.1 ++ ·)) = suf es es.length 0
  | 0, _ => by simp [pre]
  | i+1, h => by
    rw [← pre_suf es i (by omega), pre, List.flatMap_assoc]
    congr 1
    funext p
    obtain ⟨m, hm⟩ : ∃ m, es.length - i = m + 1 := ⟨es.length - i - 1, by omega⟩
    have e1 : es.length - (i + 1) = m := by omega
    have e2 : es.length - (m + 1) = i := by omega
    rw [hm, e1, suf, e2, List.flatMap_map, List.map_flatMap]
    congr 1
    funext e
    simp [List.map_map, Function.comp_def]
theorem pre_all (es : List (List Ed)) : (pre es es.length).map (·.1) = suf es es.length 0 := by
  rw [← pre_suf es es.length (Nat.le_refl _), Nat.sub_self]
  simp only [suf, List.map_cons, List.map_nil, List.append_nil]
  rw [List.map_eq_flatMap]

/-- how many of them end at v -/
def cnt (l : List (List Int × Int)) (v : Int) : Int := (l.countP fun p => decide (p.2 = v) : Nat)
theorem cnt_append (a b : List (List Int × Int)) (v : Int) : cnt (a ++ b) v = cnt a v + cnt b v := by simp [cnt, List.countP_append]
/-- with the first j edges of a section -/
def preJ (l : List (List Int × Int)) (es : List Ed) : List (List Int × Int) := l.flatMap fun p => (fromI es p.2).map fun e => (p.1 ++ [e.lb], e.to)
theorem preJ_nil (l : List (List Int × Int)) : preJ l [] = [] := by
  induction l with
  | nil => rfl
  | cons p r ih => simp [preJ, fromI]
theorem preJ_snoc (l : List (List Int × Int)) (es : List Ed) (e : Ed) (v : Int) : cnt (preJ l (es ++ [e])) v = cnt (preJ l es) v + if e.to = v then cnt l e.fr else 0 := by
  induction l with
  | nil => simp [preJ, cnt]
  | cons p r ih =>
    have h1 : ∀ xs : List Ed, preJ (p :: r) xs = ((fromI xs p.2).map fun e => (p.1 ++ [e.lb], e.to)) ++ preJ r xs := fun xs => by simp [preJ]
    rw [h1, h1, cnt_append, cnt_append, ih]
    have h2 : cnt ((fromI (es ++ [e]) p.2).map fun e => (p.1 ++ [e.lb], e.to)) v = cnt ((fromI es p.2).map fun e => (p.1 ++ [e.lb], e.to)) v + if e.to = v then (if p.2 = e.fr then 1 else 0) else 0 := by
      simp only [fromI, List.filter_append, List.map_append, cnt_append]
      congr 1
      by_cases c : e.fr = p.2
      · by_cases d : e.to = v
        · simp [c, d, cnt]
        · simp [c, d, cnt]
      · have c' : ¬ p.2 = e.fr := fun h => c h.symm
        simp [c, c', cnt]
    have h3 : cnt (p :: r) e.fr = (if p.2 = e.fr then 1 else 0) + cnt r e.fr := by
      by_cases c : p.2 = e.fr
      · simp [cnt, c]; omega
      · simp [cnt, c]
    rw [h2, h3]
    by_cases d : e.to = v
    · simp only [d, if_true]; omega
    · simp only [d, if_false]; omega
theorem rowF_cnt {ws : List Int} {es : List (List Ed)} (sh : Shaped ws es) : ∀ i, i ≤ es.length → ∀ v : Nat, rowF ctS (fun _ _ => 1) es i v = cnt (pre es i) v
  | 0, _, v => by
    by_cases h : v = 0
    · subst h; simp [rowF, pre, cnt, ctS]
    · have : ¬ (0 : Int) = v := by omega
      simp [rowF, pre, cnt, ctS, h, this]
  | i+1, hi, v => by
    have ih := rowF_cnt sh i (by omega)
    have hil : i < es.length := by omega
    have key : ∀ j, j ≤ es[i].length → ∀ v : Nat, secF ctS (rowF ctS (fun _ _ => 1) es i) (fun _ => 1) es[i] j v = cnt (preJ (pre es i) (es[i].take j)) v := by
      intro j
      induction j with
      | zero => intro _ v; rw [List.take_zero, preJ_nil]; rfl
      | succ j ihj =>
        intro hj v
        have hjl : j < es[i].length := by omega
        have gd := sh.good i hil _ (List.getElem_mem hjl)
        rw [List.take_add_one, List.getElem?_eq_getElem hjl, Option.toList_some, preJ_snoc, ← ihj (by omega), secF]
        simp only [List.getElem?_eq_getElem hjl]
        have e1 := ih es[i][j].fr.toNat
        have e2 : ((es[i][j].fr.toNat : Nat) : Int) = es[i][j].fr := by omega
        rw [e2] at e1
        by_cases c : v = es[i][j].to.toNat
        · have c' : es[i][j].to = v := by omega
          rw [if_pos c, if_pos c', e1]
          show _ + cnt (pre es i) es[i][j].fr * 1 = _
          rw [Int.mul_one]
        · have c' : ¬ es[i][j].to = v := by omega
          rw [if_neg c, if_neg c']
          omega
    have := key es[i].length (Nat.le_refl _) v
    rw [List.take_length] at this
    rw [rowF, pre]
    simp only [hil, List.getElem?_eq_getElem, Option.getD_some]
    exact this
theorem pre_end {ws : List Int} {es : List (List Ed)} (sh : Shaped ws es) : ∀ i, i ≤ es.length → ∀ p ∈ pre es i, i = 0 ∧ p.2 = 0 ∨ 0 ≤ p.2 ∧ p.2 < ws[i]?.getD 0
  | 0, _, p, hp => by
    have : p = ([], 0) := by simpa [pre] using hp
    subst this; exact .inl ⟨rfl, rfl⟩
  | i+1, hi, p, hp => by
    have hil : i < es.length := by omega
    rw [pre, List.mem_flatMap] at hp
    obtain ⟨q, hq, hp⟩ := hp
    rw [List.mem_map] at hp
    obtain ⟨e, he, rfl⟩ := hp
    simp only [hil, List.getElem?_eq_getElem, Option.getD_some] at he
    have gd := sh.good i hil e (List.mem_filter.1 he).1
    exact .inr ⟨gd.2.2.1, gd.2.2.2⟩
/-- the paths are as many as their labels -/
theorem paths_len {ws : List Int} {es : List (List Ed)} (sh : Shaped ws es) (wl : ws[es.length]?.getD 0 = 1) : pathsI es = (suf es es.length 0).length := by
  rw [pathsI, rowF_cnt sh es.length (Nat.le_refl _), ← pre_all, List.length_map, cnt]
  congr 1
  rw [List.countP_eq_length]
  intro p hp
  rcases pre_end sh _ (Nat.le_refl _) p hp with ⟨_, h⟩ | h
  · simp [h]
  · rw [wl] at h
    have : p.2 = 0 := by omega
    simp [this]
end Go.AM
