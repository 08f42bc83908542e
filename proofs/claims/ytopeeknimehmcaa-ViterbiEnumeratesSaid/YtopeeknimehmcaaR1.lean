/- Rows of zeros, and the forward sums, over any semiring whose values are one cell each. Conditions: as stated. -/
import Derived.Test.YtopeeknimehmcaaP7
import Derived.Test.YtopeeknimehmcaaR0
set_option linter.unusedVariables false
set_option linter.unusedSimpArgs false
namespace Go.AM
open Go Go.Proofs
attribute [local go_sem] c_skip c_ops c_seq c_ite c_blk c_exit c_ret t_normal t_exit t_ret b_normal b_exit b_ret i_nil i_cons s_guard s_mov s_pick s_new s_zero s_ld s_ldr s_st s_bin s_beq s_isnil s_eqs s_un s_conv s_fa s_fld s_ia s_sli s_ext s_ifc s_mkf s_agg s_len s_mm s_nilchk s_bsl s_mk s_app s_cpy s_call s_inv cells_agg cells_int cells_bool p_get p_none o_s o_c e_0 e_1 e_2 e_3 e_4 iteC_true iteC_false grd_tt grd_tf grd_ft grd_ff grd_und bindV_some pickV_t pickV_f beq_bool conv_int un_not not_dec mm_min mm_max bv_add bv_sub bv_mul bv_eql bv_neq bv_lss bv_leq bv_gtr bv_geq f_normal f_one f_two f_three f_none fa_ptr fld_one ext_tup len_sl len_nils decide_true decide_false not_true_eq_false not_false_eq_true List.map_cons List.map_nil List.append_nil List.cons_append List.nil_append Nat.zero_add Nat.add_zero Nat.mul_one Nat.succ_ne_self if_true if_false List.getElem?_cons_zero List.getElem?_cons_succ

/-- semiring.rows[api.Nat,semiring.Counting], of any kind -/
def rowsC (ty z : Nat) : AF := ⟨38, [(4, none)], (.seq (.ops [⟨none, false, (some 2), (.new (.s 0))⟩, ⟨none, false, (some 3), (.new (.s 1))⟩, ⟨none, false, (some 4), (.mov (.c .nils))⟩]) (.seq (.ops [⟨none, false, (some 8), (.fa 0 (.s 3))⟩, ⟨none, false, (some 9), (.ld false 1 (.s 8) none)⟩, ⟨none, false, (some 10), (.len (.s 9))⟩, ⟨none, false, (some 11), (.mk 1 24 [.nils] (.s 10) (.s 10))⟩, ⟨none, false, (some 5), (.mov (.s 11))⟩]) (.seq (.seq (.ops [⟨none, false, (some 12), (.fa 0 (.s 3))⟩, ⟨none, false, (some 13), (.ld false 1 (.s 12) none)⟩, ⟨none, false, (some 14), (.len (.s 13))⟩, ⟨none, false, (some 15), (.mov (.c (.int .i64 (0))))⟩]) (.blk 0 (.loop (.seq (.ops [⟨none, false, (some 16), (.bin .lss (.s 15) (.s 14))⟩]) (.seq (.ite (.s 16) .skip (.exit 0)) (.seq (.blk 1 (.seq (.ops [⟨none, false, (some 17), (.mov (.s 15))⟩, ⟨none, false, (some 18), (.ia 1 (.s 13) (.s 15))⟩, ⟨none, false, (some 19), (.ld false 1 (.s 18) none)⟩, ⟨none, false, (some 6), (.mov (.s 17))⟩, ⟨none, false, (some 7), (.mov (.s 19))⟩]) (.seq (.ops [⟨none, false, (some 20), (.mov (.s 7))⟩, ⟨none, false, (some 21), (.mov (.c (.int .i64 (0))))⟩]) (.blk 2 (.loop (.seq (.ops [⟨none, false, (some 22), (.bin .lss (.s 21) (.s 20))⟩]) (.seq (.ite (.s 22) .skip (.exit 2)) (.seq (.blk 3 (.ops [⟨none, false, (some 23), (.mov (.s 5))⟩, ⟨none, false, (some 24), (.mov (.s 6))⟩, ⟨none, false, (some 25), (.mov (.s 5))⟩, ⟨none, false, (some 26), (.mov (.s 6))⟩, ⟨none, false, (some 27), (.ia 1 (.s 25) (.s 26))⟩, ⟨none, false, (some 28), (.ld false 1 (.s 27) none)⟩, ⟨none, false, (some 29), (.ld true 0 (.s 2) none)⟩, ⟨none, false, (some 30), (.ifc ty (.s 29))⟩, ⟨none, true, (some 31), (.inv (.s 30) ty z [])⟩, ⟨none, false, (some 32), (.bsl 1 1 [.nils] [(0, (1, (.s 31)))])⟩, ⟨none, false, (some 33), (.app 1 24 (.s 28) (.s 32) [])⟩, ⟨none, false, (some 34), (.ia 1 (.s 23) (.s 24))⟩, ⟨none, false, none, (.st 1 (.s 34) (.s 33) [])⟩])) (.ops [⟨none, false, (some 35), (.bin .add (.s 21) (.c (.int .i64 (1))))⟩, ⟨none, false, (some 21), (.mov (.s 35))⟩]))))))))) (.ops [⟨none, false, (some 36), (.bin .add (.s 15) (.c (.int .i64 (1))))⟩, ⟨none, false, (some 15), (.mov (.s 36))⟩]))))))) (.seq (.ops [⟨none, false, (some 37), (.mov (.s 5))⟩, ⟨none, false, (some 4), (.mov (.s 37))⟩]) .ret))))⟩
/-- semiring.Forward[api.Nat,semiring.Counting], of any kind -/
def fwdC (va ro ty z o a m : Nat) : AF := ⟨86, [(6, none), (7, none)], (.seq (.ops [⟨none, false, (some 3), (.new (.s 0))⟩, ⟨none, false, (some 4), (.new (.s 1))⟩, ⟨none, false, (some 6), (.mov (.c .nils))⟩, ⟨none, false, (some 7), (.mov (.c (.int .i64 (0))))⟩]) (.seq (.seq (.ops [⟨none, false, (some 14), (.ld true 2 (.s 4) none)⟩, ⟨none, false, (some 15), (.mov (.s 2))⟩, ⟨none, false, (some 16), (.call (.c (.fn va [])) [(.s 14), (.s 15)])⟩, ⟨none, false, (some 8), (.mov (.s 16))⟩]) (.seq (.ops [⟨none, false, (some 17), (.mov (.s 8))⟩, ⟨none, false, (some 18), (.bin .neq (.s 17) (.c (.int .i64 (0))))⟩]) (.ite (.s 18) (.seq (.ops [⟨none, false, (some 19), (.mov (.s 8))⟩, ⟨none, false, (some 6), (.mov (.c .nils))⟩, ⟨none, false, (some 7), (.mov (.s 19))⟩]) .ret) .skip))) (.seq (.ops [⟨none, false, (some 20), (.ld true 0 (.s 3) none)⟩, ⟨none, false, (some 21), (.ld true 2 (.s 4) none)⟩, ⟨none, false, (some 22), (.call (.c (.fn ro [])) [(.s 20), (.s 21)])⟩, ⟨none, false, (some 9), (.mov (.s 22))⟩]) (.seq (.ops [⟨none, false, (some 23), (.mov (.s 9))⟩, ⟨none, false, (some 24), (.ia 1 (.s 23) (.c (.int .i64 (0))))⟩, ⟨none, false, (some 25), (.ld false 1 (.s 24) none)⟩, ⟨none, false, (some 26), (.ld true 0 (.s 3) none)⟩, ⟨none, false, (some 27), (.ifc ty (.s 26))⟩, ⟨none, true, (some 28), (.inv (.s 27) ty o [])⟩, ⟨none, false, (some 29), (.ia 1 (.s 25) (.c (.int .i64 (0))))⟩, ⟨none, false, none, (.st 1 (.s 29) (.s 28) [])⟩]) (.seq (.seq (.ops [⟨none, false, (some 30), (.fa 1 (.s 4))⟩, ⟨none, false, (some 31), (.ld false 1 (.s 30) none)⟩, ⟨none, false, (some 32), (.len (.s 31))⟩, ⟨none, false, (some 33), (.mov (.c (.int .i64 (0))))⟩]) (.blk 0 (.loop (.seq (.ops [⟨none, false, (some 34), (.bin .lss (.s 33) (.s 32))⟩]) (.seq (.ite (.s 34) .skip (.exit 0)) (.seq (.blk 1 (.seq (.ops [⟨none, false, (some 35), (.mov (.s 33))⟩, ⟨none, false, (some 36), (.ia 1 (.s 31) (.s 33))⟩, ⟨none, false, (some 37), (.ld false 1 (.s 36) none)⟩, ⟨none, false, (some 10), (.mov (.s 35))⟩, ⟨none, false, (some 11), (.mov (.s 37))⟩]) (.seq (.ops [⟨none, false, (some 38), (.mov (.s 11))⟩, ⟨none, false, (some 39), (.len (.s 38))⟩, ⟨none, false, (some 40), (.mov (.c (.int .i64 (0))))⟩]) (.blk 2 (.loop (.seq (.ops [⟨none, false, (some 41), (.bin .lss (.s 40) (.s 39))⟩]) (.seq (.ite (.s 41) .skip (.exit 2)) (.seq (.blk 3 (.seq (.ops [⟨none, false, (some 42), (.mov (.s 40))⟩, ⟨none, false, (some 43), (.ia 3 (.s 38) (.s 40))⟩, ⟨none, false, (some 44), (.ld true 3 (.s 43) none)⟩, ⟨none, false, (some 13), (.zero [(.int .i64 (0)), (.int .i64 (0)), (.int .i64 (0))])⟩, ⟨none, false, (some 12), (.mov (.s 42))⟩, ⟨none, false, none, (.st 3 (.s 13) (.s 44) [])⟩]) (.ops [⟨none, false, (some 45), (.mov (.s 9))⟩, ⟨none, false, (some 46), (.mov (.s 10))⟩, ⟨none, false, (some 47), (.bin .add (.s 46) (.c (.int .i64 (1))))⟩, ⟨none, false, (some 48), (.ia 1 (.s 45) (.s 47))⟩, ⟨none, false, (some 50), (.fa 2 (.s 13))⟩, ⟨none, false, (some 54), (.mov (.s 9))⟩, ⟨none, false, (some 55), (.mov (.s 10))⟩, ⟨none, false, (some 56), (.bin .add (.s 55) (.c (.int .i64 (1))))⟩, ⟨none, false, (some 57), (.ia 1 (.s 54) (.s 56))⟩, ⟨none, false, (some 59), (.fa 2 (.s 13))⟩, ⟨none, false, (some 65), (.mov (.s 9))⟩, ⟨none, false, (some 66), (.mov (.s 10))⟩, ⟨none, false, (some 67), (.ia 1 (.s 65) (.s 66))⟩, ⟨none, false, (some 69), (.fa 0 (.s 13))⟩, ⟨none, false, (some 73), (.mov (.s 2))⟩, ⟨none, false, (some 74), (.mov (.s 10))⟩, ⟨none, false, (some 75), (.ia 1 (.s 73) (.s 74))⟩, ⟨none, false, (some 77), (.mov (.s 12))⟩, ⟨none, false, (some 49), (.ld false 1 (.s 48) none)⟩, ⟨none, false, (some 51), (.ld false 1 (.s 50) none)⟩, ⟨none, false, (some 52), (.ld true 0 (.s 3) none)⟩, ⟨none, false, (some 53), (.ifc ty (.s 52))⟩, ⟨none, false, (some 58), (.ld false 1 (.s 57) none)⟩, ⟨none, false, (some 60), (.ld false 1 (.s 59) none)⟩, ⟨none, false, (some 61), (.ia 1 (.s 58) (.s 60))⟩, ⟨none, false, (some 62), (.ld false 1 (.s 61) none)⟩, ⟨none, false, (some 63), (.ld true 0 (.s 3) none)⟩, ⟨none, false, (some 64), (.ifc ty (.s 63))⟩, ⟨none, false, (some 68), (.ld false 1 (.s 67) none)⟩, ⟨none, false, (some 70), (.ld false 1 (.s 69) none)⟩, ⟨none, false, (some 71), (.ia 1 (.s 68) (.s 70))⟩, ⟨none, false, (some 72), (.ld false 1 (.s 71) none)⟩, ⟨none, false, (some 76), (.ld false 1 (.s 75) none)⟩, ⟨none, false, (some 78), (.ia 1 (.s 76) (.s 77))⟩, ⟨none, false, (some 79), (.ld false 1 (.s 78) none)⟩, ⟨none, true, (some 80), (.inv (.s 64) ty m [(.s 72), (.s 79)])⟩, ⟨none, true, (some 81), (.inv (.s 53) ty a [(.s 62), (.s 80)])⟩, ⟨none, false, (some 82), (.ia 1 (.s 49) (.s 51))⟩, ⟨none, false, none, (.st 1 (.s 82) (.s 81) [])⟩]))) (.ops [⟨none, false, (some 83), (.bin .add (.s 40) (.c (.int .i64 (1))))⟩, ⟨none, false, (some 40), (.mov (.s 83))⟩]))))))))) (.ops [⟨none, false, (some 84), (.bin .add (.s 33) (.c (.int .i64 (1))))⟩, ⟨none, false, (some 33), (.mov (.s 84))⟩]))))))) (.seq (.ops [⟨none, false, (some 85), (.mov (.s 9))⟩, ⟨none, false, (some 6), (.mov (.s 85))⟩, ⟨none, false, (some 7), (.mov (.c (.int .i64 (0))))⟩]) .ret))))))⟩

/-- what the proofs need of a semiring: its values' forms in the heap (k: how many edges are gone through), the values of the edges, the products -/
structure SRing (A : Type) (z o a m : Nat) where
  K : Nat
  Rep : Nat → Heap → V → A → Prop
  W : Heap → V → A → Prop
  M : Nat → Heap → V → A → Prop
  zero : A
  one : A
  add : A → A → A
  mul : A → A → A
  mono : ∀ {k H H' v x}, Rep k H v x → Heap.sub H H' → Rep k H' v x
  wmono : ∀ {H H' v x}, W H v x → Heap.sub H H' → W H' v x
  cells : ∀ {k H v x}, Rep k H v x → v.cells = [v]
  up : ∀ {k k' H v x}, Rep k H v x → k ≤ k' → Rep k' H v x
  hz : ∀ H, ACalls Try.prog z [.agg []] H fun u H' => Heap.sub H H' ∧ Rep 0 H' u zero
  ho : ∀ H, ACalls Try.prog o [.agg []] H fun u H' => Heap.sub H H' ∧ Rep 0 H' u one
  hm : ∀ {k H u w x c}, k < K → Rep k H u x → W H w c → ACalls Try.prog m [.agg [], u, w] H fun r H' => Heap.sub H H' ∧ M k H' r (mul x c)
  ha : ∀ {k H u w x c}, k < K → Rep k H u x → M k H w c → ACalls Try.prog a [.agg [], u, w] H fun r H' => Heap.sub H H' ∧ Rep (k+1) H' r (add x c)

theorem part_lens {n : Nat} {w : Nat → Nat} {T : List (List V)} {k j : Nat} {v : V} (hl : T.length = n) (h : ∀ i, (h : i < T.length) → T[i].length = if i < k then w i else if i = k then j else 0) (hk : k < T.length) :
    ∀ i, (h : i < (T.set k (T[k] ++ [v])).length) → (T.set k (T[k] ++ [v]))[i].length = if i < k then w i else if i = k then j+1 else 0 := by
  intro i hi
  rw [List.length_set] at hi
  have := h i hi
  by_cases e : k = i
  · subst e
    simp at this ⊢
    exact this
  · rw [List.getElem_set_ne e]
    rw [this]
    simp [show ¬ i = k by omega]

theorem rowsG_spec {A : Type} {f ty z o a m : Nat} (S : SRing A z o a m) (hcv : cvF Try.prog f = some (rowsC ty z)) {sv ev : V} {ws : List Int} {H : Heap} (hs : SInts H sv ws) (hw : ∀ i, (h : i < ws.length) → 1 ≤ ws[i] ∧ ws[i] ≤ 65536) (hl : ws.length ≤ 65) :
    ACalls Try.prog f [.agg [], .agg [sv, ev]] H fun u H' => Heap.sub H H' ∧ ∃ N us T G, u = .sl N 0 ws.length true ∧ VTab H G H' N false us T (fun _ _ G v => S.Rep 0 G v S.zero) ∧ T.length = ws.length ∧ ∀ i, (h : i < T.length) → T[i].length = (ws[i]?.getD 0).toNat := by
  refine ACalls.of_body hm hcv (by simp [rowsC]) ?_
  simp only [rowsC, go_sem, ↓reduceIte, Nat.reduceEqDiff, Nat.reduceAdd, reduceCtorEq]
  refine newC_intro fun b2 H1 hn1 hs1 hb1 => ?_
  simp only [go_sem, ↓reduceIte, Nat.reduceEqDiff, Nat.reduceAdd, reduceCtorEq]
  refine newC_intro fun b3 H2 hn2 hs2 hb2 => ?_
  have hs02 := hs1.trans' hs2
  simp only [go_sem, ↓reduceIte, Nat.reduceEqDiff, Nat.reduceAdd, reduceCtorEq, ld_box hb2, hs.len]
  refine mkC_intro (Nat.le_refl _) (by omega) (by omega) fun N H3 hN hs3 hbN => ?_
  have hb2' := hs3 _ _ hb2
  rw [flat_rep] at hbN
  simp only [go_sem, ↓reduceIte, Nat.reduceEqDiff, Nat.reduceAdd, reduceCtorEq, ld_box hb2', hs.len, beq_self_eq_true]
  have tab0 : VTab H2 H2 H3 N false (List.replicate ws.length .nils) (List.replicate ws.length []) (fun _ _ G v => S.Rep 0 G v S.zero) := by
    refine ⟨⟨hs3, hbN, hN, by simp, fun i h => ?_, fun i j n l l' h => ?_⟩, Heap.sub.rfl', hs3, hN, fun i n l h => ?_, fun i j h h' => ?_⟩
    · rw [List.length_replicate] at h
      exact .inl ⟨by simp [h], by simp, trivial⟩
    · simp [List.getElem?_replicate] at h
    · simp [List.getElem?_replicate] at h
    · simp at h'
  have hq : ∀ {G G' : Heap}, Heap.sub G G' → ∀ (i j : Nat) (v : V), S.Rep 0 G v S.zero → S.Rep 0 G' v S.zero := fun hs _ _ _ h => S.mono h hs
  refine range_loop ws.length (fun k env H' => env 2 = .ptr b2 0 ∧ env 5 = .sl N 0 ws.length true ∧ env 13 = sv ∧ env 14 = .int .i64 ws.length ∧ env 15 = .int .i64 k ∧ ∃ us T G, VTab H2 G H' N false us T (fun _ _ G v => S.Rep 0 G v S.zero) ∧ T.length = ws.length ∧ ∀ i, (h : i < T.length) → T[i].length = if i < k then (ws[i]?.getD 0).toNat else if i = k then 0 else 0) (by omega) (by decide) (by decide) ?_ ?_ ?_ ?_
  · rintro k env H' ⟨_, _, _, h7, h8, _⟩; exact ⟨h8, h7⟩
  · simp only [go_sem, ↓reduceIte, Nat.reduceEqDiff, Nat.reduceAdd, reduceCtorEq]
    exact ⟨by trivial, by trivial, by trivial, by trivial, rfl, _, _, _, tab0, by simp, by simp⟩
  · rintro k env H4 hk ⟨h2, h5, h13, h14, h15, us, T, G, tab, hT, hTl⟩
    obtain ⟨p, a1, a2⟩ := ((hs.mono hs02).mono tab.tab.sub).get hk .i64
    have gk := getD_eq hk
    have pk := hw k hk
    obtain ⟨wk, hwk⟩ : ∃ n : Nat, ws[k] = n := ⟨ws[k].toNat, by omega⟩
    simp only [go_sem, ↓reduceIte, Nat.reduceEqDiff, Nat.reduceAdd, reduceCtorEq, h2, h5, h13, h14, h15, a1, a2, hwk]
    refine range_loop wk (fun j env H' => env 2 = .ptr b2 0 ∧ env 5 = .sl N 0 ws.length true ∧ env 13 = sv ∧ env 14 = .int .i64 ws.length ∧ env 15 = .int .i64 k ∧ env 6 = .int .i64 k ∧ env 20 = .int .i64 wk ∧ env 21 = .int .i64 j ∧ ∃ us T G, VTab H2 G H' N false us T (fun _ _ G v => S.Rep 0 G v S.zero) ∧ T.length = ws.length ∧ ∀ i, (h : i < T.length) → T[i].length = if i < k then (ws[i]?.getD 0).toNat else if i = k then j else 0) (by omega) (by decide) (by decide) ?_ ?_ ?_ ?_
    · rintro j env H' ⟨_, _, _, _, _, _, h7, h8, _⟩; exact ⟨h8, h7⟩
    · simp only [go_sem, ↓reduceIte, Nat.reduceEqDiff, Nat.reduceAdd, reduceCtorEq, h2, h5, h13, h14, h15]
      exact ⟨by trivial, by trivial, by trivial, by trivial, by trivial, by trivial, by trivial, rfl, us, T, G, tab, hT, hTl⟩
    · rintro j env H5 hj ⟨h2, h5, h13, h14, h15, h6, h20, h21, us, T, G, tab, hT, hTl⟩
      have hkp : k < T.length := by rw [hT]; exact hk
      obtain ⟨u, hu, hlu, hlr, hrow⟩ := tab.tab.get hkp
      have hpl : T[k].length = j := by have := hTl k hkp; simpa using this
      have hbs := tab.tab.sub _ _ (hs2 _ _ hb1)
      simp only [go_sem, ↓reduceIte, Nat.reduceEqDiff, Nat.reduceAdd, reduceCtorEq, h2, h5, h13, h14, h15, h6, h20, h21, ia_nat hk, ld_box tab.tab.outer, hu, ld_boxa hbs (show 0 + 0 ≤ _ by simp), List.take_zero]
      refine invC_in (S.hz _) tab.gh fun x H6 G6 hs6 a b c hx => ?_
      have tab6 := tab.call (hq a) hs6 a b c
      simp only [go_sem, ↓reduceIte, Nat.reduceEqDiff, Nat.reduceAdd, reduceCtorEq, fillV, List.length_cons, List.length_nil, splice, Nat.reduceLeDiff, Nat.zero_lt_one, and_self, List.take_zero, List.take_succ_cons, List.drop_succ_cons, List.drop_zero, List.drop_nil, Nat.reduceLT, Nat.le_refl, S.cells hx]
      refine newC_intro fun xb H7 hxb hs7 hbx => ?_
      have tab7 := tab6.grow hs7
      simp only [go_sem, ↓reduceIte, Nat.reduceEqDiff, Nat.reduceAdd, reduceCtorEq]
      refine appC_vtab tab7 hkp hu hbx (by rw [hpl]; omega) (by omega) hx fun m H8 hb8 hlu8 ht8 => ?_
      simp only [go_sem, ↓reduceIte, Nat.reduceEqDiff, Nat.reduceAdd, reduceCtorEq, h2, h5, h13, h14, h15, h6, h20, h21, ia_nat hk]
      have hul : us.length = ws.length := by rw [tab.tab.len, hT]
      refine stC_intro hb8 trivial rfl (by decide) (by show k + 1 ≤ us.length; omega) fun H9 hb9 hf9 hs9 => ?_
      simp only [go_sem, ↓reduceIte, Nat.reduceEqDiff, Nat.reduceAdd, reduceCtorEq, h2, h5, h13, h14, h15, h6, h20, h21]
      refine ⟨by trivial, by trivial, by trivial, by trivial, by trivial, by trivial, by trivial, by trivial, by trivial, _, _, _, ht8 H9 (by
        rw [hb9, show V.cells (V.sl m 0 (T[k].length + 1) false) = [V.sl m 0 (T[k].length + 1) false] from rfl, splice_one _ _ _ (by omega)]) hf9, by rw [List.length_set]; exact hT, part_lens hT hTl hkp⟩
    · rintro env H' ⟨h2, h5, h13, h14, h15, h6, h20, h21, us, T, G, tab, hT, hTl⟩
      simp only [go_sem, ↓reduceIte, Nat.reduceEqDiff, Nat.reduceAdd, reduceCtorEq, h2, h5, h13, h14, h15]
      refine ⟨by trivial, by trivial, by trivial, by trivial, by trivial, by trivial, us, T, G, tab, hT, fun i hi => ?_⟩
      rw [hTl i hi]
      by_cases h1 : i < k
      · simp [h1, show i < k + 1 by omega]
      · by_cases h2 : i = k
        · subst h2; simp [hwk, hk]
        · simp [h1, h2, show ¬ i < k + 1 by omega]
  · rintro env H' ⟨h2, h5, h13, h14, h15, us, T, G, tab, hT, hTl⟩
    simp only [go_sem, ↓reduceIte, Nat.reduceEqDiff, Nat.reduceAdd, reduceCtorEq, h5]
    refine finO_self ⟨hs02.trans' tab.tab.sub, N, us, T, G, rfl, ⟨tab.tab.down hs02, hs02.trans' tab.g0, tab.gh, tab.gN, tab.gr, tab.rep⟩, hT, fun i hi => ?_⟩
    rw [hTl i hi, if_pos (by omega)]
/-- semiring.valued, of any kind -/
theorem valuedG_spec {f : Nat} (hcv : cvF Try.prog f = some F101) {sv ev vv : V} {ws : List Int} {es : List (List Ed)} {xss : List (List V)} {H : Heap} (hs : SInts H sv ws) (he : SSecs H ev es) (h0 : shapeI ws es = 0) (hv : SRowsV H vv xss) (hl : xss.length = es.length) (hx : ∀ i, (h : i < es.length) → (xss[i]'(by omega)).length = es[i].length) :
    ACalls Try.prog f [.agg [sv, ev], vv] H fun u H' => u = .int .i64 0 ∧ H' = H := by
  refine ACalls.of_body hm hcv (by simp only [List.length_cons, List.length_nil]; decide) ?_
  have sh := shaped_of h0
  have hn := sh.n
  simp only [F101, go_sem, ↓reduceIte, Nat.reduceEqDiff, Nat.reduceAdd, reduceCtorEq]
  refine newC_intro fun n1 H1 hn1 hs1 hb1 => ?_
  simp only [ld_boxa hb1 (show 0 + 2 ≤ _ by simp), fillV, List.length_cons, List.length_nil, splice, Nat.reduceLeDiff, Nat.zero_lt_one, and_self, List.take_zero, List.take_succ_cons, List.drop_succ_cons, List.drop_zero, List.drop_nil, Nat.reduceLT, Nat.le_refl, go_sem, ↓reduceIte, Nat.reduceEqDiff, Nat.reduceAdd, reduceCtorEq]
  refine callC_pure (Shape_spec (hs.mono hs1) (SSecs.mono he hs1)) ?_
  rw [h0]
  simp only [go_sem, ↓reduceIte, Nat.reduceEqDiff, Nat.reduceAdd, reduceCtorEq, ld_box hb1, SLists.len he, SLists.len hv, hl]
  refine range_loop es.length (fun k env H' => H1 = H' ∧ env 1 = vv ∧ env 20 = ev ∧ env 21 = .int .i64 es.length ∧ env 22 = .int .i64 k) (by omega) (by decide) (by decide) ?_ ?_ ?_ ?_
  · rintro k env H' ⟨_, _, _, h7, h8⟩; exact ⟨h8, h7⟩
  · simp only [go_sem, ↓reduceIte, Nat.reduceEqDiff, Nat.reduceAdd, reduceCtorEq]; simp
  · rintro k env H' hk ⟨rfl, h1, h20, h21, h22⟩
    obtain ⟨p, u, a1, a2, a3⟩ := (SSecs.mono he hs1).get hk .i64
    obtain ⟨p', u', b1, b2, b3⟩ := (SRowsV.mono hv hs1).get (k := k) (by omega) .i64
    simp only [go_sem, ↓reduceIte, Nat.reduceEqDiff, Nat.reduceAdd, reduceCtorEq, h1, h20, h21, h22, a1, a2, a3.len, b1, b2, b3.len, hx k hk]
    exact ⟨by trivial, by trivial, by trivial, by trivial, by trivial, by trivial⟩
  · rintro env H' ⟨rfl, h1, h20, h21, h22⟩
    simp only [go_sem, ↓reduceIte, Nat.reduceEqDiff, Nat.reduceAdd, reduceCtorEq]
    exact finO_sub hs1 ⟨rfl, rfl⟩
end Go.AM
