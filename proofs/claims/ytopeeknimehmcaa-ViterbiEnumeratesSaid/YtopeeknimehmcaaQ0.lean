/- viterbi.priced, viterbi.Along. Conditions: none. -/
import Derived.Test.YtopeeknimehmcaaP9
import Derived.Test.YtopeeknimehmcaaX0
set_option linter.unusedVariables false
set_option linter.unusedSimpArgs false
namespace Go.AM
open Go Go.Proofs
attribute [local go_sem] c_skip c_ops c_seq c_ite c_blk c_exit c_ret t_normal t_exit t_ret b_normal b_exit b_ret i_nil i_cons s_guard s_mov s_pick s_new s_zero s_ld s_ldr s_st s_bin s_beq s_isnil s_eqs s_un s_conv s_fa s_fld s_ia s_sli s_ext s_ifc s_mkf s_agg s_len s_mm s_nilchk s_bsl s_mk s_app s_cpy s_call s_inv cells_agg cells_int cells_bool p_get p_none o_s o_c e_0 e_1 e_2 e_3 e_4 iteC_true iteC_false grd_tt grd_tf grd_ft grd_ff grd_und bindV_some pickV_t pickV_f beq_bool conv_int un_not not_dec mm_min mm_max bv_add bv_sub bv_mul bv_eql bv_neq bv_lss bv_leq bv_gtr bv_geq f_normal f_one f_two f_three f_none fa_ptr fld_one ext_tup len_sl len_nils decide_true decide_false not_true_eq_false not_false_eq_true List.map_cons List.map_nil List.append_nil List.cons_append List.nil_append Nat.zero_add Nat.add_zero Nat.mul_one Nat.succ_ne_self if_true if_false List.getElem?_cons_zero List.getElem?_cons_succ

/-- viterbi.Along -/
def F12 : AF := ⟨63, [(4, none), (5, none), (6, none)], (.seq (.ops [⟨none, false, (some 2), (.new (.s 0))⟩, ⟨none, false, (some 4), (.mov (.c .nils))⟩, ⟨none, false, (some 5), (.mov (.c (.int .i64 (0))))⟩, ⟨none, false, (some 6), (.mov (.c (.int .i64 (0))))⟩]) (.seq (.seq (.ops [⟨none, false, (some 15), (.ld true 2 (.s 2) none)⟩, ⟨none, false, (some 16), (.call (.c (.fn 18 [])) [(.s 15)])⟩, ⟨none, false, (some 7), (.mov (.s 16))⟩]) (.seq (.ops [⟨none, false, (some 17), (.mov (.s 7))⟩, ⟨none, false, (some 18), (.bin .neq (.s 17) (.c (.int .i64 (0))))⟩]) (.ite (.s 18) (.seq (.ops [⟨none, false, (some 19), (.mov (.s 7))⟩, ⟨none, false, (some 4), (.mov (.c .nils))⟩, ⟨none, false, (some 5), (.mov (.c (.int .i64 (0))))⟩, ⟨none, false, (some 6), (.mov (.s 19))⟩]) .ret) .skip))) (.seq (.seq (.ops [⟨none, false, (some 20), (.mov (.s 1))⟩, ⟨none, false, (some 21), (.len (.s 20))⟩, ⟨none, false, (some 22), (.fa 1 (.s 2))⟩, ⟨none, false, (some 23), (.ld false 1 (.s 22) none)⟩, ⟨none, false, (some 24), (.len (.s 23))⟩, ⟨none, false, (some 25), (.bin .neq (.s 21) (.s 24))⟩]) (.ite (.s 25) (.seq (.ops [⟨none, false, (some 4), (.mov (.c .nils))⟩, ⟨none, false, (some 5), (.mov (.c (.int .i64 (0))))⟩, ⟨none, false, (some 6), (.mov (.c (.int .i64 (3))))⟩]) .ret) .skip)) (.seq (.seq (.ops [⟨none, false, (some 26), (.fa 1 (.s 2))⟩, ⟨none, false, (some 27), (.ld false 1 (.s 26) none)⟩, ⟨none, false, (some 28), (.len (.s 27))⟩, ⟨none, false, (some 29), (.mov (.c (.int .i64 (0))))⟩]) (.blk 0 (.loop (.seq (.ops [⟨none, false, (some 30), (.bin .lss (.s 29) (.s 28))⟩]) (.seq (.ite (.s 30) .skip (.exit 0)) (.seq (.blk 1 (.seq (.ops [⟨none, false, (some 31), (.mov (.s 29))⟩, ⟨none, false, (some 32), (.ia 1 (.s 27) (.s 29))⟩, ⟨none, false, (some 33), (.ld false 1 (.s 32) none)⟩, ⟨none, false, (some 8), (.mov (.s 31))⟩, ⟨none, false, (some 9), (.mov (.s 33))⟩]) (.seq (.ops [⟨none, false, (some 34), (.mov (.s 9))⟩, ⟨none, false, (some 35), (.len (.s 34))⟩, ⟨none, false, (some 36), (.mov (.c (.int .i64 (0))))⟩]) (.blk 2 (.loop (.seq (.ops [⟨none, false, (some 37), (.bin .lss (.s 36) (.s 35))⟩]) (.seq (.ite (.s 37) .skip (.exit 2)) (.seq (.blk 3 (.seq (.ops [⟨none, false, (some 38), (.ia 3 (.s 34) (.s 36))⟩, ⟨none, false, (some 39), (.ld true 3 (.s 38) none)⟩, ⟨none, false, (some 11), (.zero [(.int .i64 (0)), (.int .i64 (0)), (.int .i64 (0))])⟩, ⟨none, false, none, (.st 3 (.s 11) (.s 39) [])⟩]) (.seq (.ops [⟨none, false, (some 40), (.fa 1 (.s 11))⟩, ⟨none, false, (some 42), (.mov (.s 1))⟩, ⟨none, false, (some 43), (.mov (.s 8))⟩, ⟨none, false, (some 44), (.ia 1 (.s 42) (.s 43))⟩, ⟨none, false, (some 41), (.ld false 1 (.s 40) none)⟩, ⟨none, false, (some 45), (.ld false 1 (.s 44) none)⟩, ⟨none, false, (some 46), (.len (.s 45))⟩, ⟨none, false, (some 47), (.bin .geq (.s 41) (.s 46))⟩]) (.ite (.s 47) (.seq (.ops [⟨none, false, (some 4), (.mov (.c .nils))⟩, ⟨none, false, (some 5), (.mov (.c (.int .i64 (0))))⟩, ⟨none, false, (some 6), (.mov (.c (.int .i64 (3))))⟩]) .ret) .skip)))) (.ops [⟨none, false, (some 48), (.bin .add (.s 36) (.c (.int .i64 (1))))⟩, ⟨none, false, (some 36), (.mov (.s 48))⟩]))))))))) (.ops [⟨none, false, (some 49), (.bin .add (.s 29) (.c (.int .i64 (1))))⟩, ⟨none, false, (some 29), (.mov (.s 49))⟩]))))))) (.seq (.seq (.ops [⟨none, false, (some 50), (.mov (.s 1))⟩, ⟨none, false, (some 51), (.call (.c (.fn 41 [])) [(.s 50)])⟩, ⟨none, false, (some 12), (.mov (.s 51))⟩]) (.seq (.ops [⟨none, false, (some 52), (.mov (.s 12))⟩, ⟨none, false, (some 53), (.bin .neq (.s 52) (.c (.int .i64 (0))))⟩]) (.ite (.s 53) (.seq (.ops [⟨none, false, (some 54), (.mov (.s 12))⟩, ⟨none, false, (some 4), (.mov (.c .nils))⟩, ⟨none, false, (some 5), (.mov (.c (.int .i64 (0))))⟩, ⟨none, false, (some 6), (.mov (.s 54))⟩]) .ret) .skip))) (.seq (.ops [⟨none, false, (some 56), (.ld true 2 (.s 2) none)⟩, ⟨none, false, (some 57), (.mov (.s 1))⟩, ⟨none, false, (some 58), (.call (.c (.fn 42 [])) [(.s 56), (.s 57)])⟩, ⟨none, false, (some 55), (.mov (.s 58))⟩, ⟨none, false, (some 59), (.ext (.s 55) 0)⟩, ⟨none, false, (some 60), (.ext (.s 55) 1)⟩, ⟨none, false, (some 13), (.mov (.s 59))⟩, ⟨none, false, (some 14), (.mov (.s 60))⟩]) (.seq (.ops [⟨none, false, (some 61), (.mov (.s 13))⟩, ⟨none, false, (some 62), (.mov (.s 14))⟩, ⟨none, false, (some 4), (.mov (.s 61))⟩, ⟨none, false, (some 5), (.mov (.s 62))⟩, ⟨none, false, (some 6), (.mov (.c (.int .i64 (0))))⟩]) .ret)))))))⟩
theorem cv12 : cvF Try.prog 12 = some F12 := by kernel_rfl


def OutC (costs : List (List Int)) : Prop := ∃ l ∈ costs, ∃ x ∈ l, x < 0 ∨ 2147483648 < x
open Classical in
noncomputable def pricedI (costs : List (List Int)) : Int := if OutC costs then 6 else 0
def BadL (es : List (List Ed)) (costs : List (List Int)) : Prop := ∃ i, ∃ h : i < es.length, ∃ e ∈ es[i], ((costs[i]?.getD []).length : Int) ≤ e.lb
open Classical in
noncomputable def alongI (ws : List Int) (es : List (List Ed)) (costs : List (List Int)) : Int :=
  if properI ws es ≠ 0 then properI ws es else if costs.length ≠ es.length then 3 else if BadL es costs then 3 else pricedI costs

theorem priced_spec {cv : V} {costs : List (List Int)} {H : Heap} (hc : SRows H cv costs) : ACalls Try.prog 41 [cv] H fun u H' => u = .int .i64 (pricedI costs) ∧ H' = H := by
  refine ACalls.of_body hm cv41 (by simp only [List.length_cons, List.length_nil]; decide) ?_
  have hlt := SLists.lt hc
  simp only [F41, go_sem, ↓reduceIte, Nat.reduceEqDiff, Nat.reduceAdd, reduceCtorEq, SLists.len hc]
  refine range_loop costs.length (fun k env H' => H = H' ∧ env 7 = cv ∧ env 8 = .int .i64 costs.length ∧ env 9 = .int .i64 k ∧ ∀ i, (h : i < costs.length) → i < k → ∀ x ∈ costs[i], ¬ (x < 0 ∨ 2147483648 < x)) (by omega) (by decide) (by decide) ?_ ?_ ?_ ?_
  · rintro k env H' ⟨_, _, h7, h8, _⟩; exact ⟨h8, h7⟩
  · simp only [go_sem, ↓reduceIte, Nat.reduceEqDiff, Nat.reduceAdd, reduceCtorEq]; simp
  · rintro k env H' hk ⟨rfl, h7, h8, h9, hz⟩
    obtain ⟨p, u, a1, a2, a3⟩ := SLists.get hc hk .i64
    have hl3 := a3.lt
    simp only [go_sem, ↓reduceIte, Nat.reduceEqDiff, Nat.reduceAdd, reduceCtorEq, h7, h8, h9, a1, a2, a3.len]
    refine range_loop costs[k].length (fun j env H' => H = H' ∧ env 7 = cv ∧ env 8 = .int .i64 costs.length ∧ env 9 = .int .i64 k ∧ env 13 = u ∧ env 14 = .int .i64 costs[k].length ∧ env 15 = .int .i64 j ∧ ∀ i, (h : i < costs[k].length) → i < j → ¬ (costs[k][i] < 0 ∨ 2147483648 < costs[k][i])) (by omega) (by decide) (by decide) ?_ ?_ ?_ ?_
    · rintro j env H' ⟨_, _, _, _, _, h7, h8, _⟩; exact ⟨h8, h7⟩
    · simp only [go_sem, ↓reduceIte, Nat.reduceEqDiff, Nat.reduceAdd, reduceCtorEq, h7, h8, h9]; simp
    · rintro j env H' hj ⟨rfl, h7, h8, h9, h13, h14, h15, hy⟩
      obtain ⟨q, b1, b2⟩ := a3.get hj .i64
      have six : (costs[k][j] < 0 ∨ 2147483648 < costs[k][j]) → finO (.int .i64 6) H fun u H' => u = .int .i64 (pricedI costs) ∧ H' = H := fun h => finO_self ⟨by rw [pricedI, if_pos ⟨_, List.getElem_mem hk, _, List.getElem_mem hj, h⟩], rfl⟩
      simp only [go_sem, ↓reduceIte, Nat.reduceEqDiff, Nat.reduceAdd, reduceCtorEq, h7, h8, h9, h13, h14, h15, b1, b2]
      by_cases d1 : costs[k][j] < 0
      · simp only [d1, go_sem, ↓reduceIte, Nat.reduceEqDiff, Nat.reduceAdd, reduceCtorEq]
        exact six (.inl d1)
      simp only [d1, go_sem, ↓reduceIte, Nat.reduceEqDiff, Nat.reduceAdd, reduceCtorEq]
      refine iteC_if (fun d2 => ?_) (fun d2 => ?_)
      · simp only [go_sem, ↓reduceIte, Nat.reduceEqDiff, Nat.reduceAdd, reduceCtorEq]
        exact six (.inr d2)
      simp only [go_sem, ↓reduceIte, Nat.reduceEqDiff, Nat.reduceAdd, reduceCtorEq, h7, h8, h9, h13, h14, h15]
      refine ⟨by trivial, by trivial, by trivial, by trivial, by trivial, by trivial, by trivial, by trivial, fun i h hi => ?_⟩
      rcases Nat.lt_succ_iff_lt_or_eq.1 hi with hi | rfl
      · exact hy i h hi
      · exact fun h => h.elim d1 d2
    · rintro env H' ⟨rfl, h7, h8, h9, h13, h14, h15, hy⟩
      simp only [go_sem, ↓reduceIte, Nat.reduceEqDiff, Nat.reduceAdd, reduceCtorEq, h7, h8, h9]
      refine ⟨by trivial, by trivial, by trivial, by trivial, by trivial, fun i h hi => ?_⟩
      rcases Nat.lt_succ_iff_lt_or_eq.1 hi with hi | rfl
      · exact hz i h hi
      · intro x hx
        obtain ⟨j, hj, rfl⟩ := List.getElem_of_mem hx
        exact hy j hj hj
  · rintro env H' ⟨rfl, h7, h8, h9, hz⟩
    simp only [go_sem, ↓reduceIte, Nat.reduceEqDiff, Nat.reduceAdd, reduceCtorEq]
    refine finO_self ⟨?_, rfl⟩
    rw [pricedI, if_neg]
    rintro ⟨l, hl, x, hx, h⟩
    obtain ⟨i, hi, rfl⟩ := List.getElem_of_mem hl
    exact hz i hi hi x hx h

/-- what Along answers -/
theorem Along_spec {sv ev cv : V} {ws : List Int} {es : List (List Ed)} {costs : List (List Int)} {H : Heap} (hs : SInts H sv ws) (he : SSecs H ev es) (hc : SRows H cv costs) :
    ACalls Try.prog 12 [.agg [sv, ev], cv] H fun u H' => Heap.sub H H' ∧ ((alongI ws es costs ≠ 0 ∧ u = .tup [.nils, .int .i64 0, .int .i64 (alongI ws es costs)]) ∨
      (alongI ws es costs = 0 ∧ ∃ m, u = .tup [.sl m 0 es.length true, .int .i64 (at2 (bTab ws es (at2 costs)) 0 0), .int .i64 0] ∧ H' m = some ⟨true, 1, ints (wordUpTo es (bTab ws es (at2 costs)) (at2 costs) es.length es.length)⟩)) := by
  refine ACalls.of_body hm cv12 (by simp only [List.length_cons, List.length_nil]; decide) ?_
  simp only [F12, go_sem, ↓reduceIte, Nat.reduceEqDiff, Nat.reduceAdd, reduceCtorEq]
  refine newC_intro fun n1 H1 hn1 hs1 hb1 => ?_
  simp only [ld_boxa hb1 (show 0 + 2 ≤ _ by simp), fillV, List.length_cons, List.length_nil, splice, Nat.reduceLeDiff, Nat.zero_lt_one, and_self, List.take_zero, List.take_succ_cons, List.drop_succ_cons, List.drop_zero, List.drop_nil, Nat.reduceLT, Nat.le_refl, go_sem, ↓reduceIte, Nat.reduceEqDiff, Nat.reduceAdd, reduceCtorEq]
  refine callC_pure (Proper_spec (hs.mono hs1) (SSecs.mono he hs1)) ?_
  simp only [go_sem, ↓reduceIte, Nat.reduceEqDiff, Nat.reduceAdd, reduceCtorEq]
  refine iteC_if (fun c0 => ?_) (fun c0 => ?_)
  · simp only [go_sem, ↓reduceIte, Nat.reduceEqDiff, Nat.reduceAdd, reduceCtorEq]
    have e : alongI ws es costs = properI ws es := by rw [alongI, if_pos c0]
    exact finO_self ⟨hs1, .inl ⟨by rw [e]; exact c0, by rw [e]⟩⟩
  have hp0 : properI ws es = 0 := by omega
  obtain ⟨h0, _, _, hgood⟩ := proper_of hp0
  have sh := shaped_of h0
  have hn := sh.n
  simp only [go_sem, ↓reduceIte, Nat.reduceEqDiff, Nat.reduceAdd, reduceCtorEq, ld_box hb1, SLists.len he, SLists.len hc]
  have three : (costs.length ≠ es.length ∨ BadL es costs) → ∀ H', Heap.sub H1 H' → finO (.tup [.nils, .int .i64 0, .int .i64 3]) H' fun u H' => Heap.sub H H' ∧ ((alongI ws es costs ≠ 0 ∧ u = .tup [.nils, .int .i64 0, .int .i64 (alongI ws es costs)]) ∨
      (alongI ws es costs = 0 ∧ ∃ m, u = .tup [.sl m 0 es.length true, .int .i64 (at2 (bTab ws es (at2 costs)) 0 0), .int .i64 0] ∧ H' m = some ⟨true, 1, ints (wordUpTo es (bTab ws es (at2 costs)) (at2 costs) es.length es.length)⟩)) := by
    intro h H' hs'
    have e : alongI ws es costs = 3 := by
      rw [alongI, if_neg (by omega)]
      by_cases hh : costs.length ≠ es.length
      · rw [if_pos hh]
      · rw [if_neg hh, if_pos (h.resolve_left hh)]
    exact finO_self ⟨hs1.trans' hs', .inl ⟨by rw [e]; decide, by rw [e]⟩⟩
  refine iteC_if (fun c1 => ?_) (fun c1 => ?_)
  · simp only [go_sem, ↓reduceIte, Nat.reduceEqDiff, Nat.reduceAdd, reduceCtorEq]
    exact three (.inl (by omega)) _ Heap.sub.rfl'
  have hl : costs.length = es.length := by omega
  simp only [go_sem, ↓reduceIte, Nat.reduceEqDiff, Nat.reduceAdd, reduceCtorEq, ld_box hb1, SLists.len he]
  refine range_loop es.length (fun k env H' => env 2 = .ptr n1 0 ∧ env 1 = cv ∧ env 27 = ev ∧ env 28 = .int .i64 es.length ∧ env 29 = .int .i64 k ∧ Heap.sub H1 H' ∧ ∀ i, (h : i < es.length) → i < k → ∀ e ∈ es[i], e.lb < (costs[i]'(by omega)).length) (by omega) (by decide) (by decide) ?_ ?_ ?_ ?_
  · rintro k env H' ⟨_, _, _, h7, h8, _⟩; exact ⟨h8, h7⟩
  · simp only [go_sem, ↓reduceIte, Nat.reduceEqDiff, Nat.reduceAdd, reduceCtorEq]; simp; exact Heap.sub.rfl'
  · rintro k env H2 hk ⟨h2, h1, h27, h28, h29, hs2, hz⟩
    obtain ⟨p, ue, a1, a2, a3⟩ := (SSecs.mono he hs1).get hk .i64
    obtain ⟨pc, uc, b1, b2, b3⟩ := (SRows.mono hc hs1).get (k := k) (by omega) .i64
    have hlk := sh.each k hk
    simp only [go_sem, ↓reduceIte, Nat.reduceEqDiff, Nat.reduceAdd, reduceCtorEq, h2, h1, h27, h28, h29, a1, ld_mono hs2 a2, a3.len]
    refine range_loop es[k].length (fun j env H' => env 2 = .ptr n1 0 ∧ env 1 = cv ∧ env 27 = ev ∧ env 28 = .int .i64 es.length ∧ env 29 = .int .i64 k ∧ env 8 = .int .i64 k ∧ env 34 = ue ∧ env 35 = .int .i64 es[k].length ∧ env 36 = .int .i64 j ∧ Heap.sub H1 H' ∧ ∀ i, (h : i < es[k].length) → i < j → es[k][i].lb < (costs[k]'(by omega)).length) (by omega) (by decide) (by decide) ?_ ?_ ?_ ?_
    · rintro j env H' ⟨_, _, _, _, _, _, _, h7, h8, _⟩; exact ⟨h8, h7⟩
    · simp only [go_sem, ↓reduceIte, Nat.reduceEqDiff, Nat.reduceAdd, reduceCtorEq, h2, h1, h27, h28, h29]; simp [hs2]
    · rintro j env H3 hj ⟨h2, h1, h27, h28, h29, h8, h34, h35, h36, hs3, hy⟩
      obtain ⟨p, q0, q1, q2, c1, c2, _⟩ := (a3.mono hs3).get hj .i64
      simp only [go_sem, ↓reduceIte, Nat.reduceEqDiff, Nat.reduceAdd, reduceCtorEq, h2, h1, h27, h28, h29, h8, h34, h35, h36, c1, c2]
      refine newC_intro fun n4 H4 hn4 hs4 hb4 => ?_
      simp only [go_sem, ↓reduceIte, Nat.reduceEqDiff, Nat.reduceAdd, reduceCtorEq]
      refine stC_intro hb4 trivial rfl (by decide) (by decide) fun H5 hb5 hf5 hs5 => ?_
      simp only [Ed.cells, fillV, List.length_cons, List.length_nil, splice, Nat.reduceLeDiff, Nat.zero_lt_one, and_self, List.take_zero, List.take_succ_cons, List.drop_succ_cons, List.drop_zero, List.drop_nil, Nat.reduceLT, Nat.le_refl, go_sem, ↓reduceIte, Nat.reduceEqDiff, Nat.reduceAdd, reduceCtorEq] at hb5
      have hs35 : Heap.sub H3 H5 := hs5 H3 hs4 hn4
      have hs15 := hs3.trans' hs35
      simp only [go_sem, ↓reduceIte, Nat.reduceEqDiff, Nat.reduceAdd, reduceCtorEq, h2, h1, h27, h28, h29, h8, h34, h35, h36, ld_box hb5, b1, ld_mono hs15 b2, b3.len]
      refine iteC_if (fun d => ?_) (fun d => ?_)
      · simp only [go_sem, ↓reduceIte, Nat.reduceEqDiff, Nat.reduceAdd, reduceCtorEq]
        refine three (.inr ⟨k, hk, _, List.getElem_mem hj, ?_⟩) _ hs15
        simp only [show k < costs.length by omega, List.getElem?_eq_getElem, Option.getD_some]; exact d
      simp only [go_sem, ↓reduceIte, Nat.reduceEqDiff, Nat.reduceAdd, reduceCtorEq, h2, h1, h27, h28, h29, h8, h34, h35, h36]
      refine ⟨by trivial, by trivial, by trivial, by trivial, by trivial, by trivial, by trivial, by trivial, by trivial, by trivial, hs15, fun i h hi => ?_⟩
      rcases Nat.lt_succ_iff_lt_or_eq.1 hi with hi | rfl
      · exact hy i h hi
      · omega
    · rintro env H' ⟨h2, h1, h27, h28, h29, h8, h34, h35, h36, hs3, hy⟩
      simp only [go_sem, ↓reduceIte, Nat.reduceEqDiff, Nat.reduceAdd, reduceCtorEq, h2, h1, h27, h28, h29]
      refine ⟨by trivial, by trivial, by trivial, by trivial, by trivial, by trivial, hs3, fun i h hi => ?_⟩
      rcases Nat.lt_succ_iff_lt_or_eq.1 hi with hi | rfl
      · exact hz i h hi
      · intro e he'
        obtain ⟨j, hj, rfl⟩ := List.getElem_of_mem he'
        exact hy j hj hj
  rintro env H2 ⟨h2, h1, h27, h28, h29, hs2, hz⟩
  have nb : ¬ BadL es costs := by
    rintro ⟨i, hi, e, he', hb⟩
    have := hz i hi hi e he'
    simp only [show i < costs.length by omega, List.getElem?_eq_getElem, Option.getD_some] at hb
    omega
  have e : alongI ws es costs = pricedI costs := by rw [alongI, if_neg (by omega), if_neg (by omega), if_neg nb]
  have hs02 := hs1.trans' hs2
  simp only [go_sem, ↓reduceIte, Nat.reduceEqDiff, Nat.reduceAdd, reduceCtorEq, h2, h1]
  refine callC_pure (priced_spec (SRows.mono hc hs02)) ?_
  simp only [go_sem, ↓reduceIte, Nat.reduceEqDiff, Nat.reduceAdd, reduceCtorEq]
  refine iteC_if (fun d => ?_) (fun d => ?_)
  · simp only [go_sem, ↓reduceIte, Nat.reduceEqDiff, Nat.reduceAdd, reduceCtorEq]
    exact finO_self ⟨hs02, .inl ⟨by rw [e]; exact d, by rw [e]⟩⟩
  have hpr : pricedI costs = 0 := by omega
  have hnout : ¬ OutC costs := by
    intro ho; rw [pricedI, if_pos ho] at hpr; omega
  simp only [go_sem, ↓reduceIte, Nat.reduceEqDiff, Nat.reduceAdd, reduceCtorEq, h2, h1, ld_boxa (hs2 _ _ hb1) (show 0 + 2 ≤ _ by simp), fillV, List.length_cons, List.length_nil, splice, Nat.reduceLeDiff, Nat.zero_lt_one, and_self, List.take_zero, List.take_succ_cons, List.drop_succ_cons, List.drop_zero, List.drop_nil, Nat.reduceLT, Nat.le_refl]
  refine callC_grow (along_spec (hs.mono hs02) (SSecs.mono he hs02) h0 (SRows.mono hc hs02) hl (fun i h e' he' => ⟨((hgood i h).lab e' he').1, hz i h h e' he'⟩) fun l hl x hx => ?_) ?_
  · have : ¬ (x < 0 ∨ 2147483648 < x) := fun h => hnout ⟨l, hl, x, hx, h⟩
    omega
  rintro u H3 hs3 ⟨m, rfl, hbm⟩
  simp only [go_sem, ↓reduceIte, Nat.reduceEqDiff, Nat.reduceAdd, reduceCtorEq]
  exact finO_self ⟨hs02.trans' hs3, .inr ⟨by rw [e]; exact hpr, m, rfl, hbm⟩⟩
end Go.AM
