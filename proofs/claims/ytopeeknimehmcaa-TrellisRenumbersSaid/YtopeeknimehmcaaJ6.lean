/- slices.insertionSortCmpFunc, reverseRangeCmpFunc. Conditions: as stated. -/
import Derived.Test.YtopeeknimehmcaaJ5
set_option linter.unusedVariables false
set_option linter.unusedSimpArgs false
namespace Go.AM
open Go Go.Proofs
attribute [local go_sem] c_skip c_ops c_seq c_ite c_blk c_exit c_ret t_normal t_exit t_ret b_normal b_exit b_ret i_nil i_cons s_guard s_mov s_pick s_new s_zero s_ld s_ldr s_st s_bin s_beq s_isnil s_eqs s_un s_conv s_fa s_fld s_ia s_sli s_ext s_ifc s_mkf s_agg s_len s_mm s_nilchk s_bsl s_mk s_app s_cpy s_call s_inv cells_agg cells_int cells_bool p_get p_none o_s o_c e_0 e_1 e_2 e_3 e_4 iteC_true iteC_false grd_tt grd_tf grd_ft grd_ff grd_und bindV_some pickV_t pickV_f beq_bool conv_int un_not not_dec mm_min mm_max bv_add bv_sub bv_mul bv_eql bv_neq bv_lss bv_leq bv_gtr bv_geq f_normal f_one f_two f_three f_none fa_ptr fld_one ext_tup len_sl len_nils decide_true decide_false not_true_eq_false not_false_eq_true List.map_cons List.map_nil List.append_nil List.cons_append List.nil_append Nat.zero_add Nat.add_zero Nat.mul_one Nat.succ_ne_self if_true if_false List.getElem?_cons_zero List.getElem?_cons_succ

/-- slices.insertionSortCmpFunc[int], of elements of any size -/
def insC (k : Nat) (ag : Bool) : AF := ⟨53, [], (.seq (.ops [⟨none, false, (some 10), (.mov (.s 1))⟩, ⟨none, false, (some 11), (.bin .add (.s 10) (.c (.int .i64 (1))))⟩, ⟨none, false, (some 8), (.mov (.s 11))⟩]) (.blk 0 (.loop (.seq (.seq (.ops [⟨none, false, (some 12), (.mov (.s 8))⟩, ⟨none, false, (some 13), (.mov (.s 2))⟩, ⟨none, false, (some 14), (.bin .lss (.s 12) (.s 13))⟩]) (.ite (.s 14) .skip (.exit 0))) (.seq (.blk 1 (.seq (.ops [⟨none, false, (some 17), (.mov (.s 8))⟩, ⟨none, false, (some 9), (.mov (.s 17))⟩]) (.blk 2 (.loop (.seq (.seq (.ops [⟨none, false, (some 18), (.mov (.s 9))⟩, ⟨none, false, (some 19), (.mov (.s 1))⟩, ⟨none, false, (some 20), (.bin .gtr (.s 18) (.s 19))⟩, ⟨none, false, (some 21), (.mov (.s 20))⟩, ⟨(some (21, true)), false, (some 22), (.mov (.s 3))⟩, ⟨(some (21, true)), false, (some 23), (.mov (.s 0))⟩, ⟨(some (21, true)), false, (some 24), (.mov (.s 9))⟩, ⟨(some (21, true)), false, (some 25), (.ia k (.s 23) (.s 24))⟩, ⟨(some (21, true)), false, (some 27), (.mov (.s 0))⟩, ⟨(some (21, true)), false, (some 28), (.mov (.s 9))⟩, ⟨(some (21, true)), false, (some 29), (.bin .sub (.s 28) (.c (.int .i64 (1))))⟩, ⟨(some (21, true)), false, (some 30), (.ia k (.s 27) (.s 29))⟩, ⟨(some (21, true)), false, (some 26), (.ld ag k (.s 25) none)⟩, ⟨(some (21, true)), false, (some 31), (.ld ag k (.s 30) none)⟩, ⟨(some (21, true)), false, (some 32), (.call (.s 22) [(.s 26), (.s 31)])⟩, ⟨(some (21, true)), false, (some 33), (.bin .lss (.s 32) (.c (.int .i64 (0))))⟩, ⟨none, false, (some 34), (.pick (.s 21) (.s 33) (.c (.bool false)))⟩]) (.ite (.s 34) .skip (.exit 2))) (.seq (.blk 3 (.ops [⟨none, false, (some 37), (.mov (.s 0))⟩, ⟨none, false, (some 38), (.mov (.s 9))⟩, ⟨none, false, (some 39), (.mov (.s 0))⟩, ⟨none, false, (some 40), (.mov (.s 9))⟩, ⟨none, false, (some 41), (.bin .sub (.s 40) (.c (.int .i64 (1))))⟩, ⟨none, false, (some 42), (.mov (.s 0))⟩, ⟨none, false, (some 43), (.mov (.s 9))⟩, ⟨none, false, (some 44), (.bin .sub (.s 43) (.c (.int .i64 (1))))⟩, ⟨none, false, (some 45), (.ia k (.s 42) (.s 44))⟩, ⟨none, false, (some 47), (.mov (.s 0))⟩, ⟨none, false, (some 48), (.mov (.s 9))⟩, ⟨none, false, (some 49), (.ia k (.s 47) (.s 48))⟩, ⟨none, false, (some 46), (.ld ag k (.s 45) none)⟩, ⟨none, false, (some 50), (.ld ag k (.s 49) none)⟩, ⟨none, false, (some 51), (.ia k (.s 37) (.s 38))⟩, ⟨none, false, none, (.st k (.s 51) (.s 46) [])⟩, ⟨none, false, (some 52), (.ia k (.s 39) (.s 41))⟩, ⟨none, false, none, (.st k (.s 52) (.s 50) [])⟩])) (.ops [⟨none, false, (some 35), (.mov (.s 9))⟩, ⟨none, false, (some 36), (.bin .sub (.s 35) (.c (.int .i64 (1))))⟩, ⟨none, false, (some 9), (.mov (.s 36))⟩]))))))) (.ops [⟨none, false, (some 15), (.mov (.s 8))⟩, ⟨none, false, (some 16), (.bin .add (.s 15) (.c (.int .i64 (1))))⟩, ⟨none, false, (some 8), (.mov (.s 16))⟩]))))))⟩
/-- slices.reverseRangeCmpFunc[int], of elements of any size -/
def rrC (k : Nat) (ag : Bool) : AF := ⟨34, [], (.seq (.ops [⟨none, false, (some 10), (.mov (.s 1))⟩, ⟨none, false, (some 8), (.mov (.s 10))⟩]) (.seq (.ops [⟨none, false, (some 11), (.mov (.s 2))⟩, ⟨none, false, (some 12), (.bin .sub (.s 11) (.c (.int .i64 (1))))⟩, ⟨none, false, (some 9), (.mov (.s 12))⟩]) (.blk 0 (.loop (.seq (.seq (.ops [⟨none, false, (some 13), (.mov (.s 8))⟩, ⟨none, false, (some 14), (.mov (.s 9))⟩, ⟨none, false, (some 15), (.bin .lss (.s 13) (.s 14))⟩]) (.ite (.s 15) .skip (.exit 0))) (.blk 1 (.seq (.ops [⟨none, false, (some 16), (.mov (.s 0))⟩, ⟨none, false, (some 17), (.mov (.s 8))⟩, ⟨none, false, (some 18), (.mov (.s 0))⟩, ⟨none, false, (some 19), (.mov (.s 9))⟩, ⟨none, false, (some 20), (.mov (.s 0))⟩, ⟨none, false, (some 21), (.mov (.s 9))⟩, ⟨none, false, (some 22), (.ia k (.s 20) (.s 21))⟩, ⟨none, false, (some 24), (.mov (.s 0))⟩, ⟨none, false, (some 25), (.mov (.s 8))⟩, ⟨none, false, (some 26), (.ia k (.s 24) (.s 25))⟩, ⟨none, false, (some 23), (.ld ag k (.s 22) none)⟩, ⟨none, false, (some 27), (.ld ag k (.s 26) none)⟩, ⟨none, false, (some 28), (.ia k (.s 16) (.s 17))⟩, ⟨none, false, none, (.st k (.s 28) (.s 23) [])⟩, ⟨none, false, (some 29), (.ia k (.s 18) (.s 19))⟩, ⟨none, false, none, (.st k (.s 29) (.s 27) [])⟩]) (.seq (.ops [⟨none, false, (some 30), (.mov (.s 8))⟩, ⟨none, false, (some 31), (.bin .add (.s 30) (.c (.int .i64 (1))))⟩, ⟨none, false, (some 8), (.mov (.s 31))⟩]) (.ops [⟨none, false, (some 32), (.mov (.s 9))⟩, ⟨none, false, (some 33), (.bin .sub (.s 32) (.c (.int .i64 (1))))⟩, ⟨none, false, (some 9), (.mov (.s 33))⟩])))))))))⟩

section
variable {α : Type} {k : Nat} {ag : Bool} {E : Elem α k ag} {H : Heap}
theorem reverse_spec {f N n a b : Nat} {fl : Bool} {xs : List α} {cv : V} (hcv : cvF Try.prog f = some (rrC k ag)) (hn : xs.length = n) (hn2 : n ≤ 1099511627776) (hab : a < b) (hb : b ≤ n) :
    ACalls Try.prog f [.sl N 0 n fl, .int .i64 a, .int .i64 b, cv] (E.put H N xs) fun u H' => ∃ ys, H' = E.put H N ys ∧ PermIn a b xs ys := by
  refine ACalls.of_body hm hcv (by simp [rrC]) ?_
  simp only [rrC, go_sem, ↓reduceIte, Nat.reduceEqDiff, Nat.reduceAdd, reduceCtorEq]
  rw [wrapI (by omega) (by omega)]
  refine loop_count (b - a) (fun t env H' => env 0 = .sl N 0 n fl ∧ env 8 = .int .i64 ((a + t : Nat) : Int) ∧ env 9 = .int .i64 ((b : Int) - 1 - t) ∧ (t : Int) ≤ b - a ∧ ∃ ys, H' = E.put H N ys ∧ PermIn a b xs ys) ?_ ?_ ?_
  · simp only [go_sem, ↓reduceIte, Nat.reduceEqDiff, Nat.reduceAdd, reduceCtorEq]
    exact ⟨by trivial, by first | rfl | trivial, by simp, by omega, xs, rfl, .refl _⟩
  · rintro t env H' ht ⟨h0, h8, h9, hle, ys, rfl, hp⟩
    have hl := hp.length
    simp only [go_sem, ↓reduceIte, Nat.reduceEqDiff, Nat.reduceAdd, reduceCtorEq, h0, h8, h9]
    refine iteC_if (fun c => ?_) (fun c => ?_)
    · obtain ⟨j, hj⟩ : ∃ j : Nat, (b : Int) - 1 - t = j := ⟨((b : Int) - 1 - t).toNat, by omega⟩
      rw [hj] at h9
      have hr1 := E.read (E.put_at H N ys) (i := a + t) (by omega)
      have hr2 := E.read (E.put_at H N ys) (i := j) (by omega)
      simp only [go_sem, ↓reduceIte, Nat.reduceEqDiff, Nat.reduceAdd, reduceCtorEq, h0, h8, h9, ia_el (show a + t < n by omega), ia_el (show j < n by omega), hr1, hr2]
      refine E.st (i := a + t) (xs := ys) (by omega) ?_
      simp only [go_sem, ↓reduceIte, Nat.reduceEqDiff, Nat.reduceAdd, reduceCtorEq, ia_el (show j < n by omega)]
      refine E.st (i := j) (xs := ys.set (a + t) ys[j]) (by rw [List.length_set]; omega) ?_
      simp only [go_sem, ↓reduceIte, Nat.reduceEqDiff, Nat.reduceAdd, reduceCtorEq, h0, h8, h9]
      rw [wrapN1 (by omega), wrapI (by omega) (by omega), show (ys.set (a + t) ys[j]).set j ys[a + t] = swapL ys (a+t) j from (swapL_eq (by omega) (by omega)).symm]
      refine ⟨by trivial, by first | rfl | trivial, congrArg (V.int .i64) (by omega), by omega, _, rfl, hp.trans (.one _ _ (by omega) (by omega) (by omega) (by omega) (by omega) (by omega))⟩
    · simp only [go_sem, ↓reduceIte, Nat.reduceEqDiff, Nat.reduceAdd, reduceCtorEq]
      exact finO_self ⟨ys, rfl, hp⟩
  · rintro env H' ⟨h0, h8, h9, hle, ys, rfl, hp⟩
    have c : ¬ ((a + (b - a) : Nat) : Int) < (b : Int) - 1 - ((b - a : Nat) : Int) := by omega
    simp only [go_sem, ↓reduceIte, Nat.reduceEqDiff, Nat.reduceAdd, reduceCtorEq, h0, h8, h9, c]
    exact finO_self ⟨ys, rfl, hp⟩
end

section
variable {α : Type} [Inhabited α] {k : Nat} {ag : Bool} {E : Elem α k ag} {G H : Heap} {g : FuncId} {caps : List V} {cf : α → α → Int} {Pr : α → Prop}

theorem insertion_spec {f N n a b : Nat} {fl : Bool} {xs : List α} (C : Cmp E G g caps cf Pr) (hcv : cvF Try.prog f = some (insC k ag)) (hG : Heap.sub G H) (hN : G N = none) (hP : ∀ x ∈ xs, Pr x) (hn : xs.length = n) (hn2 : n ≤ 1099511627776) (hab : a ≤ b) (hb : b ≤ n) :
    ACalls Try.prog f [.sl N 0 n fl, .int .i64 a, .int .i64 b, .fn g caps] (E.put H N xs) fun u H' => ∃ ys, H' = E.put H N ys ∧ PermIn a b xs ys ∧ SortedAB cf a b ys := by
  refine ACalls.of_body hm hcv (by simp [insC]) ?_
  simp only [insC, go_sem, ↓reduceIte, Nat.reduceEqDiff, Nat.reduceAdd, reduceCtorEq]
  rw [wrapN1 (by omega)]
  refine loop_count (b - (a + 1)) (fun m env H' => env 0 = .sl N 0 n fl ∧ env 1 = .int .i64 a ∧ env 2 = .int .i64 b ∧ env 3 = .fn g caps ∧ env 8 = .int .i64 ((a + 1 + m : Nat) : Int) ∧ ∃ ys, H' = E.put H N ys ∧ PermIn a b xs ys ∧ SortedAB cf a (a + 1 + m) ys) ?_ ?_ ?_
  · simp only [go_sem, ↓reduceIte, Nat.reduceEqDiff, Nat.reduceAdd, reduceCtorEq]
    exact ⟨by trivial, by trivial, by trivial, by trivial, by trivial, xs, rfl, .refl _, fun i j h1 h2 h3 => by omega⟩
  · rintro m env H' hm' ⟨h0, h1, h2, h3, h8, ys, rfl, hp, hs⟩
    obtain ⟨i, hi⟩ : ∃ i, i = a + 1 + m := ⟨_, rfl⟩
    rw [← hi] at h8 hs
    have hib : i < b := by omega
    have hlt : (i : Int) < b := by omega
    simp only [go_sem, ↓reduceIte, Nat.reduceEqDiff, Nat.reduceAdd, reduceCtorEq, h0, h1, h2, h3, h8, hlt]
    have fin : ∀ ys (j : Nat), (∀ p q, a ≤ p → p < q → q < i + 1 → q ≠ j → ¬ cf (el ys q) (el ys p) < 0) → a ≤ j → j ≤ i → (j = a ∨ ¬ cf (el ys j) (el ys (j-1)) < 0) → SortedAB cf a (i+1) ys := by
      intro ys j h ja ji hj p q ap pq qi
      by_cases e : q = j
      · subst e
        rcases hj with rfl | hj
        · omega
        · by_cases e2 : p = q - 1
          · rw [e2]; exact hj
          · exact C.swo.ntrans hj (h p (q-1) ap (by omega) (by omega) (by omega))
      · exact h p q ap pq qi e
    refine loop_count (i - a) (fun t env H' => env 0 = .sl N 0 n fl ∧ env 1 = .int .i64 a ∧ env 2 = .int .i64 b ∧ env 3 = .fn g caps ∧ env 8 = .int .i64 i ∧ env 9 = .int .i64 ((i - t : Nat) : Int) ∧ ∃ ys, H' = E.put H N ys ∧ PermIn a b xs ys ∧ ∀ p q, a ≤ p → p < q → q < i + 1 → q ≠ i - t → ¬ cf (el ys q) (el ys p) < 0) ?_ ?_ ?_
    · simp only [go_sem, ↓reduceIte, Nat.reduceEqDiff, Nat.reduceAdd, reduceCtorEq, h0, h1, h2, h3, h8]
      exact ⟨by trivial, by trivial, by trivial, by trivial, by trivial, rfl, ys, rfl, hp, fun p q h1 h2 h3 h4 => hs p q h1 h2 (by omega)⟩
    · rintro t env H' ht ⟨h0, h1, h2, h3, h8, h9, ys, rfl, hp, hs⟩
      obtain ⟨j, hj⟩ : ∃ j, i - t = j + 1 := ⟨i - t - 1, by omega⟩
      rw [hj] at h9 hs
      have hpos : (a : Int) < ((j + 1 : Nat) : Int) := by omega
      have hl := hp.length
      have hw : IntKind.i64.wrap (((j + 1 : Nat) : Int) - 1) = (j : Int) := by rw [wrapI (by omega) (by omega)]; omega
      have hr1 := E.read (E.put_at H N ys) (i := j + 1) (by omega)
      have hr2 := E.read (E.put_at H N ys) (i := j) (by omega)
      simp only [go_sem, ↓reduceIte, Nat.reduceEqDiff, Nat.reduceAdd, reduceCtorEq, h0, h1, h2, h3, h8, h9, hpos, hw, ia_el (show j + 1 < n by omega), ia_el (show j < n by omega), hr1, hr2]
      refine callC_pure (C.at (hp.pr hP) (E.put_sub ys hG hN) (i := j + 1) (j := j) (by omega) (by omega)) ?_
      simp only [go_sem, ↓reduceIte, Nat.reduceEqDiff, Nat.reduceAdd, reduceCtorEq]
      refine iteC_if (fun c => ?_) (fun c => ?_)
      · simp only [go_sem, ↓reduceIte, Nat.reduceEqDiff, Nat.reduceAdd, reduceCtorEq, h0, h1, h2, h3, h8, h9, hw, ia_el (show j + 1 < n by omega), ia_el (show j < n by omega), hr1, hr2]
        refine E.st (i := j + 1) (xs := ys) (by omega) ?_
        simp only [go_sem, ↓reduceIte, Nat.reduceEqDiff, Nat.reduceAdd, reduceCtorEq, ia_el (show j < n by omega)]
        refine E.st (i := j) (xs := ys.set (j + 1) ys[j]) (by rw [List.length_set]; omega) ?_
        simp only [go_sem, ↓reduceIte, Nat.reduceEqDiff, Nat.reduceAdd, reduceCtorEq, h0, h1, h2, h3, h8, h9, hw]
        have e : i - (t + 1) = j := by omega
        rw [e]
        rw [show (ys.set (j + 1) ys[j]).set j ys[j + 1] = swapL ys (j+1) j from (swapL_eq (by omega) (by omega)).symm]
        refine ⟨by trivial, by trivial, by trivial, by trivial, by trivial, by first | rfl | trivial, _, rfl, hp.trans (.one _ _ (by omega) (by omega) (by omega) (by omega) (by omega) (by omega)), fun p q ap pq qi qj => ?_⟩
        rw [el_swap (by omega) (by omega), el_swap (by omega) (by omega)]
        by_cases q1 : q = j + 1
        · subst q1
          rw [if_neg (by omega), if_pos rfl]
          by_cases p1 : p = j
          · rw [if_pos p1]; exact C.swo.asym c
          · rw [if_neg p1, if_neg (by omega)]
            exact hs p j ap (by omega) (by omega) (by omega)
        · rw [if_neg qj, if_neg q1]
          by_cases p1 : p = j
          · rw [if_pos p1]; exact hs (j+1) q (by omega) (by omega) qi (by omega)
          · rw [if_neg p1]
            by_cases p2 : p = j + 1
            · rw [if_pos p2]; exact hs j q (by omega) (by omega) qi (by omega)
            · rw [if_neg p2]; exact hs p q ap pq qi (by omega)
      · simp only [go_sem, ↓reduceIte, Nat.reduceEqDiff, Nat.reduceAdd, reduceCtorEq, h0, h1, h2, h3, h8, h9]
        rw [wrapN1 (by omega)]
        have e : a + 1 + (m + 1) = i + 1 := by omega
        rw [e]
        exact ⟨by trivial, by trivial, by trivial, by trivial, by first | rfl | trivial, ys, rfl, hp, fin ys (j+1) hs (by omega) (by omega) (.inr c)⟩
    · rintro env H' ⟨h0, h1, h2, h3, h8, h9, ys, rfl, hp, hs⟩
      have hj : i - (i - a) = a := by omega
      rw [hj] at h9 hs
      simp only [go_sem, ↓reduceIte, Nat.reduceEqDiff, Nat.reduceAdd, reduceCtorEq, h0, h1, h2, h3, h8, h9, Int.lt_irrefl]
      rw [wrapN1 (by omega)]
      have e : a + 1 + (m + 1) = i + 1 := by omega
      rw [e]
      exact ⟨by trivial, by trivial, by trivial, by trivial, by first | rfl | trivial, ys, rfl, hp, fin ys a hs (by omega) (by omega) (.inl rfl)⟩
  · rintro env H' ⟨h0, h1, h2, h3, h8, ys, rfl, hp, hs⟩
    have hlt : ¬ ((a + 1 + (b - (a + 1)) : Nat) : Int) < b := by omega
    simp only [go_sem, ↓reduceIte, Nat.reduceEqDiff, Nat.reduceAdd, reduceCtorEq, h0, h1, h2, h3, h8, hlt]
    exact finO_self ⟨ys, rfl, hp, fun i j h1 h2 h3 => hs i j h1 h2 (by omega)⟩

end
end Go.AM

/- semiring.Shape. Conditions: none. -/
set_option linter.unusedVariables false
set_option linter.unusedSimpArgs false
namespace Go.AM
open Go Go.Proofs
attribute [local go_sem] c_skip c_ops c_seq c_ite c_blk c_exit c_ret t_normal t_exit t_ret b_normal b_exit b_ret i_nil i_cons s_guard s_mov s_pick s_new s_zero s_ld s_ldr s_st s_bin s_beq s_isnil s_eqs s_un s_conv s_fa s_fld s_ia s_sli s_ext s_ifc s_mkf s_agg s_len s_mm s_nilchk s_bsl s_mk s_app s_cpy s_call s_inv cells_agg cells_int cells_bool p_get p_none o_s o_c e_0 e_1 e_2 e_3 e_4 iteC_true iteC_false grd_tt grd_tf grd_ft grd_ff grd_und bindV_some pickV_t pickV_f beq_bool conv_int un_not not_dec mm_min mm_max bv_add bv_sub bv_mul bv_eql bv_neq bv_lss bv_leq bv_gtr bv_geq f_normal f_one f_two f_three f_none fa_ptr fld_one ext_tup len_sl len_nils decide_true decide_false not_true_eq_false not_false_eq_true List.map_cons List.map_nil List.append_nil List.cons_append List.nil_append Nat.zero_add Nat.add_zero Nat.mul_one Nat.succ_ne_self if_true if_false List.getElem?_cons_zero List.getElem?_cons_succ

/-- semiring.Shape -/
def F47 : AF := ⟨113, [(2, none)], (.seq (.ops [⟨none, false, (some 1), (.new (.s 0))⟩, ⟨none, false, (some 2), (.mov (.c (.int .i64 (0))))⟩]) (.seq (.seq (.ops [⟨none, false, (some 15), (.fa 1 (.s 1))⟩, ⟨none, false, (some 16), (.ld false 1 (.s 15) none)⟩, ⟨none, false, (some 17), (.len (.s 16))⟩, ⟨none, false, (some 18), (.bin .gtr (.s 17) (.c (.int .i64 (64))))⟩, ⟨none, false, (some 19), (.mov (.s 18))⟩, ⟨(some (19, false)), false, (some 20), (.fa 0 (.s 1))⟩, ⟨(some (19, false)), false, (some 21), (.ld false 1 (.s 20) none)⟩, ⟨(some (19, false)), false, (some 22), (.len (.s 21))⟩, ⟨(some (19, false)), false, (some 23), (.fa 1 (.s 1))⟩, ⟨(some (19, false)), false, (some 24), (.ld false 1 (.s 23) none)⟩, ⟨(some (19, false)), false, (some 25), (.len (.s 24))⟩, ⟨(some (19, false)), false, (some 26), (.bin .add (.s 25) (.c (.int .i64 (1))))⟩, ⟨(some (19, false)), false, (some 27), (.bin .neq (.s 22) (.s 26))⟩, ⟨none, false, (some 28), (.pick (.s 19) (.c (.bool true)) (.s 27))⟩]) (.ite (.s 28) (.seq (.ops [⟨none, false, (some 2), (.mov (.c (.int .i64 (3))))⟩]) .ret) .skip)) (.seq (.seq (.ops [⟨none, false, (some 29), (.fa 0 (.s 1))⟩, ⟨none, false, (some 30), (.ld false 1 (.s 29) none)⟩, ⟨none, false, (some 31), (.len (.s 30))⟩, ⟨none, false, (some 32), (.mov (.c (.int .i64 (0))))⟩]) (.blk 0 (.loop (.seq (.ops [⟨none, false, (some 33), (.bin .lss (.s 32) (.s 31))⟩]) (.seq (.ite (.s 33) .skip (.exit 0)) (.seq (.blk 1 (.seq (.ops [⟨none, false, (some 34), (.ia 1 (.s 30) (.s 32))⟩, ⟨none, false, (some 35), (.ld false 1 (.s 34) none)⟩, ⟨none, false, (some 4), (.mov (.s 35))⟩]) (.seq (.ops [⟨none, false, (some 36), (.mov (.s 4))⟩, ⟨none, false, (some 37), (.bin .lss (.s 36) (.c (.int .i64 (1))))⟩]) (.ite (.s 37) (.seq (.ops [⟨none, false, (some 2), (.mov (.c (.int .i64 (6))))⟩]) .ret) .skip)))) (.ops [⟨none, false, (some 38), (.bin .add (.s 32) (.c (.int .i64 (1))))⟩, ⟨none, false, (some 32), (.mov (.s 38))⟩]))))))) (.seq (.ops [⟨none, false, (some 5), (.mov (.c (.int .i64 (0))))⟩, ⟨none, false, (some 6), (.mov (.c (.int .i64 (0))))⟩]) (.seq (.seq (.ops [⟨none, false, (some 39), (.fa 0 (.s 1))⟩, ⟨none, false, (some 40), (.ld false 1 (.s 39) none)⟩, ⟨none, false, (some 41), (.len (.s 40))⟩, ⟨none, false, (some 42), (.mov (.c (.int .i64 (0))))⟩]) (.blk 2 (.loop (.seq (.ops [⟨none, false, (some 43), (.bin .lss (.s 42) (.s 41))⟩]) (.seq (.ite (.s 43) .skip (.exit 2)) (.seq (.blk 3 (.seq (.ops [⟨none, false, (some 44), (.ia 1 (.s 40) (.s 42))⟩, ⟨none, false, (some 45), (.ld false 1 (.s 44) none)⟩, ⟨none, false, (some 8), (.mov (.s 45))⟩]) (.seq (.seq (.ops [⟨none, false, (some 46), (.mov (.s 8))⟩, ⟨none, false, (some 47), (.mov (.s 5))⟩, ⟨none, false, (some 48), (.bin .sub (.c (.int .i64 (65536))) (.s 47))⟩, ⟨none, false, (some 49), (.bin .gtr (.s 46) (.s 48))⟩]) (.ite (.s 49) (.seq (.ops [⟨none, false, (some 2), (.mov (.c (.int .i64 (8))))⟩]) .ret) .skip)) (.ops [⟨none, false, (some 50), (.mov (.s 5))⟩, ⟨none, false, (some 51), (.mov (.s 8))⟩, ⟨none, false, (some 52), (.bin .add (.s 50) (.s 51))⟩, ⟨none, false, (some 5), (.mov (.s 52))⟩])))) (.ops [⟨none, false, (some 53), (.bin .add (.s 42) (.c (.int .i64 (1))))⟩, ⟨none, false, (some 42), (.mov (.s 53))⟩]))))))) (.seq (.seq (.ops [⟨none, false, (some 54), (.fa 1 (.s 1))⟩, ⟨none, false, (some 55), (.ld false 1 (.s 54) none)⟩, ⟨none, false, (some 56), (.len (.s 55))⟩, ⟨none, false, (some 57), (.mov (.c (.int .i64 (0))))⟩]) (.blk 4 (.loop (.seq (.ops [⟨none, false, (some 58), (.bin .lss (.s 57) (.s 56))⟩]) (.seq (.ite (.s 58) .skip (.exit 4)) (.seq (.blk 5 (.seq (.ops [⟨none, false, (some 59), (.ia 1 (.s 55) (.s 57))⟩, ⟨none, false, (some 60), (.ld false 1 (.s 59) none)⟩, ⟨none, false, (some 10), (.mov (.s 60))⟩]) (.seq (.ops [⟨none, false, (some 61), (.mov (.s 6))⟩, ⟨none, false, (some 62), (.mov (.s 10))⟩, ⟨none, false, (some 63), (.len (.s 62))⟩, ⟨none, false, (some 64), (.bin .add (.s 61) (.s 63))⟩, ⟨none, false, (some 6), (.mov (.s 64))⟩]) (.seq (.ops [⟨none, false, (some 65), (.mov (.s 6))⟩, ⟨none, false, (some 66), (.bin .gtr (.s 65) (.c (.int .i64 (262144))))⟩]) (.ite (.s 66) (.seq (.ops [⟨none, false, (some 2), (.mov (.c (.int .i64 (8))))⟩]) .ret) .skip))))) (.ops [⟨none, false, (some 67), (.bin .add (.s 57) (.c (.int .i64 (1))))⟩, ⟨none, false, (some 57), (.mov (.s 67))⟩]))))))) (.seq (.seq (.ops [⟨none, false, (some 68), (.fa 1 (.s 1))⟩, ⟨none, false, (some 69), (.ld false 1 (.s 68) none)⟩, ⟨none, false, (some 70), (.len (.s 69))⟩, ⟨none, false, (some 71), (.mov (.c (.int .i64 (0))))⟩]) (.blk 6 (.loop (.seq (.ops [⟨none, false, (some 72), (.bin .lss (.s 71) (.s 70))⟩]) (.seq (.ite (.s 72) .skip (.exit 6)) (.seq (.blk 7 (.seq (.ops [⟨none, false, (some 73), (.mov (.s 71))⟩, ⟨none, false, (some 74), (.ia 1 (.s 69) (.s 71))⟩, ⟨none, false, (some 75), (.ld false 1 (.s 74) none)⟩, ⟨none, false, (some 11), (.mov (.s 73))⟩, ⟨none, false, (some 12), (.mov (.s 75))⟩]) (.seq (.ops [⟨none, false, (some 76), (.mov (.s 12))⟩, ⟨none, false, (some 77), (.len (.s 76))⟩, ⟨none, false, (some 78), (.mov (.c (.int .i64 (0))))⟩]) (.blk 8 (.loop (.seq (.ops [⟨none, false, (some 79), (.bin .lss (.s 78) (.s 77))⟩]) (.seq (.ite (.s 79) .skip (.exit 8)) (.seq (.blk 9 (.seq (.ops [⟨none, false, (some 80), (.ia 3 (.s 76) (.s 78))⟩, ⟨none, false, (some 81), (.ld true 3 (.s 80) none)⟩, ⟨none, false, (some 14), (.zero [(.int .i64 (0)), (.int .i64 (0)), (.int .i64 (0))])⟩, ⟨none, false, none, (.st 3 (.s 14) (.s 81) [])⟩]) (.seq (.ops [⟨none, false, (some 82), (.fa 0 (.s 14))⟩, ⟨none, false, (some 83), (.ld false 1 (.s 82) none)⟩, ⟨none, false, (some 84), (.bin .lss (.s 83) (.c (.int .i64 (0))))⟩, ⟨none, false, (some 85), (.mov (.s 84))⟩, ⟨(some (85, false)), false, (some 86), (.fa 0 (.s 14))⟩, ⟨(some (85, false)), false, (some 88), (.fa 0 (.s 1))⟩, ⟨(some (85, false)), false, (some 90), (.mov (.s 11))⟩, ⟨(some (85, false)), false, (some 87), (.ld false 1 (.s 86) none)⟩, ⟨(some (85, false)), false, (some 89), (.ld false 1 (.s 88) none)⟩, ⟨(some (85, false)), false, (some 91), (.ia 1 (.s 89) (.s 90))⟩, ⟨(some (85, false)), false, (some 92), (.ld false 1 (.s 91) none)⟩, ⟨(some (85, false)), false, (some 93), (.bin .geq (.s 87) (.s 92))⟩, ⟨none, false, (some 94), (.pick (.s 85) (.c (.bool true)) (.s 93))⟩, ⟨none, false, (some 95), (.mov (.s 94))⟩, ⟨(some (95, false)), false, (some 96), (.fa 2 (.s 14))⟩, ⟨(some (95, false)), false, (some 97), (.ld false 1 (.s 96) none)⟩, ⟨(some (95, false)), false, (some 98), (.bin .lss (.s 97) (.c (.int .i64 (0))))⟩, ⟨none, false, (some 99), (.pick (.s 95) (.c (.bool true)) (.s 98))⟩, ⟨none, false, (some 100), (.mov (.s 99))⟩, ⟨(some (100, false)), false, (some 101), (.fa 2 (.s 14))⟩, ⟨(some (100, false)), false, (some 103), (.fa 0 (.s 1))⟩, ⟨(some (100, false)), false, (some 105), (.mov (.s 11))⟩, ⟨(some (100, false)), false, (some 106), (.bin .add (.s 105) (.c (.int .i64 (1))))⟩, ⟨(some (100, false)), false, (some 102), (.ld false 1 (.s 101) none)⟩, ⟨(some (100, false)), false, (some 104), (.ld false 1 (.s 103) none)⟩, ⟨(some (100, false)), false, (some 107), (.ia 1 (.s 104) (.s 106))⟩, ⟨(some (100, false)), false, (some 108), (.ld false 1 (.s 107) none)⟩, ⟨(some (100, false)), false, (some 109), (.bin .geq (.s 102) (.s 108))⟩, ⟨none, false, (some 110), (.pick (.s 100) (.c (.bool true)) (.s 109))⟩]) (.ite (.s 110) (.seq (.ops [⟨none, false, (some 2), (.mov (.c (.int .i64 (6))))⟩]) .ret) .skip)))) (.ops [⟨none, false, (some 111), (.bin .add (.s 78) (.c (.int .i64 (1))))⟩, ⟨none, false, (some 78), (.mov (.s 111))⟩]))))))))) (.ops [⟨none, false, (some 112), (.bin .add (.s 71) (.c (.int .i64 (1))))⟩, ⟨none, false, (some 71), (.mov (.s 112))⟩]))))))) (.seq (.ops [⟨none, false, (some 2), (.mov (.c (.int .i64 (0))))⟩]) .ret))))))))⟩
theorem cv47 : cvF Try.prog 47 = some F47 := by kernel_rfl


/-- an edge that leads outside -/
def BadE (ws : List Int) (i : Nat) (e : Ed) : Prop := e.fr < 0 ∨ ws[i]?.getD 0 ≤ e.fr ∨ e.to < 0 ∨ ws[i+1]?.getD 0 ≤ e.to
def lensI (es : List (List Ed)) : List Int := es.map fun l => (l.length : Int)
open Classical in
noncomputable def shapeI (ws : List Int) (es : List (List Ed)) : Int :=
  if 64 < es.length ∨ ws.length ≠ es.length + 1 then 3
  else if ∃ w ∈ ws, w < 1 then 6
  else if 65536 < sumI ws then 8
  else if 262144 < sumI (lensI es) then 8
  else if ∃ i, ∃ h : i < es.length, ∃ e ∈ es[i], BadE ws i e then 6 else 0

theorem lens_nonneg (es : List (List Ed)) : ∀ x ∈ lensI es, 0 ≤ x := by
  intro x hx
  obtain ⟨l, _, rfl⟩ := List.mem_map.1 hx
  omega
theorem lens_len (es : List (List Ed)) : (lensI es).length = es.length := by simp [lensI]
theorem lens_get (es : List (List Ed)) (i : Nat) (h : i < es.length) : (lensI es)[i]'(by rw [lens_len]; exact h) = (es[i].length : Int) := by simp [lensI]

theorem Shape_spec {sv ev : V} {ws : List Int} {es : List (List Ed)} {H : Heap} (hs : SInts H sv ws) (he : SSecs H ev es) : ACalls Try.prog 47 [.agg [sv, ev]] H fun u H' => u = .int .i64 (shapeI ws es) ∧ H' = H := by
  refine ACalls.of_body hm cv47 (by simp only [List.length_cons, List.length_nil]; decide) ?_
  simp only [F47, go_sem, ↓reduceIte, Nat.reduceEqDiff, Nat.reduceAdd, reduceCtorEq]
  refine newC_intro fun n1 H1 hn1 hs1 hb1 => ?_
  have hl1 := hs.lt
  have hl2 := SLists.lt he
  simp only [ld_box hb1, hs.len, SLists.len he, go_sem, ↓reduceIte, Nat.reduceEqDiff, Nat.reduceAdd, reduceCtorEq]
  by_cases c1 : (64 : Int) < es.length
  · simp only [c1, go_sem, ↓reduceIte, Nat.reduceEqDiff, Nat.reduceAdd, reduceCtorEq]
    refine finO_sub hs1 ⟨?_, rfl⟩
    rw [shapeI, if_pos (.inl (by omega))]
  simp only [c1, ld_box hb1, hs.len, SLists.len he, go_sem, ↓reduceIte, Nat.reduceEqDiff, Nat.reduceAdd, reduceCtorEq]
  rw [wrapN1 (by omega)]
  refine iteC_if (fun c2 => ?_) (fun c2 => ?_)
  · simp only [go_sem, ↓reduceIte, Nat.reduceEqDiff, Nat.reduceAdd, reduceCtorEq]
    refine finO_sub hs1 ⟨?_, rfl⟩
    rw [shapeI, if_pos (.inr (by omega))]
  simp only [ld_box hb1, hs.len, SLists.len he, go_sem, ↓reduceIte, Nat.reduceEqDiff, Nat.reduceAdd, reduceCtorEq]
  have e2 : ws.length = es.length + 1 := by omega
  have n0 : ¬ (64 < es.length ∨ ws.length ≠ es.length + 1) := by omega
  -- the widths
  refine range_loop ws.length (fun k env H' => H1 = H' ∧ env 1 = .ptr n1 0 ∧ env 30 = sv ∧ env 31 = .int .i64 ws.length ∧ env 32 = .int .i64 k ∧ ∀ j, (h : j < ws.length) → j < k → ¬ ws[j] < 1) hl1 (by decide) (by decide) ?_ ?_ ?_ ?_
  · rintro k env H' ⟨_, _, _, h7, h8, _⟩; exact ⟨h8, h7⟩
  · simp only [go_sem, ↓reduceIte, Nat.reduceEqDiff, Nat.reduceAdd, reduceCtorEq, c2]; simp
  · rintro k env H' hk ⟨rfl, h1, h6, h7, h8, hz⟩
    obtain ⟨p, a1, a2⟩ := (hs.mono hs1).get hk .i64
    simp only [go_sem, ↓reduceIte, Nat.reduceEqDiff, Nat.reduceAdd, reduceCtorEq, h1, h6, h7, h8, a1, a2]
    refine iteC_if (fun hx => ?_) (fun hx => ?_)
    · simp only [go_sem, ↓reduceIte, Nat.reduceEqDiff, Nat.reduceAdd, reduceCtorEq]
      refine finO_sub hs1 ⟨?_, rfl⟩
      rw [shapeI, if_neg n0, if_pos ⟨_, List.getElem_mem hk, hx⟩]
    · simp only [go_sem, ↓reduceIte, Nat.reduceEqDiff, Nat.reduceAdd, reduceCtorEq, h1, h6, h7, h8]
      refine ⟨by trivial, by trivial, by trivial, by trivial, by trivial, by trivial, fun j h hj => ?_⟩
      rcases Nat.lt_succ_iff_lt_or_eq.1 hj with hj | rfl
      · exact hz j h hj
      · exact hx
  rintro env H' ⟨rfl, h1, h6, h7, h8, hz⟩
  clear h6 h7 h8
  have n1' : ¬ ∃ w ∈ ws, w < 1 := by
    rintro ⟨w, hw, hlt⟩
    obtain ⟨j, hj, rfl⟩ := List.getElem_of_mem hw
    exact hz j hj hj hlt
  have nn : ∀ x ∈ ws, 0 ≤ x := fun x hx => by
    have : ¬ x < 1 := fun h => n1' ⟨x, hx, h⟩
    omega
  simp only [go_sem, ↓reduceIte, Nat.reduceEqDiff, Nat.reduceAdd, reduceCtorEq, h1, ld_box hb1, hs.len]
  -- the nodes
  refine range_loop ws.length (fun k env H' => H1 = H' ∧ env 1 = .ptr n1 0 ∧ env 40 = sv ∧ env 41 = .int .i64 ws.length ∧ env 42 = .int .i64 k ∧ env 6 = .int .i64 0 ∧ env 5 = .int .i64 (sumI (ws.take k)) ∧ sumI (ws.take k) ≤ 65536) hl1 (by decide) (by decide) ?_ ?_ ?_ ?_
  · rintro k env H' ⟨_, _, _, h7, h8, _⟩; exact ⟨h8, h7⟩
  · simp only [go_sem, ↓reduceIte, Nat.reduceEqDiff, Nat.reduceAdd, reduceCtorEq, h1]; simp [sumI]
  · rintro k env H' hk ⟨rfl, h1, h6, h7, h8, h9, h5, hle⟩
    obtain ⟨p, a1, a2⟩ := (hs.mono hs1).get hk .i64
    have hge := sumI_nonneg (l := ws.take k) fun x hx => nn x (List.mem_of_mem_take hx)
    simp (disch := omega) only [go_sem, ↓reduceIte, Nat.reduceEqDiff, Nat.reduceAdd, reduceCtorEq, h1, h6, h7, h8, a1, a2, h5, wrapI]
    have hts := sumI_take_succ hk
    refine iteC_if (fun hx => ?_) (fun hx => ?_)
    · simp only [go_sem, ↓reduceIte, Nat.reduceEqDiff, Nat.reduceAdd, reduceCtorEq]
      refine finO_sub hs1 ⟨?_, rfl⟩
      have := sumI_take_le nn (k+1)
      rw [shapeI, if_neg n0, if_neg n1', if_pos (by omega)]
    · have := nn _ (List.getElem_mem hk)
      simp (disch := omega) only [go_sem, ↓reduceIte, Nat.reduceEqDiff, Nat.reduceAdd, reduceCtorEq, h1, h6, h7, h8, h9, h5, wrapI]
      refine ⟨by trivial, by trivial, by trivial, by trivial, by trivial, by trivial, by trivial, by rw [hts], by omega⟩
  rintro env H' ⟨rfl, h1, h6, h7, h8, h9, h5, hle⟩
  clear h6 h7 h8 h5
  rw [List.take_length] at hle
  have n2' : ¬ 65536 < sumI ws := by omega
  simp only [go_sem, ↓reduceIte, Nat.reduceEqDiff, Nat.reduceAdd, reduceCtorEq, h1, ld_box hb1, SLists.len he]
  -- the edges
  refine range_loop es.length (fun k env H' => H1 = H' ∧ env 1 = .ptr n1 0 ∧ env 55 = ev ∧ env 56 = .int .i64 es.length ∧ env 57 = .int .i64 k ∧ env 6 = .int .i64 (sumI ((lensI es).take k)) ∧ sumI ((lensI es).take k) ≤ 262144) hl2 (by decide) (by decide) ?_ ?_ ?_ ?_
  · rintro k env H' ⟨_, _, _, h7, h8, _⟩; exact ⟨h8, h7⟩
  · simp only [go_sem, ↓reduceIte, Nat.reduceEqDiff, Nat.reduceAdd, reduceCtorEq, h1]; simp [sumI, h9]
  · rintro k env H' hk ⟨rfl, h1, h6, h7, h8, h9, hle⟩
    obtain ⟨p, u, a1, a2, a3⟩ := (SSecs.mono he hs1).get hk .i64
    have hge := sumI_nonneg (l := (lensI es).take k) fun x hx => lens_nonneg es x (List.mem_of_mem_take hx)
    have hts := sumI_take_succ (l := lensI es) (k := k) (by rw [lens_len]; exact hk)
    rw [lens_get es k hk] at hts
    have := a3.lt
    simp (disch := omega) only [go_sem, ↓reduceIte, Nat.reduceEqDiff, Nat.reduceAdd, reduceCtorEq, h1, h6, h7, h8, a1, a2, a3.len, h9, wrapI]
    refine iteC_if (fun hx => ?_) (fun hx => ?_)
    · simp only [go_sem, ↓reduceIte, Nat.reduceEqDiff, Nat.reduceAdd, reduceCtorEq]
      refine finO_sub hs1 ⟨?_, rfl⟩
      have := sumI_take_le (lens_nonneg es) (k+1)
      rw [shapeI, if_neg n0, if_neg n1', if_neg n2', if_pos (by omega)]
    · simp only [go_sem, ↓reduceIte, Nat.reduceEqDiff, Nat.reduceAdd, reduceCtorEq, h1, h6, h7, h8, h9]
      refine ⟨by trivial, by trivial, by trivial, by trivial, by trivial, by trivial, by rw [hts], by omega⟩
  rintro env H' ⟨rfl, h1, h6, h7, h8, h9, hle⟩
  clear h6 h7 h8 h9
  rw [List.take_of_length_le (by rw [lens_len]; exact Nat.le_refl _)] at hle
  have n3' : ¬ 262144 < sumI (lensI es) := by omega
  simp only [go_sem, ↓reduceIte, Nat.reduceEqDiff, Nat.reduceAdd, reduceCtorEq, h1, ld_box hb1, SLists.len he]
  -- the ends of the edges
  refine range_loop es.length (fun k env H' => Heap.sub H1 H' ∧ env 1 = .ptr n1 0 ∧ env 69 = ev ∧ env 70 = .int .i64 es.length ∧ env 71 = .int .i64 k ∧ ∀ i, (h : i < es.length) → i < k → ∀ e ∈ es[i], ¬ BadE ws i e) hl2 (by decide) (by decide) ?_ ?_ ?_ ?_
  · rintro k env H' ⟨_, _, _, h7, h8, _⟩; exact ⟨h8, h7⟩
  · simp only [go_sem, ↓reduceIte, Nat.reduceEqDiff, Nat.reduceAdd, reduceCtorEq, h1]; simp; exact Heap.sub.rfl'
  · rintro k env H2 hk ⟨hs2, h1, h6, h7, h8, hz⟩
    obtain ⟨p, u, a1, a2, a3⟩ := (SSecs.mono he (hs1.trans' hs2)).get hk .i64
    have hl3 := a3.lt
    simp only [go_sem, ↓reduceIte, Nat.reduceEqDiff, Nat.reduceAdd, reduceCtorEq, h1, h6, h7, h8, a1, a2, a3.len]
    refine range_loop es[k].length (fun j env H' => Heap.sub H1 H' ∧ env 1 = .ptr n1 0 ∧ env 69 = ev ∧ env 70 = .int .i64 es.length ∧ env 71 = .int .i64 k ∧ env 11 = .int .i64 k ∧ env 76 = u ∧ SEds H' u es[k] ∧ env 77 = .int .i64 es[k].length ∧ env 78 = .int .i64 j ∧ ∀ i, (h : i < es[k].length) → i < j → ¬ BadE ws k es[k][i]) hl3 (by decide) (by decide) ?_ ?_ ?_ ?_
    · rintro k env H' ⟨_, _, _, _, _, _, _, _, h7, h8, _⟩; exact ⟨h8, h7⟩
    · simp only [go_sem, ↓reduceIte, Nat.reduceEqDiff, Nat.reduceAdd, reduceCtorEq, h1, h6, h7, h8]; simp [hs2, a3]
    · rintro j env H3 hj ⟨hs3, h1, h6, h7, h8, h11, h76, hu, h77, h78, hy⟩
      obtain ⟨p, q0, q1, q2, b1, b2, b3, b4, b5, b6, b7, b8⟩ := hu.get hj .i64
      simp only [go_sem, ↓reduceIte, Nat.reduceEqDiff, Nat.reduceAdd, reduceCtorEq, h1, h6, h7, h8, h11, h76, h77, h78, b1, b2]
      refine newC_intro fun n4 H4 hn4 hs4 hb4 => ?_
      simp only [go_sem, ↓reduceIte, Nat.reduceEqDiff, Nat.reduceAdd, reduceCtorEq, h1, h6, h7, h8, h11, h76, h77, h78]
      refine stC_intro hb4 trivial rfl (by decide) (by decide) fun H5 hb5 hf5 hs5 => ?_
      simp only [Ed.cells, fillV, List.length_cons, List.length_nil, splice, Nat.reduceLeDiff, Nat.zero_lt_one, and_self, List.take_zero, List.take_succ_cons, List.drop_succ_cons, List.drop_zero, List.drop_nil, Nat.reduceLT, Nat.le_refl, go_sem, ↓reduceIte, Nat.reduceEqDiff, Nat.reduceAdd, reduceCtorEq] at hb5
      have hs15 : Heap.sub H1 H5 := hs5 H1 (hs3.trans' hs4) (hs3.none' hn4)
      have hs35 : Heap.sub H3 H5 := hs5 H3 hs4 hn4
      have hb15 := hs15 _ _ hb1
      obtain ⟨pw, w1, w2⟩ := (hs.mono (hs1.trans' hs15)).get (k := k) (by omega) .i64
      obtain ⟨pw', w3, w4⟩ := (hs.mono (hs1.trans' hs15)).get (k := k+1) (by omega) .i64
      have g1 : ws[k]?.getD 0 = ws[k] := by simp [show k < ws.length by omega]
      have g2 : ws[k+1]?.getD 0 = ws[k+1] := by simp [show k+1 < ws.length by omega]
      simp only [go_sem, ↓reduceIte, Nat.reduceEqDiff, Nat.reduceAdd, reduceCtorEq, h1, h6, h7, h8, h11, h76, h77, h78, ld_box hb5]
      have done6 : ∀ i (hi : i < es[k].length), BadE ws k es[k][i] → (V.int .i64 6 = V.int .i64 (shapeI ws es)) := by
        intro i hi hb
        rw [shapeI, if_neg n0, if_neg n1', if_neg n2', if_neg n3', if_pos ⟨k, hk, _, List.getElem_mem hi, hb⟩]
      by_cases d1 : es[k][j].fr < 0
      · simp only [d1, go_sem, ↓reduceIte, Nat.reduceEqDiff, Nat.reduceAdd, reduceCtorEq]
        exact finO_sub (hs1.trans' hs15) ⟨done6 j hj (.inl d1), rfl⟩
      simp only [d1, go_sem, ↓reduceIte, Nat.reduceEqDiff, Nat.reduceAdd, reduceCtorEq, h1, h6, h7, h8, h11, h76, h77, h78, ld_box hb5, ld_box hb15, w1, w2]
      by_cases d2 : ws[k] ≤ es[k][j].fr
      · simp only [d2, go_sem, ↓reduceIte, Nat.reduceEqDiff, Nat.reduceAdd, reduceCtorEq]
        exact finO_sub (hs1.trans' hs15) ⟨done6 j hj (.inr (.inl (by rw [g1]; exact d2))), rfl⟩
      simp only [d2, go_sem, ↓reduceIte, Nat.reduceEqDiff, Nat.reduceAdd, reduceCtorEq, h1, h6, h7, h8, h11, h76, h77, h78, ld_box hb5, ld_box hb15, w1, w2]
      by_cases d3 : es[k][j].to < 0
      · simp only [d3, go_sem, ↓reduceIte, Nat.reduceEqDiff, Nat.reduceAdd, reduceCtorEq]
        exact finO_sub (hs1.trans' hs15) ⟨done6 j hj (.inr (.inr (.inl d3))), rfl⟩
      simp only [d3, go_sem, ↓reduceIte, Nat.reduceEqDiff, Nat.reduceAdd, reduceCtorEq, h1, h6, h7, h8, h11, h76, h77, h78, ld_box hb5, ld_box hb15, w1, w2]
      rw [wrapN1 (by omega)]
      simp only [w3, w4, go_sem, ↓reduceIte, Nat.reduceEqDiff, Nat.reduceAdd, reduceCtorEq]
      refine iteC_if (fun d4 => ?_) (fun d4 => ?_)
      · simp only [go_sem, ↓reduceIte, Nat.reduceEqDiff, Nat.reduceAdd, reduceCtorEq]
        exact finO_sub (hs1.trans' hs15) ⟨done6 j hj (.inr (.inr (.inr (by rw [g2]; exact d4)))), rfl⟩
      simp only [go_sem, ↓reduceIte, Nat.reduceEqDiff, Nat.reduceAdd, reduceCtorEq, h1, h6, h7, h8, h11, h76, h77, h78]
      refine ⟨by trivial, hs15, by trivial, by trivial, by trivial, by trivial, by trivial, by trivial, hu.mono hs35, by trivial, by trivial, fun i h hi => ?_⟩
      rcases Nat.lt_succ_iff_lt_or_eq.1 hi with hi | rfl
      · exact hy i h hi
      · rintro (h | h | h | h)
        · exact d1 h
        · rw [g1] at h; exact d2 h
        · exact d3 h
        · rw [g2] at h; exact d4 h
    · rintro env H' ⟨hs3, h1, h6, h7, h8, h11, h76, hu, h77, h78, hy⟩
      simp only [go_sem, ↓reduceIte, Nat.reduceEqDiff, Nat.reduceAdd, reduceCtorEq, h1, h6, h7, h8]
      refine ⟨by trivial, hs3, by trivial, by trivial, by trivial, by trivial, fun i h hi => ?_⟩
      rcases Nat.lt_succ_iff_lt_or_eq.1 hi with hi | rfl
      · exact hz i h hi
      · intro e he'
        obtain ⟨j, hj, rfl⟩ := List.getElem_of_mem he'
        exact hy j hj hj
  · rintro env H' ⟨hs2, h1, h6, h7, h8, hz⟩
    simp only [go_sem, ↓reduceIte, Nat.reduceEqDiff, Nat.reduceAdd, reduceCtorEq]
    refine finO_sub (hs1.trans' hs2) ⟨?_, rfl⟩
    rw [shapeI, if_neg n0, if_neg n1', if_neg n2', if_neg n3', if_neg]
    rintro ⟨i, hi, e, he', hb⟩
    exact hz i hi hi e he' hb
end Go.AM

/- codewrightref46.Shape. Conditions: none. -/
set_option linter.unusedVariables false
set_option linter.unusedSimpArgs false
namespace Go.AM
open Go Go.Proofs
attribute [local go_sem] c_skip c_ops c_seq c_ite c_blk c_exit c_ret t_normal t_exit t_ret b_normal b_exit b_ret i_nil i_cons s_guard s_mov s_pick s_new s_zero s_ld s_ldr s_st s_bin s_beq s_isnil s_eqs s_un s_conv s_fa s_fld s_ia s_sli s_ext s_ifc s_mkf s_agg s_len s_mm s_nilchk s_bsl s_mk s_app s_cpy s_call s_inv cells_agg cells_int cells_bool p_get p_none o_s o_c e_0 e_1 e_2 e_3 e_4 iteC_true iteC_false grd_tt grd_tf grd_ft grd_ff grd_und bindV_some pickV_t pickV_f beq_bool conv_int un_not not_dec mm_min mm_max bv_add bv_sub bv_mul bv_eql bv_neq bv_lss bv_leq bv_gtr bv_geq f_normal f_one f_two f_three f_none fa_ptr fld_one ext_tup len_sl len_nils decide_true decide_false not_true_eq_false not_false_eq_true List.map_cons List.map_nil List.append_nil List.cons_append List.nil_append Nat.zero_add Nat.add_zero Nat.mul_one Nat.succ_ne_self if_true if_false List.getElem?_cons_zero List.getElem?_cons_succ

/-- codewrightref46.Shape -/
def F16 : AF := ⟨138, [(2, none)], (.seq (.ops [⟨none, false, (some 1), (.new (.s 0))⟩, ⟨none, false, (some 2), (.mov (.c (.int .i64 (0))))⟩]) (.seq (.seq (.ops [⟨none, false, (some 11), (.fa 1 (.s 1))⟩, ⟨none, false, (some 12), (.ld false 1 (.s 11) none)⟩, ⟨none, false, (some 13), (.len (.s 12))⟩, ⟨none, false, (some 14), (.bin .gtr (.s 13) (.c (.int .i64 (64))))⟩, ⟨none, false, (some 15), (.mov (.s 14))⟩, ⟨(some (15, false)), false, (some 16), (.fa 0 (.s 1))⟩, ⟨(some (15, false)), false, (some 17), (.ld false 1 (.s 16) none)⟩, ⟨(some (15, false)), false, (some 18), (.len (.s 17))⟩, ⟨(some (15, false)), false, (some 19), (.fa 1 (.s 1))⟩, ⟨(some (15, false)), false, (some 20), (.ld false 1 (.s 19) none)⟩, ⟨(some (15, false)), false, (some 21), (.len (.s 20))⟩, ⟨(some (15, false)), false, (some 22), (.bin .add (.s 21) (.c (.int .i64 (1))))⟩, ⟨(some (15, false)), false, (some 23), (.bin .neq (.s 18) (.s 22))⟩, ⟨none, false, (some 24), (.pick (.s 15) (.c (.bool true)) (.s 23))⟩]) (.ite (.s 24) (.seq (.ops [⟨none, false, (some 2), (.mov (.c (.int .i64 (3))))⟩]) .ret) .skip)) (.seq (.ops [⟨none, false, (some 3), (.mov (.c (.int .i64 (0))))⟩]) (.seq (.seq (.ops [⟨none, false, (some 4), (.mov (.c (.int .i64 (0))))⟩]) (.blk 0 (.loop (.seq (.seq (.ops [⟨none, false, (some 25), (.mov (.s 4))⟩, ⟨none, false, (some 26), (.fa 0 (.s 1))⟩, ⟨none, false, (some 27), (.ld false 1 (.s 26) none)⟩, ⟨none, false, (some 28), (.len (.s 27))⟩, ⟨none, false, (some 29), (.bin .lss (.s 25) (.s 28))⟩]) (.ite (.s 29) .skip (.exit 0))) (.seq (.blk 1 (.seq (.ops [⟨none, false, (some 32), (.fa 0 (.s 1))⟩, ⟨none, false, (some 33), (.ld false 1 (.s 32) none)⟩, ⟨none, false, (some 34), (.mov (.s 4))⟩, ⟨none, false, (some 35), (.ia 1 (.s 33) (.s 34))⟩, ⟨none, false, (some 36), (.ld false 1 (.s 35) none)⟩, ⟨none, false, (some 37), (.bin .lss (.s 36) (.c (.int .i64 (1))))⟩]) (.ite (.s 37) (.seq (.ops [⟨none, false, (some 2), (.mov (.c (.int .i64 (6))))⟩]) .ret) .skip))) (.ops [⟨none, false, (some 30), (.mov (.s 4))⟩, ⟨none, false, (some 31), (.bin .add (.s 30) (.c (.int .i64 (1))))⟩, ⟨none, false, (some 4), (.mov (.s 31))⟩])))))) (.seq (.seq (.ops [⟨none, false, (some 5), (.mov (.c (.int .i64 (0))))⟩]) (.blk 2 (.loop (.seq (.seq (.ops [⟨none, false, (some 38), (.mov (.s 5))⟩, ⟨none, false, (some 39), (.fa 0 (.s 1))⟩, ⟨none, false, (some 40), (.ld false 1 (.s 39) none)⟩, ⟨none, false, (some 41), (.len (.s 40))⟩, ⟨none, false, (some 42), (.bin .lss (.s 38) (.s 41))⟩]) (.ite (.s 42) .skip (.exit 2))) (.seq (.blk 3 (.seq (.seq (.ops [⟨none, false, (some 45), (.fa 0 (.s 1))⟩, ⟨none, false, (some 46), (.ld false 1 (.s 45) none)⟩, ⟨none, false, (some 47), (.mov (.s 5))⟩, ⟨none, false, (some 48), (.ia 1 (.s 46) (.s 47))⟩, ⟨none, false, (some 49), (.ld false 1 (.s 48) none)⟩, ⟨none, false, (some 50), (.mov (.s 3))⟩, ⟨none, false, (some 51), (.bin .sub (.c (.int .i64 (65536))) (.s 50))⟩, ⟨none, false, (some 52), (.bin .gtr (.s 49) (.s 51))⟩]) (.ite (.s 52) (.seq (.ops [⟨none, false, (some 2), (.mov (.c (.int .i64 (8))))⟩]) .ret) .skip)) (.ops [⟨none, false, (some 53), (.mov (.s 3))⟩, ⟨none, false, (some 54), (.fa 0 (.s 1))⟩, ⟨none, false, (some 55), (.ld false 1 (.s 54) none)⟩, ⟨none, false, (some 56), (.mov (.s 5))⟩, ⟨none, false, (some 57), (.ia 1 (.s 55) (.s 56))⟩, ⟨none, false, (some 58), (.ld false 1 (.s 57) none)⟩, ⟨none, false, (some 59), (.bin .add (.s 53) (.s 58))⟩, ⟨none, false, (some 3), (.mov (.s 59))⟩]))) (.ops [⟨none, false, (some 43), (.mov (.s 5))⟩, ⟨none, false, (some 44), (.bin .add (.s 43) (.c (.int .i64 (1))))⟩, ⟨none, false, (some 5), (.mov (.s 44))⟩])))))) (.seq (.ops [⟨none, false, (some 6), (.mov (.c (.int .i64 (0))))⟩]) (.seq (.seq (.ops [⟨none, false, (some 7), (.mov (.c (.int .i64 (0))))⟩]) (.blk 4 (.loop (.seq (.seq (.ops [⟨none, false, (some 60), (.mov (.s 7))⟩, ⟨none, false, (some 61), (.fa 1 (.s 1))⟩, ⟨none, false, (some 62), (.ld false 1 (.s 61) none)⟩, ⟨none, false, (some 63), (.len (.s 62))⟩, ⟨none, false, (some 64), (.bin .lss (.s 60) (.s 63))⟩]) (.ite (.s 64) .skip (.exit 4))) (.seq (.blk 5 (.seq (.seq (.ops [⟨none, false, (some 67), (.fa 1 (.s 1))⟩, ⟨none, false, (some 68), (.ld false 1 (.s 67) none)⟩, ⟨none, false, (some 69), (.mov (.s 7))⟩, ⟨none, false, (some 70), (.ia 1 (.s 68) (.s 69))⟩, ⟨none, false, (some 71), (.ld false 1 (.s 70) none)⟩, ⟨none, false, (some 72), (.len (.s 71))⟩, ⟨none, false, (some 73), (.mov (.s 6))⟩, ⟨none, false, (some 74), (.bin .sub (.c (.int .i64 (262144))) (.s 73))⟩, ⟨none, false, (some 75), (.bin .gtr (.s 72) (.s 74))⟩]) (.ite (.s 75) (.seq (.ops [⟨none, false, (some 2), (.mov (.c (.int .i64 (8))))⟩]) .ret) .skip)) (.ops [⟨none, false, (some 76), (.mov (.s 6))⟩, ⟨none, false, (some 77), (.fa 1 (.s 1))⟩, ⟨none, false, (some 78), (.ld false 1 (.s 77) none)⟩, ⟨none, false, (some 79), (.mov (.s 7))⟩, ⟨none, false, (some 80), (.ia 1 (.s 78) (.s 79))⟩, ⟨none, false, (some 81), (.ld false 1 (.s 80) none)⟩, ⟨none, false, (some 82), (.len (.s 81))⟩, ⟨none, false, (some 83), (.bin .add (.s 76) (.s 82))⟩, ⟨none, false, (some 6), (.mov (.s 83))⟩]))) (.ops [⟨none, false, (some 65), (.mov (.s 7))⟩, ⟨none, false, (some 66), (.bin .add (.s 65) (.c (.int .i64 (1))))⟩, ⟨none, false, (some 7), (.mov (.s 66))⟩])))))) (.seq (.seq (.ops [⟨none, false, (some 8), (.mov (.c (.int .i64 (0))))⟩]) (.blk 6 (.loop (.seq (.seq (.ops [⟨none, false, (some 84), (.mov (.s 8))⟩, ⟨none, false, (some 85), (.fa 1 (.s 1))⟩, ⟨none, false, (some 86), (.ld false 1 (.s 85) none)⟩, ⟨none, false, (some 87), (.len (.s 86))⟩, ⟨none, false, (some 88), (.bin .lss (.s 84) (.s 87))⟩]) (.ite (.s 88) .skip (.exit 6))) (.seq (.blk 7 (.seq (.ops [⟨none, false, (some 9), (.mov (.c (.int .i64 (0))))⟩]) (.blk 8 (.loop (.seq (.seq (.ops [⟨none, false, (some 91), (.mov (.s 9))⟩, ⟨none, false, (some 92), (.fa 1 (.s 1))⟩, ⟨none, false, (some 93), (.ld false 1 (.s 92) none)⟩, ⟨none, false, (some 94), (.mov (.s 8))⟩, ⟨none, false, (some 95), (.ia 1 (.s 93) (.s 94))⟩, ⟨none, false, (some 96), (.ld false 1 (.s 95) none)⟩, ⟨none, false, (some 97), (.len (.s 96))⟩, ⟨none, false, (some 98), (.bin .lss (.s 91) (.s 97))⟩]) (.ite (.s 98) .skip (.exit 8))) (.seq (.blk 9 (.seq (.ops [⟨none, false, (some 101), (.fa 1 (.s 1))⟩, ⟨none, false, (some 102), (.ld false 1 (.s 101) none)⟩, ⟨none, false, (some 103), (.mov (.s 8))⟩, ⟨none, false, (some 104), (.ia 1 (.s 102) (.s 103))⟩, ⟨none, false, (some 105), (.ld false 1 (.s 104) none)⟩, ⟨none, false, (some 106), (.mov (.s 9))⟩, ⟨none, false, (some 107), (.ia 3 (.s 105) (.s 106))⟩, ⟨none, false, (some 108), (.ld true 3 (.s 107) none)⟩, ⟨none, false, (some 10), (.zero [(.int .i64 (0)), (.int .i64 (0)), (.int .i64 (0))])⟩, ⟨none, false, none, (.st 3 (.s 10) (.s 108) [])⟩]) (.seq (.ops [⟨none, false, (some 109), (.fa 0 (.s 10))⟩, ⟨none, false, (some 110), (.ld false 1 (.s 109) none)⟩, ⟨none, false, (some 111), (.bin .lss (.s 110) (.c (.int .i64 (0))))⟩, ⟨none, false, (some 112), (.mov (.s 111))⟩, ⟨(some (112, false)), false, (some 113), (.fa 0 (.s 10))⟩, ⟨(some (112, false)), false, (some 115), (.fa 0 (.s 1))⟩, ⟨(some (112, false)), false, (some 117), (.mov (.s 8))⟩, ⟨(some (112, false)), false, (some 114), (.ld false 1 (.s 113) none)⟩, ⟨(some (112, false)), false, (some 116), (.ld false 1 (.s 115) none)⟩, ⟨(some (112, false)), false, (some 118), (.ia 1 (.s 116) (.s 117))⟩, ⟨(some (112, false)), false, (some 119), (.ld false 1 (.s 118) none)⟩, ⟨(some (112, false)), false, (some 120), (.bin .geq (.s 114) (.s 119))⟩, ⟨none, false, (some 121), (.pick (.s 112) (.c (.bool true)) (.s 120))⟩, ⟨none, false, (some 122), (.mov (.s 121))⟩, ⟨(some (122, false)), false, (some 123), (.fa 2 (.s 10))⟩, ⟨(some (122, false)), false, (some 124), (.ld false 1 (.s 123) none)⟩, ⟨(some (122, false)), false, (some 125), (.bin .lss (.s 124) (.c (.int .i64 (0))))⟩, ⟨none, false, (some 126), (.pick (.s 122) (.c (.bool true)) (.s 125))⟩, ⟨none, false, (some 127), (.mov (.s 126))⟩, ⟨(some (127, false)), false, (some 128), (.fa 2 (.s 10))⟩, ⟨(some (127, false)), false, (some 130), (.fa 0 (.s 1))⟩, ⟨(some (127, false)), false, (some 132), (.mov (.s 8))⟩, ⟨(some (127, false)), false, (some 133), (.bin .add (.s 132) (.c (.int .i64 (1))))⟩, ⟨(some (127, false)), false, (some 129), (.ld false 1 (.s 128) none)⟩, ⟨(some (127, false)), false, (some 131), (.ld false 1 (.s 130) none)⟩, ⟨(some (127, false)), false, (some 134), (.ia 1 (.s 131) (.s 133))⟩, ⟨(some (127, false)), false, (some 135), (.ld false 1 (.s 134) none)⟩, ⟨(some (127, false)), false, (some 136), (.bin .geq (.s 129) (.s 135))⟩, ⟨none, false, (some 137), (.pick (.s 127) (.c (.bool true)) (.s 136))⟩]) (.ite (.s 137) (.seq (.ops [⟨none, false, (some 2), (.mov (.c (.int .i64 (6))))⟩]) .ret) .skip)))) (.ops [⟨none, false, (some 99), (.mov (.s 9))⟩, ⟨none, false, (some 100), (.bin .add (.s 99) (.c (.int .i64 (1))))⟩, ⟨none, false, (some 9), (.mov (.s 100))⟩]))))))) (.ops [⟨none, false, (some 89), (.mov (.s 8))⟩, ⟨none, false, (some 90), (.bin .add (.s 89) (.c (.int .i64 (1))))⟩, ⟨none, false, (some 8), (.mov (.s 90))⟩])))))) (.seq (.ops [⟨none, false, (some 2), (.mov (.c (.int .i64 (0))))⟩]) .ret)))))))))⟩
theorem cv16 : cvF Try.prog 16 = some F16 := by kernel_rfl


theorem rShape_spec {sv ev : V} {ws : List Int} {es : List (List Ed)} {H : Heap} (hs : SInts H sv ws) (he : SSecs H ev es) : ACalls Try.prog 16 [.agg [sv, ev]] H fun u H' => u = .int .i64 (shapeI ws es) ∧ H' = H := by
  refine ACalls.of_body hm cv16 (by simp only [List.length_cons, List.length_nil]; decide) ?_
  simp only [F16, go_sem, ↓reduceIte, Nat.reduceEqDiff, Nat.reduceAdd, reduceCtorEq]
  refine newC_intro fun n1 H1 hn1 hs1 hb1 => ?_
  have hl1 := hs.lt
  have hl2 := SLists.lt he
  simp only [ld_box hb1, hs.len, SLists.len he, go_sem, ↓reduceIte, Nat.reduceEqDiff, Nat.reduceAdd, reduceCtorEq]
  by_cases c1 : (64 : Int) < es.length
  · simp only [c1, go_sem, ↓reduceIte, Nat.reduceEqDiff, Nat.reduceAdd, reduceCtorEq]
    refine finO_sub hs1 ⟨?_, rfl⟩
    rw [shapeI, if_pos (.inl (by omega))]
  simp only [c1, ld_box hb1, hs.len, SLists.len he, go_sem, ↓reduceIte, Nat.reduceEqDiff, Nat.reduceAdd, reduceCtorEq]
  rw [wrapN1 (by omega)]
  refine iteC_if (fun c2 => ?_) (fun c2 => ?_)
  · simp only [go_sem, ↓reduceIte, Nat.reduceEqDiff, Nat.reduceAdd, reduceCtorEq]
    refine finO_sub hs1 ⟨?_, rfl⟩
    rw [shapeI, if_pos (.inr (by omega))]
  simp only [ld_box hb1, hs.len, SLists.len he, go_sem, ↓reduceIte, Nat.reduceEqDiff, Nat.reduceAdd, reduceCtorEq]
  have e2 : ws.length = es.length + 1 := by omega
  have n0 : ¬ (64 < es.length ∨ ws.length ≠ es.length + 1) := by omega
  -- the widths
  refine loop_count ws.length (fun k env H' => H1 = H' ∧ env 1 = .ptr n1 0 ∧ env 4 = .int .i64 k ∧ env 3 = .int .i64 0 ∧ ∀ j, (h : j < ws.length) → j < k → ¬ ws[j] < 1) ?_ ?_ ?_
  · simp only [go_sem, ↓reduceIte, Nat.reduceEqDiff, Nat.reduceAdd, reduceCtorEq]; simp
  · rintro k env H' hk ⟨rfl, h1, h4, h3, hz⟩
    obtain ⟨p, a1, a2⟩ := (hs.mono hs1).get hk .i64
    have hk' : (k : Int) < ws.length := by omega
    simp only [go_sem, ↓reduceIte, Nat.reduceEqDiff, Nat.reduceAdd, reduceCtorEq, h1, h4, ld_box hb1, hs.len, hk', a1, a2]
    refine iteC_if (fun hx => ?_) (fun hx => ?_)
    · simp only [go_sem, ↓reduceIte, Nat.reduceEqDiff, Nat.reduceAdd, reduceCtorEq]
      refine finO_sub hs1 ⟨?_, rfl⟩
      rw [shapeI, if_neg n0, if_pos ⟨_, List.getElem_mem hk, hx⟩]
    · simp only [go_sem, ↓reduceIte, Nat.reduceEqDiff, Nat.reduceAdd, reduceCtorEq, h1, h3, h4]
      rw [wrapN1 (by omega)]
      refine ⟨by trivial, by trivial, by trivial, by trivial, fun j h hj => ?_⟩
      rcases Nat.lt_succ_iff_lt_or_eq.1 hj with hj | rfl
      · exact hz j h hj
      · exact hx
  rintro env H' ⟨rfl, h1, h4, h3, hz⟩
  have n1' : ¬ ∃ w ∈ ws, w < 1 := by
    rintro ⟨w, hw, hlt⟩
    obtain ⟨j, hj, rfl⟩ := List.getElem_of_mem hw
    exact hz j hj hj hlt
  have nn : ∀ x ∈ ws, 0 ≤ x := fun x hx => by
    have : ¬ x < 1 := fun h => n1' ⟨x, hx, h⟩
    omega
  simp only [go_sem, ↓reduceIte, Nat.reduceEqDiff, Nat.reduceAdd, reduceCtorEq, h1, h4, ld_box hb1, hs.len, Int.lt_irrefl]
  clear h4
  -- the nodes
  refine loop_count ws.length (fun k env H' => H1 = H' ∧ env 1 = .ptr n1 0 ∧ env 5 = .int .i64 k ∧ env 3 = .int .i64 (sumI (ws.take k)) ∧ sumI (ws.take k) ≤ 65536) ?_ ?_ ?_
  · simp only [go_sem, ↓reduceIte, Nat.reduceEqDiff, Nat.reduceAdd, reduceCtorEq, h1, h3]; simp [sumI]
  · rintro k env H' hk ⟨rfl, h1, h4, h3, hle⟩
    obtain ⟨p, a1, a2⟩ := (hs.mono hs1).get hk .i64
    have hge := sumI_nonneg (l := ws.take k) fun x hx => nn x (List.mem_of_mem_take hx)
    have hk' : (k : Int) < ws.length := by omega
    have hts := sumI_take_succ hk
    simp (disch := omega) only [go_sem, ↓reduceIte, Nat.reduceEqDiff, Nat.reduceAdd, reduceCtorEq, h1, h4, h3, ld_box hb1, hs.len, hk', a1, a2, wrapI]
    refine iteC_if (fun hx => ?_) (fun hx => ?_)
    · simp only [go_sem, ↓reduceIte, Nat.reduceEqDiff, Nat.reduceAdd, reduceCtorEq]
      refine finO_sub hs1 ⟨?_, rfl⟩
      have := sumI_take_le nn (k+1)
      rw [shapeI, if_neg n0, if_neg n1', if_pos (by omega)]
    · have := nn _ (List.getElem_mem hk)
      simp (disch := omega) only [go_sem, ↓reduceIte, Nat.reduceEqDiff, Nat.reduceAdd, reduceCtorEq, h1, h4, h3, ld_box hb1, a1, a2, wrapI]
      refine ⟨by trivial, by trivial, by rw [Int.natCast_add]; rfl, by rw [hts], by omega⟩
  rintro env H' ⟨rfl, h1, h4, h3, hle⟩
  rw [List.take_length] at hle
  have n2' : ¬ 65536 < sumI ws := by omega
  simp only [go_sem, ↓reduceIte, Nat.reduceEqDiff, Nat.reduceAdd, reduceCtorEq, h1, h4, ld_box hb1, hs.len, Int.lt_irrefl]
  clear h4 h3
  -- the edges
  refine loop_count es.length (fun k env H' => H1 = H' ∧ env 1 = .ptr n1 0 ∧ env 7 = .int .i64 k ∧ env 6 = .int .i64 (sumI ((lensI es).take k)) ∧ sumI ((lensI es).take k) ≤ 262144) ?_ ?_ ?_
  · simp only [go_sem, ↓reduceIte, Nat.reduceEqDiff, Nat.reduceAdd, reduceCtorEq, h1]; simp [sumI]
  · rintro k env H' hk ⟨rfl, h1, h4, h3, hle⟩
    obtain ⟨p, u, a1, a2, a3⟩ := (SSecs.mono he hs1).get hk .i64
    have hge := sumI_nonneg (l := (lensI es).take k) fun x hx => lens_nonneg es x (List.mem_of_mem_take hx)
    have hts := sumI_take_succ (l := lensI es) (k := k) (by rw [lens_len]; exact hk)
    rw [lens_get es k hk] at hts
    have := a3.lt
    have hk' : (k : Int) < es.length := by omega
    simp (disch := omega) only [go_sem, ↓reduceIte, Nat.reduceEqDiff, Nat.reduceAdd, reduceCtorEq, h1, h4, h3, ld_box hb1, SLists.len he, hk', a1, a2, a3.len, wrapI]
    refine iteC_if (fun hx => ?_) (fun hx => ?_)
    · simp only [go_sem, ↓reduceIte, Nat.reduceEqDiff, Nat.reduceAdd, reduceCtorEq]
      refine finO_sub hs1 ⟨?_, rfl⟩
      have := sumI_take_le (lens_nonneg es) (k+1)
      rw [shapeI, if_neg n0, if_neg n1', if_neg n2', if_pos (by omega)]
    · simp (disch := omega) only [go_sem, ↓reduceIte, Nat.reduceEqDiff, Nat.reduceAdd, reduceCtorEq, h1, h4, h3, ld_box hb1, a1, a2, a3.len, wrapI]
      refine ⟨by trivial, by trivial, by rw [Int.natCast_add]; rfl, by rw [hts], by omega⟩
  rintro env H' ⟨rfl, h1, h4, h3, hle⟩
  rw [List.take_of_length_le (by rw [lens_len]; exact Nat.le_refl _)] at hle
  have n3' : ¬ 262144 < sumI (lensI es) := by omega
  simp only [go_sem, ↓reduceIte, Nat.reduceEqDiff, Nat.reduceAdd, reduceCtorEq, h1, h4, ld_box hb1, SLists.len he, Int.lt_irrefl]
  clear h4 h3
  -- the ends of the edges
  refine loop_count es.length (fun k env H' => Heap.sub H1 H' ∧ env 1 = .ptr n1 0 ∧ env 8 = .int .i64 k ∧ ∀ i, (h : i < es.length) → i < k → ∀ e ∈ es[i], ¬ BadE ws i e) ?_ ?_ ?_
  · simp only [go_sem, ↓reduceIte, Nat.reduceEqDiff, Nat.reduceAdd, reduceCtorEq, h1]; simp; exact Heap.sub.rfl'
  · rintro k env H2 hk ⟨hs2, h1, h8, hz⟩
    have hk' : (k : Int) < es.length := by omega
    simp only [go_sem, ↓reduceIte, Nat.reduceEqDiff, Nat.reduceAdd, reduceCtorEq, h1, h8, ld_box (hs2 _ _ hb1), SLists.len he, hk']
    obtain ⟨pe, ue, ae1, ae2, ae3⟩ := (SSecs.mono he hs1).get hk .i64
    have hl3 := ae3.lt
    refine loop_count es[k].length (fun j env H' => Heap.sub H1 H' ∧ env 1 = .ptr n1 0 ∧ env 8 = .int .i64 k ∧ env 9 = .int .i64 j ∧ ∀ i, (h : i < es[k].length) → i < j → ¬ BadE ws k es[k][i]) ?_ ?_ ?_
    · simp only [go_sem, ↓reduceIte, Nat.reduceEqDiff, Nat.reduceAdd, reduceCtorEq, h1, h8]; simp [hs2]
    · rintro j env H3 hj ⟨hs3, h1, h8, h9, hy⟩
      obtain ⟨p, u, a1, a2, a3⟩ := (SSecs.mono he (hs1.trans' hs3)).get hk .i64
      obtain ⟨p, q0, q1, q2, b1, b2, b3, b4, b5, b6, b7, b8⟩ := a3.get hj .i64
      have hj' : (j : Int) < es[k].length := by omega
      simp only [go_sem, ↓reduceIte, Nat.reduceEqDiff, Nat.reduceAdd, reduceCtorEq, h1, h8, h9, ld_box (hs3 _ _ hb1), a1, a2, a3.len, b1, b2, hj']
      refine newC_intro fun n4 H4 hn4 hs4 hb4 => ?_
      simp only [go_sem, ↓reduceIte, Nat.reduceEqDiff, Nat.reduceAdd, reduceCtorEq, h1, h8, h9]
      refine stC_intro hb4 trivial rfl (by decide) (by decide) fun H5 hb5 hf5 hs5 => ?_
      simp only [Ed.cells, fillV, List.length_cons, List.length_nil, splice, Nat.reduceLeDiff, Nat.zero_lt_one, and_self, List.take_zero, List.take_succ_cons, List.drop_succ_cons, List.drop_zero, List.drop_nil, Nat.reduceLT, Nat.le_refl, go_sem, ↓reduceIte, Nat.reduceEqDiff, Nat.reduceAdd, reduceCtorEq] at hb5
      have hs15 : Heap.sub H1 H5 := hs5 H1 (hs3.trans' hs4) (hs3.none' hn4)
      have hb15 := hs15 _ _ hb1
      obtain ⟨pw, w1, w2⟩ := (hs.mono (hs1.trans' hs15)).get (k := k) (by omega) .i64
      obtain ⟨pw', w3, w4⟩ := (hs.mono (hs1.trans' hs15)).get (k := k+1) (by omega) .i64
      have g1 : ws[k]?.getD 0 = ws[k] := by simp [show k < ws.length by omega]
      have g2 : ws[k+1]?.getD 0 = ws[k+1] := by simp [show k+1 < ws.length by omega]
      simp only [go_sem, ↓reduceIte, Nat.reduceEqDiff, Nat.reduceAdd, reduceCtorEq, h1, h8, h9, ld_box hb5]
      have done6 : ∀ i (hi : i < es[k].length), BadE ws k es[k][i] → (V.int .i64 6 = V.int .i64 (shapeI ws es)) := by
        intro i hi hb
        rw [shapeI, if_neg n0, if_neg n1', if_neg n2', if_neg n3', if_pos ⟨k, hk, _, List.getElem_mem hi, hb⟩]
      by_cases d1 : es[k][j].fr < 0
      · simp only [d1, go_sem, ↓reduceIte, Nat.reduceEqDiff, Nat.reduceAdd, reduceCtorEq]
        exact finO_sub (hs1.trans' hs15) ⟨done6 j hj (.inl d1), rfl⟩
      simp only [d1, go_sem, ↓reduceIte, Nat.reduceEqDiff, Nat.reduceAdd, reduceCtorEq, h1, h8, ld_box hb5, ld_box hb15, w1, w2]
      by_cases d2 : ws[k] ≤ es[k][j].fr
      · simp only [d2, go_sem, ↓reduceIte, Nat.reduceEqDiff, Nat.reduceAdd, reduceCtorEq]
        exact finO_sub (hs1.trans' hs15) ⟨done6 j hj (.inr (.inl (by rw [g1]; exact d2))), rfl⟩
      simp only [d2, go_sem, ↓reduceIte, Nat.reduceEqDiff, Nat.reduceAdd, reduceCtorEq, h1, h8, ld_box hb5, ld_box hb15, w1, w2]
      by_cases d3 : es[k][j].to < 0
      · simp only [d3, go_sem, ↓reduceIte, Nat.reduceEqDiff, Nat.reduceAdd, reduceCtorEq]
        exact finO_sub (hs1.trans' hs15) ⟨done6 j hj (.inr (.inr (.inl d3))), rfl⟩
      simp only [d3, go_sem, ↓reduceIte, Nat.reduceEqDiff, Nat.reduceAdd, reduceCtorEq, h1, h8, ld_box hb5, ld_box hb15, w1, w2]
      rw [wrapN1 (by omega)]
      simp only [w3, w4, go_sem, ↓reduceIte, Nat.reduceEqDiff, Nat.reduceAdd, reduceCtorEq]
      refine iteC_if (fun d4 => ?_) (fun d4 => ?_)
      · simp only [go_sem, ↓reduceIte, Nat.reduceEqDiff, Nat.reduceAdd, reduceCtorEq]
        exact finO_sub (hs1.trans' hs15) ⟨done6 j hj (.inr (.inr (.inr (by rw [g2]; exact d4)))), rfl⟩
      simp only [go_sem, ↓reduceIte, Nat.reduceEqDiff, Nat.reduceAdd, reduceCtorEq, h1, h8, h9]
      rw [wrapN1 (by omega)]
      refine ⟨hs15, by trivial, by trivial, by trivial, fun i h hi => ?_⟩
      rcases Nat.lt_succ_iff_lt_or_eq.1 hi with hi | rfl
      · exact hy i h hi
      · rintro (h | h | h | h)
        · exact d1 h
        · rw [g1] at h; exact d2 h
        · exact d3 h
        · rw [g2] at h; exact d4 h
    · rintro env H' ⟨hs3, h1, h8, h9, hy⟩
      obtain ⟨p, u, a1, a2, a3⟩ := (SSecs.mono he (hs1.trans' hs3)).get hk .i64
      simp only [go_sem, ↓reduceIte, Nat.reduceEqDiff, Nat.reduceAdd, reduceCtorEq, h1, h8, h9, ld_box (hs3 _ _ hb1), a1, a2, a3.len, Int.lt_irrefl]
      rw [wrapN1 (by omega)]
      refine ⟨hs3, by trivial, by trivial, fun i h hi => ?_⟩
      rcases Nat.lt_succ_iff_lt_or_eq.1 hi with hi | rfl
      · exact hz i h hi
      · intro e he'
        obtain ⟨j, hj, rfl⟩ := List.getElem_of_mem he'
        exact hy j hj hj
  · rintro env H' ⟨hs2, h1, h8, hz⟩
    simp only [go_sem, ↓reduceIte, Nat.reduceEqDiff, Nat.reduceAdd, reduceCtorEq, h1, h8, ld_box (hs2 _ _ hb1), SLists.len he, Int.lt_irrefl]
    refine finO_sub (hs1.trans' hs2) ⟨?_, rfl⟩
    rw [shapeI, if_neg n0, if_neg n1', if_neg n2', if_neg n3', if_neg]
    rintro ⟨i, hi, e, he', hb⟩
    exact hz i hi hi e he' hb
end Go.AM
