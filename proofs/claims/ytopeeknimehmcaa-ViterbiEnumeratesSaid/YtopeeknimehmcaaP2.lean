/- codewrightref46.Shape. Conditions: none. -/
import Derived.Test.YtopeeknimehmcaaP1
set_option linter.unusedVariables false
set_option linter.unusedSimpArgs false
namespace Go.AM
open Go Go.Proofs
attribute [local go_sem] c_skip c_ops c_seq c_ite c_blk c_exit c_ret t_normal t_exit t_ret b_normal b_exit b_ret i_nil i_cons s_guard s_mov s_pick s_new s_zero s_ld s_ldr s_st s_bin s_beq s_isnil s_eqs s_un s_conv s_fa s_fld s_ia s_sli s_ext s_ifc s_mkf s_agg s_len s_mm s_nilchk s_bsl s_mk s_app s_cpy s_call s_inv cells_agg cells_int cells_bool p_get p_none o_s o_c e_0 e_1 e_2 e_3 e_4 iteC_true iteC_false grd_tt grd_tf grd_ft grd_ff grd_und bindV_some pickV_t pickV_f beq_bool conv_int un_not not_dec mm_min mm_max bv_add bv_sub bv_mul bv_eql bv_neq bv_lss bv_leq bv_gtr bv_geq f_normal f_one f_two f_three f_none fa_ptr fld_one ext_tup len_sl len_nils decide_true decide_false not_true_eq_false not_false_eq_true List.map_cons List.map_nil List.append_nil List.cons_append List.nil_append Nat.zero_add Nat.add_zero Nat.mul_one Nat.succ_ne_self if_true if_false List.getElem?_cons_zero List.getElem?_cons_succ

/-- codewrightref46.Shape -/
def F16 : AF := ⟨138, [(2, none)], (.seq (.ops [⟨none, false, (some 1), (.new (.s 0))⟩, ⟨none, false, (some 2), (.mov (.c (.int .i64 (0))))⟩]) (.seq (.seq (.ops [⟨none, false, (some 11), (.fa 1 (.s 1))⟩, ⟨none, false, (some 12), (.ld false 1 (.s 11) none)⟩, ⟨none, false, (some 13), (.len (.s 12))⟩, ⟨none, false, (some 14), (.bin .gtr (.s 13) (.c (.int .i64 (64))))⟩, ⟨none, false, (some 15), (.mov (.s 14))⟩, ⟨(some (15, false)), false, (some 16), (.fa 0 (.s 1))⟩, ⟨(some (15, false)), false, (some 17), (.ld false 1 (.s 16) none)⟩, ⟨(some (15, false)), false, (some 18), (.len (.s 17))⟩, ⟨(some (15, false)), false, (some 19), (.fa 1 (.s 1))⟩, ⟨(some (15, false)), false, (some 20), (.ld false 1 (.s 19) none)⟩, ⟨(some (15, false)), false, (some 21), (.len (.s 20))⟩, ⟨(some (15, false)), false, (some 22), (.bin .add (.s 21) (.c (.int .i64 (1))))⟩, ⟨(some (15, false)), false, (some 23), (.bin .neq (.s 18) (.s 22))⟩, ⟨none, false, (some 24), (.pick (.s 15) (.c (.bool true)) (.s 23))⟩]) (.ite (.s 24) (.seq (.ops [⟨none, false, (some 2), (.mov (.c (.int .i64 (3))))⟩]) .ret) .skip)) (.seq (.ops [⟨none, false, (some 3), (.mov (.c (.int .i64 (0))))⟩]) (.seq (.seq (.ops [⟨none, false, (some 4), (.mov (.c (.int .i64 (0))))⟩]) (.blk 0 (.loop (.seq (.seq (.ops [⟨none, false, (some 25), (.mov (.s 4))⟩, ⟨none, false, (some 26), (.fa 0 (.s 1))⟩, ⟨none, false, (some 27), (.ld false 1 (.s 26) none)⟩, ⟨none, false, (some 28), (.len (.s 27))⟩, ⟨none, false, (some 29), (.bin .lss (.s 25) (.s 28))⟩]) (.ite (.s 29) .skip (.exit 0))) (.seq (.blk 1 (.seq (.ops [⟨none, false, (some 32), (.fa 0 (.s 1))⟩, ⟨none, false, (some 33), (.ld false 1 (.s 32) none)⟩, ⟨none, false, (some 34), (.mov (.s 4))⟩, ⟨none, false, (some 35), (.ia 1 (.s 33) (.s 34))⟩, ⟨none, false, (some 36), (.ld false 1 (.s 35) none)⟩, ⟨none, false, (some 37), (.bin .lss (.s 36) (.c (.int .i64 (1))))⟩]) (.ite (.s 37) (.seq (.ops [⟨none, false, (some 2), (.mov (.c (.int .i64 (6))))⟩]) .ret) .skip))) (.ops [⟨none, false, (some 30), (.mov (.s 4))⟩, ⟨none, false, (some 31), (.bin .add (.s 30) (.c (.int .i64 (1))))⟩, ⟨none, false, (some 4), (.mov (.s 31))⟩])))))) (.seq (.seq (.ops [⟨none, false, (some 5), (.mov (.c (.int .i64 (0))))⟩]) (.blk 2 (.loop (.seq (.seq (.ops [⟨none, false, (some 38), (.mov (.s 5))⟩, ⟨none, false, (some 39), (.fa 0 (.s 1))⟩, ⟨none, false, (some 40), (.ld false 1 (.s 39) none)⟩, ⟨none, false, (some 41), (.len (.s 40))⟩, ⟨none, false, (some 42), (.bin .lss (.s 38) (.s 41))⟩]) (.ite (.s 42) .skip (.exit 2))) (.seq (.blk 3 (.seq (.seq (.ops [⟨none, false, (some 45), (.fa 0 (.s 1))⟩, ⟨none, false, (some 46), (.ld false 1 (.s 45) none)⟩, ⟨none, false, (some 47), (.mov (.s 5))⟩, ⟨none, false, (some 48), (.ia 1 (.s 46) (.s 47))⟩, ⟨none, false, (some 49), (.ld false 1 (.s 48) none)⟩, ⟨none, false, (some 50), (.mov (.s 3))⟩, ⟨none, false, (some 51), (.bin .sub (.c (.int .i64 (65536))) (.s 50))⟩, ⟨none, false, (some 52), (.bin .gtr (.s 49) (.s 51))⟩]) (.ite (.s 52) (.seq (.ops [⟨none, false, (some 2), (.mov (.c (.int .i64 (8))))⟩]) .ret) .skip)) (.ops [⟨none, false, (some 53), (.mov (.s 3))⟩, ⟨none, false, (some 54), (.fa 0 (.s 1))⟩, ⟨none, false, (some 55), (.ld false 1 (.s 54) none)⟩, ⟨none, false, (some 56), (.mov (.s 5))⟩, ⟨none, false, (some 57), (.ia 1 (.s 55) (.s 56))⟩, ⟨none, false, (some 58), (.ld false 1 (.s 57) none)⟩, ⟨none, false, (some 59), (.bin .add (.s 53) (.s 58))⟩, ⟨none, false, (some 3), (.mov (.s 59))⟩]))) (.ops [⟨none, false, (some 43), (.mov (.s 5))⟩, ⟨none, false, (some 44), (.bin .add (.s 43) (.c (.int .i64 (1))))⟩, ⟨none, false, (some 5), (.mov (.s 44))⟩])))))) (.seq (.ops [⟨none, false, (some 6), (.mov (.c (.int .i64 (0))))⟩]) (.seq (.seq (.ops [⟨none, false, (some 7), (.mov (.c (.int .i64 (0))))⟩]) (.blk 4 (.loop (.seq (.seq (.ops [⟨none, false, (some 60), (.mov (.s 7))⟩, ⟨none, false, (some 61), (.fa 1 (.s 1))⟩, ⟨none, false, (some 62), (.ld false 1 (.s 61) none)⟩, ⟨none, false, (some 63), (.len (.s 62))⟩, ⟨none, false, (some 64), (.bin .lss (.s 60) (.s 63))⟩]) (.ite (.s 64) .skip (.exit 4))) (.seq (.blk 5 (.seq (.seq (.ops [⟨none, false, (some 67), (.fa 1 (.s 1))⟩, ⟨none, false, (some 68), (.ld false 1 (.s 67) none)⟩, ⟨none, false, (some 69), (.mov (.s 7))⟩, ⟨none, false, (some 70), (.ia 1 (.s 68) (.s 69))⟩, ⟨none, false, (some 71), (.ld false 1 (.s 70) none)⟩, ⟨none, false, (some 72), (.len (.s 71))⟩, ⟨none, false, (some 73), (.mov (.s 6))⟩, ⟨none, false, (some 74), (.bin .sub (.c (.int .i64 (262144))) (.s 73))⟩, ⟨none, false, (some 75), (.bin .gtr (.s 72) (.s 74))⟩]) (.ite (.s 75) (.seq (.ops [⟨none, false, (some 2), (.mov (.c (.int .i64 (8))))⟩]) .ret) .skip)) (.ops [⟨none, false, (some 76), (.mov (.s 6))⟩, ⟨none, false, (some 77), (.fa 1 (.s 1))⟩, ⟨none, false, (some 78), (.ld false 1 (.s 77) none)⟩, ⟨none, false, (some 79), (.mov (.s 7))⟩, ⟨none, false, (some 80), (.ia 1 (.s 78) (.s 79))⟩, ⟨none, false, (some 81), (.ld false 1 (.s 80) none)⟩, ⟨none, false, (some 82), (.len (.s 81))⟩, ⟨none, false, (some 83), (.bin .add (.s 76) (.s 82))⟩, ⟨none, false, (some 6), (.mov (.s 83))⟩]))) (.ops [⟨none, false, (some 65), (.mov (.s 7))⟩, ⟨none, false, (some 66), (.bin .add (.s 65) (.c (.int .i64 (1))))⟩, ⟨none, false, (some 7), (.mov (.s 66))⟩])))))) (.seq (.seq (.ops [⟨none, false, (some 8), (.mov (.c (.int .i64 (0))))⟩]) (.blk 6 (.loop (.seq (.seq (.ops [⟨none, false, (some 84), (.mov (.s 8))⟩, ⟨none, false, (some 85), (.fa 1 (.s 1))⟩, ⟨none, false, (some 86), (.ld false 1 (.s 85) none)⟩, ⟨none, false, (some 87), (.len (.s 86))⟩, ⟨none, false, (some 88), (.bin .lss (.s 84) (.s 87))⟩]) (.ite (.s 88) .skip (.exit 6))) (.seq (.blk 7 (.seq (.ops [⟨none, false, (some 9), (.mov (.c (.int .i64 (0))))⟩]) (.blk 8 (.loop (.seq (.seq (.ops [⟨none, false, (some 91), (.mov (.s 9))⟩, ⟨none, false, (some 92), (.fa 1 (.s 1))⟩, ⟨none, false, (some 93), (.ld false 1 (.s 92) none)⟩, ⟨none, false, (some 94), (.mov (.s 8))⟩, ⟨none, false, (some 95), (.ia 1 (.s 93) (.s 94))⟩, ⟨none, false, (some 96), (.ld false 1 (.s 95) none)⟩, ⟨none, false, (some 97), (.len (.s 96))⟩, ⟨none, false, (some 98), (.bin .lss (.s 91) (.s 97))⟩]) (.ite (.s 98) .skip (.exit 8))) (.seq (.blk 9 (.seq (.ops [⟨none, false, (some 101), (.fa 1 (.s 1))⟩, ⟨none, false, (some 102), (.ld false 1 (.s 101) none)⟩, ⟨none, false, (some 103), (.mov (.s 8))⟩, ⟨none, false, (some 104), (.ia 1 (.s 102) (.s 103))⟩, ⟨none, false, (some 105), (.ld false 1 (.s 104) none)⟩, ⟨none, false, (some 106), (.mov (.s 9))⟩, ⟨none, false, (some 107), (.ia 3 (.s 105) (.s 106))⟩, ⟨none, false, (some 108), (.ld true 3 (.s 107) none)⟩, ⟨none, false, (some 10), (.zero [(.int .i64 (0)), (.int .i64 (0)), (.int .i64 (0))])⟩, ⟨none, false, none, (.st 3 (.s 10) (.s 108) [])⟩]) (.seq (.ops [⟨none, false, (some 109), (.fa 0 (.s 10))⟩, ⟨none, false, (some 110), (.ld false 1 (.s 109) none)⟩, ⟨none, false, (some 111), (.bin .lss (.s 110) (.c (.int .i64 (0))))⟩, ⟨none, false, (some 112), (.mov (.s 111))⟩, ⟨(some (112, false)), false, (some 113), (.fa 0 (.s 10))⟩, ⟨(some (112, false)), false, (some 115), (.fa 0 (.s 1))⟩, ⟨(some (112, false)), false, (some 117), (.mov (.s 8))⟩, ⟨(some (112, false)), false, (some 114), (.ld false 1 (.s 113) none)⟩, ⟨(some (112, false)), false, (some 116), (.ld false 1 (.s 115) none)⟩, ⟨(some (112, false)), false, (some 118), (.ia 1 (.s 116) (.s 117))⟩, ⟨(some (112, false)), false, (some 119), (.ld false 1 (.s 118) none)⟩, ⟨(some (112, false)), false, (some 120), (.bin .geq (.s 114) (.s 119))⟩, ⟨none, false, (some 121), (.pick (.s 112) (.c (.bool true)) (.s 120))⟩, ⟨none, false, (some 122), (.mov (.s 121))⟩, ⟨(some (122, false)), false, (some 123), (.fa 2 (.s 10))⟩, ⟨(some (122, false)), false, (some 124), (.ld false 1 (.s 123) none)⟩, ⟨(some (122, false)), false, (some 125), (.bin .lss (.s 124) (.c (.int .i64 (0))))⟩, ⟨none, false, (some 126), (.pick (.s 122) (.c (.bool true)) (.s 125))⟩, ⟨none, false, (some 127), (.mov (.s 126))⟩, ⟨(some (127, false)), false, (some 128), (.fa 2 (.s 10))⟩, ⟨(some (127, false)), false, (some 130), (.fa 0 (.s 1))⟩, ⟨(some (127, false)), false, (some 132), (.mov (.s 8))⟩, ⟨(some (127, false)), false, (some 133), (.bin .add (.s 132) (.c (.int .i64 (1))))⟩, ⟨(some (127, false)), false, (some 129), (.ld false 1 (.s 128) none)⟩, ⟨(some (127, false)), false, (some 131), (.ld false 1 (.s 130) none)⟩, ⟨(some (127, false)), false, (some 134), (.ia 1 (.s 131) (.s 133))⟩, ⟨(some (127, false)), false, (some 135), (.ld false 1 (.s 134) none)⟩, ⟨(some (127, false)), false, (some 136), (.bin .geq (.s 129) (.s 135))⟩, ⟨none, false, (some 137), (.pick (.s 127) (.c (.bool true)) (.s 136))⟩]) (.ite (.s 137) (.seq (.ops [⟨none, false, (some 2), (.mov (.c (.int .i64 (6))))⟩]) .ret) .skip)))) (.ops [⟨none, false, (some 99), (.mov (.s 9))⟩, ⟨none, false, (some 100), (.bin .add (.s 99) (.c (.int .i64 (1))))⟩, ⟨none, false, (some 9), (.mov (.s 100))⟩]))))))) (.ops [⟨none, false, (some 89), (.mov (.s 8))⟩, ⟨none, false, (some 90), (.bin .add (.s 89) (.c (.int .i64 (1))))⟩, ⟨none, false, (some 8), (.mov (.s 90))⟩])))))) (.seq (.ops [⟨none, false, (some 2), (.mov (.c (.int .i64 (0))))⟩]) .ret)))))))))⟩
theorem cv16 : cvF Try.prog 16 = some F16 := by kernel_rfl


theorem rShape_spec {sv ev : V} {ws : List Int} {es : List (List Ed)} {H : Heap} (hs : SInts H sv ws) (he : SSecs H ev es) : ACalls Try.prog 16 [.agg [sv, ev]] H fun u H' => u = .int .i64 (shapeI ws es) ∧ H' = H := by
  refine ACalls.of_body hm cv16 (by simp only [List.length_cons, List.length_nil]; decide) ?_
  simp only [F16, go_sem, ↓reduceIte, Nat.reduceEqDiff, Nat.reduceAdd, reduceCtorEq]
  refine newC_intro fun n1 H1 hn1 hs1 hb1 => ?_
  have hl1 := hs.lt
  have hl2 := SLists.lt he
  simp only [ld_box hb1, hs.len, SLists.len he, go_sem, ↓reduceIte, Nat.reduceEqDiff, Nat.reduceAdd, reduceCtorEq]
  by_cases c1 : (64 : Int) < es.length
  · simp only [c1, go_sem, ↓reduceIte, Nat.reduceEqDiff, Nat.reduceAdd, reduceCtorEq]
    refine finO_sub hs1 ⟨?_, rfl⟩
    rw [shapeI, if_pos (.inl (by omega))]
  simp only [c1, ld_box hb1, hs.len, SLists.len he, go_sem, ↓reduceIte, Nat.reduceEqDiff, Nat.reduceAdd, reduceCtorEq]
  rw [wrapN1 (by omega)]
  refine iteC_if (fun c2 => ?_) (fun c2 => ?_)
  · simp only [go_sem, ↓reduceIte, Nat.reduceEqDiff, Nat.reduceAdd, reduceCtorEq]
    refine finO_sub hs1 ⟨?_, rfl⟩
    rw [shapeI, if_pos (.inr (by omega))]
  simp only [ld_box hb1, hs.len, SLists.len he, go_sem, ↓reduceIte, Nat.reduceEqDiff, Nat.reduceAdd, reduceCtorEq]
  have e2 : ws.length = es.length + 1 := by omega
  have n0 : ¬ (64 < es.length ∨ ws.length ≠ es.length + 1) := by omega
  -- the widths
  refine loop_count ws.length (fun k env H' => H1 = H' ∧ env 1 = .ptr n1 0 ∧ env 4 = .int .i64 k ∧ env 3 = .int .i64 0 ∧ ∀ j, (h : j < ws.length) → j < k → ¬ ws[j] < 1) ?_ ?_ ?_
  · simp only [go_sem, ↓reduceIte, Nat.reduceEqDiff, Nat.reduceAdd, reduceCtorEq]; simp
  · rintro k env H' hk ⟨rfl, h1, h4, h3, hz⟩
    obtain ⟨p, a1, a2⟩ := (hs.mono hs1).get hk .i64
    have hk' : (k : Int) < ws.length := by omega
    simp only [go_sem, ↓reduceIte, Nat.reduceEqDiff, Nat.reduceAdd, reduceCtorEq, h1, h4, ld_box hb1, hs.len, hk', a1, a2]
    refine iteC_if (fun hx => ?_) (fun hx => ?_)
    · simp only [go_sem, ↓reduceIte, Nat.reduceEqDiff, Nat.reduceAdd, reduceCtorEq]
      refine finO_sub hs1 ⟨?_, rfl⟩
      rw [shapeI, if_neg n0, if_pos ⟨_, List.getElem_mem hk, hx⟩]
    · simp only [go_sem, ↓reduceIte, Nat.reduceEqDiff, Nat.reduceAdd, reduceCtorEq, h1, h3, h4]
      rw [wrapN1 (by omega)]
      refine ⟨by trivial, by trivial, by trivial, by trivial, fun j h hj => ?_⟩
      rcases Nat.lt_succ_iff_lt_or_eq.1 hj with hj | rfl
      · exact hz j h hj
      · exact hx
  rintro env H' ⟨rfl, h1, h4, h3, hz⟩
  have n1' : ¬ ∃ w ∈ ws, w < 1 := by
    rintro ⟨w, hw, hlt⟩
    obtain ⟨j, hj, rfl⟩ := List.getElem_of_mem hw
    exact hz j hj hj hlt
  have nn : ∀ x ∈ ws, 0 ≤ x := fun x hx => by
    have : ¬ x < 1 := fun h => n1' ⟨x, hx, h⟩
    omega
  simp only [go_sem, ↓reduceIte, Nat.reduceEqDiff, Nat.reduceAdd, reduceCtorEq, h1, h4, ld_box hb1, hs.len, Int.lt_irrefl]
  clear h4
  -- the nodes
  refine loop_count ws.length (fun k env H' => H1 = H' ∧ env 1 = .ptr n1 0 ∧ env 5 = .int .i64 k ∧ env 3 = .int .i64 (sumI (ws.take k)) ∧ sumI (ws.take k) ≤ 65536) ?_ ?_ ?_
  · simp only [go_sem, ↓reduceIte, Nat.reduceEqDiff, Nat.reduceAdd, reduceCtorEq, h1, h3]; simp [sumI]
  · rintro k env H' hk ⟨rfl, h1, h4, h3, hle⟩
    obtain ⟨p, a1, a2⟩ := (hs.mono hs1).get hk .i64
    have hge := sumI_nonneg (l := ws.take k) fun x hx => nn x (List.mem_of_mem_take hx)
    have hk' : (k : Int) < ws.length := by omega
    have hts := sumI_take_succ hk
    simp (disch := omega) only [go_sem, ↓reduceIte, Nat.reduceEqDiff, Nat.reduceAdd, reduceCtorEq, h1, h4, h3, ld_box hb1, hs.len, hk', a1, a2, wrapI]
    refine iteC_if (fun hx => ?_) (fun hx => ?_)
    · simp only [go_sem, ↓reduceIte, Nat.reduceEqDiff, Nat.reduceAdd, reduceCtorEq]
      refine finO_sub hs1 ⟨?_, rfl⟩
      have := sumI_take_le nn (k+1)
      rw [shapeI, if_neg n0, if_neg n1', if_pos (by omega)]
    · have := nn _ (List.getElem_mem hk)
      simp (disch := omega) only [go_sem, ↓reduceIte, Nat.reduceEqDiff, Nat.reduceAdd, reduceCtorEq, h1, h4, h3, ld_box hb1, a1, a2, wrapI]
      refine ⟨by trivial, by trivial, by rw [Int.natCast_add]; rfl, by rw [hts], by omega⟩
  rintro env H' ⟨rfl, h1, h4, h3, hle⟩
  rw [List.take_length] at hle
  have n2' : ¬ 65536 < sumI ws := by omega
  simp only [go_sem, ↓reduceIte, Nat.reduceEqDiff, Nat.reduceAdd, reduceCtorEq, h1, h4, ld_box hb1, hs.len, Int.lt_irrefl]
  clear h4 h3
  -- the edges
  refine loop_count es.length (fun k env H' => H1 = H' ∧ env 1 = .ptr n1 0 ∧ env 7 = .int .i64 k ∧ env 6 = .int .i64 (sumI ((lensI es).take k)) ∧ sumI ((lensI es).take k) ≤ 262144) ?_ ?_ ?_
  · simp only [go_sem, ↓reduceIte, Nat.reduceEqDiff, Nat.reduceAdd, reduceCtorEq, h1]; simp [sumI]
  · rintro k env H' hk ⟨rfl, h1, h4, h3, hle⟩
    obtain ⟨p, u, a1, a2, a3⟩ := (SSecs.mono he hs1).get hk .i64
    have hge := sumI_nonneg (l := (lensI es).take k) fun x hx => lens_nonneg es x (List.mem_of_mem_take hx)
    have hts := sumI_take_succ (l := lensI es) (k := k) (by rw [lens_len]; exact hk)
    rw [lens_get es k hk] at hts
    have := a3.lt
    have hk' : (k : Int) < es.length := by omega
    simp (disch := omega) only [go_sem, ↓reduceIte, Nat.reduceEqDiff, Nat.reduceAdd, reduceCtorEq, h1, h4, h3, ld_box hb1, SLists.len he, hk', a1, a2, a3.len, wrapI]
    refine iteC_if (fun hx => ?_) (fun hx => ?_)
    · simp only [go_sem, ↓reduceIte, Nat.reduceEqDiff, Nat.reduceAdd, reduceCtorEq]
      refine finO_sub hs1 ⟨?_, rfl⟩
      have := sumI_take_le (lens_nonneg es) (k+1)
      rw [shapeI, if_neg n0, if_neg n1', if_neg n2', if_pos (by omega)]
    · simp (disch := omega) only [go_sem, ↓reduceIte, Nat.reduceEqDiff, Nat.reduceAdd, reduceCtorEq, h1, h4, h3, ld_box hb1, a1, a2, a3.len, wrapI]
      refine ⟨by trivial, by trivial, by rw [Int.natCast_add]; rfl, by rw [hts], by omega⟩
  rintro env H' ⟨rfl, h1, h4, h3, hle⟩
  rw [List.take_of_length_le (by rw [lens_len]; exact Nat.le_refl _)] at hle
  have n3' : ¬ 262144 < sumI (lensI es) := by omega
  simp only [go_sem, ↓reduceIte, Nat.reduceEqDiff, Nat.reduceAdd, reduceCtorEq, h1, h4, ld_box hb1, SLists.len he, Int.lt_irrefl]
  clear h4 h3
  -- the ends of the edges
  refine loop_count es.length (fun k env H' => Heap.sub H1 H' ∧ env 1 = .ptr n1 0 ∧ env 8 = .int .i64 k ∧ ∀ i, (h : i < es.length) → i < k → ∀ e ∈ es[i], ¬ BadE ws i e) ?_ ?_ ?_
  · simp only [go_sem, ↓reduceIte, Nat.reduceEqDiff, Nat.reduceAdd, reduceCtorEq, h1]; simp; exact Heap.sub.rfl'
  · rintro k env H2 hk ⟨hs2, h1, h8, hz⟩
    have hk' : (k : Int) < es.length := by omega
    simp only [go_sem, ↓reduceIte, Nat.reduceEqDiff, Nat.reduceAdd, reduceCtorEq, h1, h8, ld_box (hs2 _ _ hb1), SLists.len he, hk']
    obtain ⟨pe, ue, ae1, ae2, ae3⟩ := (SSecs.mono he hs1).get hk .i64
    have hl3 := ae3.lt
    refine loop_count es[k].length (fun j env H' => Heap.sub H1 H' ∧ env 1 = .ptr n1 0 ∧ env 8 = .int .i64 k ∧ env 9 = .int .i64 j ∧ ∀ i, (h : i < es[k].length) → i < j → ¬ BadE ws k es[k][i]) ?_ ?_ ?_
    · simp only [go_sem, ↓reduceIte, Nat.reduceEqDiff, Nat.reduceAdd, reduceCtorEq, h1, h8]; simp [hs2]
    · rintro j env H3 hj ⟨hs3, h1, h8, h9, hy⟩
      obtain ⟨p, u, a1, a2, a3⟩ := (SSecs.mono he (hs1.trans' hs3)).get hk .i64
      obtain ⟨p, q0, q1, q2, b1, b2, b3, b4, b5, b6, b7, b8⟩ := a3.get hj .i64
      have hj' : (j : Int) < es[k].length := by omega
      simp only [go_sem, ↓reduceIte, Nat.reduceEqDiff, Nat.reduceAdd, reduceCtorEq, h1, h8, h9, ld_box (hs3 _ _ hb1), a1, a2, a3.len, b1, b2, hj']
      refine newC_intro fun n4 H4 hn4 hs4 hb4 => ?_
      simp only [go_sem, ↓reduceIte, Nat.reduceEqDiff, Nat.reduceAdd, reduceCtorEq, h1, h8, h9]
      refine stC_intro hb4 trivial rfl (by decide) (by decide) fun H5 hb5 hf5 hs5 => ?_
      simp only [Ed.cells, fillV, List.length_cons, List.length_nil, splice, Nat.reduceLeDiff, Nat.zero_lt_one, and_self, List.take_zero, List.take_succ_cons, List.drop_succ_cons, List.drop_zero, List.drop_nil, Nat.reduceLT, Nat.le_refl, go_sem, ↓reduceIte, Nat.reduceEqDiff, Nat.reduceAdd, reduceCtorEq] at hb5
      have hs15 : Heap.sub H1 H5 := hs5 H1 (hs3.trans' hs4) (hs3.none' hn4)
      have hb15 := hs15 _ _ hb1
      obtain ⟨pw, w1, w2⟩ := (hs.mono (hs1.trans' hs15)).get (k := k) (by omega) .i64
      obtain ⟨pw', w3, w4⟩ := (hs.mono (hs1.trans' hs15)).get (k := k+1) (by omega) .i64
      have g1 : ws[k]?.getD 0 = ws[k] := by simp [show k < ws.length by omega]
      have g2 : ws[k+1]?.getD 0 = ws[k+1] := by simp [show k+1 < ws.length by omega]
      simp only [go_sem, ↓reduceIte, Nat.reduceEqDiff, Nat.reduceAdd, reduceCtorEq, h1, h8, h9, ld_box hb5]
      have done6 : ∀ i (hi : i < es[k].length), BadE ws k es[k][i] → (V.int .i64 6 = V.int .i64 (shapeI ws es)) := by
        intro i hi hb
        rw [shapeI, if_neg n0, if_neg n1', if_neg n2', if_neg n3', if_pos ⟨k, hk, _, List.getElem_mem hi, hb⟩]
      by_cases d1 : es[k][j].fr < 0
      · simp only [d1, go_sem, ↓reduceIte, Nat.reduceEqDiff, Nat.reduceAdd, reduceCtorEq]
        exact finO_sub (hs1.trans' hs15) ⟨done6 j hj (.inl d1), rfl⟩
      simp only [d1, go_sem, ↓reduceIte, Nat.reduceEqDiff, Nat.reduceAdd, reduceCtorEq, h1, h8, ld_box hb5, ld_box hb15, w1, w2]
      by_cases d2 : ws[k] ≤ es[k][j].fr
      · simp only [d2, go_sem, ↓reduceIte, Nat.reduceEqDiff, Nat.reduceAdd, reduceCtorEq]
        exact finO_sub (hs1.trans' hs15) ⟨done6 j hj (.inr (.inl (by rw [g1]; exact d2))), rfl⟩
      simp only [d2, go_sem, ↓reduceIte, Nat.reduceEqDiff, Nat.reduceAdd, reduceCtorEq, h1, h8, ld_box hb5, ld_box hb15, w1, w2]
      by_cases d3 : es[k][j].to < 0
      · simp only [d3, go_sem, ↓reduceIte, Nat.reduceEqDiff, Nat.reduceAdd, reduceCtorEq]
        exact finO_sub (hs1.trans' hs15) ⟨done6 j hj (.inr (.inr (.inl d3))), rfl⟩
      simp only [d3, go_sem, ↓reduceIte, Nat.reduceEqDiff, Nat.reduceAdd, reduceCtorEq, h1, h8, ld_box hb5, ld_box hb15, w1, w2]
      rw [wrapN1 (by omega)]
      simp only [w3, w4, go_sem, ↓reduceIte, Nat.reduceEqDiff, Nat.reduceAdd, reduceCtorEq]
      refine iteC_if (fun d4 => ?_) (fun d4 => ?_)
      · simp only [go_sem, ↓reduceIte, Nat.reduceEqDiff, Nat.reduceAdd, reduceCtorEq]
        exact finO_sub (hs1.trans' hs15) ⟨done6 j hj (.inr (.inr (.inr (by rw [g2]; exact d4)))), rfl⟩
      simp only [go_sem, ↓reduceIte, Nat.reduceEqDiff, Nat.reduceAdd, reduceCtorEq, h1, h8, h9]
      rw [wrapN1 (by omega)]
      refine ⟨hs15, by trivial, by trivial, by trivial, fun i h hi => ?_⟩
      rcases Nat.lt_succ_iff_lt_or_eq.1 hi with hi | rfl
      · exact hy i h hi
      · rintro (h | h | h | h)
        · exact d1 h
        · rw [g1] at h; exact d2 h
        · exact d3 h
        · rw [g2] at h; exact d4 h
    · rintro env H' ⟨hs3, h1, h8, h9, hy⟩
      obtain ⟨p, u, a1, a2, a3⟩ := (SSecs.mono he (hs1.trans' hs3)).get hk .i64
      simp only [go_sem, ↓reduceIte, Nat.reduceEqDiff, Nat.reduceAdd, reduceCtorEq, h1, h8, h9, ld_box (hs3 _ _ hb1), a1, a2, a3.len, Int.lt_irrefl]
      rw [wrapN1 (by omega)]
      refine ⟨hs3, by trivial, by trivial, fun i h hi => ?_⟩
      rcases Nat.lt_succ_iff_lt_or_eq.1 hi with hi | rfl
      · exact hz i h hi
      · intro e he'
        obtain ⟨j, hj, rfl⟩ := List.getElem_of_mem he'
        exact hy j hj hj
  · rintro env H' ⟨hs2, h1, h8, hz⟩
    simp only [go_sem, ↓reduceIte, Nat.reduceEqDiff, Nat.reduceAdd, reduceCtorEq, h1, h8, ld_box (hs2 _ _ hb1), SLists.len he, Int.lt_irrefl]
    refine finO_sub (hs1.trans' hs2) ⟨?_, rfl⟩
    rw [shapeI, if_neg n0, if_neg n1', if_neg n2', if_neg n3', if_neg]
    rintro ⟨i, hi, e, he', hb⟩
    exact hz i hi hi e he' hb
end Go.AM
