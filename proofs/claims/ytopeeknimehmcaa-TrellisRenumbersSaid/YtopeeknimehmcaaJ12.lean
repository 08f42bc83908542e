/- slices.pdqsortCmpFunc, SortFunc (printed by dev/genZ7.py). Conditions: as stated. -/
import Derived.Test.YtopeeknimehmcaaJ11
set_option linter.unusedVariables false
set_option linter.unusedSimpArgs false
namespace Go.AM
open Go Go.Proofs
attribute [local go_sem] c_skip c_ops c_seq c_ite c_blk c_exit c_ret t_normal t_exit t_ret b_normal b_exit b_ret i_nil i_cons s_guard s_mov s_pick s_new s_zero s_ld s_ldr s_st s_bin s_beq s_isnil s_eqs s_un s_conv s_fa s_fld s_ia s_sli s_ext s_ifc s_mkf s_agg s_len s_mm s_nilchk s_bsl s_mk s_app s_cpy s_call s_inv cells_agg cells_int cells_bool p_get p_none o_s o_c e_0 e_1 e_2 e_3 e_4 iteC_true iteC_false grd_tt grd_tf grd_ft grd_ff grd_und bindV_some pickV_t pickV_f beq_bool conv_int un_not not_dec mm_min mm_max bv_add bv_sub bv_mul bv_eql bv_neq bv_lss bv_leq bv_gtr bv_geq f_normal f_one f_two f_three f_none fa_ptr fld_one ext_tup len_sl len_nils decide_true decide_false not_true_eq_false not_false_eq_true List.map_cons List.map_nil List.append_nil List.cons_append List.nil_append Nat.zero_add Nat.add_zero Nat.mul_one Nat.succ_ne_self if_true if_false List.getElem?_cons_zero List.getElem?_cons_succ

/-- slices.pdqsortCmpFunc[int], of elements of any size -/
def pdC (k : Nat) (ag : Bool) (insertionSort heapSort breakPatterns choosePivot reverseRange partialInsertionSort partitionEqual partition pdqsort : Nat) : AF := ⟨148, [], (.seq (.ops [⟨none, false, (some 10), (.mov (.c (.bool true)))⟩]) (.seq (.ops [⟨none, false, (some 11), (.mov (.c (.bool true)))⟩]) (.blk 0 (.loop (.blk 1 (.seq (.ops [⟨none, false, (some 21), (.mov (.s 2))⟩, ⟨none, false, (some 22), (.mov (.s 1))⟩, ⟨none, false, (some 23), (.bin .sub (.s 21) (.s 22))⟩, ⟨none, false, (some 12), (.mov (.s 23))⟩]) (.seq (.seq (.ops [⟨none, false, (some 24), (.mov (.s 12))⟩, ⟨none, false, (some 25), (.bin .leq (.s 24) (.c (.int .i64 (12))))⟩]) (.ite (.s 25) (.seq (.ops [⟨none, false, (some 26), (.mov (.s 0))⟩, ⟨none, false, (some 27), (.mov (.s 1))⟩, ⟨none, false, (some 28), (.mov (.s 2))⟩, ⟨none, false, (some 29), (.mov (.s 4))⟩, ⟨none, false, (some 30), (.call (.c (.fn insertionSort [])) [(.s 26), (.s 27), (.s 28), (.s 29)])⟩]) .ret) .skip)) (.seq (.seq (.ops [⟨none, false, (some 31), (.mov (.s 3))⟩, ⟨none, false, (some 32), (.bin .eql (.s 31) (.c (.int .i64 (0))))⟩]) (.ite (.s 32) (.seq (.ops [⟨none, false, (some 33), (.mov (.s 0))⟩, ⟨none, false, (some 34), (.mov (.s 1))⟩, ⟨none, false, (some 35), (.mov (.s 2))⟩, ⟨none, false, (some 36), (.mov (.s 4))⟩, ⟨none, false, (some 37), (.call (.c (.fn heapSort [])) [(.s 33), (.s 34), (.s 35), (.s 36)])⟩]) .ret) .skip)) (.seq (.seq (.ops [⟨none, false, (some 38), (.mov (.s 10))⟩, ⟨none, false, (some 39), (.un .not (.s 38))⟩]) (.ite (.s 39) (.seq (.ops [⟨none, false, (some 40), (.mov (.s 0))⟩, ⟨none, false, (some 41), (.mov (.s 1))⟩, ⟨none, false, (some 42), (.mov (.s 2))⟩, ⟨none, false, (some 43), (.mov (.s 4))⟩, ⟨none, false, (some 44), (.call (.c (.fn breakPatterns [])) [(.s 40), (.s 41), (.s 42), (.s 43)])⟩]) (.ops [⟨none, false, (some 45), (.mov (.s 3))⟩, ⟨none, false, (some 46), (.bin .sub (.s 45) (.c (.int .i64 (1))))⟩, ⟨none, false, (some 3), (.mov (.s 46))⟩])) .skip)) (.seq (.ops [⟨none, false, (some 48), (.mov (.s 0))⟩, ⟨none, false, (some 49), (.mov (.s 1))⟩, ⟨none, false, (some 50), (.mov (.s 2))⟩, ⟨none, false, (some 51), (.mov (.s 4))⟩, ⟨none, false, (some 52), (.call (.c (.fn choosePivot [])) [(.s 48), (.s 49), (.s 50), (.s 51)])⟩, ⟨none, false, (some 47), (.mov (.s 52))⟩, ⟨none, false, (some 53), (.ext (.s 47) 0)⟩, ⟨none, false, (some 54), (.ext (.s 47) 1)⟩, ⟨none, false, (some 13), (.mov (.s 53))⟩, ⟨none, false, (some 14), (.mov (.s 54))⟩]) (.seq (.seq (.ops [⟨none, false, (some 55), (.mov (.s 14))⟩, ⟨none, false, (some 56), (.bin .eql (.s 55) (.c (.int .i64 (2))))⟩]) (.ite (.s 56) (.seq (.ops [⟨none, false, (some 57), (.mov (.s 0))⟩, ⟨none, false, (some 58), (.mov (.s 1))⟩, ⟨none, false, (some 59), (.mov (.s 2))⟩, ⟨none, false, (some 60), (.mov (.s 4))⟩, ⟨none, false, (some 61), (.call (.c (.fn reverseRange [])) [(.s 57), (.s 58), (.s 59), (.s 60)])⟩]) (.seq (.ops [⟨none, false, (some 62), (.mov (.s 2))⟩, ⟨none, false, (some 63), (.bin .sub (.s 62) (.c (.int .i64 (1))))⟩, ⟨none, false, (some 64), (.mov (.s 13))⟩, ⟨none, false, (some 65), (.mov (.s 1))⟩, ⟨none, false, (some 66), (.bin .sub (.s 64) (.s 65))⟩, ⟨none, false, (some 67), (.bin .sub (.s 63) (.s 66))⟩, ⟨none, false, (some 13), (.mov (.s 67))⟩]) (.ops [⟨none, false, (some 14), (.mov (.c (.int .i64 (1))))⟩]))) .skip)) (.seq (.seq (.ops [⟨none, false, (some 68), (.mov (.s 10))⟩, ⟨none, false, (some 69), (.mov (.s 68))⟩, ⟨(some (69, true)), false, (some 70), (.mov (.s 11))⟩, ⟨none, false, (some 71), (.pick (.s 69) (.s 70) (.c (.bool false)))⟩, ⟨none, false, (some 72), (.mov (.s 71))⟩, ⟨(some (72, true)), false, (some 73), (.mov (.s 14))⟩, ⟨(some (72, true)), false, (some 74), (.bin .eql (.s 73) (.c (.int .i64 (1))))⟩, ⟨none, false, (some 75), (.pick (.s 72) (.s 74) (.c (.bool false)))⟩]) (.ite (.s 75) (.seq (.ops [⟨none, false, (some 76), (.mov (.s 0))⟩, ⟨none, false, (some 77), (.mov (.s 1))⟩, ⟨none, false, (some 78), (.mov (.s 2))⟩, ⟨none, false, (some 79), (.mov (.s 4))⟩, ⟨none, false, (some 80), (.call (.c (.fn partialInsertionSort [])) [(.s 76), (.s 77), (.s 78), (.s 79)])⟩]) (.ite (.s 80) .ret .skip)) .skip)) (.seq (.seq (.ops [⟨none, false, (some 81), (.mov (.s 1))⟩, ⟨none, false, (some 82), (.bin .gtr (.s 81) (.c (.int .i64 (0))))⟩, ⟨none, false, (some 83), (.mov (.s 82))⟩, ⟨(some (83, true)), false, (some 84), (.mov (.s 4))⟩, ⟨(some (83, true)), false, (some 85), (.mov (.s 0))⟩, ⟨(some (83, true)), false, (some 86), (.mov (.s 1))⟩, ⟨(some (83, true)), false, (some 87), (.bin .sub (.s 86) (.c (.int .i64 (1))))⟩, ⟨(some (83, true)), false, (some 88), (.ia k (.s 85) (.s 87))⟩, ⟨(some (83, true)), false, (some 90), (.mov (.s 0))⟩, ⟨(some (83, true)), false, (some 91), (.mov (.s 13))⟩, ⟨(some (83, true)), false, (some 92), (.ia k (.s 90) (.s 91))⟩, ⟨(some (83, true)), false, (some 89), (.ld ag k (.s 88) none)⟩, ⟨(some (83, true)), false, (some 93), (.ld ag k (.s 92) none)⟩, ⟨(some (83, true)), false, (some 94), (.call (.s 84) [(.s 89), (.s 93)])⟩, ⟨(some (83, true)), false, (some 95), (.bin .lss (.s 94) (.c (.int .i64 (0))))⟩, ⟨(some (83, true)), false, (some 96), (.un .not (.s 95))⟩, ⟨none, false, (some 97), (.pick (.s 83) (.s 96) (.c (.bool false)))⟩]) (.ite (.s 97) (.seq (.ops [⟨none, false, (some 98), (.mov (.s 0))⟩, ⟨none, false, (some 99), (.mov (.s 1))⟩, ⟨none, false, (some 100), (.mov (.s 2))⟩, ⟨none, false, (some 101), (.mov (.s 13))⟩, ⟨none, false, (some 102), (.mov (.s 4))⟩, ⟨none, false, (some 103), (.call (.c (.fn partitionEqual [])) [(.s 98), (.s 99), (.s 100), (.s 101), (.s 102)])⟩, ⟨none, false, (some 15), (.mov (.s 103))⟩]) (.seq (.ops [⟨none, false, (some 104), (.mov (.s 15))⟩, ⟨none, false, (some 1), (.mov (.s 104))⟩]) (.exit 1))) .skip)) (.seq (.ops [⟨none, false, (some 106), (.mov (.s 0))⟩, ⟨none, false, (some 107), (.mov (.s 1))⟩, ⟨none, false, (some 108), (.mov (.s 2))⟩, ⟨none, false, (some 109), (.mov (.s 13))⟩, ⟨none, false, (some 110), (.mov (.s 4))⟩, ⟨none, false, (some 111), (.call (.c (.fn partition [])) [(.s 106), (.s 107), (.s 108), (.s 109), (.s 110)])⟩, ⟨none, false, (some 105), (.mov (.s 111))⟩, ⟨none, false, (some 112), (.ext (.s 105) 0)⟩, ⟨none, false, (some 113), (.ext (.s 105) 1)⟩, ⟨none, false, (some 16), (.mov (.s 112))⟩, ⟨none, false, (some 17), (.mov (.s 113))⟩]) (.seq (.ops [⟨none, false, (some 114), (.mov (.s 17))⟩, ⟨none, false, (some 11), (.mov (.s 114))⟩]) (.seq (.ops [⟨none, false, (some 115), (.mov (.s 16))⟩, ⟨none, false, (some 116), (.mov (.s 1))⟩, ⟨none, false, (some 117), (.bin .sub (.s 115) (.s 116))⟩, ⟨none, false, (some 118), (.mov (.s 2))⟩, ⟨none, false, (some 119), (.mov (.s 16))⟩, ⟨none, false, (some 120), (.bin .sub (.s 118) (.s 119))⟩, ⟨none, false, (some 18), (.mov (.s 117))⟩, ⟨none, false, (some 19), (.mov (.s 120))⟩]) (.seq (.ops [⟨none, false, (some 121), (.mov (.s 12))⟩, ⟨none, false, (some 122), (.bin .quo (.s 121) (.c (.int .i64 (8))))⟩, ⟨none, false, (some 20), (.mov (.s 122))⟩]) (.seq (.ops [⟨none, false, (some 123), (.mov (.s 18))⟩, ⟨none, false, (some 124), (.mov (.s 19))⟩, ⟨none, false, (some 125), (.bin .lss (.s 123) (.s 124))⟩]) (.ite (.s 125) (.seq (.ops [⟨none, false, (some 126), (.mov (.s 18))⟩, ⟨none, false, (some 127), (.mov (.s 20))⟩, ⟨none, false, (some 128), (.bin .geq (.s 126) (.s 127))⟩, ⟨none, false, (some 10), (.mov (.s 128))⟩]) (.seq (.ops [⟨none, false, (some 129), (.mov (.s 0))⟩, ⟨none, false, (some 130), (.mov (.s 1))⟩, ⟨none, false, (some 131), (.mov (.s 16))⟩, ⟨none, false, (some 132), (.mov (.s 3))⟩, ⟨none, false, (some 133), (.mov (.s 4))⟩, ⟨none, false, (some 134), (.call (.c (.fn pdqsort [])) [(.s 129), (.s 130), (.s 131), (.s 132), (.s 133)])⟩]) (.ops [⟨none, false, (some 135), (.mov (.s 16))⟩, ⟨none, false, (some 136), (.bin .add (.s 135) (.c (.int .i64 (1))))⟩, ⟨none, false, (some 1), (.mov (.s 136))⟩]))) (.seq (.ops [⟨none, false, (some 137), (.mov (.s 19))⟩, ⟨none, false, (some 138), (.mov (.s 20))⟩, ⟨none, false, (some 139), (.bin .geq (.s 137) (.s 138))⟩, ⟨none, false, (some 10), (.mov (.s 139))⟩]) (.seq (.ops [⟨none, false, (some 140), (.mov (.s 0))⟩, ⟨none, false, (some 141), (.mov (.s 16))⟩, ⟨none, false, (some 142), (.bin .add (.s 141) (.c (.int .i64 (1))))⟩, ⟨none, false, (some 143), (.mov (.s 2))⟩, ⟨none, false, (some 144), (.mov (.s 3))⟩, ⟨none, false, (some 145), (.mov (.s 4))⟩, ⟨none, false, (some 146), (.call (.c (.fn pdqsort [])) [(.s 140), (.s 142), (.s 143), (.s 144), (.s 145)])⟩]) (.ops [⟨none, false, (some 147), (.mov (.s 16))⟩, ⟨none, false, (some 2), (.mov (.s 147))⟩]))))))))))))))))))))))⟩
/-- slices.SortFunc[[]int,int], of elements of any size -/
def soC (k : Nat) (ag : Bool) (pdqsort : Nat) : AF := ⟨14, [], (.seq (.ops [⟨none, false, (some 5), (.mov (.s 0))⟩, ⟨none, false, (some 6), (.len (.s 5))⟩, ⟨none, false, (some 4), (.mov (.s 6))⟩]) (.ops [⟨none, false, (some 7), (.mov (.s 0))⟩, ⟨none, false, (some 8), (.mov (.s 4))⟩, ⟨none, false, (some 9), (.mov (.s 4))⟩, ⟨none, false, (some 10), (.conv .u64 (.s 9))⟩, ⟨none, false, (some 11), (.call (.c (.fn 109 [])) [(.s 10)])⟩, ⟨none, false, (some 12), (.mov (.s 1))⟩, ⟨none, false, (some 13), (.call (.c (.fn pdqsort [])) [(.s 7), (.c (.int .i64 (0))), (.s 8), (.s 11), (.s 12)])⟩]))⟩

theorem seq_join {P : Program} {A B : IC} {Q : Qt} {env : Env} {H : Heap} (Mid : Env → Heap → Prop) (h : cwp P A (thenE Mid Q) env H) (k : ∀ env' H', Mid env' H' → cwp P B Q env' H') : cwp P (.seq A B) Q env H := by
  rw [c_seq]
  refine cwp_mono A ?_ h
  intro e env' H' hh
  cases e
  · exact k _ _ hh
  all_goals exact hh

/-- the functions of one sort -/
structure SortFns (k : Nat) (ag : Bool) where
  (ins hs bp cp rr pi pe pa pd sd ma me o2 so : Nat)
  cins : cvF Try.prog ins = some (insC k ag)
  chs : cvF Try.prog hs = some (hsC k ag sd)
  cbp : cvF Try.prog bp = some (bpC k ag)
  ccp : cvF Try.prog cp = some (cpC k ag ma me)
  crr : cvF Try.prog rr = some (rrC k ag)
  cpi : cvF Try.prog pi = some (piC k ag)
  cpe : cvF Try.prog pe = some (peC k ag)
  cpa : cvF Try.prog pa = some (paC k ag)
  cpd : cvF Try.prog pd = some (pdC k ag ins hs bp cp rr pi pe pa pd)
  csd : cvF Try.prog sd = some (sdC k ag)
  cma : cvF Try.prog ma = some (maC k ag me)
  cme : cvF Try.prog me = some (meC k ag o2)
  co2 : cvF Try.prog o2 = some (o2C k ag)
  cso : cvF Try.prog so = some (soC k ag pd)
def sortInt : SortFns 1 false := ⟨111, 112, 113, 114, 115, 116, 117, 118, 108, 128, 131, 132, 136, 99, by kernel_rfl, by kernel_rfl, by kernel_rfl, by kernel_rfl, by kernel_rfl, by kernel_rfl, by kernel_rfl, by kernel_rfl, by kernel_rfl, by kernel_rfl, by kernel_rfl, by kernel_rfl, by kernel_rfl, by kernel_rfl⟩
def sortEdge : SortFns 3 true := ⟨120, 121, 122, 123, 124, 125, 126, 127, 110, 133, 134, 135, 137, 100, by kernel_rfl, by kernel_rfl, by kernel_rfl, by kernel_rfl, by kernel_rfl, by kernel_rfl, by kernel_rfl, by kernel_rfl, by kernel_rfl, by kernel_rfl, by kernel_rfl, by kernel_rfl, by kernel_rfl, by kernel_rfl⟩

section
variable {α : Type} [Inhabited α]
/-- while [a0, b0) is sorted: all is in place but for [a, b) -/
structure PdIn (cf : α → α → Int) (a0 b0 : Nat) (xs ys : List α) (a b : Nat) : Prop where
  aa : a0 ≤ a
  ab : a ≤ b
  bb : b ≤ b0
  perm : PermIn a0 b0 xs ys
  out : ∀ p q, a0 ≤ p → p < q → q < b0 → (p < a ∨ b ≤ q) → ¬ cf (el ys q) (el ys p) < 0
  pre : a = 0 ∨ ∀ m, a ≤ m → m < b → ¬ cf (el ys m) (el ys (a-1)) < 0
theorem PdIn.inner {cf : α → α → Int} {a0 b0 : Nat} {xs ys zs : List α} {a b : Nat} (p : PdIn cf a0 b0 xs ys a b) (hp : PermIn a b ys zs) (hb : b ≤ ys.length) : PdIn cf a0 b0 xs zs a b := by
  obtain ⟨p1, p2, p3, p4, p5, p6⟩ := p
  refine ⟨p1, p2, p3, p4.trans (hp.wider p1 p3), fun i j h1 h2 h3 h4 => ?_, ?_⟩
  · rcases Nat.lt_or_ge i a with hi | hi
    · rw [hp.elOut (m := i) (.inl hi)]
      rcases Nat.lt_or_ge j a with hj | hj
      · rw [hp.elOut (m := j) (.inl hj)]; exact p5 i j h1 h2 h3 (.inl hi)
      · rcases Nat.lt_or_ge j b with hj2 | hj2
        · exact hp.elAll hb (P := fun x => ¬ cf x (el ys i) < 0) (fun m h1' h2' => p5 i m h1 (by omega) (by omega) (.inl hi)) j hj hj2
        · rw [hp.elOut (m := j) (.inr hj2)]; exact p5 i j h1 h2 h3 (.inl hi)
    · have hj : b ≤ j := by omega
      rw [hp.elOut (m := j) (.inr hj)]
      rcases Nat.lt_or_ge i b with hi2 | hi2
      · exact hp.elAll hb (P := fun x => ¬ cf (el ys j) x < 0) (fun m h1' h2' => p5 m j (by omega) (by omega) h3 (.inr hj)) i hi hi2
      · rw [hp.elOut (m := i) (.inr hi2)]; exact p5 i j h1 h2 h3 (.inr hj)
  · rcases Nat.eq_zero_or_pos a with e | e
    · exact .inl e
    · refine p6.imp id fun h => ?_
      rw [hp.elOut (m := a - 1) (by omega)]
      exact hp.elAll hb (P := fun x => ¬ cf x (el ys (a-1)) < 0) h
theorem PdIn.done {cf : α → α → Int} {a0 b0 : Nat} {xs ys : List α} {a b : Nat} (p : PdIn cf a0 b0 xs ys a b) (hs : SortedAB cf a b ys) : PermIn a0 b0 xs ys ∧ SortedAB cf a0 b0 ys := by
  refine ⟨p.perm, fun i j h1 h2 h3 => ?_⟩
  by_cases c : i < a ∨ b ≤ j
  · exact p.out i j h1 h2 h3 c
  · exact hs i j (by omega) h2 (by omega)
/-- the equal ones ahead -/
theorem PdIn.equal {cf : α → α → Int} (s : Swo cf) {a0 b0 : Nat} {xs ys zs : List α} {a b mid pv : Nat} (p : PdIn cf a0 b0 xs ys a b) (hp : PermIn a b ys zs) (hb : b ≤ ys.length) (ha : 0 < a) (c : ¬ cf (el ys (a-1)) (el ys pv) < 0) (am : a < mid) (mb : mid ≤ b) (e : el zs a = el ys pv)
    (lo : ∀ m, a ≤ m → m < mid → ¬ cf (el zs a) (el zs m) < 0) (hi : ∀ m, mid ≤ m → m < b → cf (el zs a) (el zs m) < 0) : PdIn cf a0 b0 xs zs mid b := by
  obtain ⟨q1, q2, q3, q4, q5, q6⟩ := p.inner hp hb
  have c' : ¬ cf (el zs (a-1)) (el zs a) < 0 := by rw [e, hp.elOut (m := a - 1) (.inl (by omega))]; exact c
  have q6' := q6.resolve_left (by omega)
  have key : ∀ i, a ≤ i → i < mid → ∀ j, i < j → j < b → ¬ cf (el zs j) (el zs i) < 0 := by
    intro i hi1 hi2 j hj1 hj2
    rcases Nat.lt_or_ge j mid with hjm | hjm
    · exact s.ntrans (s.ntrans (q6' j (by omega) hj2) c') (lo i hi1 hi2)
    · exact s.ntrans (s.asym (hi j hjm hj2)) (lo i hi1 hi2)
  refine ⟨by omega, mb, q3, q4, fun i j h1 h2 h3 h4 => ?_, .inr fun m h1 h2 => key (mid - 1) (by omega) (by omega) m (by omega) h2⟩
  by_cases c2 : i < a ∨ b ≤ j
  · exact q5 i j h1 h2 h3 c2
  · exact key i (by omega) (by omega) j h2 (by omega)
/-- the lower part is sorted -/
theorem PdIn.lower {cf : α → α → Int} (s : Swo cf) {a0 b0 : Nat} {xs ys zs : List α} {a b mid : Nat} (p : PdIn cf a0 b0 xs ys a b) (hp : PermIn a mid ys zs) (hb : b ≤ ys.length) (am : a ≤ mid) (mb : mid < b)
    (lo : ∀ m, a ≤ m → m < mid → cf (el ys m) (el ys mid) < 0) (hi : ∀ m, mid < m → m < b → ¬ cf (el ys m) (el ys mid) < 0) (hs : SortedAB cf a mid zs) : PdIn cf a0 b0 xs zs (mid+1) b := by
  obtain ⟨q1, q2, q3, q4, q5, q6⟩ := p.inner (hp.wider (Nat.le_refl _) (by omega)) hb
  have lo' : ∀ m, a ≤ m → m < mid → cf (el zs m) (el ys mid) < 0 := hp.elAll (by omega) (P := fun x => cf x (el ys mid) < 0) lo
  have em : ∀ m, mid ≤ m → el zs m = el ys m := fun m h => hp.elOut (.inr h)
  refine ⟨by omega, by omega, q3, q4, fun i j h1 h2 h3 h4 => ?_, .inr fun m h1 h2 => ?_⟩
  · by_cases c2 : i < a ∨ b ≤ j
    · exact q5 i j h1 h2 h3 c2
    · rcases Nat.lt_or_ge i mid with hi1 | hi1
      · rcases Nat.lt_or_ge j mid with hj1 | hj1
        · exact hs i j (by omega) h2 hj1
        · rw [em j hj1]
          rcases Nat.eq_or_lt_of_le hj1 with e | hj2
          · subst e; exact s.asym (lo' i (by omega) hi1)
          · exact fun h => hi j hj2 (by omega) (s.trans h (lo' i (by omega) hi1))
      · have e : i = mid := by omega
        subst e
        rw [em i (Nat.le_refl _), em j (by omega)]
        exact hi j h2 (by omega)
  · rw [em m (by omega), show mid + 1 - 1 = mid by omega, em mid (Nat.le_refl _)]
    exact hi m (by omega) h2
/-- the upper part is sorted -/
theorem PdIn.upper {cf : α → α → Int} (s : Swo cf) {a0 b0 : Nat} {xs ys zs : List α} {a b mid : Nat} (p : PdIn cf a0 b0 xs ys a b) (hp : PermIn (mid+1) b ys zs) (hb : b ≤ ys.length) (am : a ≤ mid) (mb : mid < b)
    (lo : ∀ m, a ≤ m → m < mid → cf (el ys m) (el ys mid) < 0) (hi : ∀ m, mid < m → m < b → ¬ cf (el ys m) (el ys mid) < 0) (hs : SortedAB cf (mid+1) b zs) : PdIn cf a0 b0 xs zs a mid := by
  obtain ⟨q1, q2, q3, q4, q5, q6⟩ := p.inner (hp.wider (by omega) (Nat.le_refl _)) hb
  have hi' : ∀ m, mid + 1 ≤ m → m < b → ¬ cf (el zs m) (el ys mid) < 0 := hp.elAll hb (P := fun x => ¬ cf x (el ys mid) < 0) fun m h1 h2 => hi m (by omega) h2
  have em : ∀ m, m ≤ mid → el zs m = el ys m := fun m h => hp.elOut (.inl (by omega))
  refine ⟨by omega, by omega, by omega, q4, fun i j h1 h2 h3 h4 => ?_, q6.imp id fun h m h1 h2 => h m h1 (by omega)⟩
  by_cases c2 : i < a ∨ b ≤ j
  · exact q5 i j h1 h2 h3 c2
  · have hjm : mid ≤ j := by omega
    rcases Nat.eq_or_lt_of_le hjm with e | hj
    · subst e
      rw [em mid (Nat.le_refl _), em i (by omega)]
      exact s.asym (lo i (by omega) h2)
    · rcases Nat.lt_or_ge i mid with hi1 | hi1
      · rw [em i (by omega)]
        exact fun h => hi' j (by omega) (by omega) (s.trans h (lo i (by omega) hi1))
      · rcases Nat.eq_or_lt_of_le hi1 with e | hi2
        · subst e
          rw [em mid (Nat.le_refl _)]
          exact hi' j (by omega) (by omega)
        · exact hs i j (by omega) h2 (by omega)

variable {k : Nat} {ag : Bool} {E : Elem α k ag} {G H : Heap} {g : FuncId} {caps : List V} {cf : α → α → Int} {Pr : α → Prop}

theorem bv_quoI8 {a : Int} (h : 0 ≤ a) (h1 : a < 9223372036854775808) : binV .quo (.int .i64 a) (.int .i64 8) = some (.int .i64 (a / 8)) := by
  have : a.tdiv 8 = a / 8 := Int.tdiv_eq_ediv_of_nonneg h
  have w : IntKind.i64.wrap (a / 8) = a / 8 := wrapI (by omega) (by omega)
  simp [binV, this, w]

theorem pdq_spec (S : SortFns k ag) {N n : Nat} {fl : Bool} (C : Cmp E G g caps cf Pr) (hG : Heap.sub G H) (hN : G N = none) (hn2 : n ≤ 1099511627776) : ∀ (sz : Nat) (a0 b0 : Nat) (lim0 : Int) (xs : List α), b0 - a0 ≤ sz → (∀ x ∈ xs, Pr x) → xs.length = n → a0 ≤ b0 → b0 ≤ n →
    (a0 = 0 ∨ ∀ m, a0 ≤ m → m < b0 → ¬ cf (el xs m) (el xs (a0-1)) < 0) →
    ACalls Try.prog S.pd [.sl N 0 n fl, .int .i64 a0, .int .i64 b0, .int .i64 lim0, .fn g caps] (E.put H N xs) fun u H' => ∃ ys, H' = E.put H N ys ∧ PermIn a0 b0 xs ys ∧ SortedAB cf a0 b0 ys := by
  intro sz
  induction sz using Nat.strongRecOn with
  | _ sz IH =>
  intro a0 b0 lim0 xs hsz hP hn hab0 hb0 hpre
  refine ACalls.of_body hm S.cpd (by simp [pdC]) ?_
  simp only [pdC, go_sem, ↓reduceIte, Nat.reduceEqDiff, Nat.reduceAdd, reduceCtorEq]
  refine loop_count (b0 - a0 + 1) (fun t env H' => ∃ a b ys, H' = E.put H N ys ∧ env 0 = .sl N 0 n fl ∧ env 1 = .int .i64 ((a : Nat) : Int) ∧ env 2 = .int .i64 ((b : Nat) : Int) ∧ (∃ lim : Int, env 3 = .int .i64 lim) ∧ env 4 = .fn g caps ∧ (∃ wb, env 10 = .bool wb) ∧ (∃ wp, env 11 = .bool wp) ∧ PdIn cf a0 b0 xs ys a b ∧ b - a + t ≤ b0 - a0) ?_ ?_ ?_
  · simp only [go_sem, ↓reduceIte, Nat.reduceEqDiff, Nat.reduceAdd, reduceCtorEq]
    exact ⟨a0, b0, xs, rfl, by first | rfl | trivial, by first | rfl | trivial, by first | rfl | trivial, ⟨_, by first | rfl | trivial⟩, by first | rfl | trivial, ⟨_, by first | rfl | trivial⟩, ⟨_, by first | rfl | trivial⟩, ⟨Nat.le_refl _, hab0, Nat.le_refl _, .refl _, fun p q h1 h2 h3 h4 => by omega, hpre⟩, by omega⟩
  · rintro t env H' ht ⟨a, b, ys, rfl, h0, h1, h2, ⟨lim, h3⟩, h4, ⟨wb, h10⟩, ⟨wp, h11⟩, p, hsize⟩
    have p' := id p
    obtain ⟨p1, p2, p3, p4, p5, p6⟩ := p'
    have hl := p4.length
    have w0 : IntKind.i64.wrap ((b : Int) - a) = ((b - a : Nat) : Int) := by rw [wrapI (by omega) (by omega)]; omega
    simp only [go_sem, ↓reduceIte, Nat.reduceEqDiff, Nat.reduceAdd, reduceCtorEq, h0, h1, h2, h3, h4, h10, h11, w0]
    refine iteC_if (fun c => ?_) (fun c12 => ?_)
    · simp only [go_sem, ↓reduceIte, Nat.reduceEqDiff, Nat.reduceAdd, reduceCtorEq, h0, h1, h2, h3, h4, h10, h11]
      refine callC_any (insertion_spec C S.cins hG hN (p4.pr hP) (by omega) hn2 p2 (by omega)) ?_
      rintro u H' ⟨zs, rfl, z1, z2⟩
      simp only [go_sem, ↓reduceIte, Nat.reduceEqDiff, Nat.reduceAdd, reduceCtorEq]
      have := (p.inner z1 (by omega)).done z2
      exact finO_self ⟨zs, rfl, this.1, this.2⟩
    have hab : a + 12 < b := by omega
    simp only [go_sem, ↓reduceIte, Nat.reduceEqDiff, Nat.reduceAdd, reduceCtorEq, h0, h1, h2, h3, h4, h10, h11]
    refine iteC_if (fun c => ?_) (fun c => ?_)
    · simp only [go_sem, ↓reduceIte, Nat.reduceEqDiff, Nat.reduceAdd, reduceCtorEq, h0, h1, h2, h3, h4, h10, h11]
      refine callC_any (heapSort_spec C S.chs S.csd hG hN (p4.pr hP) (by omega) hn2 (by omega) (by omega)) ?_
      rintro u H' ⟨zs, rfl, z1, z2⟩
      simp only [go_sem, ↓reduceIte, Nat.reduceEqDiff, Nat.reduceAdd, reduceCtorEq]
      have := (p.inner z1 (by omega)).done z2
      exact finO_self ⟨zs, rfl, this.1, this.2⟩
    simp only [c_skip, t_normal]
    refine seq_join (fun env H' => ∃ ys, H' = E.put H N ys ∧ env 0 = .sl N 0 n fl ∧ env 1 = .int .i64 ((a : Nat) : Int) ∧ env 2 = .int .i64 ((b : Nat) : Int) ∧ (∃ lim : Int, env 3 = .int .i64 lim) ∧ env 4 = .fn g caps ∧ (∃ wb, env 10 = .bool wb) ∧ (∃ wp, env 11 = .bool wp) ∧ env 12 = .int .i64 ((b - a : Nat) : Int) ∧ PdIn cf a0 b0 xs ys a b) ?_ ?_
    · cases wb
      · simp only [go_sem, ↓reduceIte, Nat.reduceEqDiff, Nat.reduceAdd, reduceCtorEq, h0, h1, h2, h3, h4, h10, h11, Bool.not_true, Bool.not_false]
        refine callC_any (breakPatterns_spec S.cbp (by omega) hn2 hab (by omega)) ?_
        rintro u H' ⟨zs, rfl, z1⟩
        simp only [go_sem, ↓reduceIte, Nat.reduceEqDiff, Nat.reduceAdd, reduceCtorEq, h0, h1, h2, h3, h4, h10, h11]
        exact ⟨zs, rfl, by first | rfl | trivial, by first | rfl | trivial, by first | rfl | trivial, ⟨_, by first | rfl | trivial⟩, by first | rfl | trivial, ⟨_, by first | rfl | trivial⟩, ⟨_, by first | rfl | trivial⟩, by first | rfl | trivial, p.inner z1 (by omega)⟩
      · simp only [go_sem, ↓reduceIte, Nat.reduceEqDiff, Nat.reduceAdd, reduceCtorEq, h0, h1, h2, h3, h4, h10, h11, Bool.not_true, Bool.not_false]
        exact ⟨ys, rfl, by first | rfl | trivial, by first | rfl | trivial, by first | rfl | trivial, ⟨_, by first | rfl | trivial⟩, by first | rfl | trivial, ⟨_, by first | rfl | trivial⟩, ⟨_, by first | rfl | trivial⟩, by first | rfl | trivial, p⟩
    clear p p1 p2 p3 p4 p5 p6 hl h0 h1 h2 h3 h4 h10 h11 c
    rintro env H' ⟨ys, rfl, h0, h1, h2, ⟨lim, h3⟩, h4, ⟨wb, h10⟩, ⟨wp, h11⟩, h12, p⟩
    have p' := id p
    obtain ⟨p1, p2, p3, p4, p5, p6⟩ := p'
    have hl := p4.length
    simp only [go_sem, ↓reduceIte, Nat.reduceEqDiff, Nat.reduceAdd, reduceCtorEq, h0, h1, h2, h3, h4, h10, h11]
    refine callC_any (choosePivot_spec C S.ccp S.cma S.cme S.co2 (E.put_at H N ys) (E.put_sub ys hG hN) (p4.pr hP) (by omega) hn2 hab (by omega)) ?_
    rintro u H' ⟨pv, hi, rfl, rfl, v1, v2⟩
    simp only [go_sem, ↓reduceIte, Nat.reduceEqDiff, Nat.reduceAdd, reduceCtorEq, h0, h1, h2, h3, h4, h10, h11]
    refine iteC_join (fun env H' => ∃ ys pv hi, H' = E.put H N ys ∧ env 0 = .sl N 0 n fl ∧ env 1 = .int .i64 ((a : Nat) : Int) ∧ env 2 = .int .i64 ((b : Nat) : Int) ∧ (∃ lim : Int, env 3 = .int .i64 lim) ∧ env 4 = .fn g caps ∧ (∃ wb, env 10 = .bool wb) ∧ (∃ wp, env 11 = .bool wp) ∧ env 12 = .int .i64 ((b - a : Nat) : Int) ∧ env 13 = .int .i64 ((pv : Nat) : Int) ∧ env 14 = .int .i64 hi ∧ a ≤ pv ∧ pv < b ∧ PdIn cf a0 b0 xs ys a b) ?_ ?_ ?_
    · intro c
      simp only [go_sem, ↓reduceIte, Nat.reduceEqDiff, Nat.reduceAdd, reduceCtorEq, h0, h1, h2, h3, h4, h10, h11]
      refine callC_any (reverse_spec S.crr (by omega) hn2 (by omega) (by omega)) ?_
      rintro u H' ⟨zs, rfl, z1⟩
      have w1 : IntKind.i64.wrap ((b : Int) - 1) = (b : Int) - 1 := wrapI (by omega) (by omega)
      have w2 : IntKind.i64.wrap ((pv : Int) - a) = (pv : Int) - a := wrapI (by omega) (by omega)
      have w3 : IntKind.i64.wrap ((b : Int) - 1 - ((pv : Int) - a)) = ((b - 1 - (pv - a) : Nat) : Int) := by rw [wrapI (by omega) (by omega)]; omega
      simp only [go_sem, ↓reduceIte, Nat.reduceEqDiff, Nat.reduceAdd, reduceCtorEq, h0, h1, h2, h3, h4, h10, h11, h12, w1, w2, w3]
      exact ⟨zs, b - 1 - (pv - a), _, rfl, by first | rfl | trivial, by first | rfl | trivial, by first | rfl | trivial, ⟨_, by first | rfl | trivial⟩, by first | rfl | trivial, ⟨_, by first | rfl | trivial⟩, ⟨_, by first | rfl | trivial⟩, by first | rfl | trivial, by first | rfl | trivial, by first | rfl | trivial, by omega, by omega, p.inner z1 (by omega)⟩
    · intro c
      simp only [go_sem, ↓reduceIte, Nat.reduceEqDiff, Nat.reduceAdd, reduceCtorEq, h0, h1, h2, h3, h4, h10, h11, h12]
      exact ⟨ys, pv, hi, rfl, by first | rfl | trivial, by first | rfl | trivial, by first | rfl | trivial, ⟨_, by first | rfl | trivial⟩, by first | rfl | trivial, ⟨_, by first | rfl | trivial⟩, ⟨_, by first | rfl | trivial⟩, by first | rfl | trivial, by first | rfl | trivial, by first | rfl | trivial, v1, v2, p⟩
    clear p p1 p2 p3 p4 p5 p6 hl h0 h1 h2 h3 h4 h10 h11 h12 v1 v2
    rintro env H' ⟨ys, pv, hi, rfl, h0, h1, h2, ⟨lim, h3⟩, h4, ⟨wb, h10⟩, ⟨wp, h11⟩, h12, h13, h14, v1, v2, p⟩
    refine seq_join (fun env H' => ∃ ys pv hi, H' = E.put H N ys ∧ env 0 = .sl N 0 n fl ∧ env 1 = .int .i64 ((a : Nat) : Int) ∧ env 2 = .int .i64 ((b : Nat) : Int) ∧ (∃ lim : Int, env 3 = .int .i64 lim) ∧ env 4 = .fn g caps ∧ (∃ wb, env 10 = .bool wb) ∧ (∃ wp, env 11 = .bool wp) ∧ env 12 = .int .i64 ((b - a : Nat) : Int) ∧ env 13 = .int .i64 ((pv : Nat) : Int) ∧ env 14 = .int .i64 hi ∧ a ≤ pv ∧ pv < b ∧ PdIn cf a0 b0 xs ys a b) ?_ ?_
    · have p' := id p
      obtain ⟨p1, p2, p3, p4, p5, p6⟩ := p'
      have hl := p4.length
      cases wb
      · simp only [go_sem, ↓reduceIte, Nat.reduceEqDiff, Nat.reduceAdd, reduceCtorEq, h0, h1, h2, h3, h4, h10, h11, h12, h13, h14]
        exact ⟨ys, pv, hi, rfl, by first | rfl | trivial, by first | rfl | trivial, by first | rfl | trivial, ⟨_, by first | rfl | trivial⟩, by first | rfl | trivial, ⟨_, by first | rfl | trivial⟩, ⟨_, by first | rfl | trivial⟩, by first | rfl | trivial, by first | rfl | trivial, by first | rfl | trivial, v1, v2, p⟩
      cases wp
      · simp only [go_sem, ↓reduceIte, Nat.reduceEqDiff, Nat.reduceAdd, reduceCtorEq, h0, h1, h2, h3, h4, h10, h11, h12, h13, h14]
        exact ⟨ys, pv, hi, rfl, by first | rfl | trivial, by first | rfl | trivial, by first | rfl | trivial, ⟨_, by first | rfl | trivial⟩, by first | rfl | trivial, ⟨_, by first | rfl | trivial⟩, ⟨_, by first | rfl | trivial⟩, by first | rfl | trivial, by first | rfl | trivial, by first | rfl | trivial, v1, v2, p⟩
      simp only [go_sem, ↓reduceIte, Nat.reduceEqDiff, Nat.reduceAdd, reduceCtorEq, h0, h1, h2, h3, h4, h10, h11, h12, h13, h14]
      refine iteC_if (fun ch => ?_) (fun ch => ?_)
      · simp only [go_sem, ↓reduceIte, Nat.reduceEqDiff, Nat.reduceAdd, reduceCtorEq, h0, h1, h2, h3, h4, h10, h11, h12, h13, h14]
        refine callC_any (partialInsertion_spec C S.cpi hG hN (p4.pr hP) (by omega) hn2 (by omega) (by omega) p6) ?_
        rintro u H' ⟨zs, t2, rfl, rfl, z1, z2⟩
        have pz := p.inner z1 (by omega)
        cases t2
        · simp only [go_sem, ↓reduceIte, Nat.reduceEqDiff, Nat.reduceAdd, reduceCtorEq, h0, h1, h2, h3, h4, h10, h11, h12, h13, h14]
          exact ⟨zs, pv, hi, rfl, by first | rfl | trivial, by first | rfl | trivial, by first | rfl | trivial, ⟨_, by first | rfl | trivial⟩, by first | rfl | trivial, ⟨_, by first | rfl | trivial⟩, ⟨_, by first | rfl | trivial⟩, by first | rfl | trivial, by first | rfl | trivial, by first | rfl | trivial, v1, v2, pz⟩
        · simp only [go_sem, ↓reduceIte, Nat.reduceEqDiff, Nat.reduceAdd, reduceCtorEq]
          have := pz.done (z2 rfl)
          exact finO_self ⟨zs, rfl, this.1, this.2⟩
      · simp only [go_sem, ↓reduceIte, Nat.reduceEqDiff, Nat.reduceAdd, reduceCtorEq, h0, h1, h2, h3, h4, h10, h11, h12, h13, h14]
        exact ⟨ys, pv, hi, rfl, by first | rfl | trivial, by first | rfl | trivial, by first | rfl | trivial, ⟨_, by first | rfl | trivial⟩, by first | rfl | trivial, ⟨_, by first | rfl | trivial⟩, ⟨_, by first | rfl | trivial⟩, by first | rfl | trivial, by first | rfl | trivial, by first | rfl | trivial, v1, v2, p⟩
    clear p h0 h1 h2 h3 h4 h10 h11 h12 h13 h14 v1 v2
    rintro env H' ⟨ys, pv, hi, rfl, h0, h1, h2, ⟨lim, h3⟩, h4, ⟨wb, h10⟩, ⟨wp, h11⟩, h12, h13, h14, v1, v2, p⟩
    refine seq_join (fun env H' => ∃ ys pv hi, H' = E.put H N ys ∧ env 0 = .sl N 0 n fl ∧ env 1 = .int .i64 ((a : Nat) : Int) ∧ env 2 = .int .i64 ((b : Nat) : Int) ∧ (∃ lim : Int, env 3 = .int .i64 lim) ∧ env 4 = .fn g caps ∧ (∃ wb, env 10 = .bool wb) ∧ (∃ wp, env 11 = .bool wp) ∧ env 12 = .int .i64 ((b - a : Nat) : Int) ∧ env 13 = .int .i64 ((pv : Nat) : Int) ∧ env 14 = .int .i64 hi ∧ a ≤ pv ∧ pv < b ∧ PdIn cf a0 b0 xs ys a b) ?_ ?_
    · have p' := id p
      obtain ⟨p1, p2, p3, p4, p5, p6⟩ := p'
      have hl := p4.length
      by_cases ca : (0 : Int) < (a : Int)
      · have hw : IntKind.i64.wrap ((a : Int) - 1) = ((a - 1 : Nat) : Int) := by rw [wrapI (by omega) (by omega)]; omega
        have hr1 := E.read (E.put_at H N ys) (i := a - 1) (by omega)
        have hr2 := E.read (E.put_at H N ys) (i := pv) (by omega)
        simp only [go_sem, ↓reduceIte, Nat.reduceEqDiff, Nat.reduceAdd, reduceCtorEq, h0, h1, h2, h3, h4, h10, h11, h12, h13, h14, ca, hw, ia_el (show a - 1 < n by omega), ia_el (show pv < n by omega), hr1, hr2]
        refine callC_pure (C.at (p4.pr hP) (E.put_sub ys hG hN) (i := a - 1) (j := pv) (by omega) (by omega)) ?_
        by_cases c2 : cf (el ys (a - 1)) (el ys pv) < 0
        · simp only [go_sem, ↓reduceIte, Nat.reduceEqDiff, Nat.reduceAdd, reduceCtorEq, c2, Bool.not_true, Bool.not_false, h0, h1, h2, h3, h4, h10, h11, h12, h13, h14]
          exact ⟨ys, pv, hi, rfl, by first | rfl | trivial, by first | rfl | trivial, by first | rfl | trivial, ⟨_, by first | rfl | trivial⟩, by first | rfl | trivial, ⟨_, by first | rfl | trivial⟩, ⟨_, by first | rfl | trivial⟩, by first | rfl | trivial, by first | rfl | trivial, by first | rfl | trivial, v1, v2, p⟩
        · simp only [go_sem, ↓reduceIte, Nat.reduceEqDiff, Nat.reduceAdd, reduceCtorEq, c2, Bool.not_true, Bool.not_false, h0, h1, h2, h3, h4, h10, h11, h12, h13, h14]
          refine callC_any (partitionEqual_spec C S.cpe hG hN (p4.pr hP) (by omega) hn2 v1 v2 (by omega)) ?_
          rintro u H' ⟨zs, md, rfl, rfl, z1, z2, z3, z4, z5, z6⟩
          simp only [go_sem, ↓reduceIte, Nat.reduceEqDiff, Nat.reduceAdd, reduceCtorEq, h0, h1, h2, h3, h4, h10, h11, h12, h13, h14]
          exact ⟨md, b, zs, rfl, by first | rfl | trivial, by first | rfl | trivial, by first | rfl | trivial, ⟨_, by first | rfl | trivial⟩, by first | rfl | trivial, ⟨_, by first | rfl | trivial⟩, ⟨_, by first | rfl | trivial⟩, p.equal C.swo z1 (by omega) (by omega) c2 z2 z3 z4 z5 z6, by omega⟩
      · simp only [go_sem, ↓reduceIte, Nat.reduceEqDiff, Nat.reduceAdd, reduceCtorEq, h0, h1, h2, h3, h4, h10, h11, h12, h13, h14, ca]
        exact ⟨ys, pv, hi, rfl, by first | rfl | trivial, by first | rfl | trivial, by first | rfl | trivial, ⟨_, by first | rfl | trivial⟩, by first | rfl | trivial, ⟨_, by first | rfl | trivial⟩, ⟨_, by first | rfl | trivial⟩, by first | rfl | trivial, by first | rfl | trivial, by first | rfl | trivial, v1, v2, p⟩
    clear p h0 h1 h2 h3 h4 h10 h11 h12 h13 h14 v1 v2
    rintro env H' ⟨ys, pv, hi, rfl, h0, h1, h2, ⟨lim, h3⟩, h4, ⟨wb, h10⟩, ⟨wp, h11⟩, h12, h13, h14, v1, v2, p⟩
    have p' := id p
    obtain ⟨p1, p2, p3, p4, p5, p6⟩ := p'
    have hl := p4.length
    simp only [go_sem, ↓reduceIte, Nat.reduceEqDiff, Nat.reduceAdd, reduceCtorEq, h0, h1, h2, h3, h4, h10, h11, h12, h13, h14]
    refine callC_any (partition_spec C S.cpa hG hN (p4.pr hP) (by omega) hn2 v1 v2 (by omega)) ?_
    rintro u H' ⟨zs, md, t2, rfl, rfl, z1, z2, z3, z4, z5⟩
    have pz := p.inner z1 (by omega)
    have pz' := id pz
    obtain ⟨q1, q2, q3, q4, q5, q6⟩ := pz'
    have hl2 := q4.length
    have w1 : IntKind.i64.wrap ((md : Int) - a) = ((md - a : Nat) : Int) := by rw [wrapI (by omega) (by omega)]; omega
    have w2 : IntKind.i64.wrap ((b : Int) - md) = ((b - md : Nat) : Int) := by rw [wrapI (by omega) (by omega)]; omega
    have w3 : IntKind.i64.wrap ((md : Int) + 1) = ((md + 1 : Nat) : Int) := wrapN1 (by omega)
    simp only [go_sem, ↓reduceIte, Nat.reduceEqDiff, Nat.reduceAdd, reduceCtorEq, h0, h1, h2, h3, h4, h10, h11, h12, h13, h14, w1, w2, bv_quoI8 (show (0 : Int) ≤ ((b - a : Nat) : Int) by omega) (by omega)]
    refine iteC_if (fun cl => ?_) (fun cl => ?_)
    · simp only [go_sem, ↓reduceIte, Nat.reduceEqDiff, Nat.reduceAdd, reduceCtorEq, h0, h1, h2, h3, h4, h10, h11, h12, h13, h14]
      refine callC_any (IH (md - a) (by omega) a md lim zs (Nat.le_refl _) (q4.pr hP) (by omega) z2 (by omega) (q6.imp id fun h m h1 h2 => h m h1 (by omega))) ?_
      rintro u H' ⟨us, rfl, u1, u2⟩
      simp only [go_sem, ↓reduceIte, Nat.reduceEqDiff, Nat.reduceAdd, reduceCtorEq, h0, h1, h2, h3, h4, h10, h11, h12, h13, h14, w3]
      exact ⟨md + 1, b, us, rfl, by first | rfl | trivial, by first | rfl | trivial, by first | rfl | trivial, ⟨_, by first | rfl | trivial⟩, by first | rfl | trivial, ⟨_, by first | rfl | trivial⟩, ⟨_, by first | rfl | trivial⟩, pz.lower C.swo u1 (by omega) z2 z3 z4 z5 u2, by omega⟩
    · simp only [go_sem, ↓reduceIte, Nat.reduceEqDiff, Nat.reduceAdd, reduceCtorEq, h0, h1, h2, h3, h4, h10, h11, h12, h13, h14, w3]
      refine callC_any (IH (b - (md + 1)) (by omega) (md + 1) b lim zs (Nat.le_refl _) (q4.pr hP) (by omega) (by omega) (by omega) (.inr fun m h1 h2 => z5 m (by omega) h2)) ?_
      rintro u H' ⟨us, rfl, u1, u2⟩
      simp only [go_sem, ↓reduceIte, Nat.reduceEqDiff, Nat.reduceAdd, reduceCtorEq, h0, h1, h2, h3, h4, h10, h11, h12, h13, h14]
      exact ⟨a, md, us, rfl, by first | rfl | trivial, by first | rfl | trivial, by first | rfl | trivial, ⟨_, by first | rfl | trivial⟩, by first | rfl | trivial, ⟨_, by first | rfl | trivial⟩, ⟨_, by first | rfl | trivial⟩, pz.upper C.swo u1 (by omega) z2 z3 z4 z5 u2, by omega⟩
  · rintro env H' ⟨a, b, ys, rfl, h0, h1, h2, ⟨lim, h3⟩, h4, ⟨wb, h10⟩, ⟨wp, h11⟩, p, hsize⟩
    omega

theorem sort_spec (S : SortFns k ag) {N n : Nat} {fl : Bool} {xs : List α} (C : Cmp E G g caps cf Pr) (hb : H N = some ⟨true, k, E.cells xs⟩) (hG : Heap.sub G H) (hN : G N = none) (hP : ∀ x ∈ xs, Pr x) (hn : xs.length = n) (hn2 : n ≤ 1099511627776) :
    ACalls Try.prog S.so [.sl N 0 n fl, .fn g caps] H fun u H' => ∃ ys, H' = E.put H N ys ∧ ys.Perm xs ∧ ys.Pairwise fun x y => ¬ cf y x < 0 := by
  refine ACalls.of_body hm S.cso (by simp [soC]) ?_
  have hH : H = E.put H N xs := by
    funext m
    by_cases e : m = N
    · subst e; rw [E.put_at]; exact hb
    · rw [E.put_ne _ _ e]
  have w : IntKind.u64.wrap (n : Int) = (n : Int) := by rw [wrap64]; omega
  simp only [soC, go_sem, ↓reduceIte, Nat.reduceEqDiff, Nat.reduceAdd, reduceCtorEq, w]
  refine callC_pure (Len_spec (x := (n : Int)) (by omega) (by omega) _) ?_
  simp only [go_sem, ↓reduceIte, Nat.reduceEqDiff, Nat.reduceAdd, reduceCtorEq]
  rw [hH]
  refine callC_any (pdq_spec S C hG hN hn2 n 0 n _ xs (by omega) hP hn (Nat.zero_le _) (Nat.le_refl _) (.inl rfl)) ?_
  rintro u H' ⟨ys, rfl, z1, z2⟩
  simp only [go_sem, ↓reduceIte, Nat.reduceEqDiff, Nat.reduceAdd, reduceCtorEq]
  refine finO_self ⟨ys, by rw [← hH], z1.perm, List.pairwise_iff_getElem.2 fun i j hi hj hij => ?_⟩
  have := z2 i j (Nat.zero_le _) hij (by have := z1.length; omega)
  rwa [el_get hi, el_get hj] at this
end
end Go.AM

/- Plain: the new numbers of a trellis' nodes. Conditions: as stated. -/
set_option linter.unusedVariables false
set_option linter.unusedSimpArgs false
namespace Go.AM
open Go Go.Proofs

theorem less_lt (a b : Ed) : lessI a b < 0 ↔ LexLt a b := by
  have h := less_ge a b
  constructor
  · intro h1
    exact Classical.byContradiction fun h2 => by have := h.2 h2; omega
  · intro h1
    exact Classical.byContradiction fun h2 => (h.1 (by omega)) h1
theorem lex_irr (a : Ed) : ¬ LexLt a a := by unfold LexLt; omega
theorem lex_trans {a b c : Ed} (h : LexLt a b) (h' : LexLt b c) : LexLt a c := by unfold LexLt at *; omega
theorem lex_asym {a b : Ed} (h : LexLt a b) : ¬ LexLt b a := by unfold LexLt at *; omega
theorem lex_ntrans {a b c : Ed} (h : ¬ LexLt a b) (h' : ¬ LexLt b c) : ¬ LexLt a c := by unfold LexLt at *; omega
theorem swo_less : Swo lessI := ⟨fun x h => lex_irr x ((less_lt _ _).1 h), fun h h' => (less_lt _ _).2 (lex_trans ((less_lt _ _).1 h) ((less_lt _ _).1 h')), fun h h' h2 => lex_ntrans (fun c => h ((less_lt _ _).2 c)) (fun c => h' ((less_lt _ _).2 c)) ((less_lt _ _).1 h2)⟩

/-- one order only -/
theorem sorted_unique {α : Type} {R : α → α → Prop} : ∀ {xs ys : List α}, ys.Perm xs → xs.Pairwise R → ys.Pairwise (fun x y => ¬ R y x) → ys = xs
  | [], ys, hp, _, _ => List.Perm.eq_nil hp
  | x :: xs, [], hp, _, _ => by have := hp.length_eq; simp at this
  | x :: xs, y :: ys, hp, h1, h2 => by
    have hxy : y = x := by
      refine Classical.byContradiction fun hne => ?_
      have hy : y ∈ xs := by
        have : y ∈ x :: xs := hp.mem_iff.1 (List.mem_cons_self ..)
        exact (List.mem_cons.1 this).resolve_left hne
      have hx : x ∈ ys := by
        have : x ∈ y :: ys := hp.mem_iff.2 (List.mem_cons_self ..)
        exact (List.mem_cons.1 this).resolve_left (fun e => hne e.symm)
      exact (List.pairwise_cons.1 h2).1 x hx ((List.pairwise_cons.1 h1).1 y hy)
    subst hxy
    rw [sorted_unique (hp.cons_inv) (List.pairwise_cons.1 h1).2 (List.pairwise_cons.1 h2).2]

/-- all numbers below w, each once -/
structure Ord (w : Int) (ord : List Int) : Prop where
  nodup : ord.Nodup
  mem : ∀ v, v ∈ ord ↔ 0 ≤ v ∧ v < w
def nums (n : Nat) : List Int := (List.range n).map fun (v : Nat) => (v : Int)
theorem nums_len (n : Nat) : (nums n).length = n := by simp [nums]
theorem nums_mem (n : Nat) (v : Int) : v ∈ nums n ↔ 0 ≤ v ∧ v < n := by
  simp only [nums, List.mem_map, List.mem_range]
  constructor
  · rintro ⟨k, h, rfl⟩; omega
  · rintro ⟨h1, h2⟩; exact ⟨v.toNat, by omega, by omega⟩
theorem nums_nodup (n : Nat) : (nums n).Nodup := by
  unfold nums
  rw [List.nodup_iff_pairwise_ne, List.pairwise_map]
  exact (List.nodup_iff_pairwise_ne.1 List.nodup_range).imp fun h e => h (by omega)
theorem Ord.perm {w : Int} {ord : List Int} (o : Ord w ord) {n : Nat} (hn : w = n) : ord.Perm (nums n) := by
  rw [List.perm_ext_iff_of_nodup o.nodup (nums_nodup n)]
  intro v
  rw [o.mem, nums_mem, hn]
theorem Ord.length {w : Int} {ord : List Int} (o : Ord w ord) {n : Nat} (hn : w = n) : ord.length = n := by rw [(o.perm hn).length_eq, nums_len]
/-- the place of a number -/
def posI (ord : List Int) (v : Int) : Int := (ord.idxOf v : Nat)
theorem posI_at {ord : List Int} (h : ord.Nodup) {u : Nat} (hu : u < ord.length) : posI ord ord[u] = u := by
  unfold posI
  rw [List.Nodup.idxOf_getElem h]
theorem posI_lt {ord : List Int} {v : Int} (h : v ∈ ord) : 0 ≤ posI ord v ∧ posI ord v < ord.length := by
  unfold posI
  have := List.idxOf_lt_length_iff.2 h
  omega
theorem posI_inj {ord : List Int} {u v : Int} (hu : u ∈ ord) (hv : v ∈ ord) (h : posI ord u = posI ord v) : u = v := by
  have h1 := List.getElem_idxOf (List.idxOf_lt_length_iff.2 hu)
  have h2 := List.getElem_idxOf (List.idxOf_lt_length_iff.2 hv)
  unfold posI at h
  have e : ord.idxOf u = ord.idxOf v := by omega
  rw [← h1, ← h2]
  simp only [e]
theorem posI_get {ord : List Int} {v : Int} (h : v ∈ ord) : ord[(posI ord v).toNat]?.getD 0 = v := by
  unfold posI
  have := List.idxOf_lt_length_iff.2 h
  rw [Int.toNat_natCast, List.getElem?_eq_getElem this]
  exact List.getElem_idxOf this

/-- the edges from the node with the new number u; all of them in their new order -/
def urow (ord : List Int) (l : List Ed) (u : Nat) : List Ed := (l.filter fun e => decide (e.fr = ord[u]?.getD 0)).map fun e => ⟨u, e.lb, e.to⟩
def visit (ord : List Int) (l : List Ed) : List Ed := (List.range ord.length).flatMap (urow ord l)
/-- an edge with the new number of the node that it leaves -/
def keyE (ord : List Int) (e : Ed) : Ed := ⟨posI ord e.fr, e.lb, e.to⟩
theorem good_pairwise {w w' : Int} {l : List Ed} (g : GoodSec w w' l) : l.Pairwise LexLt := by
  rw [List.pairwise_iff_getElem]
  have : ∀ d i (h : i + d + 1 < l.length), LexLt (l[i]'(by omega)) l[i + d + 1] := by
    intro d
    induction d with
    | zero => intro i h; exact g.up i h
    | succ d ih => intro i h; exact lex_trans (ih i (by omega)) (g.up (i + d + 1) (by omega))
  intro i j hi hj hij
  have := this (j - i - 1) i (by omega)
  simpa only [show i + (j - i - 1) + 1 = j by omega] using this
theorem urow_mem {ord : List Int} {l : List Ed} {u : Nat} {x : Ed} : x ∈ urow ord l u ↔ ∃ e ∈ l, e.fr = ord[u]?.getD 0 ∧ x = ⟨u, e.lb, e.to⟩ := by
  simp only [urow, List.mem_map, List.mem_filter, decide_eq_true_eq]
  constructor
  · rintro ⟨e, ⟨h1, h2⟩, rfl⟩; exact ⟨e, h1, h2, rfl⟩
  · rintro ⟨e, h1, h2, rfl⟩; exact ⟨e, ⟨h1, h2⟩, rfl⟩
theorem visit_sorted {ord : List Int} {l : List Ed} (h : l.Pairwise LexLt) : (visit ord l).Pairwise LexLt := by
  unfold visit
  rw [List.pairwise_flatMap]
  refine ⟨fun u hu => ?_, ?_⟩
  · unfold urow
    rw [List.pairwise_map, List.pairwise_filter]
    refine h.imp fun {a b} hab h1 h2 => ?_
    simp only [decide_eq_true_eq] at h1 h2
    unfold LexLt at hab
    exact .inr ⟨rfl, by show a.lb < b.lb; omega⟩
  · refine List.pairwise_lt_range.imp fun {u v} huv x hx y hy => ?_
    obtain ⟨e, _, _, rfl⟩ := urow_mem.1 hx
    obtain ⟨e', _, _, rfl⟩ := urow_mem.1 hy
    exact .inl (by simp only; omega)
theorem lex_nodup {l : List Ed} (h : l.Pairwise LexLt) : l.Nodup := List.nodup_iff_pairwise_ne.2 (h.imp fun h e => by subst e; exact lex_irr _ h)
theorem key_nodup {w : Int} {ord : List Int} (o : Ord w ord) {l : List Ed} (h : l.Pairwise LexLt) (hb : ∀ e ∈ l, 0 ≤ e.fr ∧ e.fr < w) : (l.map (keyE ord)).Nodup := by
  rw [List.nodup_iff_pairwise_ne, List.pairwise_map]
  refine h.imp_of_mem fun {a b} ha hb' hab e => ?_
  unfold keyE at e
  injection e with e1 e2 e3
  have := posI_inj ((o.mem _).2 (hb a ha)) ((o.mem _).2 (hb b hb')) e1
  unfold LexLt at hab
  omega
theorem visit_mem {w : Int} {ord : List Int} (o : Ord w ord) {l : List Ed} (hb : ∀ e ∈ l, 0 ≤ e.fr ∧ e.fr < w) (x : Ed) : x ∈ visit ord l ↔ ∃ e ∈ l, x = keyE ord e := by
  unfold visit
  rw [List.mem_flatMap]
  constructor
  · rintro ⟨u, hu, hx⟩
    obtain ⟨e, he, h1, rfl⟩ := urow_mem.1 hx
    have hu := List.mem_range.1 hu
    refine ⟨e, he, ?_⟩
    rw [List.getElem?_eq_getElem hu] at h1
    unfold keyE
    rw [h1, Option.getD_some, posI_at o.nodup hu]
  · rintro ⟨e, he, rfl⟩
    have hm := (o.mem _).2 (hb e he)
    have := posI_lt hm
    refine ⟨(posI ord e.fr).toNat, List.mem_range.2 (by omega), urow_mem.2 ⟨e, he, (posI_get hm).symm, ?_⟩⟩
    unfold keyE
    congr 1
theorem visit_perm {w : Int} {ord : List Int} (o : Ord w ord) {l : List Ed} (h : l.Pairwise LexLt) (hb : ∀ e ∈ l, 0 ≤ e.fr ∧ e.fr < w) : (visit ord l).Perm (l.map (keyE ord)) := by
  rw [List.perm_ext_iff_of_nodup (lex_nodup (visit_sorted h)) (key_nodup o h hb)]
  intro x
  rw [visit_mem o hb, List.mem_map]
  exact ⟨fun ⟨e, h1, h2⟩ => ⟨e, h1, h2.symm⟩, fun ⟨e, h1, h2⟩ => ⟨e, h1, h2.symm⟩⟩

/-- the nodes that edges lead to, each at its first place -/
def firsts (seen : List Int) : List Ed → List Int
  | [] => seen
  | e :: r => firsts (if e.to ∈ seen then seen else seen ++ [e.to]) r
theorem firsts_append (l : List Ed) : ∀ (seen : List Int) (r : List Ed), firsts seen (l ++ r) = firsts (firsts seen l) r := by
  induction l with
  | nil => intro seen r; rfl
  | cons e l ih => intro seen r; exact ih _ _
theorem firsts_snoc (seen : List Int) (l : List Ed) (e : Ed) : firsts seen (l ++ [e]) = if e.to ∈ firsts seen l then firsts seen l else firsts seen l ++ [e.to] := by
  rw [firsts_append]; rfl
theorem firsts_mem (l : List Ed) : ∀ (seen : List Int) (v : Int), v ∈ firsts seen l ↔ v ∈ seen ∨ ∃ e ∈ l, e.to = v := by
  induction l with
  | nil => intro seen v; simp [firsts]
  | cons e l ih =>
    intro seen v
    simp only [firsts, ih, List.mem_cons]
    constructor
    · rintro (h | ⟨x, hx, rfl⟩)
      · split at h
        · exact .inl h
        · rcases List.mem_append.1 h with h | h
          · exact .inl h
          · exact .inr ⟨e, .inl rfl, (List.mem_singleton.1 h).symm⟩
      · exact .inr ⟨x, .inr hx, rfl⟩
    · rintro (h | ⟨x, rfl | hx, rfl⟩)
      · left; split
        · exact h
        · exact List.mem_append_left _ h
      · left; split
        · assumption
        · simp
      · exact .inr ⟨x, hx, rfl⟩
theorem firsts_nodup (l : List Ed) : ∀ (seen : List Int), seen.Nodup → (firsts seen l).Nodup := by
  induction l with
  | nil => intro seen h; exact h
  | cons e l ih =>
    intro seen h
    refine ih _ ?_
    split
    · exact h
    · rename_i c
      rw [List.nodup_append]
      refine ⟨h, by simp, fun a ha b hb => ?_⟩
      have : b = e.to := by simpa using hb
      subst this
      exact fun e => c (e ▸ ha)
/-- the order in which the nodes are found is the order of the least edges to them -/
theorem firsts_sorted (n : Nat) : ∀ (V : List Ed), V.length = n → V.Pairwise LexLt → (firsts [] V).Pairwise fun u v => ∃ a ∈ V, a.to = u ∧ ∀ b ∈ V, b.to = v → LexLt a b := by
  induction n with
  | zero => intro V h _; rw [List.length_eq_zero_iff] at h; subst h; exact List.Pairwise.nil
  | succ n ih =>
    intro V h hV
    obtain ⟨W, e, rfl⟩ : ∃ W e, V = W ++ [e] := by
      have : V ≠ [] := fun h0 => by simp [h0] at h
      exact ⟨V.dropLast, V.getLast this, (List.dropLast_concat_getLast this).symm⟩
    have hW := List.pairwise_append.1 hV
    have hWe : ∀ a ∈ W, LexLt a e := fun a ha => hW.2.2 a ha e (by simp)
    have h0 := ih W (by simpa using h) hW.1
    have h1 : (firsts [] W).Pairwise fun u v => ∃ a ∈ W ++ [e], a.to = u ∧ ∀ b ∈ W ++ [e], b.to = v → LexLt a b := by
      refine h0.imp fun {u v} ⟨a, ha, hau, hab⟩ => ⟨a, List.mem_append_left _ ha, hau, fun b hb hbv => ?_⟩
      rcases List.mem_append.1 hb with hb | hb
      · exact hab b hb hbv
      · obtain rfl : b = e := by simpa using hb
        exact hWe a ha
    rw [firsts_snoc]
    split
    · exact h1
    · rename_i c
      rw [List.pairwise_append]
      refine ⟨h1, by simp, fun u hu v hv => ?_⟩
      obtain rfl : v = e.to := by simpa using hv
      obtain ⟨a, ha, hau⟩ := ((firsts_mem W [] u).1 hu).resolve_left (by simp)
      refine ⟨a, List.mem_append_left _ ha, hau, fun b hb hbv => ?_⟩
      rcases List.mem_append.1 hb with hb | hb
      · exact absurd ((firsts_mem W [] e.to).2 (.inr ⟨b, hb, hbv⟩)) c
      · obtain rfl : b = e := by simpa using hb
        exact hWe a ha
theorem firsts_ord {w w' : Int} {ord : List Int} (o : Ord w ord) {l : List Ed} (g : GoodSec w w' l) (hb : ∀ e ∈ l, 0 ≤ e.fr ∧ e.fr < w) (ht : ∀ e ∈ l, 0 ≤ e.to ∧ e.to < w') : Ord w' (firsts [] (visit ord l)) := by
  refine ⟨firsts_nodup _ _ (by simp), fun v => ?_⟩
  rw [firsts_mem]
  constructor
  · rintro (h | ⟨x, hx, rfl⟩)
    · simp at h
    · obtain ⟨e, he, rfl⟩ := (visit_mem o hb x).1 hx
      exact ht e he
  · rintro ⟨h1, h2⟩
    obtain ⟨e, he, rfl⟩ := g.inn v h1 h2
    exact .inr ⟨_, (visit_mem o hb _).2 ⟨e, he, rfl⟩, rfl⟩

/-- the old numbers of the nodes of each time, in their new order; the new edges of a section -/
def ordI (es : List (List Ed)) : Nat → List Int
  | 0 => [0]
  | i+1 => firsts [] (visit (ordI es i) (es[i]?.getD []))
def renE (ord ord' : List Int) (e : Ed) : Ed := ⟨posI ord e.fr, e.lb, posI ord' e.to⟩
def secI (es : List (List Ed)) (i : Nat) : List Ed := (visit (ordI es i) (es[i]?.getD [])).map fun e => ⟨e.fr, e.lb, posI (ordI es (i+1)) e.to⟩
def renI (es : List (List Ed)) : List (List Ed) := (List.range es.length).map (secI es)
theorem renI_len (es : List (List Ed)) : (renI es).length = es.length := by simp [renI]
theorem renI_get {es : List (List Ed)} {i : Nat} (h : i < es.length) : (renI es)[i]'(by rw [renI_len]; exact h) = secI es i := by simp [renI]

/-- a proper trellis -/
structure PT (ws : List Int) (es : List (List Ed)) : Prop where
  sh : Shaped ws es
  w0 : ws[0]?.getD 0 = 1
  wl : ws[es.length]?.getD 0 = 1
  good : ∀ i, (h : i < es.length) → GoodSec (ws[i]?.getD 0) (ws[i+1]?.getD 0) es[i]
theorem pt_of {ws : List Int} {es : List (List Ed)} (h : properI ws es = 0) : PT ws es := by
  obtain ⟨h0, w0, wl, hg⟩ := proper_of h
  exact ⟨shaped_of h0, w0, wl, hg⟩
theorem PT.ord {ws : List Int} {es : List (List Ed)} (p : PT ws es) : ∀ i, i ≤ es.length → Ord (ws[i]?.getD 0) (ordI es i) := by
  intro i
  induction i with
  | zero =>
    intro _
    rw [p.w0]
    refine ⟨by simp [ordI], fun v => ?_⟩
    simp only [ordI, List.mem_singleton]; omega
  | succ i ih =>
    intro h
    have hi : i < es.length := by omega
    have := p.sh.good i hi
    simp only [ordI, List.getElem?_eq_getElem hi, Option.getD_some]
    exact firsts_ord (ih (by omega)) (p.good i hi) (fun e he => ⟨(this e he).1, (this e he).2.1⟩) (fun e he => ⟨(this e he).2.2.1, (this e he).2.2.2⟩)
theorem PT.sec_sorted {ws : List Int} {es : List (List Ed)} (p : PT ws es) {i : Nat} (h : i < es.length) : (secI es i).Pairwise LexLt := by
  unfold secI
  rw [List.getElem?_eq_getElem h, Option.getD_some, List.pairwise_map]
  exact (visit_sorted (good_pairwise (p.good i h))).imp fun h => h
theorem PT.sec_perm {ws : List Int} {es : List (List Ed)} (p : PT ws es) {i : Nat} (h : i < es.length) : (secI es i).Perm (es[i].map (renE (ordI es i) (ordI es (i+1)))) := by
  have hb := p.sh.good i h
  unfold secI
  rw [List.getElem?_eq_getElem h, Option.getD_some]
  have := (visit_perm (p.ord i (by omega)) (good_pairwise (p.good i h)) fun e he => ⟨(hb e he).1, (hb e he).2.1⟩).map fun e : Ed => (⟨e.fr, e.lb, posI (ordI es (i+1)) e.to⟩ : Ed)
  rw [List.map_map] at this
  exact this
/-- the order of the least edges -/
theorem PT.ord_sorted {ws : List Int} {es : List (List Ed)} (p : PT ws es) {i : Nat} (h : i < es.length) {least : Int → Ed}
    (h1 : ∀ v, 0 ≤ v → v < ws[i+1]?.getD 0 → ∃ e ∈ es[i], e.to = v ∧ ¬ LexLt (least v) (keyE (ordI es i) e) ∧ ¬ LexLt (keyE (ordI es i) e) (least v))
    (h2 : ∀ e ∈ es[i], ¬ LexLt (keyE (ordI es i) e) (least e.to)) : (ordI es (i+1)).Pairwise fun u v => lessI (least u) (least v) < 0 := by
  have hb := p.sh.good i h
  have hbf : ∀ e ∈ es[i], 0 ≤ e.fr ∧ e.fr < ws[i]?.getD 0 := fun e he => ⟨(hb e he).1, (hb e he).2.1⟩
  have o := p.ord i (by omega)
  have o' := p.ord (i+1) (by omega)
  have hs := firsts_sorted _ _ rfl (visit_sorted (ord := ordI es i) (good_pairwise (p.good i h)))
  have e0 : ordI es (i+1) = firsts [] (visit (ordI es i) es[i]) := by simp only [ordI, List.getElem?_eq_getElem h, Option.getD_some]
  rw [← e0] at hs
  refine hs.imp_of_mem fun {u v} hu hv ⟨a, ha, hau, hab⟩ => ?_
  rw [less_lt]
  obtain ⟨e, he, rfl⟩ := (visit_mem o hbf a).1 ha
  have hv' := (o'.mem v).1 hv
  obtain ⟨e', he', hev, k1, k2⟩ := h1 v hv'.1 hv'.2
  have q := hab (keyE (ordI es i) e') ((visit_mem o hbf _).2 ⟨e', he', rfl⟩) hev
  have q2 := h2 e he
  rw [show e.to = u from hau] at q2
  exact Classical.byContradiction fun hn => lex_ntrans (lex_ntrans q2 hn) k1 q
end Go.AM
