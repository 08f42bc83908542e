/- slices.order2CmpFunc, medianCmpFunc, medianAdjacentCmpFunc, choosePivotCmpFunc. Conditions: as stated. -/
import Derived.Test.YtopeeknimehmcaaJ9
import Derived.Lib.Strings
import Derived.Lib.Slices
import Derived.Lib.Small
import Derived.Lib.Walk
import Derived.Lib.BitFns
set_option linter.unusedVariables false
set_option linter.unusedSimpArgs false
namespace Go.AM
open Go Go.Proofs
attribute [local go_sem] c_skip c_ops c_seq c_ite c_blk c_exit c_ret t_normal t_exit t_ret b_normal b_exit b_ret i_nil i_cons s_guard s_mov s_pick s_new s_zero s_ld s_ldr s_st s_bin s_beq s_isnil s_eqs s_un s_conv s_fa s_fld s_ia s_sli s_ext s_ifc s_mkf s_agg s_len s_mm s_nilchk s_bsl s_mk s_app s_cpy s_call s_inv cells_agg cells_int cells_bool p_get p_none o_s o_c e_0 e_1 e_2 e_3 e_4 iteC_true iteC_false grd_tt grd_tf grd_ft grd_ff grd_und bindV_some pickV_t pickV_f beq_bool conv_int un_not not_dec mm_min mm_max bv_add bv_sub bv_mul bv_eql bv_neq bv_lss bv_leq bv_gtr bv_geq f_normal f_one f_two f_three f_none fa_ptr fld_one ext_tup len_sl len_nils decide_true decide_false not_true_eq_false not_false_eq_true List.map_cons List.map_nil List.append_nil List.cons_append List.nil_append Nat.zero_add Nat.add_zero Nat.mul_one Nat.succ_ne_self if_true if_false List.getElem?_cons_zero List.getElem?_cons_succ

/-- slices.order2CmpFunc[int], of elements of any size -/
def o2C (k : Nat) (ag : Bool) : AF := ⟨32, [(10, none), (11, none)], (.seq (.ops [⟨none, false, (some 10), (.mov (.c (.int .i64 (0))))⟩, ⟨none, false, (some 11), (.mov (.c (.int .i64 (0))))⟩]) (.seq (.seq (.ops [⟨none, false, (some 12), (.mov (.s 4))⟩, ⟨none, false, (some 13), (.mov (.s 0))⟩, ⟨none, false, (some 14), (.mov (.s 2))⟩, ⟨none, false, (some 15), (.ia k (.s 13) (.s 14))⟩, ⟨none, false, (some 17), (.mov (.s 0))⟩, ⟨none, false, (some 18), (.mov (.s 1))⟩, ⟨none, false, (some 19), (.ia k (.s 17) (.s 18))⟩, ⟨none, false, (some 16), (.ld ag k (.s 15) none)⟩, ⟨none, false, (some 20), (.ld ag k (.s 19) none)⟩, ⟨none, false, (some 21), (.call (.s 12) [(.s 16), (.s 20)])⟩, ⟨none, false, (some 22), (.bin .lss (.s 21) (.c (.int .i64 (0))))⟩]) (.ite (.s 22) (.seq (.ops [⟨none, false, (some 23), (.mov (.s 3))⟩, ⟨none, false, (some 24), (.nilchk (.s 23))⟩, ⟨none, false, (some 25), (.ld false 1 (.s 24) none)⟩, ⟨none, false, (some 26), (.bin .add (.s 25) (.c (.int .i64 (1))))⟩, ⟨none, false, (some 27), (.nilchk (.s 23))⟩, ⟨none, false, none, (.st 1 (.s 27) (.s 26) [])⟩]) (.seq (.ops [⟨none, false, (some 28), (.mov (.s 2))⟩, ⟨none, false, (some 29), (.mov (.s 1))⟩, ⟨none, false, (some 10), (.mov (.s 28))⟩, ⟨none, false, (some 11), (.mov (.s 29))⟩]) .ret)) .skip)) (.seq (.ops [⟨none, false, (some 30), (.mov (.s 1))⟩, ⟨none, false, (some 31), (.mov (.s 2))⟩, ⟨none, false, (some 10), (.mov (.s 30))⟩, ⟨none, false, (some 11), (.mov (.s 31))⟩]) .ret)))⟩
/-- slices.medianCmpFunc[int], of elements of any size -/
def meC (k : Nat) (ag : Bool) (order2 : Nat) : AF := ⟨41, [(12, none)], (.seq (.ops [⟨none, false, (some 12), (.mov (.c (.int .i64 (0))))⟩]) (.seq (.ops [⟨none, false, (some 14), (.mov (.s 0))⟩, ⟨none, false, (some 15), (.mov (.s 1))⟩, ⟨none, false, (some 16), (.mov (.s 2))⟩, ⟨none, false, (some 17), (.mov (.s 4))⟩, ⟨none, false, (some 18), (.mov (.s 5))⟩, ⟨none, false, (some 19), (.call (.c (.fn order2 [])) [(.s 14), (.s 15), (.s 16), (.s 17), (.s 18)])⟩, ⟨none, false, (some 13), (.mov (.s 19))⟩, ⟨none, false, (some 20), (.ext (.s 13) 0)⟩, ⟨none, false, (some 21), (.ext (.s 13) 1)⟩, ⟨none, false, (some 1), (.mov (.s 20))⟩, ⟨none, false, (some 2), (.mov (.s 21))⟩]) (.seq (.ops [⟨none, false, (some 23), (.mov (.s 0))⟩, ⟨none, false, (some 24), (.mov (.s 2))⟩, ⟨none, false, (some 25), (.mov (.s 3))⟩, ⟨none, false, (some 26), (.mov (.s 4))⟩, ⟨none, false, (some 27), (.mov (.s 5))⟩, ⟨none, false, (some 28), (.call (.c (.fn order2 [])) [(.s 23), (.s 24), (.s 25), (.s 26), (.s 27)])⟩, ⟨none, false, (some 22), (.mov (.s 28))⟩, ⟨none, false, (some 29), (.ext (.s 22) 0)⟩, ⟨none, false, (some 30), (.ext (.s 22) 1)⟩, ⟨none, false, (some 2), (.mov (.s 29))⟩, ⟨none, false, (some 3), (.mov (.s 30))⟩]) (.seq (.ops [⟨none, false, (some 32), (.mov (.s 0))⟩, ⟨none, false, (some 33), (.mov (.s 1))⟩, ⟨none, false, (some 34), (.mov (.s 2))⟩, ⟨none, false, (some 35), (.mov (.s 4))⟩, ⟨none, false, (some 36), (.mov (.s 5))⟩, ⟨none, false, (some 37), (.call (.c (.fn order2 [])) [(.s 32), (.s 33), (.s 34), (.s 35), (.s 36)])⟩, ⟨none, false, (some 31), (.mov (.s 37))⟩, ⟨none, false, (some 38), (.ext (.s 31) 0)⟩, ⟨none, false, (some 39), (.ext (.s 31) 1)⟩, ⟨none, false, (some 1), (.mov (.s 38))⟩, ⟨none, false, (some 2), (.mov (.s 39))⟩]) (.seq (.ops [⟨none, false, (some 40), (.mov (.s 2))⟩, ⟨none, false, (some 12), (.mov (.s 40))⟩]) .ret)))))⟩
/-- slices.medianAdjacentCmpFunc[int], of elements of any size -/
def maC (k : Nat) (ag : Bool) (median : Nat) : AF := ⟨18, [(8, none)], (.seq (.ops [⟨none, false, (some 8), (.mov (.c (.int .i64 (0))))⟩]) (.seq (.ops [⟨none, false, (some 9), (.mov (.s 0))⟩, ⟨none, false, (some 10), (.mov (.s 1))⟩, ⟨none, false, (some 11), (.bin .sub (.s 10) (.c (.int .i64 (1))))⟩, ⟨none, false, (some 12), (.mov (.s 1))⟩, ⟨none, false, (some 13), (.mov (.s 1))⟩, ⟨none, false, (some 14), (.bin .add (.s 13) (.c (.int .i64 (1))))⟩, ⟨none, false, (some 15), (.mov (.s 2))⟩, ⟨none, false, (some 16), (.mov (.s 3))⟩, ⟨none, false, (some 17), (.call (.c (.fn median [])) [(.s 9), (.s 11), (.s 12), (.s 14), (.s 15), (.s 16)])⟩, ⟨none, false, (some 8), (.mov (.s 17))⟩]) .ret))⟩
/-- slices.choosePivotCmpFunc[int], of elements of any size -/
def cpC (k : Nat) (ag : Bool) (medianAdjacent median : Nat) : AF := ⟨63, [(8, none), (9, none)], (.seq (.ops [⟨none, false, (some 8), (.mov (.c (.int .i64 (0))))⟩, ⟨none, false, (some 9), (.mov (.c (.int .i64 (0))))⟩]) (.seq (.ops [⟨none, false, (some 15), (.mov (.s 2))⟩, ⟨none, false, (some 16), (.mov (.s 1))⟩, ⟨none, false, (some 17), (.bin .sub (.s 15) (.s 16))⟩, ⟨none, false, (some 10), (.mov (.s 17))⟩]) (.seq (.ops [⟨none, false, (some 11), (.zero [(.int .i64 (0))])⟩]) (.seq (.ops [⟨none, false, (some 18), (.mov (.s 1))⟩, ⟨none, false, (some 19), (.mov (.s 10))⟩, ⟨none, false, (some 20), (.bin .quo (.s 19) (.c (.int .i64 (4))))⟩, ⟨none, false, (some 21), (.bin .mul (.s 20) (.c (.int .i64 (1))))⟩, ⟨none, false, (some 22), (.bin .add (.s 18) (.s 21))⟩, ⟨none, false, (some 12), (.mov (.s 22))⟩]) (.seq (.ops [⟨none, false, (some 23), (.mov (.s 1))⟩, ⟨none, false, (some 24), (.mov (.s 10))⟩, ⟨none, false, (some 25), (.bin .quo (.s 24) (.c (.int .i64 (4))))⟩, ⟨none, false, (some 26), (.bin .mul (.s 25) (.c (.int .i64 (2))))⟩, ⟨none, false, (some 27), (.bin .add (.s 23) (.s 26))⟩, ⟨none, false, (some 13), (.mov (.s 27))⟩]) (.seq (.ops [⟨none, false, (some 28), (.mov (.s 1))⟩, ⟨none, false, (some 29), (.mov (.s 10))⟩, ⟨none, false, (some 30), (.bin .quo (.s 29) (.c (.int .i64 (4))))⟩, ⟨none, false, (some 31), (.bin .mul (.s 30) (.c (.int .i64 (3))))⟩, ⟨none, false, (some 32), (.bin .add (.s 28) (.s 31))⟩, ⟨none, false, (some 14), (.mov (.s 32))⟩]) (.seq (.seq (.ops [⟨none, false, (some 33), (.mov (.s 10))⟩, ⟨none, false, (some 34), (.bin .geq (.s 33) (.c (.int .i64 (8))))⟩]) (.ite (.s 34) (.seq (.seq (.ops [⟨none, false, (some 35), (.mov (.s 10))⟩, ⟨none, false, (some 36), (.bin .geq (.s 35) (.c (.int .i64 (50))))⟩]) (.ite (.s 36) (.seq (.ops [⟨none, false, (some 37), (.mov (.s 0))⟩, ⟨none, false, (some 38), (.mov (.s 12))⟩, ⟨none, false, (some 39), (.mov (.s 3))⟩, ⟨none, false, (some 40), (.call (.c (.fn medianAdjacent [])) [(.s 37), (.s 38), (.s 11), (.s 39)])⟩, ⟨none, false, (some 12), (.mov (.s 40))⟩]) (.seq (.ops [⟨none, false, (some 41), (.mov (.s 0))⟩, ⟨none, false, (some 42), (.mov (.s 13))⟩, ⟨none, false, (some 43), (.mov (.s 3))⟩, ⟨none, false, (some 44), (.call (.c (.fn medianAdjacent [])) [(.s 41), (.s 42), (.s 11), (.s 43)])⟩, ⟨none, false, (some 13), (.mov (.s 44))⟩]) (.ops [⟨none, false, (some 45), (.mov (.s 0))⟩, ⟨none, false, (some 46), (.mov (.s 14))⟩, ⟨none, false, (some 47), (.mov (.s 3))⟩, ⟨none, false, (some 48), (.call (.c (.fn medianAdjacent [])) [(.s 45), (.s 46), (.s 11), (.s 47)])⟩, ⟨none, false, (some 14), (.mov (.s 48))⟩]))) .skip)) (.ops [⟨none, false, (some 49), (.mov (.s 0))⟩, ⟨none, false, (some 50), (.mov (.s 12))⟩, ⟨none, false, (some 51), (.mov (.s 13))⟩, ⟨none, false, (some 52), (.mov (.s 14))⟩, ⟨none, false, (some 53), (.mov (.s 3))⟩, ⟨none, false, (some 54), (.call (.c (.fn median [])) [(.s 49), (.s 50), (.s 51), (.s 52), (.s 11), (.s 53)])⟩, ⟨none, false, (some 13), (.mov (.s 54))⟩])) .skip)) (.seq (.ops [⟨none, false, (some 55), (.ld false 1 (.s 11) none)⟩]) (.blk 0 (.seq (.ops [⟨none, false, (some 58), (.bin .eql (.s 55) (.c (.int .i64 (0))))⟩, ⟨none, false, (some 57), (.mov (.s 58))⟩]) (.ite (.s 57) (.seq (.ops [⟨none, false, (some 59), (.mov (.s 13))⟩, ⟨none, false, (some 8), (.mov (.s 59))⟩, ⟨none, false, (some 9), (.mov (.c (.int .i64 (1))))⟩]) .ret) (.seq (.ops [⟨none, false, (some 61), (.bin .eql (.s 55) (.c (.int .i64 (12))))⟩, ⟨none, false, (some 60), (.mov (.s 61))⟩]) (.ite (.s 60) (.seq (.ops [⟨none, false, (some 62), (.mov (.s 13))⟩, ⟨none, false, (some 8), (.mov (.s 62))⟩, ⟨none, false, (some 9), (.mov (.c (.int .i64 (2))))⟩]) .ret) (.seq (.ops [⟨none, false, (some 56), (.mov (.s 13))⟩, ⟨none, false, (some 8), (.mov (.s 56))⟩, ⟨none, false, (some 9), (.mov (.c (.int .i64 (0))))⟩]) .ret))))))))))))))⟩

/-- a box with a number -/
def bx (H : Heap) (n : Nat) (kd : IntKind) (s : Int) : Heap := H.upd n (some ⟨true, 1, [.int kd s]⟩)
theorem bx_at (H : Heap) (n : Nat) (kd : IntKind) (s : Int) : bx H n kd s n = some ⟨true, 1, [.int kd s]⟩ := by simp [bx, Heap.upd]
theorem bx_ne (H : Heap) {n m : Nat} (kd : IntKind) (s : Int) (h : m ≠ n) : bx H n kd s m = H m := by simp [bx, Heap.upd, h]
theorem bx_bx (H : Heap) (n : Nat) (kd : IntKind) (s s' : Int) : (bx H n kd s).upd n (some ⟨true, 1, [.int kd s']⟩) = bx H n kd s' := by
  funext m
  by_cases e : m = n
  · subst e; simp [bx, Heap.upd]
  · simp [bx, Heap.upd, e]
theorem bx_st {H : Heap} {env : Env} {d : Option Nat} {K : Env → Heap → Prop} {n : Nat} {kd : IntKind} {s s' : Int} (h : K (env.put d und) (bx H n kd s')) : stC (bx H n kd s) env [] 1 (.ptr n 0) (.int kd s') d K := by
  simp only [stC, bx_at]
  refine ⟨trivial, trivial, rfl, .inl (by decide), (by show 0 + 1 ≤ 1; decide), ?_⟩
  have : (bx H n kd s).upd n (some ⟨true, 1, splice [V.int kd s] 0 (V.int kd s').cells⟩) = bx H n kd s' := bx_bx H n kd s s'
  rw [this]; exact h
theorem nilchk_ptr (x : Opd) (env : Env) (H : Heap) {n o : Nat} (h : x.ev env = .ptr n o) : pv (.nilchk x) env H = some (.ptr n o) := by simp [pv, h]

section
variable {α : Type} [Inhabited α] {k : Nat} {ag : Bool} {E : Elem α k ag} {G H : Heap} {g : FuncId} {caps : List V} {cf : α → α → Int} {Pr : α → Prop}

theorem order2_spec {f N n a b sb : Nat} {fl : Bool} {xs : List α} {s : Int} (C : Cmp E G g caps cf Pr) (hcv : cvF Try.prog f = some (o2C k ag)) (hb : H N = some ⟨true, k, E.cells xs⟩) (hne : N ≠ sb) (hG : Heap.sub G H) (hs : G sb = none) (hP : ∀ x ∈ xs, Pr x) (hn : xs.length = n) (ha : a < n) (hb2 : b < n) :
    ACalls Try.prog f [.sl N 0 n fl, .int .i64 a, .int .i64 b, .ptr sb 0, .fn g caps] (bx H sb .i64 s) fun u H' => ∃ (x y : Nat) (s' : Int), u = .tup [.int .i64 x, .int .i64 y] ∧ H' = bx H sb .i64 s' ∧ (x = a ∧ y = b ∨ x = b ∧ y = a) := by
  refine ACalls.of_body hm hcv (by simp [o2C]) ?_
  have hbN : bx H sb .i64 s N = some ⟨true, k, E.cells xs⟩ := by rw [bx_ne _ _ _ hne]; exact hb
  have hra := E.read hbN (i := a) (by omega)
  have hrb := E.read hbN (i := b) (by omega)
  simp only [o2C, go_sem, ↓reduceIte, Nat.reduceEqDiff, Nat.reduceAdd, reduceCtorEq, ia_el ha, ia_el hb2, hra, hrb]
  refine callC_pure (C.at hP (hG.upd' hs _) (i := b) (j := a) (by omega) (by omega)) ?_
  simp only [go_sem, ↓reduceIte, Nat.reduceEqDiff, Nat.reduceAdd, reduceCtorEq]
  refine iteC_if (fun c => ?_) (fun c => ?_)
  · simp only [go_sem, ↓reduceIte, Nat.reduceEqDiff, Nat.reduceAdd, reduceCtorEq, pv, ld_box (bx_at H sb .i64 s)]
    refine bx_st ?_
    simp only [go_sem, ↓reduceIte, Nat.reduceEqDiff, Nat.reduceAdd, reduceCtorEq]
    exact finO_self ⟨b, a, _, rfl, rfl, .inr ⟨rfl, rfl⟩⟩
  · simp only [go_sem, ↓reduceIte, Nat.reduceEqDiff, Nat.reduceAdd, reduceCtorEq]
    exact finO_self ⟨a, b, s, rfl, rfl, .inl ⟨rfl, rfl⟩⟩
theorem median_spec {f o2 N n a b c sb : Nat} {fl : Bool} {xs : List α} {s : Int} (C : Cmp E G g caps cf Pr) (hcv : cvF Try.prog f = some (meC k ag o2)) (ho2 : cvF Try.prog o2 = some (o2C k ag)) (hb : H N = some ⟨true, k, E.cells xs⟩) (hne : N ≠ sb) (hG : Heap.sub G H) (hs : G sb = none) (hP : ∀ x ∈ xs, Pr x) (hn : xs.length = n) (ha : a < n) (hb2 : b < n) (hc : c < n) :
    ACalls Try.prog f [.sl N 0 n fl, .int .i64 a, .int .i64 b, .int .i64 c, .ptr sb 0, .fn g caps] (bx H sb .i64 s) fun u H' => ∃ (x : Nat) (s' : Int), u = .int .i64 x ∧ H' = bx H sb .i64 s' ∧ (x = a ∨ x = b ∨ x = c) := by
  refine ACalls.of_body hm hcv (by simp [meC]) ?_
  simp only [meC, go_sem, ↓reduceIte, Nat.reduceEqDiff, Nat.reduceAdd, reduceCtorEq]
  refine callC_any (order2_spec C ho2 hb hne hG hs hP hn ha hb2) ?_
  rintro u H1 ⟨x1, y1, s1, rfl, rfl, h1⟩
  simp only [go_sem, ↓reduceIte, Nat.reduceEqDiff, Nat.reduceAdd, reduceCtorEq]
  refine callC_any (order2_spec C ho2 hb hne hG hs hP hn (by omega) hc) ?_
  rintro u H1 ⟨x2, y2, s2, rfl, rfl, h2⟩
  simp only [go_sem, ↓reduceIte, Nat.reduceEqDiff, Nat.reduceAdd, reduceCtorEq]
  refine callC_any (order2_spec C ho2 hb hne hG hs hP hn (by omega) (by omega)) ?_
  rintro u H1 ⟨x3, y3, s3, rfl, rfl, h3⟩
  simp only [go_sem, ↓reduceIte, Nat.reduceEqDiff, Nat.reduceAdd, reduceCtorEq]
  exact finO_self ⟨y3, s3, rfl, rfl, by omega⟩
theorem medianAdj_spec {f me o2 N n a sb : Nat} {fl : Bool} {xs : List α} {s : Int} (C : Cmp E G g caps cf Pr) (hcv : cvF Try.prog f = some (maC k ag me)) (hme : cvF Try.prog me = some (meC k ag o2)) (ho2 : cvF Try.prog o2 = some (o2C k ag)) (hb : H N = some ⟨true, k, E.cells xs⟩) (hne : N ≠ sb) (hG : Heap.sub G H) (hs : G sb = none) (hP : ∀ x ∈ xs, Pr x) (hn : xs.length = n) (hn2 : n ≤ 1099511627776) (ha : a + 2 < n) :
    ACalls Try.prog f [.sl N 0 n fl, .int .i64 ((a + 1 : Nat) : Int), .ptr sb 0, .fn g caps] (bx H sb .i64 s) fun u H' => ∃ (x : Nat) (s' : Int), u = .int .i64 x ∧ H' = bx H sb .i64 s' ∧ a ≤ x ∧ x ≤ a + 2 := by
  refine ACalls.of_body hm hcv (by simp [maC]) ?_
  have w1 : IntKind.i64.wrap (((a + 1 : Nat) : Int) - 1) = (a : Int) := by rw [wrapI (by omega) (by omega)]; omega
  have w2 : IntKind.i64.wrap (((a + 1 : Nat) : Int) + 1) = ((a + 2 : Nat) : Int) := by rw [wrapI (by omega) (by omega)]; omega
  simp only [maC, go_sem, ↓reduceIte, Nat.reduceEqDiff, Nat.reduceAdd, reduceCtorEq, w1, w2]
  refine callC_any (median_spec C hme ho2 hb hne hG hs hP hn (by omega) (by omega) (by omega)) ?_
  rintro u H1 ⟨x, s1, rfl, rfl, h1⟩
  simp only [go_sem, ↓reduceIte, Nat.reduceEqDiff, Nat.reduceAdd, reduceCtorEq]
  exact finO_self ⟨x, s1, rfl, rfl, by omega, by omega⟩

theorem bv_quoI4 {a : Int} (h : 0 ≤ a) (h1 : a < 9223372036854775808) : binV .quo (.int .i64 a) (.int .i64 4) = some (.int .i64 (a / 4)) := by
  have : a.tdiv 4 = a / 4 := Int.tdiv_eq_ediv_of_nonneg h
  have w : IntKind.i64.wrap (a / 4) = a / 4 := wrapI (by omega) (by omega)
  simp [binV, this, w]
theorem choosePivot_spec {f ma me o2 N n a b : Nat} {fl : Bool} {xs : List α} (C : Cmp E G g caps cf Pr) (hcv : cvF Try.prog f = some (cpC k ag ma me)) (hma : cvF Try.prog ma = some (maC k ag me)) (hme : cvF Try.prog me = some (meC k ag o2)) (ho2 : cvF Try.prog o2 = some (o2C k ag)) (hb : H N = some ⟨true, k, E.cells xs⟩) (hG : Heap.sub G H) (hP : ∀ x ∈ xs, Pr x) (hn : xs.length = n) (hn2 : n ≤ 1099511627776) (hab : a + 12 < b) (hbn : b ≤ n) :
    ACalls Try.prog f [.sl N 0 n fl, .int .i64 a, .int .i64 b, .fn g caps] H fun u H' => ∃ (x : Nat) (h : Int), u = .tup [.int .i64 x, .int .i64 h] ∧ H' = H ∧ a ≤ x ∧ x < b := by
  refine ACalls.of_body hm hcv (by simp [cpC]) ?_
  obtain ⟨l, hl⟩ : ∃ l, b = a + l := ⟨b - a, by omega⟩
  obtain ⟨q, hq⟩ : ∃ q, q = l / 4 := ⟨_, rfl⟩
  have w0 : IntKind.i64.wrap ((b : Int) - a) = (l : Int) := by rw [wrapI (by omega) (by omega)]; omega
  have e0 : (l : Int) / 4 = (q : Int) := by omega
  have w1 : IntKind.i64.wrap ((q : Int) * 1) = (q : Int) := by rw [wrapI (by omega) (by omega)]; omega
  have w2 : IntKind.i64.wrap ((q : Int) * 2) = ((2 * q : Nat) : Int) := by rw [wrapI (by omega) (by omega)]; omega
  have w3 : IntKind.i64.wrap ((q : Int) * 3) = ((3 * q : Nat) : Int) := by rw [wrapI (by omega) (by omega)]; omega
  have v1 : IntKind.i64.wrap ((a : Int) + (q : Int)) = ((a + q : Nat) : Int) := by rw [wrapI (by omega) (by omega)]; omega
  have v2 : IntKind.i64.wrap ((a : Int) + ((2 * q : Nat) : Int)) = ((a + 2 * q : Nat) : Int) := by rw [wrapI (by omega) (by omega)]; omega
  have v3 : IntKind.i64.wrap ((a : Int) + ((3 * q : Nat) : Int)) = ((a + 3 * q : Nat) : Int) := by rw [wrapI (by omega) (by omega)]; omega
  simp only [cpC, go_sem, ↓reduceIte, Nat.reduceEqDiff, Nat.reduceAdd, reduceCtorEq, w0]
  refine newC_intro fun sb H1 hn1 hs1 hb1 => ?_
  have hne : N ≠ sb := fun e => by rw [← e, hb] at hn1; cases hn1
  have hs : G sb = none := by
    cases e : G sb with
    | none => rfl
    | some c => rw [hG _ _ e] at hn1; cases hn1
  have hb1' := hs1 _ _ hb
  have hG1 : Heap.sub G H1 := fun n b h => hs1 _ _ (hG _ _ h)
  rw [show H1 = bx H1 sb .i64 0 by
    funext m
    by_cases e : m = sb
    · subst e; rw [bx_at]; exact hb1
    · rw [bx_ne _ _ _ e]]
  have hq4 := bv_quoI4 (a := (l : Int)) (by omega) (by omega)
  have g8 : (8 : Int) ≤ (l : Int) := by omega
  simp only [go_sem, ↓reduceIte, Nat.reduceEqDiff, Nat.reduceAdd, reduceCtorEq, hq4, e0, w1, w2, w3, v1, v2, v3, g8]
  refine iteC_join (fun env' H' => ∃ (i j k : Nat) (s : Int), H' = bx H1 sb .i64 s ∧ env' 0 = .sl N 0 n fl ∧ env' 3 = .fn g caps ∧ env' 11 = .ptr sb 0 ∧ env' 12 = .int .i64 i ∧ env' 13 = .int .i64 j ∧ env' 14 = .int .i64 k ∧ a ≤ i ∧ i < b ∧ a ≤ j ∧ j < b ∧ a ≤ k ∧ k < b) ?_ ?_ ?_
  · intro c
    obtain ⟨q', hq'⟩ : ∃ q', q = q' + 1 := ⟨q - 1, by omega⟩
    have f1 : a + q = (a + q') + 1 := by omega
    have f2 : a + 2 * q = (a + 2 * q') + 1 + 1 := by omega
    have f3 : a + 3 * q = (a + 3 * q') + 2 + 1 := by omega
    simp only [go_sem, ↓reduceIte, Nat.reduceEqDiff, Nat.reduceAdd, reduceCtorEq]
    rw [f1]
    refine callC_any (medianAdj_spec C hma hme ho2 hb1' hne hG1 hs hP hn hn2 (a := a + q') (by omega)) ?_
    rintro u H2 ⟨x1, s1, rfl, rfl, h1⟩
    simp only [go_sem, ↓reduceIte, Nat.reduceEqDiff, Nat.reduceAdd, reduceCtorEq]
    rw [f2]
    refine callC_any (medianAdj_spec C hma hme ho2 hb1' hne hG1 hs hP hn hn2 (a := a + 2 * q' + 1) (by omega)) ?_
    rintro u H2 ⟨x2, s2, rfl, rfl, h2⟩
    simp only [go_sem, ↓reduceIte, Nat.reduceEqDiff, Nat.reduceAdd, reduceCtorEq]
    rw [f3]
    refine callC_any (medianAdj_spec C hma hme ho2 hb1' hne hG1 hs hP hn hn2 (a := a + 3 * q' + 2) (by omega)) ?_
    rintro u H2 ⟨x3, s3, rfl, rfl, h3⟩
    simp only [go_sem, ↓reduceIte, Nat.reduceEqDiff, Nat.reduceAdd, reduceCtorEq]
    exact ⟨x1, x2, x3, s3, rfl, by first | rfl | trivial, by first | rfl | trivial, by first | rfl | trivial, by first | rfl | trivial, by first | rfl | trivial, by first | rfl | trivial, by omega, by omega, by omega, by omega, by omega, by omega⟩
  · intro c
    simp only [go_sem, ↓reduceIte, Nat.reduceEqDiff, Nat.reduceAdd, reduceCtorEq]
    exact ⟨a + q, a + 2 * q, a + 3 * q, 0, rfl, by first | rfl | trivial, by first | rfl | trivial, by first | rfl | trivial, by first | rfl | trivial, by first | rfl | trivial, by first | rfl | trivial, by omega, by omega, by omega, by omega, by omega, by omega⟩
  rintro env H' ⟨i, j, k', s, rfl, h0, h3, h11, h12, h13, h14, i1, i2, j1, j2, k1, k2⟩
  simp only [go_sem, ↓reduceIte, Nat.reduceEqDiff, Nat.reduceAdd, reduceCtorEq, h0, h3, h11, h12, h13, h14]
  refine callC_any (median_spec C hme ho2 hb1' hne hG1 hs hP hn (by omega) (by omega) (by omega)) ?_
  rintro u H2 ⟨x, s1, rfl, rfl, hx⟩
  simp only [go_sem, ↓reduceIte, Nat.reduceEqDiff, Nat.reduceAdd, reduceCtorEq, pv, h11, ld_box (bx_at H1 sb .i64 s1)]
  have fin : ∀ h : Int, finO (.tup [.int .i64 (x : Int), .int .i64 h]) (bx H1 sb .i64 s1) fun u H' => ∃ (x : Nat) (h : Int), u = .tup [.int .i64 x, .int .i64 h] ∧ H' = H ∧ a ≤ x ∧ x < b := fun h => finO_sub (hs1.upd' hn1 _) ⟨x, h, rfl, rfl, by omega, by omega⟩
  refine iteC_if (fun c => ?_) (fun c => ?_)
  · simp only [go_sem, ↓reduceIte, Nat.reduceEqDiff, Nat.reduceAdd, reduceCtorEq]
    exact fin 1
  · simp only [go_sem, ↓reduceIte, Nat.reduceEqDiff, Nat.reduceAdd, reduceCtorEq]
    refine iteC_if (fun c => ?_) (fun c => ?_)
    · simp only [go_sem, ↓reduceIte, Nat.reduceEqDiff, Nat.reduceAdd, reduceCtorEq]
      exact fin 2
    · simp only [go_sem, ↓reduceIte, Nat.reduceEqDiff, Nat.reduceAdd, reduceCtorEq]
      exact fin 0
end
end Go.AM

/- math/bits.Len32, walked by the shelf's template, and as a contract of the abstract machine. Conditions: x is a uint32. -/
namespace Go.Proofs

set_option maxHeartbeats 4000000 in
set_option maxRecDepth 100000 in
/-- bits.Len32: "Len32 returns the minimum number of bits required to represent x; the result is 0 for x == 0.": IT RETURNS 'Lib.bitLen x'; the world is as it was. ('h0', 'h1': x is a uint32.) -/
theorem Try.bits_Len32 (x : Int) (w : World) (h0 : 0 ≤ x) (h1 : x ≤ 4294967295) :
    Calls Try.prog 107 #[.int .u32 x] w fun e w' => e = .returned (.int .i64 (Lib.bitLen x.toNat)) ∧ w' = w := by
  go_enter Try.func107, Try.ntmps107
  go_wp2
  all_goals (go_ret; refine ⟨congrArg Ending.returned (congrArg (Value.int IntKind.i64) ?_), rfl⟩)
  all_goals first
    | (rw [Lib.len8_of (x / 65536 / 256 % 256) (by omega) (by omega)]
       have e : (x / 65536 / 256 % 256).toNat = x.toNat / 16777216 := by omega
       have l := Lib.bitLen_le8' (x / 65536 / 256 % 256) (by omega) (by omega)
       have s := Lib.bitLen_shift24 x.toNat (by omega) (by omega)
       rw [e] at l ⊢
       omega)
    | (rw [Lib.len8_of (x / 65536 % 256) (by omega) (by omega)]
       have e : (x / 65536 % 256).toNat = x.toNat / 65536 := by omega
       have l := Lib.bitLen_le8' (x / 65536 % 256) (by omega) (by omega)
       have s := Lib.bitLen_shift16 x.toNat (by omega) (by omega)
       rw [e] at l ⊢
       omega)
    | (rw [Lib.len8_of (x / 256 % 256) (by omega) (by omega)]
       have e : (x / 256 % 256).toNat = x.toNat / 256 := by omega
       have l := Lib.bitLen_le8' (x / 256 % 256) (by omega) (by omega)
       have s := Lib.bitLen_shift8 x.toNat (by omega) (by omega)
       rw [e] at l ⊢
       omega)
    | (rw [Lib.len8_of (x % 256) (by omega) (by omega)]
       have e : (x % 256).toNat = x.toNat := by omega
       have l := Lib.bitLen_le8' (x % 256) (by omega) (by omega)
       rw [e] at l ⊢
       omega)

end Go.Proofs
namespace Go.AM
open Go Go.Proofs

theorem Len32_spec {x : Int} (h0 : 0 ≤ x) (h1 : x ≤ 4294967295) (H : Heap) : ACalls Try.prog 107 [.int .u32 x] H fun u H' => u = .int .i64 (Lib.bitLen x.toNat) ∧ H' = H := by
  refine ⟨by kernel_rfl, fun μ w cargs hs hv => ?_⟩
  obtain ⟨v, r, e, hv1, hr⟩ : ∃ v r, cargs.toList = v :: r ∧ VRel μ (.int .u32 x) v ∧ VRels μ [] r := by simpa only [VRels] using hv
  have hr' : r = [] := by simpa only [VRels] using hr
  have hv' : v = .int .u32 x := by simpa only [VRel] using hv1
  subst hr' hv'
  obtain rfl : cargs = #[.int .u32 x] := by cases cargs; simp_all
  refine (Try.bits_Len32 x w h0 h1).mono ?_
  rintro e w' ⟨rfl, rfl⟩
  exact ⟨μ, _, .int .i64 (Lib.bitLen x.toNat), H, rfl, Tr.refl _ _ _, hs, by simp only [VRel], rfl, rfl⟩

theorem bitLenAux_bounds : ∀ (f x : Nat), x < 2 ^ f → x < 2 ^ Lib.bitLenAux f x ∧ (x ≠ 0 → 2 ^ Lib.bitLenAux f x ≤ 2 * x)
  | 0, x, h => by
    have : x = 0 := by simpa using h
    subst this
    exact ⟨by simp [Lib.bitLenAux], fun h => absurd rfl h⟩
  | f+1, x, h => by
    by_cases e : x = 0
    · subst e
      exact ⟨by simp [Lib.bitLenAux], fun h => absurd rfl h⟩
    · obtain ⟨a, b⟩ := bitLenAux_bounds f (x / 2) (by rw [Nat.pow_succ] at h; omega)
      simp only [Lib.bitLenAux, if_neg e]
      rw [Nat.add_comm 1, Nat.pow_succ]
      refine ⟨by omega, fun _ => ?_⟩
      by_cases e2 : x / 2 = 0
      · have : x = 1 := by omega
        subst this
        have : Lib.bitLenAux f 0 = 0 := by cases f <;> simp [Lib.bitLenAux]
        simp [this]
      · have := b e2
        omega
theorem bitLen_bounds {x : Nat} (h : x < 18446744073709551616) : x < 2 ^ Lib.bitLen x ∧ (x ≠ 0 → 2 ^ Lib.bitLen x ≤ 2 * x) := bitLenAux_bounds 64 x h
end Go.AM

/- math/bits.Len64, walked by the shelf's template, and Len, as contracts of the abstract machine. Conditions: x is a uint64. -/
set_option linter.unusedVariables false
set_option linter.unusedSimpArgs false
namespace Go.Proofs

set_option maxHeartbeats 4000000 in
set_option maxRecDepth 100000 in
/-- bits.Len64: "Len64 returns the minimum number of bits required to represent x; the result is 0 for x == 0.": IT RETURNS 'Lib.bitLen x'; the world is as it was. ('h0', 'h1': x is a uint64.) -/
theorem Try.bits_Len64 (x : Int) (w : World) (h0 : 0 ≤ x) (h1 : x ≤ 18446744073709551615) :
    Calls Try.prog 119 #[.int .u64 x] w fun e w' => e = .returned (.int .i64 (Lib.bitLen x.toNat)) ∧ w' = w := by
  go_enter Try.func119, Try.ntmps119
  go_wp2
  all_goals (go_ret; refine ⟨congrArg Ending.returned (congrArg (Value.int IntKind.i64) ?_), rfl⟩)
  all_goals first
    | (rw [Lib.len8_of (x / 4294967296 / 65536 / 256 % 256) (by omega) (by omega)]
       have e : (x / 4294967296 / 65536 / 256 % 256).toNat = x.toNat / 72057594037927936 := by omega
       have l := Lib.bitLen_le8' (x / 4294967296 / 65536 / 256 % 256) (by omega) (by omega)
       have s := Lib.bitLen_shift56 x.toNat (by omega) (by omega)
       rw [e] at l ⊢
       omega)
    | (rw [Lib.len8_of (x / 4294967296 / 65536 % 256) (by omega) (by omega)]
       have e : (x / 4294967296 / 65536 % 256).toNat = x.toNat / 281474976710656 := by omega
       have l := Lib.bitLen_le8' (x / 4294967296 / 65536 % 256) (by omega) (by omega)
       have s := Lib.bitLen_shift48 x.toNat (by omega) (by omega)
       rw [e] at l ⊢
       omega)
    | (rw [Lib.len8_of (x / 4294967296 / 256 % 256) (by omega) (by omega)]
       have e : (x / 4294967296 / 256 % 256).toNat = x.toNat / 1099511627776 := by omega
       have l := Lib.bitLen_le8' (x / 4294967296 / 256 % 256) (by omega) (by omega)
       have s := Lib.bitLen_shift40 x.toNat (by omega) (by omega)
       rw [e] at l ⊢
       omega)
    | (rw [Lib.len8_of (x / 4294967296 % 256) (by omega) (by omega)]
       have e : (x / 4294967296 % 256).toNat = x.toNat / 4294967296 := by omega
       have l := Lib.bitLen_le8' (x / 4294967296 % 256) (by omega) (by omega)
       have s := Lib.bitLen_shift32 x.toNat (by omega) (by omega)
       rw [e] at l ⊢
       omega)
    | (rw [Lib.len8_of (x / 65536 / 256 % 256) (by omega) (by omega)]
       have e : (x / 65536 / 256 % 256).toNat = x.toNat / 16777216 := by omega
       have l := Lib.bitLen_le8' (x / 65536 / 256 % 256) (by omega) (by omega)
       have s := Lib.bitLen_shift24 x.toNat (by omega) (by omega)
       rw [e] at l ⊢
       omega)
    | (rw [Lib.len8_of (x / 65536 % 256) (by omega) (by omega)]
       have e : (x / 65536 % 256).toNat = x.toNat / 65536 := by omega
       have l := Lib.bitLen_le8' (x / 65536 % 256) (by omega) (by omega)
       have s := Lib.bitLen_shift16 x.toNat (by omega) (by omega)
       rw [e] at l ⊢
       omega)
    | (rw [Lib.len8_of (x / 256 % 256) (by omega) (by omega)]
       have e : (x / 256 % 256).toNat = x.toNat / 256 := by omega
       have l := Lib.bitLen_le8' (x / 256 % 256) (by omega) (by omega)
       have s := Lib.bitLen_shift8 x.toNat (by omega) (by omega)
       rw [e] at l ⊢
       omega)
    | (rw [Lib.len8_of (x % 256) (by omega) (by omega)]
       have e : (x % 256).toNat = x.toNat := by omega
       have l := Lib.bitLen_le8' (x % 256) (by omega) (by omega)
       rw [e] at l ⊢
       omega)

end Go.Proofs
namespace Go.AM
open Go Go.Proofs
attribute [local go_sem] c_skip c_ops c_seq c_ite c_blk c_exit c_ret t_normal t_exit t_ret b_normal b_exit b_ret i_nil i_cons s_guard s_mov s_pick s_new s_zero s_ld s_ldr s_st s_bin s_beq s_isnil s_eqs s_un s_conv s_fa s_fld s_ia s_sli s_ext s_ifc s_mkf s_agg s_len s_mm s_nilchk s_bsl s_mk s_app s_cpy s_call s_inv cells_agg cells_int cells_bool p_get p_none o_s o_c e_0 e_1 e_2 e_3 e_4 iteC_true iteC_false grd_tt grd_tf grd_ft grd_ff grd_und bindV_some pickV_t pickV_f beq_bool conv_int un_not not_dec mm_min mm_max bv_add bv_sub bv_mul bv_eql bv_neq bv_lss bv_leq bv_gtr bv_geq f_normal f_one f_two f_three f_none fa_ptr fld_one ext_tup len_sl len_nils decide_true decide_false not_true_eq_false not_false_eq_true List.map_cons List.map_nil List.append_nil List.cons_append List.nil_append Nat.zero_add Nat.add_zero Nat.mul_one Nat.succ_ne_self if_true if_false List.getElem?_cons_zero List.getElem?_cons_succ

/-- math/bits.Len -/
def F109 : AF := ⟨8, [(2, none)], (.seq (.ops [⟨none, false, (some 2), (.mov (.c (.int .i64 (0))))⟩]) (.seq (.ite (.c (.bool false)) (.seq (.ops [⟨none, false, (some 3), (.mov (.s 0))⟩, ⟨none, false, (some 4), (.conv .u32 (.s 3))⟩, ⟨none, false, (some 5), (.call (.c (.fn 107 [])) [(.s 4)])⟩, ⟨none, false, (some 2), (.mov (.s 5))⟩]) .ret) .skip) (.seq (.ops [⟨none, false, (some 6), (.mov (.s 0))⟩, ⟨none, false, (some 7), (.call (.c (.fn 119 [])) [(.s 6)])⟩, ⟨none, false, (some 2), (.mov (.s 7))⟩]) .ret)))⟩
theorem cv109 : cvF Try.prog 109 = some F109 := by kernel_rfl


theorem Len64_spec {x : Int} (h0 : 0 ≤ x) (h1 : x ≤ 18446744073709551615) (H : Heap) : ACalls Try.prog 119 [.int .u64 x] H fun u H' => u = .int .i64 (Lib.bitLen x.toNat) ∧ H' = H := by
  refine ⟨by kernel_rfl, fun μ w cargs hs hv => ?_⟩
  obtain ⟨v, r, e, hv1, hr⟩ : ∃ v r, cargs.toList = v :: r ∧ VRel μ (.int .u64 x) v ∧ VRels μ [] r := by simpa only [VRels] using hv
  have hr' : r = [] := by simpa only [VRels] using hr
  have hv' : v = .int .u64 x := by simpa only [VRel] using hv1
  subst hr' hv'
  obtain rfl : cargs = #[.int .u64 x] := by cases cargs; simp_all
  refine (Try.bits_Len64 x w h0 h1).mono ?_
  rintro e w' ⟨rfl, rfl⟩
  exact ⟨μ, _, .int .i64 (Lib.bitLen x.toNat), H, rfl, Tr.refl _ _ _, hs, by simp only [VRel], rfl, rfl⟩
theorem Len_spec {x : Int} (h0 : 0 ≤ x) (h1 : x ≤ 18446744073709551615) (H : Heap) : ACalls Try.prog 109 [.int .u64 x] H fun u H' => u = .int .i64 (Lib.bitLen x.toNat) ∧ H' = H := by
  refine ACalls.of_body hm cv109 (by simp only [List.length_cons, List.length_nil]; decide) ?_
  simp only [F109, go_sem, ↓reduceIte, Nat.reduceEqDiff, Nat.reduceAdd, reduceCtorEq]
  refine callC_pure (Len64_spec h0 h1 _) ?_
  simp only [go_sem, ↓reduceIte, Nat.reduceEqDiff, Nat.reduceAdd, reduceCtorEq]
  exact finO_self ⟨rfl, rfl⟩
end Go.AM

/- nat.times: plain laws. Conditions: none. -/
set_option linter.unusedVariables false
set_option linter.unusedSimpArgs false
namespace Go.AM
open Go Go.Proofs

theorem nval_set : ∀ {l : List Int} {k : Nat} (h : k < l.length) (v : Int), nval (l.set k v) = nval l + 4294967296 ^ k * (v - l[k])
  | [], _, h, _ => by simp at h
  | x :: r, 0, _, v => by simp only [List.set_cons_zero, nval, Int.pow_zero, Int.one_mul, List.getElem_cons_zero]; omega
  | x :: r, k+1, h, v => by
    have := nval_set (l := r) (k := k) (by simpa using h) v
    simp only [List.set_cons_succ, nval, this, List.getElem_cons_succ, Int.pow_succ]
    rw [Int.mul_add, Int.mul_comm (4294967296 ^ k) 4294967296, Int.mul_assoc]
    omega
/-- one place of one row -/
theorem mul_step {O c P T s o y x : Int} (h : O + c * P = T) (hs : s = x * y + o + c) : O + P * (s % 4294967296 - o) + (s / 4294967296) * (4294967296 * P) = T + x * y * P := by
  have e : s = 4294967296 * (s / 4294967296) + s % 4294967296 := by omega
  have e2 : P * s = P * (s % 4294967296) + (s / 4294967296) * (4294967296 * P) := by
    conv => lhs; rw [e]
    rw [Int.mul_add, Int.add_comm]
    congr 1
    rw [← Int.mul_assoc, Int.mul_comm P, Int.mul_assoc, Int.mul_comm P, ← Int.mul_assoc, Int.mul_comm 4294967296, Int.mul_assoc]
  have e3 : P * s = x * y * P + P * o + c * P := by
    rw [hs, Int.mul_add, Int.mul_add, Int.mul_comm P (x * y), Int.mul_comm P c]
  rw [Int.mul_sub]
  omega
end Go.AM

set_option linter.unusedVariables false
set_option linter.unusedSimpArgs false
namespace Go.AM
open Go Go.Proofs
attribute [local go_sem] c_skip c_ops c_seq c_ite c_blk c_exit c_ret t_normal t_exit t_ret b_normal b_exit b_ret i_nil i_cons s_guard s_mov s_pick s_new s_zero s_ld s_ldr s_st s_bin s_beq s_isnil s_eqs s_un s_conv s_fa s_fld s_ia s_sli s_ext s_ifc s_mkf s_agg s_len s_mm s_nilchk s_bsl s_mk s_app s_cpy s_call s_inv cells_agg cells_int cells_bool p_get p_none o_s o_c e_0 e_1 e_2 e_3 e_4 iteC_true iteC_false grd_tt grd_tf grd_ft grd_ff grd_und bindV_some pickV_t pickV_f beq_bool conv_int un_not not_dec mm_min mm_max bv_add bv_sub bv_mul bv_eql bv_neq bv_lss bv_leq bv_gtr bv_geq f_normal f_one f_two f_three f_none fa_ptr fld_one ext_tup len_sl len_nils decide_true decide_false not_true_eq_false not_false_eq_true List.map_cons List.map_nil List.append_nil List.cons_append List.nil_append Nat.zero_add Nat.add_zero Nat.mul_one Nat.succ_ne_self if_true if_false List.getElem?_cons_zero List.getElem?_cons_succ

/-- nat.times -/
def F160 : AF := ⟨68, [(4, none)], (.seq (.ops [⟨none, false, (some 4), (.mov (.c .nils))⟩]) (.seq (.ops [⟨none, false, (some 12), (.mov (.s 0))⟩, ⟨none, false, (some 13), (.len (.s 12))⟩, ⟨none, false, (some 14), (.mov (.s 1))⟩, ⟨none, false, (some 15), (.len (.s 14))⟩, ⟨none, false, (some 16), (.bin .add (.s 13) (.s 15))⟩, ⟨none, false, (some 17), (.mk 1 4 [(.int .u32 (0))] (.s 16) (.s 16))⟩, ⟨none, false, (some 5), (.mov (.s 17))⟩]) (.seq (.seq (.ops [⟨none, false, (some 18), (.mov (.s 0))⟩, ⟨none, false, (some 19), (.len (.s 18))⟩, ⟨none, false, (some 20), (.mov (.c (.int .i64 (0))))⟩]) (.blk 0 (.loop (.seq (.ops [⟨none, false, (some 21), (.bin .lss (.s 20) (.s 19))⟩]) (.seq (.ite (.s 21) .skip (.exit 0)) (.seq (.blk 1 (.seq (.ops [⟨none, false, (some 22), (.mov (.s 20))⟩, ⟨none, false, (some 23), (.ia 1 (.s 18) (.s 20))⟩, ⟨none, false, (some 24), (.ld false 1 (.s 23) none)⟩, ⟨none, false, (some 6), (.mov (.s 22))⟩, ⟨none, false, (some 7), (.mov (.s 24))⟩]) (.seq (.ops [⟨none, false, (some 8), (.mov (.c (.int .u64 (0))))⟩]) (.seq (.seq (.ops [⟨none, false, (some 25), (.mov (.s 1))⟩, ⟨none, false, (some 26), (.len (.s 25))⟩, ⟨none, false, (some 27), (.mov (.c (.int .i64 (0))))⟩]) (.blk 2 (.loop (.seq (.ops [⟨none, false, (some 28), (.bin .lss (.s 27) (.s 26))⟩]) (.seq (.ite (.s 28) .skip (.exit 2)) (.seq (.blk 3 (.seq (.ops [⟨none, false, (some 29), (.mov (.s 27))⟩, ⟨none, false, (some 30), (.ia 1 (.s 25) (.s 27))⟩, ⟨none, false, (some 31), (.ld false 1 (.s 30) none)⟩, ⟨none, false, (some 9), (.mov (.s 29))⟩, ⟨none, false, (some 10), (.mov (.s 31))⟩]) (.seq (.ops [⟨none, false, (some 32), (.mov (.s 7))⟩, ⟨none, false, (some 33), (.conv .u64 (.s 32))⟩, ⟨none, false, (some 34), (.mov (.s 10))⟩, ⟨none, false, (some 35), (.conv .u64 (.s 34))⟩, ⟨none, false, (some 36), (.bin .mul (.s 33) (.s 35))⟩, ⟨none, false, (some 37), (.mov (.s 5))⟩, ⟨none, false, (some 38), (.mov (.s 6))⟩, ⟨none, false, (some 39), (.mov (.s 9))⟩, ⟨none, false, (some 40), (.bin .add (.s 38) (.s 39))⟩, ⟨none, false, (some 41), (.ia 1 (.s 37) (.s 40))⟩, ⟨none, false, (some 42), (.ld false 1 (.s 41) none)⟩, ⟨none, false, (some 43), (.conv .u64 (.s 42))⟩, ⟨none, false, (some 44), (.bin .add (.s 36) (.s 43))⟩, ⟨none, false, (some 45), (.mov (.s 8))⟩, ⟨none, false, (some 46), (.bin .add (.s 44) (.s 45))⟩, ⟨none, false, (some 11), (.mov (.s 46))⟩]) (.seq (.ops [⟨none, false, (some 47), (.mov (.s 5))⟩, ⟨none, false, (some 48), (.mov (.s 6))⟩, ⟨none, false, (some 49), (.mov (.s 9))⟩, ⟨none, false, (some 50), (.bin .add (.s 48) (.s 49))⟩, ⟨none, false, (some 51), (.mov (.s 11))⟩, ⟨none, false, (some 52), (.conv .u32 (.s 51))⟩, ⟨none, false, (some 53), (.ia 1 (.s 47) (.s 50))⟩, ⟨none, false, none, (.st 1 (.s 53) (.s 52) [])⟩]) (.ops [⟨none, false, (some 54), (.mov (.s 11))⟩, ⟨none, false, (some 55), (.bin .shr (.s 54) (.c (.int .u64 (32))))⟩, ⟨none, false, (some 8), (.mov (.s 55))⟩]))))) (.ops [⟨none, false, (some 56), (.bin .add (.s 27) (.c (.int .i64 (1))))⟩, ⟨none, false, (some 27), (.mov (.s 56))⟩]))))))) (.ops [⟨none, false, (some 57), (.mov (.s 5))⟩, ⟨none, false, (some 58), (.mov (.s 6))⟩, ⟨none, false, (some 59), (.mov (.s 1))⟩, ⟨none, false, (some 60), (.len (.s 59))⟩, ⟨none, false, (some 61), (.bin .add (.s 58) (.s 60))⟩, ⟨none, false, (some 62), (.mov (.s 8))⟩, ⟨none, false, (some 63), (.conv .u32 (.s 62))⟩, ⟨none, false, (some 64), (.ia 1 (.s 57) (.s 61))⟩, ⟨none, false, none, (.st 1 (.s 64) (.s 63) [])⟩]))))) (.ops [⟨none, false, (some 65), (.bin .add (.s 20) (.c (.int .i64 (1))))⟩, ⟨none, false, (some 20), (.mov (.s 65))⟩]))))))) (.seq (.ops [⟨none, false, (some 66), (.mov (.s 5))⟩, ⟨none, false, (some 67), (.call (.c (.fn 95 [])) [(.s 66)])⟩, ⟨none, false, (some 4), (.mov (.s 67))⟩]) .ret))))⟩
theorem cv160 : cvF Try.prog 160 = some F160 := by kernel_rfl


theorem row_next {x y b Bi Bj : Int} : x * (b + Bj * y) * Bi = x * b * Bi + x * y * (Bi * Bj) := by
  rw [Int.mul_add, Int.add_mul]
  congr 1
  rw [Int.mul_comm Bj y, ← Int.mul_assoc x y Bj, Int.mul_assoc (x * y) Bj Bi, Int.mul_comm Bj Bi]

theorem times_spec {av bv : V} {a b : Int} {L M : Nat} {H : Heap} (hL : L + M ≤ 1099511627776) (ha : SNat H av a L) (hb : SNat H bv b M) : ACalls Try.prog 160 [av, bv] H fun u H' => Heap.sub H H' ∧ CNat H' u (a * b) (L + M) := by
  obtain ⟨xs, hx, lx, rfl, hxL⟩ := ha
  obtain ⟨ys, hy, ly, rfl, hyL⟩ := hb
  refine ACalls.of_body hm cv160 (by simp only [List.length_cons, List.length_nil]; decide) ?_
  simp only [F160, go_sem, ↓reduceIte, Nat.reduceEqDiff, Nat.reduceAdd, reduceCtorEq, hx.len, hy.len]
  have hw0 : IntKind.i64.wrap ((xs.length : Int) + ys.length) = ((xs.length + ys.length : Nat) : Int) := by rw [wrapI (by omega) (by omega)]; omega
  rw [hw0]
  refine mkC_intro (Nat.le_refl _) (by omega) (by omega) fun N H1 hN hs1 hbN => ?_
  rw [flat_rep] at hbN
  simp only [go_sem, ↓reduceIte, Nat.reduceEqDiff, Nat.reduceAdd, reduceCtorEq, hx.len, beq_self_eq_true]
  refine range_loop xs.length (fun i env H' => env 1 = bv ∧ env 5 = .sl N 0 (xs.length + ys.length) true ∧ env 18 = av ∧ env 19 = .int .i64 xs.length ∧ env 20 = .int .i64 i ∧ Heap.sub H H' ∧
      ∃ os : List Int, H' N = some ⟨true, 1, u32s os⟩ ∧ os.length = xs.length + ys.length ∧ Limbs os ∧ nval os = nval (xs.take i) * nval ys ∧ ∀ r, (h : r < os.length) → i + ys.length ≤ r → os[r] = 0) (by omega) (by decide) (by decide) ?_ ?_ ?_ ?_
  · rintro k env H' ⟨_, _, _, h7, h8, _⟩; exact ⟨h8, h7⟩
  · simp only [go_sem, ↓reduceIte, Nat.reduceEqDiff, Nat.reduceAdd, reduceCtorEq]
    refine ⟨by trivial, by trivial, by trivial, by trivial, by trivial, hs1, List.replicate (xs.length + ys.length) 0, by simpa [u32s] using hbN, by simp, fun x hx => by rw [(List.mem_replicate.1 hx).2]; decide, ?_, fun r h _ => by simp⟩
    rw [nval_zeros fun x hx => (List.mem_replicate.1 hx).2]; simp [nval]
  · rintro i env H2 hi ⟨h1, h5, h18, h19, h20, hs2, os, hbo, hol, lo, hinv, hz⟩
    obtain ⟨p, a1, a2⟩ := (hx.mono hs2).get hi .i64
    have hxi := lx _ (List.getElem_mem hi)
    simp only [go_sem, ↓reduceIte, Nat.reduceEqDiff, Nat.reduceAdd, reduceCtorEq, h1, h5, h18, h19, h20, a1, a2, hy.len]
    refine range_loop ys.length (fun j env H' => env 1 = bv ∧ env 5 = .sl N 0 (xs.length + ys.length) true ∧ env 18 = av ∧ env 19 = .int .i64 xs.length ∧ env 20 = .int .i64 i ∧ env 6 = .int .i64 i ∧ env 7 = .int .u32 xs[i] ∧ env 25 = bv ∧ env 26 = .int .i64 ys.length ∧ env 27 = .int .i64 j ∧ Heap.sub H H' ∧
        ∃ (c : Int) (os : List Int), env 8 = .int .u64 c ∧ 0 ≤ c ∧ c < 4294967296 ∧ H' N = some ⟨true, 1, u32s os⟩ ∧ os.length = xs.length + ys.length ∧ Limbs os ∧ nval os + c * 4294967296 ^ (i + j) = nval (xs.take i) * nval ys + xs[i] * nval (ys.take j) * 4294967296 ^ i ∧ ∀ r, (h : r < os.length) → i + ys.length ≤ r → os[r] = 0) (by omega) (by decide) (by decide) ?_ ?_ ?_ ?_
    · rintro k env H' ⟨_, _, _, _, _, _, _, _, h7, h8, _⟩; exact ⟨h8, h7⟩
    · simp only [go_sem, ↓reduceIte, Nat.reduceEqDiff, Nat.reduceAdd, reduceCtorEq, h1, h5, h18, h19, h20]
      exact ⟨by trivial, by trivial, by trivial, by trivial, by trivial, by trivial, by trivial, by trivial, by trivial, by trivial, hs2, 0, os, rfl, by decide, by decide, hbo, hol, lo, by simp [nval, hinv], hz⟩
    · rintro j env H3 hj ⟨h1, h5, h18, h19, h20, h6, h7, h25, h26, h27, hs3, c, os, h8, hc0, hc1, hbo, hol, lo, hinv, hz⟩
      obtain ⟨q, b1, b2⟩ := (hy.mono hs3).get hj .i64
      have hyj := ly _ (List.getElem_mem hj)
      have hoj := lo _ (List.getElem_mem (by omega : i + j < os.length))
      have hxy0 : 0 ≤ xs[i] * ys[j] := Int.mul_nonneg hxi.1 hyj.1
      have hxy1 : xs[i] * ys[j] ≤ 4294967295 * 4294967295 := Int.mul_le_mul (by omega) (by omega) hyj.1 (by decide)
      have w1 : IntKind.u64.wrap xs[i] = xs[i] := by rw [wrap64]; omega
      have w2 : IntKind.u64.wrap ys[j] = ys[j] := by rw [wrap64]; omega
      have w3 : IntKind.u64.wrap (xs[i] * ys[j]) = xs[i] * ys[j] := by rw [wrap64]; omega
      have w4 : IntKind.u64.wrap os[i+j] = os[i+j] := by rw [wrap64]; omega
      have w5 : IntKind.u64.wrap (xs[i] * ys[j] + os[i+j]) = xs[i] * ys[j] + os[i+j] := by rw [wrap64]; omega
      have w6 : IntKind.u64.wrap (xs[i] * ys[j] + os[i+j] + c) = xs[i] * ys[j] + os[i+j] + c := by rw [wrap64]; omega
      have w7 : IntKind.i64.wrap ((i : Int) + j) = ((i + j : Nat) : Int) := by rw [wrapI (by omega) (by omega)]; omega
      have w8 := wrap32 (xs[i] * ys[j] + os[i+j] + c)
      simp only [go_sem, ↓reduceIte, Nat.reduceEqDiff, Nat.reduceAdd, reduceCtorEq, h1, h5, h18, h19, h20, h6, h7, h8, h25, h26, h27, b1, b2, w1, w2, w3, w7, ia_nat (show i + j < xs.length + ys.length by omega), ld_box hbo, u32s_get (show i + j < os.length by omega), w4, w5, w6, w8]
      refine stC_intro hbo trivial rfl (by decide) (by show i + j + 1 ≤ _; rw [u32s_len]; omega) fun H4 hb4 hf4 hs4 => ?_
      rw [cells_int, splice_one _ _ _ (by rw [u32s_len]; omega)] at hb4
      simp only [go_sem, ↓reduceIte, Nat.reduceEqDiff, Nat.reduceAdd, reduceCtorEq, h1, h5, h18, h19, h20, h6, h7, h25, h26, h27, bv_shr32]
      refine ⟨by trivial, by trivial, by trivial, by trivial, by trivial, by trivial, by trivial, by trivial, by trivial, by trivial, by trivial, hs4 H hs3 hN, _, os.set (i+j) ((xs[i] * ys[j] + os[i+j] + c) % 4294967296), rfl, by omega, by omega, by rw [hb4]; simp [u32s, List.map_set], by simpa using hol, fun x hx' => ?_, ?_, fun r h hr => ?_⟩
      · rcases List.mem_or_eq_of_mem_set hx' with h | rfl
        · exact lo x h
        · omega
      · have := mul_step (x := xs[i]) (y := ys[j]) (o := os[i+j]) hinv rfl
        rw [nval_set (by omega), nval_take_succ hj, row_next, ← Int.pow_add, show i + (j + 1) = i + j + 1 by omega, Int.pow_succ, Int.mul_comm (4294967296 ^ (i+j)) 4294967296]
        omega
      · rw [List.getElem_set_ne (by omega)]
        exact hz r (by simpa using h) hr
    · rintro env H3 ⟨h1, h5, h18, h19, h20, h6, h7, h25, h26, h27, hs3, c, os, h8, hc0, hc1, hbo, hol, lo, hinv, hz⟩
      have w7 : IntKind.i64.wrap ((i : Int) + ys.length) = ((i + ys.length : Nat) : Int) := by rw [wrapI (by omega) (by omega)]; omega
      have w8 : IntKind.u32.wrap c = c := by rw [wrap32]; omega
      simp only [go_sem, ↓reduceIte, Nat.reduceEqDiff, Nat.reduceAdd, reduceCtorEq, h1, h5, h18, h19, h20, h6, h7, h8, hy.len, w7, w8, ia_nat (show i + ys.length < xs.length + ys.length by omega)]
      refine stC_intro hbo trivial rfl (by decide) (by show i + ys.length + 1 ≤ _; rw [u32s_len]; omega) fun H4 hb4 hf4 hs4 => ?_
      rw [cells_int, splice_one _ _ _ (by rw [u32s_len]; omega)] at hb4
      simp only [go_sem, ↓reduceIte, Nat.reduceEqDiff, Nat.reduceAdd, reduceCtorEq, h1, h5, h18, h19, h20]
      refine ⟨by trivial, by trivial, by trivial, by trivial, by trivial, by trivial, hs4 H hs3 hN, os.set (i + ys.length) c, by rw [hb4]; simp [u32s, List.map_set], by simpa using hol, fun x hx' => ?_, ?_, fun r h hr => ?_⟩
      · rcases List.mem_or_eq_of_mem_set hx' with h | rfl
        · exact lo x h
        · omega
      · rw [nval_set (by omega), hz _ (by omega) (Nat.le_refl _), nval_take_succ hi, Int.add_mul]
        rw [List.take_length] at hinv
        rw [Int.mul_comm (4294967296 ^ i) xs[i], Int.mul_assoc xs[i], Int.mul_comm (4294967296 ^ i) (nval ys), ← Int.mul_assoc xs[i]]
        rw [Int.sub_zero, Int.mul_comm (4294967296 ^ (i + ys.length)) c]
        exact hinv
      · rw [List.getElem_set_ne (by omega)]
        exact hz r (by simpa using h) (by omega)
  · rintro env H2 ⟨h1, h5, h18, h19, h20, hs2, os, hbo, hol, lo, hinv, hz⟩
    rw [List.take_length] at hinv
    have hn : SNat H2 (.sl N 0 (xs.length + ys.length) true) (nval xs * nval ys) (L + M) := by
      refine ⟨os, ?_, lo, hinv, by omega⟩
      unfold SLimbs
      rw [hol]
      exact ⟨by rw [u32s_len]; omega, by omega, .inr ⟨N, 0, true, _, rfl, hbo, rfl, .inr (by rw [u32s_len]; omega), fun j hj => by simp⟩⟩
    simp only [go_sem, ↓reduceIte, Nat.reduceEqDiff, Nat.reduceAdd, reduceCtorEq, h5]
    refine callC_any (short_spec hn) ?_
    rintro u H' ⟨hc, rfl⟩
    simp only [go_sem, ↓reduceIte, Nat.reduceEqDiff, Nat.reduceAdd, reduceCtorEq]
    exact finO_self ⟨hs2, hc⟩
end Go.AM

set_option linter.unusedVariables false
set_option linter.unusedSimpArgs false
namespace Go.AM
open Go Go.Proofs
attribute [local go_sem] c_skip c_ops c_seq c_ite c_blk c_exit c_ret t_normal t_exit t_ret b_normal b_exit b_ret i_nil i_cons s_guard s_mov s_pick s_new s_zero s_ld s_ldr s_st s_bin s_beq s_isnil s_eqs s_un s_conv s_fa s_fld s_ia s_sli s_ext s_ifc s_mkf s_agg s_len s_mm s_nilchk s_bsl s_mk s_app s_cpy s_call s_inv cells_agg cells_int cells_bool p_get p_none o_s o_c e_0 e_1 e_2 e_3 e_4 iteC_true iteC_false grd_tt grd_tf grd_ft grd_ff grd_und bindV_some pickV_t pickV_f beq_bool conv_int un_not not_dec mm_min mm_max bv_add bv_sub bv_mul bv_eql bv_neq bv_lss bv_leq bv_gtr bv_geq f_normal f_one f_two f_three f_none fa_ptr fld_one ext_tup len_sl len_nils decide_true decide_false not_true_eq_false not_false_eq_true List.map_cons List.map_nil List.append_nil List.cons_append List.nil_append Nat.zero_add Nat.add_zero Nat.mul_one Nat.succ_ne_self if_true if_false List.getElem?_cons_zero List.getElem?_cons_succ

/-- nat.Mul -/
def F158 : AF := ⟨20, [(2, none)], (.seq (.ops [⟨none, false, (some 2), (.mov (.c .nils))⟩]) (.seq (.ops [⟨none, false, (some 6), (.bsl 1 1 [(.int .u32 (0))] [(0, (1, (.c (.int .u32 (1)))))])⟩, ⟨none, false, (some 3), (.mov (.s 6))⟩]) (.seq (.seq (.ops [⟨none, false, (some 7), (.mov (.s 0))⟩, ⟨none, false, (some 8), (.len (.s 7))⟩, ⟨none, false, (some 9), (.mov (.c (.int .i64 (0))))⟩]) (.blk 0 (.loop (.seq (.ops [⟨none, false, (some 10), (.bin .lss (.s 9) (.s 8))⟩]) (.seq (.ite (.s 10) .skip (.exit 0)) (.seq (.blk 1 (.seq (.ops [⟨none, false, (some 11), (.ia 1 (.s 7) (.s 9))⟩, ⟨none, false, (some 12), (.ld false 1 (.s 11) none)⟩, ⟨none, false, (some 5), (.mov (.s 12))⟩]) (.ops [⟨none, false, (some 13), (.mov (.s 3))⟩, ⟨none, false, (some 14), (.mov (.s 5))⟩, ⟨none, false, (some 15), (.call (.c (.fn 95 [])) [(.s 14)])⟩, ⟨none, false, (some 16), (.call (.c (.fn 160 [])) [(.s 13), (.s 15)])⟩, ⟨none, false, (some 3), (.mov (.s 16))⟩]))) (.ops [⟨none, false, (some 17), (.bin .add (.s 9) (.c (.int .i64 (1))))⟩, ⟨none, false, (some 9), (.mov (.s 17))⟩]))))))) (.seq (.ops [⟨none, false, (some 18), (.mov (.s 3))⟩, ⟨none, false, (some 19), (.call (.c (.fn 84 [])) [(.s 18)])⟩, ⟨none, false, (some 2), (.mov (.s 19))⟩]) .ret))))⟩
theorem cv158 : cvF Try.prog 158 = some F158 := by kernel_rfl


def prodI : List Int → Int
  | [] => 1
  | x :: r => x * prodI r
theorem prodI_append (a b : List Int) : prodI (a ++ b) = prodI a * prodI b := by
  induction a with
  | nil => simp [prodI]
  | cons x r ih => simp only [List.cons_append, prodI, ih, Int.mul_assoc]
theorem prodI_take_succ {l : List Int} {k : Nat} (h : k < l.length) : prodI (l.take (k+1)) = prodI (l.take k) * l[k] := by
  rw [List.take_add_one, List.getElem?_eq_getElem h, prodI_append]; simp [prodI]

theorem limbs_one : Limbs [1] := fun x hx => by
  have : x = 1 := by simpa using hx
  omega
theorem natMul_spec {v : V} {us : List V} {ns : List Int} (M B : Nat → Nat) {H : Heap} (hB0 : 1 ≤ B 0) (hB : ∀ k, k < us.length → B k + M k ≤ B (k+1)) (hBL : ∀ k, k ≤ us.length → B k ≤ 1099511627776) (hv : SCells H v us) (hl : ns.length = us.length) (each : ∀ i, (h : i < us.length) → SNat H us[i] (ns[i]'(by omega)) (M i)) :
    ACalls Try.prog 158 [v] H fun u H' => Heap.sub H H' ∧ CNat H' u (prodI ns) (B us.length) := by
  refine ACalls.of_body hm cv158 (by simp only [List.length_cons, List.length_nil]; decide) ?_
  simp only [F158, go_sem, ↓reduceIte, Nat.reduceEqDiff, Nat.reduceAdd, reduceCtorEq, fillV, List.length_cons, List.length_nil, splice, Nat.reduceLeDiff, Nat.zero_lt_one, and_self, List.take_zero, List.take_succ_cons, List.drop_succ_cons, List.drop_zero, List.drop_nil, Nat.reduceLT, Nat.le_refl]
  refine newC_intro fun m H1 hm1 hs1 hb1 => ?_
  simp only [go_sem, ↓reduceIte, Nat.reduceEqDiff, Nat.reduceAdd, reduceCtorEq, hv.len]
  have hlt := Sl.lt hv
  refine range_loop us.length (fun k env H' => env 7 = v ∧ env 8 = .int .i64 us.length ∧ env 9 = .int .i64 k ∧ Heap.sub H H' ∧ ∃ u, env 3 = u ∧ SNat H' u (prodI (ns.take k)) (B k)) hlt (by decide) (by decide) ?_ ?_ ?_ ?_
  · rintro k env H' ⟨_, h7, h8, _⟩; exact ⟨h8, h7⟩
  · simp only [go_sem, ↓reduceIte, Nat.reduceEqDiff, Nat.reduceAdd, reduceCtorEq]
    exact ⟨by trivial, by trivial, by trivial, hs1, _, rfl, [1], ⟨rfl, by simp, .inr ⟨m, 0, true, _, rfl, hb1, rfl, .inr (by simp), fun j hj => by simp [u32s]⟩⟩, limbs_one, by simp [nval, prodI], hB0⟩
  · rintro k env H1 hk ⟨h6, h7, h8, hs1, u, h3, hu⟩
    obtain ⟨p, a1, a2⟩ := (hv.mono hs1).get hk .i64
    have hkL := hB k hk
    have hkL2 := hBL (k+1) hk
    simp only [go_sem, ↓reduceIte, Nat.reduceEqDiff, Nat.reduceAdd, reduceCtorEq, h6, h7, h8, h3, a1, a2]
    refine callC_any (short_spec ((each k hk).mono hs1)) ?_
    rintro w H' ⟨hw, rfl⟩
    simp only [go_sem, ↓reduceIte, Nat.reduceEqDiff, Nat.reduceAdd, reduceCtorEq]
    refine callC_grow (times_spec (L := B k) (M := M k) (by omega) hu hw.nat) ?_
    intro x H2 hs2 hx
    simp only [go_sem, ↓reduceIte, Nat.reduceEqDiff, Nat.reduceAdd, reduceCtorEq, h6, h7, h8]
    refine ⟨by trivial, by trivial, by trivial, by trivial, hs1.trans' hs2, x, rfl, ?_⟩
    rw [prodI_take_succ (by omega)]
    exact hx.nat.up hkL
  · rintro env H1 ⟨h6, h7, h8, hs1, u, h3, hu⟩
    simp only [go_sem, ↓reduceIte, Nat.reduceEqDiff, Nat.reduceAdd, reduceCtorEq, h3]
    refine callC_grow (Trim_spec (hBL _ (Nat.le_refl _)) hu) ?_
    intro x H2 hs2 hx
    simp only [go_sem, ↓reduceIte, Nat.reduceEqDiff, Nat.reduceAdd, reduceCtorEq]
    rw [← hl, List.take_length, hl] at hx
    exact finO_self ⟨hs1.trans' hs2, hx⟩
end Go.AM

set_option linter.unusedVariables false
set_option linter.unusedSimpArgs false
namespace Go.AM
open Go Go.Proofs
attribute [local go_sem] c_skip c_ops c_seq c_ite c_blk c_exit c_ret t_normal t_exit t_ret b_normal b_exit b_ret i_nil i_cons s_guard s_mov s_pick s_new s_zero s_ld s_ldr s_st s_bin s_beq s_isnil s_eqs s_un s_conv s_fa s_fld s_ia s_sli s_ext s_ifc s_mkf s_agg s_len s_mm s_nilchk s_bsl s_mk s_app s_cpy s_call s_inv cells_agg cells_int cells_bool p_get p_none o_s o_c e_0 e_1 e_2 e_3 e_4 iteC_true iteC_false grd_tt grd_tf grd_ft grd_ff grd_und bindV_some pickV_t pickV_f beq_bool conv_int un_not not_dec mm_min mm_max bv_add bv_sub bv_mul bv_eql bv_neq bv_lss bv_leq bv_gtr bv_geq f_normal f_one f_two f_three f_none fa_ptr fld_one ext_tup len_sl len_nils decide_true decide_false not_true_eq_false not_false_eq_true List.map_cons List.map_nil List.append_nil List.cons_append List.nil_append Nat.zero_add Nat.add_zero Nat.mul_one Nat.succ_ne_self if_true if_false List.getElem?_cons_zero List.getElem?_cons_succ

/-- codewrightref01.Same -/
def F31 : AF := ⟨26, [(4, none)], (.seq (.ops [⟨none, false, (some 4), (.mov (.c (.bool false)))⟩]) (.seq (.seq (.ops [⟨none, false, (some 6), (.mov (.s 0))⟩, ⟨none, false, (some 7), (.len (.s 6))⟩, ⟨none, false, (some 8), (.mov (.s 1))⟩, ⟨none, false, (some 9), (.len (.s 8))⟩, ⟨none, false, (some 10), (.bin .neq (.s 7) (.s 9))⟩]) (.ite (.s 10) (.seq (.ops [⟨none, false, (some 4), (.mov (.c (.bool false)))⟩]) .ret) .skip)) (.seq (.seq (.ops [⟨none, false, (some 5), (.mov (.c (.int .i64 (0))))⟩]) (.blk 0 (.loop (.seq (.seq (.ops [⟨none, false, (some 11), (.mov (.s 5))⟩, ⟨none, false, (some 12), (.mov (.s 0))⟩, ⟨none, false, (some 13), (.len (.s 12))⟩, ⟨none, false, (some 14), (.bin .lss (.s 11) (.s 13))⟩]) (.ite (.s 14) .skip (.exit 0))) (.seq (.blk 1 (.seq (.ops [⟨none, false, (some 17), (.mov (.s 0))⟩, ⟨none, false, (some 18), (.mov (.s 5))⟩, ⟨none, false, (some 19), (.ia 1 (.s 17) (.s 18))⟩, ⟨none, false, (some 21), (.mov (.s 1))⟩, ⟨none, false, (some 22), (.mov (.s 5))⟩, ⟨none, false, (some 23), (.ia 1 (.s 21) (.s 22))⟩, ⟨none, false, (some 20), (.ld false 1 (.s 19) none)⟩, ⟨none, false, (some 24), (.ld false 1 (.s 23) none)⟩, ⟨none, false, (some 25), (.bin .neq (.s 20) (.s 24))⟩]) (.ite (.s 25) (.seq (.ops [⟨none, false, (some 4), (.mov (.c (.bool false)))⟩]) .ret) .skip))) (.ops [⟨none, false, (some 15), (.mov (.s 5))⟩, ⟨none, false, (some 16), (.bin .add (.s 15) (.c (.int .i64 (1))))⟩, ⟨none, false, (some 5), (.mov (.s 16))⟩])))))) (.seq (.ops [⟨none, false, (some 4), (.mov (.c (.bool true)))⟩]) .ret))))⟩
theorem cv31 : cvF Try.prog 31 = some F31 := by kernel_rfl


theorem rNatSame_spec {av bv : V} {xs ys : List Int} {H : Heap} (hx : SLimbs H av xs) (hy : SLimbs H bv ys) : ACalls Try.prog 31 [av, bv] H fun u H' => u = .bool (decide (xs = ys)) ∧ H' = H := by
  refine ACalls.of_body hm cv31 (by simp only [List.length_cons, List.length_nil]; decide) ?_
  have hlx := hx.lt
  simp only [F31, go_sem, ↓reduceIte, Nat.reduceEqDiff, Nat.reduceAdd, reduceCtorEq, hx.len, hy.len]
  have no : xs ≠ ys → finO (.bool false) H fun u H' => u = .bool (decide (xs = ys)) ∧ H' = H := fun h => finO_self ⟨by simp [h], rfl⟩
  refine iteC_if (fun c => ?_) (fun c => ?_)
  · simp only [go_sem, ↓reduceIte, Nat.reduceEqDiff, Nat.reduceAdd, reduceCtorEq]
    exact no fun e => by subst e; omega
  have hl : xs.length = ys.length := by omega
  simp only [go_sem, ↓reduceIte, Nat.reduceEqDiff, Nat.reduceAdd, reduceCtorEq]
  refine loop_count xs.length (fun k env H' => H = H' ∧ env 0 = av ∧ env 1 = bv ∧ env 5 = .int .i64 k ∧ ∀ i, (h : i < xs.length) → i < k → xs[i] = ys[i]'(by omega)) ?_ ?_ ?_
  · simp only [go_sem, ↓reduceIte, Nat.reduceEqDiff, Nat.reduceAdd, reduceCtorEq]; simp
  · rintro k env H' hk ⟨rfl, h0, h1, h5, hz⟩
    have hk' : (k : Int) < xs.length := by omega
    obtain ⟨p, a1, a2⟩ := hx.get hk .i64
    obtain ⟨q, b1, b2⟩ := hy.get (k := k) (by omega) .i64
    simp only [go_sem, ↓reduceIte, Nat.reduceEqDiff, Nat.reduceAdd, reduceCtorEq, h0, h1, h5, hx.len, hk', a1, a2, b1, b2]
    refine iteC_if (fun d => ?_) (fun d => ?_)
    · simp only [go_sem, ↓reduceIte, Nat.reduceEqDiff, Nat.reduceAdd, reduceCtorEq]
      exact no fun e => by subst e; exact d rfl
    simp only [go_sem, ↓reduceIte, Nat.reduceEqDiff, Nat.reduceAdd, reduceCtorEq, h0, h1, h5]
    rw [wrapN1 (by omega)]
    refine ⟨by trivial, by trivial, by trivial, by trivial, fun i h hi => ?_⟩
    rcases Nat.lt_succ_iff_lt_or_eq.1 hi with hi | rfl
    · exact hz i h hi
    · exact Classical.byContradiction d
  · rintro env H' ⟨rfl, h0, h1, h5, hz⟩
    simp only [go_sem, ↓reduceIte, Nat.reduceEqDiff, Nat.reduceAdd, reduceCtorEq, h0, h1, h5, hx.len, Int.lt_irrefl]
    have e : xs = ys := List.ext_getElem hl fun i h h' => hz i h h
    exact finO_self ⟨by simp [e], rfl⟩
end Go.AM

set_option linter.unusedVariables false
set_option linter.unusedSimpArgs false
namespace Go.AM
open Go Go.Proofs
attribute [local go_sem] c_skip c_ops c_seq c_ite c_blk c_exit c_ret t_normal t_exit t_ret b_normal b_exit b_ret i_nil i_cons s_guard s_mov s_pick s_new s_zero s_ld s_ldr s_st s_bin s_beq s_isnil s_eqs s_un s_conv s_fa s_fld s_ia s_sli s_ext s_ifc s_mkf s_agg s_len s_mm s_nilchk s_bsl s_mk s_app s_cpy s_call s_inv cells_agg cells_int cells_bool p_get p_none o_s o_c e_0 e_1 e_2 e_3 e_4 iteC_true iteC_false grd_tt grd_tf grd_ft grd_ff grd_und bindV_some pickV_t pickV_f beq_bool conv_int un_not not_dec mm_min mm_max bv_add bv_sub bv_mul bv_eql bv_neq bv_lss bv_leq bv_gtr bv_geq f_normal f_one f_two f_three f_none fa_ptr fld_one ext_tup len_sl len_nils decide_true decide_false not_true_eq_false not_false_eq_true List.map_cons List.map_nil List.append_nil List.cons_append List.nil_append Nat.zero_add Nat.add_zero Nat.mul_one Nat.succ_ne_self if_true if_false List.getElem?_cons_zero List.getElem?_cons_succ

/-- (semiring.Counting).Add -/
def F161 : AF := ⟨11, [(6, none)], (.seq (.ops [⟨none, false, (some 3), (.new (.s 0))⟩, ⟨none, false, (some 6), (.mov (.c .nils))⟩]) (.seq (.ops [⟨none, false, (some 7), (.mov (.s 1))⟩, ⟨none, false, (some 8), (.mov (.s 2))⟩, ⟨none, false, (some 9), (.bsl 1 2 [.nils, .nils] [(0, (1, (.s 7))), (1, (1, (.s 8)))])⟩, ⟨none, false, (some 10), (.call (.c (.fn 156 [])) [(.s 9)])⟩, ⟨none, false, (some 6), (.mov (.s 10))⟩]) .ret))⟩
theorem cv161 : cvF Try.prog 161 = some F161 := by kernel_rfl

/-- (semiring.Counting).Mul -/
def F162 : AF := ⟨11, [(6, none)], (.seq (.ops [⟨none, false, (some 3), (.new (.s 0))⟩, ⟨none, false, (some 6), (.mov (.c .nils))⟩]) (.seq (.ops [⟨none, false, (some 7), (.mov (.s 1))⟩, ⟨none, false, (some 8), (.mov (.s 2))⟩, ⟨none, false, (some 9), (.bsl 1 2 [.nils, .nils] [(0, (1, (.s 7))), (1, (1, (.s 8)))])⟩, ⟨none, false, (some 10), (.call (.c (.fn 158 [])) [(.s 9)])⟩, ⟨none, false, (some 6), (.mov (.s 10))⟩]) .ret))⟩
theorem cv162 : cvF Try.prog 162 = some F162 := by kernel_rfl

/-- (semiring.Counting).One -/
def F163 : AF := ⟨4, [(2, none)], (.seq (.ops [⟨none, false, (some 1), (.new (.s 0))⟩, ⟨none, false, (some 2), (.mov (.c .nils))⟩]) (.seq (.ops [⟨none, false, (some 3), (.call (.c (.fn 50 [])) [(.c (.int .u64 (1)))])⟩, ⟨none, false, (some 2), (.mov (.s 3))⟩]) .ret))⟩
theorem cv163 : cvF Try.prog 163 = some F163 := by kernel_rfl

/-- (semiring.Counting).Zero -/
def F164 : AF := ⟨4, [(2, none)], (.seq (.ops [⟨none, false, (some 1), (.new (.s 0))⟩, ⟨none, false, (some 2), (.mov (.c .nils))⟩]) (.seq (.ops [⟨none, false, (some 3), (.call (.c (.fn 50 [])) [(.c (.int .u64 (0)))])⟩, ⟨none, false, (some 2), (.mov (.s 3))⟩]) .ret))⟩
theorem cv164 : cvF Try.prog 164 = some F164 := by kernel_rfl


theorem SNat.cells {H : Heap} {u : V} {n : Int} {L : Nat} (h : SNat H u n L) : V.cells u = [u] := by
  obtain ⟨xs, ⟨_, _, ⟨rfl, _⟩ | ⟨n, o, f, b, rfl, _⟩⟩, _⟩ := h <;> rfl

theorem cOne_spec (H : Heap) : ACalls Try.prog 163 [.agg []] H fun u H' => Heap.sub H H' ∧ CNat H' u 1 2 := by
  refine ACalls.of_body hm cv163 (by simp only [List.length_cons, List.length_nil]; decide) ?_
  simp only [F163, go_sem, ↓reduceIte, Nat.reduceEqDiff, Nat.reduceAdd, reduceCtorEq]
  refine newC_intro fun n1 H1 hn1 hs1 hb1 => ?_
  simp only [go_sem, ↓reduceIte, Nat.reduceEqDiff, Nat.reduceAdd, reduceCtorEq]
  refine callC_grow (Of_spec (by decide) (by decide) _) ?_
  intro x H2 hs2 hx
  simp only [go_sem, ↓reduceIte, Nat.reduceEqDiff, Nat.reduceAdd, reduceCtorEq]
  exact finO_self ⟨hs1.trans' hs2, hx⟩
theorem cZero_spec (H : Heap) : ACalls Try.prog 164 [.agg []] H fun u H' => Heap.sub H H' ∧ CNat H' u 0 2 := by
  refine ACalls.of_body hm cv164 (by simp only [List.length_cons, List.length_nil]; decide) ?_
  simp only [F164, go_sem, ↓reduceIte, Nat.reduceEqDiff, Nat.reduceAdd, reduceCtorEq]
  refine newC_intro fun n1 H1 hn1 hs1 hb1 => ?_
  simp only [go_sem, ↓reduceIte, Nat.reduceEqDiff, Nat.reduceAdd, reduceCtorEq]
  refine callC_grow (Of_spec (by decide) (by decide) _) ?_
  intro x H2 hs2 hx
  simp only [go_sem, ↓reduceIte, Nat.reduceEqDiff, Nat.reduceAdd, reduceCtorEq]
  exact finO_self ⟨hs1.trans' hs2, hx⟩
theorem cAdd_spec {av bv : V} {a b : Int} {L : Nat} {H : Heap} (hL : L + 2 ≤ 1099511627776) (ha : SNat H av a L) (hb : SNat H bv b L) : ACalls Try.prog 161 [.agg [], av, bv] H fun u H' => Heap.sub H H' ∧ CNat H' u (a + b) (L + 2) := by
  refine ACalls.of_body hm cv161 (by simp only [List.length_cons, List.length_nil]; decide) ?_
  simp only [F161, go_sem, ↓reduceIte, Nat.reduceEqDiff, Nat.reduceAdd, reduceCtorEq]
  refine newC_intro fun n1 H1 hn1 hs1 hb1 => ?_
  simp only [go_sem, ↓reduceIte, Nat.reduceEqDiff, Nat.reduceAdd, reduceCtorEq, fillV, List.length_cons, List.length_nil, splice, Nat.reduceLeDiff, Nat.zero_lt_one, and_self, List.take_zero, List.take_succ_cons, List.drop_succ_cons, List.drop_zero, List.drop_nil, Nat.reduceLT, Nat.le_refl, ha.cells, hb.cells]
  refine newC_intro fun n2 H2 hn2 hs2 hb2 => ?_
  simp only [go_sem, ↓reduceIte, Nat.reduceEqDiff, Nat.reduceAdd, reduceCtorEq]
  have hs02 := hs1.trans' hs2
  have hv : SCells H2 (.sl n2 0 2 true) [av, bv] := ⟨rfl, by simp, .inr ⟨n2, 0, true, _, rfl, hb2, rfl, .inr (by simp), fun j hj => by simp⟩⟩
  refine callC_grow (natAdd_spec (ns := [a, b]) (L := L) (by simpa using hL) hv rfl fun i h => ?_) ?_
  · match i, h with
    | 0, _ => exact ha.mono hs02
    | 1, _ => exact hb.mono hs02
  intro x H3 hs3 hx
  simp only [go_sem, ↓reduceIte, Nat.reduceEqDiff, Nat.reduceAdd, reduceCtorEq]
  have : sumI [a, b] = a + b := by simp [sumI]
  rw [this] at hx
  exact finO_self ⟨hs02.trans' hs3, hx⟩
theorem cMul_spec {av bv : V} {a b : Int} {L M : Nat} {H : Heap} (hL : 1 + L + M ≤ 1099511627776) (ha : SNat H av a L) (hb : SNat H bv b M) : ACalls Try.prog 162 [.agg [], av, bv] H fun u H' => Heap.sub H H' ∧ CNat H' u (a * b) (1 + L + M) := by
  refine ACalls.of_body hm cv162 (by simp only [List.length_cons, List.length_nil]; decide) ?_
  simp only [F162, go_sem, ↓reduceIte, Nat.reduceEqDiff, Nat.reduceAdd, reduceCtorEq]
  refine newC_intro fun n1 H1 hn1 hs1 hb1 => ?_
  simp only [go_sem, ↓reduceIte, Nat.reduceEqDiff, Nat.reduceAdd, reduceCtorEq, fillV, List.length_cons, List.length_nil, splice, Nat.reduceLeDiff, Nat.zero_lt_one, and_self, List.take_zero, List.take_succ_cons, List.drop_succ_cons, List.drop_zero, List.drop_nil, Nat.reduceLT, Nat.le_refl, ha.cells, hb.cells]
  refine newC_intro fun n2 H2 hn2 hs2 hb2 => ?_
  simp only [go_sem, ↓reduceIte, Nat.reduceEqDiff, Nat.reduceAdd, reduceCtorEq]
  have hs02 := hs1.trans' hs2
  have hv : SCells H2 (.sl n2 0 2 true) [av, bv] := ⟨rfl, by simp, .inr ⟨n2, 0, true, _, rfl, hb2, rfl, .inr (by simp), fun j hj => by simp⟩⟩
  refine callC_grow (natMul_spec (ns := [a, b]) (fun i => if i = 0 then L else M) (fun k => if k = 0 then 1 else if k = 1 then 1 + L else 1 + L + M) (Nat.le_refl _) (fun k hk => ?_) (fun k hk => ?_) hv rfl fun i h => ?_) ?_
  · match k, hk with
    | 0, _ => exact Nat.le_refl _
    | 1, _ => exact Nat.le_refl _
  · show (if k = 0 then 1 else if k = 1 then 1 + L else 1 + L + M) ≤ _
    split
    · decide
    · split <;> omega
  · match i, h with
    | 0, _ => exact ha.mono hs02
    | 1, _ => exact hb.mono hs02
  intro x H3 hs3 hx
  simp only [go_sem, ↓reduceIte, Nat.reduceEqDiff, Nat.reduceAdd, reduceCtorEq]
  have : prodI [a, b] = a * b := by simp [prodI]
  rw [this] at hx
  exact finO_self ⟨hs02.trans' hs3, hx⟩
end Go.AM
