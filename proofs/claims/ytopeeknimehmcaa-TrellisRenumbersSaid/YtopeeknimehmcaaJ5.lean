/- Small functions. Conditions: none. -/
import Derived.Test.YtopeeknimehmcaaJ4
import Derived.Test.YtopeeknimehmcaaChecked
import Derived.KernelRfl
set_option linter.unusedVariables false
set_option linter.unusedSimpArgs false
namespace Go.AM
open Go Go.Proofs
attribute [local go_sem] c_skip c_ops c_seq c_ite c_blk c_exit c_ret t_normal t_exit t_ret b_normal b_exit b_ret i_nil i_cons s_guard s_mov s_pick s_new s_zero s_ld s_ldr s_st s_bin s_beq s_isnil s_eqs s_un s_conv s_fa s_fld s_ia s_sli s_ext s_ifc s_mkf s_agg s_len s_mm s_nilchk s_bsl s_mk s_app s_cpy s_call s_inv cells_agg cells_int cells_bool p_get p_none o_s o_c e_0 e_1 e_2 e_3 e_4 iteC_true iteC_false grd_tt grd_tf grd_ft grd_ff grd_und bindV_some pickV_t pickV_f beq_bool conv_int un_not not_dec mm_min mm_max bv_add bv_sub bv_mul bv_eql bv_neq bv_lss bv_leq bv_gtr bv_geq f_normal f_one f_two f_three f_none fa_ptr fld_one ext_tup len_sl len_nils decide_true decide_false not_true_eq_false not_false_eq_true List.map_cons List.map_nil List.append_nil List.cons_append List.nil_append Nat.zero_add Nat.add_zero Nat.mul_one Nat.succ_ne_self if_true if_false List.getElem?_cons_zero List.getElem?_cons_succ

theorem hm : Try.prog.follows .mixedOrders = true := Try.checked.mixed

/-- cmp.isNaN[int] -/
def F104 : AF := ⟨6, [(2, none)], (.seq (.ops [⟨none, false, (some 2), (.mov (.c (.bool false)))⟩]) (.seq (.ops [⟨none, false, (some 3), (.mov (.s 0))⟩, ⟨none, false, (some 4), (.mov (.s 0))⟩, ⟨none, false, (some 5), (.bin .neq (.s 3) (.s 4))⟩, ⟨none, false, (some 2), (.mov (.s 5))⟩]) .ret))⟩
theorem cv104 : cvF Try.prog 104 = some F104 := by kernel_rfl

/-- cmp.Compare[int] -/
def F82 : AF := ⟨20, [(4, none)], (.seq (.ops [⟨none, false, (some 4), (.mov (.c (.int .i64 (0))))⟩]) (.seq (.ops [⟨none, false, (some 7), (.mov (.s 0))⟩, ⟨none, false, (some 8), (.call (.c (.fn 104 [])) [(.s 7)])⟩, ⟨none, false, (some 5), (.mov (.s 8))⟩]) (.seq (.ops [⟨none, false, (some 9), (.mov (.s 1))⟩, ⟨none, false, (some 10), (.call (.c (.fn 104 [])) [(.s 9)])⟩, ⟨none, false, (some 6), (.mov (.s 10))⟩]) (.seq (.seq (.ops [⟨none, false, (some 11), (.mov (.s 5))⟩]) (.ite (.s 11) (.seq (.seq (.ops [⟨none, false, (some 12), (.mov (.s 6))⟩]) (.ite (.s 12) (.seq (.ops [⟨none, false, (some 4), (.mov (.c (.int .i64 (0))))⟩]) .ret) .skip)) (.seq (.ops [⟨none, false, (some 4), (.mov (.c (.int .i64 (-1))))⟩]) .ret)) .skip)) (.seq (.seq (.ops [⟨none, false, (some 13), (.mov (.s 6))⟩]) (.ite (.s 13) (.seq (.ops [⟨none, false, (some 4), (.mov (.c (.int .i64 (1))))⟩]) .ret) .skip)) (.seq (.seq (.ops [⟨none, false, (some 14), (.mov (.s 0))⟩, ⟨none, false, (some 15), (.mov (.s 1))⟩, ⟨none, false, (some 16), (.bin .lss (.s 14) (.s 15))⟩]) (.ite (.s 16) (.seq (.ops [⟨none, false, (some 4), (.mov (.c (.int .i64 (-1))))⟩]) .ret) .skip)) (.seq (.seq (.ops [⟨none, false, (some 17), (.mov (.s 0))⟩, ⟨none, false, (some 18), (.mov (.s 1))⟩, ⟨none, false, (some 19), (.bin .gtr (.s 17) (.s 18))⟩]) (.ite (.s 19) (.seq (.ops [⟨none, false, (some 4), (.mov (.c (.int .i64 (1))))⟩]) .ret) .skip)) (.seq (.ops [⟨none, false, (some 4), (.mov (.c (.int .i64 (0))))⟩]) .ret))))))))⟩
theorem cv82 : cvF Try.prog 82 = some F82 := by kernel_rfl

/-- cmp.Or[int] -/
def F81 : AF := ⟨18, [(2, none)], (.seq (.ops [⟨none, false, (some 2), (.mov (.c (.int .i64 (0))))⟩]) (.seq (.ops [⟨none, false, (some 3), (.mov (.c (.int .i64 (0))))⟩]) (.seq (.seq (.ops [⟨none, false, (some 6), (.mov (.s 0))⟩, ⟨none, false, (some 7), (.len (.s 6))⟩, ⟨none, false, (some 8), (.mov (.c (.int .i64 (0))))⟩]) (.blk 0 (.loop (.seq (.ops [⟨none, false, (some 9), (.bin .lss (.s 8) (.s 7))⟩]) (.seq (.ite (.s 9) .skip (.exit 0)) (.seq (.blk 1 (.seq (.ops [⟨none, false, (some 10), (.ia 1 (.s 6) (.s 8))⟩, ⟨none, false, (some 11), (.ld false 1 (.s 10) none)⟩, ⟨none, false, (some 5), (.mov (.s 11))⟩]) (.seq (.ops [⟨none, false, (some 12), (.mov (.s 5))⟩, ⟨none, false, (some 13), (.mov (.s 3))⟩, ⟨none, false, (some 14), (.bin .neq (.s 12) (.s 13))⟩]) (.ite (.s 14) (.seq (.ops [⟨none, false, (some 15), (.mov (.s 5))⟩, ⟨none, false, (some 2), (.mov (.s 15))⟩]) .ret) .skip)))) (.ops [⟨none, false, (some 16), (.bin .add (.s 8) (.c (.int .i64 (1))))⟩, ⟨none, false, (some 8), (.mov (.s 16))⟩]))))))) (.seq (.ops [⟨none, false, (some 17), (.mov (.s 3))⟩, ⟨none, false, (some 2), (.mov (.s 17))⟩]) .ret))))⟩
theorem cv81 : cvF Try.prog 81 = some F81 := by kernel_rfl

/-- trellis.less -/
def F48 : AF := ⟨17, [(4, none)], (.seq (.ops [⟨none, false, (some 2), (.new (.s 0))⟩, ⟨none, false, (some 3), (.new (.s 1))⟩, ⟨none, false, (some 4), (.mov (.c (.int .i64 (0))))⟩]) (.seq (.ops [⟨none, false, (some 5), (.fa 0 (.s 2))⟩, ⟨none, false, (some 7), (.fa 0 (.s 3))⟩, ⟨none, false, (some 10), (.fa 1 (.s 2))⟩, ⟨none, false, (some 12), (.fa 1 (.s 3))⟩, ⟨none, false, (some 6), (.ld false 1 (.s 5) none)⟩, ⟨none, false, (some 8), (.ld false 1 (.s 7) none)⟩, ⟨none, false, (some 11), (.ld false 1 (.s 10) none)⟩, ⟨none, false, (some 13), (.ld false 1 (.s 12) none)⟩, ⟨none, true, (some 9), (.call (.c (.fn 82 [])) [(.s 6), (.s 8)])⟩, ⟨none, true, (some 14), (.call (.c (.fn 82 [])) [(.s 11), (.s 13)])⟩, ⟨none, false, (some 15), (.bsl 1 2 [(.int .i64 (0)), (.int .i64 (0))] [(0, (1, (.s 9))), (1, (1, (.s 14)))])⟩, ⟨none, true, (some 16), (.call (.c (.fn 81 [])) [(.s 15)])⟩, ⟨none, false, (some 4), (.mov (.s 16))⟩]) .ret))⟩
theorem cv48 : cvF Try.prog 48 = some F48 := by kernel_rfl


theorem isNaN_spec (x : Int) (H : Heap) : ACalls Try.prog 104 [.int .i64 x] H fun v H' => v = .bool false ∧ H' = H := by
  refine ACalls.of_body hm cv104 (by simp only [List.length_cons, List.length_nil]; decide) ?_
  simp only [F104, go_sem, ↓reduceIte, Nat.reduceEqDiff, Nat.reduceAdd, reduceCtorEq]
  exact finO_self ⟨by trivial, rfl⟩

def cmpI (a b : Int) : Int := if a < b then -1 else if b < a then 1 else 0

theorem Compare_spec (x y : Int) (H : Heap) : ACalls Try.prog 82 [.int .i64 x, .int .i64 y] H fun v H' => v = .int .i64 (cmpI x y) ∧ H' = H := by
  refine ACalls.of_body hm cv82 (by simp only [List.length_cons, List.length_nil]; decide) ?_
  simp only [F82, go_sem, ↓reduceIte, Nat.reduceEqDiff, Nat.reduceAdd, reduceCtorEq]
  refine callC_pure (isNaN_spec _ _) ?_
  simp only [go_sem, ↓reduceIte, Nat.reduceEqDiff, Nat.reduceAdd, reduceCtorEq]
  refine callC_pure (isNaN_spec _ _) ?_
  simp only [go_sem, ↓reduceIte, Nat.reduceEqDiff, Nat.reduceAdd, reduceCtorEq]
  refine iteC_if (fun h1 => ?_) (fun h1 => ?_)
  · simp only [go_sem, ↓reduceIte, Nat.reduceEqDiff, Nat.reduceAdd, reduceCtorEq]
    exact finO_self ⟨by simp [cmpI, h1], rfl⟩
  · simp only [go_sem, ↓reduceIte, Nat.reduceEqDiff, Nat.reduceAdd, reduceCtorEq]
    refine iteC_if (fun h2 => ?_) (fun h2 => ?_)
    · simp only [go_sem, ↓reduceIte, Nat.reduceEqDiff, Nat.reduceAdd, reduceCtorEq]
      exact finO_self ⟨by simp [cmpI, h1, h2], rfl⟩
    · simp only [go_sem, ↓reduceIte, Nat.reduceEqDiff, Nat.reduceAdd, reduceCtorEq]
      exact finO_self ⟨by simp [cmpI, h1, h2], rfl⟩

/-- the first item that isn't 0 -/
def orL : List Int → Int
  | [] => 0
  | x :: r => if x ≠ 0 then x else orL r
theorem orL_drop (xs : List Int) : ∀ k, (∀ j, j < k → xs[j]?.getD 0 = 0) → orL (xs.drop k) = orL xs := by
  intro k h
  induction k generalizing xs with
  | zero => rfl
  | succ k ih =>
    cases xs with
    | nil => rfl
    | cons x r =>
      have h0 := h 0 (by omega)
      simp at h0
      simp only [List.drop_succ_cons, orL, h0]
      rw [ih r fun j hj => by simpa using h (j+1) (by omega)]
      simp

theorem Or_spec {v : V} {xs : List Int} {H : Heap} (hv : SInts H v xs) : ACalls Try.prog 81 [v] H fun u H' => u = .int .i64 (orL xs) ∧ H' = H := by
  refine ACalls.of_body hm cv81 (by simp only [List.length_cons, List.length_nil]; decide) ?_
  simp only [F81, go_sem, ↓reduceIte, Nat.reduceEqDiff, Nat.reduceAdd, reduceCtorEq, hv.len]
  refine range_loop xs.length (fun k env H' => H' = H ∧ env 6 = v ∧ env 7 = .int .i64 xs.length ∧ env 8 = .int .i64 k ∧ env 3 = .int .i64 0 ∧ ∀ j, j < k → xs[j]?.getD 0 = 0) hv.lt (by decide) (by decide) ?_ ?_ ?_ ?_
  · rintro k env H' ⟨_, h6, h7, h8, _⟩; exact ⟨h8, h7⟩
  · simp only [go_sem, ↓reduceIte, Nat.reduceEqDiff, Nat.reduceAdd, reduceCtorEq]; simp
  · rintro k env H' hk ⟨rfl, h6, h7, h8, h3, hz⟩
    obtain ⟨p, h1, h2⟩ := hv.get hk .i64
    simp only [go_sem, ↓reduceIte, Nat.reduceEqDiff, Nat.reduceAdd, reduceCtorEq, h6, h7, h8, h3, h1, h2]
    refine iteC_if (fun hx => ?_) (fun hx => ?_)
    · simp only [go_sem, ↓reduceIte, Nat.reduceEqDiff, Nat.reduceAdd, reduceCtorEq]
      refine finO_self ⟨?_, rfl⟩
      rw [← orL_drop xs k hz, List.drop_eq_getElem_cons hk, orL, if_pos hx]
    · simp only [go_sem, ↓reduceIte, Nat.reduceEqDiff, Nat.reduceAdd, reduceCtorEq, h6, h7, h8, h3]
      refine ⟨by trivial, by trivial, by trivial, by trivial, by trivial, by trivial, fun j hj => ?_⟩
      rcases Nat.lt_succ_iff_lt_or_eq.1 hj with hj | rfl
      · exact hz j hj
      · simpa [hk] using hx
  · rintro env H' ⟨rfl, h6, h7, h8, h3, hz⟩
    simp only [go_sem, ↓reduceIte, Nat.reduceEqDiff, Nat.reduceAdd, reduceCtorEq, h3]
    refine finO_self ⟨?_, rfl⟩
    rw [← orL_drop xs xs.length hz, List.drop_length]; rfl

def lessI (a b : Ed) : Int := orL [cmpI a.fr b.fr, cmpI a.lb b.lb]

theorem less_spec (a b : Ed) (H : Heap) : ACalls Try.prog 48 [.agg a.cells, .agg b.cells] H fun u H' => u = .int .i64 (lessI a b) ∧ H' = H := by
  refine ACalls.of_body hm cv48 (by simp only [List.length_cons, List.length_nil]; decide) ?_
  simp only [F48, go_sem, ↓reduceIte, Nat.reduceEqDiff, Nat.reduceAdd, reduceCtorEq]
  refine newC_intro fun n1 H1 hn1 hs1 hb1 => ?_
  simp only [go_sem, ↓reduceIte, Nat.reduceEqDiff, Nat.reduceAdd, reduceCtorEq]
  refine newC_intro fun n2 H2 hn2 hs2 hb2 => ?_
  have hb1' := hs2 _ _ hb1
  simp only [go_sem, ↓reduceIte, Nat.reduceEqDiff, Nat.reduceAdd, reduceCtorEq, ld_box hb1', ld_box hb2, Ed.cells]
  refine callC_pure (Compare_spec _ _ _) ?_
  simp only [go_sem, ↓reduceIte, Nat.reduceEqDiff, Nat.reduceAdd, reduceCtorEq]
  refine callC_pure (Compare_spec _ _ _) ?_
  simp only [go_sem, ↓reduceIte, Nat.reduceEqDiff, Nat.reduceAdd, reduceCtorEq, fillV, List.length_cons, List.length_nil, splice, Nat.reduceLeDiff, Nat.zero_lt_one, and_self, List.take_zero, List.take_succ_cons, List.drop_succ_cons, List.drop_zero, List.drop_nil, Nat.reduceLT, Nat.le_refl]
  refine newC_intro fun n3 H3 hn3 hs3 hb3 => ?_
  simp only [go_sem, ↓reduceIte, Nat.reduceEqDiff, Nat.reduceAdd, reduceCtorEq]
  refine callC_pure (Or_spec (xs := [cmpI a.fr b.fr, cmpI a.lb b.lb]) ?_) ?_
  · refine ⟨rfl, by simp, .inr ⟨n3, 0, true, _, rfl, hb3, rfl, by simp, fun j hj => by simp [ints]⟩⟩
  · simp only [go_sem, ↓reduceIte, Nat.reduceEqDiff, Nat.reduceAdd, reduceCtorEq]
    exact finO_sub (hs1.trans' (hs2.trans' hs3)) ⟨by trivial, rfl⟩
end Go.AM

/- Tables of rows that lie in blocks of their own. Conditions: none. -/
set_option linter.unusedVariables false
set_option linter.unusedSimpArgs false
namespace Go.AM
open Go

/-- one more item behind a row that nobody else has -/
theorem appC_one {H : Heap} {env : Env} {d : Option Nat} {K : Env → Heap → Prop} {u : V} {xs : List V} {xb bytes sz : Nat} {f : Bool} {vs : List V}
    (hu : (u = .nils ∧ xs = []) ∨ ∃ n len, u = .sl n 0 len false ∧ H n = some ⟨true, sz, xs⟩ ∧ xs.length = len * sz) (hx : H xb = some ⟨true, sz, vs⟩) (hvs : vs.length = sz) (hz : 0 < sz)
    (hb : (lenV u + 1) * bytes ≤ 140737488355328) (hb2 : lenV u + 1 ≤ 140737488355328)
    (hk : ∀ m H', H m = none → H' m = some ⟨true, sz, xs ++ vs⟩ → (∀ k, k ≠ m → (∀ n o l f, u = .sl n o l f → k ≠ n) → H' k = H k) → K (env.put d (.sl m 0 (lenV u + 1) false)) H') :
    appC H env sz bytes u (.sl xb 0 1 f) [] d K := by
  have hc : cellsAt H sz (.sl xb 0 1 f) = some vs := by
    simp [cellsAt, hx, hvs, List.take_of_length_le]
  unfold appC
  rw [hc]
  refine ⟨hb, hb2, ?_⟩
  have h1 : lenV (.sl xb 0 1 f) = 1 := rfl
  rw [h1, if_neg (by decide)]
  rcases hu with ⟨rfl, rfl⟩ | ⟨n, len, rfl, hn, hl⟩
  · intro m hm
    refine hk m _ hm (by simp [Heap.upd]) fun k h1 _ => by simp [Heap.upd, h1]
  · simp only [hn]
    refine ⟨trivial, ?_⟩
    simp only [Bool.false_eq_true, if_false]
    refine ⟨trivial, trivial, trivial, hl, fun m hm => ?_⟩
    refine hk m _ hm (by simp [Heap.upd]) fun k h1 h2 => ?_
    have := h2 n 0 len false rfl
    simp [Heap.upd, h1, this]

/-- a table: the outer block N holds the rows' slices; each row lies in a block of its own. H0: what was there before. -/
structure Tab (H0 H : Heap) (N : Nat) (f : Bool) (us : List V) (xss : List (List V)) : Prop where
  sub : Heap.sub H0 H
  outer : H N = some ⟨true, 1, us⟩
  oN : H0 N = none
  len : us.length = xss.length
  row : ∀ i, (h : i < xss.length) → (us[i]? = some .nils ∧ xss[i] = [] ∧ True) ∨ ∃ n, us[i]? = some (.sl n 0 xss[i].length f) ∧ H n = some ⟨true, 1, xss[i]⟩ ∧ H0 n = none ∧ n ≠ N
  inj : ∀ (i j n l l' : Nat), us[i]? = some (V.sl n 0 l f) → us[j]? = some (V.sl n 0 l' f) → i = j

theorem Tab.grow {H0 H H' : Heap} {N : Nat} {f : Bool} {us : List V} {xss : List (List V)} (t : Tab H0 H N f us xss) (hs : Heap.sub H H') : Tab H0 H' N f us xss where
  sub := fun n b h => hs n b (t.sub n b h)
  outer := hs _ _ t.outer
  oN := t.oN
  len := t.len
  row i h := by
    rcases t.row i h with h | ⟨n, a, b, c, d⟩
    · exact .inl h
    · exact .inr ⟨n, a, hs _ _ b, c, d⟩
  inj := t.inj

/-- what is read of it -/
theorem Tab.get {H0 H : Heap} {N : Nat} {f : Bool} {us : List V} {xss : List (List V)} (t : Tab H0 H N f us xss) {i : Nat} (h : i < xss.length) : ∃ u, us[i]? = some u ∧ lenV u = xss[i].length ∧ lenR u = some (.int .i64 xss[i].length) ∧
    ((u = .nils ∧ xss[i] = [] ∧ True) ∨ ∃ n, u = .sl n 0 xss[i].length f ∧ H n = some ⟨true, 1, xss[i]⟩ ∧ H0 n = none ∧ n ≠ N) := by
  rcases t.row i h with ⟨a, b, c⟩ | ⟨n, a, b, c, d⟩
  · exact ⟨_, a, by rw [b]; rfl, by rw [b]; rfl, .inl ⟨rfl, b, c⟩⟩
  · exact ⟨_, a, rfl, rfl, .inr ⟨n, rfl, b, c, d⟩⟩
theorem Tab.at {H0 H : Heap} {N : Nat} {f : Bool} {us : List V} {xss : List (List V)} (t : Tab H0 H N f us xss) {i j : Nat} (h : i < xss.length) (hj : j < xss[i].length) (kd : IntKind) : ∃ n, us[i]? = some (.sl n 0 xss[i].length f) ∧ H n = some ⟨true, 1, xss[i]⟩ ∧ H0 n = none ∧ n ≠ N ∧ iaV 1 (.sl n 0 xss[i].length f) (.int kd j) = some (.ptr n j) ∧ ldV H false 1 (.ptr n j) = xss[i][j]? := by
  rcases t.row i h with ⟨a, b, _⟩ | ⟨n, a, b, c, d⟩
  · rw [b] at hj; simp at hj
  · exact ⟨n, a, b, c, d, by rw [ia_nat hj]; simp, ld_box b⟩

/-- one item of one row is written -/
theorem Tab.set {H0 H H' : Heap} {N : Nat} {f : Bool} {us : List V} {xss : List (List V)} (t : Tab H0 H N f us xss) {i j n : Nat} {v : V} (h : i < xss.length) (hu : us[i]? = some (.sl n 0 xss[i].length f)) (hj : j < xss[i].length)
    (h1 : H' n = some ⟨true, 1, xss[i].set j v⟩) (h2 : ∀ m, m ≠ n → H' m = H m) : Tab H0 H' N f us (xss.set i (xss[i].set j v)) := by
  obtain ⟨u, hu', _, _, hr⟩ := t.get h
  rw [hu] at hu'
  obtain rfl := Option.some.inj hu'
  obtain ⟨n', e0, hn, h0, hN⟩ : ∃ n', V.sl n 0 xss[i].length f = .sl n' 0 xss[i].length f ∧ H n' = some ⟨true, 1, xss[i]⟩ ∧ H0 n' = none ∧ n' ≠ N := by
    rcases hr with ⟨e, _⟩ | h
    · cases e
    · exact h
  obtain rfl : n = n' := by injection e0
  refine ⟨fun m b hb => ?_, ?_, t.oN, by simp [t.len], fun k hk => ?_, t.inj⟩
  · have : m ≠ n := by rintro rfl; rw [h0] at hb; cases hb
    rw [h2 m this]; exact t.sub m b hb
  · rw [h2 N (fun e => hN e.symm)]; exact t.outer
  · rw [List.length_set] at hk
    by_cases e : i = k
    · subst e
      simp only [List.getElem_set_self, List.length_set]
      exact .inr ⟨n, hu, h1, h0, hN⟩
    · rw [List.getElem_set_ne e]
      rcases t.row k hk with h | ⟨m, a, b, c, d⟩
      · exact .inl h
      · have : m ≠ n := by rintro rfl; exact e (t.inj _ _ _ _ _ hu a)
        exact .inr ⟨m, a, by rw [h2 m this]; exact b, c, d⟩

/-- one row is laid anew -/
theorem Tab.lay {H0 H H' : Heap} {N : Nat} {f : Bool} {us : List V} {xss : List (List V)} (t : Tab H0 H N f us xss) {i m : Nat} {ys : List V} (h : i < xss.length) (hm : H m = none)
    (hN : H' N = some ⟨true, 1, us.set i (.sl m 0 ys.length f)⟩) (h1 : H' m = some ⟨true, 1, ys⟩)
    (h2 : ∀ k b, k ≠ N → k ≠ m → (∀ n o l f, us[i]? = some (.sl n o l f) → k ≠ n) → H k = some b → H' k = some b) : Tab H0 H' N f (us.set i (.sl m 0 ys.length f)) (xss.set i (ys)) := by
  have hm0 : H0 m = none := t.sub.none' hm
  have hmN : m ≠ N := by rintro rfl; rw [t.outer] at hm; cases hm
  have old : ∀ n o l f, us[i]? = some (.sl n o l f) → H0 n = none := by
    intro n o l f hu
    rcases t.row i h with ⟨a, _, _⟩ | ⟨n', a, b, c, d⟩
    · rw [hu] at a; cases a
    · rw [hu] at a
      obtain ⟨rfl, _⟩ : n = n' ∧ True := by injection a with a; injection a with a; exact ⟨a, trivial⟩
      exact c
  have huse : ∀ k n, i ≠ k → (hk : k < xss.length) → us[k]? = some (.sl n 0 xss[k].length f) → n ≠ N → H n = some ⟨true, 1, xss[k]⟩ → n ≠ m ∧ ∀ n' o l f, us[i]? = some (.sl n' o l f) → n ≠ n' := by
    intro k n hik hk hu hn hH
    refine ⟨by rintro rfl; rw [hm] at hH; exact (by cases hH), fun n' o l f hu' e => hik ?_⟩
    subst e
    rcases t.row i h with ⟨a, _, _⟩ | ⟨n'', a, b, c, d⟩
    · rw [hu'] at a; cases a
    · have : n = n'' := by rw [hu'] at a; injection a with a; injection a
      subst this
      exact t.inj _ _ _ _ _ a hu
  refine ⟨fun n b hb => ?_, hN, t.oN, by simp [t.len], fun k hk => ?_, ?_⟩
  · have a1 : n ≠ N := by rintro rfl; rw [t.oN] at hb; cases hb
    have a2 : n ≠ m := by rintro rfl; rw [hm0] at hb; cases hb
    exact h2 n b a1 a2 (fun n' o l f hu e => by subst e; rw [old _ _ _ _ hu] at hb; cases hb) (t.sub n b hb)
  · rw [List.length_set] at hk
    have hkl : k < us.length := by rw [t.len]; exact hk
    by_cases e : i = k
    · subst e
      simp only [List.getElem_set_self]
      exact .inr ⟨m, by simp [hkl], h1, hm0, hmN⟩
    · rw [List.getElem_set_ne e, List.getElem?_set_ne e]
      rcases t.row k hk with h | ⟨n, a, b, c, d⟩
      · exact .inl h
      · obtain ⟨x1, x2⟩ := huse k n e hk a d b
        exact .inr ⟨n, a, h2 n _ d x1 x2 b, c, d⟩
  · have key : ∀ k n l, (us.set i (.sl m 0 ys.length f))[k]? = some (.sl n 0 l f) → (k = i ∧ n = m) ∨ (k ≠ i ∧ n ≠ m ∧ us[k]? = some (.sl n 0 l f)) := by
      intro k n l hk
      by_cases e : i = k
      · subst e
        have hil : i < us.length := by rw [t.len]; exact h
        simp only [List.getElem?_set_self hil, Option.some.injEq, V.sl.injEq] at hk
        exact .inl ⟨rfl, hk.1.symm⟩
      · rw [List.getElem?_set_ne e] at hk
        refine .inr ⟨fun e' => e e'.symm, ?_, hk⟩
        have hkl : k < xss.length := by rw [← t.len]; exact (List.getElem?_eq_some_iff.1 hk).1
        rcases t.row k hkl with ⟨a, _, _⟩ | ⟨n', a, b, c, d⟩
        · rw [hk] at a; cases a
        · have : n = n' := by rw [hk] at a; injection a with a; injection a
          subst this
          rintro rfl; rw [hm] at b; cases b
    intro a b n l l' ha hb
    rcases key a n l ha with ⟨rfl, rfl⟩ | ⟨x1, x2, x3⟩
    · rcases key b _ l' hb with ⟨rfl, _⟩ | ⟨_, y2, _⟩
      · rfl
      · exact absurd rfl y2
    · rcases key b n l' hb with ⟨rfl, rfl⟩ | ⟨_, _, y3⟩
      · exact absurd rfl x2
      · exact t.inj _ _ _ _ _ x3 y3

/-- one item more behind one row -/
theorem Tab.push {H0 H H' : Heap} {N : Nat} {us : List V} {xss : List (List V)} (t : Tab H0 H N false us xss) {i m : Nat} {v : V} (h : i < xss.length) (hm : H m = none)
    (hN : H' N = some ⟨true, 1, us.set i (.sl m 0 (xss[i].length + 1) false)⟩) (h1 : H' m = some ⟨true, 1, xss[i] ++ [v]⟩)
    (h2 : ∀ k, k ≠ N → k ≠ m → (∀ n o l f, us[i]? = some (.sl n o l f) → k ≠ n) → H' k = H k) : Tab H0 H' N false (us.set i (.sl m 0 (xss[i].length + 1) false)) (xss.set i (xss[i] ++ [v])) := by
  have := t.lay (ys := xss[i] ++ [v]) h hm (by simpa using hN) h1 fun k b a1 a2 a3 hb => by rw [h2 k a1 a2 a3]; exact hb
  simpa using this

/-- rows of cells that are read -/
def SCells (H : Heap) (u : V) (xs : List V) : Prop := Sl H u 1 xs.length xs
def SRowsV (H : Heap) (v : V) (xss : List (List V)) : Prop := SLists SCells H v xss
theorem SCells.mono {H H' : Heap} {v : V} {xs : List V} (h : SCells H v xs) (hs : Heap.sub H H') : SCells H' v xs := Sl.mono h hs
theorem SCells.len {H : Heap} {v : V} {xs : List V} (h : SCells H v xs) : lenR v = some (.int .i64 xs.length) := Sl.len h
theorem SCells.get {H : Heap} {v : V} {xs : List V} (h : SCells H v xs) {k : Nat} (hk : k < xs.length) (kd : IntKind) : ∃ p, iaV 1 v (.int kd k) = some p ∧ ldV H false 1 p = some xs[k] := by
  obtain ⟨p, h1, h2⟩ := Sl.at1 h (kd := kd) hk
  exact ⟨p, h1, by rw [h2]; simp [hk]⟩
theorem SRowsV.mono {H H' : Heap} {v : V} {ls : List (List V)} (h : SRowsV H v ls) (hs : Heap.sub H H') : SRowsV H' v ls := SLists.mono (S := SCells) (fun a b => SCells.mono a b) h hs
theorem Tab.rows {H0 H : Heap} {N : Nat} {f g : Bool} {us : List V} {xss : List (List V)} (t : Tab H0 H N f us xss) {n : Nat} (hn : n = xss.length) (h1 : n ≤ 281474976710656) (h2 : ∀ xs ∈ xss, xs.length ≤ 281474976710656) : SRowsV H (.sl N 0 n g) xss := by
  subst hn
  refine ⟨us, ⟨by rw [t.len]; omega, h1, .inr ⟨N, 0, g, _, rfl, t.outer, rfl, .inr (by simp [t.len]), fun j hj => by simp⟩⟩, fun i hi => ?_⟩
  obtain ⟨u, hu, _, _, hr⟩ := t.get hi
  refine ⟨u, hu, ?_⟩
  have hl := h2 _ (List.getElem_mem hi)
  rcases hr with ⟨rfl, e, _⟩ | ⟨n, rfl, hn, _, _⟩
  · rw [e]; exact ⟨by simp, by simp, .inl ⟨rfl, rfl⟩⟩
  · exact ⟨by simp, hl, .inr ⟨n, 0, f, _, rfl, hn, rfl, .inr (by simp), fun j hj => by simp⟩⟩

/-- rows being filled: those before k are full, row k has its first j items -/
def partR (n : Nat) (full : Nat → List V) (k j : Nat) : List (List V) := (List.range n).map fun i => if i < k then full i else if i = k then (full i).take j else []
theorem partR_len (n : Nat) (full : Nat → List V) (k j : Nat) : (partR n full k j).length = n := by simp [partR]
theorem partR_get {n : Nat} {full : Nat → List V} {k j i : Nat} (h : i < n) : (partR n full k j)[i]'(by rw [partR_len]; exact h) = if i < k then full i else if i = k then (full i).take j else [] := by simp [partR]
theorem partR_push {n : Nat} {full : Nat → List V} {k j : Nat} (h : k < n) (hj : j < (full k).length) : (partR n full k j).set k ((partR n full k j)[k]'(by rw [partR_len]; exact h) ++ [(full k)[j]]) = partR n full k (j+1) := by
  have e0 : (partR n full k j)[k]'(by rw [partR_len]; exact h) ++ [(full k)[j]] = (full k).take (j+1) := by
    rw [partR_get h, List.take_add_one, List.getElem?_eq_getElem hj]; simp
  rw [e0]
  apply List.ext_getElem
  · simp [partR_len]
  · intro i h1 h2
    have hi : i < n := by rw [partR_len] at h2; exact h2
    rw [partR_get hi]
    by_cases e : k = i
    · subst e
      simp
    · rw [List.getElem_set_ne e, partR_get hi]
      have : ¬ i = k := fun h => e h.symm
      simp [this]
theorem partR_next {n : Nat} {full : Nat → List V} {k j : Nat} (h : (full k).length ≤ j) : partR n full k j = partR n full (k+1) 0 := by
  unfold partR
  apply List.map_congr_left
  intro i hi
  by_cases h1 : i < k
  · simp [h1, show i < k + 1 by omega]
  · by_cases h2 : i = k
    · subst h2; simp [List.take_of_length_le h]
    · simp [h1, h2, show ¬ i < k + 1 by omega]
theorem partR_done {n : Nat} {full : Nat → List V} : partR n full n 0 = (List.range n).map full := by
  unfold partR
  apply List.map_congr_left
  intro i hi
  simp [List.mem_range.1 hi]
theorem partR_start {n : Nat} {full : Nat → List V} {H H' : Heap} {N : Nat} (hs : Heap.sub H H') (hN : H N = none) (hb : H' N = some ⟨true, 1, List.replicate n .nils⟩) : Tab H H' N false (List.replicate n .nils) (partR n full 0 0) := by
  refine ⟨hs, hb, hN, by simp [partR_len], fun i h => ?_, fun i j n l l' h => ?_⟩
  · rw [partR_len] at h
    refine .inl ⟨by simp [h], ?_, trivial⟩
    rw [partR_get h]; simp
  · simp [List.getElem?_replicate] at h
theorem Tab.down {H0 H1 H : Heap} {N : Nat} {f : Bool} {us : List V} {xss : List (List V)} (t : Tab H1 H N f us xss) (hs : Heap.sub H0 H1) : Tab H0 H N f us xss :=
  ⟨hs.trans' t.sub, t.outer, hs.none' t.oN, t.len, fun i h => (t.row i h).imp id fun ⟨n, a, b, c, d⟩ => ⟨n, a, b, hs.none' c, d⟩, t.inj⟩
/-- the step 'out[k] = append(out[k], v)' in a table -/
theorem appC_tab {H0 H : Heap} {env : Env} {d : Option Nat} {K : Env → Heap → Prop} {N : Nat} {us : List V} {xss : List (List V)} {k xb bytes : Nat} {f : Bool} {v u : V} (t : Tab H0 H N false us xss) (hk : k < xss.length) (hu : us[k]? = some u)
    (hx : H xb = some ⟨true, 1, [v]⟩) (hb : (xss[k].length + 1) * bytes ≤ 140737488355328) (hb2 : xss[k].length + 1 ≤ 140737488355328)
    (go : ∀ m H', H m = none → H' N = some ⟨true, 1, us⟩ → lenV u = xss[k].length → (∀ H'', H'' N = some ⟨true, 1, us.set k (.sl m 0 (xss[k].length + 1) false)⟩ → (∀ q, q ≠ N → H'' q = H' q) → Tab H0 H'' N false (us.set k (.sl m 0 (xss[k].length + 1) false)) (xss.set k (xss[k] ++ [v]))) → K (env.put d (.sl m 0 (xss[k].length + 1) false)) H') :
    appC H env 1 bytes u (.sl xb 0 1 f) [] d K := by
  obtain ⟨u', hu', hlu, _, hrow⟩ := t.get hk
  rw [hu] at hu'
  obtain rfl := Option.some.inj hu'
  have hrow' : (u = .nils ∧ xss[k] = []) ∨ ∃ n len, u = .sl n 0 len false ∧ H n = some ⟨true, 1, xss[k]⟩ ∧ xss[k].length = len * 1 := by
    rcases hrow with ⟨e, e', _⟩ | ⟨n, e, e', _⟩
    · exact .inl ⟨e, e'⟩
    · exact .inr ⟨n, _, e, e', by omega⟩
  refine appC_one hrow' hx rfl (by decide) (by rw [hlu]; exact hb) (by rw [hlu]; exact hb2) fun m H7 hm hbm hf7 => ?_
  have hmN : N ≠ m := by rintro rfl; rw [t.outer] at hm; cases hm
  have huN : ∀ n o l f, u = V.sl n o l f → N ≠ n := by
    rintro n o l f rfl
    rcases hrow with ⟨e, _⟩ | ⟨n', e, _, _, hne⟩
    · cases e
    · injection e with e; rw [e]; exact fun h => hne h.symm
  rw [hlu]
  refine go m H7 hm (by rw [hf7 N hmN huN]; exact t.outer) hlu fun H8 hb8 hf8 => ?_
  refine t.push hk hm hb8 (by rw [hf8 m hmN.symm]; exact hbm) fun q h1 h2 h3 => ?_
  rw [hf8 q h1]
  exact hf7 q h2 fun n o l f e => h3 n o l f (by rw [hu, e])

/-- rows being filled in place: those before k are full, row k has its first j items and behind them z -/
def partZ (n : Nat) (full : Nat → List V) (z : V) (k j : Nat) : List (List V) := (List.range n).map fun i => if i < k then full i else if i = k then (full i).take j ++ List.replicate ((full i).length - j) z else []
theorem partZ_len (n : Nat) (full : Nat → List V) (z : V) (k j : Nat) : (partZ n full z k j).length = n := by simp [partZ]
theorem partZ_get {n : Nat} {full : Nat → List V} {z : V} {k j i : Nat} (h : i < n) : (partZ n full z k j)[i]'(by rw [partZ_len]; exact h) = if i < k then full i else if i = k then (full i).take j ++ List.replicate ((full i).length - j) z else [] := by simp [partZ]
theorem partZ_lay {n : Nat} {full : Nat → List V} {z : V} {k : Nat} (h : k < n) : (partR n full k 0).set k (List.replicate (full k).length z) = partZ n full z k 0 := by
  apply List.ext_getElem
  · simp [partR_len, partZ_len]
  · intro i h1 h2
    have hi : i < n := by rw [partZ_len] at h2; exact h2
    rw [partZ_get hi]
    by_cases e : k = i
    · subst e; simp
    · rw [List.getElem_set_ne e, partR_get hi]
      have : ¬ i = k := fun h => e h.symm
      simp [this]
theorem partZ_set {n : Nat} {full : Nat → List V} {z : V} {k j : Nat} (h : k < n) (hj : j < (full k).length) : (partZ n full z k j).set k (((partZ n full z k j)[k]'(by rw [partZ_len]; exact h)).set j (full k)[j]) = partZ n full z k (j+1) := by
  have e0 : ((partZ n full z k j)[k]'(by rw [partZ_len]; exact h)).set j (full k)[j] = (full k).take (j+1) ++ List.replicate ((full k).length - (j+1)) z := by
    rw [partZ_get h, if_neg (Nat.lt_irrefl _), if_pos rfl]
    have e1 : (full k).length - j = (full k).length - (j+1) + 1 := by omega
    have e2 : ((full k).take j).length = j := by rw [List.length_take]; omega
    rw [e1, List.replicate_succ, List.set_append_right _ _ (by omega), e2, Nat.sub_self, List.set_cons_zero, List.take_add_one, List.getElem?_eq_getElem hj, List.append_assoc]
    rfl
  rw [e0]
  apply List.ext_getElem
  · simp [partZ_len]
  · intro i h1 h2
    have hi : i < n := by rw [partZ_len] at h2; exact h2
    rw [partZ_get hi]
    by_cases e : k = i
    · subst e; simp
    · rw [List.getElem_set_ne e, partZ_get hi]
      have : ¬ i = k := fun h => e h.symm
      simp [this]
theorem partZ_next {n : Nat} {full : Nat → List V} {z : V} {k j : Nat} (h : (full k).length = j) : partZ n full z k j = partR n full (k+1) 0 := by
  unfold partZ partR
  apply List.map_congr_left
  intro i hi
  by_cases h1 : i < k
  · simp [h1, show i < k + 1 by omega]
  · by_cases h2 : i = k
    · subst h2; subst h; simp
    · simp [h1, h2, show ¬ i < k + 1 by omega]
theorem partR_startT {n : Nat} {full : Nat → List V} {H H' : Heap} {N : Nat} {f : Bool} (hs : Heap.sub H H') (hN : H N = none) (hb : H' N = some ⟨true, 1, List.replicate n .nils⟩) : Tab H H' N f (List.replicate n .nils) (partR n full 0 0) := by
  refine ⟨hs, hb, hN, by simp [partR_len], fun i h => ?_, fun i j n l l' h => ?_⟩
  · rw [partR_len] at h
    refine .inl ⟨by simp [h], ?_, trivial⟩
    rw [partR_get h]; simp
  · simp [List.getElem?_replicate] at h
end Go.AM

/- The frame of a contract for a part of the heap; tables whose items hold on to data of their own. Conditions: none. -/
set_option linter.unusedVariables false
set_option linter.unusedSimpArgs false
namespace Go.AM
open Go

theorem sl_name {n n' o o' l l' : Nat} {f f' : Bool} {u : Option V} (h : u = some (V.sl n o l f)) (h' : u = some (V.sl n' o' l' f')) : n = n' := by
  rw [h] at h'; injection h' with h'; injection h'
/-- the heap G2 where G was, H elsewhere -/
def Heap.over (H G G2 : Heap) : Heap := fun n => match G n with
  | some _ => G2 n
  | none => match H n with
    | some b => some b
    | none => G2 n
theorem over_frame {H G G2 : Heap} {n : Nat} {b : Blk} (h : G n = none) (h2 : H n = some b) : Heap.over H G G2 n = some b := by simp [Heap.over, h, h2]
theorem over_in {H G G2 : Heap} {n : Nat} (h : G n = none → H n = none) : Heap.over H G G2 n = G2 n := by
  unfold Heap.over
  cases e : G n with
  | some _ => rfl
  | none => simp [h e]

theorem ACalls.frameSub {P f args G R} (h : ACalls P f args G R) {H : Heap} (hsub : Heap.sub G H) :
    ACalls P f args H (fun v H' => ∃ G2, R v G2 ∧ (∀ n b, G n = none → H n = some b → G2 n = none) ∧ H' = Heap.over H G G2) := by
  refine ⟨h.1, fun μ w cargs hs hv => ?_⟩
  have hs0 := hs.sub hsub
  refine (h.2 μ w cargs hs0 hv).mono fun e w' ⟨μ', cv, v, G2, he, tr, sm, rv, hr⟩ => ?_
  have hn1 : ∀ n b, G n = none → H n = some b → G2 n = none := fun n b hn hb => by
    cases e1 : G2 n with
    | none => rfl
    | some c =>
      obtain ⟨l, hl, _⟩ := hs.bears n b hb
      rw [tr.fresh n hn (by rw [e1]; simp)] at hl; cases hl
  have hno : ∀ n b l, G n = none → H n = some b → μ n = some l → (b.own = true ∨ b.cells ≠ []) → ¬ Owns μ G l.b := by
    rintro n b l hn hb hl hf ⟨m, blk, lm, hm, ho, hlm, hbb⟩
    have hmn : m ≠ n := fun e => by subst e; rw [hn] at hm; cases hm
    exact hs.apart m blk n b lm l (hsub m blk hm) ho hb hf hmn hlm hl hbb.symm
  have hcase : ∀ m c, Heap.over H G G2 m = some c → (G m = none ∧ H m = some c) ∨ ((G m = none → H m = none) ∧ G2 m = some c) := by
    intro m c hm
    cases e : G m with
    | some g =>
      refine .inr ⟨fun h => by (cases h), ?_⟩
      rw [over_in (fun h => by rw [e] at h; cases h)] at hm; exact hm
    | none =>
      cases e2 : H m with
      | some b => rw [over_frame e e2] at hm; exact .inl ⟨rfl, hm⟩
      | none => rw [over_in (fun _ => e2)] at hm; exact .inr ⟨fun _ => rfl, hm⟩
  refine ⟨μ', cv, v, Heap.over H G G2, he, ?_, ?_, rv, G2, hr, hn1, rfl⟩
  · refine ⟨tr.le, tr.size, tr.os, tr.tape, tr.output, fun c hc ho => tr.frame c hc fun h => ho (h.sub hsub), fun c hc => ?_, fun m hm hm' => ?_, fun m c hm hc => ?_⟩
    · obtain ⟨m, blk, lm, hm, ho, hlm, hb⟩ := hc
      rcases hcase m blk hm with ⟨h1, h2⟩ | ⟨_, h2⟩
      · obtain ⟨l, hl, _⟩ := hs.bears m blk h2
        have := tr.le _ _ hl
        rw [this] at hlm
        obtain rfl := Option.some.inj hlm
        exact .inr ⟨m, blk, l, h2, ho, hl, hb⟩
      · rcases tr.own c ⟨m, blk, lm, h2, ho, hlm, hb⟩ with h | h
        · exact .inl h
        · exact .inr (h.sub hsub)
    · have hg : G m = none := hsub.none' hm
      rw [over_in (fun _ => hm)] at hm'
      exact tr.fresh m hg hm'
    · rcases hcase m c hm with ⟨h1, h2⟩ | ⟨_, h2⟩
      · exact h2
      · exact hsub m c (tr.kept m c h2 hc)
  · refine ⟨fun m blk hm => ?_, fun m blk m' blk' lm lm' hm ho hm' hf hne hlm hlm' => ?_, sm.bound⟩
    · rcases hcase m blk hm with ⟨h1, h2⟩ | ⟨_, h2⟩
      · obtain ⟨l, hl, hbe⟩ := hs.bears m blk h2
        exact ⟨l, tr.le _ _ hl, hbe.keepAll tr.le fun hf => tr.frame l.b (hbe.lt hf) (hno m blk l h1 h2 hl hf)⟩
      · exact sm.bears m blk h2
    · rcases hcase m blk hm with ⟨h1, h2⟩ | ⟨_, h2⟩
      · obtain ⟨l, hl, hbe⟩ := hs.bears m blk h2
        have e1 := tr.le _ _ hl
        rw [e1] at hlm
        obtain rfl := Option.some.inj hlm
        have hblt : l.b < w.heap.size := hbe.lt (.inl ho)
        rcases hcase m' blk' hm' with ⟨k1, k2⟩ | ⟨_, k2⟩
        · obtain ⟨l', hl', hbe'⟩ := hs.bears m' blk' k2
          have e2 := tr.le _ _ hl'
          rw [e2] at hlm'
          obtain rfl := Option.some.inj hlm'
          exact hs.apart m blk m' blk' l l' h2 ho k2 hf hne hl hl'
        · cases ho' : blk'.own with
          | true =>
            intro hbb
            rcases tr.own lm'.b ⟨m', blk', lm', k2, ho', hlm', rfl⟩ with h | h
            · omega
            · rw [hbb] at h; exact hno m blk l h1 h2 hl (.inl ho) h
          | false =>
            have hk := tr.kept m' blk' k2 ho'
            obtain ⟨l2, hl2, _⟩ := hs0.bears m' blk' hk
            have : μ' m' = some l2 := tr.le _ _ hl2
            rw [hlm'] at this
            obtain rfl := Option.some.inj this
            exact hs.apart m blk m' blk' l lm' h2 ho (hsub _ _ hk) hf hne hl hl2
      · rcases hcase m' blk' hm' with ⟨k1, k2⟩ | ⟨_, k2⟩
        · obtain ⟨l', hl', hbe'⟩ := hs.bears m' blk' k2
          have e2 := tr.le _ _ hl'
          rw [e2] at hlm'
          obtain rfl := Option.some.inj hlm'
          intro hbb
          rcases tr.own lm.b ⟨m, blk, lm, h2, ho, hlm, rfl⟩ with h | h
          · have := hbe'.lt hf; omega
          · rw [← hbb] at h; exact hno m' blk' l' k1 k2 hl' hf h
        · exact sm.apart m blk m' blk' lm lm' h2 ho k2 hf hne hlm hlm'

/-- a callee that adds to the part G of the heap -/
theorem ACalls.growIn {P : Program} {f : FuncId} {args : List V} {G H : Heap} {R : V → Heap → Prop} (h : ACalls P f args G fun v G' => Heap.sub G G' ∧ R v G') (hs : Heap.sub G H) :
    ACalls P f args H fun v H' => Heap.sub H H' ∧ ∃ G', Heap.sub G G' ∧ Heap.sub G' H' ∧ (∀ n, G n = none → H n ≠ none → G' n = none) ∧ R v G' := by
  refine (h.frameSub hs).mono ?_
  rintro v H' ⟨G2, ⟨h1, h2⟩, h3, rfl⟩
  refine ⟨fun n b hb => ?_, G2, h1, fun n b hb => ?_, fun n h0 hn => ?_, h2⟩
  · cases e : G n with
    | none => exact over_frame e hb
    | some c =>
      rw [over_in (fun h => by rw [e] at h; cases h)]
      have := hs n c e
      rw [hb] at this
      cases this
      exact h1 n b e
  · by_cases e : G n = none → H n = none
    · rw [over_in e]; exact hb
    · have e1 : G n = none := by
        cases e1 : G n with
        | none => rfl
        | some c => exact absurd (fun h => by rw [e1] at h; cases h) e
      have e2 : ∃ c, H n = some c := by
        cases e2 : H n with
        | none => exact absurd (fun _ => e2) e
        | some c => exact ⟨c, rfl⟩
      obtain ⟨c, e2⟩ := e2
      rw [h3 n c e1 e2] at hb; cases hb
  · cases e2 : H n with
    | none => exact absurd e2 hn
    | some c => exact h3 n c h0 e2
theorem callC_in {P : Program} {g : FuncId} {caps args : List V} {keep : Bool} {d : Option Nat} {K : Env → Heap → Prop} {env : Env} {G H : Heap} {R : V → Heap → Prop} (h : ACalls P g (args ++ caps) G fun v G' => Heap.sub G G' ∧ R v G') (hs : Heap.sub G H)
    (hk : ∀ v H' G', Heap.sub H H' → Heap.sub G G' → Heap.sub G' H' → (∀ n, G n = none → H n ≠ none → G' n = none) → R v G' → K (env.put d v) H') : callC P (.fn g caps) args keep d K env H :=
  callC_grow (h.growIn hs) fun v H' hs' ⟨G', a, b, c, r⟩ => hk v H' G' hs' a b c r
theorem invC_in {P : Program} {g : FuncId} {t : TypeId} {x : V} {args : List V} {keep : Bool} {d : Option Nat} {K : Env → Heap → Prop} {env : Env} {G H : Heap} {R : V → Heap → Prop} (h : ACalls P g (x :: args) G fun v G' => Heap.sub G G' ∧ R v G') (hs : Heap.sub G H)
    (hk : ∀ v H' G', Heap.sub H H' → Heap.sub G G' → Heap.sub G' H' → (∀ n, G n = none → H n ≠ none → G' n = none) → R v G' → K (env.put d v) H') : invC P (.ifc t x) t g args keep d K env H :=
  invC_grow (h.growIn hs) fun v H' hs' ⟨G', a, b, c, r⟩ => hk v H' G' hs' a b c r

/-- a table (its rows lie outside G) and its items, of which each holds on to data in G -/
structure VTab (H0 G H : Heap) (N : Nat) (f : Bool) (us : List V) (T : List (List V)) (Q : Nat → Nat → Heap → V → Prop) : Prop where
  tab : Tab H0 H N f us T
  g0 : Heap.sub H0 G
  gh : Heap.sub G H
  gN : G N = none
  gr : ∀ (i n l : Nat), us[i]? = some (V.sl n 0 l f) → G n = none
  rep : ∀ i j, (h : i < T.length) → (h' : j < T[i].length) → Q i j G T[i][j]

theorem VTab.grow {H0 G H H' : Heap} {N : Nat} {f : Bool} {us : List V} {T : List (List V)} {Q : Nat → Nat → Heap → V → Prop} (t : VTab H0 G H N f us T Q) (hs : Heap.sub H H') : VTab H0 G H' N f us T Q :=
  ⟨t.tab.grow hs, t.g0, t.gh.trans' hs, t.gN, t.gr, t.rep⟩
theorem VTab.call {H0 G H G' H' : Heap} {N : Nat} {f : Bool} {us : List V} {T : List (List V)} {Q : Nat → Nat → Heap → V → Prop} (t : VTab H0 G H N f us T Q) (hq : ∀ i j v, Q i j G v → Q i j G' v) (hs : Heap.sub H H') (h1 : Heap.sub G G') (h2 : Heap.sub G' H') (h3 : ∀ n, G n = none → H n ≠ none → G' n = none) : VTab H0 G' H' N f us T Q := by
  refine ⟨t.tab.grow hs, t.g0.trans' h1, h2, h3 N t.gN (by rw [t.tab.outer]; simp), fun i n l hu => ?_, fun i j h h' => hq i j _ (t.rep i j h h')⟩
  refine h3 n (t.gr i n l hu) ?_
  have hi : i < T.length := by rw [← t.tab.len]; exact (List.getElem?_eq_some_iff.1 hu).1
  rcases t.tab.row i hi with ⟨a, _⟩ | ⟨m, a, b, _⟩
  · rw [hu] at a; cases a
  · rw [hu] at a
    have : n = m := by injection a with a; injection a
    subst this
    rw [b]; simp
theorem VTab.set {H0 G H H' : Heap} {N : Nat} {f : Bool} {us : List V} {T : List (List V)} {Q Q' : Nat → Nat → Heap → V → Prop} (t : VTab H0 G H N f us T Q) {i j n : Nat} {v : V} (h : i < T.length) (hu : us[i]? = some (.sl n 0 T[i].length f)) (hj : j < T[i].length)
    (h1 : H' n = some ⟨true, 1, T[i].set j v⟩) (h2 : ∀ m, m ≠ n → H' m = H m) (hv : Q' i j G v) (hq : ∀ i' j' w, ¬ (i' = i ∧ j' = j) → Q i' j' G w → Q' i' j' G w) : VTab H0 G H' N f us (T.set i (T[i].set j v)) Q' := by
  refine ⟨t.tab.set h hu hj h1 h2, t.g0, fun m b hb => ?_, t.gN, t.gr, fun i' j' a b => ?_⟩
  · have : m ≠ n := by rintro rfl; rw [t.gr _ _ _ hu] at hb; cases hb
    rw [h2 m this]; exact t.gh m b hb
  · rw [List.length_set] at a
    by_cases e : i = i'
    · subst e
      simp only [List.getElem_set_self, List.length_set] at b ⊢
      by_cases e2 : j = j'
      · subst e2
        simp only [List.getElem_set_self]; exact hv
      · rw [List.getElem_set_ne e2]
        exact hq _ _ _ (fun h => e2 h.2.symm) (t.rep _ _ _ _)
    · simp only [List.getElem_set_ne e] at b ⊢
      exact hq _ _ _ (fun h => e h.1.symm) (t.rep _ _ _ _)
theorem VTab.weaken {H0 G H : Heap} {N : Nat} {f : Bool} {us : List V} {T : List (List V)} {Q Q' : Nat → Nat → Heap → V → Prop} (t : VTab H0 G H N f us T Q) (hq : ∀ i j v, i < T.length → Q i j G v → Q' i j G v) : VTab H0 G H N f us T Q' :=
  ⟨t.tab, t.g0, t.gh, t.gN, t.gr, fun i j h h' => hq i j _ h (t.rep i j h h')⟩
/-- one item more behind the row k -/
theorem VTab.push {H0 G H H' : Heap} {N : Nat} {us : List V} {T : List (List V)} {Q : Nat → Nat → Heap → V → Prop} (t : VTab H0 G H N false us T Q) {k m : Nat} {v : V} (hk : k < T.length) (hm : G m = none) (hs : Heap.sub G H')
    (ht : Tab H0 H' N false (us.set k (.sl m 0 (T[k].length + 1) false)) (T.set k (T[k] ++ [v]))) (hv : Q k T[k].length G v) : VTab H0 G H' N false (us.set k (.sl m 0 (T[k].length + 1) false)) (T.set k (T[k] ++ [v])) Q := by
  refine ⟨ht, t.g0, hs, t.gN, fun i n l hu => ?_, fun i j a b => ?_⟩
  · by_cases e : k = i
    · subst e
      rw [List.getElem?_set_self (by rw [t.tab.len]; exact hk)] at hu
      have : m = n := by injection hu with hu; injection hu
      subst this; exact hm
    · rw [List.getElem?_set_ne e] at hu; exact t.gr _ _ _ hu
  · rw [List.length_set] at a
    by_cases e : k = i
    · subst e
      simp only [List.getElem_set_self, List.length_append, List.length_singleton] at b ⊢
      by_cases e2 : j < T[k].length
      · rw [List.getElem_append_left e2]; exact t.rep _ _ _ _
      · have : j = T[k].length := by omega
        subst this
        simpa using hv
    · simp only [List.getElem_set_ne e] at b ⊢
      exact t.rep _ _ _ _
/-- the step 'out[k] = append(out[k], v)' in such a table -/
theorem appC_vtab {H0 G H : Heap} {env : Env} {d : Option Nat} {K : Env → Heap → Prop} {N : Nat} {us : List V} {T : List (List V)} {Q : Nat → Nat → Heap → V → Prop} {k xb bytes : Nat} {f : Bool} {v u : V} (t : VTab H0 G H N false us T Q) (hk : k < T.length) (hu : us[k]? = some u)
    (hx : H xb = some ⟨true, 1, [v]⟩) (hb : (T[k].length + 1) * bytes ≤ 140737488355328) (hb2 : T[k].length + 1 ≤ 140737488355328) (hv : Q k T[k].length G v)
    (go : ∀ m H', H' N = some ⟨true, 1, us⟩ → lenV u = T[k].length → (∀ H'', H'' N = some ⟨true, 1, us.set k (.sl m 0 (T[k].length + 1) false)⟩ → (∀ q, q ≠ N → H'' q = H' q) → VTab H0 G H'' N false (us.set k (.sl m 0 (T[k].length + 1) false)) (T.set k (T[k] ++ [v])) Q) → K (env.put d (.sl m 0 (T[k].length + 1) false)) H') :
    appC H env 1 bytes u (.sl xb 0 1 f) [] d K := by
  obtain ⟨u', hu', hlu, _, hrow⟩ := t.tab.get hk
  rw [hu] at hu'
  obtain rfl := Option.some.inj hu'
  have hrow' : (u = .nils ∧ T[k] = []) ∨ ∃ n len, u = .sl n 0 len false ∧ H n = some ⟨true, 1, T[k]⟩ ∧ T[k].length = len * 1 := by
    rcases hrow with ⟨e, e', _⟩ | ⟨n, e, e', _⟩
    · exact .inl ⟨e, e'⟩
    · exact .inr ⟨n, _, e, e', by omega⟩
  refine appC_one hrow' hx rfl (by decide) (by rw [hlu]; exact hb) (by rw [hlu]; exact hb2) fun m H7 hm hbm hf7 => ?_
  have hmN : N ≠ m := by rintro rfl; rw [t.tab.outer] at hm; cases hm
  have huN : ∀ n o l f, u = V.sl n o l f → N ≠ n := by
    rintro n o l f rfl
    rcases hrow with ⟨e, _⟩ | ⟨n', e, _, _, hne⟩
    · cases e
    · injection e with e; rw [e]; exact fun h => hne h.symm
  rw [hlu]
  refine go m H7 (by rw [hf7 N hmN huN]; exact t.tab.outer) hlu fun H8 hb8 hf8 => ?_
  have hgm : G m = none := t.gh.none' hm
  refine t.push hk hgm (fun q b hq => ?_) (t.tab.push hk hm hb8 (by rw [hf8 m hmN.symm]; exact hbm) fun q h1 h2 h3 => ?_) hv
  · have q1 : q ≠ N := by rintro rfl; rw [t.gN] at hq; cases hq
    have q2 : q ≠ m := by rintro rfl; rw [hgm] at hq; cases hq
    have q3 : ∀ n o l f, u = V.sl n o l f → q ≠ n := by
      rintro n o l f rfl rfl
      rcases hrow with ⟨e, _⟩ | ⟨n', e, _, _, _⟩
      · cases e
      · injection e with e1 e2 e3 e4
        subst e2; subst e4
        rw [t.gr _ _ _ hu] at hq; cases hq
    rw [hf8 q q1, hf7 q q2 q3]
    exact t.gh q b hq
  · rw [hf8 q h1]
    exact hf7 q h2 fun n o l f e => h3 n o l f (by rw [hu, e])
end Go.AM

/- Sorting: rows of elements of any size, exchanges, permutations within a range. Conditions: as stated. -/
set_option linter.unusedVariables false
set_option linter.unusedSimpArgs false
namespace Go.AM
open Go Go.Proofs

/-- how elements lie in cells: k of them each; ag: they are read as one value of several cells -/
structure Elem (α : Type) (k : Nat) (ag : Bool) where
  val : α → V
  pos : 0 < k
  len : ∀ x, (val x).cells.length = k
  agg : ag = true → ∀ x, val x = .agg (val x).cells
  one : ag = false → k = 1 ∧ ∀ x, (val x).cells = [val x]

section
variable {α : Type} {k : Nat} {ag : Bool}
def Elem.cells (E : Elem α k ag) (xs : List α) : List V := (xs.map fun x => (E.val x).cells).flatten
theorem Elem.cells_len (E : Elem α k ag) (xs : List α) : (E.cells xs).length = xs.length * k := by
  induction xs with
  | nil => simp [Elem.cells]
  | cons x r ih =>
    simp only [Elem.cells, List.map_cons, List.flatten_cons, List.length_append, List.length_cons] at ih ⊢
    rw [ih, E.len, Nat.add_mul]; omega
theorem Elem.cells_append (E : Elem α k ag) (xs ys : List α) : E.cells (xs ++ ys) = E.cells xs ++ E.cells ys := by simp [Elem.cells]
theorem Elem.cells_at (E : Elem α k ag) {xs : List α} {i : Nat} (h : i < xs.length) : E.cells xs = E.cells (xs.take i) ++ ((E.val xs[i]).cells ++ E.cells (xs.drop (i+1))) := by
  conv => lhs; rw [← List.take_append_drop i xs, E.cells_append, List.drop_eq_getElem_cons h]
  congr 1
theorem Elem.take_len (E : Elem α k ag) {xs : List α} {i : Nat} (h : i ≤ xs.length) : (E.cells (xs.take i)).length = i * k := by
  rw [E.cells_len, List.length_take, Nat.min_eq_left h]
theorem Elem.read (E : Elem α k ag) {xs : List α} {i N : Nat} {own : Bool} {s : Nat} {H : Heap} (hb : H N = some ⟨own, s, E.cells xs⟩) (h : i < xs.length) : ldV H ag k (.ptr N (i * k)) = some (E.val xs[i]) := by
  have hl := E.take_len (Nat.le_of_lt h)
  have e := E.cells_at h
  rcases Bool.eq_false_or_eq_true ag with hag | hag
  · subst hag
    have hbound : i * k + k ≤ (E.cells xs).length := by
      rw [E.cells_len]
      have := Nat.mul_le_mul_right k (Nat.succ_le_of_lt h)
      rw [Nat.succ_mul] at this; exact this
    rw [ld_boxa hb hbound, e, List.drop_append_of_le_length (by omega), List.drop_of_length_le (by omega), List.nil_append, List.take_append_of_le_length (by rw [E.len]; omega), List.take_of_length_le (by rw [E.len]; omega), ← E.agg rfl]
  · subst hag
    obtain ⟨rfl, h1⟩ := E.one rfl
    rw [ld_box hb, e, List.getElem?_append_right (by omega), hl, Nat.sub_self, h1]
    rfl
/-- the heap with these elements -/
def Elem.put (E : Elem α k ag) (H : Heap) (N : Nat) (xs : List α) : Heap := H.upd N (some ⟨true, k, E.cells xs⟩)
theorem Elem.put_at (E : Elem α k ag) (H : Heap) (N : Nat) (xs : List α) : E.put H N xs N = some ⟨true, k, E.cells xs⟩ := by simp [Elem.put, Heap.upd]
theorem Elem.put_ne (E : Elem α k ag) (H : Heap) {N m : Nat} (xs : List α) (h : m ≠ N) : E.put H N xs m = H m := by simp [Elem.put, Heap.upd, h]
theorem Elem.put_put (E : Elem α k ag) (H : Heap) (N : Nat) (xs ys : List α) : E.put (E.put H N xs) N ys = E.put H N ys := by
  funext m
  by_cases e : m = N
  · subst e; rw [E.put_at, E.put_at]
  · rw [E.put_ne _ _ e, E.put_ne _ _ e, E.put_ne _ _ e]
theorem Elem.put_sub (E : Elem α k ag) {G H : Heap} {N : Nat} (xs : List α) (hs : Heap.sub G H) (hN : G N = none) : Heap.sub G (E.put H N xs) := hs.upd' hN _
theorem Elem.splice (E : Elem α k ag) {xs : List α} {i : Nat} (h : i < xs.length) (x : α) : splice (E.cells xs) (i * k) (E.val x).cells = E.cells (xs.set i x) := by
  have hl := E.take_len (Nat.le_of_lt h)
  have e := E.cells_at h
  have e2 : E.cells (xs.set i x) = E.cells (xs.take i) ++ ((E.val x).cells ++ E.cells (xs.drop (i+1))) := by
    have := E.cells_at (xs := xs.set i x) (i := i) (by simpa using h)
    rw [List.getElem_set_self, List.take_set_of_le (Nat.le_refl i), List.drop_set_of_lt (Nat.lt_succ_self i)] at this
    exact this
  rw [e2, Go.AM.splice, E.len]
  rw [List.append_assoc]
  congr 1
  · rw [e, List.take_append_of_le_length (by omega), List.take_of_length_le (by omega)]
  · congr 1
    rw [e, List.drop_append, hl, List.drop_of_length_le (by omega), List.nil_append, show i * k + k - i * k = k by omega, List.drop_append, E.len, List.drop_of_length_le (by rw [E.len]; omega), List.nil_append, Nat.sub_self, List.drop_zero]
theorem Elem.st (E : Elem α k ag) {H0 : Heap} {N i : Nat} {xs : List α} {env : Env} {d : Option Nat} {K : Env → Heap → Prop} {x : α} (h : i < xs.length) (hk : K (env.put d und) (E.put H0 N (xs.set i x))) : stC (E.put H0 N xs) env [] k (.ptr N (i * k)) (E.val x) d K := by
  simp only [stC, E.put_at]
  have hb : i * k + k ≤ (E.cells xs).length := by
    rw [E.cells_len]
    have := Nat.mul_le_mul_right k (Nat.succ_le_of_lt h)
    rw [Nat.succ_mul] at this; exact this
  refine ⟨trivial, trivial, E.len x, .inl E.pos, hb, ?_⟩
  have : Heap.upd (E.put H0 N xs) N (some ⟨true, k, Go.AM.splice (E.cells xs) (i * k) (E.val x).cells⟩) = E.put H0 N (xs.set i x) := by
    rw [E.splice h]; exact E.put_put _ _ _ _
  rw [this]; exact hk
theorem ia_el {N n i : Nat} {f : Bool} {kd : IntKind} (h : i < n) : iaV k (.sl N 0 n f) (.int kd i) = some (.ptr N (i * k)) := by rw [ia_nat h, Nat.zero_add]

/-- an exchange -/
def swapL (xs : List α) (i j : Nat) : List α := match xs[i]?, xs[j]? with
  | some x, some y => (xs.set i y).set j x
  | _, _ => xs
theorem swapL_eq {xs : List α} {i j : Nat} (hi : i < xs.length) (hj : j < xs.length) : swapL xs i j = (xs.set i xs[j]).set j xs[i] := by simp [swapL, hi, hj]
theorem swapL_len (xs : List α) (i j : Nat) : (swapL xs i j).length = xs.length := by unfold swapL; split <;> simp
theorem swapL_get {xs : List α} {i j m : Nat} (hi : i < xs.length) (hj : j < xs.length) (hm : m < xs.length) : (swapL xs i j)[m]'(by rw [swapL_len]; exact hm) = if m = j then xs[i] else if m = i then xs[j] else xs[m] := by
  simp only [swapL_eq hi hj, List.getElem_set]
  by_cases h1 : j = m
  · simp [h1]
  · by_cases h2 : i = m
    · simp [h1, h2, Ne.symm h1]
    · simp [h1, h2, Ne.symm h1, Ne.symm h2]
/-- exchanges within a ≤ . < b -/
inductive PermIn (a b : Nat) : List α → List α → Prop
  | refl (xs) : PermIn a b xs xs
  | step {xs ys} (i j : Nat) : PermIn a b xs ys → a ≤ i → i < b → a ≤ j → j < b → i < ys.length → j < ys.length → PermIn a b xs (swapL ys i j)
theorem PermIn.trans {a b : Nat} {xs ys zs : List α} (h : PermIn a b xs ys) (h' : PermIn a b ys zs) : PermIn a b xs zs := by
  induction h' with
  | refl => exact h
  | step i j _ h1 h2 h3 h4 h5 h6 ih => exact .step i j ih h1 h2 h3 h4 h5 h6
theorem PermIn.wider {a b a' b' : Nat} {xs ys : List α} (h : PermIn a b xs ys) (ha : a' ≤ a) (hb : b ≤ b') : PermIn a' b' xs ys := by
  induction h with
  | refl => exact .refl _
  | step i j _ h1 h2 h3 h4 h5 h6 ih => exact .step i j ih (by omega) (by omega) (by omega) (by omega) h5 h6
theorem PermIn.length {a b : Nat} {xs ys : List α} (h : PermIn a b xs ys) : ys.length = xs.length := by
  induction h with
  | refl => rfl
  | step i j _ h1 h2 h3 h4 h5 h6 ih => rw [swapL_len, ih]
theorem PermIn.perm {a b : Nat} {xs ys : List α} (h : PermIn a b xs ys) : ys.Perm xs := by
  induction h with
  | refl => exact List.Perm.refl _
  | step i j _ h1 h2 h3 h4 h5 h6 ih =>
    rw [swapL_eq h5 h6]
    exact (List.set_set_perm h5 h6).trans ih
theorem PermIn.out {a b : Nat} {xs ys : List α} (h : PermIn a b xs ys) {m : Nat} (hm : m < a ∨ b ≤ m) : ys[m]? = xs[m]? := by
  induction h with
  | refl => rfl
  | step i j _ h1 h2 h3 h4 h5 h6 ih =>
    rw [← ih, swapL_eq h5 h6, List.getElem?_set_ne (by omega), List.getElem?_set_ne (by omega)]
/-- what holds of all in the range holds of all in it afterwards -/
theorem PermIn.all {a b : Nat} {xs ys : List α} (h : PermIn a b xs ys) {P : α → Prop} (hp : ∀ m x, a ≤ m → m < b → xs[m]? = some x → P x) : ∀ m x, a ≤ m → m < b → ys[m]? = some x → P x := by
  induction h with
  | refl => exact hp
  | step i j _ h1 h2 h3 h4 h5 h6 ih =>
    intro m x ma mb hx
    have hm := (List.getElem?_eq_some_iff.1 hx).1
    rw [swapL_len] at hm
    rw [List.getElem?_eq_getElem (by rw [swapL_len]; exact hm), swapL_get h5 h6 hm] at hx
    split at hx
    · exact ih i x h1 h2 (by rw [List.getElem?_eq_getElem h5]; exact hx)
    · split at hx
      · exact ih j x h3 h4 (by rw [List.getElem?_eq_getElem h6]; exact hx)
      · exact ih m x ma mb (by rw [List.getElem?_eq_getElem hm]; exact hx)
theorem PermIn.one {a b : Nat} {xs : List α} (i j : Nat) (h1 : a ≤ i) (h2 : i < b) (h3 : a ≤ j) (h4 : j < b) (h5 : i < xs.length) (h6 : j < xs.length) : PermIn a b xs (swapL xs i j) := .step i j (.refl _) h1 h2 h3 h4 h5 h6
end

/-- a strict weak order, as the comparison gives it -/
structure Swo {α : Type} (cf : α → α → Int) : Prop where
  irr : ∀ x, ¬ cf x x < 0
  trans : ∀ {x y z}, cf x y < 0 → cf y z < 0 → cf x z < 0
  ntrans : ∀ {x y z}, ¬ cf x y < 0 → ¬ cf y z < 0 → ¬ cf x z < 0
theorem Swo.asym {α : Type} {cf : α → α → Int} (s : Swo cf) {x y : α} (h : cf x y < 0) : ¬ cf y x < 0 := fun h' => s.irr x (s.trans h h')
section
variable {α : Type} [Inhabited α]
/-- an item -/
def el (xs : List α) (i : Nat) : α := xs[i]?.getD default
theorem el_get {xs : List α} {i : Nat} (h : i < xs.length) : el xs i = xs[i] := by simp [el, h]
theorem el_mem {xs : List α} {i : Nat} (h : i < xs.length) : el xs i ∈ xs := by rw [el_get h]; exact List.getElem_mem h
theorem el_swap {xs : List α} {i j : Nat} (hi : i < xs.length) (hj : j < xs.length) (m : Nat) : el (swapL xs i j) m = if m = j then el xs i else if m = i then el xs j else el xs m := by
  by_cases hm : m < xs.length
  · rw [el_get (by rw [swapL_len]; exact hm), swapL_get hi hj hm, el_get hi, el_get hj, el_get hm]
  · have h1 : m ≠ j := by omega
    have h2 : m ≠ i := by omega
    rw [if_neg h1, if_neg h2]
    simp [el, swapL_len, show xs.length ≤ m by omega]
theorem PermIn.elAll {a b : Nat} {xs ys : List α} (h : PermIn a b xs ys) (hb : b ≤ xs.length) {P : α → Prop} (hp : ∀ m, a ≤ m → m < b → P (el xs m)) : ∀ m, a ≤ m → m < b → P (el ys m) := by
  intro m ma mb
  have hl := h.length
  refine h.all (P := P) (fun m x h1 h2 h3 => ?_) m (el ys m) ma mb (by rw [el_get (by omega), List.getElem?_eq_getElem (by omega)])
  have := hp m h1 h2
  simpa [el, h3] using this
theorem PermIn.elOut {a b : Nat} {xs ys : List α} (h : PermIn a b xs ys) {m : Nat} (hm : m < a ∨ b ≤ m) : el ys m = el xs m := by simp only [el, h.out hm]
/-- sorted from a to b -/
def SortedAB (cf : α → α → Int) (a b : Nat) (xs : List α) : Prop := ∀ i j, a ≤ i → i < j → j < b → ¬ cf (el xs j) (el xs i) < 0
end

/-- a comparison that changes nothing -/
theorem ACalls.pureIn {P : Program} {f : FuncId} {args : List V} {G H : Heap} {x : V} (h : ACalls P f args G fun u H' => u = x ∧ H' = G) (hs : Heap.sub G H) : ACalls P f args H fun u H' => u = x ∧ H' = H := by
  refine (h.frameSub hs).mono ?_
  rintro v H' ⟨G2, ⟨rfl, rfl⟩, _, rfl⟩
  refine ⟨rfl, ?_⟩
  funext n
  cases e : G2 n with
  | some c =>
    rw [over_in (fun h => by rw [e] at h; cases h), e, hs n c e]
  | none =>
    cases e2 : H n with
    | some b => exact over_frame e e2
    | none => rw [over_in (fun _ => e2), e]

/-- what a sort is given: G holds what the comparison looks at, the row lies elsewhere -/
structure Cmp {α : Type} [Inhabited α] {k : Nat} {ag : Bool} (E : Elem α k ag) (G : Heap) (g : FuncId) (caps : List V) (cf : α → α → Int) (Pr : α → Prop) : Prop where
  swo : Swo cf
  call : ∀ x y, Pr x → Pr y → ACalls Try.prog g ([E.val x, E.val y] ++ caps) G fun u H' => u = .int .i64 (cf x y) ∧ H' = G
theorem Cmp.at {α : Type} [Inhabited α] {k : Nat} {ag : Bool} {E : Elem α k ag} {G H : Heap} {g : FuncId} {caps : List V} {cf : α → α → Int} {Pr : α → Prop} (C : Cmp E G g caps cf Pr) {xs : List α} (hP : ∀ x ∈ xs, Pr x) (hs : Heap.sub G H) {i j : Nat} (hi : i < xs.length) (hj : j < xs.length) :
    ACalls Try.prog g ([E.val xs[i], E.val xs[j]] ++ caps) H fun u H' => u = .int .i64 (cf (el xs i) (el xs j)) ∧ H' = H := by
  rw [el_get hi, el_get hj]
  exact (C.call _ _ (hP _ (List.getElem_mem hi)) (hP _ (List.getElem_mem hj))).pureIn hs
theorem PermIn.pr {α : Type} {a b : Nat} {xs ys : List α} (h : PermIn a b xs ys) {Pr : α → Prop} (hP : ∀ x ∈ xs, Pr x) : ∀ x ∈ ys, Pr x := fun x hx => hP x (h.perm.mem_iff.1 hx)
end Go.AM
