/- codewrightref47.Words, codewrightref11.SameLists. Conditions: as stated. -/
import Derived.Test.YtopeeknimehmcaaJ17
set_option linter.unusedVariables false
set_option linter.unusedSimpArgs false
namespace Go.AM
open Go Go.Proofs
attribute [local go_sem] c_skip c_ops c_seq c_ite c_blk c_exit c_ret t_normal t_exit t_ret b_normal b_exit b_ret i_nil i_cons s_guard s_mov s_pick s_new s_zero s_ld s_ldr s_st s_bin s_beq s_isnil s_eqs s_un s_conv s_fa s_fld s_ia s_sli s_ext s_ifc s_mkf s_agg s_len s_mm s_nilchk s_bsl s_mk s_app s_cpy s_call s_inv cells_agg cells_int cells_bool p_get p_none o_s o_c e_0 e_1 e_2 e_3 e_4 iteC_true iteC_false grd_tt grd_tf grd_ft grd_ff grd_und bindV_some pickV_t pickV_f beq_bool conv_int un_not not_dec mm_min mm_max bv_add bv_sub bv_mul bv_eql bv_neq bv_lss bv_leq bv_gtr bv_geq f_normal f_one f_two f_three f_none fa_ptr fld_one ext_tup len_sl len_nils decide_true decide_false not_true_eq_false not_false_eq_true List.map_cons List.map_nil List.append_nil List.cons_append List.nil_append Nat.zero_add Nat.add_zero Nat.mul_one Nat.succ_ne_self if_true if_false List.getElem?_cons_zero List.getElem?_cons_succ

/-- codewrightref47.Words -/
def F34 : AF := ⟨75, [(2, none)], (.seq (.ops [⟨none, false, (some 1), (.new (.s 0))⟩, ⟨none, false, (some 2), (.mov (.c .nils))⟩]) (.seq (.ops [⟨none, false, (some 11), (.bsl 1 0 [] [])⟩, ⟨none, false, (some 12), (.bsl 1 1 [.nils] [(0, (1, (.s 11)))])⟩, ⟨none, false, (some 3), (.mov (.s 12))⟩]) (.seq (.ops [⟨none, false, (some 13), (.bsl 1 1 [(.int .i64 (0))] [(0, (1, (.c (.int .i64 (0)))))])⟩, ⟨none, false, (some 4), (.mov (.s 13))⟩]) (.seq (.seq (.ops [⟨none, false, (some 5), (.mov (.c (.int .i64 (0))))⟩]) (.blk 0 (.loop (.seq (.seq (.ops [⟨none, false, (some 14), (.mov (.s 5))⟩, ⟨none, false, (some 15), (.fa 1 (.s 1))⟩, ⟨none, false, (some 16), (.ld false 1 (.s 15) none)⟩, ⟨none, false, (some 17), (.len (.s 16))⟩, ⟨none, false, (some 18), (.bin .lss (.s 14) (.s 17))⟩]) (.ite (.s 18) .skip (.exit 0))) (.seq (.blk 1 (.seq (.ops [⟨none, false, (some 21), (.bsl 1 0 [] [])⟩, ⟨none, false, (some 6), (.mov (.s 21))⟩]) (.seq (.ops [⟨none, false, (some 22), (.bsl 1 0 [] [])⟩, ⟨none, false, (some 7), (.mov (.s 22))⟩]) (.seq (.seq (.ops [⟨none, false, (some 8), (.mov (.c (.int .i64 (0))))⟩]) (.blk 2 (.loop (.seq (.seq (.ops [⟨none, false, (some 23), (.mov (.s 8))⟩, ⟨none, false, (some 24), (.mov (.s 3))⟩, ⟨none, false, (some 25), (.len (.s 24))⟩, ⟨none, false, (some 26), (.bin .lss (.s 23) (.s 25))⟩]) (.ite (.s 26) .skip (.exit 2))) (.seq (.blk 3 (.seq (.ops [⟨none, false, (some 9), (.mov (.c (.int .i64 (0))))⟩]) (.blk 4 (.loop (.seq (.seq (.ops [⟨none, false, (some 29), (.mov (.s 9))⟩, ⟨none, false, (some 30), (.fa 1 (.s 1))⟩, ⟨none, false, (some 31), (.ld false 1 (.s 30) none)⟩, ⟨none, false, (some 32), (.mov (.s 5))⟩, ⟨none, false, (some 33), (.ia 1 (.s 31) (.s 32))⟩, ⟨none, false, (some 34), (.ld false 1 (.s 33) none)⟩, ⟨none, false, (some 35), (.len (.s 34))⟩, ⟨none, false, (some 36), (.bin .lss (.s 29) (.s 35))⟩]) (.ite (.s 36) .skip (.exit 4))) (.seq (.blk 5 (.seq (.ops [⟨none, false, (some 39), (.fa 1 (.s 1))⟩, ⟨none, false, (some 40), (.ld false 1 (.s 39) none)⟩, ⟨none, false, (some 41), (.mov (.s 5))⟩, ⟨none, false, (some 42), (.ia 1 (.s 40) (.s 41))⟩, ⟨none, false, (some 43), (.ld false 1 (.s 42) none)⟩, ⟨none, false, (some 44), (.mov (.s 9))⟩, ⟨none, false, (some 45), (.ia 3 (.s 43) (.s 44))⟩, ⟨none, false, (some 46), (.ld true 3 (.s 45) none)⟩, ⟨none, false, (some 10), (.zero [(.int .i64 (0)), (.int .i64 (0)), (.int .i64 (0))])⟩, ⟨none, false, none, (.st 3 (.s 10) (.s 46) [])⟩]) (.seq (.ops [⟨none, false, (some 47), (.fa 0 (.s 10))⟩, ⟨none, false, (some 49), (.mov (.s 4))⟩, ⟨none, false, (some 50), (.mov (.s 8))⟩, ⟨none, false, (some 51), (.ia 1 (.s 49) (.s 50))⟩, ⟨none, false, (some 48), (.ld false 1 (.s 47) none)⟩, ⟨none, false, (some 52), (.ld false 1 (.s 51) none)⟩, ⟨none, false, (some 53), (.bin .eql (.s 48) (.s 52))⟩]) (.ite (.s 53) (.seq (.ops [⟨none, false, (some 54), (.mov (.s 6))⟩, ⟨none, false, (some 56), (.mov (.s 3))⟩, ⟨none, false, (some 57), (.mov (.s 8))⟩, ⟨none, false, (some 58), (.ia 1 (.s 56) (.s 57))⟩, ⟨none, false, (some 61), (.fa 1 (.s 10))⟩, ⟨none, false, (some 59), (.ld false 1 (.s 58) none)⟩, ⟨none, false, (some 62), (.ld false 1 (.s 61) (some 10))⟩, ⟨none, false, (some 55), (.bsl 1 0 [] [])⟩, ⟨none, false, (some 60), (.app 1 8 (.s 55) (.s 59) [10])⟩, ⟨none, false, (some 63), (.bsl 1 1 [(.int .i64 (0))] [(0, (1, (.s 62)))])⟩, ⟨none, false, (some 64), (.app 1 8 (.s 60) (.s 63) [])⟩, ⟨none, false, (some 65), (.bsl 1 1 [.nils] [(0, (1, (.s 64)))])⟩, ⟨none, false, (some 66), (.app 1 24 (.s 54) (.s 65) [])⟩, ⟨none, false, (some 6), (.mov (.s 66))⟩]) (.ops [⟨none, false, (some 67), (.mov (.s 7))⟩, ⟨none, false, (some 68), (.fa 2 (.s 10))⟩, ⟨none, false, (some 69), (.ld false 1 (.s 68) none)⟩, ⟨none, false, (some 70), (.bsl 1 1 [(.int .i64 (0))] [(0, (1, (.s 69)))])⟩, ⟨none, false, (some 71), (.app 1 8 (.s 67) (.s 70) [])⟩, ⟨none, false, (some 7), (.mov (.s 71))⟩])) .skip)))) (.ops [⟨none, false, (some 37), (.mov (.s 9))⟩, ⟨none, false, (some 38), (.bin .add (.s 37) (.c (.int .i64 (1))))⟩, ⟨none, false, (some 9), (.mov (.s 38))⟩]))))))) (.ops [⟨none, false, (some 27), (.mov (.s 8))⟩, ⟨none, false, (some 28), (.bin .add (.s 27) (.c (.int .i64 (1))))⟩, ⟨none, false, (some 8), (.mov (.s 28))⟩])))))) (.seq (.ops [⟨none, false, (some 72), (.mov (.s 6))⟩, ⟨none, false, (some 3), (.mov (.s 72))⟩]) (.ops [⟨none, false, (some 73), (.mov (.s 7))⟩, ⟨none, false, (some 4), (.mov (.s 73))⟩])))))) (.ops [⟨none, false, (some 19), (.mov (.s 5))⟩, ⟨none, false, (some 20), (.bin .add (.s 19) (.c (.int .i64 (1))))⟩, ⟨none, false, (some 5), (.mov (.s 20))⟩])))))) (.seq (.ops [⟨none, false, (some 74), (.mov (.s 3))⟩, ⟨none, false, (some 2), (.mov (.s 74))⟩]) .ret)))))⟩
theorem cv34 : cvF Try.prog 34 = some F34 := by kernel_rfl

/-- codewrightref11.SameLists -/
def F33 : AF := ⟨27, [(4, none)], (.seq (.ops [⟨none, false, (some 4), (.mov (.c (.bool false)))⟩]) (.seq (.seq (.ops [⟨none, false, (some 6), (.mov (.s 0))⟩, ⟨none, false, (some 7), (.len (.s 6))⟩, ⟨none, false, (some 8), (.mov (.s 1))⟩, ⟨none, false, (some 9), (.len (.s 8))⟩, ⟨none, false, (some 10), (.bin .neq (.s 7) (.s 9))⟩]) (.ite (.s 10) (.seq (.ops [⟨none, false, (some 4), (.mov (.c (.bool false)))⟩]) .ret) .skip)) (.seq (.seq (.ops [⟨none, false, (some 5), (.mov (.c (.int .i64 (0))))⟩]) (.blk 0 (.loop (.seq (.seq (.ops [⟨none, false, (some 11), (.mov (.s 5))⟩, ⟨none, false, (some 12), (.mov (.s 0))⟩, ⟨none, false, (some 13), (.len (.s 12))⟩, ⟨none, false, (some 14), (.bin .lss (.s 11) (.s 13))⟩]) (.ite (.s 14) .skip (.exit 0))) (.seq (.blk 1 (.seq (.ops [⟨none, false, (some 17), (.mov (.s 0))⟩, ⟨none, false, (some 18), (.mov (.s 5))⟩, ⟨none, false, (some 19), (.ia 1 (.s 17) (.s 18))⟩, ⟨none, false, (some 21), (.mov (.s 1))⟩, ⟨none, false, (some 22), (.mov (.s 5))⟩, ⟨none, false, (some 23), (.ia 1 (.s 21) (.s 22))⟩, ⟨none, false, (some 20), (.ld false 1 (.s 19) none)⟩, ⟨none, false, (some 24), (.ld false 1 (.s 23) none)⟩, ⟨none, false, (some 25), (.call (.c (.fn 46 [])) [(.s 20), (.s 24)])⟩, ⟨none, false, (some 26), (.bin .neq (.s 25) (.c (.int .i64 (0))))⟩]) (.ite (.s 26) (.seq (.ops [⟨none, false, (some 4), (.mov (.c (.bool false)))⟩]) .ret) .skip))) (.ops [⟨none, false, (some 15), (.mov (.s 5))⟩, ⟨none, false, (some 16), (.bin .add (.s 15) (.c (.int .i64 (1))))⟩, ⟨none, false, (some 5), (.mov (.s 16))⟩])))))) (.seq (.ops [⟨none, false, (some 4), (.mov (.c (.bool true)))⟩]) .ret))))⟩
theorem cv33 : cvF Try.prog 33 = some F33 := by kernel_rfl


theorem rSameLists_spec {av bv : V} {xs ys : List (List Int)} {H : Heap} (ha : SRows H av xs) (hb : SRows H bv ys) : ACalls Try.prog 33 [av, bv] H fun u H' => u = .bool (decide (xs = ys)) ∧ H' = H := by
  refine ACalls.of_body hm cv33 (by simp only [List.length_cons, List.length_nil]; decide) ?_
  have hlx := SLists.lt ha
  simp only [F33, go_sem, ↓reduceIte, Nat.reduceEqDiff, Nat.reduceAdd, reduceCtorEq, SLists.len ha, SLists.len hb]
  have no : xs ≠ ys → finO (.bool false) H fun u H' => u = .bool (decide (xs = ys)) ∧ H' = H := fun h => finO_self ⟨by simp [h], rfl⟩
  refine iteC_if (fun c => ?_) (fun c => ?_)
  · simp only [go_sem, ↓reduceIte, Nat.reduceEqDiff, Nat.reduceAdd, reduceCtorEq]
    exact no fun e => by subst e; omega
  have hl : xs.length = ys.length := by omega
  simp only [go_sem, ↓reduceIte, Nat.reduceEqDiff, Nat.reduceAdd, reduceCtorEq]
  refine loop_count xs.length (fun k env H' => H = H' ∧ env 0 = av ∧ env 1 = bv ∧ env 5 = .int .i64 k ∧ ∀ i, (h : i < xs.length) → i < k → xs[i] = ys[i]'(by omega)) ?_ ?_ ?_
  · simp only [go_sem, ↓reduceIte, Nat.reduceEqDiff, Nat.reduceAdd, reduceCtorEq]; simp
  · rintro k env H' hk ⟨rfl, h0, h1, h5, hz⟩
    have hk' : (k : Int) < xs.length := by omega
    obtain ⟨p, u1, a1, a2, a3⟩ := ha.get hk .i64
    obtain ⟨q, u2, b1, b2, b3⟩ := hb.get (k := k) (by omega) .i64
    simp only [go_sem, ↓reduceIte, Nat.reduceEqDiff, Nat.reduceAdd, reduceCtorEq, h0, h1, h5, SLists.len ha, hk', a1, a2, b1, b2]
    refine callC_any (rCompare_spec a3 b3) ?_
    rintro u H' ⟨⟨n, rfl, hn⟩, rfl⟩
    simp only [go_sem, ↓reduceIte, Nat.reduceEqDiff, Nat.reduceAdd, reduceCtorEq]
    refine iteC_if (fun d => ?_) (fun d => ?_)
    · simp only [go_sem, ↓reduceIte, Nat.reduceEqDiff, Nat.reduceAdd, reduceCtorEq]
      exact no fun e => by subst e; exact d (hn.2 rfl)
    simp only [go_sem, ↓reduceIte, Nat.reduceEqDiff, Nat.reduceAdd, reduceCtorEq, h0, h1, h5]
    rw [wrapN1 (by omega)]
    refine ⟨by trivial, by trivial, by trivial, by trivial, fun i h hi => ?_⟩
    rcases Nat.lt_succ_iff_lt_or_eq.1 hi with hi | rfl
    · exact hz i h hi
    · exact hn.1 (Classical.byContradiction d)
  · rintro env H' ⟨rfl, h0, h1, h5, hz⟩
    simp only [go_sem, ↓reduceIte, Nat.reduceEqDiff, Nat.reduceAdd, reduceCtorEq, h0, h1, h5, SLists.len ha, Int.lt_irrefl]
    have e : xs = ys := List.ext_getElem hl fun i h h' => hz i h h
    exact finO_self ⟨by simp [e], rfl⟩

/-- a slice of one's own that grows; G: what stays -/
def Grown (G H : Heap) (u : V) (cs : List V) : Prop :=
  (∃ n own, u = .sl n 0 0 true ∧ G n = none ∧ H n = some ⟨own, 1, []⟩ ∧ cs = []) ∨ ∃ n, u = .sl n 0 cs.length false ∧ G n = none ∧ H n = some ⟨true, 1, cs⟩
theorem Grown.grow {G H H' : Heap} {u : V} {cs : List V} (g : Grown G H u cs) (hs : Heap.sub H H') : Grown G H' u cs := by
  rcases g with ⟨n, own, a, b, c, d⟩ | ⟨n, a, b, c⟩
  · exact .inl ⟨n, own, a, b, hs _ _ c, d⟩
  · exact .inr ⟨n, a, b, hs _ _ c⟩
theorem Grown.name {G H : Heap} {u : V} {cs : List V} (g : Grown G H u cs) : ∃ n l f, u = .sl n 0 l f ∧ l = cs.length ∧ G n = none ∧ H n ≠ none := by
  rcases g with ⟨n, own, a, b, c, d⟩ | ⟨n, a, b, c⟩
  · exact ⟨n, 0, true, a, by rw [d]; rfl, b, by rw [c]; simp⟩
  · exact ⟨n, _, false, a, rfl, b, by rw [c]; simp⟩
theorem Grown.sl {G H : Heap} {u : V} {cs : List V} (g : Grown G H u cs) (hl : cs.length ≤ 281474976710656) : Sl H u 1 cs.length cs := by
  rcases g with ⟨n, own, rfl, b, c, rfl⟩ | ⟨n, rfl, b, c⟩
  · exact sl_block c (by simp) (by omega)
  · exact sl_block c (by omega) (by omega)
theorem appC_grown {G H : Heap} {env : Env} {d : Option Nat} {K : Env → Heap → Prop} {u v : V} {cs : List V} {xb bytes : Nat} {own f : Bool} (g : Grown G H u cs) (hx : H xb = some ⟨own, 1, [v]⟩) (hb : (cs.length + 1) * bytes ≤ 140737488355328) (hb2 : cs.length + 1 ≤ 140737488355328)
    (hk : ∀ m H', H m = none → H' m = some ⟨true, 1, cs ++ [v]⟩ → (∀ q, q ≠ m → (∀ n o l f, u = .sl n o l f → q ≠ n) → H' q = H q) → K (env.put d (.sl m 0 (cs.length + 1) false)) H') : appC H env 1 bytes u (.sl xb 0 1 f) [] d K := by
  have hc : cellsAt H 1 (.sl xb 0 1 f) = some [v] := by simp [cellsAt, hx]
  have h1 : lenV (.sl xb 0 1 f) = 1 := rfl
  unfold appC
  rw [hc, h1]
  rcases g with ⟨n, own', rfl, b, c, rfl⟩ | ⟨n, rfl, b, c⟩
  · have h0 : lenV (.sl n 0 0 true) = 0 := rfl
    rw [h0]
    refine ⟨by simpa using hb, by simp, ?_⟩
    rw [if_neg (by decide)]
    simp only [c]
    refine ⟨trivial, ?_⟩
    simp only [if_true]
    refine ⟨by simp, fun m hm => ?_⟩
    exact hk m _ hm (by simp [Heap.upd]) fun q h1 _ => by simp [Heap.upd, h1]
  · have h0 : lenV (.sl n 0 cs.length false) = cs.length := rfl
    rw [h0]
    refine ⟨hb, hb2, ?_⟩
    rw [if_neg (by decide)]
    simp only [c]
    refine ⟨trivial, ?_⟩
    simp only [Bool.false_eq_true, if_false]
    refine ⟨trivial, trivial, trivial, by omega, fun m hm => ?_⟩
    refine hk m _ hm (by simp [Heap.upd]) fun q h1 h2 => ?_
    have := h2 n 0 _ false rfl
    simp [Heap.upd, h1, this]

/-- the state while a level of words is made -/
structure RSt (G H : Heap) (lv nv : V) (us : List V) (cur : List (List Int × Int)) : Prop where
  gh : Heap.sub G H
  lo : Grown G H lv us
  nx : Grown G H nv (ints (cur.map (·.2)))
  apart : ∀ n o l f n' o' l' f', lv = V.sl n o l f → nv = V.sl n' o' l' f' → n ≠ n'
  len : us.length = cur.length
  each : ∀ i, (h : i < us.length) → SInts G us[i] (cur[i]'(by omega)).1
theorem RSt.grow {G H H' : Heap} {lv nv : V} {us : List V} {cur : List (List Int × Int)} (s : RSt G H lv nv us cur) (hs : Heap.sub H H') : RSt G H' lv nv us cur :=
  ⟨s.gh.trans' hs, s.lo.grow hs, s.nx.grow hs, s.apart, s.len, s.each⟩

theorem pre_mono {ws : List Int} {es : List (List Ed)} (sh : Shaped ws es) (w0 : ws[0]?.getD 0 = 1) (hgood : ∀ i, (h : i < es.length) → GoodSec (ws[i]?.getD 0) (ws[i+1]?.getD 0) es[i]) {i : Nat} (hi : i < es.length) : (pre es i).length ≤ (pre es (i+1)).length := by
  have h : ∀ p ∈ pre es i, 1 ≤ (fromI es[i] p.2).length := by
    intro p hp
    have hr : 0 ≤ p.2 ∧ p.2 < ws[i]?.getD 0 := by
      rcases pre_end sh i (by omega) p hp with ⟨rfl, h⟩ | h
      · rw [w0, h]; decide
      · exact h
    obtain ⟨e, he, h⟩ := (hgood i hi).out p.2 hr.1 hr.2
    have : e ∈ fromI es[i] p.2 := List.mem_filter.2 ⟨he, by simpa using h⟩
    exact List.length_pos_of_mem this
  rw [pre]
  simp only [hi, List.getElem?_eq_getElem, Option.getD_some]
  generalize pre es i = l at h
  induction l with
  | nil => simp
  | cons p r ih =>
    have h1 := h p (List.mem_cons_self ..)
    have := ih fun q hq => h q (List.mem_cons_of_mem _ hq)
    simp only [List.flatMap_cons, List.length_append, List.length_map, List.length_cons]
    omega
theorem pre_bound {ws : List Int} {es : List (List Ed)} (sh : Shaped ws es) (w0 : ws[0]?.getD 0 = 1) (hgood : ∀ i, (h : i < es.length) → GoodSec (ws[i]?.getD 0) (ws[i+1]?.getD 0) es[i]) {i : Nat} (hi : i ≤ es.length) : (pre es i).length ≤ (suf es es.length 0).length := by
  rw [← pre_all, List.length_map]
  obtain ⟨d, hd⟩ : ∃ d, es.length = i + d := ⟨es.length - i, by omega⟩
  have : ∀ d, i + d ≤ es.length → (pre es i).length ≤ (pre es (i + d)).length := by
    intro d
    induction d with
    | zero => intro _; exact Nat.le_refl _
    | succ d ih =>
      intro h
      have h1 := ih (by omega)
      have h2 := pre_mono sh w0 hgood (i := i + d) (by omega)
      have e : i + (d + 1) = i + d + 1 := rfl
      rw [e]; omega
  have := this d (by omega)
  rw [← hd] at this
  exact this
/-- what is there behind k words and j edges of the next one -/
def curW (l : List (List Int × Int)) (es : List Ed) (k j : Nat) : List (List Int × Int) := preJ (l.take k) es ++ match l[k]? with
  | some p => (fromI (es.take j) p.2).map fun e => (p.1 ++ [e.lb], e.to)
  | none => []
theorem curW_full {l : List (List Int × Int)} {es : List Ed} {k : Nat} (h : k < l.length) : curW l es k es.length = curW l es (k+1) 0 := by
  unfold curW
  have e1 : preJ (l.take (k+1)) es = preJ (l.take k) es ++ (fromI es l[k].2).map fun e => (l[k].1 ++ [e.lb], e.to) := by
    rw [preJ, List.take_add_one, List.getElem?_eq_getElem h, List.flatMap_append]
    simp [preJ]
  rw [e1, List.getElem?_eq_getElem h, List.take_length]
  cases l[k+1]? <;> simp [fromI]
theorem curW_end {l : List (List Int × Int)} {es : List Ed} : curW l es l.length 0 = preJ l es := by simp [curW]
theorem fromI_snoc {es : List Ed} {j : Nat} {v : Int} (hj : j < es.length) : fromI (es.take (j+1)) v = fromI (es.take j) v ++ if es[j].fr = v then [es[j]] else [] := by
  unfold fromI
  rw [List.take_add_one, List.getElem?_eq_getElem hj, Option.toList_some, List.filter_append]
  congr 1
  by_cases c : es[j].fr = v
  · simp [c]
  · simp [c]
theorem curW_skip {l : List (List Int × Int)} {es : List Ed} {k j : Nat} (h : k < l.length) (hj : j < es.length) (c : es[j].fr ≠ l[k].2) : curW l es k (j+1) = curW l es k j := by
  unfold curW
  rw [List.getElem?_eq_getElem h]
  simp only [fromI_snoc hj, if_neg c, List.append_nil]
theorem curW_step {l : List (List Int × Int)} {es : List Ed} {k j : Nat} (h : k < l.length) (hj : j < es.length) (c : es[j].fr = l[k].2) : curW l es k (j+1) = curW l es k j ++ [(l[k].1 ++ [es[j].lb], es[j].to)] := by
  unfold curW
  rw [List.getElem?_eq_getElem h]
  simp only [fromI_snoc hj, if_pos c, List.map_append, List.map_cons, List.map_nil, List.append_assoc]
theorem curW_len {l : List (List Int × Int)} {es : List Ed} {k j : Nat} (h : k < l.length) : (curW l es k j).length ≤ (preJ l es).length := by
  have h1 : (curW l es k j).length ≤ (curW l es k es.length).length := by
    unfold curW
    rw [List.getElem?_eq_getElem h, List.take_length]
    simp only [List.length_append, List.length_map]
    have := ((List.take_sublist j es).filter fun e => decide (e.fr = l[k].2)).length_le
    simp only [fromI]
    omega
  rw [curW_full h] at h1
  have h2 : (preJ l es).length = (preJ (l.take (k+1)) es).length + (preJ (l.drop (k+1)) es).length := by
    conv => lhs; rw [← List.take_append_drop (k+1) l]
    simp only [preJ, List.flatMap_append, List.length_append]
  have h3 : (curW l es (k+1) 0).length = (preJ (l.take (k+1)) es).length := by
    unfold curW
    cases l[k+1]? <;> simp [fromI]
  omega

theorem pre_wl (es : List (List Ed)) : ∀ i, ∀ p ∈ pre es i, p.1.length = i
  | 0, p, hp => by
    have : p = ([], 0) := by simpa [pre] using hp
    subst this; rfl
  | i+1, p, hp => by
    rw [pre, List.mem_flatMap] at hp
    obtain ⟨q, hq, hp⟩ := hp
    rw [List.mem_map] at hp
    obtain ⟨e, he, rfl⟩ := hp
    have := pre_wl es i q hq
    simp [this]
theorem Grown.off {G H H' : Heap} {u : V} {cs : List V} (g : Grown G H u cs) (h : ∀ q o l f, u = .sl q o l f → H' q = H q) : Grown G H' u cs := by
  rcases g with ⟨n, own, a, b, c, d⟩ | ⟨n, a, b, c⟩
  · exact .inl ⟨n, own, a, b, by rw [h _ _ _ _ a]; exact c, d⟩
  · exact .inr ⟨n, a, b, by rw [h _ _ _ _ a]; exact c⟩

theorem rWords_spec {sv ev : V} {ws : List Int} {es : List (List Ed)} {H : Heap} (hs : SInts H sv ws) (he : SSecs H ev es) (hp : properI ws es = 0) (hb : pathsI es ≤ 65536) : ACalls Try.prog 34 [.agg [sv, ev]] H fun u H' => Heap.sub H H' ∧ SRows H' u (suf es es.length 0) := by
  refine ACalls.of_body hm cv34 (by simp only [List.length_cons, List.length_nil]; decide) ?_
  obtain ⟨h0, w0, wl, hgood⟩ := proper_of hp
  have sh := shaped_of h0
  have hn := sh.n
  have hpl := paths_len sh wl
  simp only [F34, go_sem, ↓reduceIte, Nat.reduceEqDiff, Nat.reduceAdd, reduceCtorEq]
  refine newC_intro fun b1 H1 hn1 hs1 hb1 => ?_
  simp only [go_sem, ↓reduceIte, Nat.reduceEqDiff, Nat.reduceAdd, reduceCtorEq, fillV, List.length_cons, List.length_nil, splice, Nat.reduceLeDiff, Nat.zero_lt_one, and_self, List.take_zero, List.take_succ_cons, List.drop_succ_cons, List.drop_zero, List.drop_nil, Nat.reduceLT, Nat.le_refl]
  refine newC_intro fun e0 H2 hn2 hs2 hbe0 => ?_
  simp only [go_sem, ↓reduceIte, Nat.reduceEqDiff, Nat.reduceAdd, reduceCtorEq, fillV, List.length_cons, List.length_nil, splice, Nat.reduceLeDiff, Nat.zero_lt_one, and_self, List.take_zero, List.take_succ_cons, List.drop_succ_cons, List.drop_zero, List.drop_nil, Nat.reduceLT, Nat.le_refl, show V.cells (V.sl e0 0 0 true) = [V.sl e0 0 0 true] from rfl]
  refine newC_intro fun e1 H3 hn3 hs3 hbe1 => ?_
  simp only [go_sem, ↓reduceIte, Nat.reduceEqDiff, Nat.reduceAdd, reduceCtorEq, fillV, List.length_cons, List.length_nil, splice, Nat.reduceLeDiff, Nat.zero_lt_one, and_self, List.take_zero, List.take_succ_cons, List.drop_succ_cons, List.drop_zero, List.drop_nil, Nat.reduceLT, Nat.le_refl]
  refine newC_intro fun e2 H4 hn4 hs4 hbe2 => ?_
  have hs13 := hs2.trans' hs3
  have hs14 := hs13.trans' hs4
  have he1 := SSecs.mono he hs1
  simp only [go_sem, ↓reduceIte, Nat.reduceEqDiff, Nat.reduceAdd, reduceCtorEq]
  refine loop_count es.length (fun i env H' => Heap.sub H1 H' ∧ env 1 = .ptr b1 0 ∧ env 5 = .int .i64 i ∧ ∃ wv av, env 3 = wv ∧ env 4 = av ∧ SRows H' wv ((pre es i).map (·.1)) ∧ SInts H' av ((pre es i).map (·.2))) ?_ ?_ ?_
  · simp only [go_sem, ↓reduceIte, Nat.reduceEqDiff, Nat.reduceAdd, reduceCtorEq]
    refine ⟨hs14, by trivial, rfl, _, _, rfl, rfl, ⟨[.sl e0 0 0 true], ?_, fun i hi => ?_⟩, ?_⟩
    · exact sl_block (hs4 _ _ hbe1) rfl (by decide)
    · obtain rfl : i = 0 := by simp [pre] at hi; omega
      refine ⟨_, rfl, ?_⟩
      show SInts H4 _ []
      exact sl_block (hs4 _ _ (hs3 _ _ hbe0)) rfl (by decide)
    · exact sl_block hbe2 rfl (by decide)
  · rintro i env H5 hi ⟨hs5, h1, h5, wv, av, h3, h4, hw, ha⟩
    have hlti : (i : Int) < es.length := by omega
    have hlk := sh.each i hi
    obtain ⟨l, hle⟩ : ∃ l, l = pre es i := ⟨_, rfl⟩
    rw [← hle] at hw ha
    have hprei : pre es (i+1) = preJ l es[i] := by rw [pre, ← hle]; simp [hi, preJ]
    have hlb : l.length ≤ 65536 := by
      have := pre_bound sh w0 hgood (i := i) (by omega)
      rw [hle]; omega
    have hnb : (preJ l es[i]).length ≤ 65536 := by
      have := pre_bound sh w0 hgood (i := i+1) (by omega)
      rw [hprei] at this
      omega
    have hlw : (l.map (·.1)).length = l.length := by simp
    have hla : (l.map (·.2)).length = l.length := by simp
    simp only [go_sem, ↓reduceIte, Nat.reduceEqDiff, Nat.reduceAdd, reduceCtorEq, h1, h3, h4, h5, ld_box (hs5 _ _ hb1), SLists.len (SSecs.mono he1 hs5), hlti, fillV, List.length_cons, List.length_nil, splice, Nat.reduceLeDiff, Nat.zero_lt_one, and_self, List.take_zero, List.take_succ_cons, List.drop_succ_cons, List.drop_zero, List.drop_nil, Nat.reduceLT, Nat.le_refl]
    refine newC_intro fun e6 H6 hn6 hs6 hb6 => ?_
    simp only [go_sem, ↓reduceIte, Nat.reduceEqDiff, Nat.reduceAdd, reduceCtorEq, fillV, List.length_cons, List.length_nil, splice, Nat.reduceLeDiff, Nat.zero_lt_one, and_self, List.take_zero, List.take_succ_cons, List.drop_succ_cons, List.drop_zero, List.drop_nil, Nat.reduceLT, Nat.le_refl]
    refine newC_intro fun e7 H7 hn7 hs7 hb7 => ?_
    simp only [go_sem, ↓reduceIte, Nat.reduceEqDiff, Nat.reduceAdd, reduceCtorEq, h1, h3, h4, h5]
    have h67 : e6 ≠ e7 := by rintro rfl; rw [hb6] at hn7; cases hn7
    have rst0 : RSt H5 H7 (.sl e6 0 0 true) (.sl e7 0 0 true) [] (curW l es[i] 0 0) := by
      have e : curW l es[i] 0 0 = [] := by unfold curW; cases l[0]? <;> simp [preJ, fromI]
      rw [e]
      exact ⟨hs6.trans' hs7, .inl ⟨e6, _, rfl, hn6, hs7 _ _ hb6, rfl⟩, .inl ⟨e7, _, rfl, hs6.none' hn7, hb7, rfl⟩, by rintro n o l f n' o' l' f' ⟨⟩ ⟨⟩; exact h67, rfl, fun i h => by simp at h⟩
    refine blk_join (fun env H' => Heap.sub H1 H' ∧ env 1 = .ptr b1 0 ∧ env 5 = .int .i64 i ∧ ∃ lv nv us G, env 6 = lv ∧ env 7 = nv ∧ RSt G H' lv nv us (preJ l es[i])) ?_ ?_
    · refine loop_count l.length (fun k env H' => env 1 = .ptr b1 0 ∧ env 3 = wv ∧ env 4 = av ∧ env 5 = .int .i64 i ∧ env 8 = .int .i64 k ∧ ∃ lv nv us G, env 6 = lv ∧ env 7 = nv ∧ Heap.sub H5 G ∧ RSt G H' lv nv us (curW l es[i] k 0)) ?_ ?_ ?_
      · simp only [go_sem, ↓reduceIte, Nat.reduceEqDiff, Nat.reduceAdd, reduceCtorEq, h1, h3, h4, h5]
        exact ⟨by trivial, by trivial, by trivial, by trivial, rfl, _, _, _, H5, by trivial, by trivial, Heap.sub.rfl', rst0⟩
      · rintro k env H8 hk ⟨h1, h3, h4, h5, h8, lv, nv, us, G, h6, h7, hg, rst⟩
        have hltk : (k : Int) < (l.map (·.1)).length := by omega
        have hs58 := hg.trans' rst.gh
        simp only [go_sem, ↓reduceIte, Nat.reduceEqDiff, Nat.reduceAdd, reduceCtorEq, h1, h3, h4, h5, h6, h7, h8, SLists.len (SRows.mono hw hs58), hltk]
        refine loop_count es[i].length (fun j env H' => env 1 = .ptr b1 0 ∧ env 3 = wv ∧ env 4 = av ∧ env 5 = .int .i64 i ∧ env 8 = .int .i64 k ∧ env 9 = .int .i64 j ∧ ∃ lv nv us G, env 6 = lv ∧ env 7 = nv ∧ Heap.sub H5 G ∧ RSt G H' lv nv us (curW l es[i] k j)) ?_ ?_ ?_
        · simp only [go_sem, ↓reduceIte, Nat.reduceEqDiff, Nat.reduceAdd, reduceCtorEq, h1, h3, h4, h5, h6, h7, h8]
          exact ⟨by trivial, by trivial, by trivial, by trivial, by trivial, rfl, lv, nv, us, G, by trivial, by trivial, hg, rst⟩
        · rintro j env H9 hj ⟨h1, h3, h4, h5, h8, h9, lv, nv, us, G, h6, h7, hg, rst⟩
          have hltj : (j : Int) < es[i].length := by omega
          have hs59 := hg.trans' rst.gh
          have hs19 := hs5.trans' hs59
          obtain ⟨p', ue, d1, d2, d3⟩ := (SSecs.mono he1 hs19).get hi .i64
          obtain ⟨p, q0, q1, q2, c1, c2, _⟩ := d3.get hj .i64
          obtain ⟨pa, x1, x2⟩ := (ha.mono hs59).get (k := k) (by omega) .i64
          rw [List.getElem_map] at x2
          simp only [go_sem, ↓reduceIte, Nat.reduceEqDiff, Nat.reduceAdd, reduceCtorEq, h1, h3, h4, h5, h6, h7, h8, h9, ld_box (hs19 _ _ hb1), d1, d2, d3.len, hltj, c1, c2]
          refine newC_intro fun n10 Ha hna hsa hba => ?_
          simp only [go_sem, ↓reduceIte, Nat.reduceEqDiff, Nat.reduceAdd, reduceCtorEq]
          refine stC_intro hba trivial rfl (by decide) (by decide) fun Hb hbb hfb hsb => ?_
          simp only [Ed.cells, fillV, List.length_cons, List.length_nil, splice, Nat.reduceLeDiff, Nat.zero_lt_one, and_self, List.take_zero, List.take_succ_cons, List.drop_succ_cons, List.drop_zero, List.drop_nil, Nat.reduceLT, Nat.le_refl, go_sem, ↓reduceIte, Nat.reduceEqDiff, Nat.reduceAdd, reduceCtorEq] at hbb
          have hs9b : Heap.sub H9 Hb := hsb H9 hsa hna
          have rb := rst.grow hs9b
          simp only [go_sem, ↓reduceIte, Nat.reduceEqDiff, Nat.reduceAdd, reduceCtorEq, h1, h3, h4, h5, h6, h7, h8, h9, ld_box hbb, x1, ld_mono hs9b x2]
          refine iteC_if (fun c => ?_) (fun c => ?_)
          · obtain ⟨pw, ru, y1, y2, y3⟩ := (SRows.mono hw hs59).get (k := k) (by omega) .i64
            rw [List.getElem_map] at y3
            obtain ⟨wk, hwk⟩ : ∃ wk, wk = l[k].1 := ⟨_, rfl⟩
            rw [← hwk] at y3
            have hwl : wk.length = i := by rw [hwk]; exact pre_wl es i _ (by rw [← hle]; exact List.getElem_mem hk)
            have hcl := curW_len (es := es[i]) (j := j) hk
            have hul := rst.len
            simp only [go_sem, ↓reduceIte, Nat.reduceEqDiff, Nat.reduceAdd, reduceCtorEq, h1, h3, h4, h5, h6, h7, h8, h9, y1, ld_mono hs9b y2, ld_box hbb, fillV, List.length_cons, List.length_nil, splice, Nat.reduceLeDiff, Nat.zero_lt_one, and_self, List.take_zero, List.take_succ_cons, List.drop_succ_cons, List.drop_zero, List.drop_nil, Nat.reduceLT, Nat.le_refl]
            refine ⟨by simp [sameName], ?_⟩
            refine newC_intro fun n55 Hc hnc hsc hbc => ?_
            simp only [go_sem, ↓reduceIte, Nat.reduceEqDiff, Nat.reduceAdd, reduceCtorEq]
            have h1055 : n10 ≠ n55 := by rintro rfl; rw [hbb] at hnc; cases hnc
            have y3' : Sl Hc ru 1 wk.length (ints wk) := y3.mono (hs9b.trans' hsc)
            refine appC_emptyB hbc ⟨by simp only [go_sem, ↓reduceIte, Nat.reduceEqDiff, Nat.reduceAdd, reduceCtorEq]; exact h1055, trivial⟩ y3' (by omega) (by omega) fun m60 f60 Hd hsd hdd => ?_
            have gr60 : Grown Hb Hd (.sl m60 0 wk.length f60) (ints wk) := by
              rcases hdd with ⟨rfl, _, rfl, hl0, hc0, rfl⟩ | ⟨hm, rfl, hmb⟩
              · exact .inl ⟨m60, true, by rw [hl0], hnc, hbc, hc0⟩
              · exact .inr ⟨m60, by rw [ints_len], hsc.none' hm, hmb⟩
            simp only [go_sem, ↓reduceIte, Nat.reduceEqDiff, Nat.reduceAdd, reduceCtorEq, fillV, List.length_cons, List.length_nil, splice, Nat.reduceLeDiff, Nat.zero_lt_one, and_self, List.take_zero, List.take_succ_cons, List.drop_succ_cons, List.drop_zero, List.drop_nil, Nat.reduceLT, Nat.le_refl]
            refine newC_intro fun x63 He hne hse hbe => ?_
            simp only [go_sem, ↓reduceIte, Nat.reduceEqDiff, Nat.reduceAdd, reduceCtorEq]
            refine appC_grown (gr60.grow hse) hbe (by rw [ints_len]; omega) (by rw [ints_len]; omega) fun m64 Hf hm64 hb64 hff => ?_
            have hbe' := hsc.trans' (hsd.trans' hse)
            have hb60 : Hb m60 = none := by
              obtain ⟨n, _, _, e, _, hg', _⟩ := gr60.name
              have : m60 = n := by injection e
              rw [this]; exact hg'
            have hbf : Heap.sub Hb Hf := fun q b hq => by
              have r1 : q ≠ m64 := by rintro rfl; rw [hbe' _ _ hq] at hm64; cases hm64
              rw [hff q r1 fun n o l f e => by injection e with e; subst e; rintro rfl; rw [hb60] at hq; cases hq]
              exact hbe' _ _ hq
            simp only [go_sem, ↓reduceIte, Nat.reduceEqDiff, Nat.reduceAdd, reduceCtorEq, fillV, List.length_cons, List.length_nil, splice, Nat.reduceLeDiff, Nat.zero_lt_one, and_self, List.take_zero, List.take_succ_cons, List.drop_succ_cons, List.drop_zero, List.drop_nil, Nat.reduceLT, Nat.le_refl, show V.cells (V.sl m64 0 ((ints wk).length + 1) false) = [V.sl m64 0 ((ints wk).length + 1) false] from rfl]
            refine newC_intro fun x65 Hg hng hsg hbg => ?_
            have rg := rb.grow (hbf.trans' hsg)
            simp only [go_sem, ↓reduceIte, Nat.reduceEqDiff, Nat.reduceAdd, reduceCtorEq]
            refine appC_grown rg.lo hbg (by omega) (by omega) fun m66 Hh hm66 hb66 hfh => ?_
            obtain ⟨lb, ll, lf, elv, _, lG, lH⟩ := rb.lo.name
            obtain ⟨nb, nl, nf, env', _, nG, nH⟩ := rb.nx.name
            have hln : lb ≠ nb := rb.apart _ _ _ _ _ _ _ _ elv env'
            have lvN : ∀ q, q ≠ lb → ∀ n o l f, lv = .sl n o l f → q ≠ n := by
              rintro q hq n o l f e rfl
              rw [elv] at e; injection e with e; exact hq e.symm
            have nvN : ∀ q, q ≠ nb → ∀ n o l f, nv = .sl n o l f → q ≠ n := by
              rintro q hq n o l f e rfl
              rw [env'] at e; injection e with e; exact hq e.symm
            have hbg' := hbf.trans' hsg
            have nb66 : nb ≠ m66 := by
              rintro rfl
              cases e : Hb nb with
              | none => exact nH e
              | some b => rw [hbg' _ _ e] at hm66; cases hm66
            have nx66 : Grown G Hh nv (ints ((curW l es[i] k j).map (·.2))) := rg.nx.off fun q o l f e => by
              have : q = nb := by rw [env'] at e; injection e with e; exact e.symm
              subst this
              exact hfh q nb66 (lvN q hln.symm)
            simp only [go_sem, ↓reduceIte, Nat.reduceEqDiff, Nat.reduceAdd, reduceCtorEq, h7]
            have hb10 : Hh n10 = some ⟨true, 1, [V.int .i64 es[i][j].fr, V.int .i64 es[i][j].lb, V.int .i64 es[i][j].to]⟩ := by
              have t1 := hbg' _ _ hbb
              have t2 : n10 ≠ m66 := by rintro rfl; rw [t1] at hm66; cases hm66
              have t3 : n10 ≠ lb := by rintro rfl; exact lH (by
                cases e : Hb n10 with
                | none => rfl
                | some b =>
                  exfalso
                  have : H9 n10 ≠ none := by
                    obtain ⟨lb', _, _, elv', _, _, lH'⟩ := rst.lo.name
                    rw [elv] at elv'; injection elv' with elv'; rw [elv']; exact lH'
                  exact this hna)
              rw [hfh n10 t2 (lvN n10 t3)]; exact t1
            simp only [go_sem, ↓reduceIte, Nat.reduceEqDiff, Nat.reduceAdd, reduceCtorEq, ld_box hb10, fillV, List.length_cons, List.length_nil, splice, Nat.reduceLeDiff, Nat.zero_lt_one, and_self, List.take_zero, List.take_succ_cons, List.drop_succ_cons, List.drop_zero, List.drop_nil, Nat.reduceLT, Nat.le_refl]
            refine newC_intro fun x70 Hi hni hsi hbi => ?_
            simp only [go_sem, ↓reduceIte, Nat.reduceEqDiff, Nat.reduceAdd, reduceCtorEq]
            refine appC_grown (nx66.grow hsi) hbi (by rw [ints_len, List.length_map]; omega) (by rw [ints_len, List.length_map]; omega) fun m71 Hj hm71 hb71 hfj => ?_
            simp only [go_sem, ↓reduceIte, Nat.reduceEqDiff, Nat.reduceAdd, reduceCtorEq, h1, h3, h4, h5, h8, h9]
            rw [wrapN1 (by omega)]
            have b64 : Hb m64 = none := hbe'.none' hm64
            have G64 : G m64 = none := rb.gh.none' b64
            have hGG := Heap.sub_upd (b := some ⟨true, 1, ints wk ++ [V.int .i64 es[i][j].lb]⟩) G64
            have hg64 : Hg m64 = some ⟨true, 1, ints wk ++ [V.int .i64 es[i][j].lb]⟩ := hsg _ _ hb64
            have h6466 : m64 ≠ m66 := by rintro rfl; rw [hg64] at hm66; cases hm66
            have h64l : m64 ≠ lb := by rintro rfl; exact lH b64
            have h64n : m64 ≠ nb := by rintro rfl; exact nH b64
            have hh64 : Hh m64 = some ⟨true, 1, ints wk ++ [V.int .i64 es[i][j].lb]⟩ := by rw [hfh m64 h6466 (lvN m64 h64l)]; exact hg64
            have h6471 : m64 ≠ m71 := by rintro rfl; rw [hsi _ _ hh64] at hm71; cases hm71
            have hj64 : Hj m64 = some ⟨true, 1, ints wk ++ [V.int .i64 es[i][j].lb]⟩ := by rw [hfj m64 h6471 (nvN m64 h64n)]; exact hsi _ _ hh64
            have h6671 : m66 ≠ m71 := by rintro rfl; rw [hsi _ _ hb66] at hm71; cases hm71
            refine ⟨by trivial, by trivial, by trivial, by trivial, by trivial, by trivial, _, _, us ++ [V.sl m64 0 ((ints wk).length + 1) false], G.upd m64 (some ⟨true, 1, ints wk ++ [V.int .i64 es[i][j].lb]⟩), rfl, rfl, hg.trans' hGG, ?_⟩
            rw [curW_step hk hj c, ← hwk]
            refine ⟨fun q b hq => ?_, .inr ⟨m66, by simp, ?_, ?_⟩, .inr ⟨m71, by simp [ints_len], ?_, ?_⟩, ?_, by simp [hul], fun x hx => ?_⟩
            · by_cases e : q = m64
              · subst e
                simp [Heap.upd] at hq
                rw [hj64, hq]
              · simp [Heap.upd, e] at hq
                have t0 := rg.gh _ _ hq
                have t1 : q ≠ m66 := by rintro rfl; rw [t0] at hm66; cases hm66
                have t2 : q ≠ lb := by rintro rfl; rw [lG] at hq; cases hq
                have t3 : Hi q = some b := hsi _ _ (by rw [hfh q t1 (lvN q t2)]; exact t0)
                have t4 : q ≠ m71 := by rintro rfl; rw [t3] at hm71; cases hm71
                have t5 : q ≠ nb := by rintro rfl; rw [nG] at hq; cases hq
                rw [hfj q t4 (nvN q t5)]; exact t3
            · simp [Heap.upd, h6466.symm, rg.gh.none' hm66]
            · rw [hfj m66 h6671 (nvN m66 nb66.symm)]; exact hsi _ _ hb66
            · have : G m71 = none := by
                cases e : G m71 with
                | none => rfl
                | some b =>
                  exfalso
                  have t0 := rg.gh _ _ e
                  have t1 : m71 ≠ m66 := h6671.symm
                  have t2 : m71 ≠ lb := by rintro rfl; rw [lG] at e; cases e
                  have t3 : Hi m71 = some b := hsi _ _ (by rw [hfh m71 t1 (lvN m71 t2)]; exact t0)
                  rw [t3] at hm71; cases hm71
              simp [Heap.upd, h6471.symm, this]
            · rw [hb71]; simp [ints]
            · rintro n o l f n' o' l' f' ⟨⟩ ⟨⟩; exact h6671
            · by_cases e : x < us.length
              · rw [List.getElem_append_left e]
                simp only [List.getElem_append_left (show x < (curW l es[i] k j).length by omega)]
                exact (rst.each x e).mono hGG
              · have hx' : x = us.length := by simp at hx; omega
                subst hx'
                have e1 : ((curW l es[i] k j) ++ [(wk ++ [es[i][j].lb], es[i][j].to)])[us.length]'(by simp; omega) = (wk ++ [es[i][j].lb], es[i][j].to) := by
                  rw [List.getElem_append_right (by omega)]; simp
                rw [e1]
                simp only [List.getElem_append_right (Nat.le_refl _), Nat.sub_self, List.getElem_singleton]
                unfold SInts
                have e2 : (wk ++ [es[i][j].lb]).length = (ints wk).length + 1 := by simp [ints_len]
                rw [e2]
                exact sl_block (n := m64) (own := true) (by simp [Heap.upd, ints]) (by rw [ints_len]; simp [ints_len]) (by rw [ints_len]; omega)
          · simp only [go_sem, ↓reduceIte, Nat.reduceEqDiff, Nat.reduceAdd, reduceCtorEq, h1, h3, h4, h5, h6, h7, h8, h9]
            rw [wrapN1 (by omega)]
            refine ⟨by trivial, by trivial, by trivial, by trivial, by trivial, by trivial, lv, nv, us, G, by trivial, by trivial, hg, ?_⟩
            rw [curW_skip hk hj c]; exact rb
        · rintro env H9 ⟨h1, h3, h4, h5, h8, h9, lv, nv, us, G, h6, h7, hg, rst⟩
          have hs19 := hs5.trans' (hg.trans' rst.gh)
          obtain ⟨p', ue, d1, d2, d3⟩ := (SSecs.mono he1 hs19).get hi .i64
          simp only [go_sem, ↓reduceIte, Nat.reduceEqDiff, Nat.reduceAdd, reduceCtorEq, h1, h3, h4, h5, h6, h7, h8, h9, ld_box (hs19 _ _ hb1), d1, d2, d3.len, Int.lt_irrefl]
          rw [wrapN1 (by omega)]
          refine ⟨by trivial, by trivial, by trivial, by trivial, by trivial, lv, nv, us, G, by trivial, by trivial, hg, ?_⟩
          rw [← curW_full hk]; exact rst
      · rintro env H8 ⟨h1, h3, h4, h5, h8, lv, nv, us, G, h6, h7, hg, rst⟩
        have hs58 := hg.trans' rst.gh
        have hirr : ¬ (l.length : Int) < (l.map (·.1)).length := by omega
        simp only [go_sem, ↓reduceIte, Nat.reduceEqDiff, Nat.reduceAdd, reduceCtorEq, h1, h3, h4, h5, h6, h7, h8, SLists.len (SRows.mono hw hs58), hirr]
        rw [curW_end] at rst
        exact ⟨hs5.trans' hs58, by trivial, by trivial, lv, nv, us, G, by trivial, by trivial, rst⟩
    · rintro env H8 ⟨hs8, h1, h5, lv, nv, us, G, h6, h7, rst⟩
      simp only [go_sem, ↓reduceIte, Nat.reduceEqDiff, Nat.reduceAdd, reduceCtorEq, h1, h5, h6, h7]
      rw [wrapN1 (by omega)]
      have hul := rst.len
      refine ⟨hs8, by trivial, by trivial, lv, nv, by trivial, by trivial, ?_, ?_⟩
      · rw [hprei]
        refine ⟨us, ?_, fun i hi => ⟨us[i]'(by simpa [hul] using hi), by simp [show i < us.length by simpa [hul] using hi], ?_⟩⟩
        · have := rst.lo.sl (by omega)
          rw [List.length_map, ← hul]; exact this
        · have hi' : i < us.length := by simpa [hul] using hi
          have := (rst.each i hi').mono rst.gh
          simpa using this
      · rw [hprei]
        have := rst.nx.sl (by rw [ints_len, List.length_map]; omega)
        rw [ints_len] at this
        exact this
  · rintro env H5 ⟨hs5, h1, h5, wv, av, h3, h4, hw, ha⟩
    simp only [go_sem, ↓reduceIte, Nat.reduceEqDiff, Nat.reduceAdd, reduceCtorEq, h1, h3, h4, h5, ld_box (hs5 _ _ hb1), SLists.len (SSecs.mono he1 hs5), Int.lt_irrefl]
    rw [pre_all] at hw
    exact finO_self ⟨hs1.trans' hs5, hw⟩
end Go.AM

/- trellis.span, order. Conditions: as stated. -/
set_option linter.unusedVariables false
set_option linter.unusedSimpArgs false
namespace Go.AM
open Go Go.Proofs
attribute [local go_sem] c_skip c_ops c_seq c_ite c_blk c_exit c_ret t_normal t_exit t_ret b_normal b_exit b_ret i_nil i_cons s_guard s_mov s_pick s_new s_zero s_ld s_ldr s_st s_bin s_beq s_isnil s_eqs s_un s_conv s_fa s_fld s_ia s_sli s_ext s_ifc s_mkf s_agg s_len s_mm s_nilchk s_bsl s_mk s_app s_cpy s_call s_inv cells_agg cells_int cells_bool p_get p_none o_s o_c e_0 e_1 e_2 e_3 e_4 iteC_true iteC_false grd_tt grd_tf grd_ft grd_ff grd_und bindV_some pickV_t pickV_f beq_bool conv_int un_not not_dec mm_min mm_max bv_add bv_sub bv_mul bv_eql bv_neq bv_lss bv_leq bv_gtr bv_geq f_normal f_one f_two f_three f_none fa_ptr fld_one ext_tup len_sl len_nils decide_true decide_false not_true_eq_false not_false_eq_true List.map_cons List.map_nil List.append_nil List.cons_append List.nil_append Nat.zero_add Nat.add_zero Nat.mul_one Nat.succ_ne_self if_true if_false List.getElem?_cons_zero List.getElem?_cons_succ

/-- trellis.span -/
def F98 : AF := ⟨18, [(4, none)], (.seq (.ops [⟨none, false, (some 4), (.mov (.c .nils))⟩]) (.seq (.ops [⟨none, false, (some 5), (.mov (.c .nils))⟩]) (.seq (.seq (.ops [⟨none, false, (some 7), (.mov (.s 0))⟩, ⟨none, false, (some 6), (.mov (.s 7))⟩]) (.blk 0 (.loop (.seq (.seq (.ops [⟨none, false, (some 8), (.mov (.s 6))⟩, ⟨none, false, (some 9), (.mov (.s 1))⟩, ⟨none, false, (some 10), (.bin .lss (.s 8) (.s 9))⟩]) (.ite (.s 10) .skip (.exit 0))) (.seq (.blk 1 (.ops [⟨none, false, (some 13), (.mov (.s 5))⟩, ⟨none, false, (some 14), (.mov (.s 6))⟩, ⟨none, false, (some 15), (.bsl 1 1 [(.int .i64 (0))] [(0, (1, (.s 14)))])⟩, ⟨none, false, (some 16), (.app 1 8 (.s 13) (.s 15) [])⟩, ⟨none, false, (some 5), (.mov (.s 16))⟩])) (.ops [⟨none, false, (some 11), (.mov (.s 6))⟩, ⟨none, false, (some 12), (.bin .add (.s 11) (.c (.int .i64 (1))))⟩, ⟨none, false, (some 6), (.mov (.s 12))⟩])))))) (.seq (.ops [⟨none, false, (some 17), (.mov (.s 5))⟩, ⟨none, false, (some 4), (.mov (.s 17))⟩]) .ret))))⟩
theorem cv98 : cvF Try.prog 98 = some F98 := by kernel_rfl

/-- trellis.order -/
def F70 : AF := ⟨29, [(4, none)], (.seq (.ops [⟨none, false, (some 4), (.mov (.c .nils))⟩]) (.seq (.ops [⟨none, false, (some 9), (.mov (.s 0))⟩, ⟨none, false, (some 10), (.call (.c (.fn 98 [])) [(.c (.int .i64 (0))), (.s 9)])⟩, ⟨none, false, (some 5), (.mov (.s 10))⟩]) (.seq (.ops [⟨none, false, (some 11), (.mov (.s 5))⟩, ⟨none, false, (some 12), (.mov (.s 1))⟩, ⟨none, false, (some 13), (.call (.c (.fn 99 [])) [(.s 11), (.s 12)])⟩]) (.seq (.ops [⟨none, false, (some 14), (.mov (.s 0))⟩, ⟨none, false, (some 15), (.mk 1 8 [(.int .i64 (0))] (.s 14) (.s 14))⟩, ⟨none, false, (some 6), (.mov (.s 15))⟩]) (.seq (.seq (.ops [⟨none, false, (some 16), (.mov (.s 5))⟩, ⟨none, false, (some 17), (.len (.s 16))⟩, ⟨none, false, (some 18), (.mov (.c (.int .i64 (0))))⟩]) (.blk 0 (.loop (.seq (.ops [⟨none, false, (some 19), (.bin .lss (.s 18) (.s 17))⟩]) (.seq (.ite (.s 19) .skip (.exit 0)) (.seq (.blk 1 (.seq (.ops [⟨none, false, (some 20), (.mov (.s 18))⟩, ⟨none, false, (some 21), (.ia 1 (.s 16) (.s 18))⟩, ⟨none, false, (some 22), (.ld false 1 (.s 21) none)⟩, ⟨none, false, (some 7), (.mov (.s 20))⟩, ⟨none, false, (some 8), (.mov (.s 22))⟩]) (.ops [⟨none, false, (some 23), (.mov (.s 6))⟩, ⟨none, false, (some 24), (.mov (.s 8))⟩, ⟨none, false, (some 25), (.mov (.s 7))⟩, ⟨none, false, (some 26), (.ia 1 (.s 23) (.s 24))⟩, ⟨none, false, none, (.st 1 (.s 26) (.s 25) [])⟩]))) (.ops [⟨none, false, (some 27), (.bin .add (.s 18) (.c (.int .i64 (1))))⟩, ⟨none, false, (some 18), (.mov (.s 27))⟩]))))))) (.seq (.ops [⟨none, false, (some 28), (.mov (.s 6))⟩, ⟨none, false, (some 4), (.mov (.s 28))⟩]) .ret))))))⟩
theorem cv70 : cvF Try.prog 70 = some F70 := by kernel_rfl


instance : Inhabited Ed := ⟨⟨0, 0, 0⟩⟩
def Eint : Elem Int 1 false := ⟨fun x => .int .i64 x, by decide, fun _ => rfl, (fun h => by cases h), fun _ => ⟨rfl, fun _ => rfl⟩⟩
def Eed : Elem Ed 3 true := ⟨fun e => .agg e.cells, by decide, fun _ => rfl, fun _ _ => rfl, (fun h => by cases h)⟩
theorem Eint_cells (xs : List Int) : Eint.cells xs = ints xs := by
  induction xs with
  | nil => rfl
  | cons x r ih =>
    have : Eint.cells (x :: r) = [.int .i64 x] ++ Eint.cells r := rfl
    rw [this, ih]; rfl
theorem Eed_cells (l : List Ed) : Eed.cells l = ecells l := rfl

def numsF (lo : Int) (n : Nat) : List Int := (List.range n).map fun (v : Nat) => lo + v
theorem numsF_len (lo : Int) (n : Nat) : (numsF lo n).length = n := by simp [numsF]
theorem numsF_succ (lo : Int) (n : Nat) : ints (numsF lo (n+1)) = ints (numsF lo n) ++ [.int .i64 (lo + n)] := by simp [numsF, ints, List.range_succ]
theorem numsF_zero (n : Nat) : numsF 0 n = nums n := by simp [numsF, nums]

theorem span_spec {lo n : Nat} {H : Heap} (hlo : lo + n ≤ 1099511627776) : ACalls Try.prog 98 [.int .i64 lo, .int .i64 ((lo + n : Nat) : Int)] H fun u H' => Heap.sub H H' ∧ ((n = 0 ∧ u = .nils) ∨ ∃ m, u = .sl m 0 n false ∧ H m = none ∧ H' m = some ⟨true, 1, ints (numsF lo n)⟩) := by
  refine ACalls.of_body hm cv98 (by simp only [List.length_cons, List.length_nil]; decide) ?_
  simp only [F98, go_sem, ↓reduceIte, Nat.reduceEqDiff, Nat.reduceAdd, reduceCtorEq]
  refine loop_count n (fun t env H' => env 1 = .int .i64 ((lo + n : Nat) : Int) ∧ env 6 = .int .i64 ((lo + t : Nat) : Int) ∧ t ≤ n ∧ Heap.sub H H' ∧ ((t = 0 ∧ env 5 = .nils) ∨ ∃ m, env 5 = .sl m 0 t false ∧ H m = none ∧ H' m = some ⟨true, 1, ints (numsF lo t)⟩)) ?_ ?_ ?_
  · simp only [go_sem, ↓reduceIte, Nat.reduceEqDiff, Nat.reduceAdd, reduceCtorEq]
    exact ⟨by first | rfl | trivial, by first | rfl | trivial, Nat.zero_le _, Heap.sub.rfl', .inl ⟨by first | rfl | trivial, by first | rfl | trivial⟩⟩
  · rintro t env H1 ht ⟨h1, h6, hle, hs, hu⟩
    have c : ((lo + t : Nat) : Int) < ((lo + n : Nat) : Int) := by omega
    simp only [go_sem, ↓reduceIte, Nat.reduceEqDiff, Nat.reduceAdd, reduceCtorEq, h1, h6, c, fillV, List.length_cons, List.length_nil, splice, Nat.reduceLeDiff, Nat.zero_lt_one, and_self, List.take_zero, List.take_succ_cons, List.drop_succ_cons, List.drop_zero, List.drop_nil, Nat.reduceLT, Nat.le_refl]
    refine newC_intro fun b H2 hb2 hs2 hbb => ?_
    simp only [go_sem, ↓reduceIte, Nat.reduceEqDiff, Nat.reduceAdd, reduceCtorEq]
    have hv : lenV (env 5) = t := by
      rcases hu with ⟨rfl, e⟩ | ⟨m, e, _⟩ <;> rw [e] <;> rfl
    have hu' : (env 5 = .nils ∧ ints (numsF lo t) = []) ∨ ∃ n len, env 5 = .sl n 0 len false ∧ H2 n = some ⟨true, 1, ints (numsF lo t)⟩ ∧ (ints (numsF lo t)).length = len * 1 := by
      rcases hu with ⟨rfl, e⟩ | ⟨m, e, h3, h4⟩
      · exact .inl ⟨e, rfl⟩
      · exact .inr ⟨m, t, e, hs2 _ _ h4, by rw [ints_len, numsF_len]; omega⟩
    refine appC_one hu' hbb rfl (by decide) (by rw [hv]; omega) (by rw [hv]; omega) fun m H3 hm hbm hf => ?_
    have hs3 : Heap.sub H H3 := by
      intro q c hq
      have q1 : q ≠ m := by rintro rfl; rw [(hs.trans' hs2).none' hm] at hq; cases hq
      have q2 : ∀ n o l f, env 5 = .sl n o l f → q ≠ n := by
        rintro n' o l f e rfl
        rcases hu with ⟨_, e'⟩ | ⟨m', e', h3, _⟩
        · rw [e] at e'; cases e'
        · rw [e] at e'; injection e' with e1; rw [e1, h3] at hq; cases hq
      rw [hf q q1 q2]
      exact hs2 _ _ (hs _ _ hq)
    simp only [go_sem, ↓reduceIte, Nat.reduceEqDiff, Nat.reduceAdd, reduceCtorEq, h1, h6, hv]
    rw [wrapN1 (by omega)]
    refine ⟨by first | rfl | trivial, by first | rfl | trivial, by omega, hs3, .inr ⟨m, by first | rfl | trivial, (hs.trans' hs2).none' hm, ?_⟩⟩
    rw [hbm, numsF_succ]
    simp
  · rintro env H1 ⟨h1, h6, hle, hs, hu⟩
    simp only [go_sem, ↓reduceIte, Nat.reduceEqDiff, Nat.reduceAdd, reduceCtorEq, h1, h6, Int.lt_irrefl]
    exact finO_self ⟨hs, hu⟩

/-- the places of the numbers below n in a list -/
def places (n : Nat) (L : List Int) : List Int := (nums n).map (posI L)
theorem places_len (n : Nat) (L : List Int) : (places n L).length = n := by simp [places, nums_len]
theorem places_get {n : Nat} {L : List Int} {v : Nat} (h : v < n) : (places n L)[v]'(by rw [places_len]; exact h) = posI L v := by simp [places, nums]
def placesTo (n : Nat) (L : List Int) (t : Nat) : List Int := (nums n).map fun v => if v ∈ L.take t then posI L v else 0
theorem placesTo_len (n : Nat) (L : List Int) (t : Nat) : (placesTo n L t).length = n := by simp [placesTo, nums_len]
theorem placesTo_get {n : Nat} {L : List Int} {t v : Nat} (h : v < n) : (placesTo n L t)[v]'(by rw [placesTo_len]; exact h) = if (v : Int) ∈ L.take t then posI L v else 0 := by simp [placesTo, nums]
theorem placesTo_step {n : Nat} {L : List Int} (o : Ord n L) {t : Nat} (h : t < L.length) : (placesTo n L t).set (L[t].toNat) (t : Int) = placesTo n L (t+1) := by
  have hb := (o.mem L[t]).1 (List.getElem_mem h)
  apply List.ext_getElem
  · simp [placesTo_len]
  · intro v h1 h2
    have hv : v < n := by rw [placesTo_len] at h2; exact h2
    rw [List.getElem_set, placesTo_get hv, placesTo_get hv, List.take_add_one, List.getElem?_eq_getElem h]
    by_cases e : L[t].toNat = v
    · have e2 : (v : Int) = L[t] := by omega
      rw [if_pos e, e2, if_pos (List.mem_append_right _ (by simp)), posI_at o.nodup h]
    · have e2 : (v : Int) ≠ L[t] := by omega
      rw [if_neg e]
      by_cases c : (v : Int) ∈ L.take t
      · rw [if_pos c, if_pos (List.mem_append_left _ c)]
      · rw [if_neg c, if_neg]
        intro c2
        rcases List.mem_append.1 c2 with c2 | c2
        · exact c c2
        · exact e2 (by simpa using c2)
theorem placesTo_zero (n : Nat) (L : List Int) : ints (placesTo n L 0) = List.replicate n (.int .i64 0) := by
  apply List.ext_getElem
  · simp [ints_len, placesTo_len]
  · intro i h1 h2
    simp [ints, placesTo]
theorem placesTo_done {n : Nat} {L : List Int} (o : Ord n L) : placesTo n L L.length = places n L := by
  unfold placesTo places
  apply List.map_congr_left
  intro v hv
  rw [if_pos]
  rw [List.take_length]
  exact (o.mem v).2 ((nums_mem n v).1 hv)

theorem order_spec {n : Nat} {H G : Heap} {g : FuncId} {caps : List V} {cf : Int → Int → Int} {L : List Int} (C : Cmp Eint G g caps cf fun v => 0 ≤ v ∧ v < n) (hG : Heap.sub G H) (hn0 : 0 < n) (hn : n ≤ 65536) (o : Ord n L) (hL : L.Pairwise fun u v => cf u v < 0) :
    ACalls Try.prog 70 [.int .i64 n, .fn g caps] H fun u H' => Heap.sub H H' ∧ ∃ m, u = .sl m 0 n true ∧ H m = none ∧ H' m = some ⟨true, 1, ints (places n L)⟩ := by
  refine ACalls.of_body hm cv70 (by simp only [List.length_cons, List.length_nil]; decide) ?_
  simp only [F70, go_sem, ↓reduceIte, Nat.reduceEqDiff, Nat.reduceAdd, reduceCtorEq]
  refine callC_grow (by have := span_spec (lo := 0) (n := n) (H := H) (by omega); rw [Nat.zero_add] at this; exact this) ?_
  rintro u H1 hs1 (⟨h0, _⟩ | ⟨m1, rfl, hm1, hb1⟩)
  · omega
  rw [show ((0 : Nat) : Int) = 0 from rfl, numsF_zero, ← Eint_cells] at hb1
  simp only [go_sem, ↓reduceIte, Nat.reduceEqDiff, Nat.reduceAdd, reduceCtorEq]
  refine callC_any (sort_spec sortInt C hb1 (hG.trans' hs1) (hG.none' hm1) (fun x hx => (nums_mem n x).1 hx) (nums_len n) (by omega)) ?_
  rintro u H2 ⟨ys, rfl, y1, y2⟩
  obtain rfl : ys = L := sorted_unique (y1.trans (o.perm rfl).symm) hL y2
  have hlen := o.length rfl
  have hs2 : Heap.sub H (Eint.put H1 m1 ys) := hs1.upd' hm1 _
  simp only [go_sem, ↓reduceIte, Nat.reduceEqDiff, Nat.reduceAdd, reduceCtorEq]
  refine mkC_intro (by omega) (by omega) (by omega) fun m2 H3 hm2 hs3 hb3 => ?_
  have hne : m1 ≠ m2 := fun e => by rw [← e, Eint.put_at] at hm2; cases hm2
  have hx3 : H3 m1 = some ⟨true, 1, ints ys⟩ := by rw [← Eint_cells]; exact hs3 _ _ (Eint.put_at H1 m1 ys)
  have hH2 : H m2 = none := hs2.none' hm2
  simp only [go_sem, ↓reduceIte, Nat.reduceEqDiff, Nat.reduceAdd, reduceCtorEq]
  refine range_loop n (fun k env H' => env 6 = .sl m2 0 n true ∧ env 16 = .sl m1 0 n false ∧ env 17 = .int .i64 n ∧ env 18 = .int .i64 k ∧ Heap.sub H H' ∧ H' m1 = some ⟨true, 1, ints ys⟩ ∧ H' m2 = some ⟨true, 1, ints (placesTo n ys k)⟩) (by omega) (by decide) (by decide) ?_ ?_ ?_ ?_
  · rintro k env H' ⟨_, _, h7, h8, _⟩; exact ⟨h8, h7⟩
  · simp only [go_sem, ↓reduceIte, Nat.reduceEqDiff, Nat.reduceAdd, reduceCtorEq, beq_self_eq_true]
    refine ⟨by first | rfl | trivial, by first | rfl | trivial, by first | rfl | trivial, by first | rfl | trivial, hs2.trans' hs3, hx3, ?_⟩
    rw [hb3, flat_rep, placesTo_zero]
  · rintro k env H' hk ⟨h6, h16, h17, h18, hs, hbx, hby⟩
    have hky : k < ys.length := by omega
    have hb := (o.mem ys[k]).1 (List.getElem_mem hky)
    obtain ⟨v, hv⟩ : ∃ v : Nat, ys[k] = v := ⟨ys[k].toNat, by omega⟩
    have hrd : ldV H' false 1 (.ptr m1 (k * 1)) = some (.int .i64 (v : Int)) := by
      rw [ld_box hbx, Nat.mul_one, ints_get hky, hv]
    simp only [go_sem, ↓reduceIte, Nat.reduceEqDiff, Nat.reduceAdd, reduceCtorEq, h6, h16, h17, h18, ia_el (k := 1) hk]
    rw [Nat.mul_one] at hrd
    simp only [go_sem, ↓reduceIte, Nat.reduceEqDiff, Nat.reduceAdd, reduceCtorEq, hrd, h6, h16, h17, h18, ia_el (k := 1) (show v < n by omega)]
    refine stC_intro hby trivial rfl (by decide) (by rw [ints_len, placesTo_len]; omega) fun H4 hb4 hf4 hs4 => ?_
    simp only [go_sem, ↓reduceIte, Nat.reduceEqDiff, Nat.reduceAdd, reduceCtorEq, h6, h16, h17, h18]
    have hne' : m1 ≠ m2 := hne
    refine ⟨by first | rfl | trivial, by first | rfl | trivial, by first | rfl | trivial, by first | rfl | trivial, by first | rfl | trivial, hs4 H hs hH2, by rw [hf4 m1 hne']; exact hbx, ?_⟩
    rw [hb4, cells_int, splice_one _ _ _ (by rw [ints_len, placesTo_len]; omega), ints_set']
    have := placesTo_step o hky
    rw [hv, Int.toNat_natCast] at this
    rw [this]
  · rintro env H' ⟨h6, h16, h17, h18, hs, hbx, hby⟩
    simp only [go_sem, ↓reduceIte, Nat.reduceEqDiff, Nat.reduceAdd, reduceCtorEq, h6]
    refine finO_self ⟨hs, m2, rfl, hH2, ?_⟩
    rw [hby, show n = ys.length from hlen.symm, placesTo_done (by rw [hlen]; exact o)]
end Go.AM
