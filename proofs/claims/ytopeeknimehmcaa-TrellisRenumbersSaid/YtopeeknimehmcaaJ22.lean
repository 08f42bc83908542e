/- trellis.Renumber. Conditions: none. -/
import Derived.Test.YtopeeknimehmcaaJ21
set_option linter.unusedVariables false
set_option linter.unusedSimpArgs false
namespace Go.AM
open Go Go.Proofs
attribute [local go_sem] c_skip c_ops c_seq c_ite c_blk c_exit c_ret t_normal t_exit t_ret b_normal b_exit b_ret i_nil i_cons s_guard s_mov s_pick s_new s_zero s_ld s_ldr s_st s_bin s_beq s_isnil s_eqs s_un s_conv s_fa s_fld s_ia s_sli s_ext s_ifc s_mkf s_agg s_len s_mm s_nilchk s_bsl s_mk s_app s_cpy s_call s_inv cells_agg cells_int cells_bool p_get p_none o_s o_c e_0 e_1 e_2 e_3 e_4 iteC_true iteC_false grd_tt grd_tf grd_ft grd_ff grd_und bindV_some pickV_t pickV_f beq_bool conv_int un_not not_dec mm_min mm_max bv_add bv_sub bv_mul bv_eql bv_neq bv_lss bv_leq bv_gtr bv_geq f_normal f_one f_two f_three f_none fa_ptr fld_one ext_tup len_sl len_nils decide_true decide_false not_true_eq_false not_false_eq_true List.map_cons List.map_nil List.append_nil List.cons_append List.nil_append Nat.zero_add Nat.add_zero Nat.mul_one Nat.succ_ne_self if_true if_false List.getElem?_cons_zero List.getElem?_cons_succ

/-- trellis.Renumber$1 -/
def F71 : AF := ⟨15, [(5, none)], (.seq (.ops [⟨none, false, (some 5), (.mov (.c (.int .i64 (0))))⟩]) (.seq (.ops [⟨none, false, (some 7), (.mov (.s 0))⟩, ⟨none, false, (some 11), (.mov (.s 1))⟩, ⟨none, false, (some 6), (.ld false 1 (.s 2) none)⟩, ⟨none, false, (some 8), (.ia 3 (.s 6) (.s 7))⟩, ⟨none, false, (some 9), (.ld true 3 (.s 8) none)⟩, ⟨none, false, (some 10), (.ld false 1 (.s 2) none)⟩, ⟨none, false, (some 12), (.ia 3 (.s 10) (.s 11))⟩, ⟨none, false, (some 13), (.ld true 3 (.s 12) none)⟩, ⟨none, false, (some 14), (.call (.c (.fn 48 [])) [(.s 9), (.s 13)])⟩, ⟨none, false, (some 5), (.mov (.s 14))⟩]) .ret))⟩
theorem cv71 : cvF Try.prog 71 = some F71 := by kernel_rfl

/-- trellis.Renumber -/
def F35 : AF := ⟨97, [(2, (some (true, 2))), (3, none)], (.seq (.ops [⟨none, false, (some 1), (.new (.s 0))⟩, ⟨none, false, (some 2), (.zero [.nils, .nils])⟩, ⟨none, false, (some 3), (.mov (.c (.int .i64 (0))))⟩]) (.seq (.seq (.ops [⟨none, false, (some 13), (.ld true 2 (.s 1) none)⟩, ⟨none, false, (some 14), (.call (.c (.fn 18 [])) [(.s 13)])⟩, ⟨none, false, (some 4), (.mov (.s 14))⟩]) (.seq (.ops [⟨none, false, (some 15), (.mov (.s 4))⟩, ⟨none, false, (some 16), (.bin .neq (.s 15) (.c (.int .i64 (0))))⟩]) (.ite (.s 16) (.seq (.ops [⟨none, false, (some 17), (.agg [.nils, .nils] [])⟩, ⟨none, false, (some 18), (.mov (.s 4))⟩, ⟨none, false, none, (.st 2 (.s 2) (.s 17) [])⟩, ⟨none, false, (some 3), (.mov (.s 18))⟩]) .ret) .skip))) (.seq (.ops [⟨none, false, (some 19), (.bsl 1 1 [(.int .i64 (0))] [(0, (1, (.c (.int .i64 (0)))))])⟩, ⟨none, false, (some 20), (.bsl 1 1 [.nils] [(0, (1, (.s 19)))])⟩, ⟨none, false, (some 5), (.mov (.s 20))⟩]) (.seq (.seq (.ops [⟨none, false, (some 21), (.fa 1 (.s 1))⟩, ⟨none, false, (some 22), (.ld false 1 (.s 21) none)⟩, ⟨none, false, (some 23), (.len (.s 22))⟩, ⟨none, false, (some 24), (.mov (.c (.int .i64 (0))))⟩]) (.blk 0 (.loop (.seq (.ops [⟨none, false, (some 25), (.bin .lss (.s 24) (.s 23))⟩]) (.seq (.ite (.s 25) .skip (.exit 0)) (.seq (.blk 1 (.seq (.ops [⟨none, false, (some 26), (.mov (.s 24))⟩, ⟨none, false, (some 27), (.ia 1 (.s 22) (.s 24))⟩, ⟨none, false, (some 28), (.ld false 1 (.s 27) none)⟩, ⟨none, false, (some 6), (.mov (.s 26))⟩, ⟨none, false, (some 7), (.mov (.s 28))⟩]) (.seq (.ops [⟨none, false, (some 29), (.fa 0 (.s 1))⟩, ⟨none, false, (some 30), (.ld false 1 (.s 29) none)⟩, ⟨none, false, (some 31), (.mov (.s 6))⟩, ⟨none, false, (some 32), (.bin .add (.s 31) (.c (.int .i64 (1))))⟩, ⟨none, false, (some 33), (.ia 1 (.s 30) (.s 32))⟩, ⟨none, false, (some 34), (.ld false 1 (.s 33) none)⟩, ⟨none, false, (some 35), (.mk 3 24 [(.int .i64 (0)), (.int .i64 (0)), (.int .i64 (0))] (.s 34) (.s 34))⟩, ⟨none, false, (some 8), (.zero [.nils])⟩, ⟨none, false, none, (.st 1 (.s 8) (.s 35) [])⟩]) (.seq (.ops [⟨none, false, (some 36), (.fa 0 (.s 1))⟩, ⟨none, false, (some 37), (.ld false 1 (.s 36) none)⟩, ⟨none, false, (some 38), (.mov (.s 6))⟩, ⟨none, false, (some 39), (.bin .add (.s 38) (.c (.int .i64 (1))))⟩, ⟨none, false, (some 40), (.ia 1 (.s 37) (.s 39))⟩, ⟨none, false, (some 41), (.ld false 1 (.s 40) none)⟩, ⟨none, false, (some 42), (.mk 1 1 [(.bool false)] (.s 41) (.s 41))⟩, ⟨none, false, (some 9), (.mov (.s 42))⟩]) (.seq (.seq (.ops [⟨none, false, (some 43), (.mov (.s 7))⟩, ⟨none, false, (some 44), (.len (.s 43))⟩, ⟨none, false, (some 45), (.mov (.c (.int .i64 (0))))⟩]) (.blk 2 (.loop (.seq (.ops [⟨none, false, (some 46), (.bin .lss (.s 45) (.s 44))⟩]) (.seq (.ite (.s 46) .skip (.exit 2)) (.seq (.blk 3 (.seq (.ops [⟨none, false, (some 47), (.ia 3 (.s 43) (.s 45))⟩, ⟨none, false, (some 48), (.ld true 3 (.s 47) none)⟩, ⟨none, false, (some 11), (.zero [(.int .i64 (0)), (.int .i64 (0)), (.int .i64 (0))])⟩, ⟨none, false, none, (.st 3 (.s 11) (.s 48) [])⟩]) (.seq (.ops [⟨none, false, (some 49), (.mov (.s 5))⟩, ⟨none, false, (some 50), (.mov (.s 6))⟩, ⟨none, false, (some 51), (.ia 1 (.s 49) (.s 50))⟩, ⟨none, false, (some 53), (.fa 0 (.s 11))⟩, ⟨none, false, (some 57), (.fa 1 (.s 11))⟩, ⟨none, false, (some 52), (.ld false 1 (.s 51) none)⟩, ⟨none, false, (some 54), (.ld false 1 (.s 53) none)⟩, ⟨none, false, (some 55), (.ia 1 (.s 52) (.s 54))⟩, ⟨none, false, (some 56), (.ld false 1 (.s 55) none)⟩, ⟨none, false, (some 58), (.ld false 1 (.s 57) none)⟩, ⟨none, false, (some 59), (.agg [(.int .i64 (0)), (.int .i64 (0)), (.int .i64 (0))] [(0, (1, (.s 56))), (1, (1, (.s 58)))])⟩, ⟨none, false, (some 12), (.zero [(.int .i64 (0)), (.int .i64 (0)), (.int .i64 (0))])⟩, ⟨none, false, none, (.st 3 (.s 12) (.s 59) [])⟩]) (.seq (.ops [⟨none, false, (some 60), (.mov (.s 9))⟩, ⟨none, false, (some 61), (.fa 2 (.s 11))⟩, ⟨none, false, (some 62), (.ld false 1 (.s 61) none)⟩, ⟨none, false, (some 63), (.ia 1 (.s 60) (.s 62))⟩, ⟨none, false, (some 64), (.ld false 1 (.s 63) none)⟩, ⟨none, false, (some 65), (.un .not (.s 64))⟩, ⟨none, false, (some 66), (.mov (.s 65))⟩, ⟨(some (66, false)), false, (some 69), (.fa 2 (.s 11))⟩, ⟨(some (66, false)), false, (some 67), (.ld true 3 (.s 12) none)⟩, ⟨(some (66, false)), false, (some 68), (.ld false 1 (.s 8) none)⟩, ⟨(some (66, false)), false, (some 70), (.ld false 1 (.s 69) none)⟩, ⟨(some (66, false)), false, (some 71), (.ia 3 (.s 68) (.s 70))⟩, ⟨(some (66, false)), false, (some 72), (.ld true 3 (.s 71) none)⟩, ⟨(some (66, false)), false, (some 73), (.call (.c (.fn 48 [])) [(.s 67), (.s 72)])⟩, ⟨(some (66, false)), false, (some 74), (.bin .lss (.s 73) (.c (.int .i64 (0))))⟩, ⟨none, false, (some 75), (.pick (.s 66) (.c (.bool true)) (.s 74))⟩]) (.ite (.s 75) (.ops [⟨none, false, (some 77), (.fa 2 (.s 11))⟩, ⟨none, false, (some 79), (.mov (.s 9))⟩, ⟨none, false, (some 80), (.fa 2 (.s 11))⟩, ⟨none, false, (some 76), (.ld false 1 (.s 8) none)⟩, ⟨none, false, (some 78), (.ld false 1 (.s 77) none)⟩, ⟨none, false, (some 81), (.ld false 1 (.s 80) (some 11))⟩, ⟨none, false, (some 82), (.ld true 3 (.s 12) none)⟩, ⟨none, false, (some 83), (.ia 3 (.s 76) (.s 78))⟩, ⟨none, false, none, (.st 3 (.s 83) (.s 82) [11])⟩, ⟨none, false, (some 84), (.ia 1 (.s 79) (.s 81))⟩, ⟨none, false, none, (.st 1 (.s 84) (.c (.bool true)) [])⟩]) .skip))))) (.ops [⟨none, false, (some 85), (.bin .add (.s 45) (.c (.int .i64 (1))))⟩, ⟨none, false, (some 45), (.mov (.s 85))⟩]))))))) (.ops [⟨none, false, (some 86), (.mov (.s 5))⟩, ⟨none, false, (some 87), (.ld false 1 (.s 8) none)⟩, ⟨none, false, (some 88), (.len (.s 87))⟩, ⟨none, false, (some 89), (.mkf 71 [(.s 8)])⟩, ⟨none, false, (some 90), (.call (.c (.fn 70 [])) [(.s 88), (.s 89)])⟩, ⟨none, false, (some 91), (.bsl 1 1 [.nils] [(0, (1, (.s 90)))])⟩, ⟨none, false, (some 92), (.app 1 24 (.s 86) (.s 91) [])⟩, ⟨none, false, (some 5), (.mov (.s 92))⟩])))))) (.ops [⟨none, false, (some 93), (.bin .add (.s 24) (.c (.int .i64 (1))))⟩, ⟨none, false, (some 24), (.mov (.s 93))⟩]))))))) (.seq (.ops [⟨none, false, (some 94), (.ld true 2 (.s 1) none)⟩, ⟨none, false, (some 95), (.mov (.s 5))⟩, ⟨none, false, (some 96), (.call (.c (.fn 72 [])) [(.s 94), (.s 95)])⟩, ⟨none, false, none, (.st 2 (.s 2) (.s 96) [])⟩, ⟨none, false, (some 3), (.mov (.c (.int .i64 (0))))⟩]) .ret)))))⟩
theorem cv35 : cvF Try.prog 35 = some F35 := by kernel_rfl


def leastAt (least : List Ed) (v : Int) : Ed := least[v.toNat]?.getD ⟨0, 0, 0⟩
theorem renCmp {G : Heap} {b nl w s s' : Nat} {own own' f : Bool} {least : List Ed} (hb : G b = some ⟨own, s, [.sl nl 0 w f]⟩) (hl : G nl = some ⟨own', s', ecells least⟩) (hw : least.length = w) : Cmp Eint G 71 [.ptr b 0] (fun u v => lessI (leastAt least u) (leastAt least v)) fun v => 0 ≤ v ∧ v < w := by
  refine ⟨⟨fun x => swo_less.irr _, fun h h' => swo_less.trans h h', fun h h' => swo_less.ntrans h h'⟩, ?_⟩
  rintro x y ⟨x0, x1⟩ ⟨y0, y1⟩
  obtain ⟨i, rfl⟩ : ∃ i : Nat, x = i := ⟨x.toNat, by omega⟩
  obtain ⟨j, rfl⟩ : ∃ j : Nat, y = j := ⟨y.toNat, by omega⟩
  refine ACalls.of_body hm cv71 (by simp only [List.length_cons, List.length_nil, List.length_append]; decide) ?_
  have hi : i < w := by omega
  have hj : j < w := by omega
  have r1 := Eed.read (H := G) (N := nl) (xs := least) (i := i) hl (by omega)
  have r2 := Eed.read (H := G) (N := nl) (xs := least) (i := j) hl (by omega)
  have l1 : leastAt least i = least[i] := by simp [leastAt, show i < least.length by omega]
  have l2 : leastAt least j = least[j] := by simp [leastAt, show j < least.length by omega]
  rw [l1, l2]
  simp only [F71, go_sem, ↓reduceIte, Nat.reduceEqDiff, Nat.reduceAdd, reduceCtorEq, Eint, ld_box hb, ia_el hi, ia_el hj, r1, r2]
  refine callC_pure (less_spec _ _ _) ?_
  simp only [go_sem, ↓reduceIte, Nat.reduceEqDiff, Nat.reduceAdd, reduceCtorEq]
  exact finO_self ⟨rfl, rfl⟩

/-- a slice of one's own in one block -/
structure Own (H : Heap) (u : V) (n : Nat) (cs : List V) : Prop where
  eq : ∃ f, u = .sl n 0 cs.length f
  at_ : H n = some ⟨true, 1, cs⟩
theorem appC_own {H : Heap} {env : Env} {d : Option Nat} {K : Env → Heap → Prop} {u v : V} {cs : List V} {n xb bytes : Nat} {own f : Bool} (o : Own H u n cs) (hx : H xb = some ⟨own, 1, [v]⟩) (hb : (cs.length + 1) * bytes ≤ 140737488355328) (hb2 : cs.length + 1 ≤ 140737488355328)
    (hk : ∀ m H', H m = none → Own H' (.sl m 0 (cs.length + 1) false) m (cs ++ [v]) → (∀ q, q ≠ m → q ≠ n → H' q = H q) → K (env.put d (.sl m 0 (cs.length + 1) false)) H') : appC H env 1 bytes u (.sl xb 0 1 f) [] d K := by
  have hc : cellsAt H 1 (.sl xb 0 1 f) = some [v] := by simp [cellsAt, hx]
  have h1 : lenV (.sl xb 0 1 f) = 1 := rfl
  obtain ⟨⟨f', rfl⟩, hn⟩ := o
  have h0 : lenV (.sl n 0 cs.length f') = cs.length := rfl
  unfold appC
  rw [hc, h1, h0]
  refine ⟨hb, hb2, ?_⟩
  rw [if_neg (by decide)]
  simp only [hn]
  refine ⟨trivial, ?_⟩
  cases f'
  · simp only [Bool.false_eq_true, if_false]
    refine ⟨trivial, trivial, trivial, by omega, fun m hm => ?_⟩
    exact hk m _ hm ⟨⟨false, by simp⟩, by simp [Heap.upd]⟩ fun q h1 h2 => by simp [Heap.upd, h1, h2]
  · simp only [if_true]
    refine ⟨by omega, fun m hm => ?_⟩
    refine hk m _ hm ⟨⟨false, by simp⟩, ?_⟩ fun q h1 h2 => by simp [Heap.upd, h1]
    simp [Heap.upd, List.take_of_length_le]

/-- the number of nodes -/
def wdt (ws : List Int) (i : Nat) : Nat := (ws[i]?.getD 0).toNat
/-- the new numbers of all nodes -/
def namesI (ws : List Int) (es : List (List Ed)) (k : Nat) : List (List Int) := (List.range k).map fun i => places (wdt ws i) (ordI es i)
theorem namesI_len (ws : List Int) (es : List (List Ed)) (k : Nat) : (namesI ws es k).length = k := by simp [namesI]
theorem namesI_get {ws : List Int} {es : List (List Ed)} {k i : Nat} (h : i < k) : (namesI ws es k)[i]'(by rw [namesI_len]; exact h) = places (wdt ws i) (ordI es i) := by simp [namesI]
theorem PT.wd {ws : List Int} {es : List (List Ed)} (p : PT ws es) {i : Nat} (h : i ≤ es.length) : ws[i]?.getD 0 = (wdt ws i : Int) ∧ 0 < wdt ws i ∧ wdt ws i ≤ 65536 := by
  have hi : i < ws.length := by rw [p.sh.len]; omega
  have := p.sh.pos i hi
  unfold wdt
  simp only [List.getElem?_eq_getElem hi, Option.getD_some]
  omega
theorem PT.name {ws : List Int} {es : List (List Ed)} (p : PT ws es) {i k : Nat} (hk : i < k) (h : i ≤ es.length) {v : Int} (h0 : 0 ≤ v) (h1 : v < ws[i]?.getD 0) : nat2 (namesI ws es k) i v = posI (ordI es i) v := by
  obtain ⟨e, _, _⟩ := p.wd h
  unfold nat2
  have hv : v.toNat < wdt ws i := by omega
  have hr : (namesI ws es k)[i]?.getD [] = places (wdt ws i) (ordI es i) := by rw [List.getElem?_eq_getElem (by rw [namesI_len]; exact hk), Option.getD_some, namesI_get hk]
  rw [hr, List.getElem?_eq_getElem (by rw [places_len]; exact hv), Option.getD_some, places_get hv]
  congr 1; omega
theorem PT.sec_perm' {ws : List Int} {es : List (List Ed)} (p : PT ws es) {i k : Nat} (h : i < es.length) (hk : i + 1 < k) : (secI es i).Perm (es[i].map (ndE (namesI ws es k) i)) := by
  have : es[i].map (ndE (namesI ws es k) i) = es[i].map (renE (ordI es i) (ordI es (i+1))) := by
    apply List.map_congr_left
    intro e he
    have hb := p.sh.good i h e he
    unfold ndE renE
    rw [p.name (by omega) (by omega) hb.1 hb.2.1, p.name hk (by omega) hb.2.2.1 hb.2.2.2]
  rw [this]
  exact p.sec_perm h

/-- the least edges among the first -/
structure Lst (ord : List Int) (w : Nat) (l : List Ed) (least : List Ed) : Prop where
  len : least.length = w
  has : ∀ v : Int, 0 ≤ v → v < w → v ∈ l.map Ed.to → ∃ e ∈ l, e.to = v ∧ leastAt least v = ⟨posI ord e.fr, e.lb, 0⟩
  le : ∀ e ∈ l, ¬ LexLt (keyE ord e) (leastAt least e.to)
theorem Lst.keep {ord : List Int} {w : Nat} {l least : List Ed} {e : Ed} (s : Lst ord w l least) (hm : e.to ∈ l.map Ed.to) (h : ¬ LexLt (keyE ord e) (leastAt least e.to)) : Lst ord w (l ++ [e]) least := by
  refine ⟨s.len, fun v h0 h1 hv => ?_, fun x hx => ?_⟩
  · have hv' : v ∈ l.map Ed.to := by
      rw [List.map_append] at hv
      rcases List.mem_append.1 hv with h | h
      · exact h
      · have : v = e.to := by simpa using h
        rw [this]; exact hm
    obtain ⟨x, hx, h2, h3⟩ := s.has v h0 h1 hv'
    exact ⟨x, List.mem_append_left _ hx, h2, h3⟩
  · rcases List.mem_append.1 hx with hx | hx
    · exact s.le x hx
    · obtain rfl : x = e := by simpa using hx
      exact h
theorem leastAt_set {least : List Ed} {v : Int} {y : Ed} {k : Nat} (hk : k < least.length) (h0 : 0 ≤ v) : leastAt (least.set k y) v = if v = k then y else leastAt least v := by
  unfold leastAt
  rw [List.getElem?_set]
  by_cases c : v = k
  · subst c; simp [hk]
  · rw [if_neg c, if_neg (by omega)]
theorem Lst.put {ord : List Int} {w : Nat} {l least : List Ed} {e : Ed} (s : Lst ord w l least) {k : Nat} (he : e.to = k) (hk : k < w) (hb : ∀ x ∈ l, 0 ≤ x.to) (h : e.to ∉ l.map Ed.to ∨ LexLt (keyE ord e) (leastAt least e.to)) : Lst ord w (l ++ [e]) (least.set k ⟨posI ord e.fr, e.lb, 0⟩) := by
  have hkl : k < least.length := by rw [s.len]; exact hk
  refine ⟨by rw [List.length_set]; exact s.len, fun v h0 h1 hv => ?_, fun x hx => ?_⟩
  · rw [leastAt_set hkl h0]
    by_cases c : v = k
    · rw [if_pos c]; exact ⟨e, by simp, by omega, rfl⟩
    · rw [if_neg c]
      have hv' : v ∈ l.map Ed.to := by
        rw [List.map_append] at hv
        rcases List.mem_append.1 hv with h | h
        · exact h
        · have : v = e.to := by simpa using h
          omega
      obtain ⟨x, hx, h2, h3⟩ := s.has v h0 h1 hv'
      exact ⟨x, List.mem_append_left _ hx, h2, h3⟩
  · have hself : ∀ y : Ed, y.fr = e.fr → y.lb = e.lb → ¬ LexLt (keyE ord y) (⟨posI ord e.fr, e.lb, 0⟩ : Ed) := by
      intro y h1 h2
      unfold LexLt keyE
      rw [h1, h2]; simp only; omega
    rcases List.mem_append.1 hx with hx | hx
    · rw [leastAt_set hkl (hb x hx)]
      by_cases c : x.to = k
      · rw [if_pos c]
        have hxl : e.to ∈ l.map Ed.to := by rw [he, ← c]; exact List.mem_map_of_mem hx
        have h1 := h.resolve_left (fun h => h hxl)
        have h2 := s.le x hx
        rw [c, ← he] at h2
        unfold LexLt keyE at *
        simp only at *
        omega
      · rw [if_neg c]; exact s.le x hx
    · obtain rfl : x = e := by simpa using hx
      rw [leastAt_set hkl (by omega), if_pos he]
      exact hself x rfl rfl
theorem Lst.sorted {ws : List Int} {es : List (List Ed)} (p : PT ws es) {i : Nat} (h : i < es.length) {least : List Ed} (s : Lst (ordI es i) (wdt ws (i+1)) es[i] least) : (ordI es (i+1)).Pairwise fun u v => lessI (leastAt least u) (leastAt least v) < 0 := by
  obtain ⟨e, _, _⟩ := p.wd (i := i+1) (by omega)
  refine p.ord_sorted h (fun v h0 h1 => ?_) s.le
  obtain ⟨x, hx, hxv⟩ := (p.good i h).inn v h0 h1
  obtain ⟨y, hy, h2, h3⟩ := s.has v h0 (by omega) (by rw [← hxv]; exact List.mem_map_of_mem hx)
  refine ⟨y, hy, h2, ?_, ?_⟩ <;> (rw [h3]; unfold LexLt keyE; simp only; omega)

theorem marks_same {w : Nat} {xs : List Int} {v : Int} (h : v ∈ xs) : marks w (xs ++ [v]) = marks w xs := by
  unfold marks
  apply List.map_congr_left
  intro x hx
  rw [Bool.eq_iff_iff, decide_eq_true_iff, decide_eq_true_iff, List.mem_append, List.mem_singleton]
  exact ⟨fun h' => h'.elim id fun e => e ▸ h, .inl⟩
/-- the state while the nodes are numbered -/
structure NSt (ws : List Int) (es : List (List Ed)) (G H : Heap) (b2 k : Nat) (nv : V) (M : Nat) (us : List V) : Prop where
  gh : Heap.sub G H
  own : Own H nv M us
  gM : G M = none
  g2 : G b2 = none
  ne : M ≠ b2
  h2 : H b2 = some ⟨true, 1, [.nils, .nils]⟩
  len : us.length = k
  rows : ∀ r, r < k → ∃ u, us[r]? = some u ∧ SInts G u (places (wdt ws r) (ordI es r))
theorem NSt.grow {ws : List Int} {es : List (List Ed)} {G H H' : Heap} {b2 k : Nat} {nv : V} {M : Nat} {us : List V} (s : NSt ws es G H b2 k nv M us) (hs : Heap.sub H H') : NSt ws es G H' b2 k nv M us :=
  ⟨s.gh.trans' hs, ⟨s.own.eq, hs _ _ s.own.at_⟩, s.gM, s.g2, s.ne, hs _ _ s.h2, s.len, s.rows⟩

theorem Renumber_spec {sv ev : V} {ws : List Int} {es : List (List Ed)} {H : Heap} (hs : SInts H sv ws) (he : SSecs H ev es) : ACalls Try.prog 35 [.agg [sv, ev]] H fun u H' => Heap.sub H H' ∧
    ((properI ws es ≠ 0 ∧ u = .tup [.agg [.nils, .nils], .int .i64 (properI ws es)]) ∨ (properI ws es = 0 ∧ ∃ sv' ev', u = .tup [.agg [sv', ev'], .int .i64 0] ∧ SInts H' sv' ws ∧ SSecs H' ev' (renI es))) := by
  refine ACalls.of_body hm cv35 (by simp only [List.length_cons, List.length_nil]; decide) ?_
  simp only [F35, go_sem, ↓reduceIte, Nat.reduceEqDiff, Nat.reduceAdd, reduceCtorEq]
  refine newC_intro fun b1 H1 hn1 hs1 hb1 => ?_
  simp only [go_sem, ↓reduceIte, Nat.reduceEqDiff, Nat.reduceAdd, reduceCtorEq, fillV, List.length_cons, List.length_nil, splice, Nat.reduceLeDiff, Nat.zero_lt_one, and_self, List.take_zero, List.take_succ_cons, List.drop_succ_cons, List.drop_zero, List.drop_nil, Nat.reduceLT, Nat.le_refl]
  refine newC_intro fun b2 H2 hn2 hs2 hb2 => ?_
  have hs02 := hs1.trans' hs2
  have hb12 := hs2 _ _ hb1
  simp only [go_sem, ↓reduceIte, Nat.reduceEqDiff, Nat.reduceAdd, reduceCtorEq, ld_boxa hb12 (show 0 + 2 ≤ _ by simp), fillV, List.length_cons, List.length_nil, splice, Nat.reduceLeDiff, Nat.zero_lt_one, and_self, List.take_zero, List.take_succ_cons, List.drop_succ_cons, List.drop_zero, List.drop_nil, Nat.reduceLT, Nat.le_refl]
  refine callC_pure (Proper_spec (hs.mono hs02) (SSecs.mono he hs02)) ?_
  simp only [go_sem, ↓reduceIte, Nat.reduceEqDiff, Nat.reduceAdd, reduceCtorEq]
  have hH2 : H b2 = none := hs1.none' hn2
  refine iteC_if (fun c => ?_) (fun c => ?_)
  · simp only [go_sem, ↓reduceIte, Nat.reduceEqDiff, Nat.reduceAdd, reduceCtorEq, fillV, List.length_cons, List.length_nil, splice, Nat.reduceLeDiff, Nat.zero_lt_one, and_self, List.take_zero, List.take_succ_cons, List.drop_succ_cons, List.drop_zero, List.drop_nil, Nat.reduceLT, Nat.le_refl]
    refine stC_intro hb2 trivial rfl (by decide) (by decide) fun H3 hb3 hf3 hs3 => ?_
    simp only [go_sem, ↓reduceIte, Nat.reduceEqDiff, Nat.reduceAdd, reduceCtorEq]
    have hb3' : H3 b2 = some ⟨true, 1, [.nils, .nils]⟩ := hb3
    refine f_box2 (n := b2) (o := 0) (by simp only [go_sem, ↓reduceIte, Nat.reduceEqDiff, Nat.reduceAdd, reduceCtorEq]) hb3' (by decide) ?_
    simp only [go_sem, ↓reduceIte, Nat.reduceEqDiff, Nat.reduceAdd, reduceCtorEq]
    exact finO_self ⟨hs3 H hs02 hH2, .inl ⟨c, rfl⟩⟩
  have hp : properI ws es = 0 := Classical.byContradiction c
  have pt := pt_of hp
  have sh := pt.sh
  have hnb := sh.n
  have hwl := sh.len
  simp only [go_sem, ↓reduceIte, Nat.reduceEqDiff, Nat.reduceAdd, reduceCtorEq, fillV, List.length_cons, List.length_nil, splice, Nat.reduceLeDiff, Nat.zero_lt_one, and_self, List.take_zero, List.take_succ_cons, List.drop_succ_cons, List.drop_zero, List.drop_nil, Nat.reduceLT, Nat.le_refl]
  refine newC_intro fun e0 H3 hn3 hs3 hb3 => ?_
  simp only [go_sem, ↓reduceIte, Nat.reduceEqDiff, Nat.reduceAdd, reduceCtorEq, fillV, List.length_cons, List.length_nil, splice, Nat.reduceLeDiff, Nat.zero_lt_one, and_self, List.take_zero, List.take_succ_cons, List.drop_succ_cons, List.drop_zero, List.drop_nil, Nat.reduceLT, Nat.le_refl, show V.cells (V.sl e0 0 1 true) = [V.sl e0 0 1 true] from rfl]
  refine newC_intro fun e1 H4 hn4 hs4 hb4 => ?_
  have hs24 := hs3.trans' hs4
  have hb14 := hs24 _ _ hb12
  simp only [go_sem, ↓reduceIte, Nat.reduceEqDiff, Nat.reduceAdd, reduceCtorEq, ld_box hb14, SLists.len he]
  have h20 : b2 ≠ e1 := by rintro rfl; rw [hs3 _ _ hb2] at hn4; cases hn4
  have h21 : b2 ≠ e0 := by rintro rfl; rw [hb2] at hn3; cases hn3
  have h01 : e0 ≠ e1 := by rintro rfl; rw [hb3] at hn4; cases hn4
  have hs04 := hs02.trans' hs24
  have hHe1 : H e1 = none := (hs02.trans' hs3).none' hn4
  obtain ⟨G0, hG0⟩ : ∃ G0, G0 = (H4.upd b2 none).upd e1 none := ⟨_, rfl⟩
  have g0h : Heap.sub G0 H4 := by
    intro k c hk
    rw [hG0] at hk
    simp only [Heap.upd] at hk
    split at hk
    · cases hk
    · split at hk
      · cases hk
      · exact hk
  have hg0 : Heap.sub H G0 := by rw [hG0]; exact (hs04.upd' hH2 _).upd' hHe1 _
  have g01 : G0 e1 = none := by rw [hG0]; simp [Heap.upd]
  have g02 : G0 b2 = none := by rw [hG0]; simp [Heap.upd, h20]
  have g00 : G0 e0 = some ⟨true, 1, [.int .i64 0]⟩ := by rw [hG0]; simp only [Heap.upd, if_neg h01, if_neg (Ne.symm h21)]; exact hs4 _ _ hb3
  have hb12n : b1 ≠ b2 := by rintro rfl; rw [hb1] at hn2; cases hn2
  have hb1e : b1 ≠ e1 := by rintro rfl; rw [hs3 _ _ hb12] at hn4; cases hn4
  have g0b : G0 b1 = some ⟨true, 1, [sv, ev]⟩ := by rw [hG0]; simp only [Heap.upd, if_neg hb1e, if_neg hb12n]; exact hb14
  clear hG0
  have he0 := SSecs.mono he hg0
  have hsv0 := hs.mono hg0
  have hw0 : wdt ws 0 = 1 := by unfold wdt; rw [pt.w0]; rfl
  have st0 : NSt ws es G0 H4 b2 1 (.sl e1 0 1 true) e1 [.sl e0 0 1 true] := by
    refine ⟨g0h, ⟨⟨true, rfl⟩, hb4⟩, g01, g02, Ne.symm h20, hs24 _ _ hb2, rfl, fun r hr => ?_⟩
    obtain rfl : r = 0 := by omega
    refine ⟨_, rfl, ?_⟩
    rw [hw0]
    exact sl_block g00 rfl (by decide)
  refine range_loop es.length (fun i env H' => ∃ G nv M us, env 1 = .ptr b1 0 ∧ env 2 = .ptr b2 0 ∧ env 5 = nv ∧ env 22 = ev ∧ env 23 = .int .i64 es.length ∧ env 24 = .int .i64 i ∧ Heap.sub G0 G ∧ NSt ws es G H' b2 (i+1) nv M us) (by omega) (by decide) (by decide) ?_ ?_ ?_ ?_
  · rintro k env H' ⟨_, _, _, _, _, _, _, _, h7, h8, _⟩; exact ⟨h8, h7⟩
  · simp only [go_sem, ↓reduceIte, Nat.reduceEqDiff, Nat.reduceAdd, reduceCtorEq]
    exact ⟨G0, _, e1, _, by first | rfl | trivial, by first | rfl | trivial, by first | rfl | trivial, by first | rfl | trivial, by first | rfl | trivial, by first | rfl | trivial, Heap.sub.rfl', st0⟩
  · rintro i env H7 hi ⟨G, nv, M, us, h1, h2, h5, h22, h23, h24, hg, st⟩
    obtain ⟨p, ue, a1, a2, a3⟩ := SLists.get he0 hi .i64
    have hgood := sh.good i hi
    have heach := sh.each i hi
    obtain ⟨hwi, hw1, hw2⟩ := pt.wd (i := i+1) (by omega)
    obtain ⟨w, hw⟩ : ∃ w, w = wdt ws (i+1) := ⟨_, rfl⟩
    rw [← hw] at hwi hw1 hw2
    have hil : i + 1 < ws.length := by omega
    obtain ⟨pw, d1, d2⟩ := SInts.get hsv0 hil .i64
    have hwg : ws[i+1] = (w : Int) := by rw [← hwi]; simp [hil]
    rw [hwg] at d2
    have hg7 := hg.trans' st.gh
    have d7 := hg7 _ _ g0b
    have wi : IntKind.i64.wrap ((i : Int) + 1) = ((i + 1 : Nat) : Int) := wrapN1 (by omega)
    simp only [go_sem, ↓reduceIte, Nat.reduceEqDiff, Nat.reduceAdd, reduceCtorEq, h1, h2, h5, h22, h23, h24, a1, ld_mono hg7 a2, ld_box d7, wi, d1, ld_mono hg7 d2]
    refine mkC_intro (by omega) (by omega) (by omega) fun nl Ha hna hsa hba => ?_
    simp only [go_sem, ↓reduceIte, Nat.reduceEqDiff, Nat.reduceAdd, reduceCtorEq, fillV, List.length_cons, List.length_nil, splice, Nat.reduceLeDiff, Nat.zero_lt_one, and_self, List.take_zero, List.take_succ_cons, List.drop_succ_cons, List.drop_zero, List.drop_nil, Nat.reduceLT, Nat.le_refl, beq_self_eq_true]
    refine newC_intro fun b8 Hb hnb8 hsb hbb => ?_
    simp only [go_sem, ↓reduceIte, Nat.reduceEqDiff, Nat.reduceAdd, reduceCtorEq]
    refine stC_intro hbb trivial rfl (by decide) (by decide) fun Hc hbc hfc hsc => ?_
    have hbc : Hc b8 = some ⟨true, 1, [.sl nl 0 w true]⟩ := hbc
    have hs7c : Heap.sub H7 Hc := hsc H7 (hsa.trans' hsb) (hsa.none' hnb8)
    have hsac : Heap.sub Ha Hc := hsc Ha hsb hnb8
    simp only [go_sem, ↓reduceIte, Nat.reduceEqDiff, Nat.reduceAdd, reduceCtorEq, h1, h2, h5, h22, h23, h24, ld_box (hs7c _ _ d7), wi, d1, ld_mono (hg7.trans' hs7c) d2]
    refine mkC_intro (by omega) (by omega) (by omega) fun ns Hd hnd hsd hbd => ?_
    have hs7d := hs7c.trans' hsd
    have hns7 : H7 ns = none := hs7c.none' hnd
    have hnl8 : b8 ≠ nl := by rintro rfl; rw [hba] at hnb8; cases hnb8
    have hns8 : b8 ≠ ns := by rintro rfl; rw [hbc] at hnd; cases hnd
    have hnls : nl ≠ ns := by rintro rfl; rw [hsac _ _ hba] at hnd; cases hnd
    obtain ⟨F, hF⟩ : ∃ F, F = (Hd.upd nl none).upd ns none := ⟨_, rfl⟩
    have fh : Heap.sub F Hd := by
      intro k c hk
      rw [hF] at hk
      simp only [Heap.upd] at hk
      split at hk
      · cases hk
      · split at hk
        · cases hk
        · exact hk
    have h7f : Heap.sub H7 F := by rw [hF]; exact (hs7d.upd' hna _).upd' hns7 _
    have fl : F nl = none := by rw [hF]; simp [Heap.upd]
    have fs : F ns = none := by rw [hF]; simp [Heap.upd]
    have f8 : F b8 = some ⟨true, 1, [.sl nl 0 w true]⟩ := by rw [hF]; simp only [Heap.upd, if_neg hns8, if_neg hnl8]; exact hsd _ _ hbc
    clear hF
    have stF := st.grow h7f
    have hgF := hg.trans' stF.gh
    have hnl_d : Hd nl = some ⟨true, 3, ecells (List.replicate w ⟨0, 0, 0⟩)⟩ := by
      rw [hsd _ _ (hsac _ _ hba)]
      simp [ecells, Ed.cells]
    have hns_d : Hd ns = some ⟨true, 1, bools (marks w [])⟩ := by rw [hbd, flat_rep, marks_nil]
    simp only [go_sem, ↓reduceIte, Nat.reduceEqDiff, Nat.reduceAdd, reduceCtorEq, h1, h2, h5, h22, h23, h24, SEds.len a3, beq_self_eq_true]
    refine blk_join (fun env H' => env 1 = .ptr b1 0 ∧ env 2 = .ptr b2 0 ∧ env 5 = nv ∧ env 6 = .int .i64 i ∧ env 8 = .ptr b8 0 ∧ env 9 = .sl ns 0 w true ∧ env 22 = ev ∧ env 23 = .int .i64 es.length ∧ env 24 = .int .i64 i ∧ Heap.sub F H' ∧ (∃ least, H' nl = some ⟨true, 3, ecells least⟩ ∧ Lst (ordI es i) w es[i] least) ∧ H' ns = some ⟨true, 1, bools (marks w (es[i].map Ed.to))⟩) ?_ ?_
    · refine range_loop es[i].length (fun j env H' => env 1 = .ptr b1 0 ∧ env 2 = .ptr b2 0 ∧ env 5 = nv ∧ env 6 = .int .i64 i ∧ env 8 = .ptr b8 0 ∧ env 9 = .sl ns 0 w true ∧ env 22 = ev ∧ env 23 = .int .i64 es.length ∧ env 24 = .int .i64 i ∧ env 43 = ue ∧ env 44 = .int .i64 es[i].length ∧ env 45 = .int .i64 j ∧ Heap.sub F H' ∧ (∃ least, H' nl = some ⟨true, 3, ecells least⟩ ∧ Lst (ordI es i) w (es[i].take j) least) ∧ H' ns = some ⟨true, 1, bools (marks w ((es[i].take j).map Ed.to))⟩) (by omega) (by decide) (by decide) ?_ ?_ ?_ ?_
      · rintro k env H' ⟨_, _, _, _, _, _, _, _, _, _, h7, h8, _⟩; exact ⟨h8, h7⟩
      · simp only [go_sem, ↓reduceIte, Nat.reduceEqDiff, Nat.reduceAdd, reduceCtorEq, h1, h2, h5, h22, h23, h24]
        exact ⟨by first | rfl | trivial, by first | rfl | trivial, by first | rfl | trivial, by first | rfl | trivial, by first | rfl | trivial, by first | rfl | trivial, by first | rfl | trivial, by first | rfl | trivial, by first | rfl | trivial, by first | rfl | trivial, by first | rfl | trivial, by first | rfl | trivial, fh, ⟨_, hnl_d, by simp, fun v _ _ h => by simp at h, fun e h => by simp at h⟩, hns_d⟩
      · rintro j env H8 hj ⟨h1, h2, h5, h6, h8, h9, h22, h23, h24, h43, h44, h45, hf8, ⟨least, hbl, lst⟩, hbs⟩
        obtain ⟨p', q0, q1, q2, c1, c2, c3, c4, c5, c6, c7, c8⟩ := (SEds.mono a3 (hgF.trans' hf8)).get hj .i64
        have hb := hgood _ (List.getElem_mem hj)
        simp only [go_sem, ↓reduceIte, Nat.reduceEqDiff, Nat.reduceAdd, reduceCtorEq, h1, h2, h5, h6, h8, h9, h22, h23, h24, h43, h44, h45, c1, c2]
        refine newC_intro fun b11 H9 hn9 hs9 hb9 => ?_
        simp only [go_sem, ↓reduceIte, Nat.reduceEqDiff, Nat.reduceAdd, reduceCtorEq]
        refine stC_intro hb9 trivial rfl (by decide) (by decide) fun H10 hb10 hf10 hs10 => ?_
        have hb10 : H10 b11 = some ⟨true, 1, [.int .i64 es[i][j].fr, .int .i64 es[i][j].lb, .int .i64 es[i][j].to]⟩ := hb10
        have hs810 := hs10 _ hs9 hn9
        have st10 := stF.grow (hf8.trans' hs810)
        obtain ⟨ur, r1, r2⟩ := st10.rows i (by omega)
        obtain ⟨hwi0, _, _⟩ := pt.wd (i := i) (by omega)
        obtain ⟨kf, hkf⟩ : ∃ kf : Nat, es[i][j].fr = kf := ⟨es[i][j].fr.toNat, by omega⟩
        obtain ⟨kt, hkt⟩ : ∃ kt : Nat, es[i][j].to = kt := ⟨es[i][j].to.toNat, by omega⟩
        have hkfw : kf < wdt ws i := by omega
        have hktw : kt < w := by omega
        obtain ⟨qr, r3, r4⟩ := SInts.get (k := kf) r2 (by rw [places_len]; exact hkfw) .i64
        rw [places_get hkfw, ← hkf] at r4
        rw [← hkf] at r3
        obtain ⟨⟨fn, hnv⟩, hM⟩ := st10.own
        have hii : i < us.length := by rw [st10.len]; omega
        simp only [go_sem, ↓reduceIte, Nat.reduceEqDiff, Nat.reduceAdd, reduceCtorEq, h1, h2, h5, h6, h8, h9, h22, h23, h24, h43, h44, h45, hnv, ia_nat hii, Nat.zero_add, Nat.mul_one, ld_box hM, r1, ld_box hb10, r3, ld_mono st10.gh r4]
        refine newC_intro fun b12 H11 hn11 hs11 hb11 => ?_
        simp only [go_sem, ↓reduceIte, Nat.reduceEqDiff, Nat.reduceAdd, reduceCtorEq]
        refine stC_intro hb11 trivial rfl (by decide) (by decide) fun H12 hb12 hf12 hs12 => ?_
        have hb12 : H12 b12 = some ⟨true, 1, [.int .i64 (posI (ordI es i) es[i][j].fr), .int .i64 es[i][j].lb, .int .i64 0]⟩ := hb12
        have hs1012 := hs12 _ hs11 hn11
        have hs812 := hs810.trans' hs1012
        have hb1012 := hs1012 _ _ hb10
        have hbl12 := hs812 _ _ hbl
        have hbs12 := hs812 _ _ hbs
        have hf12' := hf8.trans' hs812
        have f812 := hf12' _ _ f8
        have hll := lst.len
        have hrl := Eed.read (H := H12) (N := nl) (xs := least) (i := kt) hbl12 (by omega)
        have hla : leastAt least es[i][j].to = least[kt]'(by omega) := by rw [hkt]; simp [leastAt, show kt < least.length by omega]
        have iat : iaV 1 (.sl ns 0 w true) (.int .i64 es[i][j].to) = some (.ptr ns kt) := by rw [hkt, ia_el hktw, Nat.mul_one]
        have iae : iaV 3 (.sl nl 0 w true) (.int .i64 es[i][j].to) = some (.ptr nl (kt * 3)) := by rw [hkt, ia_el hktw]
        have hbool : (bools (marks w ((es[i].take j).map Ed.to)))[kt]? = some (.bool (decide (es[i][j].to ∈ (es[i].take j).map Ed.to))) := by rw [marks_get hktw, hkt]
        simp only [i_nil, t_normal]
        refine seq_join (fun env H' => H12 = H' ∧ env 1 = .ptr b1 0 ∧ env 2 = .ptr b2 0 ∧ env 5 = nv ∧ env 6 = .int .i64 i ∧ env 8 = .ptr b8 0 ∧ env 9 = .sl ns 0 w true ∧ env 22 = ev ∧ env 23 = .int .i64 es.length ∧ env 24 = .int .i64 i ∧ env 43 = ue ∧ env 44 = .int .i64 es[i].length ∧ env 45 = .int .i64 j ∧ env 11 = .ptr b11 0 ∧ env 12 = .ptr b12 0 ∧ ∃ cc, env 75 = .bool cc ∧ (cc = true → es[i][j].to ∉ (es[i].take j).map Ed.to ∨ LexLt (keyE (ordI es i) es[i][j]) (leastAt least es[i][j].to)) ∧ (cc = false → es[i][j].to ∈ (es[i].take j).map Ed.to ∧ ¬ LexLt (keyE (ordI es i) es[i][j]) (leastAt least es[i][j].to))) ?_ ?_
        · by_cases cm : es[i][j].to ∈ (es[i].take j).map Ed.to
          · simp only [go_sem, ↓reduceIte, Nat.reduceEqDiff, Nat.reduceAdd, reduceCtorEq, h1, h2, h5, h6, h8, h9, h22, h23, h24, h43, h44, h45, ld_box hb1012, ld_box f812, iat, ld_box hbs12, hbool, cm, ld_boxa hb12 (show 0 + 3 ≤ 3 by decide), iae, hrl, Bool.not_true, fillV, List.length_cons, List.length_nil, splice, Nat.reduceLeDiff, Nat.zero_lt_one, and_self, List.take_zero, List.take_succ_cons, List.drop_succ_cons, List.drop_zero, List.drop_nil, Nat.reduceLT, Nat.le_refl]
            refine callC_pure (less_spec ⟨posI (ordI es i) es[i][j].fr, es[i][j].lb, 0⟩ (least[kt]'(by omega)) H12) ?_
            simp only [go_sem, ↓reduceIte, Nat.reduceEqDiff, Nat.reduceAdd, reduceCtorEq, h1, h2, h5, h6, h8, h9, h22, h23, h24, h43, h44, h45]
            have hiff := less_lt ⟨posI (ordI es i) es[i][j].fr, es[i][j].lb, 0⟩ (least[kt]'(by omega))
            have hsame : LexLt (keyE (ordI es i) es[i][j]) (leastAt least es[i][j].to) ↔ LexLt ⟨posI (ordI es i) es[i][j].fr, es[i][j].lb, 0⟩ (least[kt]'(by omega)) := by rw [hla]; exact Iff.rfl
            refine ⟨by first | rfl | trivial, by first | rfl | trivial, by first | rfl | trivial, by first | rfl | trivial, by first | rfl | trivial, by first | rfl | trivial, by first | rfl | trivial, by first | rfl | trivial, by first | rfl | trivial, by first | rfl | trivial, by first | rfl | trivial, by first | rfl | trivial, by first | rfl | trivial, by first | rfl | trivial, by first | rfl | trivial, decide (lessI ⟨posI (ordI es i) es[i][j].fr, es[i][j].lb, 0⟩ (least[kt]'(by omega)) < 0), by first | rfl | trivial, fun h => .inr (hsame.2 (hiff.1 (of_decide_eq_true h))), fun h => ⟨by first | exact cm | trivial, fun h2 => (of_decide_eq_false h) (hiff.2 (hsame.1 h2))⟩⟩
          · simp only [go_sem, ↓reduceIte, Nat.reduceEqDiff, Nat.reduceAdd, reduceCtorEq, h1, h2, h5, h6, h8, h9, h22, h23, h24, h43, h44, h45, ld_box hb1012, ld_box f812, iat, ld_box hbs12, hbool, cm, ld_boxa hb12 (show 0 + 3 ≤ 3 by decide), iae, hrl, Bool.not_false, fillV, List.length_cons, List.length_nil, splice, Nat.reduceLeDiff, Nat.zero_lt_one, and_self, List.take_zero, List.take_succ_cons, List.drop_succ_cons, List.drop_zero, List.drop_nil, Nat.reduceLT, Nat.le_refl]
            exact ⟨by first | rfl | trivial, by first | rfl | trivial, by first | rfl | trivial, by first | rfl | trivial, by first | rfl | trivial, by first | rfl | trivial, by first | rfl | trivial, by first | rfl | trivial, by first | rfl | trivial, by first | rfl | trivial, by first | rfl | trivial, by first | rfl | trivial, by first | rfl | trivial, by first | rfl | trivial, by first | rfl | trivial, true, by first | rfl | trivial, fun _ => .inl (by first | exact cm | trivial), fun h => by cases h⟩
        · rintro env H' ⟨rfl, h1, h2, h5, h6, h8, h9, h22, h23, h24, h43, h44, h45, h11, h12, cc, h75, hc1, hc2⟩
          have htake : es[i].take (j+1) = es[i].take j ++ [es[i][j]] := by rw [List.take_add_one, List.getElem?_eq_getElem hj]; rfl
          cases cc
          · obtain ⟨hc3, hc4⟩ := hc2 rfl
            simp only [go_sem, ↓reduceIte, Nat.reduceEqDiff, Nat.reduceAdd, reduceCtorEq, h1, h2, h5, h6, h8, h9, h22, h23, h24, h43, h44, h45, h75]
            refine ⟨by first | rfl | trivial, by first | rfl | trivial, by first | rfl | trivial, by first | rfl | trivial, by first | rfl | trivial, by first | rfl | trivial, by first | rfl | trivial, by first | rfl | trivial, by first | rfl | trivial, by first | rfl | trivial, by first | rfl | trivial, by first | rfl | trivial, by first | rfl | trivial, hf12', ⟨least, hbl12, ?_⟩, ?_⟩
            · rw [htake]; exact lst.keep hc3 hc4
            · rw [htake, List.map_append, show List.map Ed.to [es[i][j]] = [es[i][j].to] from rfl, marks_same hc3]; exact hbs12
          · simp only [go_sem, ↓reduceIte, Nat.reduceEqDiff, Nat.reduceAdd, reduceCtorEq, h1, h2, h5, h6, h8, h9, h22, h23, h24, h43, h44, h45, h75, h11, h12, ld_box hb1012, ld_box f812, sameName, beq_self_eq_true, true_and, iae, ld_boxa hb12 (show 0 + 3 ≤ 3 by decide), fillV, List.length_cons, List.length_nil, splice, Nat.reduceLeDiff, Nat.zero_lt_one, and_self, List.take_zero, List.take_succ_cons, List.drop_succ_cons, List.drop_zero, List.drop_nil, Nat.reduceLT, Nat.le_refl]
            refine stC_intro hbl12 ?_ rfl (by decide) (by rw [ecells_len]; show kt * 3 + 3 ≤ _; omega) fun H13 hb13 hf13 hs13 => ?_
            · simp only [offAll, go_sem, ↓reduceIte, Nat.reduceEqDiff, Nat.reduceAdd, reduceCtorEq, h11]
              exact ⟨(by rintro rfl; rw [hbl] at hn9; cases hn9), trivial⟩
            have hbs13 : H13 ns = some ⟨true, 1, bools (marks w ((es[i].take j).map Ed.to))⟩ := by rw [hf13 ns (Ne.symm hnls)]; exact hbs12
            simp only [go_sem, ↓reduceIte, Nat.reduceEqDiff, Nat.reduceAdd, reduceCtorEq, h1, h2, h5, h6, h8, h9, h22, h23, h24, h43, h44, h45, iat]
            refine stC_intro hbs13 trivial rfl (by decide) (by rw [bools_len, marks_len]; omega) fun H14 hb14' hf14 hs14 => ?_
            simp only [go_sem, ↓reduceIte, Nat.reduceEqDiff, Nat.reduceAdd, reduceCtorEq, h1, h2, h5, h6, h8, h9, h22, h23, h24, h43, h44, h45]
            refine ⟨by first | rfl | trivial, by first | rfl | trivial, by first | rfl | trivial, by first | rfl | trivial, by first | rfl | trivial, by first | rfl | trivial, by first | rfl | trivial, by first | rfl | trivial, by first | rfl | trivial, by first | rfl | trivial, by first | rfl | trivial, by first | rfl | trivial, hs14 F (hs13 F hf12' fl) fs, ⟨least.set kt ⟨posI (ordI es i) es[i][j].fr, es[i][j].lb, 0⟩, ?_, ?_⟩, ?_⟩
            · rw [hf14 nl hnls, hb13, ← Eed_cells, ← Eed_cells, ← Eed.splice (xs := least) (i := kt) (by omega)]
              rfl
            · rw [htake]
              refine lst.put hkt hktw (fun x hx => ?_) (hc1 rfl)
              exact (hgood x (List.mem_of_mem_take hx)).2.2.1
            · rw [hb14', cells_bool, splice_one _ _ _ (by rw [bools_len, marks_len]; omega), bools_set, marks_snoc, htake, List.map_append, ← hkt]
              rfl
      · rintro env H' ⟨h1, h2, h5, h6, h8, h9, h22, h23, h24, h43, h44, h45, hf8, hbl, hbs⟩
        simp only [go_sem, ↓reduceIte, Nat.reduceEqDiff, Nat.reduceAdd, reduceCtorEq, h1, h2, h5, h6, h8, h9, h22, h23, h24, h43, h44, h45]
        rw [List.take_length] at hbl hbs
        exact ⟨by first | rfl | trivial, by first | rfl | trivial, by first | rfl | trivial, by first | rfl | trivial, by first | rfl | trivial, by first | rfl | trivial, by first | rfl | trivial, by first | rfl | trivial, by first | rfl | trivial, hf8, hbl, hbs⟩
    · rintro env H8 ⟨h1, h2, h5, h6, h8, h9, h22, h23, h24, hf8, ⟨least, hbl, lst⟩, hbs⟩
      rw [hw] at lst
      have hso := lst.sorted pt hi
      have ho := pt.ord (i+1) (by omega)
      rw [hwi] at ho
      have f88 := hf8 _ _ f8
      have hll : least.length = w := by rw [lst.len, hw]
      simp only [go_sem, ↓reduceIte, Nat.reduceEqDiff, Nat.reduceAdd, reduceCtorEq, h1, h2, h5, h6, h8, h9, h22, h23, h24, ld_box f88]
      refine callC_grow (order_spec (renCmp f88 hbl hll) Heap.sub.rfl' hw1 hw2 ho hso) ?_
      rintro u H9 hs9 ⟨m, rfl, hm, hbm⟩
      simp only [go_sem, ↓reduceIte, Nat.reduceEqDiff, Nat.reduceAdd, reduceCtorEq, fillV, List.length_cons, List.length_nil, splice, Nat.reduceLeDiff, Nat.zero_lt_one, and_self, List.take_zero, List.take_succ_cons, List.drop_succ_cons, List.drop_zero, List.drop_nil, Nat.reduceLT, Nat.le_refl, show V.cells (V.sl m 0 w true) = [V.sl m 0 w true] from rfl]
      refine newC_intro fun bx H10 hn10 hs10 hb10 => ?_
      have st8 := stF.grow hf8
      have st10 := st8.grow (hs9.trans' hs10)
      have hln := st10.len
      simp only [go_sem, ↓reduceIte, Nat.reduceEqDiff, Nat.reduceAdd, reduceCtorEq, h1, h2, h5, h6, h8, h9, h22, h23, h24]
      refine appC_own st10.own hb10 (by omega) (by omega) fun m2 H11 hm2 own2 hf11 => ?_
      have hmM : m ≠ M := by rintro rfl; rw [st8.own.at_] at hm; cases hm
      have hm12 : m ≠ m2 := by rintro rfl; rw [hs10 _ _ hbm] at hm2; cases hm2
      have hgm : G m = none := st8.gh.none' hm
      have hgm2 : G m2 = none := st10.gh.none' hm2
      have hb2m : b2 ≠ m := by rintro rfl; rw [st8.h2] at hm; cases hm
      have hb2m2 : b2 ≠ m2 := by rintro rfl; rw [st10.h2] at hm2; cases hm2
      have hgg : Heap.sub G (G.upd m (some ⟨true, 1, ints (places w (ordI es (i+1)))⟩)) := fun k c hk => by
        have : k ≠ m := by rintro rfl; rw [hgm] at hk; cases hk
        simp [Heap.upd, this, hk]
      simp only [go_sem, ↓reduceIte, Nat.reduceEqDiff, Nat.reduceAdd, reduceCtorEq, h1, h2, h5, h6, h8, h9, h22, h23, h24]
      refine ⟨by first | rfl | trivial, G.upd m (some ⟨true, 1, ints (places w (ordI es (i+1)))⟩), _, m2, us ++ [.sl m 0 w true], by first | rfl | trivial, by first | rfl | trivial, by first | rfl | trivial, by first | rfl | trivial, by first | rfl | trivial, by first | rfl | trivial, hg.trans' hgg, fun k c hk => ?_, ?_, ?_, ?_, Ne.symm hb2m2, ?_, by rw [List.length_append, hln]; rfl, fun r hr => ?_⟩
      · by_cases e : k = m
        · subst e
          rw [hf11 k hm12 hmM, hs10 _ _ hbm]
          simpa [Heap.upd] using hk
        · have hk' : G k = some c := by simpa [Heap.upd, e] using hk
          have k1 : k ≠ m2 := by rintro rfl; rw [hgm2] at hk'; cases hk'
          have k2 : k ≠ M := by rintro rfl; rw [st10.gM] at hk'; cases hk'
          rw [hf11 k k1 k2]
          exact st10.gh k c hk'
      · exact ⟨⟨false, by rw [List.length_append]; rfl⟩, own2.at_⟩
      · simp only [Heap.upd, if_neg (Ne.symm hm12)]; exact hgm2
      · simp only [Heap.upd, if_neg hb2m]; exact st10.g2
      · rw [hf11 b2 hb2m2 (Ne.symm st10.ne)]; exact st10.h2
      · rcases Nat.lt_succ_iff_lt_or_eq.1 hr with hr | rfl
        · obtain ⟨u, x1, x2⟩ := st10.rows r (by omega)
          exact ⟨u, by rw [List.getElem?_append_left (by omega)]; exact x1, x2.mono hgg⟩
        · refine ⟨.sl m 0 w true, by rw [List.getElem?_append_right (by omega), hln]; simp, ?_⟩
          rw [← hw]
          have := sl_block (f := true) (H := G.upd m (some ⟨true, 1, ints (places w (ordI es (i+1)))⟩)) (n := m) (sz := 1) (len := w) (own := true) (cs := ints (places w (ordI es (i+1)))) (by simp [Heap.upd]) (by rw [ints_len, places_len]; omega) (by omega)
          unfold SInts
          rw [places_len]
          exact this
  · rintro env H' ⟨G, nv, M, us, h1, h2, h5, h22, h23, h24, hg, st⟩
    have d5 := st.gh _ _ (hg _ _ g0b)
    obtain ⟨Gx, hGx⟩ : ∃ Gx, Gx = H'.upd b2 none := ⟨_, rfl⟩
    have gxh : Heap.sub Gx H' := by
      intro k c hk
      rw [hGx] at hk
      simp only [Heap.upd] at hk
      split at hk
      · cases hk
      · exact hk
    have ggx : Heap.sub G Gx := by rw [hGx]; exact st.gh.upd' st.g2 _
    have gx2 : Gx b2 = none := by rw [hGx]; simp [Heap.upd]
    have hln := st.len
    obtain ⟨⟨fv, hnv⟩, hM'⟩ := st.own
    have hM : Gx M = some ⟨true, 1, us⟩ := by rw [hGx]; simp only [Heap.upd, if_neg st.ne]; exact hM'
    have hgs := hg0.trans' (hg.trans' ggx)
    have hrows : SRows Gx nv (namesI ws es (es.length + 1)) := by
      rw [hnv]
      refine ⟨us, ?_, fun r hr => ?_⟩
      · rw [namesI_len, ← hln]
        exact sl_block hM (by omega) (by omega)
      · rw [namesI_len] at hr
        obtain ⟨u, x1, x2⟩ := st.rows r hr
        rw [namesI_get hr]
        exact ⟨u, x1, x2.mono ggx⟩
    simp only [go_sem, ↓reduceIte, Nat.reduceEqDiff, Nat.reduceAdd, reduceCtorEq, h1, h2, h5, h22, h23, h24, ld_boxa d5 (show 0 + 2 ≤ 2 by decide), fillV, List.length_cons, List.length_nil, splice, Nat.reduceLeDiff, Nat.zero_lt_one, and_self, List.take_zero, List.take_succ_cons, List.drop_succ_cons, List.drop_zero, List.drop_nil, Nat.reduceLT, Nat.le_refl]
    refine callC_in (G := Gx) (rename_spec (out := renI es) (hs.mono hgs) (SSecs.mono he hgs) sh hrows (namesI_len _ _ _) (fun r hr => ?_) (fun r hr => ?_) (renI_len es) (fun r hr => ?_) (fun r hr => ?_)) gxh ?_
    · rw [namesI_len] at hr
      rw [namesI_get hr, places_len, (pt.wd (by omega)).1]
    · obtain ⟨_, q1, _⟩ := pt.wd (i := r) (by omega)
      obtain ⟨e, he', _⟩ := (pt.good r hr).out 0 (by omega) (by rw [(pt.wd (i := r) (by omega)).1]; omega)
      exact List.ne_nil_of_mem he'
    · rw [renI_get hr]; exact pt.sec_perm' hr (by omega)
    · rw [renI_get hr]; exact pt.sec_sorted hr
    rintro u H9 G9 hs9 gs1 gs2 gs3 ⟨sv', ev', rfl, x1, x2⟩
    have g92 := gs3 b2 gx2 (by rw [st.h2]; simp)
    simp only [go_sem, ↓reduceIte, Nat.reduceEqDiff, Nat.reduceAdd, reduceCtorEq, h1, h2, h5, h22, h23, h24]
    refine stC_intro (hs9 _ _ st.h2) trivial rfl (by decide) (by decide) fun H10 hb10 hf10 hs10 => ?_
    have hb10 : H10 b2 = some ⟨true, 1, [sv', ev']⟩ := hb10
    have hs910 := hs10 G9 gs2 g92
    simp only [go_sem, ↓reduceIte, Nat.reduceEqDiff, Nat.reduceAdd, reduceCtorEq]
    refine f_box2 (n := b2) (o := 0) (by simp only [go_sem, ↓reduceIte, Nat.reduceEqDiff, Nat.reduceAdd, reduceCtorEq, h2]) hb10 (by show 0 + 2 ≤ 2; decide) ?_
    simp only [go_sem, ↓reduceIte, Nat.reduceEqDiff, Nat.reduceAdd, reduceCtorEq]
    exact finO_self ⟨(hgs.trans' gs1).trans' hs910, .inr ⟨hp, sv', ev', rfl, x1.mono hs910, SSecs.mono x2 hs910⟩⟩
end Go.AM
