/- Natural numbers as lists of limbs. Conditions: none. -/
import Derived.Test.YtopeeknimehmcaaT0
set_option linter.unusedVariables false
set_option linter.unusedSimpArgs false
namespace Go.AM
open Go

def u32s (xs : List Int) : List V := xs.map (.int .u32)
theorem u32s_get {xs : List Int} {k : Nat} (h : k < xs.length) : (u32s xs)[k]? = some (.int .u32 xs[k]) := by simp [u32s, h]
theorem u32s_len (xs : List Int) : (u32s xs).length = xs.length := by simp [u32s]
/-- the value of a list of limbs, the least one first -/
def nval : List Int → Int
  | [] => 0
  | x :: r => x + 4294967296 * nval r
def Limbs (xs : List Int) : Prop := ∀ x ∈ xs, 0 ≤ x ∧ x < 4294967296
/-- no zero at the end -/
def Canon (xs : List Int) : Prop := ∀ x, xs.getLast? = some x → x ≠ 0
theorem nval_append (a b : List Int) : nval (a ++ b) = nval a + 4294967296 ^ a.length * nval b := by
  induction a with
  | nil => simp [nval]
  | cons x r ih =>
    simp only [List.cons_append, nval, ih, List.length_cons, Int.pow_succ]
    rw [Int.mul_add, ← Int.mul_assoc, Int.mul_comm (4294967296 : Int) (4294967296 ^ r.length)]
    omega
theorem nval_nonneg {xs : List Int} (h : Limbs xs) : 0 ≤ nval xs := by
  induction xs with
  | nil => simp [nval]
  | cons x r ih =>
    have h0 := h x (List.mem_cons_self ..)
    have := ih fun y hy => h y (List.mem_cons_of_mem _ hy)
    simp only [nval]; omega
theorem nval_zeros : ∀ {xs : List Int}, (∀ x ∈ xs, x = 0) → nval xs = 0
  | [], _ => rfl
  | x :: r, h => by
    have := nval_zeros (xs := r) fun y hy => h y (List.mem_cons_of_mem _ hy)
    have := h x (List.mem_cons_self ..)
    simp only [nval]; omega
theorem nval_pos {xs : List Int} (h : Limbs xs) (hc : Canon xs) (hne : xs ≠ []) : 0 < nval xs := by
  induction xs with
  | nil => exact absurd rfl hne
  | cons x r ih =>
    have h0 := h x (List.mem_cons_self ..)
    have hr : Limbs r := fun y hy => h y (List.mem_cons_of_mem _ hy)
    simp only [nval]
    by_cases e : r = []
    · subst e
      have := hc x (by simp)
      simp only [nval]; omega
    · have := ih hr (fun y hy => hc y (by rw [List.getLast?_cons, hy]; rfl)) e
      omega
/-- canonical lists of one value are the same -/
theorem nval_inj : ∀ {xs ys : List Int}, Limbs xs → Limbs ys → Canon xs → Canon ys → nval xs = nval ys → xs = ys
  | [], [], _, _, _, _, _ => rfl
  | [], y :: s, _, h2, _, c2, e => by
    have := nval_pos h2 c2 (by simp)
    simp only [nval] at e this; omega
  | x :: r, [], h1, _, c1, _, e => by
    have := nval_pos h1 c1 (by simp)
    simp only [nval] at e this; omega
  | x :: r, y :: s, h1, h2, c1, c2, e => by
    have hx := h1 x (List.mem_cons_self ..)
    have hy := h2 y (List.mem_cons_self ..)
    have hr : Limbs r := fun y hy => h1 y (List.mem_cons_of_mem _ hy)
    have hs : Limbs s := fun y hy => h2 y (List.mem_cons_of_mem _ hy)
    have cr : Canon r := fun y hy => c1 y (by rw [List.getLast?_cons, hy]; rfl)
    have cs : Canon s := fun y hy => c2 y (by rw [List.getLast?_cons, hy]; rfl)
    simp only [nval] at e
    have e1 : x = y := by omega
    have e2 : nval r = nval s := by omega
    rw [e1, nval_inj hr hs cr cs e2]

theorem wrap32 (n : Int) : IntKind.u32.wrap n = n % 4294967296 := by simp [IntKind.wrap, IntKind.bits, IntKind.signed]
theorem wrap64 (n : Int) : IntKind.u64.wrap n = n % 18446744073709551616 := by simp [IntKind.wrap, IntKind.bits, IntKind.signed]
theorem bv_shr32 (a : Int) : binV .shr (.int .u64 a) (.int .u64 32) = some (.int .u64 (a / 4294967296)) := by
  have : a.fdiv 4294967296 = a / 4294967296 := Int.fdiv_eq_ediv_of_nonneg a (by decide)
  simp [binV, IntKind.bits, this]
theorem nval_take_succ {l : List Int} {k : Nat} (h : k < l.length) : nval (l.take (k+1)) = nval (l.take k) + 4294967296 ^ k * l[k] := by
  rw [List.take_add_one, List.getElem?_eq_getElem h, nval_append]
  have : (l.take k).length = k := by rw [List.length_take]; omega
  rw [this]
  simp [nval]
theorem carry_step (A X Y P c s : Int) (h : A + c * P = X + Y) : A + P * (s % 4294967296) + (s / 4294967296) * (4294967296 * P) = X + Y + P * (s - c) := by
  have e : s = 4294967296 * (s / 4294967296) + s % 4294967296 := by omega
  have e1 : P * (s - c) = P * s - c * P := by rw [Int.mul_sub, Int.mul_comm P c]
  have e2 : P * s = P * (s % 4294967296) + (s / 4294967296) * (4294967296 * P) := by
    conv => lhs; rw [e]
    rw [Int.mul_add, Int.add_comm]
    congr 1
    rw [← Int.mul_assoc, Int.mul_comm P, Int.mul_assoc, Int.mul_comm P, ← Int.mul_assoc, Int.mul_comm 4294967296, Int.mul_assoc]
  omega
/-- a number in the heap: in any form; in the canonical one -/
def SLimbs (H : Heap) (u : V) (xs : List Int) : Prop := Sl H u 1 xs.length (u32s xs)
def SNat (H : Heap) (u : V) (n : Int) (L : Nat) : Prop := ∃ xs, SLimbs H u xs ∧ Limbs xs ∧ nval xs = n ∧ xs.length ≤ L
def CNat (H : Heap) (u : V) (n : Int) (L : Nat) : Prop := ∃ xs, SLimbs H u xs ∧ Limbs xs ∧ Canon xs ∧ nval xs = n ∧ xs.length ≤ L
theorem SLimbs.mono {H H' : Heap} {v : V} {xs : List Int} (h : SLimbs H v xs) (hs : Heap.sub H H') : SLimbs H' v xs := Sl.mono h hs
theorem SLimbs.len {H : Heap} {v : V} {xs : List Int} (h : SLimbs H v xs) : lenR v = some (.int .i64 xs.length) := Sl.len h
theorem SLimbs.lt {H : Heap} {v : V} {xs : List Int} (h : SLimbs H v xs) : xs.length ≤ 281474976710656 := Sl.lt h
theorem SLimbs.get {H : Heap} {v : V} {xs : List Int} (h : SLimbs H v xs) {k : Nat} (hk : k < xs.length) (kd : IntKind) : ∃ p, iaV 1 v (.int kd k) = some p ∧ ldV H false 1 p = some (.int .u32 xs[k]) := by
  obtain ⟨p, h1, h2⟩ := Sl.at1 h (kd := kd) hk
  exact ⟨p, h1, by rw [h2, u32s_get hk]⟩
theorem CNat.nat {H : Heap} {u : V} {n : Int} {L : Nat} (h : CNat H u n L) : SNat H u n L := by obtain ⟨xs, a, b, _, c⟩ := h; exact ⟨xs, a, b, c⟩
theorem CNat.mono {H H' : Heap} {v : V} {n : Int} {L : Nat} (h : CNat H v n L) (hs : Heap.sub H H') : CNat H' v n L := by obtain ⟨xs, a, b, c, d⟩ := h; exact ⟨xs, a.mono hs, b, c, d⟩
theorem SNat.mono {H H' : Heap} {v : V} {n : Int} {L : Nat} (h : SNat H v n L) (hs : Heap.sub H H') : SNat H' v n L := by obtain ⟨xs, a, b, d⟩ := h; exact ⟨xs, a.mono hs, b, d⟩
theorem CNat.up {H : Heap} {v : V} {n : Int} {L L' : Nat} (h : CNat H v n L) (hl : L ≤ L') : CNat H v n L' := by obtain ⟨xs, a, b, c, d, e⟩ := h; exact ⟨xs, a, b, c, d, by omega⟩

/-- a slice's first n items, and no room behind them -/
theorem sli_take {H : Heap} {v : V} {xs : List Int} {n : Nat} {k1 k2 : IntKind} (h : SLimbs H v xs) (hn : n ≤ xs.length) : ∃ u, sliV H 1 v none (some (.int k1 n)) (some (.int k2 n)) = some u ∧ SLimbs H u (xs.take n) := by
  obtain ⟨h1, h2, ⟨rfl, h3⟩ | ⟨m, o, f, b, rfl, hb, hz, hl, hj⟩⟩ := h
  · obtain rfl : n = 0 := by omega
    exact ⟨.nils, by simp [sliV, cutOf], by simp [SLimbs, u32s, Sl]⟩
  · refine ⟨.sl m o n true, ?_, ?_⟩
    · simp [sliV, hb, cutOf, hz, hn]
    · have hlen : (xs.take n).length = n := by rw [List.length_take]; omega
      refine ⟨by rw [u32s_len]; omega, by omega, .inr ⟨m, o, true, b, by rw [hlen], hb, hz, ?_, fun j hj' => ?_⟩⟩
      · rw [hlen]
        rcases hl with hl | hl
        · exact .inl (by omega)
        · exact .inr (by omega)
      · rw [hj j (by omega)]
        have : j < n := by omega
        simp [u32s, this]

/-- a copy: append(nil, a...) -/
theorem appC_nils {H : Heap} {env : Env} {d : Option Nat} {K : Env → Heap → Prop} {u : V} {xs : List Int} {bytes : Nat} (hx : SLimbs H u xs) (hb : xs.length * bytes ≤ 140737488355328) (hb2 : xs.length ≤ 140737488355328)
    (hk : ∀ u' H', Heap.sub H H' → SLimbs H' u' xs → K (env.put d u') H') : appC H env 1 bytes .nils u [] d K := by
  have hlen : lenV u = xs.length := Sl.lenV hx
  have h0 : lenV .nils = 0 := rfl
  have hc : cellsAt H 1 u = some (u32s xs) := by
    obtain ⟨h1, h2, ⟨rfl, h3⟩ | ⟨m, o, f, b, rfl, hbk, hz, hl, hj⟩⟩ := hx
    · have : xs = [] := List.length_eq_zero_iff.1 h3
      subst this; rfl
    · unfold cellsAt
      by_cases e : xs.length = 0
      · have : xs = [] := List.length_eq_zero_iff.1 e
        subst this; simp [u32s]
      · have hle := hl.resolve_left e
        simp only [e, if_false, hbk, if_pos hle]
        congr 1
        apply List.ext_getElem?
        intro j
        simp only [List.getElem?_take, List.getElem?_drop]
        by_cases hjl : j < xs.length * 1
        · rw [if_pos hjl, hj j hjl]
        · rw [if_neg hjl, List.getElem?_eq_none (by rw [u32s_len]; omega)]
  unfold appC
  rw [hc, hlen, h0, Nat.zero_add]
  refine ⟨hb, hb2, ?_⟩
  by_cases e : xs.length = 0
  · rw [if_pos e]
    have : xs = [] := List.length_eq_zero_iff.1 e
    subst this
    exact ⟨hk _ _ Heap.sub.rfl' ⟨by simp [u32s], by simp, .inl ⟨rfl, rfl⟩⟩, .inl rfl⟩
  · rw [if_neg e]
    intro m hm
    refine hk _ _ (Heap.sub.upd' Heap.sub.rfl' hm _) ⟨by rw [u32s_len]; omega, by omega, .inr ⟨m, 0, false, ⟨true, 1, u32s xs⟩, rfl, by simp [Heap.upd], rfl, .inr (by simp [u32s]), fun j hj => by simp⟩⟩
end Go.AM
