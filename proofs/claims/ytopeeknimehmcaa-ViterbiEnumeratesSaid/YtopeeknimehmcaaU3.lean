/- Lists of the program's data. Conditions: none. -/
import Derived.Test.YtopeeknimehmcaaU2
set_option linter.unusedVariables false
set_option linter.unusedSimpArgs false
namespace Go.AM
open Go

def ints (xs : List Int) : List V := xs.map (.int .i64)
theorem ints_get {xs : List Int} {k : Nat} (h : k < xs.length) : (ints xs)[k]? = some (.int .i64 xs[k]) := by simp [ints, h]
theorem ints_len (xs : List Int) : (ints xs).length = xs.length := by simp [ints]

/-- an edge -/
structure Ed where
  fr : Int
  lb : Int
  to : Int
  deriving DecidableEq
def Ed.cells (e : Ed) : List V := [.int .i64 e.fr, .int .i64 e.lb, .int .i64 e.to]
def ecells (l : List Ed) : List V := (l.map Ed.cells).flatten
theorem ecells_len (l : List Ed) : (ecells l).length = l.length * 3 := by
  induction l with
  | nil => rfl
  | cons e r ih =>
    simp only [ecells, List.map_cons, List.flatten_cons, List.length_append, List.length_cons] at ih ⊢
    rw [ih]; simp [Ed.cells]; omega
theorem ecells_drop (l : List Ed) (k : Nat) : (ecells l).drop (k * 3) = ecells (l.drop k) := by
  induction k generalizing l with
  | zero => simp
  | succ k ih =>
    cases l with
    | nil => simp [ecells]
    | cons e r =>
      have : (k + 1) * 3 = 3 + k * 3 := by omega
      simp only [List.drop_succ_cons, ← ih r, this, ← List.drop_drop]
      rfl
theorem ecells_at {l : List Ed} {k : Nat} (h : k < l.length) : ((ecells l).drop (k * 3)).take 3 = l[k].cells := by
  rw [ecells_drop, List.drop_eq_getElem_cons h]; rfl
theorem ecells_get {l : List Ed} {k : Nat} (h : k < l.length) (j : Nat) (hj : j < 3) : (ecells l)[k * 3 + j]? = l[k].cells[j]? := by
  have := congrArg (fun x => x[j]?) (ecells_at h)
  simp only [List.getElem?_take, List.getElem?_drop, hj, if_true] at this
  exact this

/-- a slice of ints; of edges; of slices of edges; of slices of ints -/
def SInts (H : Heap) (v : V) (xs : List Int) : Prop := Sl H v 1 xs.length (ints xs)
def SEds (H : Heap) (v : V) (l : List Ed) : Prop := Sl H v 3 l.length (ecells l)
/-- a slice of slices -/
def SLists {α : Type} (S : Heap → V → α → Prop) (H : Heap) (v : V) (ls : List α) : Prop :=
  ∃ vs : List V, Sl H v 1 ls.length vs ∧ ∀ i, (h : i < ls.length) → ∃ u, vs[i]? = some u ∧ S H u ls[i]
def SSecs (H : Heap) (v : V) (ls : List (List Ed)) : Prop := SLists SEds H v ls
def SRows (H : Heap) (v : V) (ls : List (List Int)) : Prop := SLists SInts H v ls

theorem SInts.mono {H H' : Heap} {v : V} {xs : List Int} (h : SInts H v xs) (hs : Heap.sub H H') : SInts H' v xs := Sl.mono h hs
theorem SEds.mono {H H' : Heap} {v : V} {xs : List Ed} (h : SEds H v xs) (hs : Heap.sub H H') : SEds H' v xs := Sl.mono h hs
theorem SLists.mono {α : Type} {S : Heap → V → α → Prop} (hS : ∀ {H H' v a}, S H v a → Heap.sub H H' → S H' v a) {H H' : Heap} {v : V} {ls : List α} (h : SLists S H v ls) (hs : Heap.sub H H') : SLists S H' v ls := by
  obtain ⟨vs, h1, h2⟩ := h
  exact ⟨vs, h1.mono hs, fun i hi => by obtain ⟨u, a, b⟩ := h2 i hi; exact ⟨u, a, hS b hs⟩⟩
theorem SSecs.mono {H H' : Heap} {v : V} {ls : List (List Ed)} (h : SSecs H v ls) (hs : Heap.sub H H') : SSecs H' v ls := SLists.mono (S := SEds) (fun a b => SEds.mono a b) h hs
theorem SRows.mono {H H' : Heap} {v : V} {ls : List (List Int)} (h : SRows H v ls) (hs : Heap.sub H H') : SRows H' v ls := SLists.mono (S := SInts) (fun a b => SInts.mono a b) h hs
theorem SInts.len {H : Heap} {v : V} {xs : List Int} (h : SInts H v xs) : lenR v = some (.int .i64 xs.length) := Sl.len h
theorem SEds.len {H : Heap} {v : V} {xs : List Ed} (h : SEds H v xs) : lenR v = some (.int .i64 xs.length) := Sl.len h
theorem SLists.len {α : Type} {S : Heap → V → α → Prop} {H : Heap} {v : V} {ls : List α} (h : SLists S H v ls) : lenR v = some (.int .i64 ls.length) := by obtain ⟨vs, h1, h2⟩ := h; exact h1.len
theorem SInts.lt {H : Heap} {v : V} {xs : List Int} (h : SInts H v xs) : xs.length ≤ 281474976710656 := Sl.lt h
theorem SEds.lt {H : Heap} {v : V} {xs : List Ed} (h : SEds H v xs) : xs.length ≤ 281474976710656 := Sl.lt h
theorem SLists.lt {α : Type} {S : Heap → V → α → Prop} {H : Heap} {v : V} {ls : List α} (h : SLists S H v ls) : ls.length ≤ 281474976710656 := by obtain ⟨vs, h1, h2⟩ := h; exact h1.lt
theorem SInts.get {H : Heap} {v : V} {xs : List Int} (h : SInts H v xs) {k : Nat} (hk : k < xs.length) (kd : IntKind) : ∃ p, iaV 1 v (.int kd k) = some p ∧ ldV H false 1 p = some (.int .i64 xs[k]) := by
  obtain ⟨p, h1, h2⟩ := Sl.at1 h (kd := kd) hk
  exact ⟨p, h1, by rw [h2, ints_get hk]⟩
theorem SLists.get {α : Type} {S : Heap → V → α → Prop} {H : Heap} {v : V} {ls : List α} (h : SLists S H v ls) {k : Nat} (hk : k < ls.length) (kd : IntKind) : ∃ p u, iaV 1 v (.int kd k) = some p ∧ ldV H false 1 p = some u ∧ S H u ls[k] := by
  obtain ⟨vs, h1, h2⟩ := h
  obtain ⟨p, h3, h4⟩ := h1.at1 (kd := kd) hk
  obtain ⟨u, h5, h6⟩ := h2 k hk
  exact ⟨p, u, h3, by rw [h4, h5], h6⟩
theorem SEds.get {H : Heap} {v : V} {xs : List Ed} (h : SEds H v xs) {k : Nat} (hk : k < xs.length) (kd : IntKind) : ∃ p q0 q1 q2, iaV 3 v (.int kd k) = some p ∧ ldV H true 3 p = some (.agg xs[k].cells) ∧
    faV 0 p = some q0 ∧ faV 1 p = some q1 ∧ faV 2 p = some q2 ∧ ldV H false 1 q0 = some (.int .i64 xs[k].fr) ∧ ldV H false 1 q1 = some (.int .i64 xs[k].lb) ∧ ldV H false 1 q2 = some (.int .i64 xs[k].to) := by
  obtain ⟨p, h1, h2, h3⟩ := Sl.at h (kd := kd) hk
  obtain ⟨q0, a0, b0⟩ := h3 0 (by omega)
  obtain ⟨q1, a1, b1⟩ := h3 1 (by omega)
  obtain ⟨q2, a2, b2⟩ := h3 2 (by omega)
  rw [ecells_get hk _ (by omega)] at b0 b1 b2
  exact ⟨p, q0, q1, q2, h1, by rw [h2, ecells_at hk], a0, a1, a2, b0, b1, b2⟩

/-- sums -/
def sumI : List Int → Int
  | [] => 0
  | x :: r => x + sumI r
theorem sumI_take_succ : ∀ {l : List Int} {k : Nat} (h : k < l.length), sumI (l.take (k+1)) = sumI (l.take k) + l[k]
  | [], _, h => by simp at h
  | x :: r, 0, _ => by simp [sumI]
  | x :: r, k+1, h => by
    have := sumI_take_succ (l := r) (k := k) (by simpa using h)
    simp only [List.take_succ_cons, sumI, List.getElem_cons_succ] at this ⊢
    omega
theorem sumI_nonneg : ∀ {l : List Int}, (∀ x ∈ l, 0 ≤ x) → 0 ≤ sumI l
  | [], _ => by simp [sumI]
  | x :: r, h => by
    have := sumI_nonneg (l := r) fun y hy => h y (List.mem_cons_of_mem _ hy)
    have := h x (List.mem_cons_self ..)
    simp only [sumI]; omega
theorem sumI_append (a b : List Int) : sumI (a ++ b) = sumI a + sumI b := by
  induction a with
  | nil => simp [sumI]
  | cons x r ih => simp only [List.cons_append, sumI, ih]; omega
theorem sumI_take_le {l : List Int} (h : ∀ x ∈ l, 0 ≤ x) (k : Nat) : sumI (l.take k) ≤ sumI l := by
  have := sumI_append (l.take k) (l.drop k)
  rw [List.take_append_drop] at this
  have := sumI_nonneg (l := l.drop k) fun x hx => h x (List.mem_of_mem_drop hx)
  omega
end Go.AM
