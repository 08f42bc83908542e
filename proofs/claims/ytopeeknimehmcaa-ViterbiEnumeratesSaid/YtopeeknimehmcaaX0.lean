/- What a proper trellis is; the small trellis that the laws look at. Conditions: none. -/
import Derived.Test.YtopeeknimehmcaaP3
set_option linter.unusedVariables false
set_option linter.unusedSimpArgs false
namespace Go.AM
open Go Go.Proofs

theorem proper_of {ws : List Int} {es : List (List Ed)} (h : properI ws es = 0) : shapeI ws es = 0 ∧ ws[0]?.getD 0 = 1 ∧ ws[es.length]?.getD 0 = 1 ∧ ∀ i, (h : i < es.length) → GoodSec (ws[i]?.getD 0) (ws[i+1]?.getD 0) es[i] := by
  unfold properI at h
  split at h
  · rename_i c; exact absurd h c
  rename_i c0
  split at h
  · omega
  rename_i c1
  split at h
  · rename_i c2
    exact ⟨by omega, by omega, by omega, c2⟩
  · omega

theorem sl_block {H : Heap} {n sz len : Nat} {own f : Bool} {cs : List V} (h : H n = some ⟨own, sz, cs⟩) (hl : cs.length = len * sz) (hb : len ≤ 281474976710656) : Sl H (.sl n 0 len f) sz len cs :=
  ⟨hl, hb, .inr ⟨n, 0, f, _, rfl, h, rfl, .inr (by simp [hl]), fun j hj => by simp⟩⟩

def exW : List Int := [1, 1]
def exE : List (List Ed) := [[⟨0, 0, 0⟩, ⟨0, 1, 0⟩]]
theorem ex_shape : shapeI exW exE = 0 := by
  unfold shapeI
  rw [if_neg (by decide), if_neg (by decide), if_neg (by decide), if_neg (by decide), if_neg]
  rintro ⟨i, hi, e, he, hb⟩
  obtain rfl : i = 0 := by simp [exE] at hi; omega
  have : e = ⟨0, 0, 0⟩ ∨ e = ⟨0, 1, 0⟩ := by simpa [exE] using he
  rcases this with rfl | rfl <;> simp [BadE, exW] at hb
theorem ex_proper : properI exW exE = 0 := by
  unfold properI
  rw [if_neg (by rw [ex_shape]; decide), if_neg (by decide), if_pos]
  intro i hi
  obtain rfl : i = 0 := by simp [exE] at hi; omega
  refine ⟨fun e he => ?_, fun j h => ?_, fun v v0 v1 => ?_, fun v v0 v1 => ?_⟩
  · have : e = ⟨0, 0, 0⟩ ∨ e = ⟨0, 1, 0⟩ := by simpa [exE] using he
    rcases this with rfl | rfl <;> decide
  · obtain rfl : j = 0 := by simp [exE] at h; omega
    exact .inr ⟨rfl, show (0 : Int) < 1 by decide⟩
  · have e1 : (exW[0]?.getD 0 : Int) = 1 := rfl
    rw [e1] at v1
    exact ⟨⟨0, 0, 0⟩, by simp [exE], by show (0 : Int) = v; omega⟩
  · have e1 : (exW[0+1]?.getD 0 : Int) = 1 := rfl
    rw [e1] at v1
    exact ⟨⟨0, 0, 0⟩, by simp [exE], by show (0 : Int) = v; omega⟩
end Go.AM
