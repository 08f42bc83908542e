/- nat.times: plain laws. Conditions: none. -/
import Derived.Test.YtopeeknimehmcaaN3
set_option linter.unusedVariables false
set_option linter.unusedSimpArgs false
namespace Go.AM
open Go Go.Proofs

theorem nval_set : ∀ {l : List Int} {k : Nat} (h : k < l.length) (v : Int), nval (l.set k v) = nval l + 4294967296 ^ k * (v - l[k])
  | [], _, h, _ => by simp at h
  | x :: r, 0, _, v => by simp only [List.set_cons_zero, nval, Int.pow_zero, Int.one_mul, List.getElem_cons_zero]; omega
  | x :: r, k+1, h, v => by
    have := nval_set (l := r) (k := k) (by simpa using h) v
    simp only [List.set_cons_succ, nval, this, List.getElem_cons_succ, Int.pow_succ]
    rw [Int.mul_add, Int.mul_comm (4294967296 ^ k) 4294967296, Int.mul_assoc]
    omega
/-- one place of one row -/
theorem mul_step {O c P T s o y x : Int} (h : O + c * P = T) (hs : s = x * y + o + c) : O + P * (s % 4294967296 - o) + (s / 4294967296) * (4294967296 * P) = T + x * y * P := by
  have e : s = 4294967296 * (s / 4294967296) + s % 4294967296 := by omega
  have e2 : P * s = P * (s % 4294967296) + (s / 4294967296) * (4294967296 * P) := by
    conv => lhs; rw [e]
    rw [Int.mul_add, Int.add_comm]
    congr 1
    rw [← Int.mul_assoc, Int.mul_comm P, Int.mul_assoc, Int.mul_comm P, ← Int.mul_assoc, Int.mul_comm 4294967296, Int.mul_assoc]
  have e3 : P * s = x * y * P + P * o + c * P := by
    rw [hs, Int.mul_add, Int.mul_add, Int.mul_comm P (x * y), Int.mul_comm P c]
  rw [Int.mul_sub]
  omega
end Go.AM
