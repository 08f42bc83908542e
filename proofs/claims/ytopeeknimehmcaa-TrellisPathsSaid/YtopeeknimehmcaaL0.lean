/- math/bits.Len32, walked by the shelf's template, and as a contract of the abstract machine. Conditions: x is a uint32. -/
import Derived.Test.YtopeeknimehmcaaP0
import Derived.Lib.Strings
import Derived.Lib.Slices
import Derived.Lib.Small
import Derived.Lib.Walk
import Derived.Lib.BitFns
namespace Go.Proofs

set_option maxHeartbeats 4000000 in
set_option maxRecDepth 100000 in
/-- bits.Len32: "Len32 returns the minimum number of bits required to represent x; the result is 0 for x == 0.": IT RETURNS 'Lib.bitLen x'; the world is as it was. ('h0', 'h1': x is a uint32.) -/
theorem Try.bits_Len32 (x : Int) (w : World) (h0 : 0 ≤ x) (h1 : x ≤ 4294967295) :
    Calls Try.prog 107 #[.int .u32 x] w fun e w' => e = .returned (.int .i64 (Lib.bitLen x.toNat)) ∧ w' = w := by
  go_enter Try.func107, Try.ntmps107
  go_wp2
  all_goals (go_ret; refine ⟨congrArg Ending.returned (congrArg (Value.int IntKind.i64) ?_), rfl⟩)
  all_goals first
    | (rw [Lib.len8_of (x / 65536 / 256 % 256) (by omega) (by omega)]
       have e : (x / 65536 / 256 % 256).toNat = x.toNat / 16777216 := by omega
       have l := Lib.bitLen_le8' (x / 65536 / 256 % 256) (by omega) (by omega)
       have s := Lib.bitLen_shift24 x.toNat (by omega) (by omega)
       rw [e] at l ⊢
       omega)
    | (rw [Lib.len8_of (x / 65536 % 256) (by omega) (by omega)]
       have e : (x / 65536 % 256).toNat = x.toNat / 65536 := by omega
       have l := Lib.bitLen_le8' (x / 65536 % 256) (by omega) (by omega)
       have s := Lib.bitLen_shift16 x.toNat (by omega) (by omega)
       rw [e] at l ⊢
       omega)
    | (rw [Lib.len8_of (x / 256 % 256) (by omega) (by omega)]
       have e : (x / 256 % 256).toNat = x.toNat / 256 := by omega
       have l := Lib.bitLen_le8' (x / 256 % 256) (by omega) (by omega)
       have s := Lib.bitLen_shift8 x.toNat (by omega) (by omega)
       rw [e] at l ⊢
       omega)
    | (rw [Lib.len8_of (x % 256) (by omega) (by omega)]
       have e : (x % 256).toNat = x.toNat := by omega
       have l := Lib.bitLen_le8' (x % 256) (by omega) (by omega)
       rw [e] at l ⊢
       omega)

end Go.Proofs
namespace Go.AM
open Go Go.Proofs

theorem Len32_spec {x : Int} (h0 : 0 ≤ x) (h1 : x ≤ 4294967295) (H : Heap) : ACalls Try.prog 107 [.int .u32 x] H fun u H' => u = .int .i64 (Lib.bitLen x.toNat) ∧ H' = H := by
  refine ⟨by kernel_rfl, fun μ w cargs hs hv => ?_⟩
  obtain ⟨v, r, e, hv1, hr⟩ : ∃ v r, cargs.toList = v :: r ∧ VRel μ (.int .u32 x) v ∧ VRels μ [] r := by simpa only [VRels] using hv
  have hr' : r = [] := by simpa only [VRels] using hr
  have hv' : v = .int .u32 x := by simpa only [VRel] using hv1
  subst hr' hv'
  obtain rfl : cargs = #[.int .u32 x] := by cases cargs; simp_all
  refine (Try.bits_Len32 x w h0 h1).mono ?_
  rintro e w' ⟨rfl, rfl⟩
  exact ⟨μ, _, .int .i64 (Lib.bitLen x.toNat), H, rfl, Tr.refl _ _ _, hs, by simp only [VRel], rfl, rfl⟩

theorem bitLenAux_bounds : ∀ (f x : Nat), x < 2 ^ f → x < 2 ^ Lib.bitLenAux f x ∧ (x ≠ 0 → 2 ^ Lib.bitLenAux f x ≤ 2 * x)
  | 0, x, h => by
    have : x = 0 := by simpa using h
    subst this
    exact ⟨by simp [Lib.bitLenAux], fun h => absurd rfl h⟩
  | f+1, x, h => by
    by_cases e : x = 0
    · subst e
      exact ⟨by simp [Lib.bitLenAux], fun h => absurd rfl h⟩
    · obtain ⟨a, b⟩ := bitLenAux_bounds f (x / 2) (by rw [Nat.pow_succ] at h; omega)
      simp only [Lib.bitLenAux, if_neg e]
      rw [Nat.add_comm 1, Nat.pow_succ]
      refine ⟨by omega, fun _ => ?_⟩
      by_cases e2 : x / 2 = 0
      · have : x = 1 := by omega
        subst this
        have : Lib.bitLenAux f 0 = 0 := by cases f <;> simp [Lib.bitLenAux]
        simp [this]
      · have := b e2
        omega
theorem bitLen_bounds {x : Nat} (h : x < 18446744073709551616) : x < 2 ^ Lib.bitLen x ∧ (x ≠ 0 → 2 ^ Lib.bitLen x ≤ 2 * x) := bitLenAux_bounds 64 x h
end Go.AM
