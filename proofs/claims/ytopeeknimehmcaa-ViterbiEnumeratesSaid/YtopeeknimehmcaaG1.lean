/- The arguments of this seat's laws. Conditions: none. -/
import Derived.Test.YtopeeknimehmcaaG0
import Derived.Test.YtopeeknimehmcaaP0
import Derived.Test.YtopeeknimehmcaaRows
import Derived.ProofKit
import Derived.OpenShut
import Derived.ShutString
import Derived.ChangeOld
set_option linter.unusedVariables false
set_option linter.unusedSimpArgs false
namespace Go.AM
open Go Go.Proofs Go.RowKit Go.ChangeShapes Go.WideShapes Go.ChangeAt

theorem opens_i : Opens Try.prog 3 (TInt .i64) := opens_int Try.underlying3
theorem opens_is : Opens Try.prog 22 (TSl 1 8 (TInt .i64)) := opens_slice Try.underlying22 (by kernel_rfl) (by decide) (by kernel_rfl) (by decide) opens_i
theorem opens_iss : Opens Try.prog 26 (TSl 1 24 (TSl 1 8 (TInt .i64))) := opens_slice Try.underlying26 (by kernel_rfl) (by decide) (by kernel_rfl) (by decide) opens_is
theorem opens_edge : Opens Try.prog 72 fun H vs => ∃ a b c, vs = [a, b, c] ∧ TInt .i64 H [a] ∧ TInt .i64 H [b] ∧ TInt .i64 H [c] :=
  opens_struct3 Try.underlying72 (by kernel_rfl) rfl rfl rfl (by kernel_rfl) (by kernel_rfl) (by kernel_rfl) opens_i opens_i opens_i
theorem opens_edges : Opens Try.prog 70 (TSl 3 24 fun H vs => ∃ a b c, vs = [a, b, c] ∧ TInt .i64 H [a] ∧ TInt .i64 H [b] ∧ TInt .i64 H [c]) := opens_slice Try.underlying70 (by kernel_rfl) (by decide) (by kernel_rfl) (by decide) opens_edge
theorem opens_secs : Opens Try.prog 23 (TSl 1 24 (TSl 3 24 fun H vs => ∃ a b c, vs = [a, b, c] ∧ TInt .i64 H [a] ∧ TInt .i64 H [b] ∧ TInt .i64 H [c])) := opens_slice Try.underlying23 (by kernel_rfl) (by decide) (by kernel_rfl) (by decide) opens_edges
theorem opens_trellis : Opens Try.prog 25 fun H vs => ∃ a b, vs = [a, b] ∧ TSl 1 8 (TInt .i64) H [a] ∧ TSl 1 24 (TSl 3 24 fun H vs => ∃ a b c, vs = [a, b, c] ∧ TInt .i64 H [a] ∧ TInt .i64 H [b] ∧ TInt .i64 H [c]) H [b] :=
  opens_struct2 Try.underlying25 (by kernel_rfl) rfl rfl (by kernel_rfl) (by kernel_rfl) opens_is opens_secs

/-- the ints of a Go int -/
def I64 (x : Int) : Prop := -9223372036854775808 ≤ x ∧ x ≤ 9223372036854775807
theorem i64_of_wf {n : Int} (h : (Lit.int .i64 n).wf = true) : I64 n := by
  simp [Lit.wf, IntKind.min, IntKind.max, IntKind.signed, IntKind.bits] at h
  exact ⟨by omega, by omega⟩
theorem list_of {α : Type} {p : Nat → α → Prop} : ∀ (n : Nat), (∀ i, i < n → ∃ a, p i a) → ∃ l : List α, l.length = n ∧ ∀ i (h : i < l.length), p i l[i]
  | 0, _ => ⟨[], rfl, fun i h => by simp at h⟩
  | n+1, h => by
    obtain ⟨l, hl, hp⟩ := list_of n fun i hi => h i (by omega)
    obtain ⟨a, ha⟩ := h n (by omega)
    refine ⟨l ++ [a], by simp [hl], fun i hi => ?_⟩
    by_cases e : i < l.length
    · rw [List.getElem_append_left e]; exact hp i e
    · have : i = n := by simp at hi; omega
      subst this
      rw [List.getElem_append_right (by omega)]
      simpa [hl] using ha

theorem Sl.congr {H : Heap} {v : V} {sz len : Nat} {cs cs' : List V} (h : Sl H v sz len cs) (e : cs = cs') : Sl H v sz len cs' := e ▸ h

theorem is_of {H : Heap} {v : V} (h : TSl 1 8 (TInt .i64) H [v]) : ∃ xs : List Int, SInts H v xs ∧ ∀ x ∈ xs, I64 x := by
  obtain ⟨v', len, cs, e, hs, _, hi⟩ := h
  obtain rfl : v = v' := by simpa using e
  have hlen : cs.length = len := by have := hs.1; omega
  obtain ⟨xs, hl, hx⟩ := list_of (α := Int) (p := fun i x => cs[i]? = some (.int .i64 x) ∧ I64 x) len fun i hl => by
    obtain ⟨n, hn, hw⟩ := hi i hl
    refine ⟨n, ?_, i64_of_wf hw⟩
    have := congrArg (fun l => l[0]?) hn
    simpa [List.getElem?_take, List.getElem?_drop] using this
  have hcs : cs = ints xs := by
    apply List.ext_getElem?
    intro i
    by_cases hh : i < xs.length
    · rw [(hx i hh).1, ints_get hh]
    · rw [List.getElem?_eq_none (by omega), List.getElem?_eq_none (by rw [ints_len]; omega)]
  subst hl hcs
  exact ⟨xs, hs, fun x hm => by obtain ⟨i, hi, rfl⟩ := List.getElem_of_mem hm; exact (hx i hi).2⟩

def EdI (e : Ed) : Prop := I64 e.fr ∧ I64 e.lb ∧ I64 e.to
theorem eds_of {H : Heap} {v : V} (h : TSl 3 24 (fun H vs => ∃ a b c, vs = [a, b, c] ∧ TInt .i64 H [a] ∧ TInt .i64 H [b] ∧ TInt .i64 H [c]) H [v]) : ∃ l : List Ed, SEds H v l ∧ ∀ e ∈ l, EdI e := by
  obtain ⟨v', len, cs, e, hs, _, hi⟩ := h
  obtain rfl : v = v' := by simpa using e
  have hlen := hs.1
  obtain ⟨l, hl, hx⟩ := list_of (α := Ed) (p := fun i x => (cs.drop (i * 3)).take 3 = x.cells ∧ EdI x) len fun i hl => by
    obtain ⟨a, b, c, hn, ⟨x, hx, wx⟩, ⟨y, hy, wy⟩, ⟨z, hz, wz⟩⟩ := hi i hl
    simp only [List.cons.injEq, and_true] at hx hy hz
    subst hx hy hz
    exact ⟨⟨x, y, z⟩, hn, i64_of_wf wx, i64_of_wf wy, i64_of_wf wz⟩
  have hcs : cs = ecells l := by
    apply List.ext_getElem?
    intro i
    by_cases hh : i < len * 3
    · have hd : i / 3 < l.length := by omega
      have h1 := (hx (i/3) hd).1
      have h2 := ecells_at hd
      rw [← h2] at h1
      have := congrArg (fun l => l[i % 3]?) h1
      simp only [List.getElem?_take, List.getElem?_drop, Nat.mod_lt i (by omega : 3 > 0), if_true] at this
      rwa [show i / 3 * 3 + i % 3 = i by omega] at this
    · rw [List.getElem?_eq_none (by omega), List.getElem?_eq_none (by rw [ecells_len]; omega)]
  subst hl hcs
  exact ⟨l, hs, fun x hm => by obtain ⟨i, hi, rfl⟩ := List.getElem_of_mem hm; exact (hx i hi).2⟩

theorem lists_of {α : Type} {S : Heap → V → α → Prop} {T : Heap → List V → Prop} {p : α → Prop} {bytes : Nat} (hT : ∀ H v, T H [v] → ∃ a, S H v a ∧ p a) {H : Heap} {v : V} (h : TSl 1 bytes T H [v]) : ∃ l : List α, SLists S H v l ∧ ∀ a ∈ l, p a := by
  obtain ⟨v', len, cs, e, hs, _, hi⟩ := h
  obtain rfl : v = v' := by simpa using e
  have hlen : cs.length = len := by have := hs.1; omega
  obtain ⟨l, hl, hx⟩ := list_of (α := α) (p := fun i x => (∃ u, cs[i]? = some u ∧ S H u x) ∧ p x) len fun i hl => by
    have h1 := hi i hl
    have h2 : (cs.drop (i * 1)).take 1 = [cs[i]] := by rw [Nat.mul_one, List.drop_eq_getElem_cons (by omega)]; rfl
    rw [h2] at h1
    obtain ⟨a, ha, hp⟩ := hT _ _ h1
    exact ⟨a, ⟨_, by simp [show i < cs.length by omega], ha⟩, hp⟩
  subst hl
  exact ⟨l, ⟨cs, hs, fun i h => (hx i h).1⟩, fun a hm => by obtain ⟨i, hi, rfl⟩ := List.getElem_of_mem hm; exact (hx i hi).2⟩

/-- a trellis that came in -/
def STre (H : Heap) (v : V) (ws : List Int) (es : List (List Ed)) : Prop := ∃ sv ev, v = .agg [sv, ev] ∧ SInts H sv ws ∧ SSecs H ev es

theorem own : ownKnob Try.prog.godebug = none := by kernel_rfl
theorem laidOut : laidOutB Try.prog = true := by kernel_rfl

set_option maxRecDepth 100000 in
theorem along_lifted (main : ∀ H tv cv ws es costs, STre H tv ws es → (∀ w ∈ ws, I64 w) → (∀ l ∈ es, ∀ e ∈ l, EdI e) → SRows H cv costs → (∀ l ∈ costs, ∀ x ∈ l, I64 x) → ACalls Try.prog 3 [tv, cv] H fun v _ => v = .bool true)
    (os : Os) (started : os.Started) (D : Type) (enc : TypeId × Value → D) :
    ReturnsInHanded {} Try.checked os 3 .any (Ytopeeknimehmcaa.Rows.viterbiAlongSpec.pre6 enc Try.prog Try.f3 Ytopeeknimehmcaa.Rows.viterbiAlongRow.domain false) (Ytopeeknimehmcaa.Rows.viterbiAlongSpec.post enc Try.prog Try.f3 false true false false) := by
  refine returnsInHanded_of_change_sized (C := Try.checked) own started (by kernel_rfl) Try.func3
    (ChangeSpec.witness6 (enc := enc) (C := Try.checked) false ⟨#[], #[.agg #[.slice none 0 0, .slice none 0 0], .slice none 0 0], []⟩ 8 (by kernel_rfl) (by kernel_rfl) (by kernel_rfl) (by kernel_rfl)) ?_
  intro W base args ds gs before hval0 hW hcnd hsz0 _
  have hval : ∀ (j : Nat) t v, Try.f3.params[j]? = some t → args[j]? = some v → Value.okWide Try.prog W .any base t v := hval0
  have hW' := hW
  obtain ⟨p, q, hA0, hV, rfl, hfz, hnd⟩ := hW
  have hA : DataW.TrodAll enc Try.prog W 0 (fun _ => true) true Try.f3.params.toList args.toList ds p := hA0
  have hsz : (DataW.weightsEach Try.prog (Try.f3.params.toList ++ []) (ds ++ gs)).all (· ≤ reachBytes) = true := hsz0
  rw [Try.params3] at hA hval hsz
  obtain ⟨v0, vs0, d0, ds0, p0, q0, hargs, rfl, rfl, h0, r0⟩ := trodAll_cons hA
  obtain ⟨v1, vs1, d1, ds1, p1, q1, rfl, rfl, rfl, h1, r1⟩ := trodAll_cons r0
  obtain ⟨rfl, rfl, rfl⟩ := trodAll_nil r1
  obtain rfl : args = #[v0, v1] := by cases args; simp_all
  obtain ⟨rfl, rfl⟩ := trodVars_none hV
  have k0 := h0
  have lt0 : ∀ x ∈ p0, x.block < W.heap.size := by obtain ⟨m, hm⟩ := k0; exact DataW.trod_lt m _ _ _ hm
  have k1 := h1
  have lt1 : ∀ x ∈ p1, x.block < W.heap.size := by obtain ⟨m, hm⟩ := k1; exact DataW.trod_lt m _ _ _ hm
  obtain ⟨w0, w1⟩ := row_hyp hsz
  clear hA0 hval0
  obtain ⟨μ1, H1, u1, a1, a2, a3, a4, a5, a6⟩ := arg_struct Try.underlying25 opens_trellis (hval 0 25 v0 rfl rfl) h0 w0 (Sim.empty W) RO.empty
  obtain ⟨μ2, H2, u2, b1, b2, b3, b4, b5, b6⟩ := arg_slice Try.underlying26 opens_iss (hval 1 26 v1 rfl rfl) h1 w1 a3 a4
  obtain ⟨sv, ev, rfl, c1, c2⟩ := a6
  obtain ⟨ws, hws, hwi⟩ := is_of c1
  obtain ⟨es, hes, hei⟩ := lists_of (fun _ _ h => eds_of h) c2
  obtain ⟨costs, hco, hci⟩ := lists_of (fun _ _ h => is_of h) b6
  refine (calls_of (main H2 (.agg [sv, ev]) u2 ws es costs ⟨sv, ev, rfl, hws.mono b2, SSecs.mono hes b2⟩ hwi hei hco hci) b3 b4 (by simp only [VRels]; exact ⟨v0, [v1], rfl, VRel.mono b1 _ _ a5, v1, [], rfl, b5, rfl⟩)).mono fun e W' ⟨he, bel⟩ => ?_
  subst he
  exact ⟨_, rfl, _, _, _, [], _, [], hW', trodAll_mk1 (shut_bool Try.underlying4 _), (trodAll_cons_mk (Below.trod laidOut (by kernel_rfl) (of_decide_eq_true (by kernel_rfl)) k0 bel lt0) (trodAll_cons_mk (Below.trod laidOut (by kernel_rfl) (of_decide_eq_true (by kernel_rfl)) k1 bel lt1) trodAll_mk0)), rfl, bel.frame _, fun h => by cases h⟩

theorem along_over (main : ∀ H tv cv ws es costs, STre H tv ws es → (∀ w ∈ ws, I64 w) → (∀ l ∈ es, ∀ e ∈ l, EdI e) → SRows H cv costs → (∀ l ∈ costs, ∀ x ∈ l, I64 x) → ACalls Try.prog 3 [tv, cv] H fun v _ => v = .bool true) : Ytopeeknimehmcaa.Rows.ViterbiAlongSaid :=
  OpenClaim.holds_of_wide 3 Try.f3 rfl rfl rfl rfl rfl rfl rfl ⟨rfl, rfl, rfl, rfl, rfl⟩ rfl rfl rfl rfl rfl (by kernel_rfl) Try.func3 (by kernel_rfl)
    (of_decide_eq_true (by kernel_rfl)) (by unfold Func.isWrapper; first | (rw [if_pos (by decide +kernel)]; kernel_rfl) | (rw [if_neg (by decide +kernel)]; exact ⟨rfl, rfl⟩))
    (fun os started H enc _ => along_lifted main os started H enc)
end Go.AM
