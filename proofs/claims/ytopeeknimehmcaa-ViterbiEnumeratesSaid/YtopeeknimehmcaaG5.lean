/- The bridge from the abstract machine to ViterbiEnumerates. Conditions: as stated. -/
import Derived.Test.YtopeeknimehmcaaG1
set_option linter.unusedVariables false
set_option linter.unusedSimpArgs false
namespace Go.AM
open Go Go.Proofs Go.RowKit Go.ChangeShapes Go.WideShapes Go.ChangeAt

set_option maxRecDepth 100000 in
theorem viterbiEnumerates_lifted (main : ∀ H v0 ws0 es0, STre H v0 ws0 es0 → (∀ w ∈ ws0, I64 w) → (∀ l ∈ es0, ∀ e ∈ l, EdI e) → ACalls Try.prog 5 [v0] H fun v _ => v = .bool true)
    (os : Os) (started : os.Started) (D : Type) (enc : TypeId × Value → D) :
    ReturnsInHanded {} Try.checked os 5 .any (Ytopeeknimehmcaa.Rows.viterbiEnumeratesSpec.pre6 enc Try.prog Try.f5 Ytopeeknimehmcaa.Rows.viterbiEnumeratesRow.domain false) (Ytopeeknimehmcaa.Rows.viterbiEnumeratesSpec.post enc Try.prog Try.f5 false true false false) := by
  refine returnsInHanded_of_change_sized (C := Try.checked) own started (by kernel_rfl) Try.func5
    (ChangeSpec.witness6 (enc := enc) (C := Try.checked) false ⟨#[], #[.agg #[.slice none 0 0, .slice none 0 0]], []⟩ 8 (by kernel_rfl) (by kernel_rfl) (by kernel_rfl) (by kernel_rfl)) ?_
  intro W base args ds gs before hval0 hW hcnd hsz0 _
  have hval : ∀ (j : Nat) t v, Try.f5.params[j]? = some t → args[j]? = some v → Value.okWide Try.prog W .any base t v := hval0
  have hW' := hW
  obtain ⟨p, q, hA0, hV, rfl, hfz, hnd⟩ := hW
  have hA : DataW.TrodAll enc Try.prog W 0 (fun _ => true) true Try.f5.params.toList args.toList ds p := hA0
  have hsz : (DataW.weightsEach Try.prog (Try.f5.params.toList ++ []) (ds ++ gs)).all (· ≤ reachBytes) = true := hsz0
  rw [Try.params5] at hA hval hsz
  obtain ⟨v0, vs0, d0, ds0, p0, q0, hargs, rfl, rfl, h0, r0⟩ := trodAll_cons hA
  obtain ⟨rfl, rfl, rfl⟩ := trodAll_nil r0
  obtain rfl : args = #[v0] := by cases args; simp_all
  obtain ⟨rfl, rfl⟩ := trodVars_none hV
  have k0 := h0
  have lt0 : ∀ x ∈ p0, x.block < W.heap.size := by obtain ⟨m, hm⟩ := k0; exact DataW.trod_lt m _ _ _ hm
  have w0 := row_hyp1 hsz
  clear hA0 hval0
  obtain ⟨μ0, H0, u0, a01, a02, a03, a04, a05, a06⟩ := arg_struct Try.underlying25 opens_trellis (hval 0 25 v0 rfl rfl) h0 w0 (Sim.empty W) RO.empty
  obtain ⟨sv0, ev0, rfl, c01, c02⟩ := a06
  obtain ⟨ws0, hws0, hwi0⟩ := is_of c01
  obtain ⟨es0, hes0, hei0⟩ := lists_of (fun _ _ h => eds_of h) c02
  refine (calls_of (main H0 (.agg [sv0, ev0]) ws0 es0 ⟨sv0, ev0, rfl, hws0, hes0⟩ hwi0 hei0) a03 a04 (by simp only [VRels]; exact ⟨v0, [], rfl, a05, rfl⟩)).mono fun e W' ⟨he, bel⟩ => ?_
  subst he
  exact ⟨_, rfl, _, _, _, [], _, [], hW', trodAll_mk1 (shut_bool Try.underlying4 _), (trodAll_cons_mk (Below.trod laidOut (by kernel_rfl) (of_decide_eq_true (by kernel_rfl)) k0 bel lt0) trodAll_mk0), rfl, bel.frame _, fun h => by cases h⟩

theorem viterbiEnumerates_over (main : ∀ H v0 ws0 es0, STre H v0 ws0 es0 → (∀ w ∈ ws0, I64 w) → (∀ l ∈ es0, ∀ e ∈ l, EdI e) → ACalls Try.prog 5 [v0] H fun v _ => v = .bool true) : Ytopeeknimehmcaa.Rows.ViterbiEnumeratesSaid :=
  OpenClaim.holds_of_wide 5 Try.f5 rfl rfl rfl rfl rfl rfl rfl ⟨rfl, rfl, rfl, rfl, rfl⟩ rfl rfl rfl rfl rfl (by kernel_rfl) Try.func5 (by kernel_rfl)
    (of_decide_eq_true (by kernel_rfl)) (by unfold Func.isWrapper; first | (rw [if_pos (by decide +kernel)]; kernel_rfl) | (rw [if_neg (by decide +kernel)]; exact ⟨rfl, rfl⟩))
    (fun os started H enc _ => viterbiEnumerates_lifted main os started H enc)
end Go.AM
