/- The least path exists: plain. Conditions: none. -/
import Derived.Test.YtopeeknimehmcaaQ3
set_option linter.unusedVariables false
set_option linter.unusedSimpArgs false
namespace Go.AM
open Go Go.Proofs

def pvE (nx : List Int) (z : Int → Int) (e : Ed) : Int := mpMul (z e.lb) (nx[e.to.toNat]?.getD 0)
theorem mpAdd_min {a b : Int} (ha : 0 ≤ a ∧ a ≤ Inf) (hb : 0 ≤ b ∧ b ≤ Inf) : mpAdd a b ≤ a ∧ mpAdd a b ≤ b ∧ (mpAdd a b = a ∨ mpAdd a b = b) := by
  rw [← mm_mpAdd ha hb]; split <;> omega
theorem foldB_get (nx : List Int) (z : Int → Int) (l : List Ed) (v : Nat) : ∀ row, InR row → v < row.length →
    (foldB nx z l row)[v]?.getD 0 ≤ row[v]?.getD 0 ∧ (∀ e ∈ l, e.fr.toNat = v → (foldB nx z l row)[v]?.getD 0 ≤ pvE nx z e) ∧
    ((foldB nx z l row)[v]?.getD 0 = row[v]?.getD 0 ∨ ∃ e ∈ l, e.fr.toNat = v ∧ (foldB nx z l row)[v]?.getD 0 = pvE nx z e) := by
  induction l with
  | nil => intro row _ _; exact ⟨Int.le_refl _, fun e he => (by cases he), .inl rfl⟩
  | cons e r ih =>
    intro row hr hv
    have hb := mpMul_range (z e.lb) (nx[e.to.toNat]?.getD 0)
    have hr' : InR (updB nx row e (z e.lb)) := InR_set hr _ (mpAdd_range _ _)
    have hl : (updB nx row e (z e.lb)).length = row.length := by simp [updB]
    obtain ⟨h1, h2, h3⟩ := ih _ hr' (by rw [hl]; exact hv)
    have hrow : 0 ≤ row[v]?.getD 0 ∧ row[v]?.getD 0 ≤ Inf := by
      rw [List.getElem?_eq_getElem hv]; exact hr _ (List.getElem_mem hv)
    have e0 : foldB nx z (e :: r) row = foldB nx z r (updB nx row e (z e.lb)) := rfl
    rw [e0]
    have step : (updB nx row e (z e.lb))[v]?.getD 0 ≤ row[v]?.getD 0 ∧ (e.fr.toNat = v → (updB nx row e (z e.lb))[v]?.getD 0 ≤ pvE nx z e) ∧ ((updB nx row e (z e.lb))[v]?.getD 0 = row[v]?.getD 0 ∨ (e.fr.toNat = v ∧ (updB nx row e (z e.lb))[v]?.getD 0 = pvE nx z e)) := by
      by_cases c : e.fr.toNat = v
      · have e1 : (updB nx row e (z e.lb))[v]?.getD 0 = mpAdd (row[v]?.getD 0) (pvE nx z e) := by
          unfold updB pvE; rw [c]; simp [hv]
        have := mpAdd_min hrow (b := pvE nx z e) hb
        rw [e1]
        exact ⟨this.1, fun _ => this.2.1, this.2.2.imp id fun h => ⟨c, h⟩⟩
      · have e1 : (updB nx row e (z e.lb))[v]?.getD 0 = row[v]?.getD 0 := by
          unfold updB; rw [List.getElem?_set_ne c]
        rw [e1]
        exact ⟨Int.le_refl _, fun h => absurd h c, .inl rfl⟩
    refine ⟨Int.le_trans h1 step.1, fun e' he' hf => ?_, ?_⟩
    · rcases List.mem_cons.1 he' with rfl | he'
      · exact Int.le_trans h1 (step.2.1 hf)
      · exact h2 e' he' hf
    · rcases h3 with h3 | ⟨e', he', hf, h3⟩
      · rcases step.2.2 with s | ⟨c, s⟩
        · exact .inl (h3.trans s)
        · exact .inr ⟨e, List.mem_cons_self .., c, h3.trans s⟩
      · exact .inr ⟨e', List.mem_cons_of_mem _ he', hf, h3⟩

/-- all that the path needs -/
structure Costed (ws : List Int) (es : List (List Ed)) (z : Nat → Int → Int) : Prop where
  shape : shapeI ws es = 0
  first : ws[0]?.getD 0 = 1
  last : ws[es.length]?.getD 0 = 1
  good : ∀ i, (h : i < es.length) → GoodSec (ws[i]?.getD 0) (ws[i+1]?.getD 0) es[i]
  cost : ∀ i, (h : i < es.length) → ∀ e ∈ es[i], 0 ≤ z i e.lb ∧ z i e.lb ≤ 2147483648

theorem rest_ok {ws : List Int} {es : List (List Ed)} {z : Nat → Int → Int} (c : Costed ws es z) : ∀ m, m ≤ es.length → ∀ v, v < width ws (es.length - m) →
    0 ≤ (bRow ws es z m)[v]?.getD 0 ∧ (bRow ws es z m)[v]?.getD 0 ≤ m * 2147483648 ∧ (0 < m → ∃ e ∈ es[es.length - m]?.getD [], e.fr = v ∧ z (es.length - m) e.lb + (bRow ws es z (m-1))[e.to.toNat]?.getD 0 = (bRow ws es z m)[v]?.getD 0) := by
  have sh := shaped_of c.shape
  intro m
  induction m with
  | zero =>
    intro _ v hv
    have : width ws es.length = 1 := by unfold width; rw [c.last]; rfl
    rw [Nat.sub_zero, this] at hv
    obtain rfl : v = 0 := by omega
    rw [bRow, this]
    exact ⟨by decide, by decide, fun h => by omega⟩
  | succ m ih =>
    intro hm v hv
    have hil : es.length - (m+1) < es.length := by omega
    generalize hi : es.length - (m+1) = i at hv hil ⊢
    have hi1 : es.length - m = i + 1 := by omega
    have ih := ih (by omega)
    rw [hi1] at ih
    have hn := sh.n
    have e0 : bRow ws es z (m+1) = foldB (bRow ws es z m) (z i) es[i] (List.replicate (width ws i) Inf) := by
      rw [bRow, hi]; simp [hil]
    obtain ⟨_, h2, h3⟩ := foldB_get (bRow ws es z m) (z i) es[i] v (List.replicate (width ws i) Inf) (InR_rep _) (by simpa using hv)
    rw [← e0] at h2 h3
    have hpv : ∀ e ∈ es[i], pvE (bRow ws es z m) (z i) e = z i e.lb + (bRow ws es z m)[e.to.toNat]?.getD 0 ∧ 0 ≤ pvE (bRow ws es z m) (z i) e ∧ pvE (bRow ws es z m) (z i) e ≤ (m+1 : Nat) * 2147483648 := by
      intro e he
      have hc := c.cost i hil e he
      have hg := sh.good i hil e he
      obtain ⟨r1, r2, _⟩ := ih e.to.toNat (by unfold width; omega)
      have hlt : (m : Int) * 2147483648 ≤ 64 * 2147483648 := by omega
      unfold pvE mpMul
      rw [costI_id (a := z i e.lb) hc.1 (by unfold Inf; omega), costI_id (a := (bRow ws es z m)[e.to.toNat]?.getD 0) r1 (by unfold Inf; omega), if_neg (by unfold Inf; omega)]
      refine ⟨rfl, by omega, by omega⟩
    have hw : (0 : Int) ≤ v := by omega
    have hvw : (v : Int) < ws[i]?.getD 0 := by unfold width at hv; omega
    obtain ⟨e1, he1, hf1⟩ := (c.good i hil).out v hw hvw
    have hle := h2 e1 he1 (by rw [hf1]; simp)
    have hb := hpv e1 he1
    have hrep : (List.replicate (width ws i) Inf)[v]?.getD 0 = Inf := by simp [hv]
    have hlt : ((m+1 : Nat) : Int) * 2147483648 ≤ 64 * 2147483648 := by omega
    have hsmall : ((m+1 : Nat) : Int) * 2147483648 < Inf := by unfold Inf; omega
    rcases h3 with h3 | ⟨e, he, hf, h3⟩
    · rw [hrep] at h3; omega
    · have hp := hpv e he
      refine ⟨by omega, by omega, fun _ => ⟨e, by simpa [hil] using he, ?_, by rw [Nat.add_sub_cancel]; omega⟩⟩
      have := sh.good i hil e he
      omega

theorem at2_bTab {ws : List Int} {es : List (List Ed)} {z : Nat → Int → Int} {i : Nat} (h : i ≤ es.length) (a : Int) : at2 (bTab ws es z) i a = (bRow ws es z (es.length - i))[a.toNat]?.getD 0 := by
  unfold at2 bTab
  simp [show i < es.length + 1 by omega]

theorem path_ok {ws : List Int} {es : List (List Ed)} {z : Nat → Int → Int} (c : Costed ws es z) : ∀ i, i ≤ es.length → (0 ≤ nodeAt es (bTab ws es z) z i ∧ nodeAt es (bTab ws es z) z i < ws[i]?.getD 0) ∧
    ((h : i < es.length) → ∃ e ∈ es[i], pickE (bTab ws es z) z i es[i] (nodeAt es (bTab ws es z) z i) = some e) := by
  have sh := shaped_of c.shape
  intro i
  have pick : ∀ i, (h : i < es.length) → (0 ≤ nodeAt es (bTab ws es z) z i ∧ nodeAt es (bTab ws es z) z i < ws[i]?.getD 0) → ∃ e ∈ es[i], pickE (bTab ws es z) z i es[i] (nodeAt es (bTab ws es z) z i) = some e := by
    intro i h hn
    generalize nodeAt es (bTab ws es z) z i = v at hn
    have ee : es.length - (es.length - i) = i := by omega
    have ee1 : es.length - (i+1) = es.length - i - 1 := by omega
    obtain ⟨_, _, r3⟩ := rest_ok c (es.length - i) (by omega) v.toNat (by rw [ee]; unfold width; omega)
    rw [ee] at r3
    have hpos : 0 < es.length - i := Nat.sub_pos_of_lt h
    obtain ⟨e, he, hf, hs⟩ := r3 hpos
    simp only [h, List.getElem?_eq_getElem, Option.getD_some] at he
    have hx : (es[i].find? fun e => decide (e.fr = v) && decide (z i e.lb + at2 (bTab ws es z) (i+1) e.to = at2 (bTab ws es z) i v)).isSome := by
      rw [List.find?_isSome]
      refine ⟨e, he, ?_⟩
      rw [at2_bTab h, at2_bTab (Nat.le_of_lt h), ee1]
      simp only [Bool.and_eq_true, decide_eq_true_eq]
      exact ⟨by rw [hf]; exact Int.toNat_of_nonneg hn.1, hs⟩
    obtain ⟨e', he'⟩ := Option.isSome_iff_exists.1 hx
    exact ⟨e', List.mem_of_find?_eq_some he', he'⟩
  have node : ∀ i, i ≤ es.length → 0 ≤ nodeAt es (bTab ws es z) z i ∧ nodeAt es (bTab ws es z) z i < ws[i]?.getD 0 := by
    intro i
    induction i with
    | zero => intro _; rw [nodeAt, c.first]; exact ⟨by decide, by decide⟩
    | succ i ih =>
      intro hi
      obtain ⟨e, he, hp⟩ := pick i (by omega) (ih (by omega))
      have := sh.good i (by omega) e he
      rw [nodeAt]
      simp only [show i < es.length by omega, List.getElem?_eq_getElem, Option.getD_some, hp]
      omega
  exact fun hi => ⟨node i hi, fun h => pick i h (node i hi)⟩
end Go.AM
