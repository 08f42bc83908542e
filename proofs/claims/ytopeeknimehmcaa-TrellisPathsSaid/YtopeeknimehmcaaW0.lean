/- The labels of the paths of a trellis, and how many they are (plain words). Conditions: none. -/
import Derived.Test.YtopeeknimehmcaaS1
import Derived.Test.YtopeeknimehmcaaR4
set_option linter.unusedVariables false
set_option linter.unusedSimpArgs false
namespace Go.AM
open Go Go.Proofs

/-- the labels of the paths that are left, m sections ahead of the end -/
def suf (es : List (List Ed)) : Nat → Int → List (List Int)
  | 0, _ => [[]]
  | m+1, v => (fromI (es[es.length - (m+1)]?.getD []) v).flatMap fun e => (suf es m e.to).map (e.lb :: ·)
/-- the labels of the paths to the time i, each with its end -/
def pre (es : List (List Ed)) : Nat → List (List Int × Int)
  | 0 => [([], 0)]
  | i+1 => (pre es i).flatMap fun p => (fromI (es[i]?.getD []) p.2).map fun e => (p.1 ++ [e.lb], e.to)
theorem pre_suf (es : List (List Ed)) : ∀ i, i ≤ es.length → (pre es i).flatMap (fun p => (suf es (es.length - i) p.2).map (p.1 ++ ·)) = suf es es.length 0
  | 0, _ => by simp [pre]
  | i+1, h => by
    rw [← pre_suf es i (by omega), pre, List.flatMap_assoc]
    congr 1
    funext p
    obtain ⟨m, hm⟩ : ∃ m, es.length - i = m + 1 := ⟨es.length - i - 1, by omega⟩
    have e1 : es.length - (i + 1) = m := by omega
    have e2 : es.length - (m + 1) = i := by omega
    rw [hm, e1, suf, e2, List.flatMap_map, List.map_flatMap]
    congr 1
    funext e
    simp [List.map_map, Function.comp_def]
theorem pre_all (es : List (List Ed)) : (pre es es.length).map (·.1) = suf es es.length 0 := by
  rw [← pre_suf es es.length (Nat.le_refl _), Nat.sub_self]
  simp only [suf, List.map_cons, List.map_nil, List.append_nil]
  rw [List.map_eq_flatMap]

/-- how many of them end at v -/
def cnt (l : List (List Int × Int)) (v : Int) : Int := (l.countP fun p => decide (p.2 = v) : Nat)
theorem cnt_append (a b : List (List Int × Int)) (v : Int) : cnt (a ++ b) v = cnt a v + cnt b v := by simp [cnt, List.countP_append]
/-- with the first j edges of a section -/
def preJ (l : List (List Int × Int)) (es : List Ed) : List (List Int × Int) := l.flatMap fun p => (fromI es p.2).map fun e => (p.1 ++ [e.lb], e.to)
theorem preJ_nil (l : List (List Int × Int)) : preJ l [] = [] := by
  induction l with
  | nil => rfl
  | cons p r ih => simp [preJ, fromI]
theorem preJ_snoc (l : List (List Int × Int)) (es : List Ed) (e : Ed) (v : Int) : cnt (preJ l (es ++ [e])) v = cnt (preJ l es) v + if e.to = v then cnt l e.fr else 0 := by
  induction l with
  | nil => simp [preJ, cnt]
  | cons p r ih =>
    have h1 : ∀ xs : List Ed, preJ (p :: r) xs = ((fromI xs p.2).map fun e => (p.1 ++ [e.lb], e.to)) ++ preJ r xs := fun xs => by simp [preJ]
    rw [h1, h1, cnt_append, cnt_append, ih]
    have h2 : cnt ((fromI (es ++ [e]) p.2).map fun e => (p.1 ++ [e.lb], e.to)) v = cnt ((fromI es p.2).map fun e => (p.1 ++ [e.lb], e.to)) v + if e.to = v then (if p.2 = e.fr then 1 else 0) else 0 := by
      simp only [fromI, List.filter_append, List.map_append, cnt_append]
      congr 1
      by_cases c : e.fr = p.2
      · by_cases d : e.to = v
        · simp [c, d, cnt]
        · simp [c, d, cnt]
      · have c' : ¬ p.2 = e.fr := fun h => c h.symm
        simp [c, c', cnt]
    have h3 : cnt (p :: r) e.fr = (if p.2 = e.fr then 1 else 0) + cnt r e.fr := by
      by_cases c : p.2 = e.fr
      · simp [cnt, c]; omega
      · simp [cnt, c]
    rw [h2, h3]
    by_cases d : e.to = v
    · simp only [d, if_true]; omega
    · simp only [d, if_false]; omega
theorem rowF_cnt {ws : List Int} {es : List (List Ed)} (sh : Shaped ws es) : ∀ i, i ≤ es.length → ∀ v : Nat, rowF ctS (fun _ _ => 1) es i v = cnt (pre es i) v
  | 0, _, v => by
    by_cases h : v = 0
    · subst h; simp [rowF, pre, cnt, ctS]
    · have : ¬ (0 : Int) = v := by omega
      simp [rowF, pre, cnt, ctS, h, this]
  | i+1, hi, v => by
    have ih := rowF_cnt sh i (by omega)
    have hil : i < es.length := by omega
    have key : ∀ j, j ≤ es[i].length → ∀ v : Nat, secF ctS (rowF ctS (fun _ _ => 1) es i) (fun _ => 1) es[i] j v = cnt (preJ (pre es i) (es[i].take j)) v := by
      intro j
      induction j with
      | zero => intro _ v; rw [List.take_zero, preJ_nil]; rfl
      | succ j ihj =>
        intro hj v
        have hjl : j < es[i].length := by omega
        have gd := sh.good i hil _ (List.getElem_mem hjl)
        rw [List.take_add_one, List.getElem?_eq_getElem hjl, Option.toList_some, preJ_snoc, ← ihj (by omega), secF]
        simp only [List.getElem?_eq_getElem hjl]
        have e1 := ih es[i][j].fr.toNat
        have e2 : ((es[i][j].fr.toNat : Nat) : Int) = es[i][j].fr := by omega
        rw [e2] at e1
        by_cases c : v = es[i][j].to.toNat
        · have c' : es[i][j].to = v := by omega
          rw [if_pos c, if_pos c', e1]
          show _ + cnt (pre es i) es[i][j].fr * 1 = _
          rw [Int.mul_one]
        · have c' : ¬ es[i][j].to = v := by omega
          rw [if_neg c, if_neg c']
          omega
    have := key es[i].length (Nat.le_refl _) v
    rw [List.take_length] at this
    rw [rowF, pre]
    simp only [hil, List.getElem?_eq_getElem, Option.getD_some]
    exact this
theorem pre_end {ws : List Int} {es : List (List Ed)} (sh : Shaped ws es) : ∀ i, i ≤ es.length → ∀ p ∈ pre es i, i = 0 ∧ p.2 = 0 ∨ 0 ≤ p.2 ∧ p.2 < ws[i]?.getD 0
  | 0, _, p, hp => by
    have : p = ([], 0) := by simpa [pre] using hp
    subst this; exact .inl ⟨rfl, rfl⟩
  | i+1, hi, p, hp => by
    have hil : i < es.length := by omega
    rw [pre, List.mem_flatMap] at hp
    obtain ⟨q, hq, hp⟩ := hp
    rw [List.mem_map] at hp
    obtain ⟨e, he, rfl⟩ := hp
    simp only [hil, List.getElem?_eq_getElem, Option.getD_some] at he
    have gd := sh.good i hil e (List.mem_filter.1 he).1
    exact .inr ⟨gd.2.2.1, gd.2.2.2⟩
/-- the paths are as many as their labels -/
theorem paths_len {ws : List Int} {es : List (List Ed)} (sh : Shaped ws es) (wl : ws[es.length]?.getD 0 = 1) : pathsI es = (suf es es.length 0).length := by
  rw [pathsI, rowF_cnt sh es.length (Nat.le_refl _), ← pre_all, List.length_map, cnt]
  congr 1
  rw [List.countP_eq_length]
  intro p hp
  rcases pre_end sh _ (Nat.le_refl _) p hp with ⟨_, h⟩ | h
  · simp [h]
  · rw [wl] at h
    have : p.2 = 0 := by omega
    simp [this]
end Go.AM
