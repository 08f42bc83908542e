/- The quiet instructions, one after the other. Conditions: as each states. -/
import Derived.Test.YtopeeknimehmcaaA3
set_option linter.unusedVariables false
set_option linter.unusedSimpArgs false
namespace Go.AM
open Go

theorem foldl_put (off : Nat) : ∀ (l : List Value) (k : Nat) (c : Array Value),
    (l.zipIdx k).foldl (fun cs (x : Value × Nat) => cs.setIfInBounds (off + x.2) x.1) c =
      ((List.range l.length).foldl (fun cs j => cs.setIfInBounds (off + k + j) (l.getD j undef)) c)
  | [], k, c => rfl
  | x :: l, k, c => by
    rw [List.zipIdx_cons, List.foldl_cons, foldl_put off l (k + 1), List.length_cons, List.range_succ_eq_map, List.foldl_cons, List.foldl_map]
    simp only [Nat.add_zero, List.getD_cons_zero, List.getD_cons_succ]
    congr 1
    funext cs j
    congr 1; omega

theorem foldl_sets (o : Nat) (l : List Value) : ∀ (k : Nat) (c : Array Value), k ≤ l.length → ((List.range k).foldl (fun cs j => cs.setIfInBounds (o + j) (l.getD j undef)) c).size = c.size ∧
    ∀ i, ((List.range k).foldl (fun cs j => cs.setIfInBounds (o + j) (l.getD j undef)) c)[i]? = if o ≤ i ∧ i < o + k ∧ i < c.size then l[i - o]? else c[i]?
  | 0, c, _ => by
    refine ⟨rfl, fun i => ?_⟩
    rw [if_neg (by omega)]; rfl
  | k + 1, c, hk => by
    obtain ⟨h1, h2⟩ := foldl_sets o l k c (by omega)
    rw [List.range_succ, List.foldl_append, List.foldl_cons, List.foldl_nil]
    refine ⟨by rw [Array.size_setIfInBounds, h1], fun i => ?_⟩
    rw [Array.getElem?_setIfInBounds, h1, h2]
    by_cases hi : o + k = i
    · rw [if_pos hi]
      by_cases hc : i < c.size
      · rw [if_pos (by omega), if_pos ⟨by omega, by omega, hc⟩, List.getD, show i - o = k by omega, List.getElem?_eq_getElem (by omega)]; rfl
      · rw [if_neg (by omega), if_neg (by omega), Array.getElem?_eq_none (by omega)]
    · rw [if_neg hi]
      by_cases hc : o ≤ i ∧ i < o + k ∧ i < c.size
      · rw [if_pos hc, if_pos ⟨hc.1, by omega, hc.2.2⟩]
      · rw [if_neg hc, if_neg (by omega)]

theorem splice_length (l : List V) (o : Nat) (xs : List V) (h : o + xs.length ≤ l.length) : (splice l o xs).length = l.length := by
  unfold splice; simp; omega

theorem splice_get (l : List V) (o : Nat) (xs : List V) (h : o + xs.length ≤ l.length) (i : Nat) :
    (splice l o xs)[i]? = if o ≤ i ∧ i < o + xs.length then xs[i - o]? else l[i]? := by
  have hm : min o l.length = o := by omega
  unfold splice
  by_cases h1 : i < o
  · rw [if_neg (by omega), List.append_assoc, List.getElem?_append_left (by simp; omega), List.getElem?_take_of_lt h1]
  · by_cases h2 : i < o + xs.length
    · rw [if_pos ⟨by omega, h2⟩, List.getElem?_append_left (by simp; omega), List.getElem?_append_right (by simp; omega)]
      simp [hm]
    · rw [if_neg (by omega), List.getElem?_append_right (by simp; omega), List.getElem?_drop]
      simp [hm]; congr 1; omega

theorem VRels.splice {μ : Map} {us vs : List V} {xs : List Value} {c : Array Value} {o : Nat} (hu : VRels μ us xs) {ys : List Value} (hv : VRels μ vs ys) (hl : o + vs.length ≤ us.length)
    (hc : c.toList.length = xs.length) (hg : ∀ i, c[i]? = if o ≤ i ∧ i < o + ys.length ∧ i < xs.length then ys[i - o]? else xs[i]?) : VRels μ (splice us o vs) c.toList := by
  have h1 := hu.length
  have h2 := hv.length
  refine VRels.of_get (by rw [splice_length _ _ _ hl, h1, hc]) fun i v x hvi hxi => ?_
  rw [splice_get _ _ _ hl] at hvi
  have hx := hg i
  have : c[i]? = some x := by simpa using hxi
  rw [this] at hx
  by_cases hi : o ≤ i ∧ i < o + vs.length
  · rw [if_pos hi] at hvi
    rw [if_pos (by omega)] at hx
    obtain ⟨y, hy, hr⟩ := hv.get _ _ hvi
    rw [hy] at hx
    obtain rfl := Option.some.inj hx
    exact hr
  · rw [if_neg hi] at hvi
    rw [if_neg (by omega)] at hx
    obtain ⟨y, hy, hr⟩ := hu.get _ _ hvi
    rw [hy] at hx
    obtain rfl := Option.some.inj hx
    exact hr

theorem mem_splice {l : List V} {o : Nat} {xs : List V} {c : V} (h : c ∈ splice l o xs) : c ∈ l ∨ c ∈ xs := by
  unfold splice at h
  simp only [List.mem_append] at h
  rcases h with (h | h) | h
  · exact .inl (List.mem_of_mem_take h)
  · exact .inr h
  · exact .inl (List.mem_of_mem_drop h)

theorem fill_sound {P : Program} {n : Nat} {μ env H a w} (st : St n μ env H a w) {place place' : Nat → Option (Nat × Nat)} (hp : ∀ i p, place' i = some p → place i = some p) :
    ∀ (parts : List (Nat × Operand)) (ps : List (Nat × Nat × Opd)) (us rs : List V) (cells : Array Value), partsT P n place' parts = some ps → VRels μ us cells.toList → (∀ c ∈ us, c.one = true) →
      fillV us (ps.map fun p => (p.1, p.2.1, p.2.2.ev env)) = some rs →
      ∃ c : Array Value, Instr.fill place cells (parts.map fun p => (p.1, a.eval p.2)) = some c ∧ VRels μ rs c.toList ∧ ∀ c ∈ rs, c.one = true
  | [], ps, us, rs, cells, h, hu, h1, hf => by
    simp only [partsT, Option.some.injEq] at h
    subst h
    simp only [List.map_nil, fillV, Option.some.injEq] at hf
    subst hf
    exact ⟨cells, rfl, hu, h1⟩
  | (i, x) :: parts, ps, us, rs, cells, h, hu, h1, hf => by
    simp only [partsT] at h
    split at h
    · rename_i off sz y ys e1 e2 e3
      obtain rfl := Option.some.inj h
      simp only [List.map_cons, fillV] at hf
      split at hf
      · rename_i hc
        obtain ⟨c1, c0, c2⟩ := hc
        have hr := cvO_sound e2 st
        have hsz : (a.eval x).cells.size = sz := by rw [hr.cells_size (by intro e; rw [e] at c1; simp at c1; omega), c1]
        have hlen := hu.length
        have hcs : us.length = cells.size := by simpa using hlen
        have hrc : VRels μ (y.ev env).cells (a.eval x).cells.toList := by
          have := hr.cells
          rwa [List.take_of_length_le (by rw [Array.length_toList, hsz, c1]; exact Nat.le_refl _)] at this
        have hput : ((a.eval x).cells.zipIdx.foldl (fun cs (x : Value × Nat) => cs.setIfInBounds (off + x.2) x.1) cells) =
            (List.range (a.eval x).cells.toList.length).foldl (fun cs j => cs.setIfInBounds (off + j) ((a.eval x).cells.toList.getD j undef)) cells := by
          rw [← Array.foldl_toList, Array.toList_zipIdx, foldl_put]
          rfl
        obtain ⟨s1, s2⟩ := foldl_sets off (a.eval x).cells.toList (a.eval x).cells.toList.length cells (Nat.le_refl _)
        rw [← hput] at s1 s2
        have hsp : VRels μ (splice us off (y.ev env).cells) ((a.eval x).cells.zipIdx.foldl (fun cs (x : Value × Nat) => cs.setIfInBounds (off + x.2) x.1) cells).toList := by
          refine VRels.splice hu hrc (by omega) (by rw [Array.length_toList, s1, Array.length_toList]) fun j => ?_
          rw [s2 j]; simp only [Array.length_toList, Array.getElem?_toList]
        obtain ⟨c, f1, f2, f3⟩ := fill_sound st hp parts ys _ rs _ e3 hsp (fun c hc => (mem_splice hc).elim (h1 c) (hr.cells_one c)) hf
        refine ⟨c, ?_, f2, f3⟩
        simp only [List.map_cons, Instr.fill, hp i _ e1]
        rw [if_neg]
        · exact f1
        · simp [hsz]; omega
      · cases hf
    · cases h

theorem fieldsT_run {P : Program} {w : World} : ∀ (fs : List Field) (pl : List (Nat × Nat)), fieldsT P fs = some pl →
    (fs.mapM (fun f => do pure (f.offset, ← sizeOf f.type) : Field → Sem (Nat × Nat))).run P w = .ok pl w
  | [], pl, h => by simp only [fieldsT, Option.some.injEq] at h; subst h; rfl
  | f :: fs, pl, h => by
    simp only [fieldsT] at h
    split at h
    · rename_i sz b ys e1 e2
      obtain rfl := Option.some.inj h
      obtain ⟨i, d, h1, h2, h3, h4⟩ := szT_some e1
      rw [List.mapM_cons]
      have ih := fieldsT_run (w := w) fs ys e2
      simp only [bind_pure_comp] at ih
      simp [run_sizeT h1, h3, ih]
    · cases h

theorem zeroT_some {P : Program} {t : TypeId} {zs : List V} (h : zeroT P t = some zs) : ∃ i z v, P.info? t = some i ∧ i.zero = some z ∧ cvV 4 z = some v ∧ zs = v.cells := by
  simp only [zeroT] at h
  split at h
  · rename_i i hi
    split at h
    · rename_i z hz
      split at h
      · rename_i v hv
        exact ⟨i, z, v, hi, hz, hv, (Option.some.inj h).symm⟩
      · cases h
    · cases h
  · cases h

theorem run_zeroT {P : Program} {t : TypeId} {i : TypeInfo} {z : Value} (h : P.info? t = some i) (hz : i.zero = some z) (w : World) : (zeroValue t).run P w = .ok z w := by
  simp [zeroValue, typeInfo, h, hz]

theorem cvV_cells {μ : Map} {d : Nat} {z : Value} {v : V} (h : cvV d z = some v) : VRels μ v.cells z.cells.toList := by
  have hr := cvV_sound μ d z v h
  have := hr.cells
  have hne : v.cells ≠ [] ∨ v.cells = [] := by by_cases h : v.cells = [] <;> simp [h]
  rcases hne with h0 | h0
  · rwa [List.take_of_length_le (by rw [Array.length_toList, hr.cells_size h0]; exact Nat.le_refl _)] at this
  · cases v
    case agg cs =>
      simp only [V.cells] at h0
      subst h0
      simp only [VRel] at hr
      obtain ⟨a, rfl, h1, _⟩ := hr
      exact h1
    case tup cs =>
      simp only [VRel] at hr
      obtain ⟨a, rfl, h1⟩ := hr
      cases d with
      | zero => simp [cvV] at h
      | succ d => simp [cvV] at h
    all_goals simp [V.cells] at h0

end Go.AM
