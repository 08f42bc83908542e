/- The quiet instructions, one after the other. Conditions: as each states. -/
import Derived.Test.YtopeeknimehmcaaJ0
set_option linter.unusedVariables false
set_option linter.unusedSimpArgs false
namespace Go.AM
open Go

theorem foldl_put (off : Nat) : ∀ (l : List Value) (k : Nat) (c : Array Value),
    (l.zipIdx k).foldl (fun cs (x : Value × Nat) => cs.setIfInBounds (off + x.2) x.1) c =
      ((List.range l.length).foldl (fun cs j => cs.setIfInBounds (off + k + j) (l.getD j undef)) c)
  | [], k, c => rfl
  | x :: l, k, c => by
    rw [List.zipIdx_cons, List.foldl_cons, foldl_put off l (k + 1), List.length_cons, List.range_succ_eq_map, List.foldl_cons, List.foldl_map]
    simp only [Nat.add_zero, List.getD_cons_zero, List.getD_cons_succ]
    congr 1
    funext cs j
    congr 1; omega

theorem foldl_sets (o : Nat) (l : List Value) : ∀ (k : Nat) (c : Array Value), k ≤ l.length → ((List.range k).foldl (fun cs j => cs.setIfInBounds (o + j) (l.getD j undef)) c).size = c.size ∧
    ∀ i, ((List.range k).foldl (fun cs j => cs.setIfInBounds (o + j) (l.getD j undef)) c)[i]? = if o ≤ i ∧ i < o + k ∧ i < c.size then l[i - o]? else c[i]?
  | 0, c, _ => by
    refine ⟨rfl, fun i => ?_⟩
    rw [if_neg (by omega)]; rfl
  | k + 1, c, hk => by
    obtain ⟨h1, h2⟩ := foldl_sets o l k c (by omega)
    rw [List.range_succ, List.foldl_append, List.foldl_cons, List.foldl_nil]
    refine ⟨by rw [Array.size_setIfInBounds, h1], fun i => ?_⟩
    rw [Array.getElem?_setIfInBounds, h1, h2]
    by_cases hi : o + k = i
    · rw [if_pos hi]
      by_cases hc : i < c.size
      · rw [if_pos (by omega), if_pos ⟨by omega, by omega, hc⟩, List.getD, show i - o = k by omega, List.getElem?_eq_getElem (by omega)]; rfl
      · rw [if_neg (by omega), if_neg (by omega), Array.getElem?_eq_none (by omega)]
    · rw [if_neg hi]
      by_cases hc : o ≤ i ∧ i < o + k ∧ i < c.size
      · rw [if_pos hc, if_pos ⟨hc.1, by omega, hc.2.2⟩]
      · rw [if_neg hc, if_neg (by omega)]

theorem splice_length (l : List V) (o : Nat) (xs : List V) (h : o + xs.length ≤ l.length) : (splice l o xs).length = l.length := by
  unfold splice; simp; omega

theorem splice_get (l : List V) (o : Nat) (xs : List V) (h : o + xs.length ≤ l.length) (i : Nat) :
    (splice l o xs)[i]? = if o ≤ i ∧ i < o + xs.length then xs[i - o]? else l[i]? := by
  have hm : min o l.length = o := by omega
  unfold splice
  by_cases h1 : i < o
  · rw [if_neg (by omega), List.append_assoc, List.getElem?_append_left (by simp; omega), List.getElem?_take_of_lt h1]
  · by_cases h2 : i < o + xs.length
    · rw [if_pos ⟨by omega, h2⟩, List.getElem?_append_left (by simp; omega), List.getElem?_append_right (by simp; omega)]
      simp [hm]
    · rw [if_neg (by omega), List.getElem?_append_right (by simp; omega), List.getElem?_drop]
      simp [hm]; congr 1; omega

theorem VRels.splice {μ : Map} {us vs : List V} {xs : List Value} {c : Array Value} {o : Nat} (hu : VRels μ us xs) {ys : List Value} (hv : VRels μ vs ys) (hl : o + vs.length ≤ us.length)
    (hc : c.toList.length = xs.length) (hg : ∀ i, c[i]? = if o ≤ i ∧ i < o + ys.length ∧ i < xs.length then ys[i - o]? else xs[i]?) : VRels μ (splice us o vs) c.toList := by
  have h1 := hu.length
  have h2 := hv.length
  refine VRels.of_get (by rw [splice_length _ _ _ hl, h1, hc]) fun i v x hvi hxi => ?_
  rw [splice_get _ _ _ hl] at hvi
  have hx := hg i
  have : c[i]? = some x := by simpa using hxi
  rw [this] at hx
  by_cases hi : o ≤ i ∧ i < o + vs.length
  · rw [if_pos hi] at hvi
    rw [if_pos (by omega)] at hx
    obtain ⟨y, hy, hr⟩ := hv.get _ _ hvi
    rw [hy] at hx
    obtain rfl := Option.some.inj hx
    exact hr
  · rw [if_neg hi] at hvi
    rw [if_neg (by omega)] at hx
    obtain ⟨y, hy, hr⟩ := hu.get _ _ hvi
    rw [hy] at hx
    obtain rfl := Option.some.inj hx
    exact hr

theorem mem_splice {l : List V} {o : Nat} {xs : List V} {c : V} (h : c ∈ splice l o xs) : c ∈ l ∨ c ∈ xs := by
  unfold splice at h
  simp only [List.mem_append] at h
  rcases h with (h | h) | h
  · exact .inl (List.mem_of_mem_take h)
  · exact .inr h
  · exact .inl (List.mem_of_mem_drop h)

theorem fill_sound {P : Program} {n : Nat} {μ env H a w} (st : St n μ env H a w) {place place' : Nat → Option (Nat × Nat)} (hp : ∀ i p, place' i = some p → place i = some p) :
    ∀ (parts : List (Nat × Operand)) (ps : List (Nat × Nat × Opd)) (us rs : List V) (cells : Array Value), partsT P n place' parts = some ps → VRels μ us cells.toList → (∀ c ∈ us, c.one = true) →
      fillV us (ps.map fun p => (p.1, p.2.1, p.2.2.ev env)) = some rs →
      ∃ c : Array Value, Instr.fill place cells (parts.map fun p => (p.1, a.eval p.2)) = some c ∧ VRels μ rs c.toList ∧ ∀ c ∈ rs, c.one = true
  | [], ps, us, rs, cells, h, hu, h1, hf => by
    simp only [partsT, Option.some.injEq] at h
    subst h
    simp only [List.map_nil, fillV, Option.some.injEq] at hf
    subst hf
    exact ⟨cells, rfl, hu, h1⟩
  | (i, x) :: parts, ps, us, rs, cells, h, hu, h1, hf => by
    simp only [partsT] at h
    split at h
    · rename_i off sz y ys e1 e2 e3
      obtain rfl := Option.some.inj h
      simp only [List.map_cons, fillV] at hf
      split at hf
      · rename_i hc
        obtain ⟨c1, c0, c2⟩ := hc
        have hr := cvO_sound e2 st
        have hsz : (a.eval x).cells.size = sz := by rw [hr.cells_size (by intro e; rw [e] at c1; simp at c1; omega), c1]
        have hlen := hu.length
        have hcs : us.length = cells.size := by simpa using hlen
        have hrc : VRels μ (y.ev env).cells (a.eval x).cells.toList := by
          have := hr.cells
          rwa [List.take_of_length_le (by rw [Array.length_toList, hsz, c1]; exact Nat.le_refl _)] at this
        have hput : ((a.eval x).cells.zipIdx.foldl (fun cs (x : Value × Nat) => cs.setIfInBounds (off + x.2) x.1) cells) =
            (List.range (a.eval x).cells.toList.length).foldl (fun cs j => cs.setIfInBounds (off + j) ((a.eval x).cells.toList.getD j undef)) cells := by
          rw [← Array.foldl_toList, Array.toList_zipIdx, foldl_put]
          rfl
        obtain ⟨s1, s2⟩ := foldl_sets off (a.eval x).cells.toList (a.eval x).cells.toList.length cells (Nat.le_refl _)
        rw [← hput] at s1 s2
        have hsp : VRels μ (splice us off (y.ev env).cells) ((a.eval x).cells.zipIdx.foldl (fun cs (x : Value × Nat) => cs.setIfInBounds (off + x.2) x.1) cells).toList := by
          refine VRels.splice hu hrc (by omega) (by rw [Array.length_toList, s1, Array.length_toList]) fun j => ?_
          rw [s2 j]; simp only [Array.length_toList, Array.getElem?_toList]
        obtain ⟨c, f1, f2, f3⟩ := fill_sound st hp parts ys _ rs _ e3 hsp (fun c hc => (mem_splice hc).elim (h1 c) (hr.cells_one c)) hf
        refine ⟨c, ?_, f2, f3⟩
        simp only [List.map_cons, Instr.fill, hp i _ e1]
        rw [if_neg]
        · exact f1
        · simp [hsz]; omega
      · cases hf
    · cases h

theorem fieldsT_run {P : Program} {w : World} : ∀ (fs : List Field) (pl : List (Nat × Nat)), fieldsT P fs = some pl →
    (fs.mapM (fun f => do pure (f.offset, ← sizeOf f.type) : Field → Sem (Nat × Nat))).run P w = .ok pl w
  | [], pl, h => by simp only [fieldsT, Option.some.injEq] at h; subst h; rfl
  | f :: fs, pl, h => by
    simp only [fieldsT] at h
    split at h
    · rename_i sz b ys e1 e2
      obtain rfl := Option.some.inj h
      obtain ⟨i, d, h1, h2, h3, h4⟩ := szT_some e1
      rw [List.mapM_cons]
      have ih := fieldsT_run (w := w) fs ys e2
      simp only [bind_pure_comp] at ih
      simp [run_sizeT h1, h3, ih]
    · cases h

theorem zeroT_some {P : Program} {t : TypeId} {zs : List V} (h : zeroT P t = some zs) : ∃ i z v, P.info? t = some i ∧ i.zero = some z ∧ cvV 4 z = some v ∧ zs = v.cells := by
  simp only [zeroT] at h
  split at h
  · rename_i i hi
    split at h
    · rename_i z hz
      split at h
      · rename_i v hv
        exact ⟨i, z, v, hi, hz, hv, (Option.some.inj h).symm⟩
      · cases h
    · cases h
  · cases h

theorem run_zeroT {P : Program} {t : TypeId} {i : TypeInfo} {z : Value} (h : P.info? t = some i) (hz : i.zero = some z) (w : World) : (zeroValue t).run P w = .ok z w := by
  simp [zeroValue, typeInfo, h, hz]

theorem cvV_cells {μ : Map} {d : Nat} {z : Value} {v : V} (h : cvV d z = some v) : VRels μ v.cells z.cells.toList := by
  have hr := cvV_sound μ d z v h
  have := hr.cells
  have hne : v.cells ≠ [] ∨ v.cells = [] := by by_cases h : v.cells = [] <;> simp [h]
  rcases hne with h0 | h0
  · rwa [List.take_of_length_le (by rw [Array.length_toList, hr.cells_size h0]; exact Nat.le_refl _)] at this
  · cases v
    case agg cs =>
      simp only [V.cells] at h0
      subst h0
      simp only [VRel] at hr
      obtain ⟨a, rfl, h1, _⟩ := hr
      exact h1
    case tup cs =>
      simp only [VRel] at hr
      obtain ⟨a, rfl, h1⟩ := hr
      cases d with
      | zero => simp [cvV] at h
      | succ d => simp [cvV] at h
    all_goals simp [V.cells] at h0

end Go.AM

/- The quiet instructions, all together. Conditions: as each states. -/
set_option linter.unusedVariables false
set_option linter.unusedSimpArgs false
namespace Go.AM
open Go

theorem cvO?_some {n : Nat} {x : Option Operand} {y : Option Opd} (h : cvO? n x = some y) : (x = none ∧ y = none) ∨ ∃ o p, x = some o ∧ y = some p ∧ cvO n o = some p := by
  cases x with
  | none => simp only [cvO?, Option.some.injEq] at h; subst h; exact .inl ⟨rfl, rfl⟩
  | some o =>
    simp only [cvO?, Option.map_eq_some_iff] at h
    obtain ⟨p, hp, rfl⟩ := h
    exact .inr ⟨o, p, rfl, rfl, hp⟩

theorem cutOf_run {P : Program} {n : Nat} {μ env H a w} (st : St n μ env H a w) {o : Operand} {p : Opd} (h : cvO n o = some p) {d l : Nat} (hc : cutOf (some (p.ev env)) d = some l)
    {y : Nat} (hy : l ≤ y) (code : BoundsCode) : (Instr.sliceBound (a.eval o) y code).run P w = .ok l w := by
  have hr := cvO_sound h st
  generalize p.ev env = v at hc hr
  generalize a.eval o = x at hr
  unfold cutOf at hc
  split at hc
  · rename_i e; cases e
  · rename_i k i e
    obtain rfl := Option.some.inj e
    split at hc
    · rename_i h0
      obtain rfl := Option.some.inj hc
      simp only [VRel] at hr
      subst hr
      simp only [Instr.sliceBound, asIntOf, pure_bind]
      rw [if_pos ⟨h0, by omega⟩]; rfl
    · cases hc
  · cases hc

theorem sliV_sound {P : Program} {n : Nat} {μ env H a w} (st : St n μ env H a w) {t e : TypeId} (ht : P.underlying t = some (.slice e)) {sz bytes : Nat} (hsz : szT P e = some (sz, bytes))
    {x : Operand} {x' : Opd} (hx : cvO n x = some x') {lo hi mx : Option Operand} {lo' hi' mx' : Option Opd} (hlo : cvO? n lo = some lo') (hhi : cvO? n hi = some hi') (hmx : cvO? n mx = some mx')
    {v : V} (hv : sliV H sz (x'.ev env) (lo'.map (Opd.ev env)) (hi'.map (Opd.ev env)) (mx'.map (Opd.ev env)) = some v) :
    ∃ y, (Instr.sliceAt t (a.eval x) (lo.map a.eval) (hi.map a.eval) (mx.map a.eval)).run P w = .ok y w ∧ VRel μ v y := by
  obtain ⟨i, d, h1, h2, h3, h4⟩ := szT_some hsz
  have hr := cvO_sound hx st
  generalize x'.ev env = u at hr hv
  generalize a.eval x = cx at hr
  have hbounds : ∀ (len cap l h m : Nat), cutOf (lo'.map (Opd.ev env)) 0 = some l → cutOf (hi'.map (Opd.ev env)) len = some h → (mx' = none ∧ m = cap ∨ hi'.isSome ∧ cutOf (mx'.map (Opd.ev env)) 0 = some m ∧ mx' ≠ none) → l ≤ h → h ≤ m → m ≤ cap →
      (Instr.sliceBounds true len cap (lo.map a.eval) (hi.map a.eval) (mx.map a.eval)).run P w = .ok (l, h, m) w := by
    intro len cap l h m e1 e2 e3 i1 i2 i3
    rcases cvO?_some hmx with ⟨rfl, rfl⟩ | ⟨o, p, rfl, rfl, hp⟩
    · obtain ⟨_, rfl⟩ | ⟨_, _, h⟩ := e3
      · rcases cvO?_some hhi with ⟨rfl, rfl⟩ | ⟨o', p', rfl, rfl, hp'⟩
        · simp [cutOf] at e2; subst e2
          rcases cvO?_some hlo with ⟨rfl, rfl⟩ | ⟨o, p, rfl, rfl, hp⟩
          · simp [cutOf] at e1; subst e1; simp [Instr.sliceBounds]
          · have hl := fun code => cutOf_run (P := P) st hp e1 i1 code
            simp [Instr.sliceBounds, hl]
        · have := fun code => cutOf_run (P := P) st hp' e2 (y := m) (by omega) code
          rcases cvO?_some hlo with ⟨rfl, rfl⟩ | ⟨o, p, rfl, rfl, hp⟩
          · simp [cutOf] at e1; subst e1; simp [Instr.sliceBounds, this]
          · have hl := fun code => cutOf_run (P := P) st hp e1 i1 code
            simp [Instr.sliceBounds, this, hl]
      · exact absurd rfl h
    · obtain ⟨h, _⟩ | ⟨hs, e3, _⟩ := e3
      · cases h
      · have hm := fun code => cutOf_run (P := P) st hp e3 (y := cap) (by omega) code
        rcases cvO?_some hhi with ⟨rfl, rfl⟩ | ⟨o', p', rfl, rfl, hp'⟩
        · cases hs
        · have hh := fun code => cutOf_run (P := P) st hp' e2 (y := m) (by omega) code
          rcases cvO?_some hlo with ⟨rfl, rfl⟩ | ⟨o, p, rfl, rfl, hp⟩
          · simp [cutOf] at e1; subst e1; simp [Instr.sliceBounds, hm, hh]
          · have hl := fun code => cutOf_run (P := P) st hp e1 i1 code
            simp [Instr.sliceBounds, hm, hh, hl]
  cases u with
  | nils =>
    simp only [VRel] at hr
    subst hr
    simp only [sliV] at hv
    split at hv
    · rename_i e1 e2 e3
      split at hv
      · rename_i hc
        obtain rfl := Option.some.inj hv
        have := hbounds 0 0 0 0 0 e1 e2 (by
          cases mx' with
          | none => exact .inl ⟨rfl, rfl⟩
          | some p => exact .inr ⟨by simpa using hc.2, e3, by simp⟩) (Nat.le_refl _) (Nat.le_refl _) (Nat.le_refl _)
        refine ⟨.slice none 0 0, ?_, by simp [VRel]⟩
        simp [Instr.sliceAt, Instr.slice, run_underlying ht, this, run_sizeT h1]
      · cases hv
    · cases hv
  | sl nm o len full =>
    simp only [VRel] at hr
    obtain ⟨loc, ad, cap, hloc, rfl, hcap, hfull, hat⟩ := hr
    obtain ⟨hb, hat, hroom⟩ := hat
    simp only [sliV] at hv
    split at hv
    · rename_i blk l h e0 e1 e2
      split at hv
      · rename_i hc
        obtain ⟨i1, i2, i3, i4⟩ := hc
        have key : ∀ (m : Nat) (f : Bool), h ≤ m → m ≤ cap → (f = true → m = h) → (Instr.sliceBounds true len cap (lo.map a.eval) (hi.map a.eval) (mx.map a.eval)).run P w = .ok (l, h, m) w →
            ∃ y, (Instr.sliceAt t (.slice (some ad) len cap) (lo.map a.eval) (hi.map a.eval) (mx.map a.eval)).run P w = .ok y w ∧ VRel μ (.sl nm (o + l * sz) (h - l) f) y := by
          intro m f j1 j2 j3 hrun
          refine ⟨.slice (some (if m = l then ad else ad.add (l * sz))) (h - l) (m - l), ?_, ?_⟩
          · simp only [Instr.sliceAt, Instr.slice, Sem.run_bind, run_underlying ht, Result.andThen_ok, hrun, run_sizeT h1, h3]
            by_cases hml : m = l
            · simp [hml]
            · simp [hml]
          · simp only [VRel]
            refine ⟨loc, _, _, hloc, rfl, by omega, fun hf => by rw [j3 hf], ?_, fun hz => ?_, fun s c hs => ?_⟩
            · split
              · exact hb
              · unfold Addr.add; split <;> exact hb
            · rcases hz with hz | hz
              · rw [if_neg (by omega), hat (.inl (by omega)), addr_add]; congr 1; omega
              · have hl0 : l = 0 := by
                  rcases Nat.eq_zero_or_pos l with h | h
                  · exact h
                  · have : 0 < l * sz := Nat.mul_pos h i3
                    omega
                subst hl0
                have ho : o = 0 := by omega
                subst ho
                rw [hat (.inr rfl), addr_add]
                split <;> simp
            · rcases hroom s c hs with hk | hk
              · left
                obtain ⟨l', hl', hbe⟩ := st.sim.bears nm blk e0
                rw [hloc] at hl'
                obtain rfl := Option.some.inj hl'
                have hss : s = sz := by
                  cases how : blk.own with
                  | false => rw [hbe.notown how] at hs; cases hs
                  | true =>
                    obtain ⟨_, c', e', _, hr'⟩ := hbe.own how
                    rw [hs] at hr'
                    have := (Prod.mk.inj (Option.some.inj hr')).1
                    omega
                subst hss
                have : (m - l) * s ≤ (cap - l) * s := Nat.mul_le_mul_right _ (by omega)
                have h5 : (cap - l) * s = cap * s - l * s := Nat.sub_mul _ _ _
                have h6 : l * s ≤ cap * s := Nat.mul_le_mul_right _ (by omega)
                omega
              · right; exact ⟨by omega, by have := hk.2; omega⟩
        cases mx' with
        | none =>
          simp only [Option.map_none, Option.some.injEq] at hv
          subst hv
          refine key cap _ (by omega) (Nat.le_refl _) (fun hf => ?_) (hbounds len cap l h cap e1 e2 (.inl ⟨rfl, rfl⟩) i1 (by omega) (Nat.le_refl _))
          simp only [Bool.and_eq_true, beq_iff_eq] at hf
          rw [hfull hf.1, hf.2]
        | some p =>
          simp only [Option.map_some] at hv
          split at hv
          · rename_i m e3
            split at hv
            · rename_i hc
              obtain rfl := Option.some.inj hv
              exact key m _ hc.1 (by omega) (fun hf => by simpa using hf) (hbounds len cap l h m e1 e2 (.inr ⟨by simpa using hc.2.2, e3, by simp⟩) i1 hc.1 (by omega))
            · cases hv
          · cases hv
      · cases hv
    · cases hv
  | _ => simp [sliV] at hv

theorem lenR_run {P : Program} {t e ty : TypeId} (ht : P.underlying t = some (.slice e)) {μ : Map} {u : V} {x : Value} (hr : VRel μ u x) (w : World) {v : V}
    (hv : lenR u = some v) : ∃ y, (Builtin.len_ #[t] ty #[x]).run P w = .ok y w ∧ VRel μ v y := by
  unfold lenR at hv
  split at hv
  · obtain rfl := Option.some.inj hv
    simp only [VRel] at hr
    obtain ⟨l, a, cap, _, rfl, _⟩ := hr
    exact ⟨_, by simp only [Builtin.len_]; simp [run_underlying ht]; rfl, rfl⟩
  · obtain rfl := Option.some.inj hv
    simp only [VRel] at hr
    subst hr
    exact ⟨_, by simp only [Builtin.len_]; simp [run_underlying ht]; rfl, rfl⟩
  · cases hv

theorem part_run {P : Program} {t : TypeId} {sz bytes : Nat} (hs : szT P t = some (sz, bytes)) {μ : Map} {us : List V} {a : Array Value} (hr : VRels μ us a.toList) (h1 : ∀ c ∈ us, c.one = true) {off : Nat} (w : World) {v : V}
    (hv : (if aggT P t then (if off + sz ≤ us.length then some (.agg ((us.drop off).take sz)) else none) else us[off]?) = some v) :
    ∃ y, (part t a off).run P w = .ok y w ∧ VRel μ v y := by
  obtain ⟨i, d, hi, hd, h3, h4⟩ := szT_some hs
  by_cases ha : aggT P t = true
  · rw [if_pos ha] at hv
    split at hv
    · rename_i hle
      obtain rfl := Option.some.inj hv
      refine ⟨.agg (a.extract off (off + sz)), ?_, ?_⟩
      · simp [part, run_aggT hd, ha, run_sizeT hi, h3]
      · simp only [VRel]
        refine ⟨_, rfl, ?_, fun c hc => h1 c (List.mem_of_mem_drop (List.mem_of_mem_take hc))⟩
        have := (hr.drop off).take sz
        rw [Array.toList_extract]
        simpa [List.extract_eq_take_drop] using this
    · cases hv
  · rw [if_neg ha] at hv
    obtain ⟨y, hy, hr'⟩ := hr.get off v hv
    have ha' : aggT P t = false := by simpa using ha
    exact ⟨y, by
      have : a[off]? = some y := by simpa using hy
      simp [part, run_aggT hd, ha', this], hr'⟩

theorem mm_run {P : Program} {mx : Bool} {ty : TypeId} {ts : Array TypeId} {μ : Map} {u v r : V} {x y : Value} (hu : VRel μ u x) (hv : VRel μ v y) (w : World)
    (h : mmV mx u v = some r) : ∃ z, (if mx then Builtin.max_ ts ty #[x, y] else Builtin.min_ ts ty #[x, y]).run P w = .ok z w ∧ VRel μ r z := by
  cases u with
  | int k a =>
    cases v with
    | int k' b =>
      simp only [VRel] at hu hv
      subst hu; subst hv
      simp only [mmV] at h
      split at h
      · obtain rfl := Option.some.inj h
        cases mx
        · exact ⟨.int k (if b < a then b else a), by simp only [Bool.false_eq_true, if_false, Builtin.min_]; simp [Builtin.min2], by simp [VRel]⟩
        · exact ⟨.int k (if b > a then b else a), by simp only [if_true, Builtin.max_]; simp [Builtin.max2], by simp [VRel]⟩
      · cases h
    | _ => cases h
  | _ => cases h

end Go.AM

/- Every quiet instruction gives what the program's operation gives. Conditions: as stated. -/
set_option linter.unusedVariables false
set_option linter.unusedSimpArgs false
namespace Go.AM
open Go

theorem quiet_bin {P : Program} {n : Nat} {op : BinOp} {t : TypeId} {x y : Operand} {i : I} (h : cvBin P n op t x y = some i) {μ env H a w} (st : St n μ env H a w) {v : V} (hv : pv i env H = some v) :
    ∃ z, (do eqGuard op t x y (a.eval x) (a.eval y); binOp op t (a.eval x) (a.eval y) : Sem Value).run P w = .ok z w ∧ VRel μ v z := by
  unfold cvBin at h
  split at h
  · rename_i p q d hx hy hd
    have rx := cvO_sound hx st
    have ry := cvO_sound hy st
    split at h
    · obtain rfl := Option.some.inj h
      exact run_bin_int rx ry hv
    · split at h
      · rename_i neg hn
        obtain rfl := Option.some.inj h
        simp only [pv] at hv
        split at hv
        · rename_i b1 b2 e1 e2
          obtain rfl := Option.some.inj hv
          rw [e1] at rx; rw [e2] at ry
          simp only [VRel] at rx ry
          rw [rx, ry]
          exact ⟨_, run_beq hn hd _ _, by simp [VRel]⟩
        · cases hv
      · cases h
    · rename_i fs
      split at h
      · rename_i neg hn
        split at h
        · rename_i hc
          obtain rfl := Option.some.inj h
          simp only [pv] at hv
          split at hv
          · rename_i us vs e1 e2
            split at hv
            · rename_i hl
              obtain ⟨b, hb, rfl⟩ := Option.map_eq_some_iff.1 hv
              rw [e1] at rx; rw [e2] at ry
              simp only [Bool.and_eq_true, Bool.not_eq_true'] at hc
              exact ⟨_, run_eqs hn hd hc.1.1 hc.1.2 hc.2 rx ry hl hb, by simp [VRel]⟩
            · cases hv
          · cases hv
        · cases h
      · cases h
    · split at h
      · rename_i neg k hn hk
        split at h
        · rename_i h1
          obtain rfl := Option.some.inj h
          simp only [pv] at hv
          obtain ⟨b, hb, rfl⟩ := Option.map_eq_some_iff.1 hv
          exact ⟨_, run_isnil hn hd hk (fun _ => rfl) hb (.inl ⟨h1, rx⟩), by simp [VRel]⟩
        · split at h
          · rename_i h1
            obtain rfl := Option.some.inj h
            simp only [pv] at hv
            obtain ⟨b, hb, rfl⟩ := Option.map_eq_some_iff.1 hv
            exact ⟨_, run_isnil hn hd hk (fun _ => rfl) hb (.inr ⟨h1, ry⟩), by simp [VRel]⟩
          · cases h
      · cases h
  · cases h

/-- an operation comes to a value and leaves the world alone -/
def Quietly (P : Program) (a : Act) (o : Oper) (w : World) (μ : Map) (v : V) : Prop := ∃ x, (execOp a.eval o).run P w = .ok (.value x) w ∧ VRel μ v x

theorem quiet_sound {P : Program} {n : Nat} {ops : Array Oper} {o : Oper} {i : I} (h : cvI P n ops o.op = some i) {μ env H a w} (st : St n μ env H a w) {v : V} (hv : pv i env H = some v) : Quietly P a o w μ v := by
  unfold Quietly
  cases ho : o.op <;> rw [ho] at h <;> simp only [cvI] at h
  case move x =>
    obtain ⟨y, hy, rfl⟩ := Option.map_eq_some_iff.1 h
    simp only [pv, Option.some.injEq] at hv
    subst hv
    exact ⟨_, by simp [execOp, ho], cvO_sound hy st⟩
  case assign x =>
    obtain ⟨y, hy, rfl⟩ := Option.map_eq_some_iff.1 h
    simp only [pv, Option.some.injEq] at hv
    subst hv
    exact ⟨_, by simp [execOp, ho], cvO_sound hy st⟩
  case pick c x y =>
    split at h
    · rename_i c' x' y' hc hx hy
      obtain rfl := Option.some.inj h
      have rc := cvO_sound hc st
      simp only [pv] at hv
      split at hv
      · rename_i e
        obtain rfl := Option.some.inj hv
        rw [e] at rc; simp only [VRel] at rc
        exact ⟨_, by simp [execOp, ho, rc, asBool], cvO_sound hx st⟩
      · rename_i e
        obtain rfl := Option.some.inj hv
        rw [e] at rc; simp only [VRel] at rc
        exact ⟨_, by simp [execOp, ho, rc, asBool], cvO_sound hy st⟩
      · cases hv
    · cases h
  case load t x =>
    split at h
    · rename_i sz b y hs hx
      obtain rfl := Option.some.inj h
      obtain ⟨z, hz, hr⟩ := run_loadVar_ld hs st.sim (cvO_sound hx st) hv
      exact ⟨z, by simp [execOp, ho, hz], hr⟩
    · cases h
  case binOp op t x y yt =>
    obtain ⟨z, hz, hr⟩ := quiet_bin h st hv
    refine ⟨z, ?_, hr⟩
    have he : execOp a.eval o = (do pure (Next.value (← (do eqGuard op t x y (a.eval x) (a.eval y); binOp op t (a.eval x) (a.eval y) : Sem Value))) : Sem Next) := by simp only [execOp, ho]
    rw [he, Sem.run_bind, hz]; rfl
  case unOp op t x =>
    obtain ⟨y, hy, rfl⟩ := Option.map_eq_some_iff.1 h
    have rx := cvO_sound hy st
    simp only [pv] at hv
    unfold unV at hv
    split at hv
    · rename_i e
      obtain rfl := Option.some.inj hv
      rw [e] at rx; simp only [VRel] at rx
      exact ⟨_, by simp [execOp, ho, rx, Op.unary, Op.intArith]; rfl, by simp [VRel]⟩
    · rename_i e
      obtain rfl := Option.some.inj hv
      rw [e] at rx; simp only [VRel] at rx
      exact ⟨_, by simp [execOp, ho, rx, Op.unary]; rfl, by simp [VRel]⟩
    · cases hv
  case convert src dst x =>
    split at h
    · rename_i d k y h1 h2 hx
      obtain rfl := Option.some.inj h
      have rx := cvO_sound hx st
      simp only [pv] at hv
      split at hv
      · rename_i k' m e
        obtain rfl := Option.some.inj hv
        rw [e] at rx; simp only [VRel] at rx
        exact ⟨_, by simp [execOp, ho, rx, convert, run_underlying h1, run_underlying h2, Conv.intToInt]; rfl, by simp [VRel]⟩
      · cases hv
    · cases h
  case makeInterface t x =>
    split at h
    · cases h
    · rename_i d y hd hx hne
      obtain rfl := Option.some.inj h
      simp only [pv, Option.some.injEq] at hv
      subst hv
      refine ⟨.iface t (a.eval x), ?_, ?_⟩
      · simp only [execOp, ho, Instr.makeInterface, Sem.run_bind, run_underlying hx, Result.andThen_ok]
        cases d <;> first | rfl | (rename_i ms; exact absurd rfl (hd ms _ hx rfl))
      · simp only [VRel]
        exact ⟨_, rfl, cvO_sound hne st⟩
    · cases h
  case makeFunc fn first captured =>
    cases fn with
    | func g =>
      simp only at h
      split at h
      · rename_i xs hf hx
        obtain rfl := Option.some.inj h
        simp only [pv, Option.some.injEq] at hv
        subst hv
        refine ⟨.func (.func g) (first.map a.eval) (captured.map a.eval), by simp [execOp, ho, Instr.makeFunc], ?_⟩
        simp only [VRel]
        have : first = #[] := by simpa using hf
        subst this
        exact ⟨captured.map a.eval, by simp, by simpa using cvOs_sound hx st⟩
      · cases h
    | _ => cases h
  case slice t x lo hi mx =>
    split at h
    · rename_i e he
      split at h
      · rename_i sz b x' lo' hi' mx' hs hx hlo hhi hmx
        obtain rfl := Option.some.inj h
        have ht : P.underlying t = some (.slice e) := by
          unfold elemT at he; split at he
          · rename_i h1; rw [h1]; simpa using he
          · cases he
        obtain ⟨y, hy, hr⟩ := sliV_sound st ht hs hx hlo hhi hmx hv
        exact ⟨y, by simp [execOp, ho, hy], hr⟩
      · cases h
    · cases h
  case fieldAddr t x f =>
    split at h
    · rename_i fs y ht hx
      split at h
      · rename_i fd hfd
        split at h
        · rename_i sz b hs
          split at h
          · rename_i h0
            obtain rfl := Option.some.inj h
            obtain ⟨i, d, hi, hd, h3, h4⟩ := szT_some hs
            have rx := cvO_sound hx st
            simp only [pv] at hv
            split at hv
            · rename_i nm o e
              obtain rfl := Option.some.inj hv
              rw [e] at rx; simp only [VRel] at rx
              obtain ⟨l, hl, rx⟩ := rx
              refine ⟨.pointer (some ⟨l.b, l.x + (o + fd.offset), none⟩), ?_, ?_⟩
              · have hne : i.size ≠ 0 := by omega
                simp [execOp, ho, rx, Instr.fieldAt, run_underlying ht, hfd, Instr.sureAddr, fieldPlace, run_sizeT hi, hne, addr_add, Nat.add_assoc]
              · simp only [VRel]; exact ⟨l, hl, rfl⟩
            · cases hv
          · cases h
        · cases h
      · cases h
    · cases h
  case field t x f =>
    split at h
    · rename_i fs y ht hx
      split at h
      · rename_i fd hfd
        split at h
        · rename_i sz b hs
          obtain rfl := Option.some.inj h
          have rx := cvO_sound hx st
          simp only [pv] at hv
          split at hv
          · rename_i us e
            rw [e] at rx; simp only [VRel] at rx
            obtain ⟨ar, rx, hr, h1⟩ := rx
            obtain ⟨z, hz, hrz⟩ := part_run (P := P) hs hr h1 w hv
            exact ⟨z, by simp [execOp, ho, rx, Instr.field, run_underlying ht, hfd, asAgg, hz], hrz⟩
          · cases hv
        · cases h
      · cases h
    · cases h
  case indexAddr t x j =>
    split at h
    · rename_i e he
      split at h
      · rename_i sz b x' j' hs hx hj
        obtain rfl := Option.some.inj h
        have ht : P.underlying t = some (.slice e) := by
          unfold elemT at he; split at he
          · rename_i h1; rw [h1]; simpa using he
          · cases he
        obtain ⟨i, d, hi, hd, h3, h4⟩ := szT_some hs
        have rx := cvO_sound hx st
        have rj := cvO_sound hj st
        simp only [pv] at hv
        split at hv
        · rename_i nm o len full k jj e1 e2
          split at hv
          · rename_i hc
            obtain rfl := Option.some.inj hv
            rw [e1] at rx; rw [e2] at rj
            simp only [VRel] at rx rj
            obtain ⟨l, ad, cap, hl, rx, hcap, hful, hb, hat, hroom⟩ := rx
            have hne : len ≠ 0 := by omega
            have had := hat (.inl hne)
            refine ⟨.pointer (some ⟨l.b, l.x + (o + jj.toNat * sz), none⟩), ?_, ?_⟩
            · simp [execOp, ho, rx, rj, Instr.indexAt, run_underlying ht, asIntOf, hc, run_sizeT hi, h3, had, addr_add, Nat.add_assoc]
            · simp only [VRel]; exact ⟨l, hl, rfl⟩
          · cases hv
        · cases hv
      · cases h
    · cases h
  case extract x j =>
    obtain ⟨y, hy, rfl⟩ := Option.map_eq_some_iff.1 h
    have rx := cvO_sound hy st
    simp only [pv] at hv
    split at hv
    · rename_i vs e
      rw [e] at rx; simp only [VRel] at rx
      obtain ⟨ar, rx, hr⟩ := rx
      obtain ⟨z, hz, hrz⟩ := hr.get j v hv
      have : ar[j]? = some z := by simpa using hz
      exact ⟨z, by simp [execOp, ho, rx, Instr.extract, this], hrz⟩
    · cases hv
  case nilCheck x =>
    obtain ⟨y, hy, rfl⟩ := Option.map_eq_some_iff.1 h
    have rx := cvO_sound hy st
    simp only [pv] at hv
    split at hv
    all_goals first
      | cases hv
      | skip
    all_goals
      rename_i e
      rw [e] at rx
      have rx' := rx
      simp only [VRel] at rx
    · obtain ⟨l, hl, rx⟩ := rx
      exact ⟨_, by simp [execOp, ho, rx], rx ▸ rx'⟩
    · obtain ⟨cs, rx, hr⟩ := rx
      exact ⟨_, by simp [execOp, ho, rx], rx ▸ rx'⟩
    · obtain ⟨l, ad, cap, hl, rx, _⟩ := rx
      exact ⟨_, by simp [execOp, ho, rx], rx ▸ rx'⟩
    · exact ⟨_, by simp [execOp, ho, rx], rx ▸ rx'⟩
  case build t parts =>
    split at h
    · rename_i fs zs ht hz
      split at h
      · rename_i pl hpl
        obtain ⟨ps, hps, rfl⟩ := Option.map_eq_some_iff.1 h
        simp only [pv] at hv
        obtain ⟨rs, hrs, rfl⟩ := Option.map_eq_some_iff.1 hv
        obtain ⟨i, z, u, hi, hzz, hcv, rfl⟩ := zeroT_some hz
        obtain ⟨c, f1, f2, f3⟩ := fill_sound st (place := (pl[·]?)) (fun _ _ h => h) parts.toList ps _ rs z.cells hps (cvV_cells hcv) (cvV_sound μ 4 z u hcv).cells_one hrs
        have hm := fieldsT_run (P := P) (w := w) fs.toList pl hpl
        refine ⟨.agg c, ?_, ?_⟩
        · simp only [bind_pure_comp] at hm
          simp [execOp, ho, Instr.build, run_zeroT hi hzz, run_underlying ht, Array.mapM_eq_mapM_toList, hm, f1]
        · simp only [VRel]; exact ⟨c, rfl, f2, f3⟩
      · cases h
    · cases h
  case alloc t => obtain ⟨y, hy, rfl⟩ := Option.map_eq_some_iff.1 h; simp [pv] at hv
  case box t x => obtain ⟨y, hy, rfl⟩ := Option.map_eq_some_iff.1 h; simp [pv] at hv
  case buildSlice t len parts =>
    split at h
    · split at h
      · split at h
        · obtain ⟨y, hy, rfl⟩ := Option.map_eq_some_iff.1 h; simp [pv] at hv
        · cases h
      · cases h
    · cases h
  case store t x y =>
    split at h
    · obtain rfl := Option.some.inj h; simp [pv] at hv
    · cases h
  case makeSlice t l c =>
    split at h
    · split at h
      · split at h
        · obtain rfl := Option.some.inj h; simp [pv] at hv
        · cases h
      · cases h
    · cases h
  case call c =>
    obtain ⟨callee, args, argTypes⟩ := c
    unfold cvCall at h
    simp only at h
    split at h
    · split at h
      · obtain rfl := Option.some.inj h; simp [pv] at hv
      · cases h
    · split at h
      · split at h
        · split at h
          · obtain rfl := Option.some.inj h; simp [pv] at hv
          · cases h
        · cases h
      · cases h
    · unfold cvLen at h
      split at h
      · rename_i x t e1 e2
        split at h
        · rename_i e y ht hx
          obtain rfl := Option.some.inj h
          have ea : args = #[x] := by rw [← Array.toArray_toList (xs := args), e1]
          have et : argTypes = #[t] := by rw [← Array.toArray_toList (xs := argTypes), e2]
          subst ea; subst et
          obtain ⟨z, hz, hr⟩ := lenR_run (P := P) (ty := o.type) ht (cvO_sound hx st) w hv
          exact ⟨z, by simp [execOp, ho, resolve, invoke, builtin, hz], hr⟩
        · cases h
      · cases h
    · unfold cvApp at h
      split at h
      · split at h
        · split at h
          · split at h
            · obtain rfl := Option.some.inj h; simp [pv] at hv
            · cases h
          · cases h
        · cases h
      · cases h
    · unfold cvCpy at h
      split at h
      · split at h
        · split at h
          · split at h
            · obtain rfl := Option.some.inj h; simp [pv] at hv
            · cases h
          · cases h
        · cases h
      · cases h
    · unfold cvMM at h
      split at h
      · rename_i x y e1
        split at h
        · rename_i x' y' hx hy
          obtain rfl := Option.some.inj h
          have ea : args = #[x, y] := by rw [← Array.toArray_toList (xs := args), e1]
          subst ea
          obtain ⟨z, hz, hr⟩ := mm_run (P := P) (mx := true) (ty := o.type) (ts := argTypes) (cvO_sound hx st) (cvO_sound hy st) w hv
          simp only [if_true] at hz
          exact ⟨z, by simp [execOp, ho, resolve, invoke, builtin, hz], hr⟩
        · cases h
      · cases h
    · unfold cvMM at h
      split at h
      · rename_i x y e1
        split at h
        · rename_i x' y' hx hy
          obtain rfl := Option.some.inj h
          have ea : args = #[x, y] := by rw [← Array.toArray_toList (xs := args), e1]
          subst ea
          obtain ⟨z, hz, hr⟩ := mm_run (P := P) (mx := false) (ty := o.type) (ts := argTypes) (cvO_sound hx st) (cvO_sound hy st) w hv
          simp only [Bool.false_eq_true, if_false] at hz
          exact ⟨z, by simp [execOp, ho, resolve, invoke, builtin, hz], hr⟩
        · cases h
      · cases h
    · cases h
  all_goals cases h
end Go.AM

/- The instructions that make memory, write it or call do what the program's operations do. Conditions: as stated. -/
set_option linter.unusedVariables false
set_option linter.unusedSimpArgs false
namespace Go.AM
open Go

/-- how an operation ends, seen from the abstract machine -/
def Post (μ : Map) (H : Heap) (w : World) (a : Act) (o : Oper) (K : V → Heap → Prop) (a' : Act) (w' : World) : Prop :=
  ∃ μ' v x H', Tr μ H w μ' H' w' ∧ Sim μ' H' w' ∧ VRel μ' v x ∧ a' = a.put o.dst x ∧ K v H'

theorem elemT_some {P : Program} {t e : TypeId} (h : elemT P t = some e) : P.underlying t = some (.slice e) := by
  unfold elemT at h; split at h
  · rename_i h1; rw [h1]; simpa using h
  · cases h

theorem room_of {μ : Map} {l : Loc} {sz : Nat} {c : Array Value} {n : Nat} : slAt ⟨n, 0, some (sz, c.size)⟩ 0 c.size 0 ⟨n, 0, none⟩ → True := fun _ => trivial

theorem slAt_new (b sz c len cap : Nat) (h : cap * sz ≤ c) : slAt ⟨b, 0, some (sz, c)⟩ 0 len cap ⟨b, 0, none⟩ := by
  refine ⟨rfl, fun _ => rfl, fun s c' hs => ?_⟩
  obtain ⟨rfl, rfl⟩ := Prod.mk.inj (Option.some.inj hs)
  left; omega

section
variable {P : Program} {n : Nat} {ops : Array Oper} {o : Oper} {μ : Map} {env : Env} {H : Heap} {a : Act} {w : World} {Q : Exit → Act → World → Prop} {K : V → Heap → Prop}

theorem sound_value {x : Value} {w' : World} (hr : (execOp a.eval o).run P w = .ok (.value x) w') (h : Post μ H w a o K (a.put o.dst x) w') : o.wp P a w (Post μ H w a o K) Q := by
  unfold Oper.wp; rw [hr]; exact h

theorem sound_new {t : TypeId} {x : Operand} {y : Opd} (ho : o.op = .box t x) (hx : cvO n x = some y) (st : St n μ env H a w) (h : iwp P (.new y) K env H) : o.wp P a w (Post μ H w a o K) Q := by
  obtain ⟨nm, hn, hHn⟩ := st.sim.freshName
  have rx := cvO_sound hx st
  obtain ⟨s, tr⟩ := st.sim.alloc hn (c := (a.eval x).cells) (e := t) (sz := 1) rx.cells rx.cells_one rfl
  refine sound_value (x := .pointer (some ⟨w.heap.size, 0, none⟩)) (w' := w.alloc (.cells (a.eval x).cells t)) (by simp [execOp, ho, Instr.box, newVar, newRow]) ?_
  refine ⟨_, .ptr nm 0, _, _, tr, s, ?_, rfl, h nm hHn⟩
  simp only [VRel]
  exact ⟨_, Map.set_same _ _ _, rfl⟩

theorem sound_zero {t : TypeId} {zs : List V} (ho : o.op = .alloc t) (hz : zeroT P t = some zs) (st : St n μ env H a w) (h : iwp P (.zero zs) K env H) : o.wp P a w (Post μ H w a o K) Q := by
  obtain ⟨nm, hn, hHn⟩ := st.sim.freshName
  obtain ⟨i, z, u, hi, hzz, hcv, rfl⟩ := zeroT_some hz
  have rx := cvV_sound μ 4 z u hcv
  obtain ⟨s, tr⟩ := st.sim.alloc hn (c := z.cells) (e := t) (sz := 1) rx.cells rx.cells_one rfl
  refine sound_value (x := .pointer (some ⟨w.heap.size, 0, none⟩)) (w' := w.alloc (.cells z.cells t)) (by simp [execOp, ho, Instr.alloc, newVar, newRow, run_zeroT hi hzz]) ?_
  refine ⟨_, .ptr nm 0, _, _, tr, s, ?_, rfl, h nm hHn⟩
  simp only [VRel]
  exact ⟨_, Map.set_same _ _ _, rfl⟩

theorem replicate_cells {μ : Map} {us : List V} {z : Array Value} (h : VRels μ us z.toList) (k m : Nat) (hk : k ≤ m) (hz : 0 < z.size) :
    VRels μ (List.replicate k us).flatten ((madeCells z (m * z.size)).toList.take (List.replicate k us).flatten.length) := by
  have hl := h.length
  have hlen : (List.replicate k us).flatten.length = k * z.size := by simp [hl]
  rw [hlen]
  have hle : k * z.size ≤ m * z.size := Nat.mul_le_mul_right _ hk
  refine VRels.of_get (by rw [hlen, List.length_take, Array.length_toList, size_madeCells]; omega) fun i v x hv hx => ?_
  have hi : i < k * z.size := by rw [← hlen]; exact (List.getElem?_eq_some_iff.1 hv).1
  rw [List.getElem?_take_of_lt hi] at hx
  have hx' : (madeCells z (m * z.size))[i]? = some x := by simpa using hx
  have hmod : i % z.size < z.size := Nat.mod_lt _ hz
  have hx2 : z[i % z.size]? = some x := by
    have hlt : i < m * z.size := by omega
    simp only [madeCells, Array.getElem?_map] at hx'
    have : (Array.range (m * z.size))[i]? = some i := by simp [hlt]
    rw [this] at hx'
    simp only [Option.map_some, Option.some.injEq] at hx'
    rw [getElem!_pos z _ hmod] at hx'
    rw [Array.getElem?_eq_getElem hmod, hx']
  have hv2 : us[i % z.size]? = some v := by
    have hul : us.length = z.size := by simpa using hl
    rw [← hul] at hi hmod ⊢
    clear hx hx' hx2 hlen hle hl
    induction k generalizing i with
    | zero => simp at hi
    | succ k ih =>
      rw [List.replicate_succ, List.flatten_cons] at hv
      by_cases hiu : i < us.length
      · rw [List.getElem?_append_left hiu] at hv
        rw [Nat.mod_eq_of_lt hiu]; exact hv
      · rw [List.getElem?_append_right (by omega)] at hv
        have := ih (by omega) (i - us.length) hv (by rw [Nat.succ_mul] at hi; omega) (Nat.mod_lt _ (by omega))
        rwa [Nat.mod_eq_sub_mod (by omega)]
  obtain ⟨y, hy, hr⟩ := h.get _ _ hv2
  have : z[i % z.size]? = some y := by simpa using hy
  rw [hx2] at this
  obtain rfl := Option.some.inj this
  exact hr

theorem flatten_one {k : Nat} {us : List V} (h : ∀ c ∈ us, c.one = true) : ∀ c ∈ (List.replicate k us).flatten, c.one = true := by
  intro c hc
  rw [List.mem_flatten] at hc
  obtain ⟨l, hl, hc⟩ := hc
  rw [List.mem_replicate] at hl
  rw [hl.2] at hc
  exact h c hc

theorem sound_mk {t : TypeId} {l c : Operand} {i : I} (ho : o.op = .makeSlice t l c) (hi : cvI P n ops o.op = some i) (st : St n μ env H a w) (h : iwp P i K env H) : o.wp P a w (Post μ H w a o K) Q := by
  rw [ho] at hi
  simp only [cvI] at hi
  split at hi
  · rename_i e l' c' he hl hc
    split at hi
    · rename_i sz bytes zs hs hz
      split at hi
      · rename_i hc0
        obtain rfl := Option.some.inj hi
        obtain ⟨ii, d, h1, h2, h3, h4⟩ := szT_some hs
        obtain ⟨i0, z, u, hi0, hzz, hcv, rfl⟩ := zeroT_some hz
        rw [h1] at hi0
        obtain rfl := Option.some.inj hi0
        have rl := cvO_sound hl st
        have rc := cvO_sound hc st
        simp only [iwp] at h
        split at h
        · rename_i k1 len k2 cap e1 e2
          rw [e1] at rl; rw [e2] at rc
          simp only [VRel] at rl rc
          obtain ⟨j0, j1, j2, j3, h⟩ := h
          obtain ⟨nm, hn, hHn⟩ := st.sim.freshName
          have ru := cvV_sound μ 4 z u hcv
          have hcz : VRels μ u.cells z.cells.toList := cvV_cells hcv
          have hzs : z.cells.size = sz := by have := hcz.length; rw [hc0.2] at this; simpa using this.symm
          have hlc : len.toNat ≤ cap.toNat := by omega
          have hrun := run_make (P := P) w t e ii z (elemT_some he) h1 hzz k1 k2 len cap j0 j1 (by rw [h4, Int.mul_comm]; exact j2) (by omega)
          obtain ⟨s, tr⟩ := st.sim.alloc hn (c := madeCells z.cells (cap.toNat * ii.size)) (e := e) (sz := sz) (vs := (List.replicate len.toNat u.cells).flatten)
            (by rw [h3, ← hzs]; exact replicate_cells hcz _ _ hlc (by omega)) (flatten_one ru.cells_one) rfl
          refine sound_value (x := .slice (some ⟨w.heap.size, 0, none⟩) len.toNat cap.toNat) (w' := w.alloc (.cells (madeCells z.cells (cap.toNat * ii.size)) e)) (by simp [execOp, ho, rl, rc, hrun]) ?_
          refine ⟨_, .sl nm 0 len.toNat (len == cap), _, _, tr, s, ?_, rfl, h nm hHn⟩
          simp only [VRel]
          refine ⟨_, _, _, Map.set_same _ _ _, rfl, hlc, fun hf => ?_, slAt_new _ _ _ _ _ (by rw [size_madeCells, h3]; exact Nat.le_refl _)⟩
          have : len = cap := by simpa using hf
          rw [this]
        · exact h.elim
      · cases hi
    · cases hi
  · cases hi
end
end Go.AM

/- Stores, appends, copies and calls do what the program's operations do. Conditions: as stated. -/
set_option linter.unusedVariables false
set_option linter.unusedSimpArgs false
namespace Go.AM
open Go

theorem splice_toList (c : Array Value) (o : Nat) (ys : List Value) (h : o + ys.length ≤ c.size) (us vs : List V) {μ : Map} (hu : VRels μ us (c.toList.take us.length)) (hv : VRels μ vs ys) (hl : o + vs.length ≤ us.length) :
    VRels μ (splice us o vs) (((c.toList.take o ++ ys ++ c.toList.drop (o + ys.length)).toArray).toList.take (splice us o vs).length) := by
  have h1 := hu.length
  have h2 := hv.length
  have h3 := splice_length us o vs hl
  have hcu : us.length ≤ c.size := by
    have : us.length = min us.length c.toList.length := by simpa using h1
    simp at this; omega
  rw [h3]
  refine VRels.of_get (by rw [h3]; simp; omega) fun i v x hvi hxi => ?_
  rw [splice_get _ _ _ hl] at hvi
  have hi : i < us.length := by
    rcases Nat.lt_or_ge i us.length with h | h
    · exact h
    · rw [List.getElem?_take] at hxi
      rw [if_neg (by omega)] at hxi; cases hxi
  rw [List.getElem?_take_of_lt hi] at hxi
  simp only at hxi
  by_cases hi2 : o ≤ i ∧ i < o + vs.length
  · rw [if_pos hi2] at hvi
    rw [List.getElem?_append_left (by simp; omega), List.getElem?_append_right (by simp; omega)] at hxi
    have hm : (c.toList.take o).length = o := by simp; omega
    rw [hm] at hxi
    obtain ⟨y, hy, hr⟩ := hv.get _ _ hvi
    rw [hy] at hxi
    obtain rfl := Option.some.inj hxi
    exact hr
  · rw [if_neg hi2] at hvi
    obtain ⟨y, hy, hr⟩ := hu.get _ _ hvi
    rw [List.getElem?_take_of_lt hi] at hy
    have : c.toList[i]? = some x := by
      by_cases hlt : i < o
      · rw [List.append_assoc, List.getElem?_append_left (by simp; omega), List.getElem?_take_of_lt hlt] at hxi
        exact hxi
      · rw [List.getElem?_append_right (by simp; omega), List.getElem?_drop] at hxi
        have hm : (c.toList.take o ++ ys).length = o + ys.length := by simp; omega
        rw [hm] at hxi
        rwa [show o + ys.length + (i - (o + ys.length)) = i by omega] at hxi
    rw [this] at hy
    obtain rfl := Option.some.inj hy
    exact hr

/-- what an owned block holds concretely -/
theorem Sim.owned {μ : Map} {H : Heap} {w : World} (h : Sim μ H w) {n : Nat} {b : Blk} (hb : H n = some b) (ho : b.own = true) {l : Loc} (hl : μ n = some l) :
    ∃ c e, w.heap[l.b]? = some (.cells c e (0, 0)) ∧ l.x = 0 ∧ l.room = some (b.sz, c.size) ∧ VRels μ b.cells (c.toList.take b.cells.length) ∧ b.cells.length ≤ c.size ∧ ∀ v ∈ b.cells, v.one = true := by
  obtain ⟨l', hl', hbe⟩ := h.bears n b hb
  rw [hl] at hl'
  obtain rfl := Option.some.inj hl'
  obtain ⟨hx, c, e, hc, hr⟩ := hbe.own ho
  have hcell : ∀ i v, b.cells[i]? = some v → ∃ x, c[i]? = some x ∧ VRel μ v x ∧ v.one = true := fun i v hi => by
    obtain ⟨x, h1, h2, h3⟩ := hbe.cells i v hi
    refine ⟨x, ?_, h2, h3⟩
    simpa [World.cell?, hc, hx] using h1
  have hlen : b.cells.length ≤ c.size := by
    rcases Nat.eq_zero_or_pos b.cells.length with h0 | h0
    · omega
    · obtain ⟨x, h1, _⟩ := hcell (b.cells.length - 1) _ (List.getElem?_eq_getElem (by omega))
      have := (Array.getElem?_eq_some_iff.1 h1).1
      omega
  refine ⟨c, e, hc, hx, hr, VRels.of_get (by simp; omega) fun i v x hv hxx => ?_, hlen, fun v hv => ?_⟩
  · obtain ⟨y, h1, h2, _⟩ := hcell i v hv
    have hi : i < b.cells.length := (List.getElem?_eq_some_iff.1 hv).1
    rw [List.getElem?_take_of_lt hi] at hxx
    have : c[i]? = some x := by simpa using hxx
    rw [h1] at this
    obtain rfl := Option.some.inj this
    exact h2
  · obtain ⟨i, hi⟩ := List.mem_iff_getElem?.1 hv
    obtain ⟨_, _, _, h3⟩ := hcell i v hi
    exact h3

theorem VRels.ones {μ : Map} : ∀ {vs : List V} {xs : List Value}, VRels μ vs xs → (∀ v ∈ vs, v.one = true) → ∀ x ∈ xs, x.oneCell' = true
  | [], xs, h, _ => by simp only [VRels] at h; subst h; simp
  | v :: r, xs, h, h1 => by
    simp only [VRels] at h
    obtain ⟨x, t, rfl, ha, hb⟩ := h
    intro y hy
    rcases List.mem_cons.1 hy with rfl | hy
    · exact ha.one (h1 v (by simp))
    · exact VRels.ones hb (fun u hu => h1 u (by simp [hu])) y hy

theorem run_buildSlice {P : Program} {t e : TypeId} {i : TypeInfo} {z : Value} {len sz : Nat} {parts : Array (Nat × Value)} {c : Array Value} (w : World) (ht : P.underlying t = some (.slice e)) (hi : P.info? e = some i)
    (hs : i.size = sz) (hz : i.zero = some z) (hle : len * sz ≤ 16777216) (hf : Instr.fill (fun i => some (i * sz, sz)) (madeCells z.cells (len * sz)) parts.toList = some c) :
    (Instr.buildSlice t len parts).run P w = .ok (.slice (some ⟨w.heap.size, 0, none⟩) len len) (w.alloc (.cells c e)) := by
  subst hs
  have hne : ¬ (16777216 < len * i.size) := by omega
  unfold Instr.buildSlice
  by_cases h0 : len * i.size = 0
  · have hm : madeCells z.cells (len * i.size) = #[] := by rw [h0]; simp [madeCells, Array.range_zero']
    rw [hm] at hf
    simp [run_underlying ht, run_sizeT hi, h0, Array.range_zero', hf, newRow]
  · have hm : (Array.range (len * i.size)).map (fun x => z.cells[x % z.cells.size]!) = madeCells z.cells (len * i.size) := rfl
    simp [run_underlying ht, run_sizeT hi, h0, hne, run_zeroT hi hz, newRow, hm, hf]

section
variable {P : Program} {n : Nat} {ops : Array Oper} {o : Oper} {μ : Map} {env : Env} {H : Heap} {a : Act} {w : World} {Q : Exit → Act → World → Prop} {K : V → Heap → Prop}

/-- cells written into a block of the call's own -/
theorem write_owned {nm : Nat} {b : Blk} (hs : Sim μ H w) (hb : H nm = some b) (ho : b.own = true) {l : Loc} (hl : μ nm = some l) {off : Nat} {vs : List V} {ys : List Value} (hv : VRels μ vs ys)
    (h1 : ∀ v ∈ vs, v.one = true) (hle : off + vs.length ≤ b.cells.length) :
    ∃ w', (storeCells ⟨l.b, l.x + off, none⟩ ys).run P w = .ok () w' ∧ Tr μ H w μ (H.upd nm (some ⟨true, b.sz, splice b.cells off vs⟩)) w' ∧ Sim μ (H.upd nm (some ⟨true, b.sz, splice b.cells off vs⟩)) w' := by
  obtain ⟨c, e, hc, hx, hr, hrel, hlen, hone⟩ := hs.owned hb ho hl
  have hy := hv.length
  have hst := run_storeCells_at P l.b off e ys 0 c w hc (by omega) (hv.ones h1)
  simp only [Nat.add_zero] at hst
  obtain ⟨s, tr⟩ := hs.write hb ho hl (c' := (c.toList.take off ++ ys ++ c.toList.drop (off + ys.length)).toArray) (vs := splice b.cells off vs) hc (by simp; omega)
    (splice_toList c off ys (by omega) b.cells vs hrel hv hle) (fun v hv' => (mem_splice hv').elim (hone v) (h1 v)) rfl
  exact ⟨_, by rw [hx, Nat.zero_add]; exact hst, tr, s⟩

theorem sound_st {t : TypeId} {x y : Operand} {i : I} (ho : o.op = .store t x y) (hi : cvI P n ops o.op = some i) (st : St n μ env H a w) (h : iwp P i K env H) : o.wp P a w (Post μ H w a o K) Q := by
  rw [ho] at hi
  simp only [cvI] at hi
  split at hi
  · rename_i sz b p q hs hx hy
    obtain rfl := Option.some.inj hi
    obtain ⟨ii, d, h1, h2, h3, h4⟩ := szT_some hs
    have rx := cvO_sound hx st
    have ry := cvO_sound hy st
    simp only [iwp] at h
    split at h
    · rename_i nm off e
      rw [e] at rx; simp only [VRel] at rx
      obtain ⟨l, hl, rx⟩ := rx
      split at h
      · rename_i blk hb
        obtain ⟨_, how, hlen, h0, hle, h⟩ := h
        have hsz : (a.eval y).cells.size = (q.ev env).cells.length := by
          rcases h0 with h0 | h0
          · have hne : (q.ev env).cells ≠ [] := by intro e; rw [e] at hlen; simp at hlen; omega
            exact ry.cells_size hne
          · rw [h0] at ry ⊢
            simp only [VRel, VRels] at ry
            obtain ⟨c, e1, e2, _⟩ := ry
            have : c = #[] := by cases c; simpa using e2
            rw [e1, this]; rfl
        have hc := ry.cells
        rw [List.take_of_length_le (by rw [Array.length_toList, hsz]; exact Nat.le_refl _)] at hc
        obtain ⟨w', hrun, tr, s⟩ := write_owned (P := P) st.sim hb how hl (off := off) hc ry.cells_one (by omega)
        have hr : (execOp a.eval o).run P w = .ok .skip w' := by
          have hz : (a.eval y).cells.size = ii.size := by omega
          simp [execOp, ho, rx, Instr.storeAt, Instr.sureAddr, storeVar, run_sizeT h1, hz, hrun]
        unfold Oper.wp
        rw [hr]
        exact ⟨μ, und, undef, _, tr, s, by simp [und, VRel, undef, VRels], rfl, h⟩
      · exact h.elim
    · exact h.elim
  · cases hi

theorem sound_bsl {t : TypeId} {len : Nat} {parts : Array (Nat × Operand)} {i : I} (ho : o.op = .buildSlice t len parts) (hi : cvI P n ops o.op = some i) (st : St n μ env H a w) (h : iwp P i K env H) : o.wp P a w (Post μ H w a o K) Q := by
  rw [ho] at hi
  simp only [cvI] at hi
  split at hi
  · rename_i e he
    split at hi
    · rename_i sz bytes zs hs hz
      split at hi
      · rename_i hc0
        obtain ⟨ps, hps, rfl⟩ := Option.map_eq_some_iff.1 hi
        obtain ⟨ii, d, h1, h2, h3, h4⟩ := szT_some hs
        obtain ⟨i0, z, u, hi0, hzz, hcv, rfl⟩ := zeroT_some hz
        rw [h1] at hi0
        obtain rfl := Option.some.inj hi0
        have ru := cvV_sound μ 4 z u hcv
        have hcz : VRels μ u.cells z.cells.toList := cvV_cells hcv
        have hzs : z.cells.size = sz := by have := hcz.length; rw [hc0.2.1] at this; simpa using this.symm
        simp only [iwp] at h
        split at h
        · rename_i rs hrs
          have hrep : VRels μ (List.replicate len u.cells).flatten ((madeCells z.cells (len * z.cells.size)).toList) := by
            have := replicate_cells hcz len len (Nat.le_refl _) (by omega)
            rwa [List.take_of_length_le (by simp [size_madeCells, hc0.2.1, hzs])] at this
          obtain ⟨c, f1, f2, f3⟩ := fill_sound st (place := fun i => some (i * sz, sz)) (fun _ _ h => h) parts.toList ps _ rs _ hps hrep (flatten_one ru.cells_one) hrs
          obtain ⟨nm, hn, hHn⟩ := st.sim.freshName
          obtain ⟨s, tr⟩ := st.sim.alloc hn (c := c) (e := e) (sz := sz) (vs := rs) (by rw [List.take_of_length_le (by rw [f2.length]; exact Nat.le_refl _)]; exact f2) f3 rfl
          have hcs : c.size = len * sz := by
            have hfl : ∀ (ps : List (Nat × Nat × V)) (us rs : List V), fillV us ps = some rs → rs.length = us.length := by
              intro ps
              induction ps with
              | nil => intro us rs h; simp only [fillV, Option.some.injEq] at h; rw [h]
              | cons p ps ih =>
                intro us rs h
                obtain ⟨off, s', v⟩ := p
                simp only [fillV] at h
                split at h
                · rename_i hc
                  rw [ih _ _ h, splice_length _ _ _ (by omega)]
                · cases h
            have := hfl _ _ _ hrs
            have h5 := f2.length
            simp [hc0.2.1] at this
            have : c.toList.length = len * sz := by omega
            simpa using this
          refine sound_value (x := .slice (some ⟨w.heap.size, 0, none⟩) len len) (w' := w.alloc (.cells c e)) ?_ ?_
          · have hrun := run_buildSlice (P := P) (parts := parts.map fun p => (p.1, a.eval p.2)) w (elemT_some he) h1 h3 hzz hc0.2.2 (by rw [hzs] at f1; simpa using f1)
            simp [execOp, ho, hrun]
          · refine ⟨_, .sl nm 0 len true, _, _, tr, s, ?_, rfl, h nm hHn⟩
            simp only [VRel]
            exact ⟨_, _, _, Map.set_same _ _ _, rfl, Nat.le_refl _, fun _ => rfl, slAt_new _ _ _ _ _ (by omega)⟩
        · exact h.elim
      · cases hi
    · cases hi
  · cases hi
end
end Go.AM
