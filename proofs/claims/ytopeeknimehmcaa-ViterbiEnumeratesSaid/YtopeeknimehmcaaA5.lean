/- The quiet instructions, all together. Conditions: as each states. -/
import Derived.Test.YtopeeknimehmcaaA4
set_option linter.unusedVariables false
set_option linter.unusedSimpArgs false
namespace Go.AM
open Go

theorem cvO?_some {n : Nat} {x : Option Operand} {y : Option Opd} (h : cvO? n x = some y) : (x = none ∧ y = none) ∨ ∃ o p, x = some o ∧ y = some p ∧ cvO n o = some p := by
  cases x with
  | none => simp only [cvO?, Option.some.injEq] at h; subst h; exact .inl ⟨rfl, rfl⟩
  | some o =>
    simp only [cvO?, Option.map_eq_some_iff] at h
    obtain ⟨p, hp, rfl⟩ := h
    exact .inr ⟨o, p, rfl, rfl, hp⟩

theorem cutOf_run {P : Program} {n : Nat} {μ env H a w} (st : St n μ env H a w) {o : Operand} {p : Opd} (h : cvO n o = some p) {d l : Nat} (hc : cutOf (some (p.ev env)) d = some l)
    {y : Nat} (hy : l ≤ y) (code : BoundsCode) : (Instr.sliceBound (a.eval o) y code).run P w = .ok l w := by
  have hr := cvO_sound h st
  generalize p.ev env = v at hc hr
  generalize a.eval o = x at hr
  unfold cutOf at hc
  split at hc
  · rename_i e; cases e
  · rename_i k i e
    obtain rfl := Option.some.inj e
    split at hc
    · rename_i h0
      obtain rfl := Option.some.inj hc
      simp only [VRel] at hr
      subst hr
      simp only [Instr.sliceBound, asIntOf, pure_bind]
      rw [if_pos ⟨h0, by omega⟩]; rfl
    · cases hc
  · cases hc

theorem sliV_sound {P : Program} {n : Nat} {μ env H a w} (st : St n μ env H a w) {t e : TypeId} (ht : P.underlying t = some (.slice e)) {sz bytes : Nat} (hsz : szT P e = some (sz, bytes))
    {x : Operand} {x' : Opd} (hx : cvO n x = some x') {lo hi mx : Option Operand} {lo' hi' mx' : Option Opd} (hlo : cvO? n lo = some lo') (hhi : cvO? n hi = some hi') (hmx : cvO? n mx = some mx')
    {v : V} (hv : sliV H sz (x'.ev env) (lo'.map (Opd.ev env)) (hi'.map (Opd.ev env)) (mx'.map (Opd.ev env)) = some v) :
    ∃ y, (Instr.sliceAt t (a.eval x) (lo.map a.eval) (hi.map a.eval) (mx.map a.eval)).run P w = .ok y w ∧ VRel μ v y := by
  obtain ⟨i, d, h1, h2, h3, h4⟩ := szT_some hsz
  have hr := cvO_sound hx st
  generalize x'.ev env = u at hr hv
  generalize a.eval x = cx at hr
  have hbounds : ∀ (len cap l h m : Nat), cutOf (lo'.map (Opd.ev env)) 0 = some l → cutOf (hi'.map (Opd.ev env)) len = some h → (mx' = none ∧ m = cap ∨ hi'.isSome ∧ cutOf (mx'.map (Opd.ev env)) 0 = some m ∧ mx' ≠ none) → l ≤ h → h ≤ m → m ≤ cap →
      (Instr.sliceBounds true len cap (lo.map a.eval) (hi.map a.eval) (mx.map a.eval)).run P w = .ok (l, h, m) w := by
    intro len cap l h m e1 e2 e3 i1 i2 i3
    rcases cvO?_some hmx with ⟨rfl, rfl⟩ | ⟨o, p, rfl, rfl, hp⟩
    · obtain ⟨_, rfl⟩ | ⟨_, _, h⟩ := e3
      · rcases cvO?_some hhi with ⟨rfl, rfl⟩ | ⟨o', p', rfl, rfl, hp'⟩
        · simp [cutOf] at e2; subst e2
          rcases cvO?_some hlo with ⟨rfl, rfl⟩ | ⟨o, p, rfl, rfl, hp⟩
          · simp [cutOf] at e1; subst e1; simp [Instr.sliceBounds]
          · have hl := fun code => cutOf_run (P := P) st hp e1 i1 code
            simp [Instr.sliceBounds, hl]
        · have := fun code => cutOf_run (P := P) st hp' e2 (y := m) (by omega) code
          rcases cvO?_some hlo with ⟨rfl, rfl⟩ | ⟨o, p, rfl, rfl, hp⟩
          · simp [cutOf] at e1; subst e1; simp [Instr.sliceBounds, this]
          · have hl := fun code => cutOf_run (P := P) st hp e1 i1 code
            simp [Instr.sliceBounds, this, hl]
      · exact absurd rfl h
    · obtain ⟨h, _⟩ | ⟨hs, e3, _⟩ := e3
      · cases h
      · have hm := fun code => cutOf_run (P := P) st hp e3 (y := cap) (by omega) code
        rcases cvO?_some hhi with ⟨rfl, rfl⟩ | ⟨o', p', rfl, rfl, hp'⟩
        · cases hs
        · have hh := fun code => cutOf_run (P := P) st hp' e2 (y := m) (by omega) code
          rcases cvO?_some hlo with ⟨rfl, rfl⟩ | ⟨o, p, rfl, rfl, hp⟩
          · simp [cutOf] at e1; subst e1; simp [Instr.sliceBounds, hm, hh]
          · have hl := fun code => cutOf_run (P := P) st hp e1 i1 code
            simp [Instr.sliceBounds, hm, hh, hl]
  cases u with
  | nils =>
    simp only [VRel] at hr
    subst hr
    simp only [sliV] at hv
    split at hv
    · rename_i e1 e2 e3
      split at hv
      · rename_i hc
        obtain rfl := Option.some.inj hv
        have := hbounds 0 0 0 0 0 e1 e2 (by
          cases mx' with
          | none => exact .inl ⟨rfl, rfl⟩
          | some p => exact .inr ⟨by simpa using hc.2, e3, by simp⟩) (Nat.le_refl _) (Nat.le_refl _) (Nat.le_refl _)
        refine ⟨.slice none 0 0, ?_, by simp [VRel]⟩
        simp [Instr.sliceAt, Instr.slice, run_underlying ht, this, run_sizeT h1]
      · cases hv
    · cases hv
  | sl nm o len full =>
    simp only [VRel] at hr
    obtain ⟨loc, ad, cap, hloc, rfl, hcap, hfull, hat⟩ := hr
    obtain ⟨hb, hat, hroom⟩ := hat
    simp only [sliV] at hv
    split at hv
    · rename_i blk l h e0 e1 e2
      split at hv
      · rename_i hc
        obtain ⟨i1, i2, i3, i4⟩ := hc
        have key : ∀ (m : Nat) (f : Bool), h ≤ m → m ≤ cap → (f = true → m = h) → (Instr.sliceBounds true len cap (lo.map a.eval) (hi.map a.eval) (mx.map a.eval)).run P w = .ok (l, h, m) w →
            ∃ y, (Instr.sliceAt t (.slice (some ad) len cap) (lo.map a.eval) (hi.map a.eval) (mx.map a.eval)).run P w = .ok y w ∧ VRel μ (.sl nm (o + l * sz) (h - l) f) y := by
          intro m f j1 j2 j3 hrun
          refine ⟨.slice (some (if m = l then ad else ad.add (l * sz))) (h - l) (m - l), ?_, ?_⟩
          · simp only [Instr.sliceAt, Instr.slice, Sem.run_bind, run_underlying ht, Result.andThen_ok, hrun, run_sizeT h1, h3]
            by_cases hml : m = l
            · simp [hml]
            · simp [hml]
          · simp only [VRel]
            refine ⟨loc, _, _, hloc, rfl, by omega, fun hf => by rw [j3 hf], ?_, fun hz => ?_, fun s c hs => ?_⟩
            · split
              · exact hb
              · unfold Addr.add; split <;> exact hb
            · rcases hz with hz | hz
              · rw [if_neg (by omega), hat (.inl (by omega)), addr_add]; congr 1; omega
              · have hl0 : l = 0 := by
                  rcases Nat.eq_zero_or_pos l with h | h
                  · exact h
                  · have : 0 < l * sz := Nat.mul_pos h i3
                    omega
                subst hl0
                have ho : o = 0 := by omega
                subst ho
                rw [hat (.inr rfl), addr_add]
                split <;> simp
            · rcases hroom s c hs with hk | hk
              · left
                obtain ⟨l', hl', hbe⟩ := st.sim.bears nm blk e0
                rw [hloc] at hl'
                obtain rfl := Option.some.inj hl'
                have hss : s = sz := by
                  cases how : blk.own with
                  | false => rw [hbe.notown how] at hs; cases hs
                  | true =>
                    obtain ⟨_, c', e', _, hr'⟩ := hbe.own how
                    rw [hs] at hr'
                    have := (Prod.mk.inj (Option.some.inj hr')).1
                    omega
                subst hss
                have : (m - l) * s ≤ (cap - l) * s := Nat.mul_le_mul_right _ (by omega)
                have h5 : (cap - l) * s = cap * s - l * s := Nat.sub_mul _ _ _
                have h6 : l * s ≤ cap * s := Nat.mul_le_mul_right _ (by omega)
                omega
              · right; exact ⟨by omega, by have := hk.2; omega⟩
        cases mx' with
        | none =>
          simp only [Option.map_none, Option.some.injEq] at hv
          subst hv
          refine key cap _ (by omega) (Nat.le_refl _) (fun hf => ?_) (hbounds len cap l h cap e1 e2 (.inl ⟨rfl, rfl⟩) i1 (by omega) (Nat.le_refl _))
          simp only [Bool.and_eq_true, beq_iff_eq] at hf
          rw [hfull hf.1, hf.2]
        | some p =>
          simp only [Option.map_some] at hv
          split at hv
          · rename_i m e3
            split at hv
            · rename_i hc
              obtain rfl := Option.some.inj hv
              exact key m _ hc.1 (by omega) (fun hf => by simpa using hf) (hbounds len cap l h m e1 e2 (.inr ⟨by simpa using hc.2.2, e3, by simp⟩) i1 hc.1 (by omega))
            · cases hv
          · cases hv
      · cases hv
    · cases hv
  | _ => simp [sliV] at hv

theorem lenR_run {P : Program} {t e ty : TypeId} (ht : P.underlying t = some (.slice e)) {μ : Map} {u : V} {x : Value} (hr : VRel μ u x) (w : World) {v : V}
    (hv : lenR u = some v) : ∃ y, (Builtin.len_ #[t] ty #[x]).run P w = .ok y w ∧ VRel μ v y := by
  unfold lenR at hv
  split at hv
  · obtain rfl := Option.some.inj hv
    simp only [VRel] at hr
    obtain ⟨l, a, cap, _, rfl, _⟩ := hr
    exact ⟨_, by simp only [Builtin.len_]; simp [run_underlying ht]; rfl, rfl⟩
  · obtain rfl := Option.some.inj hv
    simp only [VRel] at hr
    subst hr
    exact ⟨_, by simp only [Builtin.len_]; simp [run_underlying ht]; rfl, rfl⟩
  · cases hv

theorem part_run {P : Program} {t : TypeId} {sz bytes : Nat} (hs : szT P t = some (sz, bytes)) {μ : Map} {us : List V} {a : Array Value} (hr : VRels μ us a.toList) (h1 : ∀ c ∈ us, c.one = true) {off : Nat} (w : World) {v : V}
    (hv : (if aggT P t then (if off + sz ≤ us.length then some (.agg ((us.drop off).take sz)) else none) else us[off]?) = some v) :
    ∃ y, (part t a off).run P w = .ok y w ∧ VRel μ v y := by
  obtain ⟨i, d, hi, hd, h3, h4⟩ := szT_some hs
  by_cases ha : aggT P t = true
  · rw [if_pos ha] at hv
    split at hv
    · rename_i hle
      obtain rfl := Option.some.inj hv
      refine ⟨.agg (a.extract off (off + sz)), ?_, ?_⟩
      · simp [part, run_aggT hd, ha, run_sizeT hi, h3]
      · simp only [VRel]
        refine ⟨_, rfl, ?_, fun c hc => h1 c (List.mem_of_mem_drop (List.mem_of_mem_take hc))⟩
        have := (hr.drop off).take sz
        rw [Array.toList_extract]
        simpa [List.extract_eq_take_drop] using this
    · cases hv
  · rw [if_neg ha] at hv
    obtain ⟨y, hy, hr'⟩ := hr.get off v hv
    have ha' : aggT P t = false := by simpa using ha
    exact ⟨y, by
      have : a[off]? = some y := by simpa using hy
      simp [part, run_aggT hd, ha', this], hr'⟩

theorem mm_run {P : Program} {mx : Bool} {ty : TypeId} {ts : Array TypeId} {μ : Map} {u v r : V} {x y : Value} (hu : VRel μ u x) (hv : VRel μ v y) (w : World)
    (h : mmV mx u v = some r) : ∃ z, (if mx then Builtin.max_ ts ty #[x, y] else Builtin.min_ ts ty #[x, y]).run P w = .ok z w ∧ VRel μ r z := by
  cases u with
  | int k a =>
    cases v with
    | int k' b =>
      simp only [VRel] at hu hv
      subst hu; subst hv
      simp only [mmV] at h
      split at h
      · obtain rfl := Option.some.inj h
        cases mx
        · exact ⟨.int k (if b < a then b else a), by simp only [Bool.false_eq_true, if_false, Builtin.min_]; simp [Builtin.min2], by simp [VRel]⟩
        · exact ⟨.int k (if b > a then b else a), by simp only [if_true, Builtin.max_]; simp [Builtin.max2], by simp [VRel]⟩
      · cases h
    | _ => cases h
  | _ => cases h

end Go.AM
