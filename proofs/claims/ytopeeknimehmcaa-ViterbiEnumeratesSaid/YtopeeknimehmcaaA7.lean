/- The instructions that make memory, write it or call do what the program's operations do. Conditions: as stated. -/
import Derived.Test.YtopeeknimehmcaaA6
set_option linter.unusedVariables false
set_option linter.unusedSimpArgs false
namespace Go.AM
open Go

/-- how an operation ends, seen from the abstract machine -/
def Post (μ : Map) (H : Heap) (w : World) (a : Act) (o : Oper) (K : V → Heap → Prop) (a' : Act) (w' : World) : Prop :=
  ∃ μ' v x H', Tr μ H w μ' H' w' ∧ Sim μ' H' w' ∧ VRel μ' v x ∧ a' = a.put o.dst x ∧ K v H'

theorem elemT_some {P : Program} {t e : TypeId} (h : elemT P t = some e) : P.underlying t = some (.slice e) := by
  unfold elemT at h; split at h
  · rename_i h1; rw [h1]; simpa using h
  · cases h

theorem room_of {μ : Map} {l : Loc} {sz : Nat} {c : Array Value} {n : Nat} : slAt ⟨n, 0, some (sz, c.size)⟩ 0 c.size 0 ⟨n, 0, none⟩ → True := fun _ => trivial

theorem slAt_new (b sz c len cap : Nat) (h : cap * sz ≤ c) : slAt ⟨b, 0, some (sz, c)⟩ 0 len cap ⟨b, 0, none⟩ := by
  refine ⟨rfl, fun _ => rfl, fun s c' hs => ?_⟩
  obtain ⟨rfl, rfl⟩ := Prod.mk.inj (Option.some.inj hs)
  left; omega

section
variable {P : Program} {n : Nat} {ops : Array Oper} {o : Oper} {μ : Map} {env : Env} {H : Heap} {a : Act} {w : World} {Q : Exit → Act → World → Prop} {K : V → Heap → Prop}

theorem sound_value {x : Value} {w' : World} (hr : (execOp a.eval o).run P w = .ok (.value x) w') (h : Post μ H w a o K (a.put o.dst x) w') : o.wp P a w (Post μ H w a o K) Q := by
  unfold Oper.wp; rw [hr]; exact h

theorem sound_new {t : TypeId} {x : Operand} {y : Opd} (ho : o.op = .box t x) (hx : cvO n x = some y) (st : St n μ env H a w) (h : iwp P (.new y) K env H) : o.wp P a w (Post μ H w a o K) Q := by
  obtain ⟨nm, hn, hHn⟩ := st.sim.freshName
  have rx := cvO_sound hx st
  obtain ⟨s, tr⟩ := st.sim.alloc hn (c := (a.eval x).cells) (e := t) (sz := 1) rx.cells rx.cells_one rfl
  refine sound_value (x := .pointer (some ⟨w.heap.size, 0, none⟩)) (w' := w.alloc (.cells (a.eval x).cells t)) (by simp [execOp, ho, Instr.box, newVar, newRow]) ?_
  refine ⟨_, .ptr nm 0, _, _, tr, s, ?_, rfl, h nm hHn⟩
  simp only [VRel]
  exact ⟨_, Map.set_same _ _ _, rfl⟩

theorem sound_zero {t : TypeId} {zs : List V} (ho : o.op = .alloc t) (hz : zeroT P t = some zs) (st : St n μ env H a w) (h : iwp P (.zero zs) K env H) : o.wp P a w (Post μ H w a o K) Q := by
  obtain ⟨nm, hn, hHn⟩ := st.sim.freshName
  obtain ⟨i, z, u, hi, hzz, hcv, rfl⟩ := zeroT_some hz
  have rx := cvV_sound μ 4 z u hcv
  obtain ⟨s, tr⟩ := st.sim.alloc hn (c := z.cells) (e := t) (sz := 1) rx.cells rx.cells_one rfl
  refine sound_value (x := .pointer (some ⟨w.heap.size, 0, none⟩)) (w' := w.alloc (.cells z.cells t)) (by simp [execOp, ho, Instr.alloc, newVar, newRow, run_zeroT hi hzz]) ?_
  refine ⟨_, .ptr nm 0, _, _, tr, s, ?_, rfl, h nm hHn⟩
  simp only [VRel]
  exact ⟨_, Map.set_same _ _ _, rfl⟩

theorem replicate_cells {μ : Map} {us : List V} {z : Array Value} (h : VRels μ us z.toList) (k m : Nat) (hk : k ≤ m) (hz : 0 < z.size) :
    VRels μ (List.replicate k us).flatten ((madeCells z (m * z.size)).toList.take (List.replicate k us).flatten.length) := by
  have hl := h.length
  have hlen : (List.replicate k us).flatten.length = k * z.size := by simp [hl]
  rw [hlen]
  have hle : k * z.size ≤ m * z.size := Nat.mul_le_mul_right _ hk
  refine VRels.of_get (by rw [hlen, List.length_take, Array.length_toList, size_madeCells]; omega) fun i v x hv hx => ?_
  have hi : i < k * z.size := by rw [← hlen]; exact (List.getElem?_eq_some_iff.1 hv).1
  rw [List.getElem?_take_of_lt hi] at hx
  have hx' : (madeCells z (m * z.size))[i]? = some x := by simpa using hx
  have hmod : i % z.size < z.size := Nat.mod_lt _ hz
  have hx2 : z[i % z.size]? = some x := by
    have hlt : i < m * z.size := by omega
    simp only [madeCells, Array.getElem?_map] at hx'
    have : (Array.range (m * z.size))[i]? = some i := by simp [hlt]
    rw [this] at hx'
    simp only [Option.map_some, Option.some.injEq] at hx'
    rw [getElem!_pos z _ hmod] at hx'
    rw [Array.getElem?_eq_getElem hmod, hx']
  have hv2 : us[i % z.size]? = some v := by
    have hul : us.length = z.size := by simpa using hl
    rw [← hul] at hi hmod ⊢
    clear hx hx' hx2 hlen hle hl
    induction k generalizing i with
    | zero => simp at hi
    | succ k ih =>
      rw [List.replicate_succ, List.flatten_cons] at hv
      by_cases hiu : i < us.length
      · rw [List.getElem?_append_left hiu] at hv
        rw [Nat.mod_eq_of_lt hiu]; exact hv
      · rw [List.getElem?_append_right (by omega)] at hv
        have := ih (by omega) (i - us.length) hv (by rw [Nat.succ_mul] at hi; omega) (Nat.mod_lt _ (by omega))
        rwa [Nat.mod_eq_sub_mod (by omega)]
  obtain ⟨y, hy, hr⟩ := h.get _ _ hv2
  have : z[i % z.size]? = some y := by simpa using hy
  rw [hx2] at this
  obtain rfl := Option.some.inj this
  exact hr

theorem flatten_one {k : Nat} {us : List V} (h : ∀ c ∈ us, c.one = true) : ∀ c ∈ (List.replicate k us).flatten, c.one = true := by
  intro c hc
  rw [List.mem_flatten] at hc
  obtain ⟨l, hl, hc⟩ := hc
  rw [List.mem_replicate] at hl
  rw [hl.2] at hc
  exact h c hc

theorem sound_mk {t : TypeId} {l c : Operand} {i : I} (ho : o.op = .makeSlice t l c) (hi : cvI P n ops o.op = some i) (st : St n μ env H a w) (h : iwp P i K env H) : o.wp P a w (Post μ H w a o K) Q := by
  rw [ho] at hi
  simp only [cvI] at hi
  split at hi
  · rename_i e l' c' he hl hc
    split at hi
    · rename_i sz bytes zs hs hz
      split at hi
      · rename_i hc0
        obtain rfl := Option.some.inj hi
        obtain ⟨ii, d, h1, h2, h3, h4⟩ := szT_some hs
        obtain ⟨i0, z, u, hi0, hzz, hcv, rfl⟩ := zeroT_some hz
        rw [h1] at hi0
        obtain rfl := Option.some.inj hi0
        have rl := cvO_sound hl st
        have rc := cvO_sound hc st
        simp only [iwp] at h
        split at h
        · rename_i k1 len k2 cap e1 e2
          rw [e1] at rl; rw [e2] at rc
          simp only [VRel] at rl rc
          obtain ⟨j0, j1, j2, j3, h⟩ := h
          obtain ⟨nm, hn, hHn⟩ := st.sim.freshName
          have ru := cvV_sound μ 4 z u hcv
          have hcz : VRels μ u.cells z.cells.toList := cvV_cells hcv
          have hzs : z.cells.size = sz := by have := hcz.length; rw [hc0.2] at this; simpa using this.symm
          have hlc : len.toNat ≤ cap.toNat := by omega
          have hrun := run_make (P := P) w t e ii z (elemT_some he) h1 hzz k1 k2 len cap j0 j1 (by rw [h4, Int.mul_comm]; exact j2) (by omega)
          obtain ⟨s, tr⟩ := st.sim.alloc hn (c := madeCells z.cells (cap.toNat * ii.size)) (e := e) (sz := sz) (vs := (List.replicate len.toNat u.cells).flatten)
            (by rw [h3, ← hzs]; exact replicate_cells hcz _ _ hlc (by omega)) (flatten_one ru.cells_one) rfl
          refine sound_value (x := .slice (some ⟨w.heap.size, 0, none⟩) len.toNat cap.toNat) (w' := w.alloc (.cells (madeCells z.cells (cap.toNat * ii.size)) e)) (by simp [execOp, ho, rl, rc, hrun]) ?_
          refine ⟨_, .sl nm 0 len.toNat (len == cap), _, _, tr, s, ?_, rfl, h nm hHn⟩
          simp only [VRel]
          refine ⟨_, _, _, Map.set_same _ _ _, rfl, hlc, fun hf => ?_, slAt_new _ _ _ _ _ (by rw [size_madeCells, h3]; exact Nat.le_refl _)⟩
          have : len = cap := by simpa using hf
          rw [this]
        · exact h.elim
      · cases hi
    · cases hi
  · cases hi
end
end Go.AM
