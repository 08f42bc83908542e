/- Stores, appends, copies and calls do what the program's operations do. Conditions: as stated. -/
import Derived.Test.YtopeeknimehmcaaA7
set_option linter.unusedVariables false
set_option linter.unusedSimpArgs false
namespace Go.AM
open Go

theorem splice_toList (c : Array Value) (o : Nat) (ys : List Value) (h : o + ys.length ≤ c.size) (us vs : List V) {μ : Map} (hu : VRels μ us (c.toList.take us.length)) (hv : VRels μ vs ys) (hl : o + vs.length ≤ us.length) :
    VRels μ (splice us o vs) (((c.toList.take o ++ ys ++ c.toList.drop (o + ys.length)).toArray).toList.take (splice us o vs).length) := by
  have h1 := hu.length
  have h2 := hv.length
  have h3 := splice_length us o vs hl
  have hcu : us.length ≤ c.size := by
    have : us.length = min us.length c.toList.length := by simpa using h1
    simp at this; omega
  rw [h3]
  refine VRels.of_get (by rw [h3]; simp; omega) fun i v x hvi hxi => ?_
  rw [splice_get _ _ _ hl] at hvi
  have hi : i < us.length := by
    rcases Nat.lt_or_ge i us.length with h | h
    · exact h
    · rw [List.getElem?_take] at hxi
      rw [if_neg (by omega)] at hxi; cases hxi
  rw [List.getElem?_take_of_lt hi] at hxi
  simp only at hxi
  by_cases hi2 : o ≤ i ∧ i < o + vs.length
  · rw [if_pos hi2] at hvi
    rw [List.getElem?_append_left (by simp; omega), List.getElem?_append_right (by simp; omega)] at hxi
    have hm : (c.toList.take o).length = o := by simp; omega
    rw [hm] at hxi
    obtain ⟨y, hy, hr⟩ := hv.get _ _ hvi
    rw [hy] at hxi
    obtain rfl := Option.some.inj hxi
    exact hr
  · rw [if_neg hi2] at hvi
    obtain ⟨y, hy, hr⟩ := hu.get _ _ hvi
    rw [List.getElem?_take_of_lt hi] at hy
    have : c.toList[i]? = some x := by
      by_cases hlt : i < o
      · rw [List.append_assoc, List.getElem?_append_left (by simp; omega), List.getElem?_take_of_lt hlt] at hxi
        exact hxi
      · rw [List.getElem?_append_right (by simp; omega), List.getElem?_drop] at hxi
        have hm : (c.toList.take o ++ ys).length = o + ys.length := by simp; omega
        rw [hm] at hxi
        rwa [show o + ys.length + (i - (o + ys.length)) = i by omega] at hxi
    rw [this] at hy
    obtain rfl := Option.some.inj hy
    exact hr

/-- what an owned block holds concretely -/
theorem Sim.owned {μ : Map} {H : Heap} {w : World} (h : Sim μ H w) {n : Nat} {b : Blk} (hb : H n = some b) (ho : b.own = true) {l : Loc} (hl : μ n = some l) :
    ∃ c e, w.heap[l.b]? = some (.cells c e (0, 0)) ∧ l.x = 0 ∧ l.room = some (b.sz, c.size) ∧ VRels μ b.cells (c.toList.take b.cells.length) ∧ b.cells.length ≤ c.size ∧ ∀ v ∈ b.cells, v.one = true := by
  obtain ⟨l', hl', hbe⟩ := h.bears n b hb
  rw [hl] at hl'
  obtain rfl := Option.some.inj hl'
  obtain ⟨hx, c, e, hc, hr⟩ := hbe.own ho
  have hcell : ∀ i v, b.cells[i]? = some v → ∃ x, c[i]? = some x ∧ VRel μ v x ∧ v.one = true := fun i v hi => by
    obtain ⟨x, h1, h2, h3⟩ := hbe.cells i v hi
    refine ⟨x, ?_, h2, h3⟩
    simpa [World.cell?, hc, hx] using h1
  have hlen : b.cells.length ≤ c.size := by
    rcases Nat.eq_zero_or_pos b.cells.length with h0 | h0
    · omega
    · obtain ⟨x, h1, _⟩ := hcell (b.cells.length - 1) _ (List.getElem?_eq_getElem (by omega))
      have := (Array.getElem?_eq_some_iff.1 h1).1
      omega
  refine ⟨c, e, hc, hx, hr, VRels.of_get (by simp; omega) fun i v x hv hxx => ?_, hlen, fun v hv => ?_⟩
  · obtain ⟨y, h1, h2, _⟩ := hcell i v hv
    have hi : i < b.cells.length := (List.getElem?_eq_some_iff.1 hv).1
    rw [List.getElem?_take_of_lt hi] at hxx
    have : c[i]? = some x := by simpa using hxx
    rw [h1] at this
    obtain rfl := Option.some.inj this
    exact h2
  · obtain ⟨i, hi⟩ := List.mem_iff_getElem?.1 hv
    obtain ⟨_, _, _, h3⟩ := hcell i v hi
    exact h3

theorem VRels.ones {μ : Map} : ∀ {vs : List V} {xs : List Value}, VRels μ vs xs → (∀ v ∈ vs, v.one = true) → ∀ x ∈ xs, x.oneCell' = true
  | [], xs, h, _ => by simp only [VRels] at h; subst h; simp
  | v :: r, xs, h, h1 => by
    simp only [VRels] at h
    obtain ⟨x, t, rfl, ha, hb⟩ := h
    intro y hy
    rcases List.mem_cons.1 hy with rfl | hy
    · exact ha.one (h1 v (by simp))
    · exact VRels.ones hb (fun u hu => h1 u (by simp [hu])) y hy

theorem run_buildSlice {P : Program} {t e : TypeId} {i : TypeInfo} {z : Value} {len sz : Nat} {parts : Array (Nat × Value)} {c : Array Value} (w : World) (ht : P.underlying t = some (.slice e)) (hi : P.info? e = some i)
    (hs : i.size = sz) (hz : i.zero = some z) (hle : len * sz ≤ 16777216) (hf : Instr.fill (fun i => some (i * sz, sz)) (madeCells z.cells (len * sz)) parts.toList = some c) :
    (Instr.buildSlice t len parts).run P w = .ok (.slice (some ⟨w.heap.size, 0, none⟩) len len) (w.alloc (.cells c e)) := by
  subst hs
  have hne : ¬ (16777216 < len * i.size) := by omega
  unfold Instr.buildSlice
  by_cases h0 : len * i.size = 0
  · have hm : madeCells z.cells (len * i.size) = #[] := by rw [h0]; simp [madeCells, Array.range_zero']
    rw [hm] at hf
    simp [run_underlying ht, run_sizeT hi, h0, Array.range_zero', hf, newRow]
  · have hm : (Array.range (len * i.size)).map (fun x => z.cells[x % z.cells.size]!) = madeCells z.cells (len * i.size) := rfl
    simp [run_underlying ht, run_sizeT hi, h0, hne, run_zeroT hi hz, newRow, hm, hf]

section
variable {P : Program} {n : Nat} {ops : Array Oper} {o : Oper} {μ : Map} {env : Env} {H : Heap} {a : Act} {w : World} {Q : Exit → Act → World → Prop} {K : V → Heap → Prop}

/-- cells written into a block of the call's own -/
theorem write_owned {nm : Nat} {b : Blk} (hs : Sim μ H w) (hb : H nm = some b) (ho : b.own = true) {l : Loc} (hl : μ nm = some l) {off : Nat} {vs : List V} {ys : List Value} (hv : VRels μ vs ys)
    (h1 : ∀ v ∈ vs, v.one = true) (hle : off + vs.length ≤ b.cells.length) :
    ∃ w', (storeCells ⟨l.b, l.x + off, none⟩ ys).run P w = .ok () w' ∧ Tr μ H w μ (H.upd nm (some ⟨true, b.sz, splice b.cells off vs⟩)) w' ∧ Sim μ (H.upd nm (some ⟨true, b.sz, splice b.cells off vs⟩)) w' := by
  obtain ⟨c, e, hc, hx, hr, hrel, hlen, hone⟩ := hs.owned hb ho hl
  have hy := hv.length
  have hst := run_storeCells_at P l.b off e ys 0 c w hc (by omega) (hv.ones h1)
  simp only [Nat.add_zero] at hst
  obtain ⟨s, tr⟩ := hs.write hb ho hl (c' := (c.toList.take off ++ ys ++ c.toList.drop (off + ys.length)).toArray) (vs := splice b.cells off vs) hc (by simp; omega)
    (splice_toList c off ys (by omega) b.cells vs hrel hv hle) (fun v hv' => (mem_splice hv').elim (hone v) (h1 v)) rfl
  exact ⟨_, by rw [hx, Nat.zero_add]; exact hst, tr, s⟩

theorem sound_st {t : TypeId} {x y : Operand} {i : I} (ho : o.op = .store t x y) (hi : cvI P n ops o.op = some i) (st : St n μ env H a w) (h : iwp P i K env H) : o.wp P a w (Post μ H w a o K) Q := by
  rw [ho] at hi
  simp only [cvI] at hi
  split at hi
  · rename_i sz b p q hs hx hy
    obtain rfl := Option.some.inj hi
    obtain ⟨ii, d, h1, h2, h3, h4⟩ := szT_some hs
    have rx := cvO_sound hx st
    have ry := cvO_sound hy st
    simp only [iwp] at h
    split at h
    · rename_i nm off e
      rw [e] at rx; simp only [VRel] at rx
      obtain ⟨l, hl, rx⟩ := rx
      split at h
      · rename_i blk hb
        obtain ⟨_, how, hlen, h0, hle, h⟩ := h
        have hsz : (a.eval y).cells.size = (q.ev env).cells.length := by
          rcases h0 with h0 | h0
          · have hne : (q.ev env).cells ≠ [] := by intro e; rw [e] at hlen; simp at hlen; omega
            exact ry.cells_size hne
          · rw [h0] at ry ⊢
            simp only [VRel, VRels] at ry
            obtain ⟨c, e1, e2, _⟩ := ry
            have : c = #[] := by cases c; simpa using e2
            rw [e1, this]; rfl
        have hc := ry.cells
        rw [List.take_of_length_le (by rw [Array.length_toList, hsz]; exact Nat.le_refl _)] at hc
        obtain ⟨w', hrun, tr, s⟩ := write_owned (P := P) st.sim hb how hl (off := off) hc ry.cells_one (by omega)
        have hr : (execOp a.eval o).run P w = .ok .skip w' := by
          have hz : (a.eval y).cells.size = ii.size := by omega
          simp [execOp, ho, rx, Instr.storeAt, Instr.sureAddr, storeVar, run_sizeT h1, hz, hrun]
        unfold Oper.wp
        rw [hr]
        exact ⟨μ, und, undef, _, tr, s, by simp [und, VRel, undef, VRels], rfl, h⟩
      · exact h.elim
    · exact h.elim
  · cases hi

theorem sound_bsl {t : TypeId} {len : Nat} {parts : Array (Nat × Operand)} {i : I} (ho : o.op = .buildSlice t len parts) (hi : cvI P n ops o.op = some i) (st : St n μ env H a w) (h : iwp P i K env H) : o.wp P a w (Post μ H w a o K) Q := by
  rw [ho] at hi
  simp only [cvI] at hi
  split at hi
  · rename_i e he
    split at hi
    · rename_i sz bytes zs hs hz
      split at hi
      · rename_i hc0
        obtain ⟨ps, hps, rfl⟩ := Option.map_eq_some_iff.1 hi
        obtain ⟨ii, d, h1, h2, h3, h4⟩ := szT_some hs
        obtain ⟨i0, z, u, hi0, hzz, hcv, rfl⟩ := zeroT_some hz
        rw [h1] at hi0
        obtain rfl := Option.some.inj hi0
        have ru := cvV_sound μ 4 z u hcv
        have hcz : VRels μ u.cells z.cells.toList := cvV_cells hcv
        have hzs : z.cells.size = sz := by have := hcz.length; rw [hc0.2.1] at this; simpa using this.symm
        simp only [iwp] at h
        split at h
        · rename_i rs hrs
          have hrep : VRels μ (List.replicate len u.cells).flatten ((madeCells z.cells (len * z.cells.size)).toList) := by
            have := replicate_cells hcz len len (Nat.le_refl _) (by omega)
            rwa [List.take_of_length_le (by simp [size_madeCells, hc0.2.1, hzs])] at this
          obtain ⟨c, f1, f2, f3⟩ := fill_sound st (place := fun i => some (i * sz, sz)) (fun _ _ h => h) parts.toList ps _ rs _ hps hrep (flatten_one ru.cells_one) hrs
          obtain ⟨nm, hn, hHn⟩ := st.sim.freshName
          obtain ⟨s, tr⟩ := st.sim.alloc hn (c := c) (e := e) (sz := sz) (vs := rs) (by rw [List.take_of_length_le (by rw [f2.length]; exact Nat.le_refl _)]; exact f2) f3 rfl
          have hcs : c.size = len * sz := by
            have hfl : ∀ (ps : List (Nat × Nat × V)) (us rs : List V), fillV us ps = some rs → rs.length = us.length := by
              intro ps
              induction ps with
              | nil => intro us rs h; simp only [fillV, Option.some.injEq] at h; rw [h]
              | cons p ps ih =>
                intro us rs h
                obtain ⟨off, s', v⟩ := p
                simp only [fillV] at h
                split at h
                · rename_i hc
                  rw [ih _ _ h, splice_length _ _ _ (by omega)]
                · cases h
            have := hfl _ _ _ hrs
            have h5 := f2.length
            simp [hc0.2.1] at this
            have : c.toList.length = len * sz := by omega
            simpa using this
          refine sound_value (x := .slice (some ⟨w.heap.size, 0, none⟩) len len) (w' := w.alloc (.cells c e)) ?_ ?_
          · have hrun := run_buildSlice (P := P) (parts := parts.map fun p => (p.1, a.eval p.2)) w (elemT_some he) h1 h3 hzz hc0.2.2 (by rw [hzs] at f1; simpa using f1)
            simp [execOp, ho, hrun]
          · refine ⟨_, .sl nm 0 len true, _, _, tr, s, ?_, rfl, h nm hHn⟩
            simp only [VRel]
            exact ⟨_, _, _, Map.set_same _ _ _, rfl, Nat.le_refl _, fun _ => rfl, slAt_new _ _ _ _ _ (by omega)⟩
        · exact h.elim
      · cases hi
    · cases hi
  · cases hi
end
end Go.AM
