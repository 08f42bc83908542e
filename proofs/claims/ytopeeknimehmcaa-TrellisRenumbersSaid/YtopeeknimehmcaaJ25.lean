/- Arguments that read as data, as values of the abstract machine over blocks that nobody writes. Conditions: none. -/
import Derived.Test.YtopeeknimehmcaaJ24
import Derived.ChangeArms
import Derived.SizedLaws
import Derived.DataElems
import Derived.Laws.Entries
import Derived.Below
import Derived.WideShapes
import Derived.Test.YtopeeknimehmcaaRows
import Derived.ProofKit
import Derived.OpenShut
import Derived.ShutString
import Derived.ChangeOld
set_option linter.unusedVariables false
set_option linter.unusedSimpArgs false
namespace Go.AM
open Go Go.RowKit Go.WideShapes

def RO (H : Heap) : Prop := ∀ n b, H n = some b → b.own = false

theorem Sim.addRO {μ : Map} {H : Heap} {w : World} (h : Sim μ H w) (hr : RO H) {n : Nat} (hn : μ n = none) {b x sz : Nat} {vs : List V}
    (hc : ∀ i v, vs[i]? = some v → ∃ c, w.cell? ⟨b, x + i, none⟩ = some c ∧ VRel μ v c ∧ v.one = true) :
    Sim (Map.set μ n ⟨b, x, none⟩) (H.upd n (some ⟨false, sz, vs⟩)) w := by
  refine ⟨?_, ?_, Sim.bound_set h.bound⟩
  · intro m blk hm
    by_cases e : m = n
    · subst e
      simp only [Heap.upd, if_true] at hm
      obtain rfl := Option.some.inj hm
      refine ⟨_, Map.set_same _ _ _, ⟨?_, fun h => (by cases h), fun _ => rfl⟩⟩
      intro i v hv
      obtain ⟨c, h1, h2, h3⟩ := hc i v hv
      exact ⟨c, h1, VRel.mono (Map.le_set _ hn) _ _ h2, h3⟩
    · simp only [Heap.upd, e, if_false] at hm
      obtain ⟨l, hl, hb⟩ := h.bears m blk hm
      exact ⟨l, by rw [Map.set_ne _ _ e]; exact hl, hb.keep (Map.le_set _ hn) rfl⟩
  · intro m blk m' blk' l l' hm ho
    exfalso
    by_cases e : m = n
    · subst e
      simp only [Heap.upd, if_true] at hm
      obtain rfl := Option.some.inj hm
      cases ho
    · simp only [Heap.upd, e, if_false] at hm
      rw [hr m blk hm] at ho; cases ho

/-- what a value of type t that reads as data comes to -/
def Opens (P : Program) (t : TypeId) (T : Heap → List V → Prop) : Prop :=
  (∀ H H' vs, T H vs → Heap.sub H H' → T H' vs) ∧
  ∀ (D : Type) (enc : TypeId × Value → D) (w : World) (base : Nat) (spare : Nat → Bool) (held : Bool) (fuel : Nat) (cs : List Value) (x : DataW D × List MemPlace),
    DataW.trod enc P w base spare held fuel t cs = some x → (∀ n ∈ x.1.weights P t, n ≤ reachBytes) →
    ∀ μ H, Sim μ H w → RO H → ∃ μ' H' vs, μ.le μ' ∧ Heap.sub H H' ∧ Sim μ' H' w ∧ RO H' ∧ VRels μ' vs cs ∧ (∀ v ∈ vs, v.one = true) ∧ T H' vs

def TInt (k : IntKind) (H : Heap) (vs : List V) : Prop := ∃ n, vs = [.int k n] ∧ (Lit.int k n).wf = true
theorem opens_int {P : Program} {t : TypeId} {k : IntKind} (ht : P.underlying t = some (.int k)) : Opens P t (TInt k) := by
  refine ⟨fun H H' vs h _ => h, fun D enc w base spare held fuel cs x h _ μ H hs hr => ?_⟩
  obtain ⟨n, rfl, _, hw⟩ := DataW.trod_int ht h
  exact ⟨μ, H, [.int k n], fun _ _ h => h, fun _ _ h => h, hs, hr, by simp [VRels, VRel], by simp [V.one], n, rfl, hw⟩

/-- a slice: its items, each of sz cells -/
def TSl (sz bytes : Nat) (T : Heap → List V → Prop) (H : Heap) (vs : List V) : Prop :=
  ∃ v len cs, vs = [v] ∧ Sl H v sz len cs ∧ len * bytes ≤ 140737488351232 ∧ ∀ i, i < len → T H ((cs.drop (i * sz)).take sz)

theorem weights_elem {D : Type} {P : Program} {e : TypeId} : ∀ {l : List (DataW D)} {d : DataW D}, d ∈ l → ∀ n ∈ d.weights P e, n ∈ DataW.weightsAll P e l
  | y :: r, d, h, n, hn => by
    simp only [DataW.weightsAll, List.mem_append]
    rcases List.mem_cons.1 h with rfl | h
    · exact .inl hn
    · exact .inr (weights_elem h n hn)

theorem opens_slice {P : Program} {t e : TypeId} {T : Heap → List V → Prop} {sz bytes : Nat} (ht : P.underlying t = some (.slice e)) (hc : P.cellsOf e = sz) (hz : 0 < sz) (hb : P.bytesOf e = bytes) (hb0 : 0 < bytes) (he : Opens P e T) : Opens P t (TSl sz bytes T) := by
  refine ⟨fun H H' vs ⟨v, len, cs, a, b, c, d⟩ hs => ⟨v, len, cs, a, b.mono hs, c, fun i hi => he.1 _ _ _ (d i hi) hs⟩, fun D enc w base spare held fuel cs x h hw μ H hs hr => ?_⟩
  rcases DataW.trod_slice ht h with ⟨rfl, rfl⟩ | ⟨a, len, cap, elems, rest, n, _, rfl, rfl, hba, hl, hm, hlen, hel, _, _⟩
  · exact ⟨μ, H, [.nils], fun _ _ h => h, fun _ _ h => h, hs, hr, by simp [VRels, VRel], by simp [V.one], .nils, 0, [], rfl, ⟨by simp, by simp, .inl ⟨rfl, rfl⟩⟩, by simp, fun i hi => by omega⟩
  · simp only [hc] at hel
    have hbytes : len * bytes ≤ 140737488351232 := by
      have := hw ((elems.length + rest.length) * P.bytesOf e) (by simp [DataW.weights, ht])
      rw [hb, hlen, Nat.add_mul] at this
      have : reachBytes = 140737488351232 := rfl
      omega
    have hle : len ≤ 281474976710656 := by
      have := Nat.le_mul_of_pos_right len hb0
      omega
    have hwe : ∀ (i : Nat) (y : DataW D × List MemPlace), elems[i]? = some y → ∀ n ∈ y.1.weights P e, n ≤ reachBytes := by
      intro i y hy n hn
      refine hw n ?_
      simp only [DataW.weights, ht, List.mem_cons, List.mem_append]
      exact .inr (.inl (weights_elem (List.mem_map_of_mem (List.mem_of_getElem? hy)) n hn))
    -- the items, one after the other
    have key : ∀ k, k ≤ len → ∃ (μ' : Map) (H' : Heap) (cs : List V), μ.le μ' ∧ Heap.sub H H' ∧ Sim μ' H' w ∧ RO H' ∧ cs.length = k * sz ∧ (∀ i v, cs[i]? = some v → ∃ c, w.cell? (a.add i) = some c ∧ VRel μ' v c ∧ v.one = true) ∧ ∀ i, i < k → T H' ((cs.drop (i * sz)).take sz) := by
      intro k
      induction k with
      | zero => intro _; exact ⟨μ, H, [], fun _ _ h => h, fun _ _ h => h, hs, hr, by simp, by simp, fun i hi => by omega⟩
      | succ k ih =>
        intro hk
        obtain ⟨μ1, H1, cs1, a1, a2, a3, a4, a5, a6, a7⟩ := ih (by omega)
        have h1 := hel k (by omega)
        have h2 : elems[k]? = some (elems[k]'(by omega)) := by simp [show k < elems.length by omega]
        rw [h2, Option.bind_eq_some_iff] at h1
        obtain ⟨cells, hcells, htr⟩ := h1
        obtain ⟨_, hcl, hce⟩ := World.cells?_some hcells
        obtain ⟨μ2, H2, vs, b1, b2, b3, b4, b5, b6, b7⟩ := he.2 D enc w base spare held n cells _ htr (hwe k _ h2) μ1 H1 a3 a4
        have hvl : vs.length = sz := by rw [b5.length, hcl]
        refine ⟨μ2, H2, cs1 ++ vs, fun m l h => b1 _ _ (a1 _ _ h), fun m l h => b2 _ _ (a2 _ _ h), b3, b4, ?_, ?_, ?_⟩
        · rw [List.length_append, a5, hvl, Nat.succ_mul]
        · intro i v hv
          by_cases hi : i < cs1.length
          · rw [List.getElem?_append_left hi] at hv
            obtain ⟨c, c1, c2, c3⟩ := a6 i v hv
            exact ⟨c, c1, VRel.mono b1 _ _ c2, c3⟩
          · rw [List.getElem?_append_right (by omega)] at hv
            obtain ⟨c, c1, c2⟩ := b5.get _ _ hv
            refine ⟨c, ?_, c2, b6 v (List.mem_of_getElem? hv)⟩
            have hj : i - cs1.length < sz := by rw [← hvl]; exact (List.getElem?_eq_some_iff.1 hv).1
            have := hce (i - cs1.length) hj
            rw [c1] at this
            rw [← this]
            rw [Addr.add_add]
            congr 2
            rw [← a5]; omega
        · intro i hi
          rcases Nat.lt_succ_iff_lt_or_eq.1 hi with hi | rfl
          · have hle : i * sz + sz ≤ cs1.length := by
              rw [a5]
              have := Nat.mul_le_mul_right sz (Nat.succ_le_of_lt hi)
              rw [Nat.succ_mul] at this; exact this
            rw [List.drop_append_of_le_length (by omega), List.take_append_of_le_length (by rw [List.length_drop]; omega)]
            exact he.1 _ _ _ (a7 i hi) b2
          · rw [← a5, List.drop_left, ← hvl, List.take_length]
            exact b7
    obtain ⟨μ1, H1, cs1, a1, a2, a3, a4, a5, a6, a7⟩ := key len (Nat.le_refl _)
    obtain ⟨m, hm1, hm2⟩ := a3.freshName
    by_cases h0 : len = 0
    · subst h0
      refine ⟨Map.set μ1 m ⟨a.block, 0, none⟩, H1.upd m (some ⟨false, sz, []⟩), [.sl m 1 0 false], fun k l h => Map.le_set _ hm1 _ _ (a1 _ _ h), a2.trans' (Heap.sub.rfl'.upd' hm2 _), a3.addRO a4 hm1 (by simp), ?_, ?_, by simp [V.one], ?_⟩
      · intro k b hb
        by_cases e : k = m
        · subst e; simp only [Heap.upd, if_true] at hb; obtain rfl := Option.some.inj hb; rfl
        · simp only [Heap.upd, e, if_false] at hb; exact a4 k b hb
      · simp only [VRels, VRel]
        exact ⟨_, [], rfl, ⟨_, a, cap, Map.set_same _ _ _, rfl, hl, by simp, ⟨rfl, by simp, fun _ _ h => (by cases h)⟩⟩, rfl⟩
      · exact ⟨_, 0, [], rfl, ⟨by simp, by simp, .inr ⟨m, 1, false, ⟨false, sz, []⟩, rfl, by simp [Heap.upd], rfl, .inl rfl, fun j hj => by simp at hj⟩⟩, by simp, fun i hi => by omega⟩
    · have hpos : 0 < cs1.length := by rw [a5]; exact Nat.mul_pos (by omega) hz
      obtain ⟨c0, hc0, _⟩ := a6 0 cs1[0] (by simp [hpos])
      have hspot : a.spot = none := by
        have := World.cell?_spot hc0
        simpa [Addr.add] using this
      have hadd : ∀ i, a.add i = ⟨a.block, a.off + i, none⟩ := fun i => by
        obtain ⟨b, o, s⟩ := a
        simp only at hspot
        subst hspot
        exact Addr.add_lit b o i
      have haa : a = ⟨a.block, a.off, none⟩ := by cases a; simp_all
      refine ⟨Map.set μ1 m ⟨a.block, a.off, none⟩, H1.upd m (some ⟨false, sz, cs1⟩), [.sl m 0 len false], fun k l h => Map.le_set _ hm1 _ _ (a1 _ _ h), a2.trans' (Heap.sub.rfl'.upd' hm2 _), a3.addRO a4 hm1 (fun i v hv => by rw [← hadd]; exact a6 i v hv), ?_, ?_, by simp [V.one], ?_⟩
      · intro k b hb
        by_cases e : k = m
        · subst e; simp only [Heap.upd, if_true] at hb; obtain rfl := Option.some.inj hb; rfl
        · simp only [Heap.upd, e, if_false] at hb; exact a4 k b hb
      · simp only [VRels, VRel]
        exact ⟨_, [], rfl, ⟨_, a, cap, Map.set_same _ _ _, rfl, hl, by simp, ⟨rfl, fun _ => by simpa using haa, fun _ _ h => (by cases h)⟩⟩, rfl⟩
      · exact ⟨_, len, cs1, rfl, ⟨a5, hle, .inr ⟨m, 0, false, ⟨false, sz, cs1⟩, rfl, by simp [Heap.upd], rfl, .inr (by simp [a5]), fun j hj => by simp⟩⟩, hbytes, fun i hi => he.1 _ _ _ (a7 i hi) (Heap.sub.rfl'.upd' hm2 _)⟩

/-- from the contract to the call -/
theorem calls_of {P : Program} {f : FuncId} {vs : List V} {H : Heap} {μ : Map} {W : World} {args : Array Value} (h : ACalls P f vs H fun v _ => v = .bool true) (hs : Sim μ H W) (hr : RO H) (hv : VRels μ vs args.toList) :
    Calls P f args W fun e W' => e = .returned (.bool true) ∧ Below W.heap.size W W' := by
  refine (h.2 μ W args hs hv).mono fun e W' ⟨μ', cv, v, H', he, ht, _, hv', hR⟩ => ?_
  subst hR
  simp only [VRel] at hv'
  subst hv'
  refine ⟨he, ⟨ht.os, ht.tape, ht.output, ht.size, fun k hk => ht.frame k hk ?_⟩⟩
  rintro ⟨n, b, l, h1, h2, h3⟩
  have := hr n b h1
  simp_all

theorem Sim.empty (W : World) : Sim (fun _ => none) (fun _ => none) W := ⟨fun n b h => (by cases h), fun n b m b' l l' h => (by cases h), 0, fun _ _ => rfl⟩
theorem RO.empty : RO (fun _ => none) := fun n b h => by cases h

theorem opens_struct2 {P : Program} {t : TypeId} {f0 f1 : Field} {T0 T1 : Heap → List V → Prop} (ht : P.underlying t = some (.struct #[f0, f1])) (hc : P.cellsOf t = 2) (h0 : f0.offset = 0) (h1 : f1.offset = 1) (c0 : P.cellsOf f0.type = 1) (c1 : P.cellsOf f1.type = 1)
    (o0 : Opens P f0.type T0) (o1 : Opens P f1.type T1) : Opens P t fun H vs => ∃ a b, vs = [a, b] ∧ T0 H [a] ∧ T1 H [b] := by
  refine ⟨fun H H' vs ⟨a, b, e, x, y⟩ hs => ⟨a, b, e, o0.1 _ _ _ x hs, o1.1 _ _ _ y hs⟩, fun D enc w base spare held fuel cs x h hw μ H hs hr => ?_⟩
  obtain ⟨xs, n, _, rfl, hl, hn, hf⟩ := DataW.trod_struct ht h
  rw [hc] at hl
  obtain ⟨x0, x1, rfl⟩ : ∃ a b, cs = [a, b] := by
    match cs, hl with
    | [a, b], _ => exact ⟨a, b, rfl⟩
  have g0 := hf 0 f0 rfl
  have g1 := hf 1 f1 rfl
  obtain ⟨y0, y1, rfl⟩ : ∃ a b, xs = [a, b] := by
    match xs, hn with
    | [a, b], _ => exact ⟨a, b, rfl⟩
  rw [h0, c0] at g0
  rw [h1, c1] at g1
  simp only [List.drop_zero, List.take_succ_cons, List.take_zero, List.drop_succ_cons, List.getElem?_cons_zero, List.getElem?_cons_succ] at g0 g1
  have hw0 : ∀ n ∈ y0.1.weights P f0.type, n ≤ reachBytes := fun n hn => hw n (by simp [DataW.weights, ht, DataW.weightsEach]; exact .inl hn)
  have hw1 : ∀ n ∈ y1.1.weights P f1.type, n ≤ reachBytes := fun n hn => hw n (by simp [DataW.weights, ht, DataW.weightsEach]; exact .inr hn)
  obtain ⟨μ1, H1, v0, a1, a2, a3, a4, a5, a6, a7⟩ := o0.2 D enc w base spare held n [x0] y0 g0 hw0 μ H hs hr
  obtain ⟨μ2, H2, v1, b1, b2, b3, b4, b5, b6, b7⟩ := o1.2 D enc w base spare held n [x1] y1 g1 hw1 μ1 H1 a3 a4
  obtain ⟨u0, rfl⟩ : ∃ u, v0 = [u] := by have := a5.length; match v0, this with | [u], _ => exact ⟨u, rfl⟩
  obtain ⟨u1, rfl⟩ : ∃ u, v1 = [u] := by have := b5.length; match v1, this with | [u], _ => exact ⟨u, rfl⟩
  refine ⟨μ2, H2, [u0, u1], fun m l h => b1 _ _ (a1 _ _ h), a2.trans' b2, b3, b4, VRels.append (VRels.mono b1 _ _ a5) b5, ?_, u0, u1, rfl, o0.1 _ _ _ a7 b2, b7⟩
  intro v hv
  rcases List.mem_cons.1 hv with rfl | hv
  · exact a6 _ (by simp)
  · exact b6 _ hv

theorem opens_struct3 {P : Program} {t : TypeId} {f0 f1 f2 : Field} {T0 T1 T2 : Heap → List V → Prop} (ht : P.underlying t = some (.struct #[f0, f1, f2])) (hc : P.cellsOf t = 3) (h0 : f0.offset = 0) (h1 : f1.offset = 1) (h2 : f2.offset = 2) (c0 : P.cellsOf f0.type = 1) (c1 : P.cellsOf f1.type = 1) (c2 : P.cellsOf f2.type = 1)
    (o0 : Opens P f0.type T0) (o1 : Opens P f1.type T1) (o2 : Opens P f2.type T2) : Opens P t fun H vs => ∃ a b c, vs = [a, b, c] ∧ T0 H [a] ∧ T1 H [b] ∧ T2 H [c] := by
  refine ⟨fun H H' vs ⟨a, b, c, e, x, y, z⟩ hs => ⟨a, b, c, e, o0.1 _ _ _ x hs, o1.1 _ _ _ y hs, o2.1 _ _ _ z hs⟩, fun D enc w base spare held fuel cs x h hw μ H hs hr => ?_⟩
  obtain ⟨xs, n, _, rfl, hl, hn, hf⟩ := DataW.trod_struct ht h
  rw [hc] at hl
  obtain ⟨x0, x1, x2, rfl⟩ : ∃ a b c, cs = [a, b, c] := by
    match cs, hl with
    | [a, b, c], _ => exact ⟨a, b, c, rfl⟩
  have g0 := hf 0 f0 rfl
  have g1 := hf 1 f1 rfl
  have g2 := hf 2 f2 rfl
  obtain ⟨y0, y1, y2, rfl⟩ : ∃ a b c, xs = [a, b, c] := by
    match xs, hn with
    | [a, b, c], _ => exact ⟨a, b, c, rfl⟩
  rw [h0, c0] at g0
  rw [h1, c1] at g1
  rw [h2, c2] at g2
  simp only [List.drop_zero, List.take_succ_cons, List.take_zero, List.drop_succ_cons, List.getElem?_cons_zero, List.getElem?_cons_succ] at g0 g1 g2
  have hw0 : ∀ n ∈ y0.1.weights P f0.type, n ≤ reachBytes := fun n hn => hw n (by simp [DataW.weights, ht, DataW.weightsEach]; exact .inl hn)
  have hw1 : ∀ n ∈ y1.1.weights P f1.type, n ≤ reachBytes := fun n hn => hw n (by simp [DataW.weights, ht, DataW.weightsEach]; exact .inr (.inl hn))
  have hw2 : ∀ n ∈ y2.1.weights P f2.type, n ≤ reachBytes := fun n hn => hw n (by simp [DataW.weights, ht, DataW.weightsEach]; exact .inr (.inr hn))
  obtain ⟨μ1, H1, v0, a1, a2, a3, a4, a5, a6, a7⟩ := o0.2 D enc w base spare held n [x0] y0 g0 hw0 μ H hs hr
  obtain ⟨μ2, H2, v1, b1, b2, b3, b4, b5, b6, b7⟩ := o1.2 D enc w base spare held n [x1] y1 g1 hw1 μ1 H1 a3 a4
  obtain ⟨μ3, H3, v2, d1, d2, d3, d4, d5, d6, d7⟩ := o2.2 D enc w base spare held n [x2] y2 g2 hw2 μ2 H2 b3 b4
  obtain ⟨u0, rfl⟩ : ∃ u, v0 = [u] := by have := a5.length; match v0, this with | [u], _ => exact ⟨u, rfl⟩
  obtain ⟨u1, rfl⟩ : ∃ u, v1 = [u] := by have := b5.length; match v1, this with | [u], _ => exact ⟨u, rfl⟩
  obtain ⟨u2, rfl⟩ : ∃ u, v2 = [u] := by have := d5.length; match v2, this with | [u], _ => exact ⟨u, rfl⟩
  refine ⟨μ3, H3, [u0, u1, u2], fun m l h => d1 _ _ (b1 _ _ (a1 _ _ h)), a2.trans' (b2.trans' d2), d3, d4, VRels.append (VRels.mono (fun m l h => d1 _ _ (b1 _ _ h)) _ _ a5) (VRels.append (VRels.mono d1 _ _ b5) d5), ?_, u0, u1, u2, rfl, o0.1 _ _ _ a7 (b2.trans' d2), o1.1 _ _ _ b7 d2, d7⟩
  intro v hv
  rcases List.mem_cons.1 hv with rfl | hv
  · exact a6 _ (by simp)
  rcases List.mem_cons.1 hv with rfl | hv
  · exact b6 _ (by simp)
  · exact d6 _ hv
/-- a struct of the argument list, and its reading -/
theorem arg_struct {P : Program} {T : Heap → List V → Prop} {t : TypeId} {fs : Array Field} (ht : P.underlying t = some (.struct fs)) (hO : Opens P t T) {W : World} {base : Nat} {v : Value} {D : Type} {enc : TypeId × Value → D} {d : DataW D} {ps : List MemPlace}
    (hv : Value.okWide P W .any base t v) (h : DataW.Trod enc P W 0 (fun _ => true) true t v d ps) (hw : ∀ n ∈ d.weights P t, n ≤ reachBytes)
    {μ : Map} {H : Heap} (hs : Sim μ H W) (hr : RO H) : ∃ μ' H' vs, μ.le μ' ∧ Heap.sub H H' ∧ Sim μ' H' W ∧ RO H' ∧ VRel μ' (.agg vs) v ∧ T H' vs := by
  obtain ⟨fuel, hf⟩ := h
  simp only [Value.okWide, ht] at hv
  obtain ⟨cs, rfl, _⟩ := hv
  obtain ⟨μ', H', vs, a, b, c, e, f, g, k⟩ := hO.2 D enc W 0 (fun _ => true) true fuel cs.toList (d, ps) (by simpa [Value.cells] using hf) hw μ H hs hr
  exact ⟨μ', H', vs, a, b, c, e, by simp only [VRel]; exact ⟨cs, rfl, f, g⟩, k⟩

/-- a slice of the argument list -/
theorem arg_slice {P : Program} {T : Heap → List V → Prop} {t e : TypeId} (ht : P.underlying t = some (.slice e)) (hO : Opens P t T) {W : World} {base : Nat} {v : Value} {D : Type} {enc : TypeId × Value → D} {d : DataW D} {ps : List MemPlace}
    (hv : Value.okWide P W .any base t v) (h : DataW.Trod enc P W 0 (fun _ => true) true t v d ps) (hw : ∀ n ∈ d.weights P t, n ≤ reachBytes)
    {μ : Map} {H : Heap} (hs : Sim μ H W) (hr : RO H) : ∃ μ' H' u, μ.le μ' ∧ Heap.sub H H' ∧ Sim μ' H' W ∧ RO H' ∧ VRel μ' u v ∧ T H' [u] := by
  obtain ⟨fuel, hf⟩ := h
  obtain ⟨a, len, cap, rfl⟩ := okWide_slice ht hv
  obtain ⟨μ', H', vs, a1, b, c, e1, f, g, k⟩ := hO.2 D enc W 0 (fun _ => true) true fuel [.slice a len cap] (d, ps) (by simpa [Value.cells] using hf) hw μ H hs hr
  obtain ⟨u, rfl⟩ : ∃ u, vs = [u] := by have := f.length; match vs, this with | [u], _ => exact ⟨u, rfl⟩
  simp only [VRels] at f
  obtain ⟨x, t, ht', hx, rfl⟩ := f
  simp only [List.cons.injEq, and_true] at ht'
  subst ht'
  exact ⟨μ', H', u, a1, b, c, e1, hx, k⟩

theorem row_hyp1 {P : Program} {t1 : TypeId} {D : Type} {d1 : DataW D} (h : (DataW.weightsEach P [t1] [d1]).all (· ≤ reachBytes) = true) : ∀ n ∈ d1.weights P t1, n ≤ reachBytes := by
  simp only [DataW.weightsEach, List.append_nil, List.all_eq_true, decide_eq_true_eq] at h
  exact h
theorem row_hyp {P : Program} {t1 t2 : TypeId} {D : Type} {d1 d2 : DataW D} (h : (DataW.weightsEach P [t1, t2] [d1, d2]).all (· ≤ reachBytes) = true) : (∀ n ∈ d1.weights P t1, n ≤ reachBytes) ∧ ∀ n ∈ d2.weights P t2, n ≤ reachBytes := by
  simp only [DataW.weightsEach, List.append_nil, List.all_append, Bool.and_eq_true, List.all_eq_true, decide_eq_true_eq] at h
  exact h

end Go.AM

/- The arguments of this seat's laws. Conditions: none. -/
set_option linter.unusedVariables false
set_option linter.unusedSimpArgs false
namespace Go.AM
open Go Go.Proofs Go.RowKit Go.ChangeShapes Go.WideShapes Go.ChangeAt

theorem opens_i : Opens Try.prog 3 (TInt .i64) := opens_int Try.underlying3
theorem opens_is : Opens Try.prog 22 (TSl 1 8 (TInt .i64)) := opens_slice Try.underlying22 (by kernel_rfl) (by decide) (by kernel_rfl) (by decide) opens_i
theorem opens_iss : Opens Try.prog 26 (TSl 1 24 (TSl 1 8 (TInt .i64))) := opens_slice Try.underlying26 (by kernel_rfl) (by decide) (by kernel_rfl) (by decide) opens_is
theorem opens_edge : Opens Try.prog 72 fun H vs => ∃ a b c, vs = [a, b, c] ∧ TInt .i64 H [a] ∧ TInt .i64 H [b] ∧ TInt .i64 H [c] :=
  opens_struct3 Try.underlying72 (by kernel_rfl) rfl rfl rfl (by kernel_rfl) (by kernel_rfl) (by kernel_rfl) opens_i opens_i opens_i
theorem opens_edges : Opens Try.prog 70 (TSl 3 24 fun H vs => ∃ a b c, vs = [a, b, c] ∧ TInt .i64 H [a] ∧ TInt .i64 H [b] ∧ TInt .i64 H [c]) := opens_slice Try.underlying70 (by kernel_rfl) (by decide) (by kernel_rfl) (by decide) opens_edge
theorem opens_secs : Opens Try.prog 23 (TSl 1 24 (TSl 3 24 fun H vs => ∃ a b c, vs = [a, b, c] ∧ TInt .i64 H [a] ∧ TInt .i64 H [b] ∧ TInt .i64 H [c])) := opens_slice Try.underlying23 (by kernel_rfl) (by decide) (by kernel_rfl) (by decide) opens_edges
theorem opens_trellis : Opens Try.prog 25 fun H vs => ∃ a b, vs = [a, b] ∧ TSl 1 8 (TInt .i64) H [a] ∧ TSl 1 24 (TSl 3 24 fun H vs => ∃ a b c, vs = [a, b, c] ∧ TInt .i64 H [a] ∧ TInt .i64 H [b] ∧ TInt .i64 H [c]) H [b] :=
  opens_struct2 Try.underlying25 (by kernel_rfl) rfl rfl (by kernel_rfl) (by kernel_rfl) opens_is opens_secs

/-- the ints of a Go int -/
def I64 (x : Int) : Prop := -9223372036854775808 ≤ x ∧ x ≤ 9223372036854775807
theorem i64_of_wf {n : Int} (h : (Lit.int .i64 n).wf = true) : I64 n := by
  simp [Lit.wf, IntKind.min, IntKind.max, IntKind.signed, IntKind.bits] at h
  exact ⟨by omega, by omega⟩
theorem list_of {α : Type} {p : Nat → α → Prop} : ∀ (n : Nat), (∀ i, i < n → ∃ a, p i a) → ∃ l : List α, l.length = n ∧ ∀ i (h : i < l.length), p i l[i]
  | 0, _ => ⟨[], rfl, fun i h => by simp at h⟩
  | n+1, h => by
    obtain ⟨l, hl, hp⟩ := list_of n fun i hi => h i (by omega)
    obtain ⟨a, ha⟩ := h n (by omega)
    refine ⟨l ++ [a], by simp [hl], fun i hi => ?_⟩
    by_cases e : i < l.length
    · rw [List.getElem_append_left e]; exact hp i e
    · have : i = n := by simp at hi; omega
      subst this
      rw [List.getElem_append_right (by omega)]
      simpa [hl] using ha

theorem Sl.congr {H : Heap} {v : V} {sz len : Nat} {cs cs' : List V} (h : Sl H v sz len cs) (e : cs = cs') : Sl H v sz len cs' := e ▸ h

theorem is_of {H : Heap} {v : V} (h : TSl 1 8 (TInt .i64) H [v]) : ∃ xs : List Int, SInts H v xs ∧ ∀ x ∈ xs, I64 x := by
  obtain ⟨v', len, cs, e, hs, _, hi⟩ := h
  obtain rfl : v = v' := by simpa using e
  have hlen : cs.length = len := by have := hs.1; omega
  obtain ⟨xs, hl, hx⟩ := list_of (α := Int) (p := fun i x => cs[i]? = some (.int .i64 x) ∧ I64 x) len fun i hl => by
    obtain ⟨n, hn, hw⟩ := hi i hl
    refine ⟨n, ?_, i64_of_wf hw⟩
    have := congrArg (fun l => l[0]?) hn
    simpa [List.getElem?_take, List.getElem?_drop] using this
  have hcs : cs = ints xs := by
    apply List.ext_getElem?
    intro i
    by_cases hh : i < xs.length
    · rw [(hx i hh).1, ints_get hh]
    · rw [List.getElem?_eq_none (by omega), List.getElem?_eq_none (by rw [ints_len]; omega)]
  subst hl hcs
  exact ⟨xs, hs, fun x hm => by obtain ⟨i, hi, rfl⟩ := List.getElem_of_mem hm; exact (hx i hi).2⟩

def EdI (e : Ed) : Prop := I64 e.fr ∧ I64 e.lb ∧ I64 e.to
theorem eds_of {H : Heap} {v : V} (h : TSl 3 24 (fun H vs => ∃ a b c, vs = [a, b, c] ∧ TInt .i64 H [a] ∧ TInt .i64 H [b] ∧ TInt .i64 H [c]) H [v]) : ∃ l : List Ed, SEds H v l ∧ ∀ e ∈ l, EdI e := by
  obtain ⟨v', len, cs, e, hs, _, hi⟩ := h
  obtain rfl : v = v' := by simpa using e
  have hlen := hs.1
  obtain ⟨l, hl, hx⟩ := list_of (α := Ed) (p := fun i x => (cs.drop (i * 3)).take 3 = x.cells ∧ EdI x) len fun i hl => by
    obtain ⟨a, b, c, hn, ⟨x, hx, wx⟩, ⟨y, hy, wy⟩, ⟨z, hz, wz⟩⟩ := hi i hl
    simp only [List.cons.injEq, and_true] at hx hy hz
    subst hx hy hz
    exact ⟨⟨x, y, z⟩, hn, i64_of_wf wx, i64_of_wf wy, i64_of_wf wz⟩
  have hcs : cs = ecells l := by
    apply List.ext_getElem?
    intro i
    by_cases hh : i < len * 3
    · have hd : i / 3 < l.length := by omega
      have h1 := (hx (i/3) hd).1
      have h2 := ecells_at hd
      rw [← h2] at h1
      have := congrArg (fun l => l[i % 3]?) h1
      simp only [List.getElem?_take, List.getElem?_drop, Nat.mod_lt i (by omega : 3 > 0), if_true] at this
      rwa [show i / 3 * 3 + i % 3 = i by omega] at this
    · rw [List.getElem?_eq_none (by omega), List.getElem?_eq_none (by rw [ecells_len]; omega)]
  subst hl hcs
  exact ⟨l, hs, fun x hm => by obtain ⟨i, hi, rfl⟩ := List.getElem_of_mem hm; exact (hx i hi).2⟩

theorem lists_of {α : Type} {S : Heap → V → α → Prop} {T : Heap → List V → Prop} {p : α → Prop} {bytes : Nat} (hT : ∀ H v, T H [v] → ∃ a, S H v a ∧ p a) {H : Heap} {v : V} (h : TSl 1 bytes T H [v]) : ∃ l : List α, SLists S H v l ∧ ∀ a ∈ l, p a := by
  obtain ⟨v', len, cs, e, hs, _, hi⟩ := h
  obtain rfl : v = v' := by simpa using e
  have hlen : cs.length = len := by have := hs.1; omega
  obtain ⟨l, hl, hx⟩ := list_of (α := α) (p := fun i x => (∃ u, cs[i]? = some u ∧ S H u x) ∧ p x) len fun i hl => by
    have h1 := hi i hl
    have h2 : (cs.drop (i * 1)).take 1 = [cs[i]] := by rw [Nat.mul_one, List.drop_eq_getElem_cons (by omega)]; rfl
    rw [h2] at h1
    obtain ⟨a, ha, hp⟩ := hT _ _ h1
    exact ⟨a, ⟨_, by simp [show i < cs.length by omega], ha⟩, hp⟩
  subst hl
  exact ⟨l, ⟨cs, hs, fun i h => (hx i h).1⟩, fun a hm => by obtain ⟨i, hi, rfl⟩ := List.getElem_of_mem hm; exact (hx i hi).2⟩

/-- a trellis that came in -/
def STre (H : Heap) (v : V) (ws : List Int) (es : List (List Ed)) : Prop := ∃ sv ev, v = .agg [sv, ev] ∧ SInts H sv ws ∧ SSecs H ev es

theorem own : ownKnob Try.prog.godebug = none := by kernel_rfl
theorem laidOut : laidOutB Try.prog = true := by kernel_rfl

set_option maxRecDepth 100000 in
theorem along_lifted (main : ∀ H tv cv ws es costs, STre H tv ws es → (∀ w ∈ ws, I64 w) → (∀ l ∈ es, ∀ e ∈ l, EdI e) → SRows H cv costs → (∀ l ∈ costs, ∀ x ∈ l, I64 x) → ACalls Try.prog 3 [tv, cv] H fun v _ => v = .bool true)
    (os : Os) (started : os.Started) (D : Type) (enc : TypeId × Value → D) :
    ReturnsInHanded {} Try.checked os 3 .any (Ytopeeknimehmcaa.Rows.viterbiAlongSpec.pre6 enc Try.prog Try.f3 Ytopeeknimehmcaa.Rows.viterbiAlongRow.domain false) (Ytopeeknimehmcaa.Rows.viterbiAlongSpec.post enc Try.prog Try.f3 false true false false) := by
  refine returnsInHanded_of_change_sized (C := Try.checked) own started (by kernel_rfl) Try.func3
    (ChangeSpec.witness6 (enc := enc) (C := Try.checked) false ⟨#[], #[.agg #[.slice none 0 0, .slice none 0 0], .slice none 0 0], []⟩ 8 (by kernel_rfl) (by kernel_rfl) (by kernel_rfl) (by kernel_rfl)) ?_
  intro W base args ds gs before hval0 hW hcnd hsz0 _
  have hval : ∀ (j : Nat) t v, Try.f3.params[j]? = some t → args[j]? = some v → Value.okWide Try.prog W .any base t v := hval0
  have hW' := hW
  obtain ⟨p, q, hA0, hV, rfl, hfz, hnd⟩ := hW
  have hA : DataW.TrodAll enc Try.prog W 0 (fun _ => true) true Try.f3.params.toList args.toList ds p := hA0
  have hsz : (DataW.weightsEach Try.prog (Try.f3.params.toList ++ []) (ds ++ gs)).all (· ≤ reachBytes) = true := hsz0
  rw [Try.params3] at hA hval hsz
  obtain ⟨v0, vs0, d0, ds0, p0, q0, hargs, rfl, rfl, h0, r0⟩ := trodAll_cons hA
  obtain ⟨v1, vs1, d1, ds1, p1, q1, rfl, rfl, rfl, h1, r1⟩ := trodAll_cons r0
  obtain ⟨rfl, rfl, rfl⟩ := trodAll_nil r1
  obtain rfl : args = #[v0, v1] := by cases args; simp_all
  obtain ⟨rfl, rfl⟩ := trodVars_none hV
  have k0 := h0
  have lt0 : ∀ x ∈ p0, x.block < W.heap.size := by obtain ⟨m, hm⟩ := k0; exact DataW.trod_lt m _ _ _ hm
  have k1 := h1
  have lt1 : ∀ x ∈ p1, x.block < W.heap.size := by obtain ⟨m, hm⟩ := k1; exact DataW.trod_lt m _ _ _ hm
  obtain ⟨w0, w1⟩ := row_hyp hsz
  clear hA0 hval0
  obtain ⟨μ1, H1, u1, a1, a2, a3, a4, a5, a6⟩ := arg_struct Try.underlying25 opens_trellis (hval 0 25 v0 rfl rfl) h0 w0 (Sim.empty W) RO.empty
  obtain ⟨μ2, H2, u2, b1, b2, b3, b4, b5, b6⟩ := arg_slice Try.underlying26 opens_iss (hval 1 26 v1 rfl rfl) h1 w1 a3 a4
  obtain ⟨sv, ev, rfl, c1, c2⟩ := a6
  obtain ⟨ws, hws, hwi⟩ := is_of c1
  obtain ⟨es, hes, hei⟩ := lists_of (fun _ _ h => eds_of h) c2
  obtain ⟨costs, hco, hci⟩ := lists_of (fun _ _ h => is_of h) b6
  refine (calls_of (main H2 (.agg [sv, ev]) u2 ws es costs ⟨sv, ev, rfl, hws.mono b2, SSecs.mono hes b2⟩ hwi hei hco hci) b3 b4 (by simp only [VRels]; exact ⟨v0, [v1], rfl, VRel.mono b1 _ _ a5, v1, [], rfl, b5, rfl⟩)).mono fun e W' ⟨he, bel⟩ => ?_
  subst he
  exact ⟨_, rfl, _, _, _, [], _, [], hW', trodAll_mk1 (shut_bool Try.underlying4 _), (trodAll_cons_mk (Below.trod laidOut (by kernel_rfl) (of_decide_eq_true (by kernel_rfl)) k0 bel lt0) (trodAll_cons_mk (Below.trod laidOut (by kernel_rfl) (of_decide_eq_true (by kernel_rfl)) k1 bel lt1) trodAll_mk0)), rfl, bel.frame _, fun h => by cases h⟩

theorem along_over (main : ∀ H tv cv ws es costs, STre H tv ws es → (∀ w ∈ ws, I64 w) → (∀ l ∈ es, ∀ e ∈ l, EdI e) → SRows H cv costs → (∀ l ∈ costs, ∀ x ∈ l, I64 x) → ACalls Try.prog 3 [tv, cv] H fun v _ => v = .bool true) : Ytopeeknimehmcaa.Rows.ViterbiAlongSaid :=
  OpenClaim.holds_of_wide 3 Try.f3 rfl rfl rfl rfl rfl rfl rfl ⟨rfl, rfl, rfl, rfl, rfl⟩ rfl rfl rfl rfl rfl (by kernel_rfl) Try.func3 (by kernel_rfl)
    (of_decide_eq_true (by kernel_rfl)) (by unfold Func.isWrapper; first | (rw [if_pos (by decide +kernel)]; kernel_rfl) | (rw [if_neg (by decide +kernel)]; exact ⟨rfl, rfl⟩))
    (fun os started H enc _ => along_lifted main os started H enc)
end Go.AM

/- The bridge from the abstract machine to TrellisRenumbers. Conditions: as stated. -/
set_option linter.unusedVariables false
set_option linter.unusedSimpArgs false
namespace Go.AM
open Go Go.Proofs Go.RowKit Go.ChangeShapes Go.WideShapes Go.ChangeAt

set_option maxRecDepth 100000 in
theorem trellisRenumbers_lifted (main : ∀ H v0 ws0 es0 v1 xs1, STre H v0 ws0 es0 → (∀ w ∈ ws0, I64 w) → (∀ l ∈ es0, ∀ e ∈ l, EdI e) → SInts H v1 xs1 → (∀ x ∈ xs1, I64 x) → ACalls Try.prog 8 [v0, v1] H fun v _ => v = .bool true)
    (os : Os) (started : os.Started) (D : Type) (enc : TypeId × Value → D) :
    ReturnsInHanded {} Try.checked os 8 .any (Ytopeeknimehmcaa.Rows.trellisRenumbersSpec.pre6 enc Try.prog Try.f8 Ytopeeknimehmcaa.Rows.trellisRenumbersRow.domain false) (Ytopeeknimehmcaa.Rows.trellisRenumbersSpec.post enc Try.prog Try.f8 false true false false) := by
  refine returnsInHanded_of_change_sized (C := Try.checked) own started (by kernel_rfl) Try.func8
    (ChangeSpec.witness6 (enc := enc) (C := Try.checked) false ⟨#[], #[.agg #[.slice none 0 0, .slice none 0 0], .slice none 0 0], []⟩ 8 (by kernel_rfl) (by kernel_rfl) (by kernel_rfl) (by kernel_rfl)) ?_
  intro W base args ds gs before hval0 hW hcnd hsz0 _
  have hval : ∀ (j : Nat) t v, Try.f8.params[j]? = some t → args[j]? = some v → Value.okWide Try.prog W .any base t v := hval0
  have hW' := hW
  obtain ⟨p, q, hA0, hV, rfl, hfz, hnd⟩ := hW
  have hA : DataW.TrodAll enc Try.prog W 0 (fun _ => true) true Try.f8.params.toList args.toList ds p := hA0
  have hsz : (DataW.weightsEach Try.prog (Try.f8.params.toList ++ []) (ds ++ gs)).all (· ≤ reachBytes) = true := hsz0
  rw [Try.params8] at hA hval hsz
  obtain ⟨v0, vs0, d0, ds0, p0, q0, hargs, rfl, rfl, h0, r0⟩ := trodAll_cons hA
  obtain ⟨v1, vs1, d1, ds1, p1, q1, rfl, rfl, rfl, h1, r1⟩ := trodAll_cons r0
  obtain ⟨rfl, rfl, rfl⟩ := trodAll_nil r1
  obtain rfl : args = #[v0, v1] := by cases args; simp_all
  obtain ⟨rfl, rfl⟩ := trodVars_none hV
  have k0 := h0
  have lt0 : ∀ x ∈ p0, x.block < W.heap.size := by obtain ⟨m, hm⟩ := k0; exact DataW.trod_lt m _ _ _ hm
  have k1 := h1
  have lt1 : ∀ x ∈ p1, x.block < W.heap.size := by obtain ⟨m, hm⟩ := k1; exact DataW.trod_lt m _ _ _ hm
  obtain ⟨w0, w1⟩ := row_hyp hsz
  clear hA0 hval0
  obtain ⟨μ0, H0, u0, a01, a02, a03, a04, a05, a06⟩ := arg_struct Try.underlying25 opens_trellis (hval 0 25 v0 rfl rfl) h0 w0 (Sim.empty W) RO.empty
  obtain ⟨μ1, H1, u1, a11, a12, a13, a14, a15, a16⟩ := arg_slice Try.underlying22 opens_is (hval 1 22 v1 rfl rfl) h1 w1 a03 a04
  obtain ⟨sv0, ev0, rfl, c01, c02⟩ := a06
  obtain ⟨ws0, hws0, hwi0⟩ := is_of c01
  obtain ⟨es0, hes0, hei0⟩ := lists_of (fun _ _ h => eds_of h) c02
  obtain ⟨xs1, hxs1, hxi1⟩ := is_of a16
  refine (calls_of (main H1 (.agg [sv0, ev0]) ws0 es0 u1 xs1 ⟨sv0, ev0, rfl, (SInts.mono hws0 a12), (SSecs.mono hes0 a12)⟩ hwi0 hei0 hxs1 hxi1) a13 a14 (by simp only [VRels]; exact ⟨v0, [v1], rfl, (VRel.mono a11 _ _ a05), v1, [], rfl, a15, rfl⟩)).mono fun e W' ⟨he, bel⟩ => ?_
  subst he
  exact ⟨_, rfl, _, _, _, [], _, [], hW', trodAll_mk1 (shut_bool Try.underlying4 _), (trodAll_cons_mk (Below.trod laidOut (by kernel_rfl) (of_decide_eq_true (by kernel_rfl)) k0 bel lt0) (trodAll_cons_mk (Below.trod laidOut (by kernel_rfl) (of_decide_eq_true (by kernel_rfl)) k1 bel lt1) trodAll_mk0)), rfl, bel.frame _, fun h => by cases h⟩

theorem trellisRenumbers_over (main : ∀ H v0 ws0 es0 v1 xs1, STre H v0 ws0 es0 → (∀ w ∈ ws0, I64 w) → (∀ l ∈ es0, ∀ e ∈ l, EdI e) → SInts H v1 xs1 → (∀ x ∈ xs1, I64 x) → ACalls Try.prog 8 [v0, v1] H fun v _ => v = .bool true) : Ytopeeknimehmcaa.Rows.TrellisRenumbersSaid :=
  OpenClaim.holds_of_wide 8 Try.f8 rfl rfl rfl rfl rfl rfl rfl ⟨rfl, rfl, rfl, rfl, rfl⟩ rfl rfl rfl rfl rfl (by kernel_rfl) Try.func8 (by kernel_rfl)
    (of_decide_eq_true (by kernel_rfl)) (by unfold Func.isWrapper; first | (rw [if_pos (by decide +kernel)]; kernel_rfl) | (rw [if_neg (by decide +kernel)]; exact ⟨rfl, rfl⟩))
    (fun os started H enc _ => trellisRenumbers_lifted main os started H enc)
end Go.AM
