/- Appends, copies and calls do what the program's operations do. Conditions: as stated. -/
import Derived.Test.YtopeeknimehmcaaA8
set_option linter.unusedVariables false
set_option linter.unusedSimpArgs false
namespace Go.AM
open Go

theorem Sim.heap {μ : Map} {H : Heap} {w w' : World} (h : Sim μ H w) (e : w'.heap = w.heap) : Sim μ H w' where
  bears n blk hb := by
    obtain ⟨l, hl, hbe⟩ := h.bears n blk hb
    exact ⟨l, hl, hbe.keep (fun _ _ h => h) (by rw [e])⟩
  apart := h.apart
  bound := h.bound

theorem Tr.heap {μ : Map} {H : Heap} {w w' : World} (e : w'.heap = w.heap) (h1 : w'.os = w.os) (h2 : w'.tape = w.tape) (h3 : w'.output = w.output) : Tr μ H w μ H w' where
  le _ _ h := h
  size := by rw [e]; exact Nat.le_refl _
  os := h1
  tape := h2
  output := h3
  frame b _ _ := by rw [e]
  own b h := .inr h
  fresh n h h' := absurd h h'
  kept _ _ h _ := h

theorem cellsAt_run {P : Program} {μ : Map} {H : Heap} {w : World} (hs : Sim μ H w) {sz : Nat} {v : V} {x : Value} (hr : VRel μ v x) {ys : List V} (hy : cellsAt H sz v = some ys) {k : Nat} (hk : k ≤ lenV v) :
    ys.length = lenV v * sz ∧ (∃ cs : List Value, (∀ w' : World, w'.heap = w.heap → (Builtin.firstCells sz k x).run P w' = .ok cs.toArray w') ∧ VRels μ (ys.take (k * sz)) cs) ∧ (∀ u ∈ ys, u.one = true) ∧ ∃ b c, x = .slice b (lenV v) c := by
  unfold cellsAt at hy
  split at hy
  · obtain rfl := Option.some.inj hy
    simp only [VRel] at hr
    subst hr
    refine ⟨by simp [lenV], ⟨[], ?_, by simp [VRels]⟩, by simp, _, _, rfl⟩
    intro w' _
    simp [Builtin.firstCells]
  · rename_i nm o len full
    split at hy
    · rename_i h0
      subst h0
      obtain rfl := Option.some.inj hy
      simp only [VRel] at hr
      obtain ⟨l, ad, cap, hl, rfl, hcap, hful, hbl, hat, hroom⟩ := hr
      simp only [lenV] at hk ⊢
      obtain rfl : k = 0 := by omega
      refine ⟨by simp, ⟨[], ?_, by simp [VRels]⟩, by simp, _, _, rfl⟩
      intro w' _
      simp [Builtin.firstCells]
      rfl
    rename_i h0
    split at hy
    · rename_i b hb
      split at hy
      · rename_i hle
        obtain rfl := Option.some.inj hy
        simp only [VRel] at hr
        obtain ⟨l, ad, cap, hl, rfl, hcap, hful, hbl, hat, hroom⟩ := hr
        obtain ⟨l', hl', hbe⟩ := hs.bears nm b hb
        rw [hl] at hl'
        obtain rfl := Option.some.inj hl'
        simp only [lenV] at hk ⊢
        have hks : k * sz ≤ len * sz := Nat.mul_le_mul_right _ hk
        obtain ⟨cs, h1, h2, h3, h4⟩ := hbe.range (o := o) (k := k * sz) (by omega)
        refine ⟨by simp; omega, ⟨cs, fun w' hw => ?_, ?_⟩, fun u hu => ?_, _, _, rfl⟩
        · simp only [Builtin.firstCells]
          by_cases h0 : len = 0
          · have : k * sz = 0 := by subst h0; simp at hks; omega
            rw [this] at h1 ⊢
            have : cs = [] := by simpa using h1
            subst this
            simp [loadCells, loadCellsFrom]
          · rw [hat (.inl h0), ← h1]
            refine run_loadCells_list (P := P) w' _ cs fun j v hj => ?_
            have := h2 j v hj
            rw [addr_add] at this ⊢
            rw [cell?_congr (w := w) (w' := w') (by rw [hw])]; exact this
        · rw [List.take_take, Nat.min_eq_left hks]; exact h3
        · have hu := List.mem_of_mem_drop (List.mem_of_mem_take hu)
          obtain ⟨i, hi⟩ := List.mem_iff_getElem?.1 hu
          obtain ⟨_, _, _, h5⟩ := hbe.cells i u hi
          exact h5
      · cases hy
    · cases hy
  · cases hy

section
variable {P : Program} {n : Nat} {ops : Array Oper} {o : Oper} {μ : Map} {env : Env} {H : Heap} {a : Act} {w : World} {Q : Exit → Act → World → Prop} {K : V → Heap → Prop}

theorem zeroCells_size (z : Array Value) (n : Nat) : (Builtin.zeroCells z n).size = n * z.size := by simp [Builtin.zeroCells]

/-- append where it has to grow -/
theorem run_append_grow {P : Program} {ts : Array TypeId} {ty sT xT e e2 : TypeId} (hts : ts = #[sT, xT]) (h1 : P.underlying sT = some (.slice e)) (h2 : P.underlying xT = some (.slice e2)) {i : TypeInfo} {z : Value}
    (hi : P.info? e = some i) (hz : i.zero = some z) (hb : 0 < i.bytes) (w : World) {base base' : Option Addr} {len cap k cap' : Nat} (hlt : cap < len + k) (hbig : (len + k) * i.bytes ≤ 140737488355328)
    {old new : List Value} (ho : ∀ w', w'.heap = w.heap → (Builtin.firstCells i.size len (.slice base len cap)).run P w' = .ok old.toArray w') (hn : ∀ w', w'.heap = w.heap → (Builtin.firstCells i.size k (.slice base' k cap')).run P w' = .ok new.toArray w') :
    ∃ (nc : Nat) (w1 : World), len + k ≤ nc ∧ w1.heap = w.heap ∧ w1.os = w.os ∧ w1.tape = w.tape ∧ w1.output = w.output ∧
      (Builtin.append_ ts ty #[.slice base len cap, .slice base' k cap']).run P w =
        .ok (.slice (some ⟨w1.heap.size, 0, none⟩) (len + k) nc) (w1.alloc (.cells (old.toArray ++ (new.toArray ++ Builtin.zeroCells z.cells (nc - (len + k)))) e)) := by
  subst hts
  have hg := growslice_fits hlt hbig
  refine ⟨(Question.appendCap (len + k) cap e).cut (w.tape w.drawn (.appendCap (len + k) cap e)), w.drew, ?_, rfl, rfl, rfl, rfl, ?_⟩
  · simp only [Question.cut]; omega
  · have n1 : ¬ (len + k ≤ cap) := by omega
    have n2 : i.bytes ≠ 0 := by omega
    have n3 : ¬ (281474976710656 < Builtin.nextslicecap (len + k) cap * i.bytes) := by omega
    have ho' := ho w.drew rfl
    have hn' := hn w.drew rfl
    simp [Builtin.append_, run_underlying h1, run_underlying h2, run_sizeT hi, Builtin.lenOf, n1, n2, n3, run_infoT hi, Question.forced, ho', hn', run_zeroT hi hz, newRow]

/-- append where there is room -/
theorem run_append_room {P : Program} {ts : Array TypeId} {ty sT xT e e2 : TypeId} (hts : ts = #[sT, xT]) (h1 : P.underlying sT = some (.slice e)) (h2 : P.underlying xT = some (.slice e2)) {i : TypeInfo}
    (hi : P.info? e = some i) (w : World) {base base' : Option Addr} {len cap k cap' : Nat} (hle : len + k ≤ cap) {new : List Value}
    (hn : (Builtin.firstCells i.size k (.slice base' k cap')).run P w = .ok new.toArray w) {w' : World} (hst : ∀ a, base = some a → (storeCells (a.add (len * i.size)) new).run P w = .ok () w') (hnone : base = none → w' = w) :
    (Builtin.append_ ts ty #[.slice base len cap, .slice base' k cap']).run P w = .ok (.slice base (len + k) cap) w' := by
  subst hts
  cases base with
  | none =>
    obtain rfl := hnone rfl
    simp [Builtin.append_, run_underlying h1, run_underlying h2, run_sizeT hi, Builtin.lenOf, hle, hn]
  | some a =>
    have hst := hst a rfl
    simp [Builtin.append_, run_underlying h1, run_underlying h2, run_sizeT hi, Builtin.lenOf, hle, hn, hst]

/-- the block that a growing append makes -/
theorem grown_block {us vs : List V} {old new : List Value} {z : Array Value} {sz lenk nc : Nat} (ho : VRels μ us old) (hn : VRels μ vs new) (hz : z.size = sz) (hl : us.length + vs.length = lenk * sz) (hc : lenk ≤ nc) :
    VRels μ (us ++ vs) ((old.toArray ++ (new.toArray ++ Builtin.zeroCells z (nc - lenk))).toList.take (us ++ vs).length) ∧ (old.toArray ++ (new.toArray ++ Builtin.zeroCells z (nc - lenk))).size = nc * sz := by
  have h1 := ho.length
  have h2 := hn.length
  constructor
  · have : (old.toArray ++ (new.toArray ++ Builtin.zeroCells z (nc - lenk))).toList = (old ++ new) ++ (Builtin.zeroCells z (nc - lenk)).toList := by simp
    rw [this, List.take_append_of_le_length (by simp; omega), List.take_of_length_le (by simp; omega)]
    exact ho.append hn
  · have : (nc - lenk) * sz = nc * sz - lenk * sz := Nat.sub_mul _ _ _
    have h6 : lenk * sz ≤ nc * sz := Nat.mul_le_mul_right _ hc
    simp [zeroCells_size, hz]; omega

/-- the new block's name and value -/
theorem app_new {sz : Nat} (st : St n μ env H a w) {w1 : World} (e1 : w1.heap = w.heap) (e2 : w1.os = w.os) (e3 : w1.tape = w.tape) (e4 : w1.output = w.output) {vs : List V} {c : Array Value} {e : TypeId} {len nc : Nat}
    (hv : VRels μ vs (c.toList.take vs.length)) (h1 : ∀ v ∈ vs, v.one = true) (hc : c.size = nc * sz) (hlen : len ≤ nc) {H' : Nat → Heap}
    (hK : ∀ m, H m = none → K (.sl m 0 len false) (H' m)) (hsub : ∀ m, H m = none → Heap.sub (H' m) (H.upd m (some ⟨true, sz, vs⟩)))
    (hr : (execOp a.eval o).run P w = .ok (.value (.slice (some ⟨w1.heap.size, 0, none⟩) len nc)) (w1.alloc (.cells c e))) : o.wp P a w (Post μ H w a o K) Q := by
  obtain ⟨m, hm, hHm⟩ := st.sim.freshName
  obtain ⟨s, tr⟩ := (st.sim.heap e1).alloc hm (c := c) (e := e) (sz := sz) hv h1 rfl
  have tr1 := ((Tr.heap (μ := μ) (H := H) e1 e2 e3 e4).trans tr).sub (hsub m hHm)
  refine sound_value hr ?_
  refine ⟨_, .sl m 0 len false, _, _, tr1, s.sub (hsub m hHm), ?_, rfl, hK m hHm⟩
  simp only [VRel]
  exact ⟨_, _, _, Map.set_same _ _ _, rfl, hlen, fun h => (by cases h), slAt_new _ _ _ _ _ (by omega)⟩

theorem Heap.sub_upd_none {H : Heap} {n m : Nat} {b : Option Blk} (hm : H m = none) (hn : H n ≠ none) : Heap.sub ((H.upd n none).upd m b) (H.upd m b) := by
  intro k bk hk
  by_cases hkm : k = m
  · subst hkm; rw [upd_same] at hk ⊢; exact hk
  · rw [upd_ne _ _ _ _ hkm] at hk ⊢
    by_cases hkn : k = n
    · subst hkn; rw [upd_same] at hk; cases hk
    · rw [upd_ne _ _ _ _ hkn] at hk; exact hk

theorem sound_app {c : Call} {i : I} (ho : o.op = .call c) (hcal : c.callee = .builtin .append) (hi : cvApp P n c.args.toList c.argTypes.toList = some i) (st : St n μ env H a w) (h : iwp P i K env H) : o.wp P a w (Post μ H w a o K) Q := by
  obtain ⟨callee, args, argTypes⟩ := c
  simp only at hcal hi
  subst hcal
  unfold cvApp at hi
  split at hi
  · rename_i s x t u e1 e2
    split at hi
    · rename_i e e' sv xv he hu hs hx
      split at hi
      · rename_i sz bytes zs hsz hz
        split at hi
        · rename_i hc0
          obtain rfl := Option.some.inj hi
          have ea : args = #[s, x] := by rw [← Array.toArray_toList (xs := args), e1]
          have et : argTypes = #[t, u] := by rw [← Array.toArray_toList (xs := argTypes), e2]
          subst ea; subst et
          obtain ⟨ii, d, i1, i2, i3, i4⟩ := szT_some hsz
          obtain ⟨i0, z, zv, hi0, hzz, hcv, rfl⟩ := zeroT_some hz
          rw [i1] at hi0
          obtain rfl := Option.some.inj hi0
          subst i3; subst i4
          have hcz : VRels μ zv.cells z.cells.toList := cvV_cells hcv
          have hzs : z.cells.size = ii.size := by have := hcz.length; rw [hc0.2.2] at this; simp at this; omega
          have rs := cvO_sound hs st
          have rx := cvO_sound hx st
          have hrun : ∀ {y w'}, (Builtin.append_ #[t, u] o.type #[a.eval s, a.eval x]).run P w = .ok y w' → (execOp a.eval o).run P w = .ok (.value y) w' := fun hr => by
            simp [execOp, ho, resolve, invoke, builtin, hr]
          simp only [iwp] at h
          split at h
          · rename_i ys hys
            obtain ⟨hb1, hb2, h⟩ := h
            obtain ⟨hyl, ⟨new, hnew, hnv⟩, hx1, xb, xc, hxe⟩ := cellsAt_run (P := P) st.sim rx hys (Nat.le_refl _)
            rw [← hyl, List.take_length] at hnv
            rw [hxe] at hnew hrun
            generalize hk : lenV (xv.ev env) = k at *
            have hnl := hnv.length
            by_cases hk0 : k = 0
            · -- nothing is appended
              rw [if_pos hk0] at h
              obtain ⟨h, hsv⟩ := h
              have hn0 : new = [] := by
                have : ys.length = 0 := by rw [hyl, hk0, Nat.zero_mul]
                rw [this] at hnl; exact List.length_eq_zero_iff.1 hnl.symm
              have key : ∀ base len cap, a.eval s = .slice base len cap → len ≤ cap → o.wp P a w (Post μ H w a o K) Q := fun base len cap hse hle => by
                rw [hse] at hrun
                have := run_append_room (P := P) (ts := #[t, u]) (ty := o.type) rfl (elemT_some he) (elemT_some hu) i1 w (base := base) (base' := xb) (len := len) (cap := cap) (k := k) (cap' := xc) (by omega) (hnew w rfl) (w' := w)
                  (fun ad _ => by rw [hn0]; rfl) (fun _ => rfl)
                refine sound_value (hrun this) ⟨μ, _, _, H, Tr.refl _ _ _, st.sim, ?_, rfl, h⟩
                rw [hk0, Nat.add_zero, ← hse]; exact rs
              rcases hsv with e | ⟨n', o', l', f', e⟩
              · rw [e] at rs; simp only [VRel] at rs
                exact key none 0 0 rs (Nat.le_refl _)
              · have rs' := rs
                rw [e] at rs'; simp only [VRel] at rs'
                obtain ⟨l, ad, cap, hl, hse, hcap, _⟩ := rs'
                exact key _ _ _ hse hcap
            · rw [if_neg hk0] at h
              split at h
              · -- onto nil
                rename_i e
                rw [e] at rs hb1
                simp only [VRel] at rs
                rw [rs] at hrun
                simp only [lenV, Nat.zero_add] at hb1
                obtain ⟨nc, w1, hnc, f1, f2, f3, f4, hap⟩ := run_append_grow (P := P) (ts := #[t, u]) (ty := o.type) rfl (elemT_some he) (elemT_some hu) i1 hzz hc0.2.1 w (base := none) (base' := xb) (len := 0) (cap := 0) (k := k) (cap' := xc)
                  (by omega) (by rw [Nat.zero_add]; exact hb1) (old := []) (new := new) (fun _ _ => by simp [Builtin.firstCells]) hnew
                obtain ⟨g1, g2⟩ := grown_block (us := []) (old := []) (z := z.cells) (lenk := 0 + k) (by simp [VRels]) hnv hzs (by simp [hyl]) hnc
                refine app_new st f1 f2 f3 f4 (vs := ys) (nc := nc) (len := 0 + k) g1 hx1 g2 hnc (H' := fun m => H.upd m (some ⟨true, ii.size, ys⟩)) ?_ (fun m _ _ _ h => h) (hrun hap)
                rw [Nat.zero_add]; exact h
              · rename_i nm off len full e
                rw [e] at rs hb1
                simp only [VRel] at rs
                simp only [lenV] at hb1
                obtain ⟨l, ad, cap, hl, hse, hcap, hful, hbl, hat, hroom⟩ := rs
                split at h
                · rename_i b hb
                  have hse2 : VRel μ (.sl nm off len full) (.slice (some ad) len cap) := by
                    simp only [VRel]; exact ⟨l, ad, cap, hl, rfl, hcap, hful, hbl, hat, hroom⟩
                  have hgrow : cap < len + k → off + len * ii.size ≤ b.cells.length → ∀ (H' : Nat → Heap), (∀ m, H m = none → K (.sl m 0 (len + k) false) (H' m)) →
                      (∀ m, H m = none → Heap.sub (H' m) (H.upd m (some ⟨true, ii.size, (b.cells.drop off).take (len * ii.size) ++ ys⟩))) → o.wp P a w (Post μ H w a o K) Q := by
                    intro hlt hle H' hK hsub
                    have hcs : cellsAt H ii.size (.sl nm off len full) = some ((b.cells.drop off).take (len * ii.size)) := by by_cases h0 : len = 0 <;> simp [cellsAt, hb, hle, h0]
                    obtain ⟨hol, ⟨old, hold, hov⟩, ho1, _⟩ := cellsAt_run (P := P) st.sim hse2 hcs (Nat.le_refl _)
                    simp only [lenV] at hol hold hov
                    rw [List.take_take, Nat.min_self] at hov
                    rw [hse] at hrun
                    obtain ⟨nc, w1, hnc, f1, f2, f3, f4, hap⟩ := run_append_grow (P := P) (ts := #[t, u]) (ty := o.type) rfl (elemT_some he) (elemT_some hu) i1 hzz hc0.2.1 w (base := some ad) (base' := xb) (len := len) (cap := cap) (k := k) (cap' := xc)
                      hlt hb1 hold hnew
                    obtain ⟨g1, g2⟩ := grown_block (z := z.cells) (lenk := len + k) hov hnv hzs (by rw [hol, hyl, Nat.add_mul]) hnc
                    exact app_new st f1 f2 f3 f4 (nc := nc) (len := len + k) g1 (fun v hv => (List.mem_append.1 hv).elim (ho1 v) (hx1 v)) g2 hnc hK hsub (hrun hap)
                  replace h := h.2
                  by_cases hf : full = true
                  · rw [if_pos hf] at h
                    exact hgrow (by have := hful hf; omega) h.1 _ h.2 (fun m _ _ _ h => h)
                  · rw [if_neg hf] at h
                    obtain ⟨how, hbs, ho0, hbl2, h⟩ := h
                    subst ho0
                    by_cases hfit : len + k ≤ cap
                    · -- in place
                      obtain ⟨c, ce, hc, hx0, hrm, hrel, hlc, hone⟩ := st.sim.owned hb how hl
                      have had := hat (.inr rfl)
                      rw [hx0, Nat.add_zero] at had
                      have hcs : len * ii.size + k * ii.size ≤ c.size := by
                        rcases hroom _ _ hrm with h5 | h5
                        · rw [hbs] at h5
                          have h6 : (len + k) * ii.size ≤ cap * ii.size := Nat.mul_le_mul_right _ hfit
                          rw [Nat.add_mul] at h6; omega
                        · exact absurd rfl h5.2
                      have hst := run_storeCells_at P l.b (len * ii.size) ce new 0 c w hc (by omega) (hnv.ones hx1)
                      simp only [Nat.add_zero] at hst
                      have hvn : VRels μ (b.cells ++ ys) ((c.toList.take (len * ii.size) ++ new ++ c.toList.drop (len * ii.size + new.length)).toArray.toList.take (b.cells ++ ys).length) := by
                        simp only
                        rw [List.take_append_of_le_length (by simp; omega), List.take_of_length_le (by simp; omega)]
                        rw [hbl2] at hrel
                        exact hrel.append hnv
                      obtain ⟨s1, tr1⟩ := st.sim.write hb how hl (c' := (c.toList.take (len * ii.size) ++ new ++ c.toList.drop (len * ii.size + new.length)).toArray) (vs := b.cells ++ ys) hc (by simp; omega) hvn
                        (fun v hv => (List.mem_append.1 hv).elim (hone v) (hx1 v)) rfl
                      obtain ⟨m, hm, hHm⟩ := s1.freshName
                      obtain ⟨s2, tr2⟩ := s1.rename (n := nm) (m := m) (upd_same _ _ _) rfl hl hm
                      have hmn : m ≠ nm := fun e => by subst e; rw [upd_same] at hHm; cases hHm
                      have hHm' : H m = none := by rwa [upd_ne _ _ _ _ hmn] at hHm
                      have hheap : Heap.upd (Heap.upd (Heap.upd H nm (some ⟨true, b.sz, b.cells ++ ys⟩)) nm none) m (some ⟨true, b.sz, b.cells ++ ys⟩) = (H.upd nm none).upd m (some ⟨true, ii.size, b.cells ++ ys⟩) := by
                        funext j; simp only [Heap.upd, hbs]
                        by_cases h1 : j = m <;> by_cases h2 : j = nm <;> simp [h1, h2]
                      rw [hheap] at s2 tr2
                      rw [hse] at hrun
                      have hap := run_append_room (P := P) (ts := #[t, u]) (ty := o.type) rfl (elemT_some he) (elemT_some hu) i1 w (base := some ad) (base' := xb) (len := len) (cap := cap) (k := k) (cap' := xc) hfit (hnew w rfl)
                        (w' := w.setRow l.b (c.toList.take (len * ii.size) ++ new ++ c.toList.drop (len * ii.size + new.length)).toArray)
                        (fun ad' e => by obtain rfl := Option.some.inj e; rw [had, addr_add, Nat.zero_add]; exact hst) (fun e => by cases e)
                      refine sound_value (hrun hap) ⟨_, .sl m 0 (len + k) false, _, _, tr1.trans tr2, s2, ?_, rfl, h m hHm'⟩
                      simp only [VRel]
                      refine ⟨l, ad, cap, Map.set_same _ _ _, rfl, hfit, fun h => (by cases h), hbl, fun _ => ?_, fun s' c' hs' => ?_⟩
                      · rw [had, hx0]
                      · rcases hroom s' c' hs' with h5 | h5
                        · exact .inl h5
                        · exact absurd rfl h5.2
                    · refine hgrow (by omega) (by omega) _ h (fun m hm => ?_)
                      have : (b.cells.drop 0).take (len * ii.size) = b.cells := by rw [List.drop_zero, List.take_of_length_le (by omega)]
                      rw [this]
                      exact Heap.sub_upd_none hm (by rw [hb]; simp)
                · exact h.elim
              · exact h.elim
          · exact h.elim
        · cases hi
      · cases hi
    · cases hi
  · cases hi

end
end Go.AM
