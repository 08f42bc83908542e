/- Appends, copies and calls do what the program's operations do. Conditions: as stated. -/
import Derived.Test.YtopeeknimehmcaaJ1
set_option linter.unusedVariables false
set_option linter.unusedSimpArgs false
namespace Go.AM
open Go

theorem Sim.heap {μ : Map} {H : Heap} {w w' : World} (h : Sim μ H w) (e : w'.heap = w.heap) : Sim μ H w' where
  bears n blk hb := by
    obtain ⟨l, hl, hbe⟩ := h.bears n blk hb
    exact ⟨l, hl, hbe.keep (fun _ _ h => h) (by rw [e])⟩
  apart := h.apart
  bound := h.bound

theorem Tr.heap {μ : Map} {H : Heap} {w w' : World} (e : w'.heap = w.heap) (h1 : w'.os = w.os) (h2 : w'.tape = w.tape) (h3 : w'.output = w.output) : Tr μ H w μ H w' where
  le _ _ h := h
  size := by rw [e]; exact Nat.le_refl _
  os := h1
  tape := h2
  output := h3
  frame b _ _ := by rw [e]
  own b h := .inr h
  fresh n h h' := absurd h h'
  kept _ _ h _ := h

theorem cellsAt_run {P : Program} {μ : Map} {H : Heap} {w : World} (hs : Sim μ H w) {sz : Nat} {v : V} {x : Value} (hr : VRel μ v x) {ys : List V} (hy : cellsAt H sz v = some ys) {k : Nat} (hk : k ≤ lenV v) :
    ys.length = lenV v * sz ∧ (∃ cs : List Value, (∀ w' : World, w'.heap = w.heap → (Builtin.firstCells sz k x).run P w' = .ok cs.toArray w') ∧ VRels μ (ys.take (k * sz)) cs) ∧ (∀ u ∈ ys, u.one = true) ∧ ∃ b c, x = .slice b (lenV v) c := by
  unfold cellsAt at hy
  split at hy
  · obtain rfl := Option.some.inj hy
    simp only [VRel] at hr
    subst hr
    refine ⟨by simp [lenV], ⟨[], ?_, by simp [VRels]⟩, by simp, _, _, rfl⟩
    intro w' _
    simp [Builtin.firstCells]
  · rename_i nm o len full
    split at hy
    · rename_i h0
      subst h0
      obtain rfl := Option.some.inj hy
      simp only [VRel] at hr
      obtain ⟨l, ad, cap, hl, rfl, hcap, hful, hbl, hat, hroom⟩ := hr
      simp only [lenV] at hk ⊢
      obtain rfl : k = 0 := by omega
      refine ⟨by simp, ⟨[], ?_, by simp [VRels]⟩, by simp, _, _, rfl⟩
      intro w' _
      simp [Builtin.firstCells]
      rfl
    rename_i h0
    split at hy
    · rename_i b hb
      split at hy
      · rename_i hle
        obtain rfl := Option.some.inj hy
        simp only [VRel] at hr
        obtain ⟨l, ad, cap, hl, rfl, hcap, hful, hbl, hat, hroom⟩ := hr
        obtain ⟨l', hl', hbe⟩ := hs.bears nm b hb
        rw [hl] at hl'
        obtain rfl := Option.some.inj hl'
        simp only [lenV] at hk ⊢
        have hks : k * sz ≤ len * sz := Nat.mul_le_mul_right _ hk
        obtain ⟨cs, h1, h2, h3, h4⟩ := hbe.range (o := o) (k := k * sz) (by omega)
        refine ⟨by simp; omega, ⟨cs, fun w' hw => ?_, ?_⟩, fun u hu => ?_, _, _, rfl⟩
        · simp only [Builtin.firstCells]
          by_cases h0 : len = 0
          · have : k * sz = 0 := by subst h0; simp at hks; omega
            rw [this] at h1 ⊢
            have : cs = [] := by simpa using h1
            subst this
            simp [loadCells, loadCellsFrom]
          · rw [hat (.inl h0), ← h1]
            refine run_loadCells_list (P := P) w' _ cs fun j v hj => ?_
            have := h2 j v hj
            rw [addr_add] at this ⊢
            rw [cell?_congr (w := w) (w' := w') (by rw [hw])]; exact this
        · rw [List.take_take, Nat.min_eq_left hks]; exact h3
        · have hu := List.mem_of_mem_drop (List.mem_of_mem_take hu)
          obtain ⟨i, hi⟩ := List.mem_iff_getElem?.1 hu
          obtain ⟨_, _, _, h5⟩ := hbe.cells i u hi
          exact h5
      · cases hy
    · cases hy
  · cases hy

section
variable {P : Program} {n : Nat} {ops : Array Oper} {o : Oper} {μ : Map} {env : Env} {H : Heap} {a : Act} {w : World} {Q : Exit → Act → World → Prop} {K : V → Heap → Prop}

theorem zeroCells_size (z : Array Value) (n : Nat) : (Builtin.zeroCells z n).size = n * z.size := by simp [Builtin.zeroCells]

/-- append where it has to grow -/
theorem run_append_grow {P : Program} {ts : Array TypeId} {ty sT xT e e2 : TypeId} (hts : ts = #[sT, xT]) (h1 : P.underlying sT = some (.slice e)) (h2 : P.underlying xT = some (.slice e2)) {i : TypeInfo} {z : Value}
    (hi : P.info? e = some i) (hz : i.zero = some z) (hb : 0 < i.bytes) (w : World) {base base' : Option Addr} {len cap k cap' : Nat} (hlt : cap < len + k) (hbig : (len + k) * i.bytes ≤ 140737488355328)
    {old new : List Value} (ho : ∀ w', w'.heap = w.heap → (Builtin.firstCells i.size len (.slice base len cap)).run P w' = .ok old.toArray w') (hn : ∀ w', w'.heap = w.heap → (Builtin.firstCells i.size k (.slice base' k cap')).run P w' = .ok new.toArray w') :
    ∃ (nc : Nat) (w1 : World), len + k ≤ nc ∧ w1.heap = w.heap ∧ w1.os = w.os ∧ w1.tape = w.tape ∧ w1.output = w.output ∧
      (Builtin.append_ ts ty #[.slice base len cap, .slice base' k cap']).run P w =
        .ok (.slice (some ⟨w1.heap.size, 0, none⟩) (len + k) nc) (w1.alloc (.cells (old.toArray ++ (new.toArray ++ Builtin.zeroCells z.cells (nc - (len + k)))) e)) := by
  subst hts
  have hg := growslice_fits hlt hbig
  refine ⟨(Question.appendCap (len + k) cap e).cut (w.tape w.drawn (.appendCap (len + k) cap e)), w.drew, ?_, rfl, rfl, rfl, rfl, ?_⟩
  · simp only [Question.cut]; omega
  · have n1 : ¬ (len + k ≤ cap) := by omega
    have n2 : i.bytes ≠ 0 := by omega
    have n3 : ¬ (281474976710656 < Builtin.nextslicecap (len + k) cap * i.bytes) := by omega
    have ho' := ho w.drew rfl
    have hn' := hn w.drew rfl
    simp [Builtin.append_, run_underlying h1, run_underlying h2, run_sizeT hi, Builtin.lenOf, n1, n2, n3, run_infoT hi, Question.forced, ho', hn', run_zeroT hi hz, newRow]

/-- append where there is room -/
theorem run_append_room {P : Program} {ts : Array TypeId} {ty sT xT e e2 : TypeId} (hts : ts = #[sT, xT]) (h1 : P.underlying sT = some (.slice e)) (h2 : P.underlying xT = some (.slice e2)) {i : TypeInfo}
    (hi : P.info? e = some i) (w : World) {base base' : Option Addr} {len cap k cap' : Nat} (hle : len + k ≤ cap) {new : List Value}
    (hn : (Builtin.firstCells i.size k (.slice base' k cap')).run P w = .ok new.toArray w) {w' : World} (hst : ∀ a, base = some a → (storeCells (a.add (len * i.size)) new).run P w = .ok () w') (hnone : base = none → w' = w) :
    (Builtin.append_ ts ty #[.slice base len cap, .slice base' k cap']).run P w = .ok (.slice base (len + k) cap) w' := by
  subst hts
  cases base with
  | none =>
    obtain rfl := hnone rfl
    simp [Builtin.append_, run_underlying h1, run_underlying h2, run_sizeT hi, Builtin.lenOf, hle, hn]
  | some a =>
    have hst := hst a rfl
    simp [Builtin.append_, run_underlying h1, run_underlying h2, run_sizeT hi, Builtin.lenOf, hle, hn, hst]

/-- the block that a growing append makes -/
theorem grown_block {us vs : List V} {old new : List Value} {z : Array Value} {sz lenk nc : Nat} (ho : VRels μ us old) (hn : VRels μ vs new) (hz : z.size = sz) (hl : us.length + vs.length = lenk * sz) (hc : lenk ≤ nc) :
    VRels μ (us ++ vs) ((old.toArray ++ (new.toArray ++ Builtin.zeroCells z (nc - lenk))).toList.take (us ++ vs).length) ∧ (old.toArray ++ (new.toArray ++ Builtin.zeroCells z (nc - lenk))).size = nc * sz := by
  have h1 := ho.length
  have h2 := hn.length
  constructor
  · have : (old.toArray ++ (new.toArray ++ Builtin.zeroCells z (nc - lenk))).toList = (old ++ new) ++ (Builtin.zeroCells z (nc - lenk)).toList := by simp
    rw [this, List.take_append_of_le_length (by simp; omega), List.take_of_length_le (by simp; omega)]
    exact ho.append hn
  · have : (nc - lenk) * sz = nc * sz - lenk * sz := Nat.sub_mul _ _ _
    have h6 : lenk * sz ≤ nc * sz := Nat.mul_le_mul_right _ hc
    simp [zeroCells_size, hz]; omega

/-- the new block's name and value -/
theorem app_new {sz : Nat} (st : St n μ env H a w) {w1 : World} (e1 : w1.heap = w.heap) (e2 : w1.os = w.os) (e3 : w1.tape = w.tape) (e4 : w1.output = w.output) {vs : List V} {c : Array Value} {e : TypeId} {len nc : Nat}
    (hv : VRels μ vs (c.toList.take vs.length)) (h1 : ∀ v ∈ vs, v.one = true) (hc : c.size = nc * sz) (hlen : len ≤ nc) {H' : Nat → Heap}
    (hK : ∀ m, H m = none → K (.sl m 0 len false) (H' m)) (hsub : ∀ m, H m = none → Heap.sub (H' m) (H.upd m (some ⟨true, sz, vs⟩)))
    (hr : (execOp a.eval o).run P w = .ok (.value (.slice (some ⟨w1.heap.size, 0, none⟩) len nc)) (w1.alloc (.cells c e))) : o.wp P a w (Post μ H w a o K) Q := by
  obtain ⟨m, hm, hHm⟩ := st.sim.freshName
  obtain ⟨s, tr⟩ := (st.sim.heap e1).alloc hm (c := c) (e := e) (sz := sz) hv h1 rfl
  have tr1 := ((Tr.heap (μ := μ) (H := H) e1 e2 e3 e4).trans tr).sub (hsub m hHm)
  refine sound_value hr ?_
  refine ⟨_, .sl m 0 len false, _, _, tr1, s.sub (hsub m hHm), ?_, rfl, hK m hHm⟩
  simp only [VRel]
  exact ⟨_, _, _, Map.set_same _ _ _, rfl, hlen, fun h => (by cases h), slAt_new _ _ _ _ _ (by omega)⟩

theorem Heap.sub_upd_none {H : Heap} {n m : Nat} {b : Option Blk} (hm : H m = none) (hn : H n ≠ none) : Heap.sub ((H.upd n none).upd m b) (H.upd m b) := by
  intro k bk hk
  by_cases hkm : k = m
  · subst hkm; rw [upd_same] at hk ⊢; exact hk
  · rw [upd_ne _ _ _ _ hkm] at hk ⊢
    by_cases hkn : k = n
    · subst hkn; rw [upd_same] at hk; cases hk
    · rw [upd_ne _ _ _ _ hkn] at hk; exact hk

theorem sound_app {c : Call} {i : I} (ho : o.op = .call c) (hcal : c.callee = .builtin .append) (hi : cvApp P n c.args.toList c.argTypes.toList = some i) (st : St n μ env H a w) (h : iwp P i K env H) : o.wp P a w (Post μ H w a o K) Q := by
  obtain ⟨callee, args, argTypes⟩ := c
  simp only at hcal hi
  subst hcal
  unfold cvApp at hi
  split at hi
  · rename_i s x t u e1 e2
    split at hi
    · rename_i e e' sv xv he hu hs hx
      split at hi
      · rename_i sz bytes zs hsz hz
        split at hi
        · rename_i hc0
          obtain rfl := Option.some.inj hi
          have ea : args = #[s, x] := by rw [← Array.toArray_toList (xs := args), e1]
          have et : argTypes = #[t, u] := by rw [← Array.toArray_toList (xs := argTypes), e2]
          subst ea; subst et
          obtain ⟨ii, d, i1, i2, i3, i4⟩ := szT_some hsz
          obtain ⟨i0, z, zv, hi0, hzz, hcv, rfl⟩ := zeroT_some hz
          rw [i1] at hi0
          obtain rfl := Option.some.inj hi0
          subst i3; subst i4
          have hcz : VRels μ zv.cells z.cells.toList := cvV_cells hcv
          have hzs : z.cells.size = ii.size := by have := hcz.length; rw [hc0.2.2] at this; simp at this; omega
          have rs := cvO_sound hs st
          have rx := cvO_sound hx st
          have hrun : ∀ {y w'}, (Builtin.append_ #[t, u] o.type #[a.eval s, a.eval x]).run P w = .ok y w' → (execOp a.eval o).run P w = .ok (.value y) w' := fun hr => by
            simp [execOp, ho, resolve, invoke, builtin, hr]
          simp only [iwp] at h
          split at h
          · rename_i ys hys
            obtain ⟨hb1, hb2, h⟩ := h
            obtain ⟨hyl, ⟨new, hnew, hnv⟩, hx1, xb, xc, hxe⟩ := cellsAt_run (P := P) st.sim rx hys (Nat.le_refl _)
            rw [← hyl, List.take_length] at hnv
            rw [hxe] at hnew hrun
            generalize hk : lenV (xv.ev env) = k at *
            have hnl := hnv.length
            by_cases hk0 : k = 0
            · -- nothing is appended
              rw [if_pos hk0] at h
              obtain ⟨h, hsv⟩ := h
              have hn0 : new = [] := by
                have : ys.length = 0 := by rw [hyl, hk0, Nat.zero_mul]
                rw [this] at hnl; exact List.length_eq_zero_iff.1 hnl.symm
              have key : ∀ base len cap, a.eval s = .slice base len cap → len ≤ cap → o.wp P a w (Post μ H w a o K) Q := fun base len cap hse hle => by
                rw [hse] at hrun
                have := run_append_room (P := P) (ts := #[t, u]) (ty := o.type) rfl (elemT_some he) (elemT_some hu) i1 w (base := base) (base' := xb) (len := len) (cap := cap) (k := k) (cap' := xc) (by omega) (hnew w rfl) (w' := w)
                  (fun ad _ => by rw [hn0]; rfl) (fun _ => rfl)
                refine sound_value (hrun this) ⟨μ, _, _, H, Tr.refl _ _ _, st.sim, ?_, rfl, h⟩
                rw [hk0, Nat.add_zero, ← hse]; exact rs
              rcases hsv with e | ⟨n', o', l', f', e⟩
              · rw [e] at rs; simp only [VRel] at rs
                exact key none 0 0 rs (Nat.le_refl _)
              · have rs' := rs
                rw [e] at rs'; simp only [VRel] at rs'
                obtain ⟨l, ad, cap, hl, hse, hcap, _⟩ := rs'
                exact key _ _ _ hse hcap
            · rw [if_neg hk0] at h
              split at h
              · -- onto nil
                rename_i e
                rw [e] at rs hb1
                simp only [VRel] at rs
                rw [rs] at hrun
                simp only [lenV, Nat.zero_add] at hb1
                obtain ⟨nc, w1, hnc, f1, f2, f3, f4, hap⟩ := run_append_grow (P := P) (ts := #[t, u]) (ty := o.type) rfl (elemT_some he) (elemT_some hu) i1 hzz hc0.2.1 w (base := none) (base' := xb) (len := 0) (cap := 0) (k := k) (cap' := xc)
                  (by omega) (by rw [Nat.zero_add]; exact hb1) (old := []) (new := new) (fun _ _ => by simp [Builtin.firstCells]) hnew
                obtain ⟨g1, g2⟩ := grown_block (us := []) (old := []) (z := z.cells) (lenk := 0 + k) (by simp [VRels]) hnv hzs (by simp [hyl]) hnc
                refine app_new st f1 f2 f3 f4 (vs := ys) (nc := nc) (len := 0 + k) g1 hx1 g2 hnc (H' := fun m => H.upd m (some ⟨true, ii.size, ys⟩)) ?_ (fun m _ _ _ h => h) (hrun hap)
                rw [Nat.zero_add]; exact h
              · rename_i nm off len full e
                rw [e] at rs hb1
                simp only [VRel] at rs
                simp only [lenV] at hb1
                obtain ⟨l, ad, cap, hl, hse, hcap, hful, hbl, hat, hroom⟩ := rs
                split at h
                · rename_i b hb
                  have hse2 : VRel μ (.sl nm off len full) (.slice (some ad) len cap) := by
                    simp only [VRel]; exact ⟨l, ad, cap, hl, rfl, hcap, hful, hbl, hat, hroom⟩
                  have hgrow : cap < len + k → off + len * ii.size ≤ b.cells.length → ∀ (H' : Nat → Heap), (∀ m, H m = none → K (.sl m 0 (len + k) false) (H' m)) →
                      (∀ m, H m = none → Heap.sub (H' m) (H.upd m (some ⟨true, ii.size, (b.cells.drop off).take (len * ii.size) ++ ys⟩))) → o.wp P a w (Post μ H w a o K) Q := by
                    intro hlt hle H' hK hsub
                    have hcs : cellsAt H ii.size (.sl nm off len full) = some ((b.cells.drop off).take (len * ii.size)) := by by_cases h0 : len = 0 <;> simp [cellsAt, hb, hle, h0]
                    obtain ⟨hol, ⟨old, hold, hov⟩, ho1, _⟩ := cellsAt_run (P := P) st.sim hse2 hcs (Nat.le_refl _)
                    simp only [lenV] at hol hold hov
                    rw [List.take_take, Nat.min_self] at hov
                    rw [hse] at hrun
                    obtain ⟨nc, w1, hnc, f1, f2, f3, f4, hap⟩ := run_append_grow (P := P) (ts := #[t, u]) (ty := o.type) rfl (elemT_some he) (elemT_some hu) i1 hzz hc0.2.1 w (base := some ad) (base' := xb) (len := len) (cap := cap) (k := k) (cap' := xc)
                      hlt hb1 hold hnew
                    obtain ⟨g1, g2⟩ := grown_block (z := z.cells) (lenk := len + k) hov hnv hzs (by rw [hol, hyl, Nat.add_mul]) hnc
                    exact app_new st f1 f2 f3 f4 (nc := nc) (len := len + k) g1 (fun v hv => (List.mem_append.1 hv).elim (ho1 v) (hx1 v)) g2 hnc hK hsub (hrun hap)
                  replace h := h.2
                  by_cases hf : full = true
                  · rw [if_pos hf] at h
                    exact hgrow (by have := hful hf; omega) h.1 _ h.2 (fun m _ _ _ h => h)
                  · rw [if_neg hf] at h
                    obtain ⟨how, hbs, ho0, hbl2, h⟩ := h
                    subst ho0
                    by_cases hfit : len + k ≤ cap
                    · -- in place
                      obtain ⟨c, ce, hc, hx0, hrm, hrel, hlc, hone⟩ := st.sim.owned hb how hl
                      have had := hat (.inr rfl)
                      rw [hx0, Nat.add_zero] at had
                      have hcs : len * ii.size + k * ii.size ≤ c.size := by
                        rcases hroom _ _ hrm with h5 | h5
                        · rw [hbs] at h5
                          have h6 : (len + k) * ii.size ≤ cap * ii.size := Nat.mul_le_mul_right _ hfit
                          rw [Nat.add_mul] at h6; omega
                        · exact absurd rfl h5.2
                      have hst := run_storeCells_at P l.b (len * ii.size) ce new 0 c w hc (by omega) (hnv.ones hx1)
                      simp only [Nat.add_zero] at hst
                      have hvn : VRels μ (b.cells ++ ys) ((c.toList.take (len * ii.size) ++ new ++ c.toList.drop (len * ii.size + new.length)).toArray.toList.take (b.cells ++ ys).length) := by
                        simp only
                        rw [List.take_append_of_le_length (by simp; omega), List.take_of_length_le (by simp; omega)]
                        rw [hbl2] at hrel
                        exact hrel.append hnv
                      obtain ⟨s1, tr1⟩ := st.sim.write hb how hl (c' := (c.toList.take (len * ii.size) ++ new ++ c.toList.drop (len * ii.size + new.length)).toArray) (vs := b.cells ++ ys) hc (by simp; omega) hvn
                        (fun v hv => (List.mem_append.1 hv).elim (hone v) (hx1 v)) rfl
                      obtain ⟨m, hm, hHm⟩ := s1.freshName
                      obtain ⟨s2, tr2⟩ := s1.rename (n := nm) (m := m) (upd_same _ _ _) rfl hl hm
                      have hmn : m ≠ nm := fun e => by subst e; rw [upd_same] at hHm; cases hHm
                      have hHm' : H m = none := by rwa [upd_ne _ _ _ _ hmn] at hHm
                      have hheap : Heap.upd (Heap.upd (Heap.upd H nm (some ⟨true, b.sz, b.cells ++ ys⟩)) nm none) m (some ⟨true, b.sz, b.cells ++ ys⟩) = (H.upd nm none).upd m (some ⟨true, ii.size, b.cells ++ ys⟩) := by
                        funext j; simp only [Heap.upd, hbs]
                        by_cases h1 : j = m <;> by_cases h2 : j = nm <;> simp [h1, h2]
                      rw [hheap] at s2 tr2
                      rw [hse] at hrun
                      have hap := run_append_room (P := P) (ts := #[t, u]) (ty := o.type) rfl (elemT_some he) (elemT_some hu) i1 w (base := some ad) (base' := xb) (len := len) (cap := cap) (k := k) (cap' := xc) hfit (hnew w rfl)
                        (w' := w.setRow l.b (c.toList.take (len * ii.size) ++ new ++ c.toList.drop (len * ii.size + new.length)).toArray)
                        (fun ad' e => by obtain rfl := Option.some.inj e; rw [had, addr_add, Nat.zero_add]; exact hst) (fun e => by cases e)
                      refine sound_value (hrun hap) ⟨_, .sl m 0 (len + k) false, _, _, tr1.trans tr2, s2, ?_, rfl, h m hHm'⟩
                      simp only [VRel]
                      refine ⟨l, ad, cap, Map.set_same _ _ _, rfl, hfit, fun h => (by cases h), hbl, fun _ => ?_, fun s' c' hs' => ?_⟩
                      · rw [had, hx0]
                      · rcases hroom s' c' hs' with h5 | h5
                        · exact .inl h5
                        · exact absurd rfl h5.2
                    · refine hgrow (by omega) (by omega) _ h (fun m hm => ?_)
                      have : (b.cells.drop 0).take (len * ii.size) = b.cells := by rw [List.drop_zero, List.take_of_length_le (by omega)]
                      rw [this]
                      exact Heap.sub_upd_none hm (by rw [hb]; simp)
                · exact h.elim
              · exact h.elim
          · exact h.elim
        · cases hi
      · cases hi
    · cases hi
  · cases hi

end
end Go.AM

/- Copies and calls, and every instruction together. Conditions: as stated. -/
set_option linter.unusedVariables false
set_option linter.unusedSimpArgs false
namespace Go.AM
open Go

theorem VRels.take_len {μ : Map} {vs : List V} {xs : List Value} (h : VRels μ vs xs) (k : Nat) : VRels μ (vs.take k) (xs.take k) := h.take k

section
variable {P : Program} {n : Nat} {ops : Array Oper} {o : Oper} {μ : Map} {env : Env} {H : Heap} {a : Act} {w : World} {Q : Exit → Act → World → Prop} {K : V → Heap → Prop}

theorem sound_cpy {c : Call} {i : I} (ho : o.op = .call c) (hcal : c.callee = .builtin .copy) (hi : cvCpy P n c.args.toList c.argTypes.toList = some i) (st : St n μ env H a w) (h : iwp P i K env H) : o.wp P a w (Post μ H w a o K) Q := by
  obtain ⟨callee, args, argTypes⟩ := c
  simp only at hcal hi
  subst hcal
  unfold cvCpy at hi
  split at hi
  · rename_i dd s t u e1 e2
    split at hi
    · rename_i e e' dv sv he hu hd hs
      split at hi
      · rename_i sz bytes hsz
        split at hi
        · rename_i hc0
          obtain rfl := Option.some.inj hi
          have ea : args = #[dd, s] := by rw [← Array.toArray_toList (xs := args), e1]
          have et : argTypes = #[t, u] := by rw [← Array.toArray_toList (xs := argTypes), e2]
          subst ea; subst et
          obtain ⟨ii, d, i1, i2, i3, i4⟩ := szT_some hsz
          subst i3
          have rd := cvO_sound hd st
          have rs := cvO_sound hs st
          simp only [iwp] at h
          split at h
          · rename_i ys nm off len full hys e
            split at h
            · rename_i b hb
              obtain ⟨how, hle, h⟩ := h
              rw [e] at rd; simp only [VRel] at rd
              obtain ⟨l, ad, cap, hl, hde, hcap, hful, hbl, hat, hroom⟩ := rd
              obtain ⟨hyl, ⟨new, hnew, hnv⟩, hx1, xb, xc, hxe⟩ := cellsAt_run (P := P) st.sim rs hys (k := min (lenV (sv.ev env)) len) (Nat.min_le_left _ _)
              rw [hxe] at hnew
              generalize hk : lenV (sv.ev env) = k at *
              have hl1 : (ys.take (min k len * ii.size)).length = min k len * ii.size := by
                rw [List.length_take, hyl]
                have : min k len * ii.size ≤ k * ii.size := Nat.mul_le_mul_right _ (Nat.min_le_left _ _)
                omega
              have hl2 : min k len * ii.size ≤ len * ii.size := Nat.mul_le_mul_right _ (Nat.min_le_right _ _)
              obtain ⟨w', hst, tr, sm⟩ := write_owned (P := P) st.sim hb how hl (off := off) hnv (fun v hv => hx1 v (List.mem_of_mem_take hv)) (by omega)
              have hst' : (storeCells ad new).run P w = .ok () w' := by
                by_cases h0 : len = 0
                · have : new = [] := by
                    have h5 := hnv.length
                    rw [hl1, h0, Nat.min_zero, Nat.zero_mul] at h5
                    exact List.length_eq_zero_iff.1 h5.symm
                  subst this
                  simp only [storeCells, Sem.run_pure] at hst ⊢
                  exact hst
                · rw [hat (.inl h0)]; exact hst
              have hrun : (execOp a.eval o).run P w = .ok (.value (goInt (min k len : Nat))) w' := by
                have hn := hnew w rfl
                have hmin : Nat.min k len = min k len := rfl
                simp [execOp, ho, resolve, invoke, builtin, Builtin.copy_, run_underlying (elemT_some he), hde, hxe, Builtin.lenOf, run_sizeT i1, hmin, hn, hst']
              refine sound_value hrun ⟨μ, _, _, _, tr, sm, ?_, rfl, h⟩
              simp only [VRel, goInt]
              congr 1; omega
            · exact h.elim
          · rename_i ys hys e
            rw [e] at rd; simp only [VRel] at rd
            obtain ⟨hyl, ⟨new, hnew, hnv⟩, hx1, xb, xc, hxe⟩ := cellsAt_run (P := P) st.sim rs hys (k := 0) (Nat.zero_le _)
            rw [hxe] at hnew
            have hrun : (execOp a.eval o).run P w = .ok (.value (goInt 0)) w := by
              have hn := hnew w rfl
              have hmin : Nat.min (lenV (sv.ev env)) 0 = 0 := Nat.min_zero _
              simp [execOp, ho, resolve, invoke, builtin, Builtin.copy_, run_underlying (elemT_some he), rd, hxe, Builtin.lenOf, run_sizeT i1, hmin, hn]
            exact sound_value hrun ⟨μ, _, _, _, Tr.refl _ _ _, st.sim, by simp [VRel, goInt], rfl, h⟩
          · exact h.elim
        · cases hi
      · cases hi
    · cases hi
  · cases hi

theorem run_callFunc {f : FuncId} (h : okFn P f = true) (args : Array Value) (w : World) : (callFunc f args).run P w = .ok (.enter f args) w := by
  unfold okFn at h
  split at h
  · rename_i fn hf
    simp only [Bool.and_eq_true, bne_iff_ne, ne_eq] at h
    have hb : fn.body.isNone = false := by
      cases e : fn.body with
      | none => simp [e] at h
      | some b => rfl
    simp only [callFunc, Sem.run_bind, run_program, Result.andThen_ok, hf]
    rw [if_neg (by simpa using h.2), hb]
    rfl
  · cases h

theorem sound_enter {f : FuncId} {cargs : Array Value} {args : List V} (hr : (execOp a.eval o).run P w = .ok (.enter f cargs) w) (st : St n μ env H a w) (hv : VRels μ args cargs.toList) (h : ACalls P f args H K) :
    o.wp P a w (Post μ H w a o K) Q := by
  unfold Oper.wp
  rw [hr]
  refine (h.2 μ w cargs st.sim hv).mono fun e w' ⟨μ', cv, v, H', he, tr, sm, rv, hk⟩ => ?_
  subst he
  exact ⟨μ', v, cv, H', tr, sm, rv, rfl, hk⟩

theorem sound_call {c : Call} {i : I} (ho : o.op = .call c) (hi : cvCall P n ops c = some i) (hnb : ∀ b, c.callee ≠ .builtin b) (st : St n μ env H a w) (h : iwp P i K env H) : o.wp P a w (Post μ H w a o K) Q := by
  obtain ⟨callee, args, argTypes⟩ := c
  unfold cvCall at hi
  cases callee with
  | builtin b => exact absurd rfl (hnb b)
  | value f =>
    simp only at hi
    split at hi
    · rename_i g xs hg hxs
      obtain rfl := Option.some.inj hi
      have rg := cvO_sound hg st
      have rxs := cvOs_sound hxs st
      simp only [iwp] at h
      split at h
      · rename_i fn caps e
        rw [e] at rg; simp only [VRel] at rg
        obtain ⟨cs, hf, rcs⟩ := rg
        refine sound_enter (cargs := args.map a.eval ++ cs) ?_ st (by simpa using rxs.append rcs) h
        simp [execOp, ho, resolve, hf, Deferred.ofValue, invoke, run_callFunc h.1]
      · exact h.elim
    · cases hi
  | invoke r name =>
    simp only at hi
    split at hi
    · rename_i x xs t hx hxs ht
      split at hi
      · rename_i f hf
        split at hi
        · rename_i hok
          obtain rfl := Option.some.inj hi
          have rx := cvO_sound hx st
          have rxs := cvOs_sound hxs st
          simp only [iwp] at h
          split at h
          · rename_i t' v e
            obtain ⟨rfl, h⟩ := h
            rw [e] at rx; simp only [VRel] at rx
            obtain ⟨y, hy, ry⟩ := rx
            refine sound_enter (cargs := #[y] ++ args.map a.eval) ?_ st ?_ h
            · have hm : ∀ fuel, (method (fuel + 1) t' y name).run P w = .ok (f, y) w := by
                intro fuel
                unfold methT at hf
                split at hf
                · rename_i i0 d hi0 hd
                  split at hf
                  · cases hf
                  · rename_i hnp
                    obtain ⟨m, hfind, hm⟩ := Option.bind_eq_some_iff.1 hf
                    unfold methOk at hm
                    split at hm
                    · rename_i f' hp hfn
                      obtain rfl := Option.some.inj hm
                      have hpe : m.path.isEmpty = true := by
                        have : m.path = #[] := by rw [← Array.toArray_toList (xs := m.path), hp]
                        rw [this]; rfl
                      simp only [method, Sem.run_bind, run_infoT hi0, Result.andThen_ok, hfind, hp, follow, Sem.run_pure, hfn, receiverAt, run_underlying hd]
                      cases d <;> first | (simp [Place.get]; done) | (exact absurd rfl hnp)
                    · cases hm
                · cases hf
              have hdep : P.types.size + Made.depth = (P.types.size + Made.depth - 1) + 1 := by
                have : 0 < Made.depth := by decide
                omega
              have hm' : (method (P.types.size + Made.depth) t' y name).run P w = .ok (f, y) w := by rw [hdep]; exact hm _
              have h0 : (#[Value.iface t' y] ++ Array.map a.eval args)[0]? = some (.iface t' y) := by simp [Array.getElem?_append]
              have hx : (Array.map a.eval args).extract 0 args.size = Array.map a.eval args := by
                apply Array.ext'
                rw [Array.toList_extract]
                simp [List.extract_eq_take_drop]
                rw [List.take_of_length_le (by simp)]
              simp [execOp, ho, resolve, invoke, hy, h0, hx, callMethod, hm', run_callFunc hok]
            · simp only [VRels, Array.toList_append, List.singleton_append]
              exact ⟨y, _, by simp, ry, rxs⟩
          · exact h.elim
        · cases hi
      · cases hi
    · cases hi

/-- EVERY INSTRUCTION DOES WHAT THE OPERATION DOES THAT IT WAS MADE FROM. -/
theorem i_sound {i : I} (hi : cvI P n ops o.op = some i) (st : St n μ env H a w) (h : iwp P i K env H) : o.wp P a w (Post μ H w a o K) Q := by
  have quiet : (∀ v, pv i env H = some v → K v H → o.wp P a w (Post μ H w a o K) Q) := fun v hv hk => by
    obtain ⟨x, hx, rx⟩ := quiet_sound hi st hv
    exact sound_value hx ⟨μ, v, x, H, Tr.refl _ _ _, st.sim, rx, rfl, hk⟩
  have byQuiet : (match pv i env H with | some v => K v H | none => False) → o.wp P a w (Post μ H w a o K) Q := fun h => by
    split at h
    · rename_i v hv; exact quiet v hv h
    · exact h.elim
  cases ho : o.op
  case box t x =>
    have hi' := hi
    rw [ho] at hi'; simp only [cvI] at hi'
    obtain ⟨y, hy, rfl⟩ := Option.map_eq_some_iff.1 hi'
    exact sound_new ho hy st h
  case alloc t =>
    have hi' := hi
    rw [ho] at hi'; simp only [cvI] at hi'
    obtain ⟨y, hy, rfl⟩ := Option.map_eq_some_iff.1 hi'
    exact sound_zero ho hy st h
  case store t x y => exact sound_st ho hi st h
  case makeSlice t l c => exact sound_mk ho hi st h
  case buildSlice t l ps => exact sound_bsl ho hi st h
  case call c =>
    have hi' := hi
    rw [ho] at hi'; simp only [cvI] at hi'
    have hi2 := hi'
    unfold cvCall at hi2
    split at hi2
    · rename_i hcal; exact sound_call ho hi' (fun b => by rw [hcal]; exact fun h => by cases h) st h
    · rename_i hcal; exact sound_call ho hi' (fun b => by rw [hcal]; exact fun h => by cases h) st h
    · refine byQuiet ?_
      unfold cvLen at hi2
      split at hi2
      · split at hi2
        · obtain rfl := Option.some.inj hi2; exact h
        · cases hi2
      · cases hi2
    · rename_i hcal; exact sound_app ho hcal hi2 st h
    · rename_i hcal; exact sound_cpy ho hcal hi2 st h
    · refine byQuiet ?_
      unfold cvMM at hi2
      split at hi2
      · split at hi2
        · obtain rfl := Option.some.inj hi2; exact h
        · cases hi2
      · cases hi2
    · refine byQuiet ?_
      unfold cvMM at hi2
      split at hi2
      · split at hi2
        · obtain rfl := Option.some.inj hi2; exact h
        · cases hi2
      · cases hi2
    · cases hi2
  case makeFunc fn first captured =>
    refine byQuiet ?_
    rw [ho] at hi
    cases fn <;> simp only [cvI] at hi <;> try cases hi
    split at hi
    · obtain rfl := Option.some.inj hi; exact h
    · cases hi
  all_goals
    refine byQuiet ?_
    rw [ho] at hi
    simp only [cvI] at hi
  all_goals first
    | (cases hi; done)
    | (obtain ⟨y, hy, rfl⟩ := Option.map_eq_some_iff.1 hi; exact h)
    | (unfold cvBin at hi
       repeat' (first | (cases hi; done) | (obtain rfl := Option.some.inj hi; exact h) | split at hi))
    | (repeat' (first | (cases hi; done) | (obtain rfl := Option.some.inj hi; exact h) | (obtain ⟨y, hy, rfl⟩ := Option.map_eq_some_iff.1 hi; exact h) | split at hi))
end
end Go.AM

/- Instructions in a row, and when two of them may change places. Conditions: as stated. -/
set_option linter.unusedVariables false
set_option linter.unusedSimpArgs false
namespace Go.AM
open Go

/-- the slots that an operand reads -/
def Opd.slots : Opd → List Nat
  | .s t => [t]
  | .c _ => []

def optSlots : Option Opd → List Nat
  | none => []
  | some x => x.slots

def I.slots : I → List Nat
  | .ld _ _ x rt => x.slots ++ (match rt with | some r => [r] | none => [])
  | .st _ a x av | .app _ _ a x av => a.slots ++ x.slots ++ av
  | .mov x | .new x | .isnil _ _ x | .un _ x | .conv _ x | .fa _ x | .fld _ _ _ x | .ext x _ | .ifc _ x | .len x | .nilchk x => x.slots
  | .pick c a b => c.slots ++ a.slots ++ b.slots
  | .zero _ | .bad => []
  | .bin _ a x | .beq _ a x | .eqs _ _ a x | .ia _ a x | .mk _ _ _ a x | .cpy _ a x | .mm _ a x => a.slots ++ x.slots
  | .sli _ x lo hi mx => x.slots ++ optSlots lo ++ optSlots hi ++ optSlots mx
  | .mkf _ xs => xs.flatMap Opd.slots
  | .agg _ ps | .bsl _ _ _ ps => ps.flatMap fun p => p.2.2.slots
  | .call f xs => f.slots ++ xs.flatMap Opd.slots
  | .inv x _ _ xs => x.slots ++ xs.flatMap Opd.slots

def Agree (l : List Nat) (env env' : Env) : Prop := ∀ t ∈ l, env t = env' t

theorem Agree.left {l l' : List Nat} {env env' : Env} (h : Agree (l ++ l') env env') : Agree l env env' := fun t ht => h t (List.mem_append_left _ ht)
theorem Agree.right {l l' : List Nat} {env env' : Env} (h : Agree (l ++ l') env env') : Agree l' env env' := fun t ht => h t (List.mem_append_right _ ht)
theorem Agree.symm {l : List Nat} {env env' : Env} (h : Agree l env env') : Agree l env' env := fun t ht => (h t ht).symm

theorem Opd.agree {x : Opd} {env env' : Env} (h : Agree x.slots env env') : x.ev env = x.ev env' := by
  cases x with
  | s t => exact h t (by simp [Opd.slots])
  | c v => rfl

theorem optAgree {x : Option Opd} {env env' : Env} (h : Agree (optSlots x) env env') : x.map (Opd.ev env) = x.map (Opd.ev env') := by
  cases x with
  | none => rfl
  | some x => simp only [Option.map_some]; rw [Opd.agree h]

theorem listAgree {xs : List Opd} {env env' : Env} (h : Agree (xs.flatMap Opd.slots) env env') : xs.map (Opd.ev env) = xs.map (Opd.ev env') :=
  List.map_congr_left fun x hx => Opd.agree fun t ht => h t (List.mem_flatMap.2 ⟨x, hx, ht⟩)

theorem partsAgree {ps : List (Nat × Nat × Opd)} {env env' : Env} (h : Agree (ps.flatMap fun p => p.2.2.slots) env env') :
    (ps.map fun p => (p.1, p.2.1, p.2.2.ev env)) = ps.map fun p => (p.1, p.2.1, p.2.2.ev env') :=
  List.map_congr_left fun p hp => by rw [Opd.agree (x := p.2.2) fun t ht => h t (List.mem_flatMap.2 ⟨p, hp, ht⟩)]

theorem pv_agree {i : I} {env env' : Env} (H : Heap) (h : Agree i.slots env env') : pv i env H = pv i env' H := by
  cases i <;> simp only [pv, I.slots] at h ⊢
  case pick c a b => rw [Opd.agree h.left.left, Opd.agree h.left.right, Opd.agree h.right]
  case ld agg sz x rt =>
    rw [Opd.agree h.left]
    cases rt with
    | none => rfl
    | some r => simp only; rw [h.right r (by simp)]
  case sli sz x lo hi mx => rw [Opd.agree h.left.left.left, optAgree h.left.left.right, optAgree h.left.right, optAgree h.right]
  case mkf f xs => rw [listAgree h]
  case agg zs ps => rw [partsAgree h]
  all_goals first
    | rfl
    | rw [Opd.agree h]
    | rw [Opd.agree h.left, Opd.agree h.right]

theorem offAll_agree {env env' : Env} {n : Nat} : ∀ {av : List Nat}, Agree av env env' → (offAll env n av ↔ offAll env' n av)
  | [], _ => Iff.rfl
  | s :: r, h => by
    simp only [offAll]
    rw [h s (by simp), offAll_agree (av := r) fun t ht => h t (by simp [ht])]

theorem iwp_agree {P : Program} {i : I} {K : V → Heap → Prop} {env env' : Env} {H : Heap} (h : Agree i.slots env env') (hi : iwp P i K env H) : iwp P i K env' H := by
  have hp := pv_agree H h
  cases i
  case new x => simp only [iwp, I.slots] at h hi ⊢; rw [← Opd.agree h]; exact hi
  case zero zs => exact hi
  case st sz a x av =>
    simp only [iwp, I.slots] at h hi ⊢
    rw [← Opd.agree h.left.left, ← Opd.agree h.left.right]
    split
    · split
      · rename_i e1 _ _ e2
        rw [e1] at hi; simp only [e2] at hi
        exact ⟨(offAll_agree h.right).1 hi.1, hi.2⟩
      · rename_i e1 _ e2
        rw [e1] at hi; simp only [e2] at hi
    · rename_i hno
      split at hi
      · rename_i n o e; exact absurd e (hno n o)
      · exact hi
  case mk sz b zs l c => simp only [iwp, I.slots] at h hi ⊢; rw [← Opd.agree h.left, ← Opd.agree h.right]; exact hi
  case bsl sz len zs ps => simp only [iwp, I.slots] at h hi ⊢; rw [← partsAgree h]; exact hi
  case app sz b s x av =>
    simp only [iwp, I.slots] at h hi ⊢
    rw [← Opd.agree h.left.left, ← Opd.agree h.left.right]
    have ho := fun n => offAll_agree (n := n) h.right
    simp only [ho] at hi
    exact hi
  case cpy sz d s => simp only [iwp, I.slots] at h hi ⊢; rw [← Opd.agree h.left, ← Opd.agree h.right]; exact hi
  case call f xs => simp only [iwp, I.slots] at h hi ⊢; rw [← Opd.agree h.left, ← listAgree h.right]; exact hi
  case inv x t f xs => simp only [iwp, I.slots] at h hi ⊢; rw [← Opd.agree h.left, ← listAgree h.right]; exact hi
  all_goals (simp only [iwp] at hi ⊢; rw [← hp]; exact hi)

/-- 0: reads no memory; 1: reads memory; 2: a call; 3: makes memory; 4: the rest -/
def I.kind : I → Nat
  | .mov _ | .pick .. | .bin .. | .beq .. | .isnil .. | .eqs .. | .un .. | .conv .. | .fa .. | .fld .. | .ia .. | .ext .. | .ifc .. | .mkf .. | .agg .. | .len _ | .mm .. | .nilchk _ => 0
  | .ld .. | .sli .. => 1
  | .call .. | .inv .. => 2
  | .new _ | .zero _ | .mk .. | .bsl .. => 3
  | .st .. | .app .. | .cpy .. | .bad => 4

theorem iwp_quiet {P : Program} {i : I} (hk : i.kind ≤ 1) {K : V → Heap → Prop} {env : Env} {H : Heap} : iwp P i K env H ↔ ∃ v, pv i env H = some v ∧ K v H := by
  have key : iwp P i K env H ↔ (match pv i env H with | some v => K v H | none => False) := by
    cases i <;> first | exact Iff.rfl | (exfalso; simp [I.kind] at hk)
  rw [key]
  cases pv i env H <;> simp

theorem pv_heap {i : I} (hk : i.kind = 0) (env : Env) (H H' : Heap) : pv i env H = pv i env H' := by
  cases i <;> first | rfl | (exfalso; simp [I.kind] at hk)

theorem pv_sub {i : I} (hk : i.kind ≤ 1) {env : Env} {H H' : Heap} (hs : Heap.sub H H') {v : V} (h : pv i env H = some v) : pv i env H' = some v := by
  by_cases h0 : i.kind = 0
  · rw [← pv_heap h0 env H H']; exact h
  · cases i <;> simp only [I.kind] at hk h0 <;> first | omega | exact absurd trivial h0 | skip
    case ld agg sz x rt =>
      have key : ∀ u, ldV H agg sz u = some v → ldV H' agg sz u = some v := by
        intro u h
        simp only [ldV] at h ⊢
        split at h
        · rename_i n o
          split at h
          · rename_i b hb
            simp only [hs _ _ hb]; exact h
          · cases h
        · cases h
      simp only [pv] at h ⊢
      split at h
      · exact key _ h
      · split at h
        · rename_i hsn; rw [if_pos hsn]; exact key _ h
        · cases h
    case sli sz x lo hi mx =>
      simp only [pv, sliV] at h ⊢
      split at h
      · exact h
      · rename_i n o len full e
        cases hb : H n with
        | none => rw [hb] at h; simp at h
        | some b => rw [hs _ _ hb]; rw [hb] at h; exact h
      · cases h

/-- what a making instruction makes -/
def made (i : I) (env : Env) : Option ((Nat → V) × Blk) :=
  match i with
  | .new x => some (fun n => .ptr n 0, ⟨true, 1, (x.ev env).cells⟩)
  | .zero zs => some (fun n => .ptr n 0, ⟨true, 1, zs⟩)
  | .mk sz bytes zs l c => match l.ev env, c.ev env with
    | .int _ len, .int _ cap => if 0 ≤ len ∧ len ≤ cap ∧ cap * bytes ≤ 281474976710656 ∧ cap ≤ 281474976710656 then
      some (fun n => .sl n 0 len.toNat (len == cap), ⟨true, sz, (List.replicate len.toNat zs).flatten⟩) else none
    | _, _ => none
  | .bsl sz len zs parts => match fillV zs (parts.map fun p => (p.1, p.2.1, p.2.2.ev env)) with
    | some cs => some (fun n => .sl n 0 len true, ⟨true, sz, cs⟩)
    | none => none
  | _ => none

theorem iwp_made {P : Program} {i : I} (hk : i.kind = 3) {K : V → Heap → Prop} {env : Env} {H : Heap} : iwp P i K env H ↔ ∃ f b, made i env = some (f, b) ∧ ∀ n, H n = none → K (f n) (H.upd n (some b)) := by
  cases i <;> simp only [I.kind] at hk <;> first | omega | skip
  case new x => exact ⟨fun h => ⟨_, _, rfl, h⟩, fun ⟨_, _, e, h⟩ => by obtain ⟨rfl, rfl⟩ := Prod.mk.inj (Option.some.inj e); exact h⟩
  case zero zs => exact ⟨fun h => ⟨_, _, rfl, h⟩, fun ⟨_, _, e, h⟩ => by obtain ⟨rfl, rfl⟩ := Prod.mk.inj (Option.some.inj e); exact h⟩
  case mk sz bytes zs l c =>
    simp only [iwp, made]
    split
    · rename_i k1 len k2 cap e1 e2
      rw [e1, e2]
      simp only
      by_cases hc : 0 ≤ len ∧ len ≤ cap ∧ cap * (bytes : Int) ≤ 281474976710656 ∧ cap ≤ 281474976710656
      · rw [if_pos hc]
        exact ⟨fun h => ⟨_, _, rfl, h.2.2.2.2⟩, fun ⟨_, _, e, h⟩ => by obtain ⟨rfl, rfl⟩ := Prod.mk.inj (Option.some.inj e); exact ⟨hc.1, hc.2.1, hc.2.2.1, hc.2.2.2, h⟩⟩
      · rw [if_neg hc]
        exact ⟨fun ⟨a, b, c, d, _⟩ => absurd ⟨a, b, c, d⟩ hc, fun ⟨_, _, e, _⟩ => by cases e⟩
    · rename_i hno
      refine ⟨False.elim, fun ⟨_, _, e, _⟩ => ?_⟩
      split at e
      · rename_i e1 e2; exact hno _ _ _ _ e1 e2
      · cases e
  case bsl sz len zs parts =>
    simp only [iwp, made]
    cases fillV zs (parts.map fun p => (p.1, p.2.1, p.2.2.ev env)) with
    | some cs => exact ⟨fun h => ⟨_, _, rfl, h⟩, fun ⟨_, _, e, h⟩ => by obtain ⟨rfl, rfl⟩ := Prod.mk.inj (Option.some.inj e); exact h⟩
    | none => exact ⟨False.elim, fun ⟨_, _, e, _⟩ => by cases e⟩

theorem made_agree {i : I} {env env' : Env} (h : Agree i.slots env env') : made i env = made i env' := by
  cases i
  case new x => simp only [made, I.slots] at h ⊢; rw [Opd.agree h]
  case mk sz b zs l c => simp only [made, I.slots] at h ⊢; rw [Opd.agree h.left, Opd.agree h.right]
  case bsl sz len zs ps => simp only [made, I.slots] at h ⊢; rw [partsAgree h]
  all_goals rfl

theorem Heap.sub_upd {H : Heap} {n : Nat} {b : Option Blk} (hn : H n = none) : Heap.sub H (H.upd n b) := fun m c hm => by
  by_cases h : m = n
  · subst h; rw [hn] at hm; cases hm
  · rw [upd_ne _ _ _ _ h]; exact hm

/-! ### the frame of a contract -/

theorem ACalls.frame {P f args H R} (h : ACalls P f args H R) {n : Nat} (hn : H n = none) (b : Blk) :
    ACalls P f args (H.upd n (some b)) (fun v H' => ∃ H1, R v H1 ∧ H1 n = none ∧ H' = H1.upd n (some b)) := by
  refine ⟨h.1, fun μ w cargs hs hv => ?_⟩
  have hsub : Heap.sub H (H.upd n (some b)) := Heap.sub_upd hn
  have hs0 := hs.sub hsub
  obtain ⟨l, hl, hbe⟩ := hs.bears n b (upd_same _ _ _)
  refine (h.2 μ w cargs hs0 hv).mono fun e w' ⟨μ', cv, v, H1, he, tr, sm, rv, hr⟩ => ?_
  have hl' : μ' n = some l := tr.le _ _ hl
  have hn1 : H1 n = none := by
    cases e1 : H1 n with
    | none => rfl
    | some c => rw [tr.fresh n hn (by rw [e1]; simp)] at hl; cases hl
  have hno : (b.own = true ∨ b.cells ≠ []) → ¬ Owns μ H l.b := by
    rintro hf ⟨m, blk, lm, hm, ho, hlm, hb⟩
    have hmn : m ≠ n := fun e => by subst e; rw [hn] at hm; cases hm
    exact hs.apart m blk n b lm l (by rw [upd_ne _ _ _ _ hmn]; exact hm) ho (upd_same _ _ _) hf hmn hlm hl hb.symm
  have hbe' : Bears μ' w' b l := hbe.keepAll tr.le fun hf => tr.frame l.b (hbe.lt hf) (hno hf)
  have hsub1 : Heap.sub H1 (H1.upd n (some b)) := Heap.sub_upd hn1
  have hget : ∀ m, m ≠ n → Heap.upd H1 n (some b) m = H1 m := fun m hm => upd_ne _ _ _ _ hm
  refine ⟨μ', cv, v, H1.upd n (some b), he, ?_, ?_, rv, H1, hr, hn1, rfl⟩
  · refine ⟨tr.le, tr.size, tr.os, tr.tape, tr.output, fun c hc ho => tr.frame c hc fun h => ho (h.sub hsub), fun c hc => ?_, fun m hm hm' => ?_, fun m c hm hc => ?_⟩
    · obtain ⟨m, blk, lm, hm, ho, hlm, hb⟩ := hc
      by_cases hmn : m = n
      · subst hmn
        rw [upd_same] at hm
        obtain rfl := Option.some.inj hm
        rw [hl'] at hlm
        obtain rfl := Option.some.inj hlm
        exact .inr ⟨m, b, l, upd_same _ _ _, ho, hl, hb⟩
      · rw [hget m hmn] at hm
        rcases tr.own c ⟨m, blk, lm, hm, ho, hlm, hb⟩ with h | h
        · exact .inl h
        · exact .inr (h.sub hsub)
    · have hmn : m ≠ n := fun e => by subst e; rw [upd_same] at hm; cases hm
      rw [upd_ne _ _ _ _ hmn] at hm
      rw [hget m hmn] at hm'
      exact tr.fresh m hm hm'
    · by_cases hmn : m = n
      · subst hmn; rw [upd_same] at hm ⊢; exact hm
      · rw [hget m hmn] at hm
        rw [upd_ne _ _ _ _ hmn]
        exact tr.kept m c hm hc
  · refine ⟨fun m blk hm => ?_, fun m blk m' blk' lm lm' hm ho hm' hf hne hlm hlm' => ?_, sm.bound⟩
    · by_cases hmn : m = n
      · subst hmn
        rw [upd_same] at hm
        obtain rfl := Option.some.inj hm
        exact ⟨l, hl', hbe'⟩
      · rw [hget m hmn] at hm; exact sm.bears m blk hm
    · by_cases hmn : m = n
      · subst hmn
        rw [upd_same] at hm
        obtain rfl := Option.some.inj hm
        rw [hl'] at hlm
        obtain rfl := Option.some.inj hlm
        rw [hget m' (Ne.symm hne)] at hm'
        have hblt : l.b < w.heap.size := hbe.lt (.inl ho)
        cases ho' : blk'.own with
        | true =>
          intro hbb
          rcases tr.own lm'.b ⟨m', blk', lm', hm', ho', hlm', rfl⟩ with h | h
          · omega
          · rw [hbb] at h; exact hno (.inl ho) h
        | false =>
          have hk := tr.kept m' blk' hm' ho'
          obtain ⟨l2, hl2, _⟩ := hs0.bears m' blk' hk
          have : μ' m' = some l2 := tr.le _ _ hl2
          rw [hlm'] at this
          obtain rfl := Option.some.inj this
          exact hs.apart m b m' blk' l lm' (upd_same _ _ _) ho (by rw [upd_ne _ _ _ _ (Ne.symm hne)]; exact hk) hf hne hl hl2
      · rw [hget m hmn] at hm
        by_cases hmn' : m' = n
        · subst hmn'
          rw [upd_same] at hm'
          obtain rfl := Option.some.inj hm'
          rw [hl'] at hlm'
          obtain rfl := Option.some.inj hlm'
          intro hbb
          rcases tr.own lm.b ⟨m, blk, lm, hm, ho, hlm, rfl⟩ with h | h
          · have := hbe.lt hf; omega
          · rw [← hbb] at h; exact hno hf h
        · rw [hget m' hmn'] at hm'
          exact sm.apart m blk m' blk' lm lm' hm ho hm' hf hne hlm hlm'

end Go.AM
