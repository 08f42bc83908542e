/- The frame of a contract for a part of the heap; tables whose items hold on to data of their own. Conditions: none. -/
import Derived.Test.YtopeeknimehmcaaT0
set_option linter.unusedVariables false
set_option linter.unusedSimpArgs false
namespace Go.AM
open Go

theorem sl_name {n n' o o' l l' : Nat} {f f' : Bool} {u : Option V} (h : u = some (V.sl n o l f)) (h' : u = some (V.sl n' o' l' f')) : n = n' := by
  rw [h] at h'; injection h' with h'; injection h'
/-- the heap G2 where G was, H elsewhere -/
def Heap.over (H G G2 : Heap) : Heap := fun n => match G n with
  | some _ => G2 n
  | none => match H n with
    | some b => some b
    | none => G2 n
theorem over_frame {H G G2 : Heap} {n : Nat} {b : Blk} (h : G n = none) (h2 : H n = some b) : Heap.over H G G2 n = some b := by simp [Heap.over, h, h2]
theorem over_in {H G G2 : Heap} {n : Nat} (h : G n = none → H n = none) : Heap.over H G G2 n = G2 n := by
  unfold Heap.over
  cases e : G n with
  | some _ => rfl
  | none => simp [h e]

theorem ACalls.frameSub {P f args G R} (h : ACalls P f args G R) {H : Heap} (hsub : Heap.sub G H) :
    ACalls P f args H (fun v H' => ∃ G2, R v G2 ∧ (∀ n b, G n = none → H n = some b → G2 n = none) ∧ H' = Heap.over H G G2) := by
  refine ⟨h.1, fun μ w cargs hs hv => ?_⟩
  have hs0 := hs.sub hsub
  refine (h.2 μ w cargs hs0 hv).mono fun e w' ⟨μ', cv, v, G2, he, tr, sm, rv, hr⟩ => ?_
  have hn1 : ∀ n b, G n = none → H n = some b → G2 n = none := fun n b hn hb => by
    cases e1 : G2 n with
    | none => rfl
    | some c =>
      obtain ⟨l, hl, _⟩ := hs.bears n b hb
      rw [tr.fresh n hn (by rw [e1]; simp)] at hl; cases hl
  have hno : ∀ n b l, G n = none → H n = some b → μ n = some l → (b.own = true ∨ b.cells ≠ []) → ¬ Owns μ G l.b := by
    rintro n b l hn hb hl hf ⟨m, blk, lm, hm, ho, hlm, hbb⟩
    have hmn : m ≠ n := fun e => by subst e; rw [hn] at hm; cases hm
    exact hs.apart m blk n b lm l (hsub m blk hm) ho hb hf hmn hlm hl hbb.symm
  have hcase : ∀ m c, Heap.over H G G2 m = some c → (G m = none ∧ H m = some c) ∨ ((G m = none → H m = none) ∧ G2 m = some c) := by
    intro m c hm
    cases e : G m with
    | some g =>
      refine .inr ⟨fun h => by (cases h), ?_⟩
      rw [over_in (fun h => by rw [e] at h; cases h)] at hm; exact hm
    | none =>
      cases e2 : H m with
      | some b => rw [over_frame e e2] at hm; exact .inl ⟨rfl, hm⟩
      | none => rw [over_in (fun _ => e2)] at hm; exact .inr ⟨fun _ => rfl, hm⟩
  refine ⟨μ', cv, v, Heap.over H G G2, he, ?_, ?_, rv, G2, hr, hn1, rfl⟩
  · refine ⟨tr.le, tr.size, tr.os, tr.tape, tr.output, fun c hc ho => tr.frame c hc fun h => ho (h.sub hsub), fun c hc => ?_, fun m hm hm' => ?_, fun m c hm hc => ?_⟩
    · obtain ⟨m, blk, lm, hm, ho, hlm, hb⟩ := hc
      rcases hcase m blk hm with ⟨h1, h2⟩ | ⟨_, h2⟩
      · obtain ⟨l, hl, _⟩ := hs.bears m blk h2
        have := tr.le _ _ hl
        rw [this] at hlm
        obtain rfl := Option.some.inj hlm
        exact .inr ⟨m, blk, l, h2, ho, hl, hb⟩
      · rcases tr.own c ⟨m, blk, lm, h2, ho, hlm, hb⟩ with h | h
        · exact .inl h
        · exact .inr (h.sub hsub)
    · have hg : G m = none := hsub.none' hm
      rw [over_in (fun _ => hm)] at hm'
      exact tr.fresh m hg hm'
    · rcases hcase m c hm with ⟨h1, h2⟩ | ⟨_, h2⟩
      · exact h2
      · exact hsub m c (tr.kept m c h2 hc)
  · refine ⟨fun m blk hm => ?_, fun m blk m' blk' lm lm' hm ho hm' hf hne hlm hlm' => ?_, sm.bound⟩
    · rcases hcase m blk hm with ⟨h1, h2⟩ | ⟨_, h2⟩
      · obtain ⟨l, hl, hbe⟩ := hs.bears m blk h2
        exact ⟨l, tr.le _ _ hl, hbe.keepAll tr.le fun hf => tr.frame l.b (hbe.lt hf) (hno m blk l h1 h2 hl hf)⟩
      · exact sm.bears m blk h2
    · rcases hcase m blk hm with ⟨h1, h2⟩ | ⟨_, h2⟩
      · obtain ⟨l, hl, hbe⟩ := hs.bears m blk h2
        have e1 := tr.le _ _ hl
        rw [e1] at hlm
        obtain rfl := Option.some.inj hlm
        have hblt : l.b < w.heap.size := hbe.lt (.inl ho)
        rcases hcase m' blk' hm' with ⟨k1, k2⟩ | ⟨_, k2⟩
        · obtain ⟨l', hl', hbe'⟩ := hs.bears m' blk' k2
          have e2 := tr.le _ _ hl'
          rw [e2] at hlm'
          obtain rfl := Option.some.inj hlm'
          exact hs.apart m blk m' blk' l l' h2 ho k2 hf hne hl hl'
        · cases ho' : blk'.own with
          | true =>
            intro hbb
            rcases tr.own lm'.b ⟨m', blk', lm', k2, ho', hlm', rfl⟩ with h | h
            · omega
            · rw [hbb] at h; exact hno m blk l h1 h2 hl (.inl ho) h
          | false =>
            have hk := tr.kept m' blk' k2 ho'
            obtain ⟨l2, hl2, _⟩ := hs0.bears m' blk' hk
            have : μ' m' = some l2 := tr.le _ _ hl2
            rw [hlm'] at this
            obtain rfl := Option.some.inj this
            exact hs.apart m blk m' blk' l lm' h2 ho (hsub _ _ hk) hf hne hl hl2
      · rcases hcase m' blk' hm' with ⟨k1, k2⟩ | ⟨_, k2⟩
        · obtain ⟨l', hl', hbe'⟩ := hs.bears m' blk' k2
          have e2 := tr.le _ _ hl'
          rw [e2] at hlm'
          obtain rfl := Option.some.inj hlm'
          intro hbb
          rcases tr.own lm.b ⟨m, blk, lm, h2, ho, hlm, rfl⟩ with h | h
          · have := hbe'.lt hf; omega
          · rw [← hbb] at h; exact hno m' blk' l' k1 k2 hl' hf h
        · exact sm.apart m blk m' blk' lm lm' h2 ho k2 hf hne hlm hlm'

/-- a callee that adds to the part G of the heap -/
theorem ACalls.growIn {P : Program} {f : FuncId} {args : List V} {G H : Heap} {R : V → Heap → Prop} (h : ACalls P f args G fun v G' => Heap.sub G G' ∧ R v G') (hs : Heap.sub G H) :
    ACalls P f args H fun v H' => Heap.sub H H' ∧ ∃ G', Heap.sub G G' ∧ Heap.sub G' H' ∧ (∀ n, G n = none → H n ≠ none → G' n = none) ∧ R v G' := by
  refine (h.frameSub hs).mono ?_
  rintro v H' ⟨G2, ⟨h1, h2⟩, h3, rfl⟩
  refine ⟨fun n b hb => ?_, G2, h1, fun n b hb => ?_, fun n h0 hn => ?_, h2⟩
  · cases e : G n with
    | none => exact over_frame e hb
    | some c =>
      rw [over_in (fun h => by rw [e] at h; cases h)]
      have := hs n c e
      rw [hb] at this
      cases this
      exact h1 n b e
  · by_cases e : G n = none → H n = none
    · rw [over_in e]; exact hb
    · have e1 : G n = none := by
        cases e1 : G n with
        | none => rfl
        | some c => exact absurd (fun h => by rw [e1] at h; cases h) e
      have e2 : ∃ c, H n = some c := by
        cases e2 : H n with
        | none => exact absurd (fun _ => e2) e
        | some c => exact ⟨c, rfl⟩
      obtain ⟨c, e2⟩ := e2
      rw [h3 n c e1 e2] at hb; cases hb
  · cases e2 : H n with
    | none => exact absurd e2 hn
    | some c => exact h3 n c h0 e2
theorem callC_in {P : Program} {g : FuncId} {caps args : List V} {keep : Bool} {d : Option Nat} {K : Env → Heap → Prop} {env : Env} {G H : Heap} {R : V → Heap → Prop} (h : ACalls P g (args ++ caps) G fun v G' => Heap.sub G G' ∧ R v G') (hs : Heap.sub G H)
    (hk : ∀ v H' G', Heap.sub H H' → Heap.sub G G' → Heap.sub G' H' → (∀ n, G n = none → H n ≠ none → G' n = none) → R v G' → K (env.put d v) H') : callC P (.fn g caps) args keep d K env H :=
  callC_grow (h.growIn hs) fun v H' hs' ⟨G', a, b, c, r⟩ => hk v H' G' hs' a b c r
theorem invC_in {P : Program} {g : FuncId} {t : TypeId} {x : V} {args : List V} {keep : Bool} {d : Option Nat} {K : Env → Heap → Prop} {env : Env} {G H : Heap} {R : V → Heap → Prop} (h : ACalls P g (x :: args) G fun v G' => Heap.sub G G' ∧ R v G') (hs : Heap.sub G H)
    (hk : ∀ v H' G', Heap.sub H H' → Heap.sub G G' → Heap.sub G' H' → (∀ n, G n = none → H n ≠ none → G' n = none) → R v G' → K (env.put d v) H') : invC P (.ifc t x) t g args keep d K env H :=
  invC_grow (h.growIn hs) fun v H' hs' ⟨G', a, b, c, r⟩ => hk v H' G' hs' a b c r

/-- a table (its rows lie outside G) and its items, of which each holds on to data in G -/
structure VTab (H0 G H : Heap) (N : Nat) (f : Bool) (us : List V) (T : List (List V)) (Q : Nat → Nat → Heap → V → Prop) : Prop where
  tab : Tab H0 H N f us T
  g0 : Heap.sub H0 G
  gh : Heap.sub G H
  gN : G N = none
  gr : ∀ (i n l : Nat), us[i]? = some (V.sl n 0 l f) → G n = none
  rep : ∀ i j, (h : i < T.length) → (h' : j < T[i].length) → Q i j G T[i][j]

theorem VTab.grow {H0 G H H' : Heap} {N : Nat} {f : Bool} {us : List V} {T : List (List V)} {Q : Nat → Nat → Heap → V → Prop} (t : VTab H0 G H N f us T Q) (hs : Heap.sub H H') : VTab H0 G H' N f us T Q :=
  ⟨t.tab.grow hs, t.g0, t.gh.trans' hs, t.gN, t.gr, t.rep⟩
theorem VTab.call {H0 G H G' H' : Heap} {N : Nat} {f : Bool} {us : List V} {T : List (List V)} {Q : Nat → Nat → Heap → V → Prop} (t : VTab H0 G H N f us T Q) (hq : ∀ i j v, Q i j G v → Q i j G' v) (hs : Heap.sub H H') (h1 : Heap.sub G G') (h2 : Heap.sub G' H') (h3 : ∀ n, G n = none → H n ≠ none → G' n = none) : VTab H0 G' H' N f us T Q := by
  refine ⟨t.tab.grow hs, t.g0.trans' h1, h2, h3 N t.gN (by rw [t.tab.outer]; simp), fun i n l hu => ?_, fun i j h h' => hq i j _ (t.rep i j h h')⟩
  refine h3 n (t.gr i n l hu) ?_
  have hi : i < T.length := by rw [← t.tab.len]; exact (List.getElem?_eq_some_iff.1 hu).1
  rcases t.tab.row i hi with ⟨a, _⟩ | ⟨m, a, b, _⟩
  · rw [hu] at a; cases a
  · rw [hu] at a
    have : n = m := by injection a with a; injection a
    subst this
    rw [b]; simp
theorem VTab.set {H0 G H H' : Heap} {N : Nat} {f : Bool} {us : List V} {T : List (List V)} {Q Q' : Nat → Nat → Heap → V → Prop} (t : VTab H0 G H N f us T Q) {i j n : Nat} {v : V} (h : i < T.length) (hu : us[i]? = some (.sl n 0 T[i].length f)) (hj : j < T[i].length)
    (h1 : H' n = some ⟨true, 1, T[i].set j v⟩) (h2 : ∀ m, m ≠ n → H' m = H m) (hv : Q' i j G v) (hq : ∀ i' j' w, ¬ (i' = i ∧ j' = j) → Q i' j' G w → Q' i' j' G w) : VTab H0 G H' N f us (T.set i (T[i].set j v)) Q' := by
  refine ⟨t.tab.set h hu hj h1 h2, t.g0, fun m b hb => ?_, t.gN, t.gr, fun i' j' a b => ?_⟩
  · have : m ≠ n := by rintro rfl; rw [t.gr _ _ _ hu] at hb; cases hb
    rw [h2 m this]; exact t.gh m b hb
  · rw [List.length_set] at a
    by_cases e : i = i'
    · subst e
      simp only [List.getElem_set_self, List.length_set] at b ⊢
      by_cases e2 : j = j'
      · subst e2
        simp only [List.getElem_set_self]; exact hv
      · rw [List.getElem_set_ne e2]
        exact hq _ _ _ (fun h => e2 h.2.symm) (t.rep _ _ _ _)
    · simp only [List.getElem_set_ne e] at b ⊢
      exact hq _ _ _ (fun h => e h.1.symm) (t.rep _ _ _ _)
theorem VTab.weaken {H0 G H : Heap} {N : Nat} {f : Bool} {us : List V} {T : List (List V)} {Q Q' : Nat → Nat → Heap → V → Prop} (t : VTab H0 G H N f us T Q) (hq : ∀ i j v, i < T.length → Q i j G v → Q' i j G v) : VTab H0 G H N f us T Q' :=
  ⟨t.tab, t.g0, t.gh, t.gN, t.gr, fun i j h h' => hq i j _ h (t.rep i j h h')⟩
/-- one item more behind the row k -/
theorem VTab.push {H0 G H H' : Heap} {N : Nat} {us : List V} {T : List (List V)} {Q : Nat → Nat → Heap → V → Prop} (t : VTab H0 G H N false us T Q) {k m : Nat} {v : V} (hk : k < T.length) (hm : G m = none) (hs : Heap.sub G H')
    (ht : Tab H0 H' N false (us.set k (.sl m 0 (T[k].length + 1) false)) (T.set k (T[k] ++ [v]))) (hv : Q k T[k].length G v) : VTab H0 G H' N false (us.set k (.sl m 0 (T[k].length + 1) false)) (T.set k (T[k] ++ [v])) Q := by
  refine ⟨ht, t.g0, hs, t.gN, fun i n l hu => ?_, fun i j a b => ?_⟩
  · by_cases e : k = i
    · subst e
      rw [List.getElem?_set_self (by rw [t.tab.len]; exact hk)] at hu
      have : m = n := by injection hu with hu; injection hu
      subst this; exact hm
    · rw [List.getElem?_set_ne e] at hu; exact t.gr _ _ _ hu
  · rw [List.length_set] at a
    by_cases e : k = i
    · subst e
      simp only [List.getElem_set_self, List.length_append, List.length_singleton] at b ⊢
      by_cases e2 : j < T[k].length
      · rw [List.getElem_append_left e2]; exact t.rep _ _ _ _
      · have : j = T[k].length := by omega
        subst this
        simpa using hv
    · simp only [List.getElem_set_ne e] at b ⊢
      exact t.rep _ _ _ _
/-- the step 'out[k] = append(out[k], v)' in such a table -/
theorem appC_vtab {H0 G H : Heap} {env : Env} {d : Option Nat} {K : Env → Heap → Prop} {N : Nat} {us : List V} {T : List (List V)} {Q : Nat → Nat → Heap → V → Prop} {k xb bytes : Nat} {f : Bool} {v u : V} (t : VTab H0 G H N false us T Q) (hk : k < T.length) (hu : us[k]? = some u)
    (hx : H xb = some ⟨true, 1, [v]⟩) (hb : (T[k].length + 1) * bytes ≤ 140737488355328) (hb2 : T[k].length + 1 ≤ 140737488355328) (hv : Q k T[k].length G v)
    (go : ∀ m H', H' N = some ⟨true, 1, us⟩ → lenV u = T[k].length → (∀ H'', H'' N = some ⟨true, 1, us.set k (.sl m 0 (T[k].length + 1) false)⟩ → (∀ q, q ≠ N → H'' q = H' q) → VTab H0 G H'' N false (us.set k (.sl m 0 (T[k].length + 1) false)) (T.set k (T[k] ++ [v])) Q) → K (env.put d (.sl m 0 (T[k].length + 1) false)) H') :
    appC H env 1 bytes u (.sl xb 0 1 f) [] d K := by
  obtain ⟨u', hu', hlu, _, hrow⟩ := t.tab.get hk
  rw [hu] at hu'
  obtain rfl := Option.some.inj hu'
  have hrow' : (u = .nils ∧ T[k] = []) ∨ ∃ n len, u = .sl n 0 len false ∧ H n = some ⟨true, 1, T[k]⟩ ∧ T[k].length = len * 1 := by
    rcases hrow with ⟨e, e', _⟩ | ⟨n, e, e', _⟩
    · exact .inl ⟨e, e'⟩
    · exact .inr ⟨n, _, e, e', by omega⟩
  refine appC_one hrow' hx rfl (by decide) (by rw [hlu]; exact hb) (by rw [hlu]; exact hb2) fun m H7 hm hbm hf7 => ?_
  have hmN : N ≠ m := by rintro rfl; rw [t.tab.outer] at hm; cases hm
  have huN : ∀ n o l f, u = V.sl n o l f → N ≠ n := by
    rintro n o l f rfl
    rcases hrow with ⟨e, _⟩ | ⟨n', e, _, _, hne⟩
    · cases e
    · injection e with e; rw [e]; exact fun h => hne h.symm
  rw [hlu]
  refine go m H7 (by rw [hf7 N hmN huN]; exact t.tab.outer) hlu fun H8 hb8 hf8 => ?_
  have hgm : G m = none := t.gh.none' hm
  refine t.push hk hgm (fun q b hq => ?_) (t.tab.push hk hm hb8 (by rw [hf8 m hmN.symm]; exact hbm) fun q h1 h2 h3 => ?_) hv
  · have q1 : q ≠ N := by rintro rfl; rw [t.gN] at hq; cases hq
    have q2 : q ≠ m := by rintro rfl; rw [hgm] at hq; cases hq
    have q3 : ∀ n o l f, u = V.sl n o l f → q ≠ n := by
      rintro n o l f rfl rfl
      rcases hrow with ⟨e, _⟩ | ⟨n', e, _, _, _⟩
      · cases e
      · injection e with e1 e2 e3 e4
        subst e2; subst e4
        rw [t.gr _ _ _ hu] at hq; cases hq
    rw [hf8 q q1, hf7 q q2 q3]
    exact t.gh q b hq
  · rw [hf8 q h1]
    exact hf7 q h2 fun n o l f e => h3 n o l f (by rw [hu, e])
end Go.AM
