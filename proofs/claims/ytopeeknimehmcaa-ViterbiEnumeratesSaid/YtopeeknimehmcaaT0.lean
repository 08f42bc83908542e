/- Tables of rows that lie in blocks of their own. Conditions: none. -/
import Derived.Test.YtopeeknimehmcaaU3
set_option linter.unusedVariables false
set_option linter.unusedSimpArgs false
namespace Go.AM
open Go

/-- one more item behind a row that nobody else has -/
theorem appC_one {H : Heap} {env : Env} {d : Option Nat} {K : Env → Heap → Prop} {u : V} {xs : List V} {xb bytes sz : Nat} {f : Bool} {vs : List V}
    (hu : (u = .nils ∧ xs = []) ∨ ∃ n len, u = .sl n 0 len false ∧ H n = some ⟨true, sz, xs⟩ ∧ xs.length = len * sz) (hx : H xb = some ⟨true, sz, vs⟩) (hvs : vs.length = sz) (hz : 0 < sz)
    (hb : (lenV u + 1) * bytes ≤ 140737488355328) (hb2 : lenV u + 1 ≤ 140737488355328)
    (hk : ∀ m H', H m = none → H' m = some ⟨true, sz, xs ++ vs⟩ → (∀ k, k ≠ m → (∀ n o l f, u = .sl n o l f → k ≠ n) → H' k = H k) → K (env.put d (.sl m 0 (lenV u + 1) false)) H') :
    appC H env sz bytes u (.sl xb 0 1 f) [] d K := by
  have hc : cellsAt H sz (.sl xb 0 1 f) = some vs := by
    simp [cellsAt, hx, hvs, List.take_of_length_le]
  unfold appC
  rw [hc]
  refine ⟨hb, hb2, ?_⟩
  have h1 : lenV (.sl xb 0 1 f) = 1 := rfl
  rw [h1, if_neg (by decide)]
  rcases hu with ⟨rfl, rfl⟩ | ⟨n, len, rfl, hn, hl⟩
  · intro m hm
    refine hk m _ hm (by simp [Heap.upd]) fun k h1 _ => by simp [Heap.upd, h1]
  · simp only [hn]
    refine ⟨trivial, ?_⟩
    simp only [Bool.false_eq_true, if_false]
    refine ⟨trivial, trivial, trivial, hl, fun m hm => ?_⟩
    refine hk m _ hm (by simp [Heap.upd]) fun k h1 h2 => ?_
    have := h2 n 0 len false rfl
    simp [Heap.upd, h1, this]

/-- a table: the outer block N holds the rows' slices; each row lies in a block of its own. H0: what was there before. -/
structure Tab (H0 H : Heap) (N : Nat) (f : Bool) (us : List V) (xss : List (List V)) : Prop where
  sub : Heap.sub H0 H
  outer : H N = some ⟨true, 1, us⟩
  oN : H0 N = none
  len : us.length = xss.length
  row : ∀ i, (h : i < xss.length) → (us[i]? = some .nils ∧ xss[i] = [] ∧ True) ∨ ∃ n, us[i]? = some (.sl n 0 xss[i].length f) ∧ H n = some ⟨true, 1, xss[i]⟩ ∧ H0 n = none ∧ n ≠ N
  inj : ∀ (i j n l l' : Nat), us[i]? = some (V.sl n 0 l f) → us[j]? = some (V.sl n 0 l' f) → i = j

theorem Tab.grow {H0 H H' : Heap} {N : Nat} {f : Bool} {us : List V} {xss : List (List V)} (t : Tab H0 H N f us xss) (hs : Heap.sub H H') : Tab H0 H' N f us xss where
  sub := fun n b h => hs n b (t.sub n b h)
  outer := hs _ _ t.outer
  oN := t.oN
  len := t.len
  row i h := by
    rcases t.row i h with h | ⟨n, a, b, c, d⟩
    · exact .inl h
    · exact .inr ⟨n, a, hs _ _ b, c, d⟩
  inj := t.inj

/-- what is read of it -/
theorem Tab.get {H0 H : Heap} {N : Nat} {f : Bool} {us : List V} {xss : List (List V)} (t : Tab H0 H N f us xss) {i : Nat} (h : i < xss.length) : ∃ u, us[i]? = some u ∧ lenV u = xss[i].length ∧ lenR u = some (.int .i64 xss[i].length) ∧
    ((u = .nils ∧ xss[i] = [] ∧ True) ∨ ∃ n, u = .sl n 0 xss[i].length f ∧ H n = some ⟨true, 1, xss[i]⟩ ∧ H0 n = none ∧ n ≠ N) := by
  rcases t.row i h with ⟨a, b, c⟩ | ⟨n, a, b, c, d⟩
  · exact ⟨_, a, by rw [b]; rfl, by rw [b]; rfl, .inl ⟨rfl, b, c⟩⟩
  · exact ⟨_, a, rfl, rfl, .inr ⟨n, rfl, b, c, d⟩⟩
theorem Tab.at {H0 H : Heap} {N : Nat} {f : Bool} {us : List V} {xss : List (List V)} (t : Tab H0 H N f us xss) {i j : Nat} (h : i < xss.length) (hj : j < xss[i].length) (kd : IntKind) : ∃ n, us[i]? = some (.sl n 0 xss[i].length f) ∧ H n = some ⟨true, 1, xss[i]⟩ ∧ H0 n = none ∧ n ≠ N ∧ iaV 1 (.sl n 0 xss[i].length f) (.int kd j) = some (.ptr n j) ∧ ldV H false 1 (.ptr n j) = xss[i][j]? := by
  rcases t.row i h with ⟨a, b, _⟩ | ⟨n, a, b, c, d⟩
  · rw [b] at hj; simp at hj
  · exact ⟨n, a, b, c, d, by rw [ia_nat hj]; simp, ld_box b⟩

/-- one item of one row is written -/
theorem Tab.set {H0 H H' : Heap} {N : Nat} {f : Bool} {us : List V} {xss : List (List V)} (t : Tab H0 H N f us xss) {i j n : Nat} {v : V} (h : i < xss.length) (hu : us[i]? = some (.sl n 0 xss[i].length f)) (hj : j < xss[i].length)
    (h1 : H' n = some ⟨true, 1, xss[i].set j v⟩) (h2 : ∀ m, m ≠ n → H' m = H m) : Tab H0 H' N f us (xss.set i (xss[i].set j v)) := by
  obtain ⟨u, hu', _, _, hr⟩ := t.get h
  rw [hu] at hu'
  obtain rfl := Option.some.inj hu'
  obtain ⟨n', e0, hn, h0, hN⟩ : ∃ n', V.sl n 0 xss[i].length f = .sl n' 0 xss[i].length f ∧ H n' = some ⟨true, 1, xss[i]⟩ ∧ H0 n' = none ∧ n' ≠ N := by
    rcases hr with ⟨e, _⟩ | h
    · cases e
    · exact h
  obtain rfl : n = n' := by injection e0
  refine ⟨fun m b hb => ?_, ?_, t.oN, by simp [t.len], fun k hk => ?_, t.inj⟩
  · have : m ≠ n := by rintro rfl; rw [h0] at hb; cases hb
    rw [h2 m this]; exact t.sub m b hb
  · rw [h2 N (fun e => hN e.symm)]; exact t.outer
  · rw [List.length_set] at hk
    by_cases e : i = k
    · subst e
      simp only [List.getElem_set_self, List.length_set]
      exact .inr ⟨n, hu, h1, h0, hN⟩
    · rw [List.getElem_set_ne e]
      rcases t.row k hk with h | ⟨m, a, b, c, d⟩
      · exact .inl h
      · have : m ≠ n := by rintro rfl; exact e (t.inj _ _ _ _ _ hu a)
        exact .inr ⟨m, a, by rw [h2 m this]; exact b, c, d⟩

/-- one row is laid anew -/
theorem Tab.lay {H0 H H' : Heap} {N : Nat} {f : Bool} {us : List V} {xss : List (List V)} (t : Tab H0 H N f us xss) {i m : Nat} {ys : List V} (h : i < xss.length) (hm : H m = none)
    (hN : H' N = some ⟨true, 1, us.set i (.sl m 0 ys.length f)⟩) (h1 : H' m = some ⟨true, 1, ys⟩)
    (h2 : ∀ k b, k ≠ N → k ≠ m → (∀ n o l f, us[i]? = some (.sl n o l f) → k ≠ n) → H k = some b → H' k = some b) : Tab H0 H' N f (us.set i (.sl m 0 ys.length f)) (xss.set i (ys)) := by
  have hm0 : H0 m = none := t.sub.none' hm
  have hmN : m ≠ N := by rintro rfl; rw [t.outer] at hm; cases hm
  have old : ∀ n o l f, us[i]? = some (.sl n o l f) → H0 n = none := by
    intro n o l f hu
    rcases t.row i h with ⟨a, _, _⟩ | ⟨n', a, b, c, d⟩
    · rw [hu] at a; cases a
    · rw [hu] at a
      obtain ⟨rfl, _⟩ : n = n' ∧ True := by injection a with a; injection a with a; exact ⟨a, trivial⟩
      exact c
  have huse : ∀ k n, i ≠ k → (hk : k < xss.length) → us[k]? = some (.sl n 0 xss[k].length f) → n ≠ N → H n = some ⟨true, 1, xss[k]⟩ → n ≠ m ∧ ∀ n' o l f, us[i]? = some (.sl n' o l f) → n ≠ n' := by
    intro k n hik hk hu hn hH
    refine ⟨by rintro rfl; rw [hm] at hH; exact (by cases hH), fun n' o l f hu' e => hik ?_⟩
    subst e
    rcases t.row i h with ⟨a, _, _⟩ | ⟨n'', a, b, c, d⟩
    · rw [hu'] at a; cases a
    · have : n = n'' := by rw [hu'] at a; injection a with a; injection a
      subst this
      exact t.inj _ _ _ _ _ a hu
  refine ⟨fun n b hb => ?_, hN, t.oN, by simp [t.len], fun k hk => ?_, ?_⟩
  · have a1 : n ≠ N := by rintro rfl; rw [t.oN] at hb; cases hb
    have a2 : n ≠ m := by rintro rfl; rw [hm0] at hb; cases hb
    exact h2 n b a1 a2 (fun n' o l f hu e => by subst e; rw [old _ _ _ _ hu] at hb; cases hb) (t.sub n b hb)
  · rw [List.length_set] at hk
    have hkl : k < us.length := by rw [t.len]; exact hk
    by_cases e : i = k
    · subst e
      simp only [List.getElem_set_self]
      exact .inr ⟨m, by simp [hkl], h1, hm0, hmN⟩
    · rw [List.getElem_set_ne e, List.getElem?_set_ne e]
      rcases t.row k hk with h | ⟨n, a, b, c, d⟩
      · exact .inl h
      · obtain ⟨x1, x2⟩ := huse k n e hk a d b
        exact .inr ⟨n, a, h2 n _ d x1 x2 b, c, d⟩
  · have key : ∀ k n l, (us.set i (.sl m 0 ys.length f))[k]? = some (.sl n 0 l f) → (k = i ∧ n = m) ∨ (k ≠ i ∧ n ≠ m ∧ us[k]? = some (.sl n 0 l f)) := by
      intro k n l hk
      by_cases e : i = k
      · subst e
        have hil : i < us.length := by rw [t.len]; exact h
        simp only [List.getElem?_set_self hil, Option.some.injEq, V.sl.injEq] at hk
        exact .inl ⟨rfl, hk.1.symm⟩
      · rw [List.getElem?_set_ne e] at hk
        refine .inr ⟨fun e' => e e'.symm, ?_, hk⟩
        have hkl : k < xss.length := by rw [← t.len]; exact (List.getElem?_eq_some_iff.1 hk).1
        rcases t.row k hkl with ⟨a, _, _⟩ | ⟨n', a, b, c, d⟩
        · rw [hk] at a; cases a
        · have : n = n' := by rw [hk] at a; injection a with a; injection a
          subst this
          rintro rfl; rw [hm] at b; cases b
    intro a b n l l' ha hb
    rcases key a n l ha with ⟨rfl, rfl⟩ | ⟨x1, x2, x3⟩
    · rcases key b _ l' hb with ⟨rfl, _⟩ | ⟨_, y2, _⟩
      · rfl
      · exact absurd rfl y2
    · rcases key b n l' hb with ⟨rfl, rfl⟩ | ⟨_, _, y3⟩
      · exact absurd rfl x2
      · exact t.inj _ _ _ _ _ x3 y3

/-- one item more behind one row -/
theorem Tab.push {H0 H H' : Heap} {N : Nat} {us : List V} {xss : List (List V)} (t : Tab H0 H N false us xss) {i m : Nat} {v : V} (h : i < xss.length) (hm : H m = none)
    (hN : H' N = some ⟨true, 1, us.set i (.sl m 0 (xss[i].length + 1) false)⟩) (h1 : H' m = some ⟨true, 1, xss[i] ++ [v]⟩)
    (h2 : ∀ k, k ≠ N → k ≠ m → (∀ n o l f, us[i]? = some (.sl n o l f) → k ≠ n) → H' k = H k) : Tab H0 H' N false (us.set i (.sl m 0 (xss[i].length + 1) false)) (xss.set i (xss[i] ++ [v])) := by
  have := t.lay (ys := xss[i] ++ [v]) h hm (by simpa using hN) h1 fun k b a1 a2 a3 hb => by rw [h2 k a1 a2 a3]; exact hb
  simpa using this

/-- rows of cells that are read -/
def SCells (H : Heap) (u : V) (xs : List V) : Prop := Sl H u 1 xs.length xs
def SRowsV (H : Heap) (v : V) (xss : List (List V)) : Prop := SLists SCells H v xss
theorem SCells.mono {H H' : Heap} {v : V} {xs : List V} (h : SCells H v xs) (hs : Heap.sub H H') : SCells H' v xs := Sl.mono h hs
theorem SCells.len {H : Heap} {v : V} {xs : List V} (h : SCells H v xs) : lenR v = some (.int .i64 xs.length) := Sl.len h
theorem SCells.get {H : Heap} {v : V} {xs : List V} (h : SCells H v xs) {k : Nat} (hk : k < xs.length) (kd : IntKind) : ∃ p, iaV 1 v (.int kd k) = some p ∧ ldV H false 1 p = some xs[k] := by
  obtain ⟨p, h1, h2⟩ := Sl.at1 h (kd := kd) hk
  exact ⟨p, h1, by rw [h2]; simp [hk]⟩
theorem SRowsV.mono {H H' : Heap} {v : V} {ls : List (List V)} (h : SRowsV H v ls) (hs : Heap.sub H H') : SRowsV H' v ls := SLists.mono (S := SCells) (fun a b => SCells.mono a b) h hs
theorem Tab.rows {H0 H : Heap} {N : Nat} {f g : Bool} {us : List V} {xss : List (List V)} (t : Tab H0 H N f us xss) {n : Nat} (hn : n = xss.length) (h1 : n ≤ 281474976710656) (h2 : ∀ xs ∈ xss, xs.length ≤ 281474976710656) : SRowsV H (.sl N 0 n g) xss := by
  subst hn
  refine ⟨us, ⟨by rw [t.len]; omega, h1, .inr ⟨N, 0, g, _, rfl, t.outer, rfl, .inr (by simp [t.len]), fun j hj => by simp⟩⟩, fun i hi => ?_⟩
  obtain ⟨u, hu, _, _, hr⟩ := t.get hi
  refine ⟨u, hu, ?_⟩
  have hl := h2 _ (List.getElem_mem hi)
  rcases hr with ⟨rfl, e, _⟩ | ⟨n, rfl, hn, _, _⟩
  · rw [e]; exact ⟨by simp, by simp, .inl ⟨rfl, rfl⟩⟩
  · exact ⟨by simp, hl, .inr ⟨n, 0, f, _, rfl, hn, rfl, .inr (by simp), fun j hj => by simp⟩⟩

/-- rows being filled: those before k are full, row k has its first j items -/
def partR (n : Nat) (full : Nat → List V) (k j : Nat) : List (List V) := (List.range n).map fun i => if i < k then full i else if i = k then (full i).take j else []
theorem partR_len (n : Nat) (full : Nat → List V) (k j : Nat) : (partR n full k j).length = n := by simp [partR]
theorem partR_get {n : Nat} {full : Nat → List V} {k j i : Nat} (h : i < n) : (partR n full k j)[i]'(by rw [partR_len]; exact h) = if i < k then full i else if i = k then (full i).take j else [] := by simp [partR]
theorem partR_push {n : Nat} {full : Nat → List V} {k j : Nat} (h : k < n) (hj : j < (full k).length) : (partR n full k j).set k ((partR n full k j)[k]'(by rw [partR_len]; exact h) ++ [(full k)[j]]) = partR n full k (j+1) := by
  have e0 : (partR n full k j)[k]'(by rw [partR_len]; exact h) ++ [(full k)[j]] = (full k).take (j+1) := by
    rw [partR_get h, List.take_add_one, List.getElem?_eq_getElem hj]; simp
  rw [e0]
  apply List.ext_getElem
  · simp [partR_len]
  · intro i h1 h2
    have hi : i < n := by rw [partR_len] at h2; exact h2
    rw [partR_get hi]
    by_cases e : k = i
    · subst e
      simp
    · rw [List.getElem_set_ne e, partR_get hi]
      have : ¬ i = k := fun h => e h.symm
      simp [this]
theorem partR_next {n : Nat} {full : Nat → List V} {k j : Nat} (h : (full k).length ≤ j) : partR n full k j = partR n full (k+1) 0 := by
  unfold partR
  apply List.map_congr_left
  intro i hi
  by_cases h1 : i < k
  · simp [h1, show i < k + 1 by omega]
  · by_cases h2 : i = k
    · subst h2; simp [List.take_of_length_le h]
    · simp [h1, h2, show ¬ i < k + 1 by omega]
theorem partR_done {n : Nat} {full : Nat → List V} : partR n full n 0 = (List.range n).map full := by
  unfold partR
  apply List.map_congr_left
  intro i hi
  simp [List.mem_range.1 hi]
theorem partR_start {n : Nat} {full : Nat → List V} {H H' : Heap} {N : Nat} (hs : Heap.sub H H') (hN : H N = none) (hb : H' N = some ⟨true, 1, List.replicate n .nils⟩) : Tab H H' N false (List.replicate n .nils) (partR n full 0 0) := by
  refine ⟨hs, hb, hN, by simp [partR_len], fun i h => ?_, fun i j n l l' h => ?_⟩
  · rw [partR_len] at h
    refine .inl ⟨by simp [h], ?_, trivial⟩
    rw [partR_get h]; simp
  · simp [List.getElem?_replicate] at h
theorem Tab.down {H0 H1 H : Heap} {N : Nat} {f : Bool} {us : List V} {xss : List (List V)} (t : Tab H1 H N f us xss) (hs : Heap.sub H0 H1) : Tab H0 H N f us xss :=
  ⟨hs.trans' t.sub, t.outer, hs.none' t.oN, t.len, fun i h => (t.row i h).imp id fun ⟨n, a, b, c, d⟩ => ⟨n, a, b, hs.none' c, d⟩, t.inj⟩
/-- the step 'out[k] = append(out[k], v)' in a table -/
theorem appC_tab {H0 H : Heap} {env : Env} {d : Option Nat} {K : Env → Heap → Prop} {N : Nat} {us : List V} {xss : List (List V)} {k xb bytes : Nat} {f : Bool} {v u : V} (t : Tab H0 H N false us xss) (hk : k < xss.length) (hu : us[k]? = some u)
    (hx : H xb = some ⟨true, 1, [v]⟩) (hb : (xss[k].length + 1) * bytes ≤ 140737488355328) (hb2 : xss[k].length + 1 ≤ 140737488355328)
    (go : ∀ m H', H m = none → H' N = some ⟨true, 1, us⟩ → lenV u = xss[k].length → (∀ H'', H'' N = some ⟨true, 1, us.set k (.sl m 0 (xss[k].length + 1) false)⟩ → (∀ q, q ≠ N → H'' q = H' q) → Tab H0 H'' N false (us.set k (.sl m 0 (xss[k].length + 1) false)) (xss.set k (xss[k] ++ [v]))) → K (env.put d (.sl m 0 (xss[k].length + 1) false)) H') :
    appC H env 1 bytes u (.sl xb 0 1 f) [] d K := by
  obtain ⟨u', hu', hlu, _, hrow⟩ := t.get hk
  rw [hu] at hu'
  obtain rfl := Option.some.inj hu'
  have hrow' : (u = .nils ∧ xss[k] = []) ∨ ∃ n len, u = .sl n 0 len false ∧ H n = some ⟨true, 1, xss[k]⟩ ∧ xss[k].length = len * 1 := by
    rcases hrow with ⟨e, e', _⟩ | ⟨n, e, e', _⟩
    · exact .inl ⟨e, e'⟩
    · exact .inr ⟨n, _, e, e', by omega⟩
  refine appC_one hrow' hx rfl (by decide) (by rw [hlu]; exact hb) (by rw [hlu]; exact hb2) fun m H7 hm hbm hf7 => ?_
  have hmN : N ≠ m := by rintro rfl; rw [t.outer] at hm; cases hm
  have huN : ∀ n o l f, u = V.sl n o l f → N ≠ n := by
    rintro n o l f rfl
    rcases hrow with ⟨e, _⟩ | ⟨n', e, _, _, hne⟩
    · cases e
    · injection e with e; rw [e]; exact fun h => hne h.symm
  rw [hlu]
  refine go m H7 hm (by rw [hf7 N hmN huN]; exact t.outer) hlu fun H8 hb8 hf8 => ?_
  refine t.push hk hm hb8 (by rw [hf8 m hmN.symm]; exact hbm) fun q h1 h2 h3 => ?_
  rw [hf8 q h1]
  exact hf7 q h2 fun n o l f e => h3 n o l f (by rw [hu, e])

/-- rows being filled in place: those before k are full, row k has its first j items and behind them z -/
def partZ (n : Nat) (full : Nat → List V) (z : V) (k j : Nat) : List (List V) := (List.range n).map fun i => if i < k then full i else if i = k then (full i).take j ++ List.replicate ((full i).length - j) z else []
theorem partZ_len (n : Nat) (full : Nat → List V) (z : V) (k j : Nat) : (partZ n full z k j).length = n := by simp [partZ]
theorem partZ_get {n : Nat} {full : Nat → List V} {z : V} {k j i : Nat} (h : i < n) : (partZ n full z k j)[i]'(by rw [partZ_len]; exact h) = if i < k then full i else if i = k then (full i).take j ++ List.replicate ((full i).length - j) z else [] := by simp [partZ]
theorem partZ_lay {n : Nat} {full : Nat → List V} {z : V} {k : Nat} (h : k < n) : (partR n full k 0).set k (List.replicate (full k).length z) = partZ n full z k 0 := by
  apply List.ext_getElem
  · simp [partR_len, partZ_len]
  · intro i h1 h2
    have hi : i < n := by rw [partZ_len] at h2; exact h2
    rw [partZ_get hi]
    by_cases e : k = i
    · subst e; simp
    · rw [List.getElem_set_ne e, partR_get hi]
      have : ¬ i = k := fun h => e h.symm
      simp [this]
theorem partZ_set {n : Nat} {full : Nat → List V} {z : V} {k j : Nat} (h : k < n) (hj : j < (full k).length) : (partZ n full z k j).set k (((partZ n full z k j)[k]'(by rw [partZ_len]; exact h)).set j (full k)[j]) = partZ n full z k (j+1) := by
  have e0 : ((partZ n full z k j)[k]'(by rw [partZ_len]; exact h)).set j (full k)[j] = (full k).take (j+1) ++ List.replicate ((full k).length - (j+1)) z := by
    rw [partZ_get h, if_neg (Nat.lt_irrefl _), if_pos rfl]
    have e1 : (full k).length - j = (full k).length - (j+1) + 1 := by omega
    have e2 : ((full k).take j).length = j := by rw [List.length_take]; omega
    rw [e1, List.replicate_succ, List.set_append_right _ _ (by omega), e2, Nat.sub_self, List.set_cons_zero, List.take_add_one, List.getElem?_eq_getElem hj, List.append_assoc]
    rfl
  rw [e0]
  apply List.ext_getElem
  · simp [partZ_len]
  · intro i h1 h2
    have hi : i < n := by rw [partZ_len] at h2; exact h2
    rw [partZ_get hi]
    by_cases e : k = i
    · subst e; simp
    · rw [List.getElem_set_ne e, partZ_get hi]
      have : ¬ i = k := fun h => e h.symm
      simp [this]
theorem partZ_next {n : Nat} {full : Nat → List V} {z : V} {k j : Nat} (h : (full k).length = j) : partZ n full z k j = partR n full (k+1) 0 := by
  unfold partZ partR
  apply List.map_congr_left
  intro i hi
  by_cases h1 : i < k
  · simp [h1, show i < k + 1 by omega]
  · by_cases h2 : i = k
    · subst h2; subst h; simp
    · simp [h1, h2, show ¬ i < k + 1 by omega]
theorem partR_startT {n : Nat} {full : Nat → List V} {H H' : Heap} {N : Nat} {f : Bool} (hs : Heap.sub H H') (hN : H N = none) (hb : H' N = some ⟨true, 1, List.replicate n .nils⟩) : Tab H H' N f (List.replicate n .nils) (partR n full 0 0) := by
  refine ⟨hs, hb, hN, by simp [partR_len], fun i h => ?_, fun i j n l l' h => ?_⟩
  · rw [partR_len] at h
    refine .inl ⟨by simp [h], ?_, trivial⟩
    rw [partR_get h]; simp
  · simp [List.getElem?_replicate] at h
end Go.AM
