/- What allocating, storing and appending do to a heap of the abstract machine and to the world that bears it. Conditions: as each states. -/
import Derived.Test.YtopeeknimehmcaaA0
import Derived.Laws.CopyRow
import Derived.Laws.MakeOwn
set_option linter.unusedVariables false
set_option linter.unusedSimpArgs false
namespace Go.AM
open Go

theorem cell?_congr {w w' : World} {b : Nat} (h : w'.heap[b]? = w.heap[b]?) (o : Nat) : w'.cell? ⟨b, o, none⟩ = w.cell? ⟨b, o, none⟩ := by
  simp [World.cell?, h]

theorem Bears.keep {μ μ' : Map} {w w' : World} {blk : Blk} {l : Loc} (h : Bears μ w blk l) (hle : μ.le μ') (hw : w'.heap[l.b]? = w.heap[l.b]?) : Bears μ' w' blk l where
  cells i v e := by
    obtain ⟨c, h1, h2, h3⟩ := h.cells i v e
    exact ⟨c, by rw [cell?_congr hw]; exact h1, VRel.mono hle _ _ h2, h3⟩
  own ho := by
    obtain ⟨h1, c, e, h2, h3⟩ := h.own ho
    exact ⟨h1, c, e, by rw [hw]; exact h2, h3⟩
  notown := h.notown

theorem Bears.lt {μ : Map} {w : World} {blk : Blk} {l : Loc} (h : Bears μ w blk l) (hn : blk.own = true ∨ blk.cells ≠ []) : l.b < w.heap.size := by
  rcases hn with ho | hc
  · obtain ⟨_, c, e, h2, _⟩ := h.own ho
    exact (Array.getElem?_eq_some_iff.1 h2).1
  · cases hcs : blk.cells with
    | nil => exact absurd hcs hc
    | cons v r =>
      obtain ⟨c, h1, _⟩ := h.cells 0 v (by simp [hcs])
      simp only [World.cell?] at h1
      cases hh : w.heap[l.b]? with
      | none => simp [hh] at h1
      | some o => exact (Array.getElem?_eq_some_iff.1 hh).1

theorem Bears.empty {μ' : Map} {w' : World} {blk : Blk} {l : Loc} (h1 : blk.own = false) (h2 : blk.cells = []) (h3 : l.room = none) : Bears μ' w' blk l where
  cells i v e := by simp [h2] at e
  own ho := by simp [h1] at ho
  notown _ := h3

theorem Sim.freshName {μ : Map} {H : Heap} {w : World} (h : Sim μ H w) : ∃ n, μ n = none ∧ H n = none := by
  obtain ⟨N, hN⟩ := h.bound
  refine ⟨N, hN N (Nat.le_refl _), ?_⟩
  cases e : H N with
  | none => rfl
  | some b => obtain ⟨l, hl, _⟩ := h.bears N b e; rw [hN N (Nat.le_refl _)] at hl; cases hl

def Map.set (μ : Map) (n : Nat) (l : Loc) : Map := fun m => if m = n then some l else μ m
theorem Map.set_same (μ : Map) (n : Nat) (l : Loc) : Map.set μ n l n = some l := by simp [Map.set]
theorem Map.set_ne (μ : Map) {n m : Nat} (l : Loc) (h : m ≠ n) : Map.set μ n l m = μ m := by simp [Map.set, h]
theorem Map.le_set {μ : Map} {n : Nat} (l : Loc) (h : μ n = none) : μ.le (Map.set μ n l) := by
  intro m l' e
  by_cases hm : m = n
  · subst hm; rw [h] at e; cases e
  · rw [Map.set_ne _ _ hm]; exact e

theorem Sim.bound_set {μ : Map} {n : Nat} {l : Loc} (h : ∃ N, ∀ n, N ≤ n → μ n = none) : ∃ N, ∀ m, N ≤ m → Map.set μ n l m = none := by
  obtain ⟨N, hN⟩ := h
  refine ⟨max N (n + 1), fun m hm => ?_⟩
  rw [Map.set_ne _ _ (by omega)]
  exact hN m (by omega)

/-- a live name that holds something -/
def Blk.full (blk : Blk) : Prop := blk.own = true ∨ blk.cells ≠ []

theorem Sim.lt {μ : Map} {H : Heap} {w : World} (h : Sim μ H w) {n : Nat} {blk : Blk} {l : Loc} (e : H n = some blk) (hl : μ n = some l) (hf : blk.own = true ∨ blk.cells ≠ []) : l.b < w.heap.size := by
  obtain ⟨l', hl', hb⟩ := h.bears n blk e
  rw [hl] at hl'
  obtain rfl := Option.some.inj hl'
  exact hb.lt hf

theorem Bears.keepAll {μ μ' : Map} {w w' : World} {blk : Blk} {l : Loc} (h : Bears μ w blk l) (hle : μ.le μ') (hw : (blk.own = true ∨ blk.cells ≠ []) → w'.heap[l.b]? = w.heap[l.b]?) : Bears μ' w' blk l := by
  by_cases hq : blk.own = true ∨ blk.cells ≠ []
  · exact h.keep hle (hw hq)
  · have ho : blk.own = false := by
      cases ho' : blk.own with
      | false => rfl
      | true => exact absurd (.inl ho') hq
    refine Bears.empty ho ?_ (h.notown ho)
    · cases hc' : blk.cells with
      | nil => rfl
      | cons a r => exact absurd (.inr (by simp [hc'])) hq

theorem Sim.live {μ : Map} {H : Heap} {w : World} (h : Sim μ H w) {n : Nat} (hn : μ n = none) : H n = none := by
  cases e' : H n with
  | none => rfl
  | some b => obtain ⟨l, hl, _⟩ := h.bears n b e'; rw [hn] at hl; cases hl

/-- a new block of the call's own -/
theorem Sim.alloc {μ : Map} {H : Heap} {w : World} (h : Sim μ H w) {n : Nat} (hn : μ n = none) {c : Array Value} {e : TypeId} {vs : List V} {sz : Nat}
    (hv : VRels μ vs (c.toList.take vs.length)) (ho : ∀ v ∈ vs, v.one = true) {w' : World} (hw : w' = { w with heap := w.heap.push (.cells c e) }) :
    Sim (Map.set μ n ⟨w.heap.size, 0, some (sz, c.size)⟩) (Heap.upd H n (some ⟨true, sz, vs⟩)) w' ∧
    Tr μ H w (Map.set μ n ⟨w.heap.size, 0, some (sz, c.size)⟩) (Heap.upd H n (some ⟨true, sz, vs⟩)) w' := by
  subst hw
  have hle := Map.le_set ⟨w.heap.size, 0, some (sz, c.size)⟩ hn
  have hold : ∀ b, b < w.heap.size → (w.heap.push (.cells c e))[b]? = w.heap[b]? := fun b hb => by
    rw [Array.getElem?_push, if_neg (by omega)]
  have hHn : H n = none := h.live hn
  constructor
  · refine ⟨fun m blk em => ?_, fun m blk m' blk' l l' em hown em' hf' hne hl hl' => ?_, Sim.bound_set h.bound⟩
    · by_cases hm : m = n
      · subst hm
        rw [upd_same] at em
        obtain rfl := Option.some.inj em
        refine ⟨_, Map.set_same _ _ _, fun i v ei => ?_, fun _ => ⟨rfl, c, e, by simp, rfl⟩, fun h => by cases h⟩
        obtain ⟨x, hx, hr⟩ := hv.get i v ei
        have hi : i < vs.length := (List.getElem?_eq_some_iff.1 ei).1
        rw [List.getElem?_take_of_lt hi] at hx
        refine ⟨x, ?_, VRel.mono hle _ _ hr, ho v (List.mem_of_getElem? ei)⟩
        simp only [World.cell?, Array.getElem?_push_size, Option.isSome_none, Bool.false_eq_true, if_false]
        simpa using hx
      · rw [upd_ne _ _ _ _ hm] at em
        obtain ⟨l, hl, hb⟩ := h.bears m blk em
        exact ⟨l, by rw [Map.set_ne _ _ hm]; exact hl, hb.keepAll hle fun hf => hold _ (hb.lt hf)⟩
    · by_cases hm : m = n
      · subst hm
        rw [Map.set_same] at hl
        obtain rfl := Option.some.inj hl
        rw [upd_ne _ _ _ _ (Ne.symm hne)] at em'
        rw [Map.set_ne _ _ (Ne.symm hne)] at hl'
        have := h.lt em' hl' hf'
        simp only; omega
      · rw [upd_ne _ _ _ _ hm] at em
        rw [Map.set_ne _ _ hm] at hl
        have hlt := h.lt em hl (.inl hown)
        by_cases hm' : m' = n
        · subst hm'
          rw [Map.set_same] at hl'
          obtain rfl := Option.some.inj hl'
          simp only; omega
        · rw [upd_ne _ _ _ _ hm'] at em'
          rw [Map.set_ne _ _ hm'] at hl'
          exact h.apart m blk m' blk' l l' em hown em' hf' hne hl hl'
  · refine ⟨hle, by simp, rfl, rfl, rfl, fun b hb _ => hold b hb, fun b ⟨m, blk, l, em, hown, hl, hb⟩ => ?_, fun m hm hm' => ?_, fun m bb hm hm' => ?_⟩
    · by_cases hmn : m = n
      · subst hmn
        rw [Map.set_same] at hl
        obtain rfl := Option.some.inj hl
        left; simp only at hb; omega
      · rw [upd_ne _ _ _ _ hmn] at em
        rw [Map.set_ne _ _ hmn] at hl
        exact .inr ⟨m, blk, l, em, hown, hl, hb⟩
    · by_cases hmn : m = n
      · subst hmn; exact hn
      · rw [upd_ne _ _ _ _ hmn] at hm'; exact absurd hm hm'
    · by_cases hmn : m = n
      · subst hmn; rw [upd_same] at hm; obtain rfl := Option.some.inj hm; cases hm'
      · rw [upd_ne _ _ _ _ hmn] at hm; exact hm

/-- writing into a block of the call's own: what stands there in the end -/
theorem Sim.write {μ : Map} {H : Heap} {w : World} (h : Sim μ H w) {n : Nat} {blk : Blk} {l : Loc} (en : H n = some blk) (ho : blk.own = true) (hl : μ n = some l)
    {c' : Array Value} {e : TypeId} {vs : List V} {c : Array Value} (hc : w.heap[l.b]? = some (.cells c e (0, 0))) (hsz : c'.size = c.size)
    (hv : VRels μ vs (c'.toList.take vs.length)) (h1 : ∀ v ∈ vs, v.one = true) {w' : World} (hw : w' = w.setRow l.b c') :
    Sim μ (Heap.upd H n (some ⟨true, blk.sz, vs⟩)) w' ∧ Tr μ H w μ (Heap.upd H n (some ⟨true, blk.sz, vs⟩)) w' := by
  subst hw
  have hlt : l.b < w.heap.size := (Array.getElem?_eq_some_iff.1 hc).1
  have hold : ∀ b, b ≠ l.b → (w.setRow l.b c').heap[b]? = w.heap[b]? := fun b hb => setRow_other w l.b b c' hb
  have hnew : (w.setRow l.b c').heap[l.b]? = some (.cells c' e (0, 0)) := setRow_heap w l.b c c' e _ hc
  obtain ⟨l0, hl0, hb0⟩ := h.bears n blk en
  rw [hl] at hl0
  obtain rfl := Option.some.inj hl0
  obtain ⟨hx, c0, e0, hc0, hroom⟩ := hb0.own ho
  rw [hc] at hc0
  obtain ⟨rfl, rfl⟩ : c = c0 ∧ e = e0 := by simpa using hc0
  constructor
  · refine ⟨fun m b em => ?_, fun m b m' b' k k' em hown em' hf' hne hk hk' => ?_, h.bound⟩
    · by_cases hm : m = n
      · subst hm
        rw [upd_same] at em
        obtain rfl := Option.some.inj em
        refine ⟨l, hl, fun i v ei => ?_, fun _ => ⟨hx, c', e, hnew, by rw [hsz]; exact hroom⟩, fun h => by cases h⟩
        obtain ⟨x, hx', hr⟩ := hv.get i v ei
        have hi : i < vs.length := (List.getElem?_eq_some_iff.1 ei).1
        rw [List.getElem?_take_of_lt hi] at hx'
        refine ⟨x, ?_, hr, h1 v (List.mem_of_getElem? ei)⟩
        simp only [World.cell?, hnew, hx, Nat.zero_add, Option.isSome_none, Bool.false_eq_true, if_false]
        simpa using hx'
      · rw [upd_ne _ _ _ _ hm] at em
        obtain ⟨k, hk, hb⟩ := h.bears m b em
        exact ⟨k, hk, hb.keepAll (fun _ _ h => h) fun hf => hold _ (h.apart n blk m b l k en ho em hf (Ne.symm hm) hl hk)⟩
    · by_cases hm : m = n
      · subst hm
        rw [upd_ne _ _ _ _ (Ne.symm hne)] at em'
        exact h.apart m blk m' b' k k' en ho em' hf' hne hk hk'
      · rw [upd_ne _ _ _ _ hm] at em
        by_cases hm' : m' = n
        · subst hm'
          exact h.apart m b m' blk k k' em hown en (.inl ho) hne hk hk'
        · rw [upd_ne _ _ _ _ hm'] at em'
          exact h.apart m b m' b' k k' em hown em' hf' hne hk hk'
  · refine ⟨fun _ _ h => h, by simp, rfl, rfl, rfl, fun b hb hno => hold b fun hbl => hno ⟨n, blk, l, en, ho, hl, hbl.symm⟩, fun b ⟨m, bk, k, em, hown, hk, hb⟩ => ?_, fun m hm hm' => ?_, fun m bb hm hm' => ?_⟩
    · right
      by_cases hmn : m = n
      · subst hmn; exact ⟨m, blk, k, en, ho, hk, hb⟩
      · rw [upd_ne _ _ _ _ hmn] at em
        exact ⟨m, bk, k, em, hown, hk, hb⟩
    · by_cases hmn : m = n
      · subst hmn; rw [en] at hm; cases hm
      · rw [upd_ne _ _ _ _ hmn] at hm'; exact absurd hm hm'
    · by_cases hmn : m = n
      · subst hmn; rw [upd_same] at hm; obtain rfl := Option.some.inj hm; cases hm'
      · rw [upd_ne _ _ _ _ hmn] at hm; exact hm

/-- a block of the call's own goes on under another name -/
theorem Sim.rename {μ : Map} {H : Heap} {w : World} (h : Sim μ H w) {n m : Nat} {blk : Blk} {l : Loc} (en : H n = some blk) (ho : blk.own = true) (hl : μ n = some l) (hm : μ m = none) :
    Sim (Map.set μ m l) (Heap.upd (Heap.upd H n none) m (some blk)) w ∧ Tr μ H w (Map.set μ m l) (Heap.upd (Heap.upd H n none) m (some blk)) w := by
  have hle := Map.le_set l hm
  have hmn : m ≠ n := fun e => by subst e; rw [hl] at hm; cases hm
  have hHm : H m = none := h.live hm
  obtain ⟨l0, hl0, hb0⟩ := h.bears n blk en
  rw [hl] at hl0
  obtain rfl := Option.some.inj hl0
  have hget : ∀ k, k ≠ m → k ≠ n → Heap.upd (Heap.upd H n none) m (some blk) k = H k := fun k h1 h2 => by rw [upd_ne _ _ _ _ h1, upd_ne _ _ _ _ h2]
  have hgn : Heap.upd (Heap.upd H n none) m (some blk) n = none := by rw [upd_ne _ _ _ _ (Ne.symm hmn), upd_same]
  have hgm : Heap.upd (Heap.upd H n none) m (some blk) m = some blk := upd_same _ _ _
  constructor
  · refine ⟨fun k b ek => ?_, fun k b k' b' j j' ek hown ek' hf' hne hj hj' => ?_, Sim.bound_set h.bound⟩
    · by_cases hkm : k = m
      · subst hkm
        rw [hgm] at ek
        obtain rfl := Option.some.inj ek
        exact ⟨l, Map.set_same _ _ _, hb0.keep hle rfl⟩
      · by_cases hkn : k = n
        · subst hkn; rw [hgn] at ek; cases ek
        · rw [hget k hkm hkn] at ek
          obtain ⟨j, hj, hb⟩ := h.bears k b ek
          exact ⟨j, by rw [Map.set_ne _ _ hkm]; exact hj, hb.keep hle rfl⟩
    · have hkn : k ≠ n := fun e => by subst e; rw [hgn] at ek; cases ek
      have hkn' : k' ≠ n := fun e => by subst e; rw [hgn] at ek'; cases ek'
      by_cases hkm : k = m
      · subst hkm
        rw [Map.set_same] at hj
        obtain rfl := Option.some.inj hj
        rw [hget k' (Ne.symm hne) hkn'] at ek'
        rw [Map.set_ne _ _ (Ne.symm hne)] at hj'
        exact h.apart n blk k' b' l j' en ho ek' hf' (Ne.symm hkn') hl hj'
      · rw [hget k hkm hkn] at ek
        rw [Map.set_ne _ _ hkm] at hj
        by_cases hkm' : k' = m
        · subst hkm'
          rw [Map.set_same] at hj'
          obtain rfl := Option.some.inj hj'
          exact h.apart k b n blk j l ek hown en (.inl ho) hkn hj hl
        · rw [hget k' hkm' hkn'] at ek'
          rw [Map.set_ne _ _ hkm'] at hj'
          exact h.apart k b k' b' j j' ek hown ek' hf' hne hj hj'
  · refine ⟨hle, Nat.le_refl _, rfl, rfl, rfl, fun _ _ _ => rfl, fun b ⟨k, bk, j, ek, hown, hj, hb⟩ => ?_, fun k hk hk' => ?_, fun k bb hk hk' => ?_⟩
    · right
      by_cases hkm : k = m
      · subst hkm
        rw [Map.set_same] at hj
        obtain rfl := Option.some.inj hj
        exact ⟨n, blk, l, en, ho, hl, hb⟩
      · have hkn : k ≠ n := fun e => by subst e; rw [hgn] at ek; cases ek
        rw [hget k hkm hkn] at ek
        rw [Map.set_ne _ _ hkm] at hj
        exact ⟨k, bk, j, ek, hown, hj, hb⟩
    · by_cases hkm : k = m
      · subst hkm; exact hm
      · by_cases hkn : k = n
        · subst hkn; exact absurd hgn hk'
        · rw [hget k hkm hkn] at hk'; exact absurd hk hk'
    · by_cases hkm : k = m
      · subst hkm; rw [hgm] at hk; obtain rfl := Option.some.inj hk; rw [ho] at hk'; cases hk'
      · by_cases hkn : k = n
        · subst hkn; rw [hgn] at hk; cases hk
        · rw [hget k hkm hkn] at hk; exact hk

end Go.AM
