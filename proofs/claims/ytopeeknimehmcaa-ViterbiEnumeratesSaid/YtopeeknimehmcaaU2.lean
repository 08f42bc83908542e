/- Data in the heap, and the steps that change it. Conditions: none. -/
import Derived.Test.YtopeeknimehmcaaU1
set_option linter.unusedVariables false
set_option linter.unusedSimpArgs false
namespace Go.AM
open Go

/-- a slice of 'len' items of 'sz' cells each, in all the cells 'cs' -/
def Sl (H : Heap) (v : V) (sz len : Nat) (cs : List V) : Prop :=
  cs.length = len * sz ∧ len ≤ 281474976710656 ∧ ((v = .nils ∧ len = 0) ∨ ∃ n o f b, v = .sl n o len f ∧ H n = some b ∧ b.sz = sz ∧ (len = 0 ∨ o + len * sz ≤ b.cells.length) ∧ ∀ j, j < len * sz → b.cells[o + j]? = cs[j]?)

theorem Sl.mono {H H' : Heap} {v : V} {sz len : Nat} {cs : List V} (h : Sl H v sz len cs) (hs : Heap.sub H H') : Sl H' v sz len cs := by
  obtain ⟨h1, h2, h3 | ⟨n, o, f, b, e, hb, hz, hl, hj⟩⟩ := h
  · exact ⟨h1, h2, .inl h3⟩
  · exact ⟨h1, h2, .inr ⟨n, o, f, b, e, hs n b hb, hz, hl, hj⟩⟩
theorem Sl.len {H : Heap} {v : V} {sz len : Nat} {cs : List V} (h : Sl H v sz len cs) : lenR v = some (.int .i64 len) := by
  obtain ⟨h1, _, ⟨rfl, rfl⟩ | ⟨n, o, f, b, rfl, _⟩⟩ := h <;> rfl
theorem Sl.lt {H : Heap} {v : V} {sz len : Nat} {cs : List V} (h : Sl H v sz len cs) : len ≤ 281474976710656 := h.2.1
theorem Sl.lenV {H : Heap} {v : V} {sz len : Nat} {cs : List V} (h : Sl H v sz len cs) : lenV v = len := by
  obtain ⟨h1, _, ⟨rfl, rfl⟩ | ⟨n, o, f, b, rfl, _⟩⟩ := h <;> rfl
/-- the address of an item, and what lies there -/
theorem Sl.at {H : Heap} {v : V} {sz len : Nat} {cs : List V} (h : Sl H v sz len cs) {kd : IntKind} {k : Nat} (hk : k < len) :
    ∃ p, iaV sz v (.int kd k) = some p ∧ ldV H true sz p = some (.agg ((cs.drop (k * sz)).take sz)) ∧ ∀ j, j < sz → ∃ q, faV j p = some q ∧ ldV H false 1 q = cs[k * sz + j]? := by
  obtain ⟨h1, _, ⟨rfl, rfl⟩ | ⟨n, o, f, b, rfl, hb, hz, hl, hj⟩⟩ := h
  · omega
  · have hle : k * sz + sz ≤ len * sz := by
      have := Nat.mul_le_mul_right sz (Nat.succ_le_of_lt hk)
      rw [Nat.succ_mul] at this; exact this
    refine ⟨.ptr n (o + k * sz), ia_nat hk, ld_agg hb (by omega) ?_, fun j hjs => ⟨.ptr n (o + k * sz + j), rfl, ?_⟩⟩
    · apply List.ext_getElem?
      intro i
      simp only [List.getElem?_take, List.getElem?_drop]
      split
      · rw [Nat.add_assoc, hj _ (by omega)]
      · rfl
    · simp only [ldV, hb, Nat.add_assoc]
      rw [if_neg (by simp), hj _ (by omega)]
theorem Sl.at1 {H : Heap} {v : V} {len : Nat} {cs : List V} (h : Sl H v 1 len cs) {kd : IntKind} {k : Nat} (hk : k < len) :
    ∃ p, iaV 1 v (.int kd k) = some p ∧ ldV H false 1 p = cs[k]? := by
  obtain ⟨p, h1, h2, h3⟩ := h.at (kd := kd) hk
  obtain ⟨q, hq, hv⟩ := h3 0 (by omega)
  refine ⟨p, h1, ?_⟩
  cases p <;> simp only [faV, Option.some.injEq, reduceCtorEq] at hq
  subst hq
  simpa using hv

theorem Heap.sub.trans' {H H' H'' : Heap} (h : Heap.sub H H') (h' : Heap.sub H' H'') : Heap.sub H H'' := fun n b e => h' n b (h n b e)
theorem Heap.sub.none' {H H' : Heap} (h : Heap.sub H H') {n : Nat} (e : H' n = none) : H n = none := by
  cases h' : H n with
  | none => rfl
  | some b => rw [h n b h'] at e; cases e
theorem Heap.sub.upd' {H H' : Heap} (h : Heap.sub H H') {n : Nat} (e : H n = none) (b : Option Blk) : Heap.sub H (H'.upd n b) := by
  intro m c hm
  have : m ≠ n := by rintro rfl; rw [e] at hm; cases hm
  simp [Heap.upd, this, h m c hm]
theorem newC_intro {H : Heap} {b : Blk} {mkv : Nat → V} {d : Option Nat} {K : Env → Heap → Prop} {env : Env} (h : ∀ n H', H n = none → Heap.sub H H' → H' n = some b → K (env.put d (mkv n)) H') : newC H b mkv d K env :=
  fun n hn => h n _ hn (Heap.sub.upd' Heap.sub.rfl' hn _) (by simp [Heap.upd])
theorem stC_intro {H : Heap} {env : Env} {av : List Nat} {sz n o : Nat} {x : V} {d : Option Nat} {K : Env → Heap → Prop} {s : Nat} {cells : List V} (hb : H n = some ⟨true, s, cells⟩) (h1 : offAll env n av) (hx : x.cells.length = sz) (h0 : 0 < sz) (hl : o + sz ≤ cells.length)
    (hk : ∀ H', H' n = some ⟨true, s, splice cells o x.cells⟩ → (∀ m, m ≠ n → H' m = H m) → (∀ H0, Heap.sub H0 H → H0 n = none → Heap.sub H0 H') → K (env.put d und) H') : stC H env av sz (.ptr n o) x d K := by
  simp only [stC, hb]
  exact ⟨h1, trivial, hx, .inl h0, hl, hk _ (by simp [Heap.upd]) (fun m hm => by simp [Heap.upd, hm]) fun H0 hs hn => hs.upd' hn _⟩
/-- a store of nothing -/
theorem stC_empty {H : Heap} {env : Env} {av : List Nat} {n o : Nat} {d : Option Nat} {K : Env → Heap → Prop} {s : Nat} {cells : List V} (hb : H n = some ⟨true, s, cells⟩) (h1 : offAll env n av) (hl : o ≤ cells.length) (hk : K (env.put d und) H) : stC H env av 0 (.ptr n o) (.agg []) d K := by
  simp only [stC, hb]
  refine ⟨h1, trivial, rfl, .inr trivial, hl, ?_⟩
  have : H.upd n (some ⟨true, s, splice cells o (V.agg []).cells⟩) = H := by
    funext m
    by_cases e : m = n
    · subst e; simp [Heap.upd, hb, V.cells, splice]
    · simp [Heap.upd, e]
  rw [this]; exact hk
theorem mkC_intro {H : Heap} {env : Env} {d : Option Nat} {K : Env → Heap → Prop} {sz bytes : Nat} {zs : List V} {k1 k2 : IntKind} {l c : Nat} (h1 : l ≤ c) (h2 : c * bytes ≤ 281474976710656) (h3 : c ≤ 281474976710656)
    (hk : ∀ n H', H n = none → Heap.sub H H' → H' n = some ⟨true, sz, (List.replicate l zs).flatten⟩ → K (env.put d (.sl n 0 l (l == c))) H') : mkC H sz bytes zs (.int k1 l) (.int k2 c) d K env := by
  refine ⟨by omega, by omega, by omega, by omega, fun n hn => ?_⟩
  have e : ((l : Int) == (c : Int)) = (l == c) := by
    rw [Bool.eq_iff_iff, beq_iff_eq, beq_iff_eq]; omega
  simp only [Int.toNat_natCast, e]
  exact hk n _ hn (Heap.sub.upd' Heap.sub.rfl' hn _) (by simp [Heap.upd])
theorem cells_agg (cs : List V) : (V.agg cs).cells = cs := Eq.trans rfl rfl
theorem cells_int (k : IntKind) (i : Int) : (V.int k i).cells = [.int k i] := Eq.trans rfl rfl
theorem cells_bool (b : Bool) : (V.bool b).cells = [.bool b] := Eq.trans rfl rfl

theorem ld_box {H : Heap} {n : Nat} {own : Bool} {s : Nat} {cs : List V} {sz o : Nat} (h : H n = some ⟨own, s, cs⟩) : ldV H false sz (.ptr n o) = cs[o]? := by simp [ldV, h]
theorem ld_boxa {H : Heap} {n : Nat} {own : Bool} {s : Nat} {cs : List V} {sz o : Nat} (h : H n = some ⟨own, s, cs⟩) (hl : o + sz ≤ cs.length) : ldV H true sz (.ptr n o) = some (.agg ((cs.drop o).take sz)) := by simp [ldV, h, hl]
end Go.AM
