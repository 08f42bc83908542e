/- The abstract machine's values and heap, and how a world of the model bears them. Conditions: none. -/
import Derived.Below
import Derived.Orders
import Derived.Tactics
import Derived.Laws.CopyRow
import Derived.Laws.MakeOwn
import Derived.Laws.StructEq
import Derived.WideLaws
set_option linter.unusedVariables false
set_option linter.unusedSimpArgs false
namespace Go.AM
open Go



inductive V where
  | int (k : IntKind) (n : Int)
  | bool (b : Bool)
  | str (s : ByteArray)
  | ptr (n : Nat) (o : Nat)
  | nilp
  | sl (n : Nat) (o len : Nat) (full : Bool)
  | nils
  | fn (f : FuncId) (caps : List V)
  | nilf
  | ifc (t : TypeId) (v : V)
  | nili
  | agg (cs : List V)
  | tup (vs : List V)
  deriving Inhabited

def V.cells : V → List V
  | .agg cs => cs
  | .tup _ => []
  | v => [v]

/-- a cell's value -/
def V.one : V → Bool
  | .agg _ => false
  | .tup _ => false
  | _ => true

structure Loc where
  b : Nat
  x : Nat
  room : Option (Nat × Nat)

abbrev Map := Nat → Option Loc

/-- where a slice's value may point -/
def slAt (l : Loc) (o len cap : Nat) (a : Addr) : Prop :=
  a.block = l.b ∧ (len ≠ 0 ∨ o = 0 → a = ⟨l.b, l.x + o, none⟩) ∧
    ∀ sz c, l.room = some (sz, c) → o + cap * sz ≤ c ∨ (len = 0 ∧ o ≠ 0)

mutual
def VRel (μ : Map) : V → Value → Prop
  | .int k n, v => v = .int k n
  | .bool b, v => v = .bool b
  | .str s, v => v = .string s
  | .ptr n o, v => ∃ l, μ n = some l ∧ v = .pointer (some ⟨l.b, l.x + o, none⟩)
  | .nilp, v => v = .pointer none
  | .sl n o len full, v => ∃ l a cap, μ n = some l ∧ v = .slice (some a) len cap ∧ len ≤ cap ∧ (full = true → cap = len) ∧ slAt l o len cap a
  | .nils, v => v = .slice none 0 0
  | .fn f caps, v => ∃ cs : Array Value, v = .func (.func f) #[] cs ∧ VRels μ caps cs.toList
  | .nilf, v => v = .nilFunc
  | .ifc t u, v => ∃ x, v = .iface t x ∧ VRel μ u x
  | .nili, v => v = .nilIface
  | .agg cs, v => ∃ a : Array Value, v = .agg a ∧ VRels μ cs a.toList ∧ ∀ c ∈ cs, c.one = true
  | .tup cs, v => ∃ a : Array Value, v = .tuple a ∧ VRels μ cs a.toList
def VRels (μ : Map) : List V → List Value → Prop
  | [], vs => vs = []
  | v :: r, vs => ∃ x t, vs = x :: t ∧ VRel μ v x ∧ VRels μ r t
end

def Map.le (μ μ' : Map) : Prop := ∀ n l, μ n = some l → μ' n = some l

mutual
theorem VRel.mono {μ μ' : Map} (h : μ.le μ') : ∀ (v : V) (x : Value), VRel μ v x → VRel μ' v x
  | .int _ _, _, r | .bool _, _, r | .str _, _, r | .nilp, _, r | .nils, _, r | .nilf, _, r | .nili, _, r => by simpa only [VRel] using r
  | .ptr n o, _, r => by
    simp only [VRel] at r ⊢
    obtain ⟨l, hl, e⟩ := r
    exact ⟨l, h _ _ hl, e⟩
  | .sl n o len full, _, r => by
    simp only [VRel] at r ⊢
    obtain ⟨l, a, cap, hl, e⟩ := r
    exact ⟨l, a, cap, h _ _ hl, e⟩
  | .fn f caps, _, r => by
    simp only [VRel] at r ⊢
    obtain ⟨cs, e, hr⟩ := r
    exact ⟨cs, e, VRels.mono h _ _ hr⟩
  | .ifc t u, _, r => by
    simp only [VRel] at r ⊢
    obtain ⟨x, e, hr⟩ := r
    exact ⟨x, e, VRel.mono h _ _ hr⟩
  | .agg cs, _, r => by
    simp only [VRel] at r ⊢
    obtain ⟨a, e, hr, h1⟩ := r
    exact ⟨a, e, VRels.mono h _ _ hr, h1⟩
  | .tup cs, _, r => by
    simp only [VRel] at r ⊢
    obtain ⟨a, e, hr⟩ := r
    exact ⟨a, e, VRels.mono h _ _ hr⟩
theorem VRels.mono {μ μ' : Map} (h : μ.le μ') : ∀ (vs : List V) (xs : List Value), VRels μ vs xs → VRels μ' vs xs
  | [], _, r => by simpa only [VRels] using r
  | v :: r, _, hr => by
    simp only [VRels] at hr ⊢
    obtain ⟨x, t, e, h1, h2⟩ := hr
    exact ⟨x, t, e, VRel.mono h _ _ h1, VRels.mono h _ _ h2⟩
end

theorem VRels.length {μ : Map} : ∀ {vs : List V} {xs : List Value}, VRels μ vs xs → vs.length = xs.length
  | [], _, r => by simp only [VRels] at r; subst r; rfl
  | v :: r, _, hr => by
    simp only [VRels] at hr
    obtain ⟨x, t, rfl, _, h2⟩ := hr
    simp [VRels.length h2]

theorem VRels.get {μ : Map} : ∀ {vs : List V} {xs : List Value}, VRels μ vs xs → ∀ (i : Nat) (v : V), vs[i]? = some v → ∃ x, xs[i]? = some x ∧ VRel μ v x
  | [], _, _, i, v, h => by simp at h
  | u :: r, _, hr, i, v, h => by
    simp only [VRels] at hr
    obtain ⟨x, t, rfl, h1, h2⟩ := hr
    cases i with
    | zero => simp at h; subst h; exact ⟨x, rfl, h1⟩
    | succ i => simp at h; simpa using VRels.get h2 i v h

theorem VRels.of_get {μ : Map} : ∀ {vs : List V} {xs : List Value}, vs.length = xs.length → (∀ (i : Nat) (v : V) (x : Value), vs[i]? = some v → xs[i]? = some x → VRel μ v x) → VRels μ vs xs
  | [], [], _, _ => by simp only [VRels]
  | [], x :: t, h, _ => by simp at h
  | v :: r, [], h, _ => by simp at h
  | v :: r, x :: t, h, hg => by
    simp only [VRels]
    exact ⟨x, t, rfl, hg 0 v x rfl rfl, VRels.of_get (by simpa using h) fun i v x h1 h2 => hg (i + 1) v x (by simpa using h1) (by simpa using h2)⟩

theorem VRels.append {μ : Map} : ∀ {vs us : List V} {xs ys : List Value}, VRels μ vs xs → VRels μ us ys → VRels μ (vs ++ us) (xs ++ ys)
  | [], us, xs, ys, h, h' => by simp only [VRels] at h; subst h; simpa using h'
  | v :: r, us, xs, ys, h, h' => by
    simp only [VRels] at h
    obtain ⟨x, t, rfl, h1, h2⟩ := h
    simp only [List.cons_append, VRels]
    exact ⟨x, t ++ ys, rfl, h1, VRels.append h2 h'⟩

theorem VRels.take {μ : Map} : ∀ {vs : List V} {xs : List Value} (k : Nat), VRels μ vs xs → VRels μ (vs.take k) (xs.take k)
  | [], _, k, h => by simp only [VRels] at h; subst h; simp [VRels]
  | v :: r, xs, 0, h => by simp [VRels]
  | v :: r, xs, k + 1, h => by
    simp only [VRels] at h
    obtain ⟨x, t, rfl, h1, h2⟩ := h
    simp only [List.take_succ_cons, VRels]
    exact ⟨x, t.take k, rfl, h1, VRels.take k h2⟩

theorem VRels.drop {μ : Map} : ∀ {vs : List V} {xs : List Value} (k : Nat), VRels μ vs xs → VRels μ (vs.drop k) (xs.drop k)
  | vs, xs, 0, h => by simpa using h
  | [], _, k + 1, h => by simp only [VRels] at h; subst h; simp [VRels]
  | v :: r, xs, k + 1, h => by
    simp only [VRels] at h
    obtain ⟨x, t, rfl, h1, h2⟩ := h
    simpa using VRels.drop k h2

theorem VRels.set {μ : Map} : ∀ {vs : List V} {xs : List Value} (k : Nat) (v : V) (x : Value), VRels μ vs xs → VRel μ v x → VRels μ (vs.set k v) (xs.set k x)
  | [], _, k, v, x, h, _ => by simp only [VRels] at h; subst h; simp [VRels]
  | u :: r, xs, 0, v, x, h, hv => by
    simp only [VRels] at h
    obtain ⟨y, t, rfl, h1, h2⟩ := h
    simp only [List.set_cons_zero, VRels]
    exact ⟨x, t, rfl, hv, h2⟩
  | u :: r, xs, k + 1, v, x, h, hv => by
    simp only [VRels] at h
    obtain ⟨y, t, rfl, h1, h2⟩ := h
    simp only [List.set_cons_succ, VRels]
    exact ⟨y, t.set k x, rfl, h1, VRels.set k v x h2 hv⟩

theorem VRel.cells {μ : Map} {v : V} {x : Value} (h : VRel μ v x) : VRels μ v.cells (x.cells.toList.take v.cells.length) := by
  cases v <;> simp only [VRel] at h
  case agg cs => 
    obtain ⟨a, rfl, h, _⟩ := h
    show VRels μ cs (a.toList.take cs.length)
    rw [List.take_of_length_le (by rw [h.length]; exact Nat.le_refl _)]
    exact h
  case tup cs => simp [V.cells, VRels]
  case ptr => obtain ⟨l, h1, rfl⟩ := h; simp [V.cells, Value.cells, VRels, VRel, h1]
  case sl => obtain ⟨l, a, cap, h1, rfl, h2⟩ := h; simp [V.cells, Value.cells, VRels, VRel, h1]; exact ⟨a, cap, ⟨rfl, rfl⟩, h2⟩
  case fn => obtain ⟨cs, rfl, h⟩ := h; simp [V.cells, Value.cells, VRels, VRel]; exact h
  case ifc => obtain ⟨y, rfl, h⟩ := h; simp [V.cells, Value.cells, VRels, VRel]; exact h
  all_goals (subst h; simp [V.cells, Value.cells, VRels, VRel])

theorem VRel.cells_one {μ : Map} {v : V} {x : Value} (h : VRel μ v x) : ∀ c ∈ v.cells, c.one = true := by
  cases v <;> simp only [VRel] at h
  case agg cs => obtain ⟨a, rfl, _, h⟩ := h; exact h
  all_goals simp [V.cells, V.one]

theorem VRel.cells_size {μ : Map} {v : V} {x : Value} (h : VRel μ v x) (hc : v.cells ≠ []) : x.cells.size = v.cells.length := by
  cases v <;> simp only [VRel] at h
  case agg cs => obtain ⟨a, rfl, h, _⟩ := h; simp [V.cells, Value.cells, h.length]
  case tup cs => simp [V.cells] at hc
  case ptr => obtain ⟨l, h1, rfl⟩ := h; rfl
  case sl => obtain ⟨l, a, cap, h1, rfl, h2⟩ := h; rfl
  case fn => obtain ⟨cs, rfl, h⟩ := h; rfl
  case ifc => obtain ⟨y, rfl, h⟩ := h; rfl
  all_goals (subst h; rfl)

theorem VRel.one {μ : Map} {v : V} {x : Value} (h : VRel μ v x) (h1 : v.one = true) : x.oneCell' = true := by
  cases v <;> simp only [VRel] at h
  case agg cs => simp [V.one] at h1
  case tup cs => simp [V.one] at h1
  case ptr => obtain ⟨l, h1, rfl⟩ := h; rfl
  case sl => obtain ⟨l, a, cap, h1, rfl, h2⟩ := h; rfl
  case fn => obtain ⟨cs, rfl, h⟩ := h; rfl
  case ifc => obtain ⟨y, rfl, h⟩ := h; rfl
  all_goals (subst h; rfl)

structure Blk where
  own : Bool
  sz : Nat
  cells : List V

abbrev Heap := Nat → Option Blk

/-- what a world bears of a block -/
structure Bears (μ : Map) (w : World) (blk : Blk) (l : Loc) : Prop where
  cells : ∀ i v, blk.cells[i]? = some v → ∃ c, w.cell? ⟨l.b, l.x + i, none⟩ = some c ∧ VRel μ v c ∧ v.one = true
  own : blk.own = true → l.x = 0 ∧ ∃ c e, w.heap[l.b]? = some (.cells c e (0, 0)) ∧ l.room = some (blk.sz, c.size)
  notown : blk.own = false → l.room = none

structure Sim (μ : Map) (H : Heap) (w : World) : Prop where
  bears : ∀ n blk, H n = some blk → ∃ l, μ n = some l ∧ Bears μ w blk l
  apart : ∀ n blk m blk' l l', H n = some blk → blk.own = true → H m = some blk' → (blk'.own = true ∨ blk'.cells ≠ []) → n ≠ m → μ n = some l → μ m = some l' → l'.b ≠ l.b
  bound : ∃ N, ∀ n, N ≤ n → μ n = none

def Owns (μ : Map) (H : Heap) (b : Nat) : Prop := ∃ n blk l, H n = some blk ∧ blk.own = true ∧ μ n = some l ∧ l.b = b

structure Tr (μ : Map) (H : Heap) (w : World) (μ' : Map) (H' : Heap) (w' : World) : Prop where
  le : μ.le μ'
  size : w.heap.size ≤ w'.heap.size
  os : w'.os = w.os
  tape : w'.tape = w.tape
  output : w'.output = w.output
  frame : ∀ b, b < w.heap.size → ¬ Owns μ H b → w'.heap[b]? = w.heap[b]?
  own : ∀ b, Owns μ' H' b → w.heap.size ≤ b ∨ Owns μ H b
  fresh : ∀ n, H n = none → H' n ≠ none → μ n = none
  kept : ∀ n b, H' n = some b → b.own = false → H n = some b

theorem Tr.refl (μ : Map) (H : Heap) (w : World) : Tr μ H w μ H w :=
  ⟨fun _ _ h => h, Nat.le_refl _, rfl, rfl, rfl, fun _ _ _ => rfl, fun _ h => .inr h, fun _ h h' => absurd h h', fun _ _ h _ => h⟩

theorem Tr.trans {μ H w μ₁ H₁ w₁ μ₂ H₂ w₂} (h : Tr μ H w μ₁ H₁ w₁) (k : Tr μ₁ H₁ w₁ μ₂ H₂ w₂) : Tr μ H w μ₂ H₂ w₂ where
  le n l e := k.le _ _ (h.le _ _ e)
  size := Nat.le_trans h.size k.size
  os := k.os.trans h.os
  tape := k.tape.trans h.tape
  output := k.output.trans h.output
  frame b hb ho := by
    rw [k.frame b (Nat.lt_of_lt_of_le hb h.size) ?_, h.frame b hb ho]
    intro ho'
    rcases h.own b ho' with h' | h'
    · omega
    · exact ho h'
  own b ho := by
    rcases k.own b ho with h' | h'
    · exact .inl (Nat.le_trans h.size h')
    · exact h.own b h'
  fresh n hn hn' := by
    cases e : H₁ n with
    | none =>
      have := k.fresh n e hn'
      cases e' : μ n with
      | none => rfl
      | some l => rw [h.le _ _ e'] at this; cases this
    | some b => exact h.fresh n hn (by simp [e])
  kept n b e ho := h.kept n b (k.kept n b e ho) ho

/-- the same heap with fewer names -/
def Heap.sub (H H' : Heap) : Prop := ∀ n b, H n = some b → H' n = some b

theorem Sim.sub {μ : Map} {H H' : Heap} {w : World} (h : Sim μ H w) (hs : Heap.sub H' H) : Sim μ H' w where
  bears n blk e := h.bears n blk (hs _ _ e)
  apart n blk m blk' l l' e ho e' := h.apart n blk m blk' l l' (hs _ _ e) ho (hs _ _ e')
  bound := h.bound

theorem Owns.sub {μ : Map} {H H' : Heap} {b : Nat} (h : Owns μ H' b) (hs : Heap.sub H' H) : Owns μ H b := by
  obtain ⟨n, blk, l, e, r⟩ := h
  exact ⟨n, blk, l, hs _ _ e, r⟩

theorem Tr.sub {μ H w μ' H' H'' w'} (h : Tr μ H w μ' H' w') (hs : Heap.sub H'' H') : Tr μ H w μ' H'' w' where
  le := h.le
  size := h.size
  os := h.os
  tape := h.tape
  output := h.output
  frame := h.frame
  own b ho := h.own b (ho.sub hs)
  fresh n hn hn' := by
    refine h.fresh n hn ?_
    cases e : H'' n with
    | none => exact absurd e hn'
    | some b => rw [hs _ _ e]; simp
  kept n b e ho := h.kept n b (hs _ _ e) ho

def Heap.upd (H : Heap) (n : Nat) (b : Option Blk) : Heap := fun m => if m = n then b else H m

theorem upd_same (H : Heap) (n : Nat) (b : Option Blk) : Heap.upd H n b n = b := by simp [Heap.upd]
theorem upd_ne (H : Heap) (n m : Nat) (b : Option Blk) (h : m ≠ n) : Heap.upd H n b m = H m := by simp [Heap.upd, h]
theorem upd_old (H : Heap) (n m : Nat) (b : Option Blk) (hn : H n = none) (hm : (H m).isSome) : Heap.upd H n b m = H m := by
  refine upd_ne H n m b fun h => ?_
  subst h; simp [hn] at hm
theorem upd_comm (H : Heap) {n m : Nat} (b c : Option Blk) (h : n ≠ m) : Heap.upd (Heap.upd H n b) m c = Heap.upd (Heap.upd H m c) n b := by
  funext k
  simp only [Heap.upd]
  by_cases h1 : k = m <;> by_cases h2 : k = n <;> simp [h1, h2]
  · subst h1; subst h2; exact absurd rfl h
  · subst h1; simp [Ne.symm h]
  · subst h2; simp [h]

abbrev Env := Nat → V
def Env.put (env : Env) (d : Option Nat) (v : V) : Env :=
  match d with
  | some d => fun t => if t = d then v else env t
  | none => env

/-- undef -/
def und : V := .tup []

structure St (n : Nat) (μ : Map) (env : Env) (H : Heap) (a : Act) (w : World) : Prop where
  size : a.tmps.size = n
  tmps : ∀ t, t < n → VRel μ (env t) (a.tmps.getD t undef)
  defers : a.defers = []
  sim : Sim μ H w

theorem St.put {n μ env H a w} (h : St n μ env H a w) {d : Option Nat} {v : V} {x : Value} (hv : VRel μ v x) : St n μ (env.put d v) H (a.put d x) w := by
  cases d with
  | none => exact h
  | some d =>
    refine ⟨by simp [Act.put, h.size], fun t ht => ?_, h.defers, h.sim⟩
    simp only [Env.put, Act.put]
    by_cases e : t = d
    · subst e
      have : t < a.tmps.size := by rw [h.size]; exact ht
      simp [this, hv]
    · have := h.tmps t ht
      simp only [e, if_false]
      rw [show (a.tmps.setIfInBounds d x).getD t undef = a.tmps.getD t undef by simp [Array.getElem?_setIfInBounds_ne (Ne.symm e)]]
      exact this

theorem St.mono {n μ env H a w μ' H' w'} (h : St n μ env H a w) (hle : μ.le μ') (hs : Sim μ' H' w') : St n μ' env H' a w' :=
  ⟨h.size, fun t ht => VRel.mono hle _ _ (h.tmps t ht), h.defers, hs⟩

end Go.AM

/- What allocating, storing and appending do to a heap of the abstract machine and to the world that bears it. Conditions: as each states. -/
set_option linter.unusedVariables false
set_option linter.unusedSimpArgs false
namespace Go.AM
open Go

theorem cell?_congr {w w' : World} {b : Nat} (h : w'.heap[b]? = w.heap[b]?) (o : Nat) : w'.cell? ⟨b, o, none⟩ = w.cell? ⟨b, o, none⟩ := by
  simp [World.cell?, h]

theorem Bears.keep {μ μ' : Map} {w w' : World} {blk : Blk} {l : Loc} (h : Bears μ w blk l) (hle : μ.le μ') (hw : w'.heap[l.b]? = w.heap[l.b]?) : Bears μ' w' blk l where
  cells i v e := by
    obtain ⟨c, h1, h2, h3⟩ := h.cells i v e
    exact ⟨c, by rw [cell?_congr hw]; exact h1, VRel.mono hle _ _ h2, h3⟩
  own ho := by
    obtain ⟨h1, c, e, h2, h3⟩ := h.own ho
    exact ⟨h1, c, e, by rw [hw]; exact h2, h3⟩
  notown := h.notown

theorem Bears.lt {μ : Map} {w : World} {blk : Blk} {l : Loc} (h : Bears μ w blk l) (hn : blk.own = true ∨ blk.cells ≠ []) : l.b < w.heap.size := by
  rcases hn with ho | hc
  · obtain ⟨_, c, e, h2, _⟩ := h.own ho
    exact (Array.getElem?_eq_some_iff.1 h2).1
  · cases hcs : blk.cells with
    | nil => exact absurd hcs hc
    | cons v r =>
      obtain ⟨c, h1, _⟩ := h.cells 0 v (by simp [hcs])
      simp only [World.cell?] at h1
      cases hh : w.heap[l.b]? with
      | none => simp [hh] at h1
      | some o => exact (Array.getElem?_eq_some_iff.1 hh).1

theorem Bears.empty {μ' : Map} {w' : World} {blk : Blk} {l : Loc} (h1 : blk.own = false) (h2 : blk.cells = []) (h3 : l.room = none) : Bears μ' w' blk l where
  cells i v e := by simp [h2] at e
  own ho := by simp [h1] at ho
  notown _ := h3

theorem Sim.freshName {μ : Map} {H : Heap} {w : World} (h : Sim μ H w) : ∃ n, μ n = none ∧ H n = none := by
  obtain ⟨N, hN⟩ := h.bound
  refine ⟨N, hN N (Nat.le_refl _), ?_⟩
  cases e : H N with
  | none => rfl
  | some b => obtain ⟨l, hl, _⟩ := h.bears N b e; rw [hN N (Nat.le_refl _)] at hl; cases hl

def Map.set (μ : Map) (n : Nat) (l : Loc) : Map := fun m => if m = n then some l else μ m
theorem Map.set_same (μ : Map) (n : Nat) (l : Loc) : Map.set μ n l n = some l := by simp [Map.set]
theorem Map.set_ne (μ : Map) {n m : Nat} (l : Loc) (h : m ≠ n) : Map.set μ n l m = μ m := by simp [Map.set, h]
theorem Map.le_set {μ : Map} {n : Nat} (l : Loc) (h : μ n = none) : μ.le (Map.set μ n l) := by
  intro m l' e
  by_cases hm : m = n
  · subst hm; rw [h] at e; cases e
  · rw [Map.set_ne _ _ hm]; exact e

theorem Sim.bound_set {μ : Map} {n : Nat} {l : Loc} (h : ∃ N, ∀ n, N ≤ n → μ n = none) : ∃ N, ∀ m, N ≤ m → Map.set μ n l m = none := by
  obtain ⟨N, hN⟩ := h
  refine ⟨max N (n + 1), fun m hm => ?_⟩
  rw [Map.set_ne _ _ (by omega)]
  exact hN m (by omega)

/-- a live name that holds something -/
def Blk.full (blk : Blk) : Prop := blk.own = true ∨ blk.cells ≠ []

theorem Sim.lt {μ : Map} {H : Heap} {w : World} (h : Sim μ H w) {n : Nat} {blk : Blk} {l : Loc} (e : H n = some blk) (hl : μ n = some l) (hf : blk.own = true ∨ blk.cells ≠ []) : l.b < w.heap.size := by
  obtain ⟨l', hl', hb⟩ := h.bears n blk e
  rw [hl] at hl'
  obtain rfl := Option.some.inj hl'
  exact hb.lt hf

theorem Bears.keepAll {μ μ' : Map} {w w' : World} {blk : Blk} {l : Loc} (h : Bears μ w blk l) (hle : μ.le μ') (hw : (blk.own = true ∨ blk.cells ≠ []) → w'.heap[l.b]? = w.heap[l.b]?) : Bears μ' w' blk l := by
  by_cases hq : blk.own = true ∨ blk.cells ≠ []
  · exact h.keep hle (hw hq)
  · have ho : blk.own = false := by
      cases ho' : blk.own with
      | false => rfl
      | true => exact absurd (.inl ho') hq
    refine Bears.empty ho ?_ (h.notown ho)
    · cases hc' : blk.cells with
      | nil => rfl
      | cons a r => exact absurd (.inr (by simp [hc'])) hq

theorem Sim.live {μ : Map} {H : Heap} {w : World} (h : Sim μ H w) {n : Nat} (hn : μ n = none) : H n = none := by
  cases e' : H n with
  | none => rfl
  | some b => obtain ⟨l, hl, _⟩ := h.bears n b e'; rw [hn] at hl; cases hl

/-- a new block of the call's own -/
theorem Sim.alloc {μ : Map} {H : Heap} {w : World} (h : Sim μ H w) {n : Nat} (hn : μ n = none) {c : Array Value} {e : TypeId} {vs : List V} {sz : Nat}
    (hv : VRels μ vs (c.toList.take vs.length)) (ho : ∀ v ∈ vs, v.one = true) {w' : World} (hw : w' = { w with heap := w.heap.push (.cells c e) }) :
    Sim (Map.set μ n ⟨w.heap.size, 0, some (sz, c.size)⟩) (Heap.upd H n (some ⟨true, sz, vs⟩)) w' ∧
    Tr μ H w (Map.set μ n ⟨w.heap.size, 0, some (sz, c.size)⟩) (Heap.upd H n (some ⟨true, sz, vs⟩)) w' := by
  subst hw
  have hle := Map.le_set ⟨w.heap.size, 0, some (sz, c.size)⟩ hn
  have hold : ∀ b, b < w.heap.size → (w.heap.push (.cells c e))[b]? = w.heap[b]? := fun b hb => by
    rw [Array.getElem?_push, if_neg (by omega)]
  have hHn : H n = none := h.live hn
  constructor
  · refine ⟨fun m blk em => ?_, fun m blk m' blk' l l' em hown em' hf' hne hl hl' => ?_, Sim.bound_set h.bound⟩
    · by_cases hm : m = n
      · subst hm
        rw [upd_same] at em
        obtain rfl := Option.some.inj em
        refine ⟨_, Map.set_same _ _ _, fun i v ei => ?_, fun _ => ⟨rfl, c, e, by simp, rfl⟩, fun h => by cases h⟩
        obtain ⟨x, hx, hr⟩ := hv.get i v ei
        have hi : i < vs.length := (List.getElem?_eq_some_iff.1 ei).1
        rw [List.getElem?_take_of_lt hi] at hx
        refine ⟨x, ?_, VRel.mono hle _ _ hr, ho v (List.mem_of_getElem? ei)⟩
        simp only [World.cell?, Array.getElem?_push_size, Option.isSome_none, Bool.false_eq_true, if_false]
        simpa using hx
      · rw [upd_ne _ _ _ _ hm] at em
        obtain ⟨l, hl, hb⟩ := h.bears m blk em
        exact ⟨l, by rw [Map.set_ne _ _ hm]; exact hl, hb.keepAll hle fun hf => hold _ (hb.lt hf)⟩
    · by_cases hm : m = n
      · subst hm
        rw [Map.set_same] at hl
        obtain rfl := Option.some.inj hl
        rw [upd_ne _ _ _ _ (Ne.symm hne)] at em'
        rw [Map.set_ne _ _ (Ne.symm hne)] at hl'
        have := h.lt em' hl' hf'
        simp only; omega
      · rw [upd_ne _ _ _ _ hm] at em
        rw [Map.set_ne _ _ hm] at hl
        have hlt := h.lt em hl (.inl hown)
        by_cases hm' : m' = n
        · subst hm'
          rw [Map.set_same] at hl'
          obtain rfl := Option.some.inj hl'
          simp only; omega
        · rw [upd_ne _ _ _ _ hm'] at em'
          rw [Map.set_ne _ _ hm'] at hl'
          exact h.apart m blk m' blk' l l' em hown em' hf' hne hl hl'
  · refine ⟨hle, by simp, rfl, rfl, rfl, fun b hb _ => hold b hb, fun b ⟨m, blk, l, em, hown, hl, hb⟩ => ?_, fun m hm hm' => ?_, fun m bb hm hm' => ?_⟩
    · by_cases hmn : m = n
      · subst hmn
        rw [Map.set_same] at hl
        obtain rfl := Option.some.inj hl
        left; simp only at hb; omega
      · rw [upd_ne _ _ _ _ hmn] at em
        rw [Map.set_ne _ _ hmn] at hl
        exact .inr ⟨m, blk, l, em, hown, hl, hb⟩
    · by_cases hmn : m = n
      · subst hmn; exact hn
      · rw [upd_ne _ _ _ _ hmn] at hm'; exact absurd hm hm'
    · by_cases hmn : m = n
      · subst hmn; rw [upd_same] at hm; obtain rfl := Option.some.inj hm; cases hm'
      · rw [upd_ne _ _ _ _ hmn] at hm; exact hm

/-- writing into a block of the call's own: what stands there in the end -/
theorem Sim.write {μ : Map} {H : Heap} {w : World} (h : Sim μ H w) {n : Nat} {blk : Blk} {l : Loc} (en : H n = some blk) (ho : blk.own = true) (hl : μ n = some l)
    {c' : Array Value} {e : TypeId} {vs : List V} {c : Array Value} (hc : w.heap[l.b]? = some (.cells c e (0, 0))) (hsz : c'.size = c.size)
    (hv : VRels μ vs (c'.toList.take vs.length)) (h1 : ∀ v ∈ vs, v.one = true) {w' : World} (hw : w' = w.setRow l.b c') :
    Sim μ (Heap.upd H n (some ⟨true, blk.sz, vs⟩)) w' ∧ Tr μ H w μ (Heap.upd H n (some ⟨true, blk.sz, vs⟩)) w' := by
  subst hw
  have hlt : l.b < w.heap.size := (Array.getElem?_eq_some_iff.1 hc).1
  have hold : ∀ b, b ≠ l.b → (w.setRow l.b c').heap[b]? = w.heap[b]? := fun b hb => setRow_other w l.b b c' hb
  have hnew : (w.setRow l.b c').heap[l.b]? = some (.cells c' e (0, 0)) := setRow_heap w l.b c c' e _ hc
  obtain ⟨l0, hl0, hb0⟩ := h.bears n blk en
  rw [hl] at hl0
  obtain rfl := Option.some.inj hl0
  obtain ⟨hx, c0, e0, hc0, hroom⟩ := hb0.own ho
  rw [hc] at hc0
  obtain ⟨rfl, rfl⟩ : c = c0 ∧ e = e0 := by simpa using hc0
  constructor
  · refine ⟨fun m b em => ?_, fun m b m' b' k k' em hown em' hf' hne hk hk' => ?_, h.bound⟩
    · by_cases hm : m = n
      · subst hm
        rw [upd_same] at em
        obtain rfl := Option.some.inj em
        refine ⟨l, hl, fun i v ei => ?_, fun _ => ⟨hx, c', e, hnew, by rw [hsz]; exact hroom⟩, fun h => by cases h⟩
        obtain ⟨x, hx', hr⟩ := hv.get i v ei
        have hi : i < vs.length := (List.getElem?_eq_some_iff.1 ei).1
        rw [List.getElem?_take_of_lt hi] at hx'
        refine ⟨x, ?_, hr, h1 v (List.mem_of_getElem? ei)⟩
        simp only [World.cell?, hnew, hx, Nat.zero_add, Option.isSome_none, Bool.false_eq_true, if_false]
        simpa using hx'
      · rw [upd_ne _ _ _ _ hm] at em
        obtain ⟨k, hk, hb⟩ := h.bears m b em
        exact ⟨k, hk, hb.keepAll (fun _ _ h => h) fun hf => hold _ (h.apart n blk m b l k en ho em hf (Ne.symm hm) hl hk)⟩
    · by_cases hm : m = n
      · subst hm
        rw [upd_ne _ _ _ _ (Ne.symm hne)] at em'
        exact h.apart m blk m' b' k k' en ho em' hf' hne hk hk'
      · rw [upd_ne _ _ _ _ hm] at em
        by_cases hm' : m' = n
        · subst hm'
          exact h.apart m b m' blk k k' em hown en (.inl ho) hne hk hk'
        · rw [upd_ne _ _ _ _ hm'] at em'
          exact h.apart m b m' b' k k' em hown em' hf' hne hk hk'
  · refine ⟨fun _ _ h => h, by simp, rfl, rfl, rfl, fun b hb hno => hold b fun hbl => hno ⟨n, blk, l, en, ho, hl, hbl.symm⟩, fun b ⟨m, bk, k, em, hown, hk, hb⟩ => ?_, fun m hm hm' => ?_, fun m bb hm hm' => ?_⟩
    · right
      by_cases hmn : m = n
      · subst hmn; exact ⟨m, blk, k, en, ho, hk, hb⟩
      · rw [upd_ne _ _ _ _ hmn] at em
        exact ⟨m, bk, k, em, hown, hk, hb⟩
    · by_cases hmn : m = n
      · subst hmn; rw [en] at hm; cases hm
      · rw [upd_ne _ _ _ _ hmn] at hm'; exact absurd hm hm'
    · by_cases hmn : m = n
      · subst hmn; rw [upd_same] at hm; obtain rfl := Option.some.inj hm; cases hm'
      · rw [upd_ne _ _ _ _ hmn] at hm; exact hm

/-- a block of the call's own goes on under another name -/
theorem Sim.rename {μ : Map} {H : Heap} {w : World} (h : Sim μ H w) {n m : Nat} {blk : Blk} {l : Loc} (en : H n = some blk) (ho : blk.own = true) (hl : μ n = some l) (hm : μ m = none) :
    Sim (Map.set μ m l) (Heap.upd (Heap.upd H n none) m (some blk)) w ∧ Tr μ H w (Map.set μ m l) (Heap.upd (Heap.upd H n none) m (some blk)) w := by
  have hle := Map.le_set l hm
  have hmn : m ≠ n := fun e => by subst e; rw [hl] at hm; cases hm
  have hHm : H m = none := h.live hm
  obtain ⟨l0, hl0, hb0⟩ := h.bears n blk en
  rw [hl] at hl0
  obtain rfl := Option.some.inj hl0
  have hget : ∀ k, k ≠ m → k ≠ n → Heap.upd (Heap.upd H n none) m (some blk) k = H k := fun k h1 h2 => by rw [upd_ne _ _ _ _ h1, upd_ne _ _ _ _ h2]
  have hgn : Heap.upd (Heap.upd H n none) m (some blk) n = none := by rw [upd_ne _ _ _ _ (Ne.symm hmn), upd_same]
  have hgm : Heap.upd (Heap.upd H n none) m (some blk) m = some blk := upd_same _ _ _
  constructor
  · refine ⟨fun k b ek => ?_, fun k b k' b' j j' ek hown ek' hf' hne hj hj' => ?_, Sim.bound_set h.bound⟩
    · by_cases hkm : k = m
      · subst hkm
        rw [hgm] at ek
        obtain rfl := Option.some.inj ek
        exact ⟨l, Map.set_same _ _ _, hb0.keep hle rfl⟩
      · by_cases hkn : k = n
        · subst hkn; rw [hgn] at ek; cases ek
        · rw [hget k hkm hkn] at ek
          obtain ⟨j, hj, hb⟩ := h.bears k b ek
          exact ⟨j, by rw [Map.set_ne _ _ hkm]; exact hj, hb.keep hle rfl⟩
    · have hkn : k ≠ n := fun e => by subst e; rw [hgn] at ek; cases ek
      have hkn' : k' ≠ n := fun e => by subst e; rw [hgn] at ek'; cases ek'
      by_cases hkm : k = m
      · subst hkm
        rw [Map.set_same] at hj
        obtain rfl := Option.some.inj hj
        rw [hget k' (Ne.symm hne) hkn'] at ek'
        rw [Map.set_ne _ _ (Ne.symm hne)] at hj'
        exact h.apart n blk k' b' l j' en ho ek' hf' (Ne.symm hkn') hl hj'
      · rw [hget k hkm hkn] at ek
        rw [Map.set_ne _ _ hkm] at hj
        by_cases hkm' : k' = m
        · subst hkm'
          rw [Map.set_same] at hj'
          obtain rfl := Option.some.inj hj'
          exact h.apart k b n blk j l ek hown en (.inl ho) hkn hj hl
        · rw [hget k' hkm' hkn'] at ek'
          rw [Map.set_ne _ _ hkm'] at hj'
          exact h.apart k b k' b' j j' ek hown ek' hf' hne hj hj'
  · refine ⟨hle, Nat.le_refl _, rfl, rfl, rfl, fun _ _ _ => rfl, fun b ⟨k, bk, j, ek, hown, hj, hb⟩ => ?_, fun k hk hk' => ?_, fun k bb hk hk' => ?_⟩
    · right
      by_cases hkm : k = m
      · subst hkm
        rw [Map.set_same] at hj
        obtain rfl := Option.some.inj hj
        exact ⟨n, blk, l, en, ho, hl, hb⟩
      · have hkn : k ≠ n := fun e => by subst e; rw [hgn] at ek; cases ek
        rw [hget k hkm hkn] at ek
        rw [Map.set_ne _ _ hkm] at hj
        exact ⟨k, bk, j, ek, hown, hj, hb⟩
    · by_cases hkm : k = m
      · subst hkm; exact hm
      · by_cases hkn : k = n
        · subst hkn; exact absurd hgn hk'
        · rw [hget k hkm hkn] at hk'; exact absurd hk hk'
    · by_cases hkm : k = m
      · subst hkm; rw [hgm] at hk; obtain rfl := Option.some.inj hk; rw [ho] at hk'; cases hk'
      · by_cases hkn : k = n
        · subst hkn; rw [hgn] at hk; cases hk
        · rw [hget k hkm hkn] at hk; exact hk

end Go.AM

/- The instructions of the abstract machine, and how they are made from the operations of a program. Conditions: none. -/
set_option linter.unusedVariables false
set_option linter.unusedSimpArgs false
namespace Go.AM
open Go

inductive Opd where
  | s (t : Nat)
  | c (v : V)
  deriving Inhabited

def Opd.ev (env : Env) : Opd → V
  | .s t => env t
  | .c v => v

inductive I where
  | mov (x : Opd)
  | pick (c a b : Opd)
  | new (x : Opd)
  | zero (zs : List V)
  | ld (agg : Bool) (sz : Nat) (x : Opd) (rt : Option Nat)
  | st (sz : Nat) (a x : Opd) (av : List Nat)
  | bin (op : BinOp) (x y : Opd)
  | beq (neg : Bool) (x y : Opd)
  | isnil (neg : Bool) (k : Nat) (x : Opd)
  | eqs (neg : Bool) (n : Nat) (x y : Opd)
  | un (op : UnOp) (x : Opd)
  | conv (k : IntKind) (x : Opd)
  | fa (off : Nat) (x : Opd)
  | fld (agg : Bool) (off sz : Nat) (x : Opd)
  | ia (sz : Nat) (x i : Opd)
  | mk (sz bytes : Nat) (zs : List V) (len cap : Opd)
  | sli (sz : Nat) (x : Opd) (lo hi mx : Option Opd)
  | ext (x : Opd) (i : Nat)
  | ifc (t : TypeId) (x : Opd)
  | mkf (f : FuncId) (caps : List Opd)
  | agg (zs : List V) (parts : List (Nat × Nat × Opd))
  | bsl (sz len : Nat) (zs : List V) (parts : List (Nat × Nat × Opd))
  | len (x : Opd)
  | app (sz bytes : Nat) (s x : Opd) (av : List Nat)
  | cpy (sz : Nat) (d s : Opd)
  | mm (mx : Bool) (x y : Opd)
  | nilchk (x : Opd)
  | call (f : Opd) (args : List Opd)
  | inv (x : Opd) (t : TypeId) (f : FuncId) (args : List Opd)
  | bad
  deriving Inhabited

/-- an instruction with its guard and the slot that it fills; p: a call that leaves alone what was there -/
structure GI where
  g : Option (Nat × Bool)
  p : Bool
  d : Option Nat
  i : I
  deriving Inhabited

def mapO {α β : Type} (f : α → Option β) : List α → Option (List β)
  | [] => some []
  | a :: r => match f a with
    | none => none
    | some b => match mapO f r with
      | none => none
      | some bs => some (b :: bs)

/-! ### what the quiet instructions come to -/

def splice (l : List V) (o : Nat) (xs : List V) : List V := l.take o ++ xs ++ l.drop (o + xs.length)

def fillV (cells : List V) : List (Nat × Nat × V) → Option (List V)
  | [] => some cells
  | (off, sz, v) :: r => if v.cells.length = sz ∧ 0 < sz ∧ off + sz ≤ cells.length then fillV (splice cells off v.cells) r else none

def binV : BinOp → V → V → Option V
  | .add, .int k a, .int k' b => if k = k' then some (.int k (k.wrap (a + b))) else none
  | .sub, .int k a, .int k' b => if k = k' then some (.int k (k.wrap (a - b))) else none
  | .mul, .int k a, .int k' b => if k = k' then some (.int k (k.wrap (a * b))) else none
  | .quo, .int k a, .int k' b => if k = k' ∧ b ≠ 0 then some (.int k (k.wrap (a.tdiv b))) else none
  | .rem, .int k a, .int k' b => if k = k' ∧ b ≠ 0 then some (.int k (a.tmod b)) else none
  | .and, .int k a, .int k' b => if k = k' then some (.int k (k.wrap (BitVec.ofInt k.bits a &&& BitVec.ofInt k.bits b).toNat)) else none
  | .or, .int k a, .int k' b => if k = k' then some (.int k (k.wrap (BitVec.ofInt k.bits a ||| BitVec.ofInt k.bits b).toNat)) else none
  | .xor, .int k a, .int k' b => if k = k' then some (.int k (k.wrap (BitVec.ofInt k.bits a ^^^ BitVec.ofInt k.bits b).toNat)) else none
  | .shl, .int k a, .int _ b => if 0 ≤ b then some (.int k (k.wrap (a * 2 ^ (min b.toNat k.bits)))) else none
  | .shr, .int k a, .int _ b => if 0 ≤ b then some (.int k (a.fdiv (2 ^ (min b.toNat k.bits)))) else none
  | .eql, .int k a, .int k' b => if k = k' then some (.bool (a == b)) else none
  | .neq, .int k a, .int k' b => if k = k' then some (.bool (a != b)) else none
  | .lss, .int k a, .int k' b => if k = k' then some (.bool (decide (a < b))) else none
  | .leq, .int k a, .int k' b => if k = k' then some (.bool (decide (a ≤ b))) else none
  | .gtr, .int k a, .int k' b => if k = k' then some (.bool (decide (a > b))) else none
  | .geq, .int k a, .int k' b => if k = k' then some (.bool (decide (a ≥ b))) else none
  | _, _, _ => none

def unV : UnOp → V → Option V
  | .neg, .int k n => some (.int k (k.wrap (0 - n)))
  | .not, .bool b => some (.bool (!b))
  | _, _ => none

def nilV : Nat → V → Option Bool
  | 0, .nils => some true
  | 0, .sl .. => some false
  | 1, .nilp => some true
  | 1, .ptr .. => some false
  | 2, .nilf => some true
  | 2, .fn .. => some false
  | _, _ => none

def eqCells : List V → List V → Option Bool
  | [], [] => some true
  | .int k a :: r, .int k' b :: s => if k = k' then (eqCells r s).map fun e => (a == b) && e else none
  | _, _ => none

def cutOf (o : Option V) (d : Nat) : Option Nat :=
  match o with
  | none => some d
  | some (.int _ i) => if 0 ≤ i then some i.toNat else none
  | some _ => none

def sliV (H : Heap) (sz : Nat) (x : V) (lo hi mx : Option V) : Option V :=
  match x with
  | .nils => match cutOf lo 0, cutOf hi 0, cutOf mx 0 with
    | some 0, some 0, some 0 => if 0 < sz ∧ (mx.isNone || hi.isSome) = true then some .nils else none
    | _, _, _ => none
  | .sl n o len full => match H n, cutOf lo 0, cutOf hi len with
    | some b, some l, some h =>
      if l ≤ h ∧ h ≤ len ∧ 0 < sz ∧ b.sz = sz then
        match mx with
        | none => some (.sl n (o + l * sz) (h - l) (full && h == len))
        | some m => match cutOf (some m) 0 with
          | some m => if h ≤ m ∧ m ≤ len ∧ hi.isSome = true then some (.sl n (o + l * sz) (h - l) (m == h)) else none
          | none => none
      else none
    | _, _, _ => none
  | _ => none

def ldV (H : Heap) (agg : Bool) (sz : Nat) : V → Option V
  | .ptr n o => match H n with
    | some b => if agg then (if o + sz ≤ b.cells.length then some (.agg ((b.cells.drop o).take sz)) else none) else b.cells[o]?
    | none => none
  | _ => none

def lenR : V → Option V
  | .sl _ _ len _ => some (.int .i64 len)
  | .nils => some (.int .i64 0)
  | _ => none

def mmV (mx : Bool) : V → V → Option V
  | .int k a, .int k' b => if k = k' then some (.int k (if mx then (if b > a then b else a) else (if b < a then b else a))) else none
  | _, _ => none

/-- pointers into one block -/
def sameName : V → V → Bool
  | .ptr n _, .ptr m _ => n == m
  | _, _ => false

/-- none of these slots points into block n -/
def offAll (env : Env) (n : Nat) : List Nat → Prop
  | [] => True
  | s :: r => (match env s with | .ptr m _ => m ≠ n | _ => True) ∧ offAll env n r

/-- quiet instructions: the value they give -/
def pv (i : I) (env : Env) (H : Heap) : Option V :=
  match i with
  | .mov x => some (x.ev env)
  | .pick c a b => match c.ev env with
    | .bool true => some (a.ev env)
    | .bool false => some (b.ev env)
    | _ => none
  | .ld agg sz x rt => match rt with
    | none => ldV H agg sz (x.ev env)
    | some r => if sameName (x.ev env) (env r) then ldV H agg sz (x.ev env) else none
  | .bin op x y => binV op (x.ev env) (y.ev env)
  | .beq neg x y => match x.ev env, y.ev env with
    | .bool a, .bool b => some (.bool ((a == b) != neg))
    | _, _ => none
  | .isnil neg k x => (nilV k (x.ev env)).map fun b => .bool (b != neg)
  | .eqs neg n x y => match x.ev env, y.ev env with
    | .agg xs, .agg ys => if xs.length = n then (eqCells xs ys).map fun b => .bool (b != neg) else none
    | _, _ => none
  | .un op x => unV op (x.ev env)
  | .conv k x => match x.ev env with
    | .int _ n => some (.int k (k.wrap n))
    | _ => none
  | .fa off x => match x.ev env with
    | .ptr n o => some (.ptr n (o + off))
    | _ => none
  | .fld agg off sz x => match x.ev env with
    | .agg cs => if agg then (if off + sz ≤ cs.length then some (.agg ((cs.drop off).take sz)) else none) else cs[off]?
    | _ => none
  | .ia sz x i => match x.ev env, i.ev env with
    | .sl n o len _, .int _ j => if 0 ≤ j ∧ j < len then some (.ptr n (o + j.toNat * sz)) else none
    | _, _ => none
  | .sli sz x lo hi mx => sliV H sz (x.ev env) (lo.map (Opd.ev env)) (hi.map (Opd.ev env)) (mx.map (Opd.ev env))
  | .ext x i => match x.ev env with
    | .tup vs => vs[i]?
    | _ => none
  | .ifc t x => some (.ifc t (x.ev env))
  | .mkf f caps => some (.fn f (caps.map (Opd.ev env)))
  | .agg zs parts => (fillV zs (parts.map fun p => (p.1, p.2.1, p.2.2.ev env))).map V.agg
  | .len x => lenR (x.ev env)
  | .mm mx x y => mmV mx (x.ev env) (y.ev env)
  | .nilchk x => match x.ev env with
    | .ptr n o => some (.ptr n o)
    | .fn f caps => some (.fn f caps)
    | .sl n o len full => some (.sl n o len full)
    | .nils => some .nils
    | _ => none
  | _ => none

/-! ### calls -/

def okFn (P : Program) (f : FuncId) : Bool :=
  match P.funcs[f]? with
  | some fn => fn.body.isSome && fn.name != "runtime.NumGoroutine"
  | none => false

/-- THE CONTRACT OF A CALL: in every world that bears H, the call returns a value of R, and changes no memory beyond what H owns. -/
def ACalls (P : Program) (f : FuncId) (args : List V) (H : Heap) (R : V → Heap → Prop) : Prop :=
  okFn P f = true ∧ ∀ (μ : Map) (w : World) (cargs : Array Value), Sim μ H w → VRels μ args cargs.toList →
    Calls P f cargs w fun e w' => ∃ μ' cv v H', e = .returned cv ∧ Tr μ H w μ' H' w' ∧ Sim μ' H' w' ∧ VRel μ' v cv ∧ R v H'

theorem ACalls.mono {P f args H R R'} (h : ACalls P f args H R) (hr : ∀ v H', R v H' → R' v H') : ACalls P f args H R' :=
  ⟨h.1, fun μ w cargs hs hv => (h.2 μ w cargs hs hv).mono fun e w' ⟨μ', cv, v, H', a, b, c, d, r⟩ => ⟨μ', cv, v, H', a, b, c, d, hr _ _ r⟩⟩

/-- the cells of a slice's elements -/
def cellsAt (H : Heap) (sz : Nat) : V → Option (List V)
  | .nils => some []
  | .sl n o len _ => if len = 0 then some [] else match H n with
    | some b => if o + len * sz ≤ b.cells.length then some ((b.cells.drop o).take (len * sz)) else none
    | none => none
  | _ => none

def lenV : V → Nat
  | .sl _ _ len _ => len
  | _ => 0

/-- an instruction: K takes the value that it gives and the heap behind it -/
def iwp (P : Program) (i : I) (K : V → Heap → Prop) (env : Env) (H : Heap) : Prop :=
  match i with
  | .new x => ∀ n, H n = none → K (.ptr n 0) (H.upd n (some ⟨true, 1, (x.ev env).cells⟩))
  | .zero zs => ∀ n, H n = none → K (.ptr n 0) (H.upd n (some ⟨true, 1, zs⟩))
  | .st sz a x av => match a.ev env with
    | .ptr n o => match H n with
      | some b => offAll env n av ∧ b.own = true ∧ (x.ev env).cells.length = sz ∧ (0 < sz ∨ x.ev env = .agg []) ∧ o + sz ≤ b.cells.length ∧ K und (H.upd n (some ⟨true, b.sz, splice b.cells o (x.ev env).cells⟩))
      | none => False
    | _ => False
  | .mk sz bytes zs l c => match l.ev env, c.ev env with
    | .int _ len, .int _ cap => 0 ≤ len ∧ len ≤ cap ∧ cap * bytes ≤ 281474976710656 ∧ cap ≤ 281474976710656 ∧
      ∀ n, H n = none → K (.sl n 0 len.toNat (len == cap)) (H.upd n (some ⟨true, sz, (List.replicate len.toNat zs).flatten⟩))
    | _, _ => False
  | .bsl sz len zs parts => match fillV zs (parts.map fun p => (p.1, p.2.1, p.2.2.ev env)) with
    | some cs => ∀ n, H n = none → K (.sl n 0 len true) (H.upd n (some ⟨true, sz, cs⟩))
    | none => False
  | .app sz bytes s x av => match cellsAt H sz (x.ev env) with
    | some ys => (lenV (s.ev env) + lenV (x.ev env)) * bytes ≤ 140737488355328 ∧ (lenV (s.ev env) + lenV (x.ev env)) ≤ 140737488355328 ∧
      if lenV (x.ev env) = 0 then K (s.ev env) H ∧ (s.ev env = .nils ∨ ∃ n o l f, s.ev env = .sl n o l f) else
      match s.ev env with
      | .nils => ∀ m, H m = none → K (.sl m 0 (lenV (x.ev env)) false) (H.upd m (some ⟨true, sz, ys⟩))
      | .sl n o len full => match H n with
        | some b => offAll env n av ∧
          if full then o + len * sz ≤ b.cells.length ∧ ∀ m, H m = none → K (.sl m 0 (len + lenV (x.ev env)) false) (H.upd m (some ⟨true, sz, (b.cells.drop o).take (len * sz) ++ ys⟩))
          else b.own = true ∧ b.sz = sz ∧ o = 0 ∧ b.cells.length = len * sz ∧
            ∀ m, H m = none → K (.sl m 0 (len + lenV (x.ev env)) false) ((H.upd n none).upd m (some ⟨true, sz, b.cells ++ ys⟩))
        | none => False
      | _ => False
    | none => False
  | .cpy sz d s => match cellsAt H sz (s.ev env), d.ev env with
    | some ys, .sl n o len _ => match H n with
      | some b => b.own = true ∧ o + len * sz ≤ b.cells.length ∧
        K (.int .i64 (min (lenV (s.ev env)) len)) (H.upd n (some ⟨true, b.sz, splice b.cells o (ys.take (min (lenV (s.ev env)) len * sz))⟩))
      | none => False
    | some _, .nils => K (.int .i64 0) H
    | _, _ => False
  | .call f args => match f.ev env with
    | .fn g caps => ACalls P g (args.map (Opd.ev env) ++ caps) H K
    | _ => False
  | .inv x t f args => match x.ev env with
    | .ifc t' v => t' = t ∧ ACalls P f (v :: args.map (Opd.ev env)) H K
    | _ => False
  | i => match pv i env H with
    | some v => K v H
    | none => False

theorem iwp_mono {P i K K' env H} (h : iwp P i K env H) (hk : ∀ v H', K v H' → K' v H') : iwp P i K' env H := by
  cases i
  case new => exact fun n hn => hk _ _ (h n hn)
  case zero => exact fun n hn => hk _ _ (h n hn)
  case st sz a x av =>
    simp only [iwp] at h ⊢
    split at h
    · split at h
      · exact ⟨h.1, h.2.1, h.2.2.1, h.2.2.2.1, h.2.2.2.2.1, hk _ _ h.2.2.2.2.2⟩
      · exact h
    · exact h
  case mk sz bytes zs l c =>
    simp only [iwp] at h ⊢
    split at h
    · exact ⟨h.1, h.2.1, h.2.2.1, h.2.2.2.1, fun n hn => hk _ _ (h.2.2.2.2 n hn)⟩
    · exact h
  case bsl sz len zs parts =>
    simp only [iwp] at h ⊢
    split at h
    · exact fun n hn => hk _ _ (h n hn)
    · exact h
  case app sz bytes s x av =>
    simp only [iwp] at h ⊢
    split at h
    · refine ⟨h.1, h.2.1, ?_⟩
      have h := h.2.2
      by_cases hz : lenV (x.ev env) = 0
      · rw [if_pos hz] at h ⊢; exact ⟨hk _ _ h.1, h.2⟩
      · rw [if_neg hz] at h ⊢
        split at h
        · exact fun n hn => hk _ _ (h n hn)
        · split at h
          · rename_i full _ _ _ _
            obtain ⟨hoff, h⟩ := h
            refine ⟨hoff, ?_⟩
            by_cases hf : full = true
            · rw [if_pos hf] at h ⊢; exact ⟨h.1, fun n hn => hk _ _ (h.2 n hn)⟩
            · rw [if_neg hf] at h ⊢; exact ⟨h.1, h.2.1, h.2.2.1, h.2.2.2.1, fun n hn => hk _ _ (h.2.2.2.2 n hn)⟩
          · exact h
        · exact h
    · exact h
  case cpy sz d s =>
    simp only [iwp] at h ⊢
    split at h
    · split at h
      · exact ⟨h.1, h.2.1, hk _ _ h.2.2⟩
      · exact h
    · exact hk _ _ h
    · exact h
  case call f args =>
    simp only [iwp] at h ⊢
    split at h
    · exact h.mono hk
    · exact h
  case inv x t f args =>
    simp only [iwp] at h ⊢
    split at h
    · exact ⟨h.1, h.2.mono hk⟩
    · exact h
  all_goals
    simp only [iwp] at h ⊢
    split at h
    · exact hk _ _ h
    · exact h

/-! ### from a program's operations -/

def cvV : Nat → Value → Option V
  | 0, _ => none
  | n + 1, v => match v with
    | .int k i => some (.int k i)
    | .bool b => some (.bool b)
    | .pointer none => some .nilp
    | .slice none 0 0 => some .nils
    | .nilFunc => some .nilf
    | .nilIface => some .nili
    | .agg a => match mapO (cvV n) a.toList with
      | some cs => if cs.all V.one then some (.agg cs) else none
      | none => none
    | _ => none

def cvO (n : Nat) : Operand → Option Opd
  | .tmp t => if t < n then some (.s t) else none
  | .const v => (cvV 3 v).map .c
  | .func f => some (.c (.fn f []))
  | .global _ => none

def cvO? (n : Nat) : Option Operand → Option (Option Opd)
  | none => some none
  | some x => (cvO n x).map some

def aggT (P : Program) (t : TypeId) : Bool :=
  match P.underlying t with
  | some (.struct _) | some (.array _ _) => true
  | _ => false

/-- a type that is known: its cells and its bytes -/
def szT (P : Program) (t : TypeId) : Option (Nat × Nat) :=
  match P.info? t, P.underlying t with
  | some i, some _ => some (i.size, i.bytes)
  | _, _ => none

def zeroT (P : Program) (t : TypeId) : Option (List V) :=
  match P.info? t with
  | some i => match i.zero with
    | some z => match cvV 4 z with
      | some v => some v.cells
      | none => none
    | none => none
  | none => none

/-- of a slice's type: its element's type -/
def elemT (P : Program) (t : TypeId) : Option TypeId :=
  match P.underlying t with
  | some (.slice e) => some e
  | _ => none

def isNilOpd : Nat → Operand → Bool
  | 0, .const (.slice none 0 0) => true
  | 1, .const (.pointer none) => true
  | 2, .const .nilFunc => true
  | _, _ => false

def nilKind : TypeDesc → Option Nat
  | .slice _ => some 0
  | .pointer _ => some 1
  | .func .. => some 2
  | _ => none

def negOp : BinOp → Option Bool
  | .eql => some false
  | .neq => some true
  | _ => none

/-- a struct's type of plain ints, a cell each, in order -/
def intsFrom (P : Program) : Nat → List Field → Bool
  | _, [] => true
  | i, f :: r => f.offset == i && f.name != "_" && (match P.underlying f.type with | some (.int _) => true | _ => false) && intsFrom P (i + 1) r

def partsT (P : Program) (n : Nat) (place : Nat → Option (Nat × Nat)) : List (Nat × Operand) → Option (List (Nat × Nat × Opd))
  | [] => some []
  | (i, x) :: r => match place i, cvO n x, partsT P n place r with
    | some (off, sz), some y, some ys => some ((off, sz, y) :: ys)
    | _, _, _ => none

/-- where the fields of a struct lie -/
def fieldsT (P : Program) : List Field → Option (List (Nat × Nat))
  | [] => some []
  | f :: r => match szT P f.type, fieldsT P r with
    | some (sz, _), some ys => some ((f.offset, sz) :: ys)
    | _, _ => none

def isPtr : TypeDesc → Bool
  | .pointer _ => true
  | _ => false

def methOk (m : Method) : Option FuncId :=
  match m.path.toList, m.func with
  | [], some (f, false) => some f
  | _, _ => none

def methT (P : Program) (t : TypeId) (name : String) : Option FuncId :=
  match P.info? t, P.underlying t with
  | some i, some d => if isPtr d then none else (i.methods.find? (·.name == name)).bind methOk
  | _, _ => none

def ifaceOf (ops : Array Oper) (x : Operand) : Option TypeId :=
  match x with
  | .tmp t => (ops.toList.findSome? fun o => match o.op, o.dst with
    | .makeInterface ty _, some d => if d = t then some ty else none
    | _, _ => none)
  | _ => none

def cvBin (P : Program) (n : Nat) (op : BinOp) (t : TypeId) (x y : Operand) : Option I :=
  match cvO n x, cvO n y, P.underlying t with
  | some a, some b, some d => match d with
    | .int _ => some (.bin op a b)
    | .bool => match negOp op with
      | some neg => some (.beq neg a b)
      | none => none
    | .struct fs => match negOp op with
      | some neg => if intsFrom P 0 fs.toList && !P.stoodInHeld t && !P.eqGuardType P.depth t then some (.eqs neg fs.size a b) else none
      | none => none
    | d => match negOp op, nilKind d with
      | some neg, some k => if isNilOpd k y then some (.isnil neg k a) else if isNilOpd k x then some (.isnil neg k b) else none
      | _, _ => none
  | _, _, _ => none

def cvLen (P : Program) (n : Nat) : List Operand → List TypeId → Option I
  | [x], [t] => match P.underlying t, cvO n x with
    | some (.slice _), some y => some (.len y)
    | _, _ => none
  | _, _ => none

def cvApp (P : Program) (n : Nat) : List Operand → List TypeId → Option I
  | [s, x], [t, u] => match elemT P t, elemT P u, cvO n s, cvO n x with
    | some e, some _, some s, some x => match szT P e, zeroT P e with
      | some (sz, bytes), some zs => if 0 < sz ∧ 0 < bytes ∧ zs.length = sz then some (.app sz bytes s x []) else none
      | _, _ => none
    | _, _, _, _ => none
  | _, _ => none

def cvCpy (P : Program) (n : Nat) : List Operand → List TypeId → Option I
  | [d, s], [t, u] => match elemT P t, elemT P u, cvO n d, cvO n s with
    | some e, some _, some d, some s => match szT P e with
      | some (sz, _) => if 0 < sz then some (.cpy sz d s) else none
      | none => none
    | _, _, _, _ => none
  | _, _ => none

def cvMM (n : Nat) (mx : Bool) : List Operand → Option I
  | [x, y] => match cvO n x, cvO n y with
    | some x, some y => some (.mm mx x y)
    | _, _ => none
  | _ => none

def cvCall (P : Program) (n : Nat) (ops : Array Oper) (c : Call) : Option I :=
  match c.callee with
  | .value f => match cvO n f, mapO (cvO n) c.args.toList with
    | some g, some xs => some (.call g xs)
    | _, _ => none
  | .invoke r name => match cvO n r, mapO (cvO n) c.args.toList, ifaceOf ops r with
    | some x, some xs, some t => match methT P t name with
      | some f => if okFn P f then some (.inv x t f xs) else none
      | none => none
    | _, _, _ => none
  | .builtin .len => cvLen P n c.args.toList c.argTypes.toList
  | .builtin .append => cvApp P n c.args.toList c.argTypes.toList
  | .builtin .copy => cvCpy P n c.args.toList c.argTypes.toList
  | .builtin .max => cvMM n true c.args.toList
  | .builtin .min => cvMM n false c.args.toList
  | .builtin _ => none

def cvI (P : Program) (n : Nat) (ops : Array Oper) : Op → Option I
  | .move x | .assign x => (cvO n x).map .mov
  | .pick c a b => match cvO n c, cvO n a, cvO n b with
    | some c, some a, some b => some (.pick c a b)
    | _, _, _ => none
  | .alloc t => (zeroT P t).map .zero
  | .box t x => (cvO n x).map .new
  | .build t parts => match P.underlying t, zeroT P t with
    | some (.struct fs), some zs => match fieldsT P fs.toList with
      | some pl => (partsT P n (pl[·]?) parts.toList).map (.agg zs)
      | none => none
    | _, _ => none
  | .buildSlice t len parts => match elemT P t with
    | some e => match szT P e, zeroT P e with
      | some (sz, _), some zs =>
        if 0 < sz ∧ zs.length = sz ∧ len * sz ≤ 16777216 then
          (partsT P n (fun i => some (i * sz, sz)) parts.toList).map (.bsl sz len (List.replicate len zs).flatten)
        else none
      | _, _ => none
    | none => none
  | .load t a => match szT P t, cvO n a with
    | some (sz, _), some x => some (.ld (aggT P t) sz x none)
    | _, _ => none
  | .store t a x => match szT P t, cvO n a, cvO n x with
    | some (sz, _), some p, some y => some (.st sz p y [])
    | _, _, _ => none
  | .nilCheck x => (cvO n x).map .nilchk
  | .binOp op t x y _ => cvBin P n op t x y
  | .unOp op _ x => (cvO n x).map (.un op)
  | .convert src dst x => match P.underlying src, P.underlying dst, cvO n x with
    | some _, some (.int k), some y => some (.conv k y)
    | _, _, _ => none
  | .makeInterface t x => match P.underlying t, cvO n x with
    | some (.interface _), _ => none
    | some _, some y => some (.ifc t y)
    | _, _ => none
  | .makeFunc (.func f) first captured => match first.toList, mapO (cvO n) captured.toList with
    | [], some xs => some (.mkf f xs)
    | _, _ => none
  | .makeSlice t l c => match elemT P t, cvO n l, cvO n c with
    | some e, some l, some c => match szT P e, zeroT P e with
      | some (sz, bytes), some zs => if 0 < sz ∧ zs.length = sz then some (.mk sz bytes zs l c) else none
      | _, _ => none
    | _, _, _ => none
  | .slice t x lo hi mx => match elemT P t with
    | some e => match szT P e, cvO n x, cvO? n lo, cvO? n hi, cvO? n mx with
      | some (sz, _), some x, some lo, some hi, some mx => some (.sli sz x lo hi mx)
      | _, _, _, _, _ => none
    | none => none
  | .fieldAddr t x f => match P.underlying t, cvO n x with
    | some (.struct fs), some y => match fs[f]? with
      | some fd => match szT P fd.type with
        | some (sz, _) => if 0 < sz then some (.fa fd.offset y) else none
        | none => none
      | none => none
    | _, _ => none
  | .field t x f => match P.underlying t, cvO n x with
    | some (.struct fs), some y => match fs[f]? with
      | some fd => match szT P fd.type with
        | some (sz, _) => some (.fld (aggT P fd.type) fd.offset sz y)
        | none => none
      | none => none
    | _, _ => none
  | .indexAddr t x i => match elemT P t with
    | some e => match szT P e, cvO n x, cvO n i with
      | some (sz, _), some x, some i => some (.ia sz x i)
      | _, _, _ => none
    | none => none
  | .extract x i => (cvO n x).map fun y => .ext y i
  | .call c => cvCall P n ops c
  | _ => none

end Go.AM

/- The quiet instructions give what the program's operations give. Conditions: as each states. -/
set_option linter.unusedVariables false
set_option linter.unusedSimpArgs false
namespace Go.AM
open Go

theorem addr_add (b x i : Nat) : (⟨b, x, none⟩ : Addr).add i = ⟨b, x + i, none⟩ := by
  unfold Addr.add; split
  · rename_i h; subst h; rfl
  · rfl

theorem mapO_some {α β : Type} {f : α → Option β} : ∀ {l : List α} {r : List β}, mapO f l = some r → l.length = r.length ∧ ∀ (i : Nat) (a : α) (b : β), l[i]? = some a → r[i]? = some b → f a = some b
  | [], r, h => by simp [mapO] at h; subst h; simp
  | a :: l, r, h => by
    simp only [mapO] at h
    split at h
    · cases h
    · rename_i b hb
      split at h
      · cases h
      · rename_i bs hbs
        obtain rfl := Option.some.inj h
        obtain ⟨h1, h2⟩ := mapO_some hbs
        refine ⟨by simp [h1], fun i x y hx hy => ?_⟩
        cases i with
        | zero => simp at hx hy; subst hx; subst hy; exact hb
        | succ i => simp at hx hy; exact h2 i x y hx hy

theorem cvV_sound (μ : Map) : ∀ (d : Nat) (x : Value) (v : V), cvV d x = some v → VRel μ v x
  | 0, x, v, h => by simp [cvV] at h
  | d + 1, x, v, h => by
    simp only [cvV] at h
    split at h
    case h_7 a =>
      split at h
      · rename_i cs hcs
        split at h
        · rename_i hall
          obtain rfl := Option.some.inj h
          obtain ⟨h1, h2⟩ := mapO_some hcs
          simp only [VRel]
          refine ⟨a, rfl, VRels.of_get h1.symm fun i u y hu hy => cvV_sound μ d y u (h2 i y u hy hu), fun c hc => ?_⟩
          exact List.all_eq_true.1 hall c hc
        · cases h
      · cases h
    all_goals first
      | (obtain rfl := Option.some.inj h; simp [VRel])
      | cases h

theorem cvO_sound {n : Nat} {x : Operand} {y : Opd} (h : cvO n x = some y) {μ env H a w} (st : St n μ env H a w) : VRel μ (y.ev env) (a.eval x) := by
  cases x with
  | tmp t =>
    simp only [cvO] at h
    split at h
    · rename_i ht
      obtain rfl := Option.some.inj h
      exact st.tmps t ht
    · cases h
  | const v =>
    simp only [cvO, Option.map_eq_some_iff] at h
    obtain ⟨u, hu, rfl⟩ := h
    exact cvV_sound μ 3 v u hu
  | func f =>
    simp only [cvO] at h
    obtain rfl := Option.some.inj h
    simp [Opd.ev, VRel, VRels, Act.eval]
  | global g => simp [cvO] at h

theorem cvOs_sound {n : Nat} {xs : List Operand} {ys : List Opd} (h : mapO (cvO n) xs = some ys) {μ env H a w} (st : St n μ env H a w) :
    VRels μ (ys.map (Opd.ev env)) (xs.map a.eval) := by
  obtain ⟨h1, h2⟩ := mapO_some h
  refine VRels.of_get (by simp [h1]) fun i v x hv hx => ?_
  rw [List.getElem?_map, Option.map_eq_some_iff] at hv hx
  obtain ⟨y, hy, rfl⟩ := hv
  obtain ⟨o, ho, rfl⟩ := hx
  exact cvO_sound (h2 i o y ho hy) st

theorem Bears.range {μ : Map} {w : World} {blk : Blk} {l : Loc} (h : Bears μ w blk l) {o k : Nat} (hk : o + k ≤ blk.cells.length) :
    ∃ cs : List Value, cs.length = k ∧ (∀ j v, cs[j]? = some v → w.cell? ((⟨l.b, l.x + o, none⟩ : Addr).add j) = some v) ∧ VRels μ ((blk.cells.drop o).take k) cs ∧
      (∀ c ∈ cs, c.oneCell' = true) := by
  have hcell : ∀ j, j < k → ∃ c v, blk.cells[o + j]? = some v ∧ w.cell? ⟨l.b, l.x + o + j, none⟩ = some c ∧ VRel μ v c ∧ v.one = true := fun j hj => by
    have hlt : o + j < blk.cells.length := by omega
    obtain ⟨c, h1, h2, h3⟩ := h.cells (o + j) _ (List.getElem?_eq_getElem hlt)
    exact ⟨c, _, List.getElem?_eq_getElem hlt, by rw [Nat.add_assoc]; exact h1, h2, h3⟩
  refine ⟨(List.range k).map fun j => (w.cell? ⟨l.b, l.x + o + j, none⟩).getD undef, by simp, fun j v hj => ?_, ?_, fun c hc => ?_⟩
  · rw [List.getElem?_map, Option.map_eq_some_iff] at hj
    obtain ⟨i, hi, rfl⟩ := hj
    obtain ⟨hlt, rfl⟩ := List.getElem?_eq_some_iff.1 hi
    simp only [List.length_range] at hlt
    obtain ⟨c, v, _, h2, _⟩ := hcell j hlt
    simp only [List.getElem_range]
    rw [addr_add, h2]; rfl
  · refine VRels.of_get (by simp; omega) fun i v x hv hx => ?_
    have hi : i < k := by
      have := (List.getElem?_eq_some_iff.1 hx).1
      simpa using this
    rw [List.getElem?_take_of_lt hi, List.getElem?_drop] at hv
    obtain ⟨c, u, h1, h2, h3, _⟩ := hcell i hi
    rw [h1] at hv
    obtain rfl := Option.some.inj hv
    rw [List.getElem?_map, List.getElem?_range hi] at hx
    simp only [Option.map_some, h2, Option.getD_some, Option.some.injEq] at hx
    subst hx; exact h3
  · rw [List.mem_map] at hc
    obtain ⟨j, hj, rfl⟩ := hc
    obtain ⟨c, v, _, h2, h3, h4⟩ := hcell j (List.mem_range.1 hj)
    rw [h2]; exact h3.one h4

theorem szT_some {P : Program} {t : TypeId} {sz bytes : Nat} (h : szT P t = some (sz, bytes)) : ∃ i d, P.info? t = some i ∧ P.underlying t = some d ∧ i.size = sz ∧ i.bytes = bytes := by
  simp only [szT] at h
  split at h
  · rename_i i d hi hd
    obtain ⟨h1, h2⟩ := Prod.mk.inj (Option.some.inj h)
    exact ⟨i, d, hi, hd, h1, h2⟩
  · cases h

theorem run_sizeT {P : Program} {t : TypeId} {i : TypeInfo} (h : P.info? t = some i) (w : World) : (sizeOf t).run P w = .ok i.size w := by
  simp [sizeOf, typeInfo, h]

theorem run_infoT {P : Program} {t : TypeId} {i : TypeInfo} (h : P.info? t = some i) (w : World) : (typeInfo t).run P w = .ok i w := by
  simp [typeInfo, h]

theorem run_aggT {P : Program} {t : TypeId} {d : TypeDesc} (h : P.underlying t = some d) (w : World) : (isAgg t).run P w = .ok (aggT P t) w := by
  simp only [isAgg, aggT, Sem.run_bind, run_underlying h, Result.andThen_ok, h]
  cases d <;> rfl

theorem run_loadVar_ld {P : Program} {t : TypeId} {sz bytes : Nat} (ht : szT P t = some (sz, bytes)) {μ H w} (hs : Sim μ H w) {v u : V} {x : Value} (hx : VRel μ v x)
    (hv : ldV H (aggT P t) sz v = some u) : ∃ y, (Instr.loadAt t x).run P w = .ok y w ∧ VRel μ u y := by
  cases v with
  | ptr n o =>
    simp only [VRel] at hx
    obtain ⟨l, hl, rfl⟩ := hx
    simp only [ldV] at hv
    split at hv
    · rename_i b hb
      obtain ⟨l', hl', hbe⟩ := hs.bears n b hb
      rw [hl] at hl'
      obtain rfl := Option.some.inj hl'
      obtain ⟨i, d, hi, hd, rfl, rfl⟩ := szT_some ht
      by_cases ha : aggT P t = true
      · rw [if_pos ha] at hv
        split at hv
        · rename_i hle
          obtain rfl := Option.some.inj hv
          obtain ⟨cs, hlen, hc, hr, h1⟩ := hbe.range hle
          refine ⟨.agg cs.toArray, ?_, ?_⟩
          · have := run_loadCells_list (P := P) w ⟨l.b, l.x + o, none⟩ cs hc
            simp [Instr.loadAt, Instr.sureAddr, loadVar, run_aggT hd, ha, run_sizeT hi, ← hlen, this]
          · simp only [VRel]
            refine ⟨_, rfl, by simpa using hr, fun c hc => ?_⟩
            obtain ⟨j, hj, e⟩ := List.mem_iff_getElem.1 hc
            have hj' : j < i.size := by
              have : j < ((b.cells.drop o).take i.size).length := hj
              simp at this; omega
            have : b.cells[o + j]? = some c := by
              have h2 : ((b.cells.drop o).take i.size)[j]? = some c := by rw [← e]; exact List.getElem?_eq_getElem hj
              rwa [List.getElem?_take_of_lt hj', List.getElem?_drop] at h2
            obtain ⟨_, _, _, h3⟩ := hbe.cells _ _ this
            exact h3
        · cases hv
      · rw [if_neg ha] at hv
        obtain ⟨c, h1, h2, _⟩ := hbe.cells o u hv
        have ha : aggT P t = false := by simpa using ha
        exact ⟨c, by simp [Instr.loadAt, Instr.sureAddr, loadVar, run_aggT hd, ha, h1], h2⟩
    · cases hv
  | _ => simp [ldV] at hv


theorem run_bin_int {P : Program} {op : BinOp} {t : TypeId} {x y : Operand} {w : World} {u v r : V} {cu cv : Value} {μ : Map} (hu : VRel μ u cu) (hv : VRel μ v cv)
    (h : binV op u v = some r) : ∃ z, (do eqGuard op t x y cu cv; binOp op t cu cv : Sem Value).run P w = .ok z w ∧ VRel μ r z := by
  unfold binV at h
  split at h
  all_goals first | cases h | skip
  all_goals
    simp only [VRel] at hu hv
    subst hu; subst hv
  all_goals first
    | (split at h
       · rename_i hc
         obtain rfl := Option.some.inj h
         first
           | (subst hc; refine ⟨_, ?_, rfl⟩; simp [eqGuard, binOp, Op.intArith, Op.intBits, Op.intCmp]; done)
           | (obtain ⟨rfl, hb⟩ := hc; refine ⟨_, ?_, rfl⟩; simp [eqGuard, binOp, Op.intDiv, hb]; done)
           | (refine ⟨_, ?_, rfl⟩; simp [eqGuard, binOp, Op.shift, Int.not_lt.2 hc]; done)
       · cases h)

theorem run_equal {P : Program} {t : TypeId} {x y : Value} {w : World} {r : Bool} (h : ∀ d, (Op.equalIn (d + 1) t x y).run P w = .ok r w) : (Op.equal t x y).run P w = .ok r w := h 9999
theorem run_equal2 {P : Program} {t : TypeId} {x y : Value} {w : World} {r : Bool} (h : ∀ d, (Op.equalIn (d + 2) t x y).run P w = .ok r w) : (Op.equal t x y).run P w = .ok r w := h 9998

theorem run_beq {P : Program} {op : BinOp} {neg : Bool} (hop : negOp op = some neg) {t : TypeId} (ht : P.underlying t = some .bool) {x y : Operand} {w : World} (a b : Bool) :
    (do eqGuard op t x y (.bool a) (.bool b); binOp op t (.bool a) (.bool b) : Sem Value).run P w = .ok (.bool ((a == b) != neg)) w := by
  have he : (Op.equal t (.bool a) (.bool b)).run P w = .ok (a == b) w := run_equal fun d => by simp [Op.equalIn, run_underlying ht]
  unfold negOp at hop
  split at hop
  · obtain rfl := Option.some.inj hop
    have : binOp .eql t (.bool a) (.bool b) = (do pure (.bool (← Op.equal t (.bool a) (.bool b))) : Sem Value) := rfl
    rw [this]; simp [eqGuard, he]
  · obtain rfl := Option.some.inj hop
    have : binOp .neq t (.bool a) (.bool b) = (do pure (.bool (!(← Op.equal t (.bool a) (.bool b)))) : Sem Value) := rfl
    rw [this]; simp [eqGuard, he]
  · cases hop

/-- an equality whose answer is known, outside the numbers -/
theorem run_eq_of {P : Program} {op : BinOp} {neg : Bool} (hop : negOp op = some neg) {t : TypeId} {x y : Operand} {u v : Value} {w : World} {b : Bool}
    (h1 : binOp .eql t u v = (do pure (.bool (← Op.equal t u v)) : Sem Value)) (h2 : binOp .neq t u v = (do pure (.bool (!(← Op.equal t u v))) : Sem Value))
    (hg : (eqGuard op t x y u v).run P w = .ok () w) (he : (Op.equal t u v).run P w = .ok b w) :
    (do eqGuard op t x y u v; binOp op t u v : Sem Value).run P w = .ok (.bool (b != neg)) w := by
  unfold negOp at hop
  split at hop
  · obtain rfl := Option.some.inj hop
    rw [h1]; simp [hg, he]
  · obtain rfl := Option.some.inj hop
    rw [h2]; simp [hg, he]
  · cases hop

theorem run_isnil {P : Program} {op : BinOp} {neg : Bool} (hop : negOp op = some neg) {t : TypeId} {d : TypeDesc} (ht : P.underlying t = some d) {k : Nat} (hk : nilKind d = some k)
    {x y : Operand} {a : Operand → Value} (ha : ∀ v, a (.const v) = v) {w : World} {μ : Map} {u : V} {b : Bool} (hb : nilV k u = some b)
    (h : (isNilOpd k y = true ∧ VRel μ u (a x)) ∨ (isNilOpd k x = true ∧ VRel μ u (a y))) :
    (do eqGuard op t x y (a x) (a y); binOp op t (a x) (a y) : Sem Value).run P w = .ok (.bool (b != neg)) w := by
  unfold nilKind at hk
  split at hk
  all_goals first | cases hk | skip
  all_goals
    obtain ⟨h1, h2⟩ | ⟨h1, h2⟩ := h
  all_goals
    unfold isNilOpd at h1
    split at h1
    all_goals first | cases h1 | skip
  all_goals
    unfold nilV at hb
    split at hb
    all_goals first | cases hb | skip
  all_goals first
    | contradiction
    | skip
  all_goals
    simp only [VRel] at h2
    try obtain ⟨l, a', cap, hl, h2, _⟩ := h2
    try obtain ⟨l, hl, h2⟩ := h2
    first | rw [ha, h2] | rw [ha, hl]
    refine run_eq_of hop rfl rfl ?_ (run_equal fun d => ?_)
    · unfold negOp at hop; split at hop <;> first | (simp [eqGuard]; done) | cases hop
    · simp [Op.equalIn, run_underlying ht]

theorem run_eqFields {P : Program} {μ : Map} (d : Nat) (xs ys : Array Value) (w : World) : ∀ (fs : List Field) (i : Nat) (us vs : List V) (b : Bool), intsFrom P i fs = true → us.length = fs.length →
    (∀ (j : Nat) u, us[j]? = some u → ∃ c, xs[i + j]? = some c ∧ VRel μ u c) → (∀ (j : Nat) u, vs[j]? = some u → ∃ c, ys[i + j]? = some c ∧ VRel μ u c) → eqCells us vs = some b →
    (Op.eqFields (d + 1) xs ys fs).run P w = .ok b w
  | [], i, us, vs, b, _, hl, _, _, hb => by
    simp at hl; subst hl
    cases vs with
    | nil => simp [eqCells] at hb; subst hb; simp [Op.eqFields]
    | cons v r => simp [eqCells] at hb
  | f :: fs, i, us, vs, b, hf, hl, hx, hy, hb => by
    cases us with
    | nil => simp at hl
    | cons u us =>
      unfold eqCells at hb
      split at hb
      · rename_i heq; cases heq
      · rename_i k a r k' a' s heq
        obtain ⟨rfl, rfl⟩ := List.cons.inj heq
        split at hb
        · rename_i hk
          subst hk
          obtain ⟨e, he, rfl⟩ := Option.map_eq_some_iff.1 hb
          simp only [intsFrom, Bool.and_eq_true, beq_iff_eq, bne_iff_ne] at hf
          obtain ⟨⟨⟨h1, h2⟩, h3⟩, h4⟩ := hf
          obtain ⟨c1, hc1, r1⟩ := hx 0 _ rfl
          obtain ⟨c2, hc2, r2⟩ := hy 0 _ rfl
          simp only [VRel] at r1 r2
          subst r1; subst r2
          have hagg : aggT P f.type = false := by
            unfold aggT; split at h3
            · rename_i k3 h3'; rw [h3']
            · cases h3
          have hund : ∃ k, P.underlying f.type = some (.int k) := by
            split at h3
            · rename_i k3 h3'; exact ⟨k3, h3'⟩
            · cases h3
          obtain ⟨k3, hund⟩ := hund
          have ih := run_eqFields (P := P) (μ := μ) d xs ys w fs (i + 1) us s e h4 (by simpa using hl) (fun j u hj => by
            have := hx (j + 1) u (by simpa using hj)
            rwa [show i + (j + 1) = i + 1 + j by omega] at this) (fun j u hj => by
            have := hy (j + 1) u (by simpa using hj)
            rwa [show i + (j + 1) = i + 1 + j by omega] at this) he
          have p1 : (part f.type xs f.offset).run P w = .ok (.int k a) w := by
            simp only [Nat.add_zero] at hc1
            simp [part, run_aggT hund, hagg, h1, hc1]
          have p2 : (part f.type ys f.offset).run P w = .ok (.int k a') w := by
            simp only [Nat.add_zero] at hc2
            simp [part, run_aggT hund, hagg, h1, hc2]
          simp only [Op.eqFields, ne_eq, h2, not_false_eq_true, if_true, Sem.run_bind, p1, p2, Result.andThen_ok, run_equalIn_int w d f.type k k3 a a' hund]
          by_cases hab : a = a'
          · subst hab; simp [ih]
          · have : (a == a') = false := by simpa using hab
            simp [this]
        · cases hb
      · cases hb

theorem run_eqs {P : Program} {op : BinOp} {neg : Bool} (hop : negOp op = some neg) {t : TypeId} {fs : Array Field} (ht : P.underlying t = some (.struct fs)) (hi : intsFrom P 0 fs.toList = true)
    (hp : P.stoodInHeld t = false) (hg : P.eqGuardType P.depth t = false) {x y : Operand} {w : World} {μ : Map} {us vs : List V} {cu cv : Value} (h1 : VRel μ (.agg us) cu) (h2 : VRel μ (.agg vs) cv)
    (hl : us.length = fs.size) {b : Bool} (hb : eqCells us vs = some b) :
    (do eqGuard op t x y cu cv; binOp op t cu cv : Sem Value).run P w = .ok (.bool (b != neg)) w := by
  simp only [VRel] at h1 h2
  obtain ⟨xs, rfl, r1, _⟩ := h1
  obtain ⟨ys, rfl, r2, _⟩ := h2
  have hfo : P.underlying t = some (.struct (P.fieldsOf t)) := by simp [Program.fieldsOf, ht]
  have hfs : P.fieldsOf t = fs := by simp [Program.fieldsOf, ht]
  refine run_eq_of hop rfl rfl (run_eqGuard_agg w op t x y xs ys hg) (run_equal2 fun d => ?_)
  · rw [run_equalIn_struct w (d + 1) t xs ys hfo hp, hfs]
    exact run_eqFields d xs ys w fs.toList 0 us vs b hi (by simpa using hl) (fun j u hj => by
      obtain ⟨c, hc, hr⟩ := r1.get j u hj
      exact ⟨c, by simpa using hc, hr⟩) (fun j u hj => by
      obtain ⟨c, hc, hr⟩ := r2.get j u hj
      exact ⟨c, by simpa using hc, hr⟩) hb

end Go.AM
