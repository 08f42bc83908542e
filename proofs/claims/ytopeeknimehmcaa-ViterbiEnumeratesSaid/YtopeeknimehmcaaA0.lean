/- The abstract machine's values and heap, and how a world of the model bears them. Conditions: none. -/
import Derived.Below
import Derived.Orders
import Derived.Tactics
set_option linter.unusedVariables false
set_option linter.unusedSimpArgs false
namespace Go.AM
open Go



inductive V where
  | int (k : IntKind) (n : Int)
  | bool (b : Bool)
  | str (s : ByteArray)
  | ptr (n : Nat) (o : Nat)
  | nilp
  | sl (n : Nat) (o len : Nat) (full : Bool)
  | nils
  | fn (f : FuncId) (caps : List V)
  | nilf
  | ifc (t : TypeId) (v : V)
  | nili
  | agg (cs : List V)
  | tup (vs : List V)
  deriving Inhabited

def V.cells : V → List V
  | .agg cs => cs
  | .tup _ => []
  | v => [v]

/-- a cell's value -/
def V.one : V → Bool
  | .agg _ => false
  | .tup _ => false
  | _ => true

structure Loc where
  b : Nat
  x : Nat
  room : Option (Nat × Nat)

abbrev Map := Nat → Option Loc

/-- where a slice's value may point -/
def slAt (l : Loc) (o len cap : Nat) (a : Addr) : Prop :=
  a.block = l.b ∧ (len ≠ 0 ∨ o = 0 → a = ⟨l.b, l.x + o, none⟩) ∧
    ∀ sz c, l.room = some (sz, c) → o + cap * sz ≤ c ∨ (len = 0 ∧ o ≠ 0)

mutual
def VRel (μ : Map) : V → Value → Prop
  | .int k n, v => v = .int k n
  | .bool b, v => v = .bool b
  | .str s, v => v = .string s
  | .ptr n o, v => ∃ l, μ n = some l ∧ v = .pointer (some ⟨l.b, l.x + o, none⟩)
  | .nilp, v => v = .pointer none
  | .sl n o len full, v => ∃ l a cap, μ n = some l ∧ v = .slice (some a) len cap ∧ len ≤ cap ∧ (full = true → cap = len) ∧ slAt l o len cap a
  | .nils, v => v = .slice none 0 0
  | .fn f caps, v => ∃ cs : Array Value, v = .func (.func f) #[] cs ∧ VRels μ caps cs.toList
  | .nilf, v => v = .nilFunc
  | .ifc t u, v => ∃ x, v = .iface t x ∧ VRel μ u x
  | .nili, v => v = .nilIface
  | .agg cs, v => ∃ a : Array Value, v = .agg a ∧ VRels μ cs a.toList ∧ ∀ c ∈ cs, c.one = true
  | .tup cs, v => ∃ a : Array Value, v = .tuple a ∧ VRels μ cs a.toList
def VRels (μ : Map) : List V → List Value → Prop
  | [], vs => vs = []
  | v :: r, vs => ∃ x t, vs = x :: t ∧ VRel μ v x ∧ VRels μ r t
end

def Map.le (μ μ' : Map) : Prop := ∀ n l, μ n = some l → μ' n = some l

mutual
theorem VRel.mono {μ μ' : Map} (h : μ.le μ') : ∀ (v : V) (x : Value), VRel μ v x → VRel μ' v x
  | .int _ _, _, r | .bool _, _, r | .str _, _, r | .nilp, _, r | .nils, _, r | .nilf, _, r | .nili, _, r => by simpa only [VRel] using r
  | .ptr n o, _, r => by
    simp only [VRel] at r ⊢
    obtain ⟨l, hl, e⟩ := r
    exact ⟨l, h _ _ hl, e⟩
  | .sl n o len full, _, r => by
    simp only [VRel] at r ⊢
    obtain ⟨l, a, cap, hl, e⟩ := r
    exact ⟨l, a, cap, h _ _ hl, e⟩
  | .fn f caps, _, r => by
    simp only [VRel] at r ⊢
    obtain ⟨cs, e, hr⟩ := r
    exact ⟨cs, e, VRels.mono h _ _ hr⟩
  | .ifc t u, _, r => by
    simp only [VRel] at r ⊢
    obtain ⟨x, e, hr⟩ := r
    exact ⟨x, e, VRel.mono h _ _ hr⟩
  | .agg cs, _, r => by
    simp only [VRel] at r ⊢
    obtain ⟨a, e, hr, h1⟩ := r
    exact ⟨a, e, VRels.mono h _ _ hr, h1⟩
  | .tup cs, _, r => by
    simp only [VRel] at r ⊢
    obtain ⟨a, e, hr⟩ := r
    exact ⟨a, e, VRels.mono h _ _ hr⟩
theorem VRels.mono {μ μ' : Map} (h : μ.le μ') : ∀ (vs : List V) (xs : List Value), VRels μ vs xs → VRels μ' vs xs
  | [], _, r => by simpa only [VRels] using r
  | v :: r, _, hr => by
    simp only [VRels] at hr ⊢
    obtain ⟨x, t, e, h1, h2⟩ := hr
    exact ⟨x, t, e, VRel.mono h _ _ h1, VRels.mono h _ _ h2⟩
end

theorem VRels.length {μ : Map} : ∀ {vs : List V} {xs : List Value}, VRels μ vs xs → vs.length = xs.length
  | [], _, r => by simp only [VRels] at r; subst r; rfl
  | v :: r, _, hr => by
    simp only [VRels] at hr
    obtain ⟨x, t, rfl, _, h2⟩ := hr
    simp [VRels.length h2]

theorem VRels.get {μ : Map} : ∀ {vs : List V} {xs : List Value}, VRels μ vs xs → ∀ (i : Nat) (v : V), vs[i]? = some v → ∃ x, xs[i]? = some x ∧ VRel μ v x
  | [], _, _, i, v, h => by simp at h
  | u :: r, _, hr, i, v, h => by
    simp only [VRels] at hr
    obtain ⟨x, t, rfl, h1, h2⟩ := hr
    cases i with
    | zero => simp at h; subst h; exact ⟨x, rfl, h1⟩
    | succ i => simp at h; simpa using VRels.get h2 i v h

theorem VRels.of_get {μ : Map} : ∀ {vs : List V} {xs : List Value}, vs.length = xs.length → (∀ (i : Nat) (v : V) (x : Value), vs[i]? = some v → xs[i]? = some x → VRel μ v x) → VRels μ vs xs
  | [], [], _, _ => by simp only [VRels]
  | [], x :: t, h, _ => by simp at h
  | v :: r, [], h, _ => by simp at h
  | v :: r, x :: t, h, hg => by
    simp only [VRels]
    exact ⟨x, t, rfl, hg 0 v x rfl rfl, VRels.of_get (by simpa using h) fun i v x h1 h2 => hg (i + 1) v x (by simpa using h1) (by simpa using h2)⟩

theorem VRels.append {μ : Map} : ∀ {vs us : List V} {xs ys : List Value}, VRels μ vs xs → VRels μ us ys → VRels μ (vs ++ us) (xs ++ ys)
  | [], us, xs, ys, h, h' => by simp only [VRels] at h; subst h; simpa using h'
  | v :: r, us, xs, ys, h, h' => by
    simp only [VRels] at h
    obtain ⟨x, t, rfl, h1, h2⟩ := h
    simp only [List.cons_append, VRels]
    exact ⟨x, t ++ ys, rfl, h1, VRels.append h2 h'⟩

theorem VRels.take {μ : Map} : ∀ {vs : List V} {xs : List Value} (k : Nat), VRels μ vs xs → VRels μ (vs.take k) (xs.take k)
  | [], _, k, h => by simp only [VRels] at h; subst h; simp [VRels]
  | v :: r, xs, 0, h => by simp [VRels]
  | v :: r, xs, k + 1, h => by
    simp only [VRels] at h
    obtain ⟨x, t, rfl, h1, h2⟩ := h
    simp only [List.take_succ_cons, VRels]
    exact ⟨x, t.take k, rfl, h1, VRels.take k h2⟩

theorem VRels.drop {μ : Map} : ∀ {vs : List V} {xs : List Value} (k : Nat), VRels μ vs xs → VRels μ (vs.drop k) (xs.drop k)
  | vs, xs, 0, h => by simpa using h
  | [], _, k + 1, h => by simp only [VRels] at h; subst h; simp [VRels]
  | v :: r, xs, k + 1, h => by
    simp only [VRels] at h
    obtain ⟨x, t, rfl, h1, h2⟩ := h
    simpa using VRels.drop k h2

theorem VRels.set {μ : Map} : ∀ {vs : List V} {xs : List Value} (k : Nat) (v : V) (x : Value), VRels μ vs xs → VRel μ v x → VRels μ (vs.set k v) (xs.set k x)
  | [], _, k, v, x, h, _ => by simp only [VRels] at h; subst h; simp [VRels]
  | u :: r, xs, 0, v, x, h, hv => by
    simp only [VRels] at h
    obtain ⟨y, t, rfl, h1, h2⟩ := h
    simp only [List.set_cons_zero, VRels]
    exact ⟨x, t, rfl, hv, h2⟩
  | u :: r, xs, k + 1, v, x, h, hv => by
    simp only [VRels] at h
    obtain ⟨y, t, rfl, h1, h2⟩ := h
    simp only [List.set_cons_succ, VRels]
    exact ⟨y, t.set k x, rfl, h1, VRels.set k v x h2 hv⟩

theorem VRel.cells {μ : Map} {v : V} {x : Value} (h : VRel μ v x) : VRels μ v.cells (x.cells.toList.take v.cells.length) := by
  cases v <;> simp only [VRel] at h
  case agg cs => 
    obtain ⟨a, rfl, h, _⟩ := h
    show VRels μ cs (a.toList.take cs.length)
    rw [List.take_of_length_le (by rw [h.length]; exact Nat.le_refl _)]
    exact h
  case tup cs => simp [V.cells, VRels]
  case ptr => obtain ⟨l, h1, rfl⟩ := h; simp [V.cells, Value.cells, VRels, VRel, h1]
  case sl => obtain ⟨l, a, cap, h1, rfl, h2⟩ := h; simp [V.cells, Value.cells, VRels, VRel, h1]; exact ⟨a, cap, ⟨rfl, rfl⟩, h2⟩
  case fn => obtain ⟨cs, rfl, h⟩ := h; simp [V.cells, Value.cells, VRels, VRel]; exact h
  case ifc => obtain ⟨y, rfl, h⟩ := h; simp [V.cells, Value.cells, VRels, VRel]; exact h
  all_goals (subst h; simp [V.cells, Value.cells, VRels, VRel])

theorem VRel.cells_one {μ : Map} {v : V} {x : Value} (h : VRel μ v x) : ∀ c ∈ v.cells, c.one = true := by
  cases v <;> simp only [VRel] at h
  case agg cs => obtain ⟨a, rfl, _, h⟩ := h; exact h
  all_goals simp [V.cells, V.one]

theorem VRel.cells_size {μ : Map} {v : V} {x : Value} (h : VRel μ v x) (hc : v.cells ≠ []) : x.cells.size = v.cells.length := by
  cases v <;> simp only [VRel] at h
  case agg cs => obtain ⟨a, rfl, h, _⟩ := h; simp [V.cells, Value.cells, h.length]
  case tup cs => simp [V.cells] at hc
  case ptr => obtain ⟨l, h1, rfl⟩ := h; rfl
  case sl => obtain ⟨l, a, cap, h1, rfl, h2⟩ := h; rfl
  case fn => obtain ⟨cs, rfl, h⟩ := h; rfl
  case ifc => obtain ⟨y, rfl, h⟩ := h; rfl
  all_goals (subst h; rfl)

theorem VRel.one {μ : Map} {v : V} {x : Value} (h : VRel μ v x) (h1 : v.one = true) : x.oneCell' = true := by
  cases v <;> simp only [VRel] at h
  case agg cs => simp [V.one] at h1
  case tup cs => simp [V.one] at h1
  case ptr => obtain ⟨l, h1, rfl⟩ := h; rfl
  case sl => obtain ⟨l, a, cap, h1, rfl, h2⟩ := h; rfl
  case fn => obtain ⟨cs, rfl, h⟩ := h; rfl
  case ifc => obtain ⟨y, rfl, h⟩ := h; rfl
  all_goals (subst h; rfl)

structure Blk where
  own : Bool
  sz : Nat
  cells : List V

abbrev Heap := Nat → Option Blk

/-- what a world bears of a block -/
structure Bears (μ : Map) (w : World) (blk : Blk) (l : Loc) : Prop where
  cells : ∀ i v, blk.cells[i]? = some v → ∃ c, w.cell? ⟨l.b, l.x + i, none⟩ = some c ∧ VRel μ v c ∧ v.one = true
  own : blk.own = true → l.x = 0 ∧ ∃ c e, w.heap[l.b]? = some (.cells c e (0, 0)) ∧ l.room = some (blk.sz, c.size)
  notown : blk.own = false → l.room = none

structure Sim (μ : Map) (H : Heap) (w : World) : Prop where
  bears : ∀ n blk, H n = some blk → ∃ l, μ n = some l ∧ Bears μ w blk l
  apart : ∀ n blk m blk' l l', H n = some blk → blk.own = true → H m = some blk' → (blk'.own = true ∨ blk'.cells ≠ []) → n ≠ m → μ n = some l → μ m = some l' → l'.b ≠ l.b
  bound : ∃ N, ∀ n, N ≤ n → μ n = none

def Owns (μ : Map) (H : Heap) (b : Nat) : Prop := ∃ n blk l, H n = some blk ∧ blk.own = true ∧ μ n = some l ∧ l.b = b

structure Tr (μ : Map) (H : Heap) (w : World) (μ' : Map) (H' : Heap) (w' : World) : Prop where
  le : μ.le μ'
  size : w.heap.size ≤ w'.heap.size
  os : w'.os = w.os
  tape : w'.tape = w.tape
  output : w'.output = w.output
  frame : ∀ b, b < w.heap.size → ¬ Owns μ H b → w'.heap[b]? = w.heap[b]?
  own : ∀ b, Owns μ' H' b → w.heap.size ≤ b ∨ Owns μ H b
  fresh : ∀ n, H n = none → H' n ≠ none → μ n = none
  kept : ∀ n b, H' n = some b → b.own = false → H n = some b

theorem Tr.refl (μ : Map) (H : Heap) (w : World) : Tr μ H w μ H w :=
  ⟨fun _ _ h => h, Nat.le_refl _, rfl, rfl, rfl, fun _ _ _ => rfl, fun _ h => .inr h, fun _ h h' => absurd h h', fun _ _ h _ => h⟩

theorem Tr.trans {μ H w μ₁ H₁ w₁ μ₂ H₂ w₂} (h : Tr μ H w μ₁ H₁ w₁) (k : Tr μ₁ H₁ w₁ μ₂ H₂ w₂) : Tr μ H w μ₂ H₂ w₂ where
  le n l e := k.le _ _ (h.le _ _ e)
  size := Nat.le_trans h.size k.size
  os := k.os.trans h.os
  tape := k.tape.trans h.tape
  output := k.output.trans h.output
  frame b hb ho := by
    rw [k.frame b (Nat.lt_of_lt_of_le hb h.size) ?_, h.frame b hb ho]
    intro ho'
    rcases h.own b ho' with h' | h'
    · omega
    · exact ho h'
  own b ho := by
    rcases k.own b ho with h' | h'
    · exact .inl (Nat.le_trans h.size h')
    · exact h.own b h'
  fresh n hn hn' := by
    cases e : H₁ n with
    | none =>
      have := k.fresh n e hn'
      cases e' : μ n with
      | none => rfl
      | some l => rw [h.le _ _ e'] at this; cases this
    | some b => exact h.fresh n hn (by simp [e])
  kept n b e ho := h.kept n b (k.kept n b e ho) ho

/-- the same heap with fewer names -/
def Heap.sub (H H' : Heap) : Prop := ∀ n b, H n = some b → H' n = some b

theorem Sim.sub {μ : Map} {H H' : Heap} {w : World} (h : Sim μ H w) (hs : Heap.sub H' H) : Sim μ H' w where
  bears n blk e := h.bears n blk (hs _ _ e)
  apart n blk m blk' l l' e ho e' := h.apart n blk m blk' l l' (hs _ _ e) ho (hs _ _ e')
  bound := h.bound

theorem Owns.sub {μ : Map} {H H' : Heap} {b : Nat} (h : Owns μ H' b) (hs : Heap.sub H' H) : Owns μ H b := by
  obtain ⟨n, blk, l, e, r⟩ := h
  exact ⟨n, blk, l, hs _ _ e, r⟩

theorem Tr.sub {μ H w μ' H' H'' w'} (h : Tr μ H w μ' H' w') (hs : Heap.sub H'' H') : Tr μ H w μ' H'' w' where
  le := h.le
  size := h.size
  os := h.os
  tape := h.tape
  output := h.output
  frame := h.frame
  own b ho := h.own b (ho.sub hs)
  fresh n hn hn' := by
    refine h.fresh n hn ?_
    cases e : H'' n with
    | none => exact absurd e hn'
    | some b => rw [hs _ _ e]; simp
  kept n b e ho := h.kept n b (hs _ _ e) ho

def Heap.upd (H : Heap) (n : Nat) (b : Option Blk) : Heap := fun m => if m = n then b else H m

theorem upd_same (H : Heap) (n : Nat) (b : Option Blk) : Heap.upd H n b n = b := by simp [Heap.upd]
theorem upd_ne (H : Heap) (n m : Nat) (b : Option Blk) (h : m ≠ n) : Heap.upd H n b m = H m := by simp [Heap.upd, h]
theorem upd_old (H : Heap) (n m : Nat) (b : Option Blk) (hn : H n = none) (hm : (H m).isSome) : Heap.upd H n b m = H m := by
  refine upd_ne H n m b fun h => ?_
  subst h; simp [hn] at hm
theorem upd_comm (H : Heap) {n m : Nat} (b c : Option Blk) (h : n ≠ m) : Heap.upd (Heap.upd H n b) m c = Heap.upd (Heap.upd H m c) n b := by
  funext k
  simp only [Heap.upd]
  by_cases h1 : k = m <;> by_cases h2 : k = n <;> simp [h1, h2]
  · subst h1; subst h2; exact absurd rfl h
  · subst h1; simp [Ne.symm h]
  · subst h2; simp [h]

abbrev Env := Nat → V
def Env.put (env : Env) (d : Option Nat) (v : V) : Env :=
  match d with
  | some d => fun t => if t = d then v else env t
  | none => env

/-- undef -/
def und : V := .tup []

structure St (n : Nat) (μ : Map) (env : Env) (H : Heap) (a : Act) (w : World) : Prop where
  size : a.tmps.size = n
  tmps : ∀ t, t < n → VRel μ (env t) (a.tmps.getD t undef)
  defers : a.defers = []
  sim : Sim μ H w

theorem St.put {n μ env H a w} (h : St n μ env H a w) {d : Option Nat} {v : V} {x : Value} (hv : VRel μ v x) : St n μ (env.put d v) H (a.put d x) w := by
  cases d with
  | none => exact h
  | some d =>
    refine ⟨by simp [Act.put, h.size], fun t ht => ?_, h.defers, h.sim⟩
    simp only [Env.put, Act.put]
    by_cases e : t = d
    · subst e
      have : t < a.tmps.size := by rw [h.size]; exact ht
      simp [this, hv]
    · have := h.tmps t ht
      simp only [e, if_false]
      rw [show (a.tmps.setIfInBounds d x).getD t undef = a.tmps.getD t undef by simp [Array.getElem?_setIfInBounds_ne (Ne.symm e)]]
      exact this

theorem St.mono {n μ env H a w μ' H' w'} (h : St n μ env H a w) (hle : μ.le μ') (hs : Sim μ' H' w') : St n μ' env H' a w' :=
  ⟨h.size, fun t ht => VRel.mono hle _ _ (h.tmps t ht), h.defers, hs⟩

end Go.AM
