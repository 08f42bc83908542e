/- The instructions of the abstract machine, and how they are made from the operations of a program. Conditions: none. -/
import Derived.Test.YtopeeknimehmcaaA1
set_option linter.unusedVariables false
set_option linter.unusedSimpArgs false
namespace Go.AM
open Go

inductive Opd where
  | s (t : Nat)
  | c (v : V)
  deriving Inhabited

def Opd.ev (env : Env) : Opd → V
  | .s t => env t
  | .c v => v

inductive I where
  | mov (x : Opd)
  | pick (c a b : Opd)
  | new (x : Opd)
  | zero (zs : List V)
  | ld (agg : Bool) (sz : Nat) (x : Opd) (rt : Option Nat)
  | st (sz : Nat) (a x : Opd) (av : List Nat)
  | bin (op : BinOp) (x y : Opd)
  | beq (neg : Bool) (x y : Opd)
  | isnil (neg : Bool) (k : Nat) (x : Opd)
  | eqs (neg : Bool) (n : Nat) (x y : Opd)
  | un (op : UnOp) (x : Opd)
  | conv (k : IntKind) (x : Opd)
  | fa (off : Nat) (x : Opd)
  | fld (agg : Bool) (off sz : Nat) (x : Opd)
  | ia (sz : Nat) (x i : Opd)
  | mk (sz bytes : Nat) (zs : List V) (len cap : Opd)
  | sli (sz : Nat) (x : Opd) (lo hi mx : Option Opd)
  | ext (x : Opd) (i : Nat)
  | ifc (t : TypeId) (x : Opd)
  | mkf (f : FuncId) (caps : List Opd)
  | agg (zs : List V) (parts : List (Nat × Nat × Opd))
  | bsl (sz len : Nat) (zs : List V) (parts : List (Nat × Nat × Opd))
  | len (x : Opd)
  | app (sz bytes : Nat) (s x : Opd) (av : List Nat)
  | cpy (sz : Nat) (d s : Opd)
  | mm (mx : Bool) (x y : Opd)
  | nilchk (x : Opd)
  | call (f : Opd) (args : List Opd)
  | inv (x : Opd) (t : TypeId) (f : FuncId) (args : List Opd)
  | bad
  deriving Inhabited

/-- an instruction with its guard and the slot that it fills; p: a call that leaves alone what was there -/
structure GI where
  g : Option (Nat × Bool)
  p : Bool
  d : Option Nat
  i : I
  deriving Inhabited

def mapO {α β : Type} (f : α → Option β) : List α → Option (List β)
  | [] => some []
  | a :: r => match f a with
    | none => none
    | some b => match mapO f r with
      | none => none
      | some bs => some (b :: bs)

/-! ### what the quiet instructions come to -/

def splice (l : List V) (o : Nat) (xs : List V) : List V := l.take o ++ xs ++ l.drop (o + xs.length)

def fillV (cells : List V) : List (Nat × Nat × V) → Option (List V)
  | [] => some cells
  | (off, sz, v) :: r => if v.cells.length = sz ∧ 0 < sz ∧ off + sz ≤ cells.length then fillV (splice cells off v.cells) r else none

def binV : BinOp → V → V → Option V
  | .add, .int k a, .int k' b => if k = k' then some (.int k (k.wrap (a + b))) else none
  | .sub, .int k a, .int k' b => if k = k' then some (.int k (k.wrap (a - b))) else none
  | .mul, .int k a, .int k' b => if k = k' then some (.int k (k.wrap (a * b))) else none
  | .quo, .int k a, .int k' b => if k = k' ∧ b ≠ 0 then some (.int k (k.wrap (a.tdiv b))) else none
  | .rem, .int k a, .int k' b => if k = k' ∧ b ≠ 0 then some (.int k (a.tmod b)) else none
  | .and, .int k a, .int k' b => if k = k' then some (.int k (k.wrap (BitVec.ofInt k.bits a &&& BitVec.ofInt k.bits b).toNat)) else none
  | .or, .int k a, .int k' b => if k = k' then some (.int k (k.wrap (BitVec.ofInt k.bits a ||| BitVec.ofInt k.bits b).toNat)) else none
  | .xor, .int k a, .int k' b => if k = k' then some (.int k (k.wrap (BitVec.ofInt k.bits a ^^^ BitVec.ofInt k.bits b).toNat)) else none
  | .shl, .int k a, .int _ b => if 0 ≤ b then some (.int k (k.wrap (a * 2 ^ (min b.toNat k.bits)))) else none
  | .shr, .int k a, .int _ b => if 0 ≤ b then some (.int k (a.fdiv (2 ^ (min b.toNat k.bits)))) else none
  | .eql, .int k a, .int k' b => if k = k' then some (.bool (a == b)) else none
  | .neq, .int k a, .int k' b => if k = k' then some (.bool (a != b)) else none
  | .lss, .int k a, .int k' b => if k = k' then some (.bool (decide (a < b))) else none
  | .leq, .int k a, .int k' b => if k = k' then some (.bool (decide (a ≤ b))) else none
  | .gtr, .int k a, .int k' b => if k = k' then some (.bool (decide (a > b))) else none
  | .geq, .int k a, .int k' b => if k = k' then some (.bool (decide (a ≥ b))) else none
  | _, _, _ => none

def unV : UnOp → V → Option V
  | .neg, .int k n => some (.int k (k.wrap (0 - n)))
  | .not, .bool b => some (.bool (!b))
  | _, _ => none

def nilV : Nat → V → Option Bool
  | 0, .nils => some true
  | 0, .sl .. => some false
  | 1, .nilp => some true
  | 1, .ptr .. => some false
  | 2, .nilf => some true
  | 2, .fn .. => some false
  | _, _ => none

def eqCells : List V → List V → Option Bool
  | [], [] => some true
  | .int k a :: r, .int k' b :: s => if k = k' then (eqCells r s).map fun e => (a == b) && e else none
  | _, _ => none

def cutOf (o : Option V) (d : Nat) : Option Nat :=
  match o with
  | none => some d
  | some (.int _ i) => if 0 ≤ i then some i.toNat else none
  | some _ => none

def sliV (H : Heap) (sz : Nat) (x : V) (lo hi mx : Option V) : Option V :=
  match x with
  | .nils => match cutOf lo 0, cutOf hi 0, cutOf mx 0 with
    | some 0, some 0, some 0 => if 0 < sz ∧ (mx.isNone || hi.isSome) = true then some .nils else none
    | _, _, _ => none
  | .sl n o len full => match H n, cutOf lo 0, cutOf hi len with
    | some b, some l, some h =>
      if l ≤ h ∧ h ≤ len ∧ 0 < sz ∧ b.sz = sz then
        match mx with
        | none => some (.sl n (o + l * sz) (h - l) (full && h == len))
        | some m => match cutOf (some m) 0 with
          | some m => if h ≤ m ∧ m ≤ len ∧ hi.isSome = true then some (.sl n (o + l * sz) (h - l) (m == h)) else none
          | none => none
      else none
    | _, _, _ => none
  | _ => none

def ldV (H : Heap) (agg : Bool) (sz : Nat) : V → Option V
  | .ptr n o => match H n with
    | some b => if agg then (if o + sz ≤ b.cells.length then some (.agg ((b.cells.drop o).take sz)) else none) else b.cells[o]?
    | none => none
  | _ => none

def lenR : V → Option V
  | .sl _ _ len _ => some (.int .i64 len)
  | .nils => some (.int .i64 0)
  | _ => none

def mmV (mx : Bool) : V → V → Option V
  | .int k a, .int k' b => if k = k' then some (.int k (if mx then (if b > a then b else a) else (if b < a then b else a))) else none
  | _, _ => none

/-- pointers into one block -/
def sameName : V → V → Bool
  | .ptr n _, .ptr m _ => n == m
  | _, _ => false

/-- none of these slots points into block n -/
def offAll (env : Env) (n : Nat) : List Nat → Prop
  | [] => True
  | s :: r => (match env s with | .ptr m _ => m ≠ n | _ => True) ∧ offAll env n r

/-- quiet instructions: the value they give -/
def pv (i : I) (env : Env) (H : Heap) : Option V :=
  match i with
  | .mov x => some (x.ev env)
  | .pick c a b => match c.ev env with
    | .bool true => some (a.ev env)
    | .bool false => some (b.ev env)
    | _ => none
  | .ld agg sz x rt => match rt with
    | none => ldV H agg sz (x.ev env)
    | some r => if sameName (x.ev env) (env r) then ldV H agg sz (x.ev env) else none
  | .bin op x y => binV op (x.ev env) (y.ev env)
  | .beq neg x y => match x.ev env, y.ev env with
    | .bool a, .bool b => some (.bool ((a == b) != neg))
    | _, _ => none
  | .isnil neg k x => (nilV k (x.ev env)).map fun b => .bool (b != neg)
  | .eqs neg n x y => match x.ev env, y.ev env with
    | .agg xs, .agg ys => if xs.length = n then (eqCells xs ys).map fun b => .bool (b != neg) else none
    | _, _ => none
  | .un op x => unV op (x.ev env)
  | .conv k x => match x.ev env with
    | .int _ n => some (.int k (k.wrap n))
    | _ => none
  | .fa off x => match x.ev env with
    | .ptr n o => some (.ptr n (o + off))
    | _ => none
  | .fld agg off sz x => match x.ev env with
    | .agg cs => if agg then (if off + sz ≤ cs.length then some (.agg ((cs.drop off).take sz)) else none) else cs[off]?
    | _ => none
  | .ia sz x i => match x.ev env, i.ev env with
    | .sl n o len _, .int _ j => if 0 ≤ j ∧ j < len then some (.ptr n (o + j.toNat * sz)) else none
    | _, _ => none
  | .sli sz x lo hi mx => sliV H sz (x.ev env) (lo.map (Opd.ev env)) (hi.map (Opd.ev env)) (mx.map (Opd.ev env))
  | .ext x i => match x.ev env with
    | .tup vs => vs[i]?
    | _ => none
  | .ifc t x => some (.ifc t (x.ev env))
  | .mkf f caps => some (.fn f (caps.map (Opd.ev env)))
  | .agg zs parts => (fillV zs (parts.map fun p => (p.1, p.2.1, p.2.2.ev env))).map V.agg
  | .len x => lenR (x.ev env)
  | .mm mx x y => mmV mx (x.ev env) (y.ev env)
  | .nilchk x => match x.ev env with
    | .ptr n o => some (.ptr n o)
    | .fn f caps => some (.fn f caps)
    | .sl n o len full => some (.sl n o len full)
    | .nils => some .nils
    | _ => none
  | _ => none

/-! ### calls -/

def okFn (P : Program) (f : FuncId) : Bool :=
  match P.funcs[f]? with
  | some fn => fn.body.isSome && fn.name != "runtime.NumGoroutine"
  | none => false

/-- THE CONTRACT OF A CALL: in every world that bears H, the call returns a value of R, and changes no memory beyond what H owns. -/
def ACalls (P : Program) (f : FuncId) (args : List V) (H : Heap) (R : V → Heap → Prop) : Prop :=
  okFn P f = true ∧ ∀ (μ : Map) (w : World) (cargs : Array Value), Sim μ H w → VRels μ args cargs.toList →
    Calls P f cargs w fun e w' => ∃ μ' cv v H', e = .returned cv ∧ Tr μ H w μ' H' w' ∧ Sim μ' H' w' ∧ VRel μ' v cv ∧ R v H'

theorem ACalls.mono {P f args H R R'} (h : ACalls P f args H R) (hr : ∀ v H', R v H' → R' v H') : ACalls P f args H R' :=
  ⟨h.1, fun μ w cargs hs hv => (h.2 μ w cargs hs hv).mono fun e w' ⟨μ', cv, v, H', a, b, c, d, r⟩ => ⟨μ', cv, v, H', a, b, c, d, hr _ _ r⟩⟩

/-- the cells of a slice's elements -/
def cellsAt (H : Heap) (sz : Nat) : V → Option (List V)
  | .nils => some []
  | .sl n o len _ => if len = 0 then some [] else match H n with
    | some b => if o + len * sz ≤ b.cells.length then some ((b.cells.drop o).take (len * sz)) else none
    | none => none
  | _ => none

def lenV : V → Nat
  | .sl _ _ len _ => len
  | _ => 0

/-- an instruction: K takes the value that it gives and the heap behind it -/
def iwp (P : Program) (i : I) (K : V → Heap → Prop) (env : Env) (H : Heap) : Prop :=
  match i with
  | .new x => ∀ n, H n = none → K (.ptr n 0) (H.upd n (some ⟨true, 1, (x.ev env).cells⟩))
  | .zero zs => ∀ n, H n = none → K (.ptr n 0) (H.upd n (some ⟨true, 1, zs⟩))
  | .st sz a x av => match a.ev env with
    | .ptr n o => match H n with
      | some b => offAll env n av ∧ b.own = true ∧ (x.ev env).cells.length = sz ∧ (0 < sz ∨ x.ev env = .agg []) ∧ o + sz ≤ b.cells.length ∧ K und (H.upd n (some ⟨true, b.sz, splice b.cells o (x.ev env).cells⟩))
      | none => False
    | _ => False
  | .mk sz bytes zs l c => match l.ev env, c.ev env with
    | .int _ len, .int _ cap => 0 ≤ len ∧ len ≤ cap ∧ cap * bytes ≤ 281474976710656 ∧ cap ≤ 281474976710656 ∧
      ∀ n, H n = none → K (.sl n 0 len.toNat (len == cap)) (H.upd n (some ⟨true, sz, (List.replicate len.toNat zs).flatten⟩))
    | _, _ => False
  | .bsl sz len zs parts => match fillV zs (parts.map fun p => (p.1, p.2.1, p.2.2.ev env)) with
    | some cs => ∀ n, H n = none → K (.sl n 0 len true) (H.upd n (some ⟨true, sz, cs⟩))
    | none => False
  | .app sz bytes s x av => match cellsAt H sz (x.ev env) with
    | some ys => (lenV (s.ev env) + lenV (x.ev env)) * bytes ≤ 140737488355328 ∧ (lenV (s.ev env) + lenV (x.ev env)) ≤ 140737488355328 ∧
      if lenV (x.ev env) = 0 then K (s.ev env) H ∧ (s.ev env = .nils ∨ ∃ n o l f, s.ev env = .sl n o l f) else
      match s.ev env with
      | .nils => ∀ m, H m = none → K (.sl m 0 (lenV (x.ev env)) false) (H.upd m (some ⟨true, sz, ys⟩))
      | .sl n o len full => match H n with
        | some b => offAll env n av ∧
          if full then o + len * sz ≤ b.cells.length ∧ ∀ m, H m = none → K (.sl m 0 (len + lenV (x.ev env)) false) (H.upd m (some ⟨true, sz, (b.cells.drop o).take (len * sz) ++ ys⟩))
          else b.own = true ∧ b.sz = sz ∧ o = 0 ∧ b.cells.length = len * sz ∧
            ∀ m, H m = none → K (.sl m 0 (len + lenV (x.ev env)) false) ((H.upd n none).upd m (some ⟨true, sz, b.cells ++ ys⟩))
        | none => False
      | _ => False
    | none => False
  | .cpy sz d s => match cellsAt H sz (s.ev env), d.ev env with
    | some ys, .sl n o len _ => match H n with
      | some b => b.own = true ∧ o + len * sz ≤ b.cells.length ∧
        K (.int .i64 (min (lenV (s.ev env)) len)) (H.upd n (some ⟨true, b.sz, splice b.cells o (ys.take (min (lenV (s.ev env)) len * sz))⟩))
      | none => False
    | some _, .nils => K (.int .i64 0) H
    | _, _ => False
  | .call f args => match f.ev env with
    | .fn g caps => ACalls P g (args.map (Opd.ev env) ++ caps) H K
    | _ => False
  | .inv x t f args => match x.ev env with
    | .ifc t' v => t' = t ∧ ACalls P f (v :: args.map (Opd.ev env)) H K
    | _ => False
  | i => match pv i env H with
    | some v => K v H
    | none => False

theorem iwp_mono {P i K K' env H} (h : iwp P i K env H) (hk : ∀ v H', K v H' → K' v H') : iwp P i K' env H := by
  cases i
  case new => exact fun n hn => hk _ _ (h n hn)
  case zero => exact fun n hn => hk _ _ (h n hn)
  case st sz a x av =>
    simp only [iwp] at h ⊢
    split at h
    · split at h
      · exact ⟨h.1, h.2.1, h.2.2.1, h.2.2.2.1, h.2.2.2.2.1, hk _ _ h.2.2.2.2.2⟩
      · exact h
    · exact h
  case mk sz bytes zs l c =>
    simp only [iwp] at h ⊢
    split at h
    · exact ⟨h.1, h.2.1, h.2.2.1, h.2.2.2.1, fun n hn => hk _ _ (h.2.2.2.2 n hn)⟩
    · exact h
  case bsl sz len zs parts =>
    simp only [iwp] at h ⊢
    split at h
    · exact fun n hn => hk _ _ (h n hn)
    · exact h
  case app sz bytes s x av =>
    simp only [iwp] at h ⊢
    split at h
    · refine ⟨h.1, h.2.1, ?_⟩
      have h := h.2.2
      by_cases hz : lenV (x.ev env) = 0
      · rw [if_pos hz] at h ⊢; exact ⟨hk _ _ h.1, h.2⟩
      · rw [if_neg hz] at h ⊢
        split at h
        · exact fun n hn => hk _ _ (h n hn)
        · split at h
          · rename_i full _ _ _ _
            obtain ⟨hoff, h⟩ := h
            refine ⟨hoff, ?_⟩
            by_cases hf : full = true
            · rw [if_pos hf] at h ⊢; exact ⟨h.1, fun n hn => hk _ _ (h.2 n hn)⟩
            · rw [if_neg hf] at h ⊢; exact ⟨h.1, h.2.1, h.2.2.1, h.2.2.2.1, fun n hn => hk _ _ (h.2.2.2.2 n hn)⟩
          · exact h
        · exact h
    · exact h
  case cpy sz d s =>
    simp only [iwp] at h ⊢
    split at h
    · split at h
      · exact ⟨h.1, h.2.1, hk _ _ h.2.2⟩
      · exact h
    · exact hk _ _ h
    · exact h
  case call f args =>
    simp only [iwp] at h ⊢
    split at h
    · exact h.mono hk
    · exact h
  case inv x t f args =>
    simp only [iwp] at h ⊢
    split at h
    · exact ⟨h.1, h.2.mono hk⟩
    · exact h
  all_goals
    simp only [iwp] at h ⊢
    split at h
    · exact hk _ _ h
    · exact h

/-! ### from a program's operations -/

def cvV : Nat → Value → Option V
  | 0, _ => none
  | n + 1, v => match v with
    | .int k i => some (.int k i)
    | .bool b => some (.bool b)
    | .pointer none => some .nilp
    | .slice none 0 0 => some .nils
    | .nilFunc => some .nilf
    | .nilIface => some .nili
    | .agg a => match mapO (cvV n) a.toList with
      | some cs => if cs.all V.one then some (.agg cs) else none
      | none => none
    | _ => none

def cvO (n : Nat) : Operand → Option Opd
  | .tmp t => if t < n then some (.s t) else none
  | .const v => (cvV 3 v).map .c
  | .func f => some (.c (.fn f []))
  | .global _ => none

def cvO? (n : Nat) : Option Operand → Option (Option Opd)
  | none => some none
  | some x => (cvO n x).map some

def aggT (P : Program) (t : TypeId) : Bool :=
  match P.underlying t with
  | some (.struct _) | some (.array _ _) => true
  | _ => false

/-- a type that is known: its cells and its bytes -/
def szT (P : Program) (t : TypeId) : Option (Nat × Nat) :=
  match P.info? t, P.underlying t with
  | some i, some _ => some (i.size, i.bytes)
  | _, _ => none

def zeroT (P : Program) (t : TypeId) : Option (List V) :=
  match P.info? t with
  | some i => match i.zero with
    | some z => match cvV 4 z with
      | some v => some v.cells
      | none => none
    | none => none
  | none => none

/-- of a slice's type: its element's type -/
def elemT (P : Program) (t : TypeId) : Option TypeId :=
  match P.underlying t with
  | some (.slice e) => some e
  | _ => none

def isNilOpd : Nat → Operand → Bool
  | 0, .const (.slice none 0 0) => true
  | 1, .const (.pointer none) => true
  | 2, .const .nilFunc => true
  | _, _ => false

def nilKind : TypeDesc → Option Nat
  | .slice _ => some 0
  | .pointer _ => some 1
  | .func .. => some 2
  | _ => none

def negOp : BinOp → Option Bool
  | .eql => some false
  | .neq => some true
  | _ => none

/-- a struct's type of plain ints, a cell each, in order -/
def intsFrom (P : Program) : Nat → List Field → Bool
  | _, [] => true
  | i, f :: r => f.offset == i && f.name != "_" && (match P.underlying f.type with | some (.int _) => true | _ => false) && intsFrom P (i + 1) r

def partsT (P : Program) (n : Nat) (place : Nat → Option (Nat × Nat)) : List (Nat × Operand) → Option (List (Nat × Nat × Opd))
  | [] => some []
  | (i, x) :: r => match place i, cvO n x, partsT P n place r with
    | some (off, sz), some y, some ys => some ((off, sz, y) :: ys)
    | _, _, _ => none

/-- where the fields of a struct lie -/
def fieldsT (P : Program) : List Field → Option (List (Nat × Nat))
  | [] => some []
  | f :: r => match szT P f.type, fieldsT P r with
    | some (sz, _), some ys => some ((f.offset, sz) :: ys)
    | _, _ => none

def isPtr : TypeDesc → Bool
  | .pointer _ => true
  | _ => false

def methOk (m : Method) : Option FuncId :=
  match m.path.toList, m.func with
  | [], some (f, false) => some f
  | _, _ => none

def methT (P : Program) (t : TypeId) (name : String) : Option FuncId :=
  match P.info? t, P.underlying t with
  | some i, some d => if isPtr d then none else (i.methods.find? (·.name == name)).bind methOk
  | _, _ => none

def ifaceOf (ops : Array Oper) (x : Operand) : Option TypeId :=
  match x with
  | .tmp t => (ops.toList.findSome? fun o => match o.op, o.dst with
    | .makeInterface ty _, some d => if d = t then some ty else none
    | _, _ => none)
  | _ => none

def cvBin (P : Program) (n : Nat) (op : BinOp) (t : TypeId) (x y : Operand) : Option I :=
  match cvO n x, cvO n y, P.underlying t with
  | some a, some b, some d => match d with
    | .int _ => some (.bin op a b)
    | .bool => match negOp op with
      | some neg => some (.beq neg a b)
      | none => none
    | .struct fs => match negOp op with
      | some neg => if intsFrom P 0 fs.toList && !P.stoodInHeld t && !P.eqGuardType P.depth t then some (.eqs neg fs.size a b) else none
      | none => none
    | d => match negOp op, nilKind d with
      | some neg, some k => if isNilOpd k y then some (.isnil neg k a) else if isNilOpd k x then some (.isnil neg k b) else none
      | _, _ => none
  | _, _, _ => none

def cvLen (P : Program) (n : Nat) : List Operand → List TypeId → Option I
  | [x], [t] => match P.underlying t, cvO n x with
    | some (.slice _), some y => some (.len y)
    | _, _ => none
  | _, _ => none

def cvApp (P : Program) (n : Nat) : List Operand → List TypeId → Option I
  | [s, x], [t, u] => match elemT P t, elemT P u, cvO n s, cvO n x with
    | some e, some _, some s, some x => match szT P e, zeroT P e with
      | some (sz, bytes), some zs => if 0 < sz ∧ 0 < bytes ∧ zs.length = sz then some (.app sz bytes s x []) else none
      | _, _ => none
    | _, _, _, _ => none
  | _, _ => none

def cvCpy (P : Program) (n : Nat) : List Operand → List TypeId → Option I
  | [d, s], [t, u] => match elemT P t, elemT P u, cvO n d, cvO n s with
    | some e, some _, some d, some s => match szT P e with
      | some (sz, _) => if 0 < sz then some (.cpy sz d s) else none
      | none => none
    | _, _, _, _ => none
  | _, _ => none

def cvMM (n : Nat) (mx : Bool) : List Operand → Option I
  | [x, y] => match cvO n x, cvO n y with
    | some x, some y => some (.mm mx x y)
    | _, _ => none
  | _ => none

def cvCall (P : Program) (n : Nat) (ops : Array Oper) (c : Call) : Option I :=
  match c.callee with
  | .value f => match cvO n f, mapO (cvO n) c.args.toList with
    | some g, some xs => some (.call g xs)
    | _, _ => none
  | .invoke r name => match cvO n r, mapO (cvO n) c.args.toList, ifaceOf ops r with
    | some x, some xs, some t => match methT P t name with
      | some f => if okFn P f then some (.inv x t f xs) else none
      | none => none
    | _, _, _ => none
  | .builtin .len => cvLen P n c.args.toList c.argTypes.toList
  | .builtin .append => cvApp P n c.args.toList c.argTypes.toList
  | .builtin .copy => cvCpy P n c.args.toList c.argTypes.toList
  | .builtin .max => cvMM n true c.args.toList
  | .builtin .min => cvMM n false c.args.toList
  | .builtin _ => none

def cvI (P : Program) (n : Nat) (ops : Array Oper) : Op → Option I
  | .move x | .assign x => (cvO n x).map .mov
  | .pick c a b => match cvO n c, cvO n a, cvO n b with
    | some c, some a, some b => some (.pick c a b)
    | _, _, _ => none
  | .alloc t => (zeroT P t).map .zero
  | .box t x => (cvO n x).map .new
  | .build t parts => match P.underlying t, zeroT P t with
    | some (.struct fs), some zs => match fieldsT P fs.toList with
      | some pl => (partsT P n (pl[·]?) parts.toList).map (.agg zs)
      | none => none
    | _, _ => none
  | .buildSlice t len parts => match elemT P t with
    | some e => match szT P e, zeroT P e with
      | some (sz, _), some zs =>
        if 0 < sz ∧ zs.length = sz ∧ len * sz ≤ 16777216 then
          (partsT P n (fun i => some (i * sz, sz)) parts.toList).map (.bsl sz len (List.replicate len zs).flatten)
        else none
      | _, _ => none
    | none => none
  | .load t a => match szT P t, cvO n a with
    | some (sz, _), some x => some (.ld (aggT P t) sz x none)
    | _, _ => none
  | .store t a x => match szT P t, cvO n a, cvO n x with
    | some (sz, _), some p, some y => some (.st sz p y [])
    | _, _, _ => none
  | .nilCheck x => (cvO n x).map .nilchk
  | .binOp op t x y _ => cvBin P n op t x y
  | .unOp op _ x => (cvO n x).map (.un op)
  | .convert src dst x => match P.underlying src, P.underlying dst, cvO n x with
    | some _, some (.int k), some y => some (.conv k y)
    | _, _, _ => none
  | .makeInterface t x => match P.underlying t, cvO n x with
    | some (.interface _), _ => none
    | some _, some y => some (.ifc t y)
    | _, _ => none
  | .makeFunc (.func f) first captured => match first.toList, mapO (cvO n) captured.toList with
    | [], some xs => some (.mkf f xs)
    | _, _ => none
  | .makeSlice t l c => match elemT P t, cvO n l, cvO n c with
    | some e, some l, some c => match szT P e, zeroT P e with
      | some (sz, bytes), some zs => if 0 < sz ∧ zs.length = sz then some (.mk sz bytes zs l c) else none
      | _, _ => none
    | _, _, _ => none
  | .slice t x lo hi mx => match elemT P t with
    | some e => match szT P e, cvO n x, cvO? n lo, cvO? n hi, cvO? n mx with
      | some (sz, _), some x, some lo, some hi, some mx => some (.sli sz x lo hi mx)
      | _, _, _, _, _ => none
    | none => none
  | .fieldAddr t x f => match P.underlying t, cvO n x with
    | some (.struct fs), some y => match fs[f]? with
      | some fd => match szT P fd.type with
        | some (sz, _) => if 0 < sz then some (.fa fd.offset y) else none
        | none => none
      | none => none
    | _, _ => none
  | .field t x f => match P.underlying t, cvO n x with
    | some (.struct fs), some y => match fs[f]? with
      | some fd => match szT P fd.type with
        | some (sz, _) => some (.fld (aggT P fd.type) fd.offset sz y)
        | none => none
      | none => none
    | _, _ => none
  | .indexAddr t x i => match elemT P t with
    | some e => match szT P e, cvO n x, cvO n i with
      | some (sz, _), some x, some i => some (.ia sz x i)
      | _, _, _ => none
    | none => none
  | .extract x i => (cvO n x).map fun y => .ext y i
  | .call c => cvCall P n ops c
  | _ => none

end Go.AM
