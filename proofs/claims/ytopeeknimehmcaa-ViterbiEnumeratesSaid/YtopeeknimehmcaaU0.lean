/- Stepping through the abstract machine's code by rewriting. Conditions: none. -/
import Derived.Test.YtopeeknimehmcaaB4
set_option linter.unusedVariables false
set_option linter.unusedSimpArgs false
namespace Go.AM
open Go


/-- stuck forms: the rest of the code stays unapplied, so that rewriting looks no further -/
def bindV (o : Option V) (d : Option Nat) (K : Env → Heap → Prop) (env : Env) (H : Heap) : Prop := match o with | some v => K (env.put d v) H | none => False
def grd (v : V) (want : Bool) (P : Program) (i : I) (p : Bool) (d : Option Nat) (K : Env → Heap → Prop) (env : Env) (H : Heap) : Prop := match v with
  | .bool b => if b == want then istep P ⟨none, p, d, i⟩ K env H else K (env.put d und) H
  | _ => K (env.put d und) H
def iteC (v : V) (P : Program) (a b : IC) (Q : Qt) (env : Env) (H : Heap) : Prop := match v with | .bool t => if t then cwp P a Q env H else cwp P b Q env H | _ => False
def newC (H : Heap) (b : Blk) (mkv : Nat → V) (d : Option Nat) (K : Env → Heap → Prop) (env : Env) : Prop := ∀ n, H n = none → K (env.put d (mkv n)) (H.upd n (some b))
def stC (H : Heap) (env : Env) (av : List Nat) (sz : Nat) (a x : V) (d : Option Nat) (K : Env → Heap → Prop) : Prop :=
  match a with
  | .ptr n o => match H n with
    | some b => offAll env n av ∧ b.own = true ∧ x.cells.length = sz ∧ (0 < sz ∨ x = .agg []) ∧ o + sz ≤ b.cells.length ∧ K (env.put d und) (H.upd n (some ⟨true, b.sz, splice b.cells o x.cells⟩))
    | none => False
  | _ => False
def callC (P : Program) (f : V) (args : List V) (keep : Bool) (d : Option Nat) (K : Env → Heap → Prop) (env : Env) (H : Heap) : Prop :=
  match f with
  | .fn g caps => ACalls P g (args ++ caps) H (fun v H' => if keep then Heap.sub H H' ∧ K (env.put d v) H' else K (env.put d v) H')
  | _ => False
def invC (P : Program) (x : V) (t : TypeId) (f : FuncId) (args : List V) (keep : Bool) (d : Option Nat) (K : Env → Heap → Prop) (env : Env) (H : Heap) : Prop :=
  match x with
  | .ifc t' v => t' = t ∧ ACalls P f (v :: args) H (fun v H' => if keep then Heap.sub H H' ∧ K (env.put d v) H' else K (env.put d v) H')
  | _ => False
def mkC (H : Heap) (sz bytes : Nat) (zs : List V) (l c : V) (d : Option Nat) (K : Env → Heap → Prop) (env : Env) : Prop :=
  match l, c with
  | .int _ len, .int _ cap => 0 ≤ len ∧ len ≤ cap ∧ cap * bytes ≤ 281474976710656 ∧ cap ≤ 281474976710656 ∧
      ∀ n, H n = none → K (env.put d (.sl n 0 len.toNat (len == cap))) (H.upd n (some ⟨true, sz, (List.replicate len.toNat zs).flatten⟩))
  | _, _ => False
def appC (H : Heap) (env : Env) (sz bytes : Nat) (s x : V) (av : List Nat) (d : Option Nat) (K : Env → Heap → Prop) : Prop :=
  match cellsAt H sz x with
    | some ys => (lenV s + lenV x) * bytes ≤ 140737488355328 ∧ (lenV s + lenV x) ≤ 140737488355328 ∧
      if lenV x = 0 then K (env.put d s) H ∧ (s = .nils ∨ ∃ n o l f, s = .sl n o l f) else
      match s with
      | .nils => ∀ m, H m = none → K (env.put d (.sl m 0 (lenV x) false)) (H.upd m (some ⟨true, sz, ys⟩))
      | .sl n o len full => match H n with
        | some b => offAll env n av ∧
          if full then o + len * sz ≤ b.cells.length ∧ ∀ m, H m = none → K (env.put d (.sl m 0 (len + lenV x) false)) (H.upd m (some ⟨true, sz, (b.cells.drop o).take (len * sz) ++ ys⟩))
          else b.own = true ∧ b.sz = sz ∧ o = 0 ∧ b.cells.length = len * sz ∧
            ∀ m, H m = none → K (env.put d (.sl m 0 (len + lenV x) false)) ((H.upd n none).upd m (some ⟨true, sz, b.cells ++ ys⟩))
        | none => False
      | _ => False
    | none => False
def cpyC (H : Heap) (sz : Nat) (x s : V) (d : Option Nat) (K : Env → Heap → Prop) (env : Env) : Prop :=
  match cellsAt H sz s, x with
    | some ys, .sl n o len _ => match H n with
      | some b => b.own = true ∧ o + len * sz ≤ b.cells.length ∧
        K (env.put d (.int .i64 (min (lenV s) len))) (H.upd n (some ⟨true, b.sz, splice b.cells o (ys.take (min (lenV s) len * sz))⟩))
      | none => False
    | some _, .nils => K (env.put d (.int .i64 0)) H
    | _, _ => False

def pickV (c a b : V) : Option V := match c with | .bool true => some a | .bool false => some b | _ => none
def faV (off : Nat) : V → Option V
  | .ptr n o => some (.ptr n (o + off))
  | _ => none
def fldV (agg : Bool) (off sz : Nat) : V → Option V
  | .agg cs => if agg then (if off + sz ≤ cs.length then some (.agg ((cs.drop off).take sz)) else none) else cs[off]?
  | _ => none
def iaV (sz : Nat) (x i : V) : Option V :=
  match x, i with
  | .sl n o len _, .int _ j => if 0 ≤ j ∧ j < len then some (.ptr n (o + j.toNat * sz)) else none
  | _, _ => none
def extV (i : Nat) : V → Option V
  | .tup vs => vs[i]?
  | _ => none
def convV (k : IntKind) : V → Option V
  | .int _ n => some (.int k (k.wrap n))
  | _ => none
def beqV (neg : Bool) (x y : V) : Option V := match x, y with
  | .bool a, .bool b => some (.bool ((a == b) != neg))
  | _, _ => none
def eqsV (neg : Bool) (n : Nat) (x y : V) : Option V := match x, y with
  | .agg xs, .agg ys => if xs.length = n then (eqCells xs ys).map fun b => .bool (b != neg) else none
  | _, _ => none
def nilchkV (x : V) : Option V := match x with
  | .ptr n o => some (.ptr n o)
  | .fn f caps => some (.fn f caps)
  | .sl n o len full => some (.sl n o len full)
  | .nils => some .nils
  | _ => none

section
variable {P : Program} {K : Env → Heap → Prop} {env : Env} {H : Heap} {d : Option Nat} {Q : Qt}

theorem c_skip : cwp P .skip Q env H = Q .normal env H := Eq.trans rfl rfl
theorem c_ops (l : List GI) : cwp P (.ops l) Q env H = irun P l (Q .normal) env H := Eq.trans rfl rfl
theorem c_seq (a b : IC) : cwp P (.seq a b) Q env H = cwp P a (thenE (cwp P b Q) Q) env H := Eq.trans rfl rfl
theorem c_ite (c : Opd) (a b : IC) : cwp P (.ite c a b) Q env H = iteC (c.ev env) P a b Q env H := by
  simp only [cwp, iteC]
  rfl
theorem iteC_true (a b : IC) : iteC (.bool true) P a b Q env H = cwp P a Q env H := Eq.trans rfl rfl
theorem iteC_false (a b : IC) : iteC (.bool false) P a b Q env H = cwp P b Q env H := Eq.trans rfl rfl
theorem iteC_if {c : Prop} [Decidable c] {a b : IC} (h1 : c → cwp P a Q env H) (h2 : ¬ c → cwp P b Q env H) : iteC (.bool (decide c)) P a b Q env H := by
  by_cases h : c
  · simp only [h, decide_true, iteC_true]; exact h1 h
  · simp only [h, decide_false, iteC_false]; exact h2 h
theorem iteC_b {t : Bool} {a b : IC} (h1 : t = true → cwp P a Q env H) (h2 : t = false → cwp P b Q env H) : iteC (.bool t) P a b Q env H := by
  cases t
  · exact h2 rfl
  · exact h1 rfl
theorem c_blk (id : Nat) (c : IC) : cwp P (.blk id c) Q env H = cwp P c (inBlk id Q) env H := Eq.trans rfl rfl
theorem c_exit (id : Nat) : cwp P (.exit id) Q env H = Q (.exit id) env H := Eq.trans rfl rfl
theorem c_ret : cwp P .ret Q env H = Q .ret env H := Eq.trans rfl rfl

theorem t_normal {X : Env → Heap → Prop} : thenE X Q .normal env H = X env H := Eq.trans rfl rfl
theorem t_exit {X : Env → Heap → Prop} (id : Nat) : thenE X Q (.exit id) env H = Q (.exit id) env H := Eq.trans rfl rfl
theorem t_ret {X : Env → Heap → Prop} : thenE X Q .ret env H = Q .ret env H := Eq.trans rfl rfl
theorem b_normal (id : Nat) : inBlk id Q .normal env H = Q .normal env H := Eq.trans rfl rfl
theorem b_exit (id id' : Nat) : inBlk id Q (.exit id') env H = if id' = id then Q .normal env H else Q (.exit id') env H := Eq.trans rfl rfl
theorem b_ret (id : Nat) : inBlk id Q .ret env H = Q .ret env H := Eq.trans rfl rfl

theorem i_nil : irun P [] K env H = K env H := Eq.trans rfl rfl
theorem i_cons (g : GI) (r : List GI) : irun P (g :: r) K env H = istep P g (irun P r K) env H := Eq.trans rfl rfl

theorem grd_tt (i : I) (p : Bool) : grd (.bool true) true P i p d K env H = istep P ⟨none, p, d, i⟩ K env H := Eq.trans rfl rfl
theorem grd_tf (i : I) (p : Bool) : grd (.bool true) false P i p d K env H = K (env.put d und) H := Eq.trans rfl rfl
theorem grd_ft (i : I) (p : Bool) : grd (.bool false) true P i p d K env H = K (env.put d und) H := Eq.trans rfl rfl
theorem grd_ff (i : I) (p : Bool) : grd (.bool false) false P i p d K env H = istep P ⟨none, p, d, i⟩ K env H := Eq.trans rfl rfl
theorem grd_und (want : Bool) (i : I) (p : Bool) : grd und want P i p d K env H = K (env.put d und) H := Eq.trans rfl rfl
theorem s_guard (t : Nat) (want p : Bool) (i : I) : istep P ⟨some (t, want), p, d, i⟩ K env H = grd (env t) want P i p d K env H := by
  show (if gok (some (t, want)) env then _ else _) = _
  simp only [gok, grd]
  cases env t <;> first | rfl | (rename_i b; cases b <;> cases want <;> rfl)

theorem bindV_some (v : V) : bindV (some v) d K env H = K (env.put d v) H := Eq.trans rfl rfl
theorem bindV_of {o : Option V} {v : V} (h : o = some v) (hk : K (env.put d v) H) : bindV o d K env H := by rw [h]; exact hk

theorem s_mov (x : Opd) : istep P ⟨none, false, d, .mov x⟩ K env H = K (env.put d (x.ev env)) H := Eq.trans rfl rfl
theorem s_pick (c a b : Opd) : istep P ⟨none, false, d, .pick c a b⟩ K env H = bindV (pickV (c.ev env) (a.ev env) (b.ev env)) d K env H := by
  show iwp P (.pick c a b) (fun v H' => K (env.put d v) H') env H = _
  simp only [iwp, pv]
  cases c.ev env <;> first | rfl | (rename_i t; cases t <;> rfl)
theorem pickV_t (a b : V) : pickV (.bool true) a b = some a := Eq.trans rfl rfl
theorem pickV_f (a b : V) : pickV (.bool false) a b = some b := Eq.trans rfl rfl
theorem s_new (x : Opd) : istep P ⟨none, false, d, .new x⟩ K env H = newC H ⟨true, 1, (x.ev env).cells⟩ (fun n => .ptr n 0) d K env := Eq.trans rfl rfl
theorem s_zero (zs : List V) : istep P ⟨none, false, d, .zero zs⟩ K env H = newC H ⟨true, 1, zs⟩ (fun n => .ptr n 0) d K env := Eq.trans rfl rfl
theorem s_ld (agg : Bool) (sz : Nat) (x : Opd) : istep P ⟨none, false, d, .ld agg sz x none⟩ K env H = bindV (ldV H agg sz (x.ev env)) d K env H := Eq.trans rfl rfl
theorem s_ldr (agg : Bool) (sz : Nat) (x : Opd) (r : Nat) : istep P ⟨none, false, d, .ld agg sz x (some r)⟩ K env H = (sameName (x.ev env) (env r) = true ∧ bindV (ldV H agg sz (x.ev env)) d K env H) := by
  show iwp P (.ld agg sz x (some r)) (fun v H' => K (env.put d v) H') env H = _
  simp only [iwp, pv]
  cases sameName (x.ev env) (env r)
  · simp
  · simp only [if_true, true_and]; rfl
theorem s_st (sz : Nat) (a x : Opd) (av : List Nat) : istep P ⟨none, false, d, .st sz a x av⟩ K env H = stC H env av sz (a.ev env) (x.ev env) d K := by
  show iwp P (.st sz a x av) (fun v H' => K (env.put d v) H') env H = _
  simp only [iwp, stC]
  rfl
theorem s_bin (op : BinOp) (x y : Opd) : istep P ⟨none, false, d, .bin op x y⟩ K env H = bindV (binV op (x.ev env) (y.ev env)) d K env H := Eq.trans rfl rfl
theorem s_beq (neg : Bool) (x y : Opd) : istep P ⟨none, false, d, .beq neg x y⟩ K env H = bindV (beqV neg (x.ev env) (y.ev env)) d K env H := Eq.trans rfl rfl
theorem beq_bool (neg a b : Bool) : beqV neg (.bool a) (.bool b) = some (.bool ((a == b) != neg)) := Eq.trans rfl rfl
theorem s_isnil (neg : Bool) (k : Nat) (x : Opd) : istep P ⟨none, false, d, .isnil neg k x⟩ K env H = bindV ((nilV k (x.ev env)).map fun b => .bool (b != neg)) d K env H := Eq.trans rfl rfl
theorem s_eqs (neg : Bool) (n : Nat) (x y : Opd) : istep P ⟨none, false, d, .eqs neg n x y⟩ K env H = bindV (eqsV neg n (x.ev env) (y.ev env)) d K env H := Eq.trans rfl rfl
theorem s_un (op : UnOp) (x : Opd) : istep P ⟨none, false, d, .un op x⟩ K env H = bindV (unV op (x.ev env)) d K env H := Eq.trans rfl rfl
theorem un_not (b : Bool) : unV .not (.bool b) = some (.bool (!b)) := Eq.trans rfl rfl
theorem s_conv (k : IntKind) (x : Opd) : istep P ⟨none, false, d, .conv k x⟩ K env H = bindV (convV k (x.ev env)) d K env H := Eq.trans rfl rfl
theorem conv_int (k k' : IntKind) (n : Int) : convV k (.int k' n) = some (.int k (k.wrap n)) := Eq.trans rfl rfl
theorem s_fa (off : Nat) (x : Opd) : istep P ⟨none, false, d, .fa off x⟩ K env H = bindV (faV off (x.ev env)) d K env H := Eq.trans rfl rfl
theorem fa_ptr (off n o : Nat) : faV off (.ptr n o) = some (.ptr n (o + off)) := Eq.trans rfl rfl
theorem s_fld (agg : Bool) (off sz : Nat) (x : Opd) : istep P ⟨none, false, d, .fld agg off sz x⟩ K env H = bindV (fldV agg off sz (x.ev env)) d K env H := Eq.trans rfl rfl
theorem fld_one (off sz : Nat) (cs : List V) : fldV false off sz (.agg cs) = cs[off]? := Eq.trans rfl rfl
theorem s_ia (sz : Nat) (x i : Opd) : istep P ⟨none, false, d, .ia sz x i⟩ K env H = bindV (iaV sz (x.ev env) (i.ev env)) d K env H := Eq.trans rfl rfl
theorem s_sli (sz : Nat) (x : Opd) (lo hi mx : Option Opd) : istep P ⟨none, false, d, .sli sz x lo hi mx⟩ K env H = bindV (sliV H sz (x.ev env) (lo.map (Opd.ev env)) (hi.map (Opd.ev env)) (mx.map (Opd.ev env))) d K env H := Eq.trans rfl rfl
theorem s_ext (x : Opd) (i : Nat) : istep P ⟨none, false, d, .ext x i⟩ K env H = bindV (extV i (x.ev env)) d K env H := Eq.trans rfl rfl
theorem ext_tup (i : Nat) (vs : List V) : extV i (.tup vs) = vs[i]? := Eq.trans rfl rfl
theorem s_ifc (t : TypeId) (x : Opd) : istep P ⟨none, false, d, .ifc t x⟩ K env H = K (env.put d (.ifc t (x.ev env))) H := Eq.trans rfl rfl
theorem s_mkf (f : FuncId) (xs : List Opd) : istep P ⟨none, false, d, .mkf f xs⟩ K env H = K (env.put d (.fn f (xs.map (Opd.ev env)))) H := Eq.trans rfl rfl
theorem s_agg (zs : List V) (ps : List (Nat × Nat × Opd)) : istep P ⟨none, false, d, .agg zs ps⟩ K env H = bindV ((fillV zs (ps.map fun p => (p.1, p.2.1, p.2.2.ev env))).map V.agg) d K env H := Eq.trans rfl rfl
theorem s_len (x : Opd) : istep P ⟨none, false, d, .len x⟩ K env H = bindV (lenR (x.ev env)) d K env H := Eq.trans rfl rfl
theorem s_mm (mx : Bool) (x y : Opd) : istep P ⟨none, false, d, .mm mx x y⟩ K env H = bindV (mmV mx (x.ev env) (y.ev env)) d K env H := Eq.trans rfl rfl
theorem mm_min (k : IntKind) (a b : Int) : mmV false (.int k a) (.int k b) = some (.int k (if b < a then b else a)) := by simp [mmV]
theorem mm_max (k : IntKind) (a b : Int) : mmV true (.int k a) (.int k b) = some (.int k (if a < b then b else a)) := by simp [mmV]
theorem s_nilchk (x : Opd) : istep P ⟨none, false, d, .nilchk x⟩ K env H = bindV (pv (.nilchk x) env H) d K env H := Eq.trans rfl rfl
theorem s_bsl (sz len : Nat) (zs : List V) (ps : List (Nat × Nat × Opd)) : istep P ⟨none, false, d, .bsl sz len zs ps⟩ K env H = match fillV zs (ps.map fun p => (p.1, p.2.1, p.2.2.ev env)) with | some cs => newC H ⟨true, sz, cs⟩ (fun n => .sl n 0 len true) d K env | none => False := by
  show iwp P (.bsl sz len zs ps) (fun v H' => K (env.put d v) H') env H = _
  simp only [iwp]
  cases fillV zs (ps.map fun p => (p.1, p.2.1, p.2.2.ev env)) <;> rfl
theorem s_mk (sz bytes : Nat) (zs : List V) (l c : Opd) : istep P ⟨none, false, d, .mk sz bytes zs l c⟩ K env H = mkC H sz bytes zs (l.ev env) (c.ev env) d K env := by
  show iwp P (.mk sz bytes zs l c) (fun v H' => K (env.put d v) H') env H = _
  simp only [iwp, mkC]
  rfl
theorem s_app (sz bytes : Nat) (s x : Opd) (av : List Nat) : istep P ⟨none, false, d, .app sz bytes s x av⟩ K env H = appC H env sz bytes (s.ev env) (x.ev env) av d K := by
  show iwp P (.app sz bytes s x av) (fun v H' => K (env.put d v) H') env H = _
  simp only [iwp, appC]
  rfl
theorem s_cpy (sz : Nat) (x s : Opd) : istep P ⟨none, false, d, .cpy sz x s⟩ K env H = cpyC H sz (x.ev env) (s.ev env) d K env := by
  show iwp P (.cpy sz x s) (fun v H' => K (env.put d v) H') env H = _
  simp only [iwp, cpyC]
  rfl
theorem s_call (keep : Bool) (f : Opd) (xs : List Opd) : istep P ⟨none, keep, d, .call f xs⟩ K env H = callC P (f.ev env) (xs.map (Opd.ev env)) keep d K env H := by
  cases keep
  · show iwp P (.call f xs) (fun v H' => K (env.put d v) H') env H = _
    simp only [iwp, callC]; rfl
  · show iwp P (.call f xs) (fun v H' => Heap.sub H H' ∧ K (env.put d v) H') env H = _
    simp only [iwp, callC]; rfl
theorem s_inv (keep : Bool) (x : Opd) (t : TypeId) (f : FuncId) (xs : List Opd) : istep P ⟨none, keep, d, .inv x t f xs⟩ K env H = invC P (x.ev env) t f (xs.map (Opd.ev env)) keep d K env H := by
  cases keep
  · show iwp P (.inv x t f xs) (fun v H' => K (env.put d v) H') env H = _
    simp only [iwp, invC]; rfl
  · show iwp P (.inv x t f xs) (fun v H' => Heap.sub H H' ∧ K (env.put d v) H') env H = _
    simp only [iwp, invC]; rfl

theorem p_get (env : Env) (n : Nat) (v : V) (t : Nat) : Env.put env (some n) v t = if t = n then v else env t := Eq.trans rfl rfl
theorem p_none (v : V) : Env.put env none v = env := Eq.trans rfl rfl
theorem o_s (t : Nat) : (Opd.s t).ev env = env t := Eq.trans rfl rfl
theorem o_c (v : V) : (Opd.c v).ev env = v := Eq.trans rfl rfl
theorem e_0 (a : V) (l : List V) : env0 (a :: l) 0 = a := Eq.trans rfl rfl
theorem e_1 (a b : V) (l : List V) : env0 (a :: b :: l) 1 = b := Eq.trans rfl rfl
theorem e_2 (a b c : V) (l : List V) : env0 (a :: b :: c :: l) 2 = c := Eq.trans rfl rfl
theorem e_3 (a b c e : V) (l : List V) : env0 (a :: b :: c :: e :: l) 3 = e := Eq.trans rfl rfl
theorem e_4 (a b c e f : V) (l : List V) : env0 (a :: b :: c :: e :: f :: l) 4 = f := Eq.trans rfl rfl

theorem bv_add (k : IntKind) (a b : Int) : binV .add (.int k a) (.int k b) = some (.int k (k.wrap (a + b))) := by simp [binV]
theorem bv_sub (k : IntKind) (a b : Int) : binV .sub (.int k a) (.int k b) = some (.int k (k.wrap (a - b))) := by simp [binV]
theorem bv_mul (k : IntKind) (a b : Int) : binV .mul (.int k a) (.int k b) = some (.int k (k.wrap (a * b))) := by simp [binV]
theorem bv_eql (k : IntKind) (a b : Int) : binV .eql (.int k a) (.int k b) = some (.bool (decide (a = b))) := by
  have : (a == b) = decide (a = b) := by rw [Bool.eq_iff_iff]; simp
  simp [binV, this]
theorem not_dec (c : Prop) [Decidable c] : (!decide c) = decide (¬ c) := by by_cases h : c <;> simp [h]
theorem bv_neq (k : IntKind) (a b : Int) : binV .neq (.int k a) (.int k b) = some (.bool (decide (¬ a = b))) := by
  have : (a != b) = decide (¬ a = b) := by rw [Bool.eq_iff_iff]; simp
  simp [binV, this]
theorem bv_lss (k : IntKind) (a b : Int) : binV .lss (.int k a) (.int k b) = some (.bool (decide (a < b))) := by simp [binV]
theorem bv_leq (k : IntKind) (a b : Int) : binV .leq (.int k a) (.int k b) = some (.bool (decide (a ≤ b))) := by simp [binV]
theorem bv_gtr (k : IntKind) (a b : Int) : binV .gtr (.int k a) (.int k b) = some (.bool (decide (b < a))) := by simp [binV]
theorem bv_geq (k : IntKind) (a b : Int) : binV .geq (.int k a) (.int k b) = some (.bool (decide (b ≤ a))) := by simp [binV]
theorem wrapI {x : Int} (h1 : -9223372036854775808 ≤ x) (h2 : x ≤ 9223372036854775807) : IntKind.i64.wrap x = x := by
  rw [IntKind.wrap_i64]; omega

/-! ### loops -/

theorem loop_inv {c : IC} (Inv : Env → Heap → Prop) (m : Env → Heap → Nat) (h0 : Inv env H)
    (step : ∀ env H, Inv env H → cwp P c (thenE (fun env' H' => Inv env' H' ∧ m env' H' < m env H) Q) env H) : cwp P (.loop c) Q env H := by
  have key : ∀ n env H, m env H = n → Inv env H → cwp P (.loop c) Q env H := by
    intro n
    induction n using Nat.strongRecOn with
    | _ n ih =>
      intro env H hn hI
      refine cwp_loop (cwp_mono c (thenE_mono (fun env' H' h => ?_) fun _ _ _ h => h) (step env H hI))
      exact ih (m env' H') (hn ▸ h.2) env' H' rfl h.1
  exact key _ env H rfl h0

end

/-- a contract whose callee only adds to the heap, seen by a caller that forgets it -/
theorem ACalls.forget {P : Program} {f : FuncId} {args : List V} {H : Heap} {R R' : V → Heap → Prop} (h : ACalls P f args H R) (hr : ∀ v H', R v H' → ∃ H'', Heap.sub H'' H' ∧ R' v H'') : ACalls P f args H R' :=
  ⟨h.1, fun μ w cargs hs hv => (h.2 μ w cargs hs hv).mono fun e w' ⟨μ', cv, v, H', a, b, c, d, r⟩ => by
    obtain ⟨H'', hsub, r'⟩ := hr v H' r
    exact ⟨μ', cv, v, H'', a, b.sub hsub, c.sub hsub, d, r'⟩⟩

end Go.AM
