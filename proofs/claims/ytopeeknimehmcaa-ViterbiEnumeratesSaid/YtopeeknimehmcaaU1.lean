/- The stepping set: which arguments a rewriting step looks at, and the ends. Conditions: none. -/
import Derived.Test.YtopeeknimehmcaaU0
set_option linter.unusedVariables false
set_option linter.unusedSimpArgs false
namespace Go.AM
open Go

/-- the last step -/
def finO (v : V) (H : Heap) (R : V → Heap → Prop) : Prop := ∃ H', Heap.sub H' H ∧ R v H'
theorem f_normal (rs : Res) (R : V → Heap → Prop) (env : Env) (H : Heap) : fin rs R .normal env H = fin rs R .ret env H := Eq.trans rfl rfl
theorem f_one (t : Nat) (env : Env) (H : Heap) (R : V → Heap → Prop) : fin [(t, none)] R .ret env H = finO (env t) H R := by
  simp only [fin, finO, resV, res1, eq_iff_iff]
  constructor
  · rintro ⟨v, H', h1, h⟩; cases h1; exact ⟨H', h⟩
  · rintro ⟨H', h⟩; exact ⟨_, H', rfl, h⟩
theorem f_two (t u : Nat) (env : Env) (H : Heap) (R : V → Heap → Prop) : fin [(t, none), (u, none)] R .ret env H = finO (.tup [env t, env u]) H R := by
  simp only [fin, finO, resV, res1, mapO, eq_iff_iff, Option.map]
  constructor
  · rintro ⟨v, H', h1, h⟩; cases h1; exact ⟨H', h⟩
  · rintro ⟨H', h⟩; exact ⟨_, H', rfl, h⟩
theorem f_three (t u w : Nat) (env : Env) (H : Heap) (R : V → Heap → Prop) : fin [(t, none), (u, none), (w, none)] R .ret env H = finO (.tup [env t, env u, env w]) H R := by
  simp only [fin, finO, resV, res1, mapO, eq_iff_iff, Option.map]
  constructor
  · rintro ⟨v, H', h1, h⟩; cases h1; exact ⟨H', h⟩
  · rintro ⟨H', h⟩; exact ⟨_, H', rfl, h⟩
theorem f_none (env : Env) (H : Heap) (R : V → Heap → Prop) : fin [] R .ret env H = finO (.tup []) H R := by
  simp only [fin, finO, resV, res1, mapO, eq_iff_iff, Option.map]
  constructor
  · rintro ⟨v, H', h1, h⟩; cases h1; exact ⟨H', h⟩
  · rintro ⟨H', h⟩; exact ⟨_, H', rfl, h⟩
theorem Heap.sub.rfl' {H : Heap} : Heap.sub H H := fun _ _ h => h
theorem finO_self {v : V} {H : Heap} {R : V → Heap → Prop} (h : R v H) : finO v H R := ⟨H, Heap.sub.rfl', h⟩
theorem finO_sub {v : V} {H H' : Heap} {R : V → Heap → Prop} (hs : Heap.sub H' H) (h : R v H') : finO v H R := ⟨H', hs, h⟩

theorem ia_nat {sz n o len : Nat} {f : Bool} {k : IntKind} {i : Nat} (h : i < len) : iaV sz (.sl n o len f) (.int k i) = some (.ptr n (o + i * sz)) := by
  simp [iaV, h]
theorem ia_int {sz n o len : Nat} {f : Bool} {k : IntKind} {i : Int} (h0 : 0 ≤ i) (h : i < len) : iaV sz (.sl n o len f) (.int k i) = some (.ptr n (o + i.toNat * sz)) := by
  simp [iaV, h0, h]
theorem len_sl (n o len : Nat) (f : Bool) : lenR (.sl n o len f) = some (.int .i64 len) := Eq.trans rfl rfl
theorem len_nils : lenR .nils = some (.int .i64 0) := Eq.trans rfl rfl
theorem ld_agg {H : Heap} {sz n o : Nat} {b : Blk} {cs : List V} (h : H n = some b) (hb : o + sz ≤ b.cells.length) (hv : (b.cells.drop o).take sz = cs) : ldV H true sz (.ptr n o) = some (.agg cs) := by simp [ldV, h, hv, hb]

theorem ACalls.imp {P : Program} {f : FuncId} {args : List V} {H : Heap} {R R' : V → Heap → Prop} (h : ACalls P f args H R) (hr : ∀ v H', R v H' → R' v H') : ACalls P f args H R' :=
  h.forget fun v H' r => ⟨H', Heap.sub.rfl', hr v H' r⟩

/-- a callee that gives a value and leaves the heap as it was -/
theorem callC_pure {P : Program} {g : FuncId} {caps args : List V} {keep : Bool} {d : Option Nat} {K : Env → Heap → Prop} {env : Env} {H : Heap} {u : V} (h : ACalls P g (args ++ caps) H fun v H' => v = u ∧ H' = H) (hk : K (env.put d u) H) : callC P (.fn g caps) args keep d K env H := by
  refine h.imp fun v H' r => ?_
  rw [r.1, r.2]
  cases keep
  · exact hk
  · exact ⟨Heap.sub.rfl', hk⟩
/-- a callee that gives a value and adds to the heap -/
theorem callC_grow {P : Program} {g : FuncId} {caps args : List V} {keep : Bool} {d : Option Nat} {K : Env → Heap → Prop} {env : Env} {H : Heap} {R : V → Heap → Prop} (h : ACalls P g (args ++ caps) H fun v H' => Heap.sub H H' ∧ R v H') (hk : ∀ v H', Heap.sub H H' → R v H' → K (env.put d v) H') : callC P (.fn g caps) args keep d K env H := by
  refine h.imp fun v H' r => ?_
  cases keep
  · exact hk v H' r.1 r.2
  · exact ⟨r.1, hk v H' r.1 r.2⟩
theorem invC_pure {P : Program} {g : FuncId} {t : TypeId} {x : V} {args : List V} {keep : Bool} {d : Option Nat} {K : Env → Heap → Prop} {env : Env} {H : Heap} {u : V} (h : ACalls P g (x :: args) H fun v H' => v = u ∧ H' = H) (hk : K (env.put d u) H) : invC P (.ifc t x) t g args keep d K env H := by
  refine ⟨rfl, h.imp fun v H' r => ?_⟩
  rw [r.1, r.2]
  cases keep
  · exact hk
  · exact ⟨Heap.sub.rfl', hk⟩
theorem invC_grow {P : Program} {g : FuncId} {t : TypeId} {x : V} {args : List V} {keep : Bool} {d : Option Nat} {K : Env → Heap → Prop} {env : Env} {H : Heap} {R : V → Heap → Prop} (h : ACalls P g (x :: args) H fun v H' => Heap.sub H H' ∧ R v H') (hk : ∀ v H', Heap.sub H H' → R v H' → K (env.put d v) H') : invC P (.ifc t x) t g args keep d K env H := by
  refine ⟨rfl, h.imp fun v H' r => ?_⟩
  cases keep
  · exact hk v H' r.1 r.2
  · exact ⟨r.1, hk v H' r.1 r.2⟩
/-- any callee -/
theorem callC_any {P : Program} {g : FuncId} {caps args : List V} {d : Option Nat} {K : Env → Heap → Prop} {env : Env} {H : Heap} {R : V → Heap → Prop} (h : ACalls P g (args ++ caps) H R) (hk : ∀ v H', R v H' → K (env.put d v) H') : callC P (.fn g caps) args false d K env H :=
  h.imp fun v H' r => hk v H' r

theorem wrapN {x : Nat} (h : x < 9223372036854775808) : IntKind.i64.wrap (x : Int) = x := wrapI (by omega) (by omega)
theorem wrapN1 {x : Nat} (h : x + 1 < 9223372036854775808) : IntKind.i64.wrap ((x : Int) + 1) = ((x + 1 : Nat) : Int) := by rw [wrapI (by omega) (by omega)]; simp

/-- 'for i := range s': the loop as the compiler lays it -/
theorem range_loop {P : Program} {c i n t b b1 : Nat} {B : IC} {Q : Qt} {env : Env} {H : Heap} (N : Nat) (J : Nat → Env → Heap → Prop)
    (hN : N ≤ 281474976710656) (hci : c ≠ i) (hcn : c ≠ n)
    (hJ : ∀ k env H, J k env H → env i = .int .i64 k ∧ env n = .int .i64 N) (h0 : J 0 env H)
    (step : ∀ k env H, k < N → J k env H → cwp P B (inBlk b1 (thenE (fun env' H' => env' i = .int .i64 k ∧ J (k+1) ((env'.put (some t) (.int .i64 (k+1 : Nat))).put (some i) (.int .i64 (k+1 : Nat))) H') (inBlk b Q))) (env.put (some c) (.bool true)) H)
    (done : ∀ env H, J N env H → Q .normal (env.put (some c) (.bool false)) H) :
    cwp P (.loop (.seq (.ops [⟨none, false, some c, .bin .lss (.s i) (.s n)⟩]) (.seq (.ite (.s c) .skip (.exit b)) (.seq (.blk b1 B) (.ops [⟨none, false, some t, .bin .add (.s i) (.c (.int .i64 1))⟩, ⟨none, false, some i, .mov (.s t)⟩]))))) (inBlk b Q) env H := by
  have key : ∀ m k env H, m + k = N → J k env H → cwp P (.loop (.seq (.ops [⟨none, false, some c, .bin .lss (.s i) (.s n)⟩]) (.seq (.ite (.s c) .skip (.exit b)) (.seq (.blk b1 B) (.ops [⟨none, false, some t, .bin .add (.s i) (.c (.int .i64 1))⟩, ⟨none, false, some i, .mov (.s t)⟩]))))) (inBlk b Q) env H := by
    intro m
    induction m with
    | zero =>
      intro k env H e hj
      obtain rfl : k = N := by omega
      refine cwp_loop ?_
      obtain ⟨hi, hn⟩ := hJ _ _ _ hj
      simp only [c_seq, c_ops, i_cons, s_bin, o_s, hi, hn, bv_lss, bindV_some, i_nil, t_normal, c_ite, p_get, ↓reduceIte, Int.lt_irrefl, decide_false, iteC_false, c_exit, t_exit, b_exit]
      exact done _ _ hj
    | succ m ih =>
      intro k env H e hj
      refine cwp_loop ?_
      obtain ⟨hi, hn⟩ := hJ _ _ _ hj
      have hlt : ((k : Int) < (N : Int)) := by omega
      simp only [c_seq, c_ops, i_cons, s_bin, o_s, hi, hn, bv_lss, bindV_some, i_nil, t_normal, c_ite, p_get, ↓reduceIte, hlt, decide_true, iteC_true, c_skip, c_blk]
      refine cwp_mono B ?_ (step k env H (by omega) hj)
      have hX : ∀ env' H', (env' i = .int .i64 k ∧ J (k+1) ((env'.put (some t) (.int .i64 (k+1 : Nat))).put (some i) (.int .i64 (k+1 : Nat))) H') → irun P [⟨none, false, some t, .bin .add (.s i) (.c (.int .i64 1))⟩, ⟨none, false, some i, .mov (.s t)⟩] (thenE (cwp P (.loop (.seq (.ops [⟨none, false, some c, .bin .lss (.s i) (.s n)⟩]) (.seq (.ite (.s c) .skip (.exit b)) (.seq (.blk b1 B) (.ops [⟨none, false, some t, .bin .add (.s i) (.c (.int .i64 1))⟩, ⟨none, false, some i, .mov (.s t)⟩]))))) (inBlk b Q)) (inBlk b Q) .normal) env' H' := by
        intro env' H' ⟨h1, h2⟩
        simp only [i_cons, s_bin, o_s, o_c, h1, bv_add, bindV_some, s_mov, i_nil, t_normal, p_get, ↓reduceIte]
        rw [wrapN1 (by omega)]
        exact ih (k+1) _ H' (by omega) h2
      refine inBlk_mono ?_
      intro e env H h
      cases e
      · exact hX _ _ h
      all_goals exact h
  exact key N 0 env H (by omega) h0

/-- any loop that runs at most N rounds -/
theorem loop_count {P : Program} {C : IC} {Q : Qt} {env : Env} {H : Heap} (N : Nat) (J : Nat → Env → Heap → Prop) (h0 : J 0 env H)
    (step : ∀ k env H, k < N → J k env H → cwp P C (thenE (J (k+1)) Q) env H)
    (last : ∀ env H, J N env H → cwp P C (thenE (fun _ _ => False) Q) env H) : cwp P (.loop C) Q env H := by
  have key : ∀ m k env H, m + k = N → J k env H → cwp P (.loop C) Q env H := by
    intro m
    induction m with
    | zero =>
      intro k env H e hj
      obtain rfl : k = N := by omega
      refine cwp_loop (cwp_mono C ?_ (last env H hj))
      intro e env H h
      cases e
      · exact h.elim
      all_goals exact h
    | succ m ih =>
      intro k env H e hj
      refine cwp_loop (cwp_mono C ?_ (step k env H (by omega) hj))
      intro e env H h
      cases e
      · exact ih (k+1) env H (by omega) h
      all_goals exact h
  exact key N 0 env H (by omega) h0
end Go.AM
