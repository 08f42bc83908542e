/- Code as the abstract machine has it, and the contract of a function from its body. Conditions: as stated. -/
import Derived.Test.YtopeeknimehmcaaJ3
set_option linter.unusedVariables false
set_option linter.unusedSimpArgs false
namespace Go.AM
open Go

inductive IC where
  | skip
  | ops (l : List GI)
  | seq (a b : IC)
  | ite (c : Opd) (a b : IC)
  | blk (id : Nat) (c : IC)
  | loop (c : IC)
  | exit (id : Nat)
  | ret
  | bad
  deriving Inhabited

def cvC (P : Program) (n : Nat) : Code → IC
  | .skip => .skip
  | .label _ => .skip
  | .region _ ops draw => match cvRegion P n ops draw with
    | some gs => .ops gs
    | none => .bad
  | .seq a b => .seq (cvC P n a) (cvC P n b)
  | .cond c a b => match cvO n c with
    | some x => .ite x (cvC P n a) (cvC P n b)
    | none => .bad
  | .block id c => .blk id (cvC P n c)
  | .loop c => .loop (cvC P n c)
  | .exit id => .exit id
  | .ret => .ret
  | _ => .bad

abbrev Qt := Exit → Env → Heap → Prop

def thenE (next : Env → Heap → Prop) (Q : Qt) : Qt
  | .normal => next
  | e => Q e

def inBlk (id : Nat) (Q : Qt) : Qt
  | .exit id' => fun env H => if id' = id then Q .normal env H else Q (.exit id') env H
  | e => Q e

def cwp (P : Program) : IC → Qt → Env → Heap → Prop
  | .skip, Q, env, H => Q .normal env H
  | .ops l, Q, env, H => irun P l (Q .normal) env H
  | .seq a b, Q, env, H => cwp P a (thenE (cwp P b Q) Q) env H
  | .ite c a b, Q, env, H => match c.ev env with
    | .bool t => if t then cwp P a Q env H else cwp P b Q env H
    | _ => False
  | .blk id c, Q, env, H => cwp P c (inBlk id Q) env H
  | .loop c, Q, env, H => ∀ X : Env → Heap → Prop, (∀ env H, cwp P c (thenE X Q) env H → X env H) → X env H
  | .exit id, Q, env, H => Q (.exit id) env H
  | .ret, Q, env, H => Q .ret env H
  | .bad, _, _, _ => False

theorem thenE_mono {X X' : Env → Heap → Prop} {Q Q' : Qt} (hx : ∀ env H, X env H → X' env H) (hq : ∀ e env H, Q e env H → Q' e env H) : ∀ e env H, thenE X Q e env H → thenE X' Q' e env H := by
  intro e env H h
  cases e <;> first | exact hx _ _ h | exact hq _ _ _ h

theorem inBlk_mono {id : Nat} {Q Q' : Qt} (hq : ∀ e env H, Q e env H → Q' e env H) : ∀ e env H, inBlk id Q e env H → inBlk id Q' e env H := by
  intro e env H h
  cases e with
  | exit id' =>
    simp only [inBlk] at h ⊢
    split
    · rename_i e; rw [if_pos e] at h; exact hq _ _ _ h
    · rename_i e; rw [if_neg e] at h; exact hq _ _ _ h
  | _ => exact hq _ _ _ h

theorem cwp_mono {P : Program} : ∀ (c : IC) {Q Q' : Qt} {env : Env} {H : Heap}, (∀ e env H, Q e env H → Q' e env H) → cwp P c Q env H → cwp P c Q' env H
  | .skip, _, _, _, _, hq, h => hq _ _ _ h
  | .ops l, _, _, _, _, hq, h => irun_mono (fun _ _ h => hq _ _ _ h) l _ _ h
  | .seq a b, _, _, _, _, hq, h => cwp_mono a (thenE_mono (fun _ _ h => cwp_mono b hq h) hq) h
  | .ite c a b, _, _, _, _, hq, h => by
    simp only [cwp] at h ⊢
    split at h
    · split
      · rename_i e; rw [if_pos e] at h; exact cwp_mono a hq h
      · rename_i e; rw [if_neg e] at h; exact cwp_mono b hq h
    · exact h
  | .blk id c, _, _, _, _, hq, h => cwp_mono c (inBlk_mono hq) h
  | .loop c, _, _, _, _, hq, h => fun X hX => h X fun env H h' => hX env H (cwp_mono c (thenE_mono (fun _ _ h => h) hq) h')
  | .exit _, _, _, _, _, hq, h => hq _ _ _ h
  | .ret, _, _, _, _, hq, h => hq _ _ _ h
  | .bad, _, _, _, _, _, h => h

/-- one round more -/
theorem cwp_loop {P : Program} {c : IC} {Q : Qt} {env : Env} {H : Heap} (h : cwp P c (thenE (cwp P (.loop c) Q) Q) env H) : cwp P (.loop c) Q env H :=
  fun X hX => hX env H (cwp_mono c (thenE_mono (fun env H h => h X hX) fun _ _ _ h => h) h)

theorem wp_loop_lfp {P : Program} {c : Code} {Q : Exit → Act → World → Prop} {a : Act} {w : World} (h : ∀ X : Act → World → Prop, (∀ a w, c.wp P (Exit.then X Q) a w → X a w) → X a w) : (Code.loop c).wp P Q a w := by
  have key := h (fun a w => ∀ b k cs, ∃ e a' w', Q e a' w' ∧ Arrives P (lone (b.at a (.code c :: .inLoop c :: k)) cs w) b k cs e a' w') ?_
  · intro b k cs
    obtain ⟨e, a', w', hq, harr⟩ := key b k cs
    exact ⟨e, a', w', hq, .of_steps (.one step_loop) harr⟩
  · intro a w hc b k cs
    obtain ⟨e, a₁, w₁, hq, harr⟩ := hc b (.inLoop c :: k) cs
    cases e with
    | normal =>
      obtain ⟨e₂, a₂, w₂, hq₂, harr₂⟩ := hq b k cs
      exact ⟨e₂, a₂, w₂, hq₂, .of_steps (Steps.trans harr (.one step_inLoop)) harr₂⟩
    | exit id => exact ⟨_, a₁, w₁, hq, .pass (x := .inLoop c) rfl (fun _ _ => .inl (by simp)) harr⟩
    | goto l => exact ⟨_, a₁, w₁, hq, .pass (x := .inLoop c) rfl (fun _ _ => .inl (by simp)) harr⟩
    | ret => exact ⟨_, a₁, w₁, hq, .pass (x := .inLoop c) rfl (fun _ _ => .inl (by simp)) harr⟩
    | panic ch => exact ⟨_, a₁, w₁, hq, .pass (x := .inLoop c) rfl (fun _ _ => .inl (by simp)) harr⟩
    | outgrown => exact ⟨_, a₁, w₁, hq, .pass (x := .inLoop c) rfl (fun _ _ => .inl (by simp)) harr⟩

section
variable {P : Program} {n : Nat}

/-- where a walk ends, seen from its start -/
def CQ (n : Nat) (Q : Qt) (μ : Map) (H : Heap) (w : World) (e : Exit) (a' : Act) (w' : World) : Prop := Rch n (Q e) μ H w a' w'

theorem code_sound (hm : P.follows .mixedOrders = true) : ∀ (c : Code) {Q : Qt} {μ : Map} {env : Env} {H : Heap} {a : Act} {w : World}, St n μ env H a w → cwp P (cvC P n c) Q env H → c.wp P (CQ n Q μ H w) a w
  | .skip, Q, μ, env, H, a, w, st, h => wp_skip ⟨μ, env, H, st, Tr.refl _ _ _, h⟩
  | .label l, Q, μ, env, H, a, w, st, h => wp_label ⟨μ, env, H, st, Tr.refl _ _ _, h⟩
  | .region id ops draw, Q, μ, env, H, a, w, st, h => by
    simp only [cvC] at h
    split at h
    · rename_i gs hgs
      exact region_sound hm hgs st h fun a' w' h => h
    · exact h.elim
  | .seq x y, Q, μ, env, H, a, w, st, h => by
    refine wp_seq (Code.wp_mono (fun e a' w' hq => ?_) (code_sound hm x st h))
    cases e with
    | normal =>
      obtain ⟨μ', env', H', st', tr', hk⟩ := hq
      exact Code.wp_mono (fun e a'' w'' hr => Rch.trans tr' hr) (code_sound hm y st' hk)
    | _ => exact hq
  | .cond c x y, Q, μ, env, H, a, w, st, h => by
    simp only [cvC] at h
    split at h
    · rename_i o ho
      have r := cvO_sound ho st
      simp only [cwp] at h
      split at h
      · rename_i t e
        rw [e] at r
        simp only [VRel] at r
        refine wp_cond r ?_
        cases t
        · exact code_sound hm y st h
        · exact code_sound hm x st h
      · exact h.elim
    · exact h.elim
  | .block id c, Q, μ, env, H, a, w, st, h => by
    refine wp_block (Code.wp_mono (fun e a' w' hq => ?_) (code_sound hm c st h))
    cases e with
    | exit id' =>
      obtain ⟨μ', env', H', st', tr', hk⟩ := hq
      simp only [inBlk] at hk
      simp only [Exit.inBlock]
      split
      · rename_i e; rw [if_pos e] at hk; exact ⟨μ', env', H', st', tr', hk⟩
      · rename_i e; rw [if_neg e] at hk; exact ⟨μ', env', H', st', tr', hk⟩
    | _ => exact hq
  | .loop c, Q, μ, env, H, a, w, st, h => by
    refine wp_loop_lfp fun Y hY => ?_
    have key := h (fun env' H' => ∀ μ' a' w', Tr μ H w μ' H' w' → St n μ' env' H' a' w' → Y a' w') ?_
    · exact key μ a w (Tr.refl _ _ _) st
    · intro env' H' hc μ' a' w' tr' st'
      refine hY a' w' (Code.wp_mono (fun e a'' w'' hq => ?_) (code_sound hm c st' hc))
      cases e with
      | normal =>
        obtain ⟨μ2, env2, H2, st2, tr2, hk⟩ := hq
        exact hk μ2 a'' w'' (tr'.trans tr2) st2
      | _ => exact Rch.trans tr' hq
  | .exit id, Q, μ, env, H, a, w, st, h => wp_exit ⟨μ, env, H, st, Tr.refl _ _ _, h⟩
  | .ret, Q, μ, env, H, a, w, st, h => wp_ret ⟨μ, env, H, st, Tr.refl _ _ _, h⟩
  | .rangeFunc .., Q, μ, env, H, a, w, st, h => h.elim
  | .scope _, Q, μ, env, H, a, w, st, h => h.elim
  | .goto _, Q, μ, env, H, a, w, st, h => h.elim
  | .refuse _, Q, μ, env, H, a, w, st, h => h.elim

/-! ### functions -/

def env0 (args : List V) : Env := fun t => args.getD t und

/-- where results lie: (slot, none) in the slot; (slot, some (agg, sz)) in the memory that it points to -/
abbrev Res := List (Nat × Option (Bool × Nat))

def res1 (env : Env) (H : Heap) (r : Nat × Option (Bool × Nat)) : Option V :=
  match r.2 with
  | none => some (env r.1)
  | some (agg, sz) => ldV H agg sz (env r.1)

def resV (rs : Res) (env : Env) (H : Heap) : Option V :=
  match rs with
  | [r] => res1 env H r
  | rs => (mapO (res1 env H) rs).map .tup

def cvR (P : Program) (n : Nat) : ResultVar → Option (Nat × Option (Bool × Nat))
  | .tmp t => if t < n then some (t, none) else none
  | .cell a t => match szT P t with
    | some (sz, _) => if a < n then some (a, some (aggT P t, sz)) else none
    | none => none

/-- a function as the abstract machine has it -/
structure AF where
  n : Nat
  res : Res
  body : IC

def cvF (P : Program) (f : FuncId) : Option AF :=
  match P.funcs[f]? with
  | some fn => match fn.body, mapO (cvR P fn.ntmps) fn.results.toList with
    | some c, some rs => if fn.name != "runtime.NumGoroutine" && decide (fn.params.size + fn.nfree ≤ fn.ntmps) then some ⟨fn.ntmps, rs, cvC P fn.ntmps c⟩ else none
    | _, _ => none
  | none => none

/-- what a body has to come to -/
def fin (rs : Res) (R : V → Heap → Prop) : Qt
  | .normal, env, H | .ret, env, H => ∃ v H', resV rs env H = some v ∧ Heap.sub H' H ∧ R v H'
  | _, _, _ => False

def oneRes (tmps : Array Value) : ResultVar → Sem Value
  | .tmp t => pure (tmps.getD t undef)
  | .cell p t => do loadVar t (← asAddr (tmps.getD p undef))

theorem results_eq (fn : Func) (tmps : Array Value) : results fn tmps = (do
    let vs ← fn.results.mapM (oneRes tmps)
    pure (if h : vs.size = 1 then vs[0] else .tuple vs) : Sem Value) := by
  unfold results
  congr 1

theorem run_res1 {rv : ResultVar} {r : Nat × Option (Bool × Nat)} (hr : cvR P n rv = some r) {μ env H a w} (st : St n μ env H a w) {v : V} (hv : res1 env H r = some v) :
    ∃ x, (oneRes a.tmps rv).run P w = .ok x w ∧ VRel μ v x := by
  cases rv with
  | tmp t =>
    simp only [cvR] at hr
    split at hr
    · rename_i hlt
      obtain rfl := Option.some.inj hr
      simp only [res1, Option.some.injEq] at hv
      subst hv
      exact ⟨_, rfl, st.tmps t hlt⟩
    · cases hr
  | cell p t =>
    simp only [cvR] at hr
    split at hr
    · rename_i sz b hs
      split at hr
      · rename_i hlt
        obtain rfl := Option.some.inj hr
        simp only [res1] at hv
        have rp := st.tmps p hlt
        obtain ⟨y, hy, ry⟩ := run_loadVar_ld hs st.sim rp hv
        refine ⟨y, ?_, ry⟩
        cases he : env p <;> rw [he] at hv rp <;> simp only [ldV] at hv <;> try cases hv
        simp only [VRel] at rp
        obtain ⟨l, hl, e⟩ := rp
        rw [e] at hy
        simp only [oneRes, e]
        simpa [Instr.loadAt, Instr.sureAddr, asAddr] using hy
      · cases hr
    · cases hr

theorem run_res {fn : Func} {rs : Res} : ∀ (l : List ResultVar) (rs : Res), mapO (cvR P n) l = some rs → ∀ {μ env H a w}, St n μ env H a w → ∀ {vs : List V}, mapO (res1 env H) rs = some vs →
    ∃ xs, (l.mapM (oneRes a.tmps)).run P w = .ok xs w ∧ VRels μ vs xs
  | [], rs, h, μ, env, H, a, w, st, vs, hv => by
    simp only [mapO, Option.some.injEq] at h
    subst h
    simp only [mapO, Option.some.injEq] at hv
    subst hv
    exact ⟨[], rfl, by simp [VRels]⟩
  | rv :: l, rs, h, μ, env, H, a, w, st, vs, hv => by
    simp only [mapO] at h
    split at h
    · cases h
    · rename_i r hr
      split at h
      · cases h
      · rename_i rs' hrs
        obtain rfl := Option.some.inj h
        simp only [mapO] at hv
        split at hv
        · cases hv
        · rename_i v hv1
          split at hv
          · cases hv
          · rename_i vs' hvs
            obtain rfl := Option.some.inj hv
            obtain ⟨x, hx, rx⟩ := run_res1 hr st hv1
            obtain ⟨xs, hxs, rxs⟩ := run_res (fn := fn) (rs := rs') l rs' hrs st hvs
            refine ⟨x :: xs, ?_, by simp only [VRels]; exact ⟨x, xs, rfl, rx, rxs⟩⟩
            rw [List.mapM_cons]
            simp only [Sem.run_bind, hx, Result.andThen_ok, hxs, Sem.run_pure]

/-- THE CONTRACT OF A FUNCTION, FROM ITS BODY -/
theorem ACalls.of_body (hm : P.follows .mixedOrders = true) {f : FuncId} {F : AF} (hf : cvF P f = some F) {args : List V} (hn : args.length ≤ F.n) {H : Heap} {R : V → Heap → Prop} (h : cwp P F.body (fin F.res R) (env0 args) H) : ACalls P f args H R := by
  unfold cvF at hf
  split at hf
  · rename_i fn hfn
    split at hf
    · rename_i c rs hb hrs
      split at hf
      · rename_i hc
        obtain rfl := Option.some.inj hf
        simp only [Bool.and_eq_true, bne_iff_ne, ne_eq, decide_eq_true_eq] at hc
        refine ⟨by simp [okFn, hfn, hb, hc.1], fun μ w cargs hs hv => ?_⟩
        simp only at hn h
        have hlen := hv.length
        have hsz : cargs.size ≤ fn.ntmps := by simp at hlen; omega
        have st : St fn.ntmps μ (env0 args) H { tmps := cargs ++ Array.replicate (fn.ntmps - cargs.size) undef, defers := [] } w := by
          refine ⟨by simp; omega, fun t ht => ?_, rfl, hs⟩
          simp only [env0]
          by_cases hlt : t < args.length
          · obtain ⟨x, hx, rx⟩ := hv.get t args[t] (List.getElem?_eq_getElem hlt)
            have hlt' : t < cargs.size := by simp at hlen; omega
            have e : (cargs ++ Array.replicate (fn.ntmps - cargs.size) undef).getD t undef = x := by
              have hx' : cargs[t]? = some x := by simpa using hx
              rw [Array.getD_eq_getD_getElem?, Array.getElem?_append_left hlt', hx']; rfl
            rw [e]
            simpa [List.getD, List.getElem?_eq_getElem hlt] using rx
          · have e : (cargs ++ Array.replicate (fn.ntmps - cargs.size) undef).getD t undef = undef := by
              have hlt' : cargs.size ≤ t := by simp at hlen; omega
              rw [Array.getD_eq_getD_getElem?, Array.getElem?_append_right hlt']
              by_cases h2 : t - cargs.size < fn.ntmps - cargs.size
              · simp [h2]
              · simp [h2]
            rw [e]
            simp only [List.getD, List.getElem?_eq_none (Nat.le_of_not_lt hlt), Option.getD_none]
            simp [und, undef, VRel, VRels]
        have done : ∀ e a' w', (e = .normal ∨ e = .ret) → CQ fn.ntmps (fin rs R) μ H w e a' w' →
            a'.defers = [] ∧ ∃ v, (results fn a'.tmps).run P w' = .ok v w' ∧ ∃ μ' cv v' H', Ending.returned v = .returned cv ∧ Tr μ H w μ' H' w' ∧ Sim μ' H' w' ∧ VRel μ' v' cv ∧ R v' H' := by
          intro e a' w' he hq
          obtain ⟨μ', env', H', st', tr', hk⟩ := hq
          have hk' : ∃ v H'', resV rs env' H' = some v ∧ Heap.sub H'' H' ∧ R v H'' := by rcases he with rfl | rfl <;> exact hk
          obtain ⟨v, H'', hv', hsub, hR⟩ := hk'
          refine ⟨st'.defers, ?_⟩
          have hmv : ∀ xs, (fn.results.toList.mapM (oneRes a'.tmps)).run P w' = .ok xs w' →
              (results fn a'.tmps).run P w' = .ok (if h : xs.toArray.size = 1 then xs.toArray[0] else .tuple xs.toArray) w' := by
            intro xs hx
            rw [results_eq]
            simp only [Sem.run_bind, Array.mapM_eq_mapM_toList, Sem.run_map, hx, Result.andThen_ok, Sem.run_pure]
          have hone : ∀ r, rs = [r] → ∃ x, (results fn a'.tmps).run P w' = .ok x w' ∧ VRel μ' v x := by
            intro r hr
            subst hr
            have hv2 : mapO (res1 env' H') [r] = some [v] := by
              simp only [resV] at hv'
              simp [mapO, hv']
            obtain ⟨xs, hxs, rxs⟩ := run_res (fn := fn) (rs := [r]) _ _ hrs st' hv2
            simp only [VRels] at rxs
            obtain ⟨x, t, rfl, rx, ht⟩ := rxs
            subst ht
            exact ⟨x, hmv _ hxs, rx⟩
          have hmany : (∀ r, rs ≠ [r]) → ∃ x, (results fn a'.tmps).run P w' = .ok x w' ∧ VRel μ' v x := by
            intro hne
            have hv2 : ∃ vs, mapO (res1 env' H') rs = some vs ∧ v = .tup vs := by
              unfold resV at hv'
              split at hv'
              · rename_i r; exact absurd rfl (hne r)
              · obtain ⟨vs, h1, h2⟩ := Option.map_eq_some_iff.1 hv'
                exact ⟨vs, h1, h2.symm⟩
            obtain ⟨vs, hvs, rfl⟩ := hv2
            obtain ⟨xs, hxs, rxs⟩ := run_res (fn := fn) (rs := rs) _ _ hrs st' hvs
            refine ⟨_, hmv _ hxs, ?_⟩
            have hl1 := rxs.length
            have hl2 := (mapO_some hvs).1
            rw [dif_neg]
            · simp only [VRel]
              exact ⟨_, rfl, by simpa using rxs⟩
            · intro h1
              have : rs.length = 1 := by simp at h1; omega
              obtain ⟨r, hr⟩ := List.length_eq_one_iff.1 this
              exact hne r hr
          have hx : ∃ x, (results fn a'.tmps).run P w' = .ok x w' ∧ VRel μ' v x := by
            by_cases h1 : ∃ r, rs = [r]
            · obtain ⟨r, hr⟩ := h1; exact hone r hr
            · exact hmany fun r hr => h1 ⟨r, hr⟩
          obtain ⟨x, hx, rx⟩ := hx
          exact ⟨x, hx, μ', x, v, H'', rfl, tr'.sub hsub, st'.sim.sub hsub, rx, hR⟩
        refine calls_of_wp hfn hb (Code.wp_mono (fun e a' w' hq => ?_) (code_sound hm c st h))
        cases e with
        | normal => exact done _ _ _ (.inl rfl) hq
        | ret => exact done _ _ _ (.inr rfl) hq
        | exit id => obtain ⟨_, _, _, _, _, hk⟩ := hq; exact hk.elim
        | goto l => obtain ⟨_, _, _, _, _, hk⟩ := hq; exact hk.elim
        | panic ch => obtain ⟨_, _, _, _, _, hk⟩ := hq; exact hk.elim
        | outgrown => obtain ⟨_, _, _, _, _, hk⟩ := hq; exact hk.elim
      · cases hf
    · cases hf
  · cases hf

end
end Go.AM

/- Stepping through the abstract machine's code by rewriting. Conditions: none. -/
set_option linter.unusedVariables false
set_option linter.unusedSimpArgs false
namespace Go.AM
open Go


/-- stuck forms: the rest of the code stays unapplied, so that rewriting looks no further -/
def bindV (o : Option V) (d : Option Nat) (K : Env → Heap → Prop) (env : Env) (H : Heap) : Prop := match o with | some v => K (env.put d v) H | none => False
def grd (v : V) (want : Bool) (P : Program) (i : I) (p : Bool) (d : Option Nat) (K : Env → Heap → Prop) (env : Env) (H : Heap) : Prop := match v with
  | .bool b => if b == want then istep P ⟨none, p, d, i⟩ K env H else K (env.put d und) H
  | _ => K (env.put d und) H
def iteC (v : V) (P : Program) (a b : IC) (Q : Qt) (env : Env) (H : Heap) : Prop := match v with | .bool t => if t then cwp P a Q env H else cwp P b Q env H | _ => False
def newC (H : Heap) (b : Blk) (mkv : Nat → V) (d : Option Nat) (K : Env → Heap → Prop) (env : Env) : Prop := ∀ n, H n = none → K (env.put d (mkv n)) (H.upd n (some b))
def stC (H : Heap) (env : Env) (av : List Nat) (sz : Nat) (a x : V) (d : Option Nat) (K : Env → Heap → Prop) : Prop :=
  match a with
  | .ptr n o => match H n with
    | some b => offAll env n av ∧ b.own = true ∧ x.cells.length = sz ∧ (0 < sz ∨ x = .agg []) ∧ o + sz ≤ b.cells.length ∧ K (env.put d und) (H.upd n (some ⟨true, b.sz, splice b.cells o x.cells⟩))
    | none => False
  | _ => False
def callC (P : Program) (f : V) (args : List V) (keep : Bool) (d : Option Nat) (K : Env → Heap → Prop) (env : Env) (H : Heap) : Prop :=
  match f with
  | .fn g caps => ACalls P g (args ++ caps) H (fun v H' => if keep then Heap.sub H H' ∧ K (env.put d v) H' else K (env.put d v) H')
  | _ => False
def invC (P : Program) (x : V) (t : TypeId) (f : FuncId) (args : List V) (keep : Bool) (d : Option Nat) (K : Env → Heap → Prop) (env : Env) (H : Heap) : Prop :=
  match x with
  | .ifc t' v => t' = t ∧ ACalls P f (v :: args) H (fun v H' => if keep then Heap.sub H H' ∧ K (env.put d v) H' else K (env.put d v) H')
  | _ => False
def mkC (H : Heap) (sz bytes : Nat) (zs : List V) (l c : V) (d : Option Nat) (K : Env → Heap → Prop) (env : Env) : Prop :=
  match l, c with
  | .int _ len, .int _ cap => 0 ≤ len ∧ len ≤ cap ∧ cap * bytes ≤ 281474976710656 ∧ cap ≤ 281474976710656 ∧
      ∀ n, H n = none → K (env.put d (.sl n 0 len.toNat (len == cap))) (H.upd n (some ⟨true, sz, (List.replicate len.toNat zs).flatten⟩))
  | _, _ => False
def appC (H : Heap) (env : Env) (sz bytes : Nat) (s x : V) (av : List Nat) (d : Option Nat) (K : Env → Heap → Prop) : Prop :=
  match cellsAt H sz x with
    | some ys => (lenV s + lenV x) * bytes ≤ 140737488355328 ∧ (lenV s + lenV x) ≤ 140737488355328 ∧
      if lenV x = 0 then K (env.put d s) H ∧ (s = .nils ∨ ∃ n o l f, s = .sl n o l f) else
      match s with
      | .nils => ∀ m, H m = none → K (env.put d (.sl m 0 (lenV x) false)) (H.upd m (some ⟨true, sz, ys⟩))
      | .sl n o len full => match H n with
        | some b => offAll env n av ∧
          if full then o + len * sz ≤ b.cells.length ∧ ∀ m, H m = none → K (env.put d (.sl m 0 (len + lenV x) false)) (H.upd m (some ⟨true, sz, (b.cells.drop o).take (len * sz) ++ ys⟩))
          else b.own = true ∧ b.sz = sz ∧ o = 0 ∧ b.cells.length = len * sz ∧
            ∀ m, H m = none → K (env.put d (.sl m 0 (len + lenV x) false)) ((H.upd n none).upd m (some ⟨true, sz, b.cells ++ ys⟩))
        | none => False
      | _ => False
    | none => False
def cpyC (H : Heap) (sz : Nat) (x s : V) (d : Option Nat) (K : Env → Heap → Prop) (env : Env) : Prop :=
  match cellsAt H sz s, x with
    | some ys, .sl n o len _ => match H n with
      | some b => b.own = true ∧ o + len * sz ≤ b.cells.length ∧
        K (env.put d (.int .i64 (min (lenV s) len))) (H.upd n (some ⟨true, b.sz, splice b.cells o (ys.take (min (lenV s) len * sz))⟩))
      | none => False
    | some _, .nils => K (env.put d (.int .i64 0)) H
    | _, _ => False

def pickV (c a b : V) : Option V := match c with | .bool true => some a | .bool false => some b | _ => none
def faV (off : Nat) : V → Option V
  | .ptr n o => some (.ptr n (o + off))
  | _ => none
def fldV (agg : Bool) (off sz : Nat) : V → Option V
  | .agg cs => if agg then (if off + sz ≤ cs.length then some (.agg ((cs.drop off).take sz)) else none) else cs[off]?
  | _ => none
def iaV (sz : Nat) (x i : V) : Option V :=
  match x, i with
  | .sl n o len _, .int _ j => if 0 ≤ j ∧ j < len then some (.ptr n (o + j.toNat * sz)) else none
  | _, _ => none
def extV (i : Nat) : V → Option V
  | .tup vs => vs[i]?
  | _ => none
def convV (k : IntKind) : V → Option V
  | .int _ n => some (.int k (k.wrap n))
  | _ => none
def beqV (neg : Bool) (x y : V) : Option V := match x, y with
  | .bool a, .bool b => some (.bool ((a == b) != neg))
  | _, _ => none
def eqsV (neg : Bool) (n : Nat) (x y : V) : Option V := match x, y with
  | .agg xs, .agg ys => if xs.length = n then (eqCells xs ys).map fun b => .bool (b != neg) else none
  | _, _ => none
def nilchkV (x : V) : Option V := match x with
  | .ptr n o => some (.ptr n o)
  | .fn f caps => some (.fn f caps)
  | .sl n o len full => some (.sl n o len full)
  | .nils => some .nils
  | _ => none

section
variable {P : Program} {K : Env → Heap → Prop} {env : Env} {H : Heap} {d : Option Nat} {Q : Qt}

theorem c_skip : cwp P .skip Q env H = Q .normal env H := Eq.trans rfl rfl
theorem c_ops (l : List GI) : cwp P (.ops l) Q env H = irun P l (Q .normal) env H := Eq.trans rfl rfl
theorem c_seq (a b : IC) : cwp P (.seq a b) Q env H = cwp P a (thenE (cwp P b Q) Q) env H := Eq.trans rfl rfl
theorem c_ite (c : Opd) (a b : IC) : cwp P (.ite c a b) Q env H = iteC (c.ev env) P a b Q env H := by
  simp only [cwp, iteC] <;> rfl
theorem iteC_true (a b : IC) : iteC (.bool true) P a b Q env H = cwp P a Q env H := Eq.trans rfl rfl
theorem iteC_false (a b : IC) : iteC (.bool false) P a b Q env H = cwp P b Q env H := Eq.trans rfl rfl
theorem iteC_if {c : Prop} [Decidable c] {a b : IC} (h1 : c → cwp P a Q env H) (h2 : ¬ c → cwp P b Q env H) : iteC (.bool (decide c)) P a b Q env H := by
  by_cases h : c
  · simp only [h, decide_true, iteC_true]; exact h1 h
  · simp only [h, decide_false, iteC_false]; exact h2 h
theorem iteC_b {t : Bool} {a b : IC} (h1 : t = true → cwp P a Q env H) (h2 : t = false → cwp P b Q env H) : iteC (.bool t) P a b Q env H := by
  cases t
  · exact h2 rfl
  · exact h1 rfl
theorem c_blk (id : Nat) (c : IC) : cwp P (.blk id c) Q env H = cwp P c (inBlk id Q) env H := Eq.trans rfl rfl
theorem c_exit (id : Nat) : cwp P (.exit id) Q env H = Q (.exit id) env H := Eq.trans rfl rfl
theorem c_ret : cwp P .ret Q env H = Q .ret env H := Eq.trans rfl rfl

theorem t_normal {X : Env → Heap → Prop} : thenE X Q .normal env H = X env H := Eq.trans rfl rfl
theorem t_exit {X : Env → Heap → Prop} (id : Nat) : thenE X Q (.exit id) env H = Q (.exit id) env H := Eq.trans rfl rfl
theorem t_ret {X : Env → Heap → Prop} : thenE X Q .ret env H = Q .ret env H := Eq.trans rfl rfl
theorem b_normal (id : Nat) : inBlk id Q .normal env H = Q .normal env H := Eq.trans rfl rfl
theorem b_exit (id id' : Nat) : inBlk id Q (.exit id') env H = if id' = id then Q .normal env H else Q (.exit id') env H := Eq.trans rfl rfl
theorem b_ret (id : Nat) : inBlk id Q .ret env H = Q .ret env H := Eq.trans rfl rfl

theorem i_nil : irun P [] K env H = K env H := Eq.trans rfl rfl
theorem i_cons (g : GI) (r : List GI) : irun P (g :: r) K env H = istep P g (irun P r K) env H := Eq.trans rfl rfl

theorem grd_tt (i : I) (p : Bool) : grd (.bool true) true P i p d K env H = istep P ⟨none, p, d, i⟩ K env H := Eq.trans rfl rfl
theorem grd_tf (i : I) (p : Bool) : grd (.bool true) false P i p d K env H = K (env.put d und) H := Eq.trans rfl rfl
theorem grd_ft (i : I) (p : Bool) : grd (.bool false) true P i p d K env H = K (env.put d und) H := Eq.trans rfl rfl
theorem grd_ff (i : I) (p : Bool) : grd (.bool false) false P i p d K env H = istep P ⟨none, p, d, i⟩ K env H := Eq.trans rfl rfl
theorem grd_und (want : Bool) (i : I) (p : Bool) : grd und want P i p d K env H = K (env.put d und) H := Eq.trans rfl rfl
theorem s_guard (t : Nat) (want p : Bool) (i : I) : istep P ⟨some (t, want), p, d, i⟩ K env H = grd (env t) want P i p d K env H := by
  show (if gok (some (t, want)) env then _ else _) = _
  simp only [gok, grd]
  cases env t <;> first | rfl | (rename_i b; cases b <;> cases want <;> rfl)

theorem bindV_some (v : V) : bindV (some v) d K env H = K (env.put d v) H := Eq.trans rfl rfl
theorem bindV_of {o : Option V} {v : V} (h : o = some v) (hk : K (env.put d v) H) : bindV o d K env H := by rw [h]; exact hk

theorem s_mov (x : Opd) : istep P ⟨none, false, d, .mov x⟩ K env H = K (env.put d (x.ev env)) H := Eq.trans rfl rfl
theorem s_pick (c a b : Opd) : istep P ⟨none, false, d, .pick c a b⟩ K env H = bindV (pickV (c.ev env) (a.ev env) (b.ev env)) d K env H := by
  show iwp P (.pick c a b) (fun v H' => K (env.put d v) H') env H = _
  simp only [iwp, pv]
  cases c.ev env <;> first | rfl | (rename_i t; cases t <;> rfl)
theorem pickV_t (a b : V) : pickV (.bool true) a b = some a := Eq.trans rfl rfl
theorem pickV_f (a b : V) : pickV (.bool false) a b = some b := Eq.trans rfl rfl
theorem s_new (x : Opd) : istep P ⟨none, false, d, .new x⟩ K env H = newC H ⟨true, 1, (x.ev env).cells⟩ (fun n => .ptr n 0) d K env := Eq.trans rfl rfl
theorem s_zero (zs : List V) : istep P ⟨none, false, d, .zero zs⟩ K env H = newC H ⟨true, 1, zs⟩ (fun n => .ptr n 0) d K env := Eq.trans rfl rfl
theorem s_ld (agg : Bool) (sz : Nat) (x : Opd) : istep P ⟨none, false, d, .ld agg sz x none⟩ K env H = bindV (ldV H agg sz (x.ev env)) d K env H := Eq.trans rfl rfl
theorem s_ldr (agg : Bool) (sz : Nat) (x : Opd) (r : Nat) : istep P ⟨none, false, d, .ld agg sz x (some r)⟩ K env H = (sameName (x.ev env) (env r) = true ∧ bindV (ldV H agg sz (x.ev env)) d K env H) := by
  show iwp P (.ld agg sz x (some r)) (fun v H' => K (env.put d v) H') env H = _
  simp only [iwp, pv]
  cases sameName (x.ev env) (env r)
  · simp
  · simp only [if_true, true_and]; rfl
theorem s_st (sz : Nat) (a x : Opd) (av : List Nat) : istep P ⟨none, false, d, .st sz a x av⟩ K env H = stC H env av sz (a.ev env) (x.ev env) d K := by
  show iwp P (.st sz a x av) (fun v H' => K (env.put d v) H') env H = _
  simp only [iwp, stC]
  rfl
theorem s_bin (op : BinOp) (x y : Opd) : istep P ⟨none, false, d, .bin op x y⟩ K env H = bindV (binV op (x.ev env) (y.ev env)) d K env H := Eq.trans rfl rfl
theorem s_beq (neg : Bool) (x y : Opd) : istep P ⟨none, false, d, .beq neg x y⟩ K env H = bindV (beqV neg (x.ev env) (y.ev env)) d K env H := Eq.trans rfl rfl
theorem beq_bool (neg a b : Bool) : beqV neg (.bool a) (.bool b) = some (.bool ((a == b) != neg)) := Eq.trans rfl rfl
theorem s_isnil (neg : Bool) (k : Nat) (x : Opd) : istep P ⟨none, false, d, .isnil neg k x⟩ K env H = bindV ((nilV k (x.ev env)).map fun b => .bool (b != neg)) d K env H := Eq.trans rfl rfl
theorem s_eqs (neg : Bool) (n : Nat) (x y : Opd) : istep P ⟨none, false, d, .eqs neg n x y⟩ K env H = bindV (eqsV neg n (x.ev env) (y.ev env)) d K env H := Eq.trans rfl rfl
theorem s_un (op : UnOp) (x : Opd) : istep P ⟨none, false, d, .un op x⟩ K env H = bindV (unV op (x.ev env)) d K env H := Eq.trans rfl rfl
theorem un_not (b : Bool) : unV .not (.bool b) = some (.bool (!b)) := Eq.trans rfl rfl
theorem s_conv (k : IntKind) (x : Opd) : istep P ⟨none, false, d, .conv k x⟩ K env H = bindV (convV k (x.ev env)) d K env H := Eq.trans rfl rfl
theorem conv_int (k k' : IntKind) (n : Int) : convV k (.int k' n) = some (.int k (k.wrap n)) := Eq.trans rfl rfl
theorem s_fa (off : Nat) (x : Opd) : istep P ⟨none, false, d, .fa off x⟩ K env H = bindV (faV off (x.ev env)) d K env H := Eq.trans rfl rfl
theorem fa_ptr (off n o : Nat) : faV off (.ptr n o) = some (.ptr n (o + off)) := Eq.trans rfl rfl
theorem s_fld (agg : Bool) (off sz : Nat) (x : Opd) : istep P ⟨none, false, d, .fld agg off sz x⟩ K env H = bindV (fldV agg off sz (x.ev env)) d K env H := Eq.trans rfl rfl
theorem fld_one (off sz : Nat) (cs : List V) : fldV false off sz (.agg cs) = cs[off]? := Eq.trans rfl rfl
theorem s_ia (sz : Nat) (x i : Opd) : istep P ⟨none, false, d, .ia sz x i⟩ K env H = bindV (iaV sz (x.ev env) (i.ev env)) d K env H := Eq.trans rfl rfl
theorem s_sli (sz : Nat) (x : Opd) (lo hi mx : Option Opd) : istep P ⟨none, false, d, .sli sz x lo hi mx⟩ K env H = bindV (sliV H sz (x.ev env) (lo.map (Opd.ev env)) (hi.map (Opd.ev env)) (mx.map (Opd.ev env))) d K env H := Eq.trans rfl rfl
theorem s_ext (x : Opd) (i : Nat) : istep P ⟨none, false, d, .ext x i⟩ K env H = bindV (extV i (x.ev env)) d K env H := Eq.trans rfl rfl
theorem ext_tup (i : Nat) (vs : List V) : extV i (.tup vs) = vs[i]? := Eq.trans rfl rfl
theorem s_ifc (t : TypeId) (x : Opd) : istep P ⟨none, false, d, .ifc t x⟩ K env H = K (env.put d (.ifc t (x.ev env))) H := Eq.trans rfl rfl
theorem s_mkf (f : FuncId) (xs : List Opd) : istep P ⟨none, false, d, .mkf f xs⟩ K env H = K (env.put d (.fn f (xs.map (Opd.ev env)))) H := Eq.trans rfl rfl
theorem s_agg (zs : List V) (ps : List (Nat × Nat × Opd)) : istep P ⟨none, false, d, .agg zs ps⟩ K env H = bindV ((fillV zs (ps.map fun p => (p.1, p.2.1, p.2.2.ev env))).map V.agg) d K env H := Eq.trans rfl rfl
theorem s_len (x : Opd) : istep P ⟨none, false, d, .len x⟩ K env H = bindV (lenR (x.ev env)) d K env H := Eq.trans rfl rfl
theorem s_mm (mx : Bool) (x y : Opd) : istep P ⟨none, false, d, .mm mx x y⟩ K env H = bindV (mmV mx (x.ev env) (y.ev env)) d K env H := Eq.trans rfl rfl
theorem mm_min (k : IntKind) (a b : Int) : mmV false (.int k a) (.int k b) = some (.int k (if b < a then b else a)) := by simp [mmV]
theorem mm_max (k : IntKind) (a b : Int) : mmV true (.int k a) (.int k b) = some (.int k (if a < b then b else a)) := by simp [mmV]
theorem s_nilchk (x : Opd) : istep P ⟨none, false, d, .nilchk x⟩ K env H = bindV (pv (.nilchk x) env H) d K env H := Eq.trans rfl rfl
theorem s_bsl (sz len : Nat) (zs : List V) (ps : List (Nat × Nat × Opd)) : istep P ⟨none, false, d, .bsl sz len zs ps⟩ K env H = match fillV zs (ps.map fun p => (p.1, p.2.1, p.2.2.ev env)) with | some cs => newC H ⟨true, sz, cs⟩ (fun n => .sl n 0 len true) d K env | none => False := by
  show iwp P (.bsl sz len zs ps) (fun v H' => K (env.put d v) H') env H = _
  simp only [iwp]
  cases fillV zs (ps.map fun p => (p.1, p.2.1, p.2.2.ev env)) <;> rfl
theorem s_mk (sz bytes : Nat) (zs : List V) (l c : Opd) : istep P ⟨none, false, d, .mk sz bytes zs l c⟩ K env H = mkC H sz bytes zs (l.ev env) (c.ev env) d K env := by
  show iwp P (.mk sz bytes zs l c) (fun v H' => K (env.put d v) H') env H = _
  simp only [iwp, mkC]
  rfl
theorem s_app (sz bytes : Nat) (s x : Opd) (av : List Nat) : istep P ⟨none, false, d, .app sz bytes s x av⟩ K env H = appC H env sz bytes (s.ev env) (x.ev env) av d K := by
  show iwp P (.app sz bytes s x av) (fun v H' => K (env.put d v) H') env H = _
  simp only [iwp, appC]
  rfl
theorem s_cpy (sz : Nat) (x s : Opd) : istep P ⟨none, false, d, .cpy sz x s⟩ K env H = cpyC H sz (x.ev env) (s.ev env) d K env := by
  show iwp P (.cpy sz x s) (fun v H' => K (env.put d v) H') env H = _
  simp only [iwp, cpyC]
  rfl
theorem s_call (keep : Bool) (f : Opd) (xs : List Opd) : istep P ⟨none, keep, d, .call f xs⟩ K env H = callC P (f.ev env) (xs.map (Opd.ev env)) keep d K env H := by
  cases keep
  · show iwp P (.call f xs) (fun v H' => K (env.put d v) H') env H = _
    simp only [iwp, callC]; rfl
  · show iwp P (.call f xs) (fun v H' => Heap.sub H H' ∧ K (env.put d v) H') env H = _
    simp only [iwp, callC]; rfl
theorem s_inv (keep : Bool) (x : Opd) (t : TypeId) (f : FuncId) (xs : List Opd) : istep P ⟨none, keep, d, .inv x t f xs⟩ K env H = invC P (x.ev env) t f (xs.map (Opd.ev env)) keep d K env H := by
  cases keep
  · show iwp P (.inv x t f xs) (fun v H' => K (env.put d v) H') env H = _
    simp only [iwp, invC]; rfl
  · show iwp P (.inv x t f xs) (fun v H' => Heap.sub H H' ∧ K (env.put d v) H') env H = _
    simp only [iwp, invC]; rfl

theorem p_get (env : Env) (n : Nat) (v : V) (t : Nat) : Env.put env (some n) v t = if t = n then v else env t := Eq.trans rfl rfl
theorem p_none (v : V) : Env.put env none v = env := Eq.trans rfl rfl
theorem o_s (t : Nat) : (Opd.s t).ev env = env t := Eq.trans rfl rfl
theorem o_c (v : V) : (Opd.c v).ev env = v := Eq.trans rfl rfl
theorem e_0 (a : V) (l : List V) : env0 (a :: l) 0 = a := Eq.trans rfl rfl
theorem e_1 (a b : V) (l : List V) : env0 (a :: b :: l) 1 = b := Eq.trans rfl rfl
theorem e_2 (a b c : V) (l : List V) : env0 (a :: b :: c :: l) 2 = c := Eq.trans rfl rfl
theorem e_3 (a b c e : V) (l : List V) : env0 (a :: b :: c :: e :: l) 3 = e := Eq.trans rfl rfl
theorem e_4 (a b c e f : V) (l : List V) : env0 (a :: b :: c :: e :: f :: l) 4 = f := Eq.trans rfl rfl

theorem bv_add (k : IntKind) (a b : Int) : binV .add (.int k a) (.int k b) = some (.int k (k.wrap (a + b))) := by simp [binV]
theorem bv_sub (k : IntKind) (a b : Int) : binV .sub (.int k a) (.int k b) = some (.int k (k.wrap (a - b))) := by simp [binV]
theorem bv_mul (k : IntKind) (a b : Int) : binV .mul (.int k a) (.int k b) = some (.int k (k.wrap (a * b))) := by simp [binV]
theorem bv_eql (k : IntKind) (a b : Int) : binV .eql (.int k a) (.int k b) = some (.bool (decide (a = b))) := by
  have : (a == b) = decide (a = b) := by rw [Bool.eq_iff_iff]; simp
  simp [binV, this]
theorem not_dec (c : Prop) [Decidable c] : (!decide c) = decide (¬ c) := by by_cases h : c <;> simp [h]
theorem bv_neq (k : IntKind) (a b : Int) : binV .neq (.int k a) (.int k b) = some (.bool (decide (¬ a = b))) := by
  have : (a != b) = decide (¬ a = b) := by rw [Bool.eq_iff_iff]; simp
  simp [binV, this]
theorem bv_lss (k : IntKind) (a b : Int) : binV .lss (.int k a) (.int k b) = some (.bool (decide (a < b))) := by simp [binV]
theorem bv_leq (k : IntKind) (a b : Int) : binV .leq (.int k a) (.int k b) = some (.bool (decide (a ≤ b))) := by simp [binV]
theorem bv_gtr (k : IntKind) (a b : Int) : binV .gtr (.int k a) (.int k b) = some (.bool (decide (b < a))) := by simp [binV]
theorem bv_geq (k : IntKind) (a b : Int) : binV .geq (.int k a) (.int k b) = some (.bool (decide (b ≤ a))) := by simp [binV]
theorem wrapI {x : Int} (h1 : -9223372036854775808 ≤ x) (h2 : x ≤ 9223372036854775807) : IntKind.i64.wrap x = x := by
  rw [IntKind.wrap_i64]; omega

/-! ### loops -/

theorem loop_inv {c : IC} (Inv : Env → Heap → Prop) (m : Env → Heap → Nat) (h0 : Inv env H)
    (step : ∀ env H, Inv env H → cwp P c (thenE (fun env' H' => Inv env' H' ∧ m env' H' < m env H) Q) env H) : cwp P (.loop c) Q env H := by
  have key : ∀ n env H, m env H = n → Inv env H → cwp P (.loop c) Q env H := by
    intro n
    induction n using Nat.strongRecOn with
    | _ n ih =>
      intro env H hn hI
      refine cwp_loop (cwp_mono c (thenE_mono (fun env' H' h => ?_) fun _ _ _ h => h) (step env H hI))
      exact ih (m env' H') (hn ▸ h.2) env' H' rfl h.1
  exact key _ env H rfl h0

end

/-- a contract whose callee only adds to the heap, seen by a caller that forgets it -/
theorem ACalls.forget {P : Program} {f : FuncId} {args : List V} {H : Heap} {R R' : V → Heap → Prop} (h : ACalls P f args H R) (hr : ∀ v H', R v H' → ∃ H'', Heap.sub H'' H' ∧ R' v H'') : ACalls P f args H R' :=
  ⟨h.1, fun μ w cargs hs hv => (h.2 μ w cargs hs hv).mono fun e w' ⟨μ', cv, v, H', a, b, c, d, r⟩ => by
    obtain ⟨H'', hsub, r'⟩ := hr v H' r
    exact ⟨μ', cv, v, H'', a, b.sub hsub, c.sub hsub, d, r'⟩⟩

end Go.AM

/- The stepping set: which arguments a rewriting step looks at, and the ends. Conditions: none. -/
set_option linter.unusedVariables false
set_option linter.unusedSimpArgs false
namespace Go.AM
open Go

/-- the last step -/
def finO (v : V) (H : Heap) (R : V → Heap → Prop) : Prop := ∃ H', Heap.sub H' H ∧ R v H'
theorem f_normal (rs : Res) (R : V → Heap → Prop) (env : Env) (H : Heap) : fin rs R .normal env H = fin rs R .ret env H := Eq.trans rfl rfl
theorem f_one (t : Nat) (env : Env) (H : Heap) (R : V → Heap → Prop) : fin [(t, none)] R .ret env H = finO (env t) H R := by
  simp only [fin, finO, resV, res1, eq_iff_iff]
  constructor
  · rintro ⟨v, H', h1, h⟩; cases h1; exact ⟨H', h⟩
  · rintro ⟨H', h⟩; exact ⟨_, H', rfl, h⟩
theorem f_two (t u : Nat) (env : Env) (H : Heap) (R : V → Heap → Prop) : fin [(t, none), (u, none)] R .ret env H = finO (.tup [env t, env u]) H R := by
  simp only [fin, finO, resV, res1, mapO, eq_iff_iff, Option.map]
  constructor
  · rintro ⟨v, H', h1, h⟩; cases h1; exact ⟨H', h⟩
  · rintro ⟨H', h⟩; exact ⟨_, H', rfl, h⟩
theorem f_three (t u w : Nat) (env : Env) (H : Heap) (R : V → Heap → Prop) : fin [(t, none), (u, none), (w, none)] R .ret env H = finO (.tup [env t, env u, env w]) H R := by
  simp only [fin, finO, resV, res1, mapO, eq_iff_iff, Option.map]
  constructor
  · rintro ⟨v, H', h1, h⟩; cases h1; exact ⟨H', h⟩
  · rintro ⟨H', h⟩; exact ⟨_, H', rfl, h⟩
theorem f_none (env : Env) (H : Heap) (R : V → Heap → Prop) : fin [] R .ret env H = finO (.tup []) H R := by
  simp only [fin, finO, resV, res1, mapO, eq_iff_iff, Option.map]
  constructor
  · rintro ⟨v, H', h1, h⟩; cases h1; exact ⟨H', h⟩
  · rintro ⟨H', h⟩; exact ⟨_, H', rfl, h⟩
theorem Heap.sub.rfl' {H : Heap} : Heap.sub H H := fun _ _ h => h
theorem finO_self {v : V} {H : Heap} {R : V → Heap → Prop} (h : R v H) : finO v H R := ⟨H, Heap.sub.rfl', h⟩
theorem finO_sub {v : V} {H H' : Heap} {R : V → Heap → Prop} (hs : Heap.sub H' H) (h : R v H') : finO v H R := ⟨H', hs, h⟩

theorem ia_nat {sz n o len : Nat} {f : Bool} {k : IntKind} {i : Nat} (h : i < len) : iaV sz (.sl n o len f) (.int k i) = some (.ptr n (o + i * sz)) := by
  simp [iaV, h]
theorem ia_int {sz n o len : Nat} {f : Bool} {k : IntKind} {i : Int} (h0 : 0 ≤ i) (h : i < len) : iaV sz (.sl n o len f) (.int k i) = some (.ptr n (o + i.toNat * sz)) := by
  simp [iaV, h0, h]
theorem len_sl (n o len : Nat) (f : Bool) : lenR (.sl n o len f) = some (.int .i64 len) := Eq.trans rfl rfl
theorem len_nils : lenR .nils = some (.int .i64 0) := Eq.trans rfl rfl
theorem ld_agg {H : Heap} {sz n o : Nat} {b : Blk} {cs : List V} (h : H n = some b) (hb : o + sz ≤ b.cells.length) (hv : (b.cells.drop o).take sz = cs) : ldV H true sz (.ptr n o) = some (.agg cs) := by simp [ldV, h, hv, hb]

theorem ACalls.imp {P : Program} {f : FuncId} {args : List V} {H : Heap} {R R' : V → Heap → Prop} (h : ACalls P f args H R) (hr : ∀ v H', R v H' → R' v H') : ACalls P f args H R' :=
  h.forget fun v H' r => ⟨H', Heap.sub.rfl', hr v H' r⟩

/-- a callee that gives a value and leaves the heap as it was -/
theorem callC_pure {P : Program} {g : FuncId} {caps args : List V} {keep : Bool} {d : Option Nat} {K : Env → Heap → Prop} {env : Env} {H : Heap} {u : V} (h : ACalls P g (args ++ caps) H fun v H' => v = u ∧ H' = H) (hk : K (env.put d u) H) : callC P (.fn g caps) args keep d K env H := by
  refine h.imp fun v H' r => ?_
  rw [r.1, r.2]
  cases keep
  · exact hk
  · exact ⟨Heap.sub.rfl', hk⟩
/-- a callee that gives a value and adds to the heap -/
theorem callC_grow {P : Program} {g : FuncId} {caps args : List V} {keep : Bool} {d : Option Nat} {K : Env → Heap → Prop} {env : Env} {H : Heap} {R : V → Heap → Prop} (h : ACalls P g (args ++ caps) H fun v H' => Heap.sub H H' ∧ R v H') (hk : ∀ v H', Heap.sub H H' → R v H' → K (env.put d v) H') : callC P (.fn g caps) args keep d K env H := by
  refine h.imp fun v H' r => ?_
  cases keep
  · exact hk v H' r.1 r.2
  · exact ⟨r.1, hk v H' r.1 r.2⟩
theorem invC_pure {P : Program} {g : FuncId} {t : TypeId} {x : V} {args : List V} {keep : Bool} {d : Option Nat} {K : Env → Heap → Prop} {env : Env} {H : Heap} {u : V} (h : ACalls P g (x :: args) H fun v H' => v = u ∧ H' = H) (hk : K (env.put d u) H) : invC P (.ifc t x) t g args keep d K env H := by
  refine ⟨rfl, h.imp fun v H' r => ?_⟩
  rw [r.1, r.2]
  cases keep
  · exact hk
  · exact ⟨Heap.sub.rfl', hk⟩
theorem invC_grow {P : Program} {g : FuncId} {t : TypeId} {x : V} {args : List V} {keep : Bool} {d : Option Nat} {K : Env → Heap → Prop} {env : Env} {H : Heap} {R : V → Heap → Prop} (h : ACalls P g (x :: args) H fun v H' => Heap.sub H H' ∧ R v H') (hk : ∀ v H', Heap.sub H H' → R v H' → K (env.put d v) H') : invC P (.ifc t x) t g args keep d K env H := by
  refine ⟨rfl, h.imp fun v H' r => ?_⟩
  cases keep
  · exact hk v H' r.1 r.2
  · exact ⟨r.1, hk v H' r.1 r.2⟩
/-- any callee -/
theorem callC_any {P : Program} {g : FuncId} {caps args : List V} {d : Option Nat} {K : Env → Heap → Prop} {env : Env} {H : Heap} {R : V → Heap → Prop} (h : ACalls P g (args ++ caps) H R) (hk : ∀ v H', R v H' → K (env.put d v) H') : callC P (.fn g caps) args false d K env H :=
  h.imp fun v H' r => hk v H' r

theorem wrapN {x : Nat} (h : x < 9223372036854775808) : IntKind.i64.wrap (x : Int) = x := wrapI (by omega) (by omega)
theorem wrapN1 {x : Nat} (h : x + 1 < 9223372036854775808) : IntKind.i64.wrap ((x : Int) + 1) = ((x + 1 : Nat) : Int) := by rw [wrapI (by omega) (by omega)]; simp

/-- 'for i := range s': the loop as the compiler lays it -/
theorem range_loop {P : Program} {c i n t b b1 : Nat} {B : IC} {Q : Qt} {env : Env} {H : Heap} (N : Nat) (J : Nat → Env → Heap → Prop)
    (hN : N ≤ 281474976710656) (hci : c ≠ i) (hcn : c ≠ n)
    (hJ : ∀ k env H, J k env H → env i = .int .i64 k ∧ env n = .int .i64 N) (h0 : J 0 env H)
    (step : ∀ k env H, k < N → J k env H → cwp P B (inBlk b1 (thenE (fun env' H' => env' i = .int .i64 k ∧ J (k+1) ((env'.put (some t) (.int .i64 (k+1 : Nat))).put (some i) (.int .i64 (k+1 : Nat))) H') (inBlk b Q))) (env.put (some c) (.bool true)) H)
    (done : ∀ env H, J N env H → Q .normal (env.put (some c) (.bool false)) H) :
    cwp P (.loop (.seq (.ops [⟨none, false, some c, .bin .lss (.s i) (.s n)⟩]) (.seq (.ite (.s c) .skip (.exit b)) (.seq (.blk b1 B) (.ops [⟨none, false, some t, .bin .add (.s i) (.c (.int .i64 1))⟩, ⟨none, false, some i, .mov (.s t)⟩]))))) (inBlk b Q) env H := by
  have key : ∀ m k env H, m + k = N → J k env H → cwp P (.loop (.seq (.ops [⟨none, false, some c, .bin .lss (.s i) (.s n)⟩]) (.seq (.ite (.s c) .skip (.exit b)) (.seq (.blk b1 B) (.ops [⟨none, false, some t, .bin .add (.s i) (.c (.int .i64 1))⟩, ⟨none, false, some i, .mov (.s t)⟩]))))) (inBlk b Q) env H := by
    intro m
    induction m with
    | zero =>
      intro k env H e hj
      obtain rfl : k = N := by omega
      refine cwp_loop ?_
      obtain ⟨hi, hn⟩ := hJ _ _ _ hj
      simp only [c_seq, c_ops, i_cons, s_bin, o_s, hi, hn, bv_lss, bindV_some, i_nil, t_normal, c_ite, p_get, ↓reduceIte, Int.lt_irrefl, decide_false, iteC_false, c_exit, t_exit, b_exit]
      exact done _ _ hj
    | succ m ih =>
      intro k env H e hj
      refine cwp_loop ?_
      obtain ⟨hi, hn⟩ := hJ _ _ _ hj
      have hlt : ((k : Int) < (N : Int)) := by omega
      simp only [c_seq, c_ops, i_cons, s_bin, o_s, hi, hn, bv_lss, bindV_some, i_nil, t_normal, c_ite, p_get, ↓reduceIte, hlt, decide_true, iteC_true, c_skip, c_blk]
      refine cwp_mono B ?_ (step k env H (by omega) hj)
      have hX : ∀ env' H', (env' i = .int .i64 k ∧ J (k+1) ((env'.put (some t) (.int .i64 (k+1 : Nat))).put (some i) (.int .i64 (k+1 : Nat))) H') → irun P [⟨none, false, some t, .bin .add (.s i) (.c (.int .i64 1))⟩, ⟨none, false, some i, .mov (.s t)⟩] (thenE (cwp P (.loop (.seq (.ops [⟨none, false, some c, .bin .lss (.s i) (.s n)⟩]) (.seq (.ite (.s c) .skip (.exit b)) (.seq (.blk b1 B) (.ops [⟨none, false, some t, .bin .add (.s i) (.c (.int .i64 1))⟩, ⟨none, false, some i, .mov (.s t)⟩]))))) (inBlk b Q)) (inBlk b Q) .normal) env' H' := by
        intro env' H' ⟨h1, h2⟩
        simp only [i_cons, s_bin, o_s, o_c, h1, bv_add, bindV_some, s_mov, i_nil, t_normal, p_get, ↓reduceIte]
        rw [wrapN1 (by omega)]
        exact ih (k+1) _ H' (by omega) h2
      refine inBlk_mono ?_
      intro e env H h
      cases e
      · exact hX _ _ h
      all_goals exact h
  exact key N 0 env H (by omega) h0

/-- any loop that runs at most N rounds -/
theorem loop_count {P : Program} {C : IC} {Q : Qt} {env : Env} {H : Heap} (N : Nat) (J : Nat → Env → Heap → Prop) (h0 : J 0 env H)
    (step : ∀ k env H, k < N → J k env H → cwp P C (thenE (J (k+1)) Q) env H)
    (last : ∀ env H, J N env H → cwp P C (thenE (fun _ _ => False) Q) env H) : cwp P (.loop C) Q env H := by
  have key : ∀ m k env H, m + k = N → J k env H → cwp P (.loop C) Q env H := by
    intro m
    induction m with
    | zero =>
      intro k env H e hj
      obtain rfl : k = N := by omega
      refine cwp_loop (cwp_mono C ?_ (last env H hj))
      intro e env H h
      cases e
      · exact h.elim
      all_goals exact h
    | succ m ih =>
      intro k env H e hj
      refine cwp_loop (cwp_mono C ?_ (step k env H (by omega) hj))
      intro e env H h
      cases e
      · exact ih (k+1) env H (by omega) h
      all_goals exact h
  exact key N 0 env H (by omega) h0
end Go.AM

/- Data in the heap, and the steps that change it. Conditions: none. -/
set_option linter.unusedVariables false
set_option linter.unusedSimpArgs false
namespace Go.AM
open Go

/-- a slice of 'len' items of 'sz' cells each, in all the cells 'cs' -/
def Sl (H : Heap) (v : V) (sz len : Nat) (cs : List V) : Prop :=
  cs.length = len * sz ∧ len ≤ 281474976710656 ∧ ((v = .nils ∧ len = 0) ∨ ∃ n o f b, v = .sl n o len f ∧ H n = some b ∧ b.sz = sz ∧ (len = 0 ∨ o + len * sz ≤ b.cells.length) ∧ ∀ j, j < len * sz → b.cells[o + j]? = cs[j]?)

theorem Sl.mono {H H' : Heap} {v : V} {sz len : Nat} {cs : List V} (h : Sl H v sz len cs) (hs : Heap.sub H H') : Sl H' v sz len cs := by
  obtain ⟨h1, h2, h3 | ⟨n, o, f, b, e, hb, hz, hl, hj⟩⟩ := h
  · exact ⟨h1, h2, .inl h3⟩
  · exact ⟨h1, h2, .inr ⟨n, o, f, b, e, hs n b hb, hz, hl, hj⟩⟩
theorem Sl.len {H : Heap} {v : V} {sz len : Nat} {cs : List V} (h : Sl H v sz len cs) : lenR v = some (.int .i64 len) := by
  obtain ⟨h1, _, ⟨rfl, rfl⟩ | ⟨n, o, f, b, rfl, _⟩⟩ := h <;> rfl
theorem Sl.lt {H : Heap} {v : V} {sz len : Nat} {cs : List V} (h : Sl H v sz len cs) : len ≤ 281474976710656 := h.2.1
theorem Sl.lenV {H : Heap} {v : V} {sz len : Nat} {cs : List V} (h : Sl H v sz len cs) : lenV v = len := by
  obtain ⟨h1, _, ⟨rfl, rfl⟩ | ⟨n, o, f, b, rfl, _⟩⟩ := h <;> rfl
/-- the address of an item, and what lies there -/
theorem Sl.at {H : Heap} {v : V} {sz len : Nat} {cs : List V} (h : Sl H v sz len cs) {kd : IntKind} {k : Nat} (hk : k < len) :
    ∃ p, iaV sz v (.int kd k) = some p ∧ ldV H true sz p = some (.agg ((cs.drop (k * sz)).take sz)) ∧ ∀ j, j < sz → ∃ q, faV j p = some q ∧ ldV H false 1 q = cs[k * sz + j]? := by
  obtain ⟨h1, _, ⟨rfl, rfl⟩ | ⟨n, o, f, b, rfl, hb, hz, hl, hj⟩⟩ := h
  · omega
  · have hle : k * sz + sz ≤ len * sz := by
      have := Nat.mul_le_mul_right sz (Nat.succ_le_of_lt hk)
      rw [Nat.succ_mul] at this; exact this
    refine ⟨.ptr n (o + k * sz), ia_nat hk, ld_agg hb (by omega) ?_, fun j hjs => ⟨.ptr n (o + k * sz + j), rfl, ?_⟩⟩
    · apply List.ext_getElem?
      intro i
      simp only [List.getElem?_take, List.getElem?_drop]
      split
      · rw [Nat.add_assoc, hj _ (by omega)]
      · rfl
    · simp only [ldV, hb, Nat.add_assoc]
      rw [if_neg (by simp), hj _ (by omega)]
theorem Sl.at1 {H : Heap} {v : V} {len : Nat} {cs : List V} (h : Sl H v 1 len cs) {kd : IntKind} {k : Nat} (hk : k < len) :
    ∃ p, iaV 1 v (.int kd k) = some p ∧ ldV H false 1 p = cs[k]? := by
  obtain ⟨p, h1, h2, h3⟩ := h.at (kd := kd) hk
  obtain ⟨q, hq, hv⟩ := h3 0 (by omega)
  refine ⟨p, h1, ?_⟩
  cases p <;> simp only [faV, Option.some.injEq, reduceCtorEq] at hq
  subst hq
  simpa using hv

theorem Heap.sub.trans' {H H' H'' : Heap} (h : Heap.sub H H') (h' : Heap.sub H' H'') : Heap.sub H H'' := fun n b e => h' n b (h n b e)
theorem Heap.sub.none' {H H' : Heap} (h : Heap.sub H H') {n : Nat} (e : H' n = none) : H n = none := by
  cases h' : H n with
  | none => rfl
  | some b => rw [h n b h'] at e; cases e
theorem Heap.sub.upd' {H H' : Heap} (h : Heap.sub H H') {n : Nat} (e : H n = none) (b : Option Blk) : Heap.sub H (H'.upd n b) := by
  intro m c hm
  have : m ≠ n := by rintro rfl; rw [e] at hm; cases hm
  simp [Heap.upd, this, h m c hm]
theorem newC_intro {H : Heap} {b : Blk} {mkv : Nat → V} {d : Option Nat} {K : Env → Heap → Prop} {env : Env} (h : ∀ n H', H n = none → Heap.sub H H' → H' n = some b → K (env.put d (mkv n)) H') : newC H b mkv d K env :=
  fun n hn => h n _ hn (Heap.sub.upd' Heap.sub.rfl' hn _) (by simp [Heap.upd])
theorem stC_intro {H : Heap} {env : Env} {av : List Nat} {sz n o : Nat} {x : V} {d : Option Nat} {K : Env → Heap → Prop} {s : Nat} {cells : List V} (hb : H n = some ⟨true, s, cells⟩) (h1 : offAll env n av) (hx : x.cells.length = sz) (h0 : 0 < sz) (hl : o + sz ≤ cells.length)
    (hk : ∀ H', H' n = some ⟨true, s, splice cells o x.cells⟩ → (∀ m, m ≠ n → H' m = H m) → (∀ H0, Heap.sub H0 H → H0 n = none → Heap.sub H0 H') → K (env.put d und) H') : stC H env av sz (.ptr n o) x d K := by
  simp only [stC, hb]
  exact ⟨h1, trivial, hx, .inl h0, hl, hk _ (by simp [Heap.upd]) (fun m hm => by simp [Heap.upd, hm]) fun H0 hs hn => hs.upd' hn _⟩
/-- a store of nothing -/
theorem stC_empty {H : Heap} {env : Env} {av : List Nat} {n o : Nat} {d : Option Nat} {K : Env → Heap → Prop} {s : Nat} {cells : List V} (hb : H n = some ⟨true, s, cells⟩) (h1 : offAll env n av) (hl : o ≤ cells.length) (hk : K (env.put d und) H) : stC H env av 0 (.ptr n o) (.agg []) d K := by
  simp only [stC, hb]
  refine ⟨h1, trivial, rfl, .inr trivial, hl, ?_⟩
  have : H.upd n (some ⟨true, s, splice cells o (V.agg []).cells⟩) = H := by
    funext m
    by_cases e : m = n
    · subst e; simp [Heap.upd, hb, V.cells, splice]
    · simp [Heap.upd, e]
  rw [this]; exact hk
theorem mkC_intro {H : Heap} {env : Env} {d : Option Nat} {K : Env → Heap → Prop} {sz bytes : Nat} {zs : List V} {k1 k2 : IntKind} {l c : Nat} (h1 : l ≤ c) (h2 : c * bytes ≤ 281474976710656) (h3 : c ≤ 281474976710656)
    (hk : ∀ n H', H n = none → Heap.sub H H' → H' n = some ⟨true, sz, (List.replicate l zs).flatten⟩ → K (env.put d (.sl n 0 l (l == c))) H') : mkC H sz bytes zs (.int k1 l) (.int k2 c) d K env := by
  refine ⟨by omega, by omega, by omega, by omega, fun n hn => ?_⟩
  have e : ((l : Int) == (c : Int)) = (l == c) := by
    rw [Bool.eq_iff_iff, beq_iff_eq, beq_iff_eq]; omega
  simp only [Int.toNat_natCast, e]
  exact hk n _ hn (Heap.sub.upd' Heap.sub.rfl' hn _) (by simp [Heap.upd])
theorem cells_agg (cs : List V) : (V.agg cs).cells = cs := Eq.trans rfl rfl
theorem cells_int (k : IntKind) (i : Int) : (V.int k i).cells = [.int k i] := Eq.trans rfl rfl
theorem cells_bool (b : Bool) : (V.bool b).cells = [.bool b] := Eq.trans rfl rfl

theorem ld_box {H : Heap} {n : Nat} {own : Bool} {s : Nat} {cs : List V} {sz o : Nat} (h : H n = some ⟨own, s, cs⟩) : ldV H false sz (.ptr n o) = cs[o]? := by simp [ldV, h]
theorem ld_boxa {H : Heap} {n : Nat} {own : Bool} {s : Nat} {cs : List V} {sz o : Nat} (h : H n = some ⟨own, s, cs⟩) (hl : o + sz ≤ cs.length) : ldV H true sz (.ptr n o) = some (.agg ((cs.drop o).take sz)) := by simp [ldV, h, hl]
end Go.AM

/- Lists of the program's data. Conditions: none. -/
set_option linter.unusedVariables false
set_option linter.unusedSimpArgs false
namespace Go.AM
open Go

def ints (xs : List Int) : List V := xs.map (.int .i64)
theorem ints_get {xs : List Int} {k : Nat} (h : k < xs.length) : (ints xs)[k]? = some (.int .i64 xs[k]) := by simp [ints, h]
theorem ints_len (xs : List Int) : (ints xs).length = xs.length := by simp [ints]

/-- an edge -/
structure Ed where
  fr : Int
  lb : Int
  to : Int
  deriving DecidableEq
def Ed.cells (e : Ed) : List V := [.int .i64 e.fr, .int .i64 e.lb, .int .i64 e.to]
def ecells (l : List Ed) : List V := (l.map Ed.cells).flatten
theorem ecells_len (l : List Ed) : (ecells l).length = l.length * 3 := by
  induction l with
  | nil => rfl
  | cons e r ih =>
    simp only [ecells, List.map_cons, List.flatten_cons, List.length_append, List.length_cons] at ih ⊢
    rw [ih]; simp [Ed.cells]; omega
theorem ecells_drop (l : List Ed) (k : Nat) : (ecells l).drop (k * 3) = ecells (l.drop k) := by
  induction k generalizing l with
  | zero => simp
  | succ k ih =>
    cases l with
    | nil => simp [ecells]
    | cons e r =>
      have : (k + 1) * 3 = 3 + k * 3 := by omega
      simp only [List.drop_succ_cons, ← ih r, this, ← List.drop_drop]
      rfl
theorem ecells_at {l : List Ed} {k : Nat} (h : k < l.length) : ((ecells l).drop (k * 3)).take 3 = l[k].cells := by
  rw [ecells_drop, List.drop_eq_getElem_cons h]; rfl
theorem ecells_get {l : List Ed} {k : Nat} (h : k < l.length) (j : Nat) (hj : j < 3) : (ecells l)[k * 3 + j]? = l[k].cells[j]? := by
  have := congrArg (fun x => x[j]?) (ecells_at h)
  simp only [List.getElem?_take, List.getElem?_drop, hj, if_true] at this
  exact this

/-- a slice of ints; of edges; of slices of edges; of slices of ints -/
def SInts (H : Heap) (v : V) (xs : List Int) : Prop := Sl H v 1 xs.length (ints xs)
def SEds (H : Heap) (v : V) (l : List Ed) : Prop := Sl H v 3 l.length (ecells l)
/-- a slice of slices -/
def SLists {α : Type} (S : Heap → V → α → Prop) (H : Heap) (v : V) (ls : List α) : Prop :=
  ∃ vs : List V, Sl H v 1 ls.length vs ∧ ∀ i, (h : i < ls.length) → ∃ u, vs[i]? = some u ∧ S H u ls[i]
def SSecs (H : Heap) (v : V) (ls : List (List Ed)) : Prop := SLists SEds H v ls
def SRows (H : Heap) (v : V) (ls : List (List Int)) : Prop := SLists SInts H v ls

theorem SInts.mono {H H' : Heap} {v : V} {xs : List Int} (h : SInts H v xs) (hs : Heap.sub H H') : SInts H' v xs := Sl.mono h hs
theorem SEds.mono {H H' : Heap} {v : V} {xs : List Ed} (h : SEds H v xs) (hs : Heap.sub H H') : SEds H' v xs := Sl.mono h hs
theorem SLists.mono {α : Type} {S : Heap → V → α → Prop} (hS : ∀ {H H' v a}, S H v a → Heap.sub H H' → S H' v a) {H H' : Heap} {v : V} {ls : List α} (h : SLists S H v ls) (hs : Heap.sub H H') : SLists S H' v ls := by
  obtain ⟨vs, h1, h2⟩ := h
  exact ⟨vs, h1.mono hs, fun i hi => by obtain ⟨u, a, b⟩ := h2 i hi; exact ⟨u, a, hS b hs⟩⟩
theorem SSecs.mono {H H' : Heap} {v : V} {ls : List (List Ed)} (h : SSecs H v ls) (hs : Heap.sub H H') : SSecs H' v ls := SLists.mono (S := SEds) (fun a b => SEds.mono a b) h hs
theorem SRows.mono {H H' : Heap} {v : V} {ls : List (List Int)} (h : SRows H v ls) (hs : Heap.sub H H') : SRows H' v ls := SLists.mono (S := SInts) (fun a b => SInts.mono a b) h hs
theorem SInts.len {H : Heap} {v : V} {xs : List Int} (h : SInts H v xs) : lenR v = some (.int .i64 xs.length) := Sl.len h
theorem SEds.len {H : Heap} {v : V} {xs : List Ed} (h : SEds H v xs) : lenR v = some (.int .i64 xs.length) := Sl.len h
theorem SLists.len {α : Type} {S : Heap → V → α → Prop} {H : Heap} {v : V} {ls : List α} (h : SLists S H v ls) : lenR v = some (.int .i64 ls.length) := by obtain ⟨vs, h1, h2⟩ := h; exact h1.len
theorem SInts.lt {H : Heap} {v : V} {xs : List Int} (h : SInts H v xs) : xs.length ≤ 281474976710656 := Sl.lt h
theorem SEds.lt {H : Heap} {v : V} {xs : List Ed} (h : SEds H v xs) : xs.length ≤ 281474976710656 := Sl.lt h
theorem SLists.lt {α : Type} {S : Heap → V → α → Prop} {H : Heap} {v : V} {ls : List α} (h : SLists S H v ls) : ls.length ≤ 281474976710656 := by obtain ⟨vs, h1, h2⟩ := h; exact h1.lt
theorem SInts.get {H : Heap} {v : V} {xs : List Int} (h : SInts H v xs) {k : Nat} (hk : k < xs.length) (kd : IntKind) : ∃ p, iaV 1 v (.int kd k) = some p ∧ ldV H false 1 p = some (.int .i64 xs[k]) := by
  obtain ⟨p, h1, h2⟩ := Sl.at1 h (kd := kd) hk
  exact ⟨p, h1, by rw [h2, ints_get hk]⟩
theorem SLists.get {α : Type} {S : Heap → V → α → Prop} {H : Heap} {v : V} {ls : List α} (h : SLists S H v ls) {k : Nat} (hk : k < ls.length) (kd : IntKind) : ∃ p u, iaV 1 v (.int kd k) = some p ∧ ldV H false 1 p = some u ∧ S H u ls[k] := by
  obtain ⟨vs, h1, h2⟩ := h
  obtain ⟨p, h3, h4⟩ := h1.at1 (kd := kd) hk
  obtain ⟨u, h5, h6⟩ := h2 k hk
  exact ⟨p, u, h3, by rw [h4, h5], h6⟩
theorem SEds.get {H : Heap} {v : V} {xs : List Ed} (h : SEds H v xs) {k : Nat} (hk : k < xs.length) (kd : IntKind) : ∃ p q0 q1 q2, iaV 3 v (.int kd k) = some p ∧ ldV H true 3 p = some (.agg xs[k].cells) ∧
    faV 0 p = some q0 ∧ faV 1 p = some q1 ∧ faV 2 p = some q2 ∧ ldV H false 1 q0 = some (.int .i64 xs[k].fr) ∧ ldV H false 1 q1 = some (.int .i64 xs[k].lb) ∧ ldV H false 1 q2 = some (.int .i64 xs[k].to) := by
  obtain ⟨p, h1, h2, h3⟩ := Sl.at h (kd := kd) hk
  obtain ⟨q0, a0, b0⟩ := h3 0 (by omega)
  obtain ⟨q1, a1, b1⟩ := h3 1 (by omega)
  obtain ⟨q2, a2, b2⟩ := h3 2 (by omega)
  rw [ecells_get hk _ (by omega)] at b0 b1 b2
  exact ⟨p, q0, q1, q2, h1, by rw [h2, ecells_at hk], a0, a1, a2, b0, b1, b2⟩

/-- sums -/
def sumI : List Int → Int
  | [] => 0
  | x :: r => x + sumI r
theorem sumI_take_succ : ∀ {l : List Int} {k : Nat} (h : k < l.length), sumI (l.take (k+1)) = sumI (l.take k) + l[k]
  | [], _, h => by simp at h
  | x :: r, 0, _ => by simp [sumI]
  | x :: r, k+1, h => by
    have := sumI_take_succ (l := r) (k := k) (by simpa using h)
    simp only [List.take_succ_cons, sumI, List.getElem_cons_succ] at this ⊢
    omega
theorem sumI_nonneg : ∀ {l : List Int}, (∀ x ∈ l, 0 ≤ x) → 0 ≤ sumI l
  | [], _ => by simp [sumI]
  | x :: r, h => by
    have := sumI_nonneg (l := r) fun y hy => h y (List.mem_cons_of_mem _ hy)
    have := h x (List.mem_cons_self ..)
    simp only [sumI]; omega
theorem sumI_append (a b : List Int) : sumI (a ++ b) = sumI a + sumI b := by
  induction a with
  | nil => simp [sumI]
  | cons x r ih => simp only [List.cons_append, sumI, ih]; omega
theorem sumI_take_le {l : List Int} (h : ∀ x ∈ l, 0 ≤ x) (k : Nat) : sumI (l.take k) ≤ sumI l := by
  have := sumI_append (l.take k) (l.drop k)
  rw [List.take_append_drop] at this
  have := sumI_nonneg (l := l.drop k) fun x hx => h x (List.mem_of_mem_drop hx)
  omega
end Go.AM
