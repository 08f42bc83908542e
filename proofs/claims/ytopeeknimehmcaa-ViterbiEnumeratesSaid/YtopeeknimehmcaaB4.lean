/- Code as the abstract machine has it, and the contract of a function from its body. Conditions: as stated. -/
import Derived.Test.YtopeeknimehmcaaB3
set_option linter.unusedVariables false
set_option linter.unusedSimpArgs false
namespace Go.AM
open Go

inductive IC where
  | skip
  | ops (l : List GI)
  | seq (a b : IC)
  | ite (c : Opd) (a b : IC)
  | blk (id : Nat) (c : IC)
  | loop (c : IC)
  | exit (id : Nat)
  | ret
  | bad
  deriving Inhabited

def cvC (P : Program) (n : Nat) : Code → IC
  | .skip => .skip
  | .label _ => .skip
  | .region _ ops draw => match cvRegion P n ops draw with
    | some gs => .ops gs
    | none => .bad
  | .seq a b => .seq (cvC P n a) (cvC P n b)
  | .cond c a b => match cvO n c with
    | some x => .ite x (cvC P n a) (cvC P n b)
    | none => .bad
  | .block id c => .blk id (cvC P n c)
  | .loop c => .loop (cvC P n c)
  | .exit id => .exit id
  | .ret => .ret
  | _ => .bad

abbrev Qt := Exit → Env → Heap → Prop

def thenE (next : Env → Heap → Prop) (Q : Qt) : Qt
  | .normal => next
  | e => Q e

def inBlk (id : Nat) (Q : Qt) : Qt
  | .exit id' => fun env H => if id' = id then Q .normal env H else Q (.exit id') env H
  | e => Q e

def cwp (P : Program) : IC → Qt → Env → Heap → Prop
  | .skip, Q, env, H => Q .normal env H
  | .ops l, Q, env, H => irun P l (Q .normal) env H
  | .seq a b, Q, env, H => cwp P a (thenE (cwp P b Q) Q) env H
  | .ite c a b, Q, env, H => match c.ev env with
    | .bool t => if t then cwp P a Q env H else cwp P b Q env H
    | _ => False
  | .blk id c, Q, env, H => cwp P c (inBlk id Q) env H
  | .loop c, Q, env, H => ∀ X : Env → Heap → Prop, (∀ env H, cwp P c (thenE X Q) env H → X env H) → X env H
  | .exit id, Q, env, H => Q (.exit id) env H
  | .ret, Q, env, H => Q .ret env H
  | .bad, _, _, _ => False

theorem thenE_mono {X X' : Env → Heap → Prop} {Q Q' : Qt} (hx : ∀ env H, X env H → X' env H) (hq : ∀ e env H, Q e env H → Q' e env H) : ∀ e env H, thenE X Q e env H → thenE X' Q' e env H := by
  intro e env H h
  cases e <;> first | exact hx _ _ h | exact hq _ _ _ h

theorem inBlk_mono {id : Nat} {Q Q' : Qt} (hq : ∀ e env H, Q e env H → Q' e env H) : ∀ e env H, inBlk id Q e env H → inBlk id Q' e env H := by
  intro e env H h
  cases e with
  | exit id' =>
    simp only [inBlk] at h ⊢
    split
    · rename_i e; rw [if_pos e] at h; exact hq _ _ _ h
    · rename_i e; rw [if_neg e] at h; exact hq _ _ _ h
  | _ => exact hq _ _ _ h

theorem cwp_mono {P : Program} : ∀ (c : IC) {Q Q' : Qt} {env : Env} {H : Heap}, (∀ e env H, Q e env H → Q' e env H) → cwp P c Q env H → cwp P c Q' env H
  | .skip, _, _, _, _, hq, h => hq _ _ _ h
  | .ops l, _, _, _, _, hq, h => irun_mono (fun _ _ h => hq _ _ _ h) l _ _ h
  | .seq a b, _, _, _, _, hq, h => cwp_mono a (thenE_mono (fun _ _ h => cwp_mono b hq h) hq) h
  | .ite c a b, _, _, _, _, hq, h => by
    simp only [cwp] at h ⊢
    split at h
    · split
      · rename_i e; rw [if_pos e] at h; exact cwp_mono a hq h
      · rename_i e; rw [if_neg e] at h; exact cwp_mono b hq h
    · exact h
  | .blk id c, _, _, _, _, hq, h => cwp_mono c (inBlk_mono hq) h
  | .loop c, _, _, _, _, hq, h => fun X hX => h X fun env H h' => hX env H (cwp_mono c (thenE_mono (fun _ _ h => h) hq) h')
  | .exit _, _, _, _, _, hq, h => hq _ _ _ h
  | .ret, _, _, _, _, hq, h => hq _ _ _ h
  | .bad, _, _, _, _, _, h => h

/-- one round more -/
theorem cwp_loop {P : Program} {c : IC} {Q : Qt} {env : Env} {H : Heap} (h : cwp P c (thenE (cwp P (.loop c) Q) Q) env H) : cwp P (.loop c) Q env H :=
  fun X hX => hX env H (cwp_mono c (thenE_mono (fun env H h => h X hX) fun _ _ _ h => h) h)

theorem wp_loop_lfp {P : Program} {c : Code} {Q : Exit → Act → World → Prop} {a : Act} {w : World} (h : ∀ X : Act → World → Prop, (∀ a w, c.wp P (Exit.then X Q) a w → X a w) → X a w) : (Code.loop c).wp P Q a w := by
  have key := h (fun a w => ∀ b k cs, ∃ e a' w', Q e a' w' ∧ Arrives P (lone (b.at a (.code c :: .inLoop c :: k)) cs w) b k cs e a' w') ?_
  · intro b k cs
    obtain ⟨e, a', w', hq, harr⟩ := key b k cs
    exact ⟨e, a', w', hq, .of_steps (.one step_loop) harr⟩
  · intro a w hc b k cs
    obtain ⟨e, a₁, w₁, hq, harr⟩ := hc b (.inLoop c :: k) cs
    cases e with
    | normal =>
      obtain ⟨e₂, a₂, w₂, hq₂, harr₂⟩ := hq b k cs
      exact ⟨e₂, a₂, w₂, hq₂, .of_steps (Steps.trans harr (.one step_inLoop)) harr₂⟩
    | exit id => exact ⟨_, a₁, w₁, hq, .pass (x := .inLoop c) rfl (fun _ _ => .inl (by simp)) harr⟩
    | goto l => exact ⟨_, a₁, w₁, hq, .pass (x := .inLoop c) rfl (fun _ _ => .inl (by simp)) harr⟩
    | ret => exact ⟨_, a₁, w₁, hq, .pass (x := .inLoop c) rfl (fun _ _ => .inl (by simp)) harr⟩
    | panic ch => exact ⟨_, a₁, w₁, hq, .pass (x := .inLoop c) rfl (fun _ _ => .inl (by simp)) harr⟩
    | outgrown => exact ⟨_, a₁, w₁, hq, .pass (x := .inLoop c) rfl (fun _ _ => .inl (by simp)) harr⟩

section
variable {P : Program} {n : Nat}

/-- where a walk ends, seen from its start -/
def CQ (n : Nat) (Q : Qt) (μ : Map) (H : Heap) (w : World) (e : Exit) (a' : Act) (w' : World) : Prop := Rch n (Q e) μ H w a' w'

theorem code_sound (hm : P.follows .mixedOrders = true) : ∀ (c : Code) {Q : Qt} {μ : Map} {env : Env} {H : Heap} {a : Act} {w : World}, St n μ env H a w → cwp P (cvC P n c) Q env H → c.wp P (CQ n Q μ H w) a w
  | .skip, Q, μ, env, H, a, w, st, h => wp_skip ⟨μ, env, H, st, Tr.refl _ _ _, h⟩
  | .label l, Q, μ, env, H, a, w, st, h => wp_label ⟨μ, env, H, st, Tr.refl _ _ _, h⟩
  | .region id ops draw, Q, μ, env, H, a, w, st, h => by
    simp only [cvC] at h
    split at h
    · rename_i gs hgs
      exact region_sound hm hgs st h fun a' w' h => h
    · exact h.elim
  | .seq x y, Q, μ, env, H, a, w, st, h => by
    refine wp_seq (Code.wp_mono (fun e a' w' hq => ?_) (code_sound hm x st h))
    cases e with
    | normal =>
      obtain ⟨μ', env', H', st', tr', hk⟩ := hq
      exact Code.wp_mono (fun e a'' w'' hr => Rch.trans tr' hr) (code_sound hm y st' hk)
    | _ => exact hq
  | .cond c x y, Q, μ, env, H, a, w, st, h => by
    simp only [cvC] at h
    split at h
    · rename_i o ho
      have r := cvO_sound ho st
      simp only [cwp] at h
      split at h
      · rename_i t e
        rw [e] at r
        simp only [VRel] at r
        refine wp_cond r ?_
        cases t
        · exact code_sound hm y st h
        · exact code_sound hm x st h
      · exact h.elim
    · exact h.elim
  | .block id c, Q, μ, env, H, a, w, st, h => by
    refine wp_block (Code.wp_mono (fun e a' w' hq => ?_) (code_sound hm c st h))
    cases e with
    | exit id' =>
      obtain ⟨μ', env', H', st', tr', hk⟩ := hq
      simp only [inBlk] at hk
      simp only [Exit.inBlock]
      split
      · rename_i e; rw [if_pos e] at hk; exact ⟨μ', env', H', st', tr', hk⟩
      · rename_i e; rw [if_neg e] at hk; exact ⟨μ', env', H', st', tr', hk⟩
    | _ => exact hq
  | .loop c, Q, μ, env, H, a, w, st, h => by
    refine wp_loop_lfp fun Y hY => ?_
    have key := h (fun env' H' => ∀ μ' a' w', Tr μ H w μ' H' w' → St n μ' env' H' a' w' → Y a' w') ?_
    · exact key μ a w (Tr.refl _ _ _) st
    · intro env' H' hc μ' a' w' tr' st'
      refine hY a' w' (Code.wp_mono (fun e a'' w'' hq => ?_) (code_sound hm c st' hc))
      cases e with
      | normal =>
        obtain ⟨μ2, env2, H2, st2, tr2, hk⟩ := hq
        exact hk μ2 a'' w'' (tr'.trans tr2) st2
      | _ => exact Rch.trans tr' hq
  | .exit id, Q, μ, env, H, a, w, st, h => wp_exit ⟨μ, env, H, st, Tr.refl _ _ _, h⟩
  | .ret, Q, μ, env, H, a, w, st, h => wp_ret ⟨μ, env, H, st, Tr.refl _ _ _, h⟩
  | .rangeFunc .., Q, μ, env, H, a, w, st, h => h.elim
  | .scope _, Q, μ, env, H, a, w, st, h => h.elim
  | .goto _, Q, μ, env, H, a, w, st, h => h.elim
  | .refuse _, Q, μ, env, H, a, w, st, h => h.elim

/-! ### functions -/

def env0 (args : List V) : Env := fun t => args.getD t und

/-- where results lie: (slot, none) in the slot; (slot, some (agg, sz)) in the memory that it points to -/
abbrev Res := List (Nat × Option (Bool × Nat))

def res1 (env : Env) (H : Heap) (r : Nat × Option (Bool × Nat)) : Option V :=
  match r.2 with
  | none => some (env r.1)
  | some (agg, sz) => ldV H agg sz (env r.1)

def resV (rs : Res) (env : Env) (H : Heap) : Option V :=
  match rs with
  | [r] => res1 env H r
  | rs => (mapO (res1 env H) rs).map .tup

def cvR (P : Program) (n : Nat) : ResultVar → Option (Nat × Option (Bool × Nat))
  | .tmp t => if t < n then some (t, none) else none
  | .cell a t => match szT P t with
    | some (sz, _) => if a < n then some (a, some (aggT P t, sz)) else none
    | none => none

/-- a function as the abstract machine has it -/
structure AF where
  n : Nat
  res : Res
  body : IC

def cvF (P : Program) (f : FuncId) : Option AF :=
  match P.funcs[f]? with
  | some fn => match fn.body, mapO (cvR P fn.ntmps) fn.results.toList with
    | some c, some rs => if fn.name != "runtime.NumGoroutine" && decide (fn.params.size + fn.nfree ≤ fn.ntmps) then some ⟨fn.ntmps, rs, cvC P fn.ntmps c⟩ else none
    | _, _ => none
  | none => none

/-- what a body has to come to -/
def fin (rs : Res) (R : V → Heap → Prop) : Qt
  | .normal, env, H | .ret, env, H => ∃ v H', resV rs env H = some v ∧ Heap.sub H' H ∧ R v H'
  | _, _, _ => False

def oneRes (tmps : Array Value) : ResultVar → Sem Value
  | .tmp t => pure (tmps.getD t undef)
  | .cell p t => do loadVar t (← asAddr (tmps.getD p undef))

theorem results_eq (fn : Func) (tmps : Array Value) : results fn tmps = (do
    let vs ← fn.results.mapM (oneRes tmps)
    pure (if h : vs.size = 1 then vs[0] else .tuple vs) : Sem Value) := by
  unfold results
  congr 1

theorem run_res1 {rv : ResultVar} {r : Nat × Option (Bool × Nat)} (hr : cvR P n rv = some r) {μ env H a w} (st : St n μ env H a w) {v : V} (hv : res1 env H r = some v) :
    ∃ x, (oneRes a.tmps rv).run P w = .ok x w ∧ VRel μ v x := by
  cases rv with
  | tmp t =>
    simp only [cvR] at hr
    split at hr
    · rename_i hlt
      obtain rfl := Option.some.inj hr
      simp only [res1, Option.some.injEq] at hv
      subst hv
      exact ⟨_, rfl, st.tmps t hlt⟩
    · cases hr
  | cell p t =>
    simp only [cvR] at hr
    split at hr
    · rename_i sz b hs
      split at hr
      · rename_i hlt
        obtain rfl := Option.some.inj hr
        simp only [res1] at hv
        have rp := st.tmps p hlt
        obtain ⟨y, hy, ry⟩ := run_loadVar_ld hs st.sim rp hv
        refine ⟨y, ?_, ry⟩
        cases he : env p <;> rw [he] at hv rp <;> simp only [ldV] at hv <;> try cases hv
        simp only [VRel] at rp
        obtain ⟨l, hl, e⟩ := rp
        rw [e] at hy
        simp only [oneRes, e]
        simpa [Instr.loadAt, Instr.sureAddr, asAddr] using hy
      · cases hr
    · cases hr

theorem run_res {fn : Func} {rs : Res} : ∀ (l : List ResultVar) (rs : Res), mapO (cvR P n) l = some rs → ∀ {μ env H a w}, St n μ env H a w → ∀ {vs : List V}, mapO (res1 env H) rs = some vs →
    ∃ xs, (l.mapM (oneRes a.tmps)).run P w = .ok xs w ∧ VRels μ vs xs
  | [], rs, h, μ, env, H, a, w, st, vs, hv => by
    simp only [mapO, Option.some.injEq] at h
    subst h
    simp only [mapO, Option.some.injEq] at hv
    subst hv
    exact ⟨[], rfl, by simp [VRels]⟩
  | rv :: l, rs, h, μ, env, H, a, w, st, vs, hv => by
    simp only [mapO] at h
    split at h
    · cases h
    · rename_i r hr
      split at h
      · cases h
      · rename_i rs' hrs
        obtain rfl := Option.some.inj h
        simp only [mapO] at hv
        split at hv
        · cases hv
        · rename_i v hv1
          split at hv
          · cases hv
          · rename_i vs' hvs
            obtain rfl := Option.some.inj hv
            obtain ⟨x, hx, rx⟩ := run_res1 hr st hv1
            obtain ⟨xs, hxs, rxs⟩ := run_res (fn := fn) (rs := rs') l rs' hrs st hvs
            refine ⟨x :: xs, ?_, by simp only [VRels]; exact ⟨x, xs, rfl, rx, rxs⟩⟩
            rw [List.mapM_cons]
            simp only [Sem.run_bind, hx, Result.andThen_ok, hxs, Sem.run_pure]

/-- THE CONTRACT OF A FUNCTION, FROM ITS BODY -/
theorem ACalls.of_body (hm : P.follows .mixedOrders = true) {f : FuncId} {F : AF} (hf : cvF P f = some F) {args : List V} (hn : args.length ≤ F.n) {H : Heap} {R : V → Heap → Prop} (h : cwp P F.body (fin F.res R) (env0 args) H) : ACalls P f args H R := by
  unfold cvF at hf
  split at hf
  · rename_i fn hfn
    split at hf
    · rename_i c rs hb hrs
      split at hf
      · rename_i hc
        obtain rfl := Option.some.inj hf
        simp only [Bool.and_eq_true, bne_iff_ne, ne_eq, decide_eq_true_eq] at hc
        refine ⟨by simp [okFn, hfn, hb, hc.1], fun μ w cargs hs hv => ?_⟩
        simp only at hn h
        have hlen := hv.length
        have hsz : cargs.size ≤ fn.ntmps := by simp at hlen; omega
        have st : St fn.ntmps μ (env0 args) H { tmps := cargs ++ Array.replicate (fn.ntmps - cargs.size) undef, defers := [] } w := by
          refine ⟨by simp; omega, fun t ht => ?_, rfl, hs⟩
          simp only [env0]
          by_cases hlt : t < args.length
          · obtain ⟨x, hx, rx⟩ := hv.get t args[t] (List.getElem?_eq_getElem hlt)
            have hlt' : t < cargs.size := by simp at hlen; omega
            have e : (cargs ++ Array.replicate (fn.ntmps - cargs.size) undef).getD t undef = x := by
              have hx' : cargs[t]? = some x := by simpa using hx
              rw [Array.getD_eq_getD_getElem?, Array.getElem?_append_left hlt', hx']; rfl
            rw [e]
            simpa [List.getD, List.getElem?_eq_getElem hlt] using rx
          · have e : (cargs ++ Array.replicate (fn.ntmps - cargs.size) undef).getD t undef = undef := by
              have hlt' : cargs.size ≤ t := by simp at hlen; omega
              rw [Array.getD_eq_getD_getElem?, Array.getElem?_append_right hlt']
              by_cases h2 : t - cargs.size < fn.ntmps - cargs.size
              · simp [h2]
              · simp [h2]
            rw [e]
            simp only [List.getD, List.getElem?_eq_none (Nat.le_of_not_lt hlt), Option.getD_none]
            simp [und, undef, VRel, VRels]
        have done : ∀ e a' w', (e = .normal ∨ e = .ret) → CQ fn.ntmps (fin rs R) μ H w e a' w' →
            a'.defers = [] ∧ ∃ v, (results fn a'.tmps).run P w' = .ok v w' ∧ ∃ μ' cv v' H', Ending.returned v = .returned cv ∧ Tr μ H w μ' H' w' ∧ Sim μ' H' w' ∧ VRel μ' v' cv ∧ R v' H' := by
          intro e a' w' he hq
          obtain ⟨μ', env', H', st', tr', hk⟩ := hq
          have hk' : ∃ v H'', resV rs env' H' = some v ∧ Heap.sub H'' H' ∧ R v H'' := by rcases he with rfl | rfl <;> exact hk
          obtain ⟨v, H'', hv', hsub, hR⟩ := hk'
          refine ⟨st'.defers, ?_⟩
          have hmv : ∀ xs, (fn.results.toList.mapM (oneRes a'.tmps)).run P w' = .ok xs w' →
              (results fn a'.tmps).run P w' = .ok (if h : xs.toArray.size = 1 then xs.toArray[0] else .tuple xs.toArray) w' := by
            intro xs hx
            rw [results_eq]
            simp only [Sem.run_bind, Array.mapM_eq_mapM_toList, Sem.run_map, hx, Result.andThen_ok, Sem.run_pure]
          have hone : ∀ r, rs = [r] → ∃ x, (results fn a'.tmps).run P w' = .ok x w' ∧ VRel μ' v x := by
            intro r hr
            subst hr
            have hv2 : mapO (res1 env' H') [r] = some [v] := by
              simp only [resV] at hv'
              simp [mapO, hv']
            obtain ⟨xs, hxs, rxs⟩ := run_res (fn := fn) (rs := [r]) _ _ hrs st' hv2
            simp only [VRels] at rxs
            obtain ⟨x, t, rfl, rx, ht⟩ := rxs
            subst ht
            exact ⟨x, hmv _ hxs, rx⟩
          have hmany : (∀ r, rs ≠ [r]) → ∃ x, (results fn a'.tmps).run P w' = .ok x w' ∧ VRel μ' v x := by
            intro hne
            have hv2 : ∃ vs, mapO (res1 env' H') rs = some vs ∧ v = .tup vs := by
              unfold resV at hv'
              split at hv'
              · rename_i r; exact absurd rfl (hne r)
              · obtain ⟨vs, h1, h2⟩ := Option.map_eq_some_iff.1 hv'
                exact ⟨vs, h1, h2.symm⟩
            obtain ⟨vs, hvs, rfl⟩ := hv2
            obtain ⟨xs, hxs, rxs⟩ := run_res (fn := fn) (rs := rs) _ _ hrs st' hvs
            refine ⟨_, hmv _ hxs, ?_⟩
            have hl1 := rxs.length
            have hl2 := (mapO_some hvs).1
            rw [dif_neg]
            · simp only [VRel]
              exact ⟨_, rfl, by simpa using rxs⟩
            · intro h1
              have : rs.length = 1 := by simp at h1; omega
              obtain ⟨r, hr⟩ := List.length_eq_one_iff.1 this
              exact hne r hr
          have hx : ∃ x, (results fn a'.tmps).run P w' = .ok x w' ∧ VRel μ' v x := by
            by_cases h1 : ∃ r, rs = [r]
            · obtain ⟨r, hr⟩ := h1; exact hone r hr
            · exact hmany fun r hr => h1 ⟨r, hr⟩
          obtain ⟨x, hx, rx⟩ := hx
          exact ⟨x, hx, μ', x, v, H'', rfl, tr'.sub hsub, st'.sim.sub hsub, rx, hR⟩
        refine calls_of_wp hfn hb (Code.wp_mono (fun e a' w' hq => ?_) (code_sound hm c st h))
        cases e with
        | normal => exact done _ _ _ (.inl rfl) hq
        | ret => exact done _ _ _ (.inr rfl) hq
        | exit id => obtain ⟨_, _, _, _, _, hk⟩ := hq; exact hk.elim
        | goto l => obtain ⟨_, _, _, _, _, hk⟩ := hq; exact hk.elim
        | panic ch => obtain ⟨_, _, _, _, _, hk⟩ := hq; exact hk.elim
        | outgrown => obtain ⟨_, _, _, _, _, hk⟩ := hq; exact hk.elim
      · cases hf
    · cases hf
  · cases hf

end
end Go.AM
