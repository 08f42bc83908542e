/- From a region of the program to a row of instructions, in whatever order the region may run. Conditions: as stated. -/
import Derived.Test.YtopeeknimehmcaaB2
import Derived.Eval
set_option linter.unusedVariables false
set_option linter.unusedSimpArgs false
namespace Go.AM
open Go

def cvGuard (n : Nat) (ops : Array Oper) : Option (Nat × Bool) → Option (Option (Nat × Bool))
  | none => some none
  | some (j, want) => match ops[j]? with
    | some o => match o.dst with
      | some t => if t < n then some (some (t, want)) else none
      | none => none
    | none => none

def cvDst (n : Nat) : Option Nat → Bool
  | none => true
  | some d => decide (d < n)

/-- an operation as an instruction; what is not known becomes 'bad' -/
def cvG (P : Program) (n : Nat) (ops : Array Oper) (p : Bool) (o : Oper) : Option GI :=
  match cvGuard n ops o.guard with
  | some g => if cvDst n o.dst then
      match cvI P n ops o.op with
      | some i => some ⟨g, p && i.kind == 2, o.dst, i⟩
      | none => some ⟨g, false, o.dst, .bad⟩
    else none
  | none => none

theorem cvGuard_sound {P : Program} {n : Nat} {ops : Array Oper} {o : Oper} {g : Option (Nat × Bool)} (h : cvGuard n ops o.guard = some g) {μ env H a w} (st : St n μ env H a w) :
    Region.wanted o (yielded ops a.tmps) = gok g env := by
  unfold cvGuard at h
  unfold Region.wanted
  split at h
  · rename_i e; rw [e]; obtain rfl := Option.some.inj h; rfl
  · rename_i j want e
    rw [e]
    split at h
    · rename_i o' ho
      split at h
      · rename_i t ht
        split at h
        · rename_i hlt
          obtain rfl := Option.some.inj h
          have hr := st.tmps t hlt
          have hsz : t < a.tmps.size := by rw [st.size]; exact hlt
          simp only [gok, yielded, ho, Option.bind_some, ht]
          have hx : a.tmps[t]? = some a.tmps[t] := Array.getElem?_eq_getElem hsz
          have hd : a.tmps.getD t undef = a.tmps[t] := by simp [hsz]
          rw [hd] at hr
          rw [hx]
          cases he : env t <;> rw [he] at hr <;> simp only [VRel] at hr
          case bool b => rw [hr]; simp
          case ptr => obtain ⟨l, _, e⟩ := hr; rw [e]; simp
          case sl => obtain ⟨l, _, _, _, e, _⟩ := hr; rw [e]; simp
          case fn => obtain ⟨_, e, _⟩ := hr; rw [e]; simp
          case ifc => obtain ⟨_, e, _⟩ := hr; rw [e]; simp
          case agg => obtain ⟨_, e, _⟩ := hr; rw [e]; simp
          case tup => obtain ⟨_, e, _⟩ := hr; rw [e]; simp
          all_goals (rw [hr]; simp)
        · cases h
      · cases h
    · cases h

/-- where a walk may come to, seen from its start -/
def Rch (n : Nat) (K : Env → Heap → Prop) (μ : Map) (H : Heap) (w : World) (a' : Act) (w' : World) : Prop :=
  ∃ μ' env' H', St n μ' env' H' a' w' ∧ Tr μ H w μ' H' w' ∧ K env' H'

theorem Rch.trans {n K μ H w μ1 H1 w1 a' w'} (tr : Tr μ H w μ1 H1 w1) (h : Rch n K μ1 H1 w1 a' w') : Rch n K μ H w a' w' := by
  obtain ⟨μ', env', H', st, tr', hk⟩ := h
  exact ⟨μ', env', H', st, tr.trans tr', hk⟩

theorem Rch.mono {n K K' μ H w a' w'} (h : Rch n K μ H w a' w') (hk : ∀ env H, K env H → K' env H) : Rch n K' μ H w a' w' := by
  obtain ⟨μ', env', H', st, tr, h⟩ := h
  exact ⟨μ', env', H', st, tr, hk _ _ h⟩

section
variable {P : Program} {n : Nat} {ops : Array Oper}

theorem op_sound {Q : Exit → Act → World → Prop} {p : Bool} {o : Oper} {gi : GI} {i : Nat} (hi : ops[i]? = some o) (hg : cvG P n ops p o = some gi) {μ env H a w} (st : St n μ env H a w) {K : Env → Heap → Prop}
    (h : istep P gi K env H) {KK : Act → World → Prop} (hk : ∀ a' w', Rch n K μ H w a' w' → KK a' w') : wpOp P ops Q i KK a w := by
  unfold cvG at hg
  split at hg
  · rename_i g hgd
    split at hg
    · have hw := cvGuard_sound (P := P) hgd st
      unfold wpOp
      rw [hi]
      simp only
      unfold istep sE at h
      have hgi : gi.g = g ∧ gi.d = o.dst := by
        split at hg <;> (obtain rfl := Option.some.inj hg; exact ⟨rfl, rfl⟩)
      rw [hgi.1, hgi.2] at h
      rw [hw]
      by_cases hok : gok g env = true
      · rw [if_pos hok] at h ⊢
        left
        split at hg
        · rename_i ii hii
          obtain rfl := Option.some.inj hg
          have h' : iwp P ii (fun v H' => K (env.put o.dst v) H') env H := by
            split at h
            · exact iwp_mono h fun v H' h => h.2
            · exact h
          refine Oper.wp_mono (K := Post μ H w a o (fun v H' => K (env.put o.dst v) H')) (fun a' w' ⟨μ', v, x, H', tr, sm, rv, e, hK⟩ => ?_) (i_sound hii st h')
          subst e
          exact hk _ _ ⟨μ', env.put o.dst v, H', (st.mono tr.le sm).put rv, tr, hK⟩
        · obtain rfl := Option.some.inj hg
          simp only [Bool.false_eq_true, if_false, iwp, pv] at h
      · rw [if_neg hok] at h ⊢
        exact hk _ _ ⟨μ, env.put o.dst und, H, st.put (by simp [und, undef, VRel, VRels]), Tr.refl _ _ _, h⟩
    · cases hg
  · cases hg

theorem ops_sound {Q : Exit → Act → World → Prop} {p : Bool} {K : Env → Heap → Prop} {μ0 : Map} {H0 : Heap} {w0 : World} (hQ : ∀ a' w', Rch n K μ0 H0 w0 a' w' → Q .normal a' w') :
    ∀ (l : List Nat) (gs : List GI), mapO (fun i => (ops[i]?).bind (cvG P n ops p)) l = some gs → ∀ μ env H a w, Tr μ0 H0 w0 μ H w → St n μ env H a w → irun P gs K env H → wpOps P ops Q l a w
  | [], gs, h, μ, env, H, a, w, tr, st, hr => by
    simp only [mapO, Option.some.injEq] at h
    subst h
    exact hQ _ _ ⟨μ, env, H, st, tr, hr⟩
  | i :: l, gs, h, μ, env, H, a, w, tr, st, hr => by
    simp only [mapO] at h
    split at h
    · cases h
    · rename_i gi hgi
      split at h
      · cases h
      · rename_i gs' hgs
        obtain rfl := Option.some.inj h
        obtain ⟨o, ho, hg⟩ := Option.bind_eq_some_iff.1 hgi
        rw [wpOps_cons]
        refine op_sound ho hg st hr fun a' w' ⟨μ', env', H', st', tr', hk⟩ => ?_
        exact ops_sound hQ l gs' hgs μ' env' H' a' w' (tr.trans tr') st' hk

/-! ### regions that draw their order -/

/-- b comes behind a by the edges (looked at to a depth) -/
def behind (ops : Array Oper) : Nat → Nat → Nat → Bool
  | 0, _, _ => false
  | f + 1, a, b => match ops[b]? with
    | some o => o.after.toList.any fun e => Region.binds .any e && (e.on == a || behind ops f a e.on)
    | none => false

/-- what has been listed is closed under what comes before -/
def Closed (ops : Array Oper) (listed : Array Bool) : Prop :=
  ∀ j, listed.getD j false = true → ∀ o, ops[j]? = some o → ∀ e ∈ o.after, Region.binds .any e = true → listed.getD e.on false = true

theorem behind_listed {listed : Array Bool} (hc : Closed ops listed) : ∀ (f a b : Nat), listed.getD b false = true → behind ops f a b = true → listed.getD a false = true
  | 0, a, b, _, h => by simp [behind] at h
  | f + 1, a, b, hb, h => by
    simp only [behind] at h
    split at h
    · rename_i o ho
      obtain ⟨e, he, h⟩ := List.any_eq_true.1 h
      simp only [Bool.and_eq_true, Bool.or_eq_true, beq_iff_eq] at h
      have hl := hc b hb o ho e (by simpa using he) h.1
      rcases h.2 with h2 | h2
      · rw [← h2]; exact hl
      · exact behind_listed hc f a e.on hl h2
    · cases h

theorem behind_ready {listed : Array Bool} (hc : Closed ops listed) {f a b : Nat} (hb : b ∈ Region.ready .any ops listed) (h : behind ops f a b = true) : listed.getD a false = true := by
  obtain ⟨_, o, ho, hall⟩ := mem_ready.1 hb
  cases f with
  | zero => simp [behind] at h
  | succ f =>
    simp only [behind, ho] at h
    obtain ⟨e, he, h⟩ := List.any_eq_true.1 h
    simp only [Bool.and_eq_true, Bool.or_eq_true, beq_iff_eq] at h
    have hl := hall e (by simpa using he) h.1
    rcases h.2 with h2 | h2
    · rw [← h2]; exact hl
    · exact behind_listed hc f a e.on hl h2

/-- each pair in this row: ordered by the edges, or free to change places -/
def okRow (ops : Array Oper) (f : Nat) : List (Nat × GI) → Bool
  | [] => true
  | (a, ga) :: r => r.all (fun x => swapOk ga x.2 || behind ops f a x.1) && okRow ops f r

theorem okRow_mem {f : Nat} : ∀ {A B : List (Nat × GI)} {x : Nat × GI}, okRow ops f (A ++ x :: B) = true → (∀ y ∈ A, swapOk y.2 x.2 = true ∨ behind ops f y.1 x.1 = true) ∧ okRow ops f (A ++ B) = true
  | [], B, x, h => by
    simp only [List.nil_append, okRow, Bool.and_eq_true] at h
    exact ⟨by simp, h.2⟩
  | (a, ga) :: A, B, x, h => by
    simp only [List.cons_append, okRow, Bool.and_eq_true] at h
    obtain ⟨h1, h2⟩ := h
    rw [List.all_eq_true] at h1
    obtain ⟨h3, h4⟩ := okRow_mem h2
    refine ⟨fun y hy => ?_, ?_⟩
    · rcases List.mem_cons.1 hy with rfl | hy
      · have := h1 x (by simp)
        simpa using this
      · exact h3 y hy
    · simp only [List.cons_append, okRow, Bool.and_eq_true]
      refine ⟨List.all_eq_true.2 fun y hy => h1 y ?_, h4⟩
      rcases List.mem_append.1 hy with hy | hy
      · exact List.mem_append_left _ hy
      · exact List.mem_append_right _ (List.mem_cons_of_mem _ hy)

theorem front {K : Env → Heap → Prop} {x : GI} : ∀ (A B : List GI) (env : Env) (H : Heap), (∀ y ∈ A, swapOk y x = true) → (x.i.kind = 3 → gok x.g env = true → ∃ f c, made x.i env = some (f, c)) →
    irun P (A ++ x :: B) K env H → istep P x (irun P (A ++ B) K) env H
  | [], B, env, H, _, _, h => h
  | y :: A, B, env, H, hA, hm, h => by
    have hy := hA y (by simp)
    have hi : indep y x = true := by
      unfold swapOk at hy; rw [Bool.and_eq_true] at hy; exact hy.1
    obtain ⟨i1, _, _⟩ := indep_spec hi
    refine swap hy hm (sE_mono (show sE P y (fun v H' => irun P (A ++ x :: B) K (env.put y.d v) H') env H from h) fun v H' h' => ?_)
    have ag := put_agree i1 env v
    refine front A B _ H' (fun z hz => hA z (by simp [hz])) (fun hk hg => ?_) h'
    rw [gok_agree ag.right] at hg
    obtain ⟨f, c, e⟩ := hm hk hg
    exact ⟨f, c, by rw [made_agree ag.left]; exact e⟩

theorem wpOp_inh {i : Nat} {KK : Act → World → Prop} {a : Act} {w : World} (h : wpOp P ops (fun _ _ _ => False) i KK a w) : ∃ a' w', KK a' w' := by
  unfold wpOp at h
  split at h
  · exact ⟨_, _, h⟩
  · rename_i o ho
    split at h
    · rcases h with h | ⟨_, _, _, h⟩
      · unfold Oper.wp at h
        generalize (execOp a.eval o).run P w = r at h
        cases r with
        | ok n w' =>
          cases n <;> simp only [Oper.upon] at h <;> first
            | exact ⟨_, _, h⟩
            | exact h.elim
            | skip
          · obtain ⟨e, w'', fr, hr, _⟩ := h []
            cases e with
            | returned v => exact ⟨_, _, hr⟩
            | panicked c => exact hr.elim
            | outgrown => obtain ⟨_, _, hr⟩ := hr; exact hr.elim
          · obtain ⟨v, w'', hr, _⟩ := h default []
            exact ⟨_, _, hr⟩
        | halt x w' => cases x <;> simp only [Oper.upon] at h
      · exact h.elim
    · exact ⟨_, _, h⟩

/-- a numbered instruction, told something besides -/
def FromOp (P : Program) (n : Nat) (ops : Array Oper) (p : Bool) (x : Nat × GI) : Prop := ∃ o, ops[x.1]? = some o ∧ cvG P n ops p o = some x.2.strip

/-- what stands further on in the row can be made -/
theorem makeable {p : Bool} {K : Env → Heap → Prop} {x : GI} : ∀ (A : List (Nat × GI)) (B : List GI) (μ : Map) (env : Env) (H : Heap) (a : Act) (w : World), (∀ y ∈ A, FromOp P n ops p y) →
    (∀ y ∈ A, swapOk y.2 x = true) → St n μ env H a w → irun P (A.map (·.2) ++ x :: B) K env H → x.i.kind = 3 → gok x.g env = true → ∃ f c, made x.i env = some (f, c)
  | [], B, μ, env, H, a, w, hL, hA, st, h, hk, hg => by
    have h : istep P x (irun P B K) env H := h
    unfold istep at h
    rw [sE_made hk hg] at h
    obtain ⟨f, c, e, _⟩ := h
    exact ⟨f, c, e⟩
  | y :: A, B, μ, env, H, a, w, hL, hA, st, h, hk, hg => by
    obtain ⟨o, ho, hgo⟩ := hL y (by simp)
    have hsw := hA y (by simp)
    have hi : indep y.2 x = true := by
      unfold swapOk at hsw; rw [Bool.and_eq_true] at hsw; exact hsw.1
    obtain ⟨i1, _, _⟩ := indep_spec hi
    have h2 : istep P y.2 (fun env' H' => (∀ t ∈ x.slots, env' t = env t) ∧ irun P (A.map (·.2) ++ x :: B) K env' H') env H :=
      sE_mono (show sE P y.2 (fun v H' => irun P (A.map (·.2) ++ x :: B) K (env.put y.2.d v) H') env H from h) fun v H' h' => ⟨put_agree i1 env v, h'⟩
    have hw := op_sound (P := P) (Q := fun _ _ _ => False) ho hgo st (istep_strip h2) (KK := Rch n _ μ H w) fun a' w' h => h
    obtain ⟨a', w', μ', env', H', st', tr', hag, h'⟩ := wpOp_inh hw
    have ag : Agree x.slots env' env := hag
    obtain ⟨f, c, e⟩ := makeable A B μ' env' H' a' w' (fun z hz => hL z (by simp [hz])) (fun z hz => hA z (by simp [hz])) st' h' hk (by rw [gok_agree ag.right]; exact hg)
    exact ⟨f, c, by rw [← made_agree ag.left]; exact e⟩

/-- every edge goes to what stands before in the text -/
def downB (ops : Array Oper) : Bool := (List.range ops.size).all fun i => match ops[i]? with
  | some o => o.after.toList.all fun e => !Region.binds .any e || decide (e.on < i)
  | none => true

theorem downB_spec (h : downB ops = true) {i : Nat} {o : Oper} (ho : ops[i]? = some o) {e : Edge} (he : e ∈ o.after) (hb : Region.binds .any e = true) : e.on < i := by
  unfold downB at h
  rw [List.all_eq_true] at h
  have := h i (List.mem_range.2 (Array.getElem?_eq_some_iff.1 ho).1)
  rw [ho] at this
  simp only [List.all_eq_true] at this
  have := this e (by simpa using he)
  rw [hb] at this
  simpa using this

theorem least_of : ∀ (l : List Nat), l ≠ [] → ∃ m ∈ l, ∀ x ∈ l, m ≤ x
  | [], h => absurd rfl h
  | [a], _ => ⟨a, by simp, by simp⟩
  | a :: b :: r, _ => by
    obtain ⟨m, hm, hle⟩ := least_of (b :: r) (by simp)
    by_cases h : a ≤ m
    · exact ⟨a, by simp, fun x hx => by
        rcases List.mem_cons.1 hx with rfl | hx
        · exact Nat.le_refl _
        · exact Nat.le_trans h (hle x hx)⟩
    · exact ⟨m, by simp [hm], fun x hx => by
        rcases List.mem_cons.1 hx with rfl | hx
        · omega
        · exact hle x hx⟩

theorem draw_sound {p : Bool} {f : Nat} (hdown : downB ops = true) {Q : Exit → Act → World → Prop} {K : Env → Heap → Prop} {μ0 : Map} {H0 : Heap} {w0 : World} (hQ : ∀ a' w', Rch n K μ0 H0 w0 a' w' → Q .normal a' w') :
    ∀ (fuel : Nat) (listed : Array Bool) (rem : List (Nat × GI)), (∀ y ∈ rem, FromOp P n ops p y) → okRow ops f rem = true → Closed ops listed → listed.size = ops.size →
      (∀ i, i < ops.size → (listed.getD i true = false ↔ i ∈ rem.map (·.1))) → (rem.map (·.1)).Nodup → rem.length ≤ fuel → ∀ μ env H a w, Tr μ0 H0 w0 μ H w → St n μ env H a w → irun P (rem.map (·.2)) K env H → wpAny P .any ops Q fuel listed a w := by
  intro fuel
  induction fuel with
  | zero =>
    intro listed rem hcv hok hc hsz hmem hnd hlen μ env H a w tr st hr
    have : rem = [] := List.length_eq_zero_iff.1 (by omega)
    subst this
    refine ⟨?_, hQ _ _ ⟨μ, env, H, st, tr, hr⟩⟩
    cases hrd : Region.ready .any ops listed with
    | nil => rfl
    | cons x xs =>
      have hx : x ∈ Region.ready .any ops listed := by rw [hrd]; simp
      obtain ⟨h1, o, ho, _⟩ := mem_ready.1 hx
      have hxl : x < ops.size := (Array.getElem?_eq_some_iff.1 ho).1
      have := (hmem x hxl).1 h1
      simp at this
  | succ fuel ih =>
    intro listed rem hcv hok hc hsz hmem hnd hlen μ env H a w tr st hr
    have hlt : ∀ i ∈ rem.map (·.1), i < ops.size := fun i hi => by
      obtain ⟨y, hy, rfl⟩ := List.mem_map.1 hi
      obtain ⟨o, ho, _⟩ := hcv y hy
      exact (Array.getElem?_eq_some_iff.1 ho).1
    refine ⟨fun hrd => ?_, fun i hi => ?_⟩
    · -- nothing is ready: nothing is left
      by_cases hre : rem.map (·.1) = []
      · have : rem = [] := by simpa using hre
        subst this
        exact hQ _ _ ⟨μ, env, H, st, tr, hr⟩
      · exfalso
        obtain ⟨m, hm, hle⟩ := least_of _ hre
        have hml := hlt m hm
        have : m ∈ Region.ready .any ops listed := by
          rw [mem_ready]
          refine ⟨(hmem m hml).2 hm, ops[m], Array.getElem?_eq_getElem hml, fun e he hb => ?_⟩
          have hd := downB_spec hdown (Array.getElem?_eq_getElem hml) he hb
          have hes : e.on < ops.size := by omega
          have hnr : e.on ∉ rem.map (·.1) := fun h => by have := hle _ h; omega
          have h1 : ¬ listed.getD e.on true = false := fun h => hnr ((hmem _ hes).1 h)
          have hs : e.on < listed.size := by omega
          simp [hs] at h1 ⊢
          exact h1
        rw [hrd] at this
        cases this
    · obtain ⟨hun, o, ho, hall⟩ := mem_ready.1 hi
      have hil : i < ops.size := (Array.getElem?_eq_some_iff.1 ho).1
      have hir := (hmem i hil).1 hun
      obtain ⟨⟨i', x⟩, hxm, rfl⟩ := List.mem_map.1 hir
      obtain ⟨A, B, rfl⟩ := List.append_of_mem hxm
      simp only at hun ho hall hil hi hir ⊢
      obtain ⟨hsw, hok'⟩ := okRow_mem hok
      have hswap : ∀ y ∈ A, swapOk y.2 x = true := by
        intro y hy
        rcases hsw y hy with h | h
        · exact h
        · exfalso
          have hal := behind_ready hc hi h
          have hAm : y.1 ∈ (A ++ (i', x) :: B).map (·.1) := List.mem_map.2 ⟨y, List.mem_append_left _ hy, rfl⟩
          have hun' := (hmem _ (hlt _ hAm)).2 hAm
          have hs : y.1 < listed.size := by rw [hsz]; exact hlt _ hAm
          simp [hs] at hal hun'
          rw [hal] at hun'; cases hun'
      obtain ⟨o', ho', hgo⟩ := hcv (i', x) hxm
      rw [List.map_append, List.map_cons] at hr
      have hr' := front (A.map (·.2)) (B.map (·.2)) env H (fun y hy => by obtain ⟨z, hz, rfl⟩ := List.mem_map.1 hy; exact hswap z hz)
        (makeable (P := P) (ops := ops) (p := p) A (B.map (·.2)) μ env H a w (fun y hy => hcv y (List.mem_append_left _ hy)) hswap st hr) hr
      refine op_sound ho' hgo st (istep_strip hr') fun a' w' ⟨μ', env', H', st', tr', hr2⟩ => ?_
      have hsi : i' < listed.size := by rw [hsz]; exact hil
      have hsub : ∀ y ∈ A ++ B, y ∈ A ++ (i', x) :: B := fun y hy => by
        rcases List.mem_append.1 hy with h | h
        · exact List.mem_append_left _ h
        · exact List.mem_append_right _ (List.mem_cons_of_mem _ h)
      rw [List.map_append, List.map_cons] at hnd
      rw [← List.map_append] at hr2
      refine ih (listed.setIfInBounds i' true) (A ++ B) (fun y hy => hcv y (hsub y hy)) hok' ?_ (by simpa using hsz) ?_ ?_ ?_ μ' env' H' a' w' (tr.trans tr') st' hr2
      · intro j hj o2 ho2 e he hb
        by_cases hji : i' = j
        · subst hji
          rw [ho] at ho2
          obtain rfl := Option.some.inj ho2
          exact getD_set_true (hall e he hb)
        · rw [getD_set_ne false hji] at hj
          exact getD_set_true (hc j hj o2 ho2 e he hb)
      · intro j hj
        rw [List.map_append]
        have hnd' := hnd
        rw [List.nodup_append] at hnd'
        by_cases hji : i' = j
        · subst hji
          have : (listed.setIfInBounds i' true).getD i' true = true := by simp
          rw [this]
          constructor
          · intro h; cases h
          · intro h
            exfalso
            have h3 := hnd'.2.1
            rw [List.nodup_cons] at h3
            rcases List.mem_append.1 h with h | h
            · exact hnd'.2.2 i' h i' (by simp) rfl
            · exact h3.1 h
        · rw [getD_set_ne true hji, hmem j hj, List.map_append, List.map_cons, List.mem_append, List.mem_append, List.mem_cons]
          simp [Ne.symm hji]
      · rw [List.map_append]
        rw [List.nodup_append] at hnd ⊢
        refine ⟨hnd.1, (List.nodup_cons.1 hnd.2.1).2, fun a ha b hb => hnd.2.2 a ha b (by simp [hb])⟩
      · simp at hlen ⊢; omega

/-- which operations may run next, the quiet ones first -/
def nextOf (P : Program) (n : Nat) (ops : Array Oper) (done : List Nat) (k : Nat) : List Nat → Option Nat
  | [] => none
  | i :: r => match ops[i]? with
    | some o => if ((cvI P n ops o.op).getD .bad).kind == k && o.after.toList.all (fun e => !Region.binds .any e || done.contains e.on) then some i else nextOf P n ops done k r
    | none => nextOf P n ops done k r

def greedy (P : Program) (n : Nat) (ops : Array Oper) (ks : List Nat) : Nat → List Nat → List Nat → List Nat
  | 0, _, rem => rem
  | f + 1, done, rem =>
    match ks.findSome? fun k => nextOf P n ops done k rem with
    | some i => i :: greedy P n ops ks f (i :: done) (rem.erase i)
    | none => rem

def nodupB : List Nat → Bool
  | [] => true
  | a :: r => !r.contains a && nodupB r

theorem nodupB_spec : ∀ {l : List Nat}, nodupB l = true → l.Nodup
  | [], _ => List.nodup_nil
  | a :: r, h => by
    simp only [nodupB, Bool.and_eq_true, Bool.not_eq_true'] at h
    rw [List.nodup_cons]
    exact ⟨by simpa using h.1, nodupB_spec h.2⟩

theorem nodup_len : ∀ (n : Nat) (L : List Nat), L.Nodup → (∀ i ∈ L, i < n) → L.length ≤ n
  | 0, L, _, h => by
    cases L with
    | nil => simp
    | cons a r => exact absurd (h a (by simp)) (by omega)
  | n + 1, L, hnd, h => by
    by_cases hn : n ∈ L
    · have := nodup_len n (L.erase n) (hnd.erase n) fun i hi => by
        rw [hnd.mem_erase_iff] at hi
        have := h i hi.2
        omega
      rw [List.length_erase_of_mem hn] at this
      omega
    · have := nodup_len n L hnd fun i hi => by
        have h1 := h i hi
        have : i ≠ n := fun e => hn (e ▸ hi)
        omega
      omega

def rowOf (P : Program) (n : Nat) (ops : Array Oper) (p : Bool) (L : List Nat) : Option (List GI) := mapO (fun i => (ops[i]?).bind (cvG P n ops p)) L

/-- the slot from which an address comes, through the moves, fields and indexes of the region -/
def rootOf (gs : List (Nat × GI)) : Nat → Nat → Option Nat
  | 0, _ => none
  | f + 1, t => match gs.find? (fun x => x.2.d == some t) with
    | none => some t
    | some x => match x.2.i with
      | .mov (.s u) => rootOf gs f u
      | .fa _ (.s u) => rootOf gs f u
      | _ => none

def addrOf : I → Option Nat
  | .ld _ _ (.s t) _ => some t
  | _ => none

def isMut : I → Bool
  | .st .. => true
  | .app .. => true
  | _ => false

/-- tells loads and writes to lie apart where the edges do not order them -/
def tell (ops : Array Oper) (gs : List (Nat × GI)) : List (Nat × GI) :=
  gs.map fun x =>
    let loose (y z : Nat × GI) : Bool := !behind ops ops.size y.1 z.1 && !behind ops ops.size z.1 y.1
    match x.2.i with
    | .ld agg sz a none => match (addrOf x.2.i).bind (rootOf gs gs.length) with
      | some r => if gs.any (fun z => isMut z.2.i && loose x z) then (x.1, { x.2 with i := .ld agg sz a (some r) }) else x
      | none => x
    | .st sz a v [] => (x.1, { x.2 with i := .st sz a v (gs.filterMap fun z => if loose z x then (addrOf z.2.i).bind (rootOf gs gs.length) else none) })
    | .app sz b s v [] => (x.1, { x.2 with i := .app sz b s v (gs.filterMap fun z => if loose z x then (addrOf z.2.i).bind (rootOf gs gs.length) else none) })
    | _ => x

theorem tell_strip {p : Bool} {gs : List (Nat × GI)} (hp : ∀ y ∈ gs, FromOp P n ops p y) (h0 : ∀ y ∈ gs, y.2.strip = y.2) : ∀ y ∈ tell ops gs, FromOp P n ops p y := by
  intro y hy
  unfold tell at hy
  obtain ⟨x, hx, rfl⟩ := List.mem_map.1 hy
  have hf := hp x hx
  have hs := h0 x hx
  obtain ⟨o, ho, hg⟩ := hf
  rw [hs] at hg
  obtain ⟨k, ⟨g, pp, d, i⟩⟩ := x
  simp only at ho hg hs ⊢
  have key : ∀ i', stripI i' = i → FromOp P n ops p (k, ⟨g, pp, d, i'⟩) := fun i' he => ⟨o, ho, by simp only [GI.strip, he]; exact hg⟩
  split
  · split
    · split
      · exact key _ rfl
      · exact key _ rfl
    · exact key _ rfl
  · exact key _ rfl
  · exact key _ rfl
  · refine key _ ?_
    simpa [GI.strip] using hs

theorem cvG_strip {p : Bool} {o : Oper} {gi : GI} (h : cvG P n ops p o = some gi) : gi.strip = gi := by
  unfold cvG at h
  split at h
  · split at h
    · split at h
      · rename_i i hi
        obtain rfl := Option.some.inj h
        have : stripI i = i := by
          cases ho : o.op <;> rw [ho] at hi <;> simp only [cvI] at hi
          case load t x => 
            split at hi
            · obtain rfl := Option.some.inj hi; rfl
            · cases hi
          case store t x y =>
            split at hi
            · obtain rfl := Option.some.inj hi; rfl
            · cases hi
          case call c =>
            unfold cvCall at hi
            repeat' (first | (cases hi; done) | (obtain rfl := Option.some.inj hi; rfl) | (unfold cvApp at hi) | (unfold cvLen at hi) | (unfold cvCpy at hi) | (unfold cvMM at hi) | split at hi)
          case binOp => unfold cvBin at hi; repeat' (first | (cases hi; done) | (obtain rfl := Option.some.inj hi; rfl) | split at hi)
          case makeFunc fn a b => cases fn <;> simp only at hi <;> repeat' (first | (cases hi; done) | (obtain rfl := Option.some.inj hi; rfl) | split at hi)
          all_goals repeat' (first | (cases hi; done) | (obtain rfl := Option.some.inj hi; rfl) | (obtain ⟨y, hy, rfl⟩ := Option.map_eq_some_iff.1 hi; rfl) | split at hi)
        simp [GI.strip, this]
      · obtain rfl := Option.some.inj h; rfl
    · cases h
  · cases h

def drawRow (P : Program) (n : Nat) (ops : Array Oper) (p : Bool) (L : List Nat) : Option (List GI) :=
  match rowOf P n ops p L with
  | some gs0 =>
    let gs := tell ops (L.zip gs0)
    if downB ops && nodupB L && L.all (fun i => decide (i < ops.size)) && (List.range ops.size).all (fun i => L.contains i) && okRow ops ops.size gs then some (gs.map (·.2)) else none
  | none => none

/-- A REGION AS A ROW OF INSTRUCTIONS -/
def cvRegion (P : Program) (n : Nat) (ops : Array Oper) (draw : Bool) : Option (List GI) :=
  if draw then
    let L := greedy P n ops [0, 1, 2, 3, 4] ops.size [] (List.range ops.size)
    (drawRow P n ops false L).or ((drawRow P n ops true L).or (drawRow P n ops true (greedy P n ops [0, 1, 2, 4, 3] ops.size [] (List.range ops.size))))
  else rowOf P n ops false (List.range ops.size)

theorem tell_fst (gs : List (Nat × GI)) : (tell ops gs).map (·.1) = gs.map (·.1) := by
  unfold tell
  rw [List.map_map]
  refine List.map_congr_left fun x hx => ?_
  simp only [Function.comp]
  split
  · split
    · split <;> rfl
    · rfl
  all_goals rfl

theorem drawRow_sound {p : Bool} {L : List Nat} {gs : List GI} (h : drawRow P n ops p L = some gs) {Q : Exit → Act → World → Prop} {K : Env → Heap → Prop} {μ : Map} {env : Env} {H : Heap} {a : Act} {w : World} (st : St n μ env H a w)
    (hr : irun P gs K env H) (hQ : ∀ a' w', Rch n K μ H w a' w' → Q .normal a' w') : wpAny P .any ops Q ops.size (Array.replicate ops.size false) a { w with drawn := w.drawn + 1 } := by
  unfold drawRow at h
  split at h
  · rename_i gs' hgs
    simp only at h
    split at h
    · rename_i hc
      obtain rfl := Option.some.inj h
      simp only [Bool.and_eq_true] at hc
      obtain ⟨⟨⟨⟨h1, h2⟩, h3⟩, h4⟩, h5⟩ := hc
      have hnd := nodupB_spec h2
      rw [List.all_eq_true] at h3 h4
      have hlt : ∀ i ∈ L, i < ops.size := fun i hi => by simpa using h3 i hi
      have hmem : ∀ i, i < ops.size → i ∈ L := fun i hi => by simpa using h4 i (List.mem_range.2 hi)
      obtain ⟨hl, hcv⟩ := mapO_some hgs
      have hfst : (tell ops (L.zip gs')).map (·.1) = L := by
        rw [tell_fst, List.map_fst_zip (by omega)]
      have hlen : (tell ops (L.zip gs')).length ≤ ops.size := by
        have : (tell ops (L.zip gs')).length = L.length := by
          have := congrArg List.length hfst
          simpa using this
        rw [this]; exact nodup_len ops.size L hnd hlt
      have hraw : ∀ y ∈ L.zip gs', cvG P n ops p (ops.getD y.1 default) = some y.2 ∧ ∃ o, ops[y.1]? = some o ∧ cvG P n ops p o = some y.2 := by
        intro y hy
        obtain ⟨k, hk⟩ := List.mem_iff_getElem?.1 hy
        rw [List.getElem?_zip_eq_some] at hk
        have := hcv k y.1 y.2 hk.1 hk.2
        obtain ⟨o, ho, hg⟩ := Option.bind_eq_some_iff.1 this
        refine ⟨?_, o, ho, hg⟩
        rw [Array.getD_eq_getD_getElem?, ho]; exact hg
      have hfrom : ∀ y ∈ tell ops (L.zip gs'), FromOp P n ops p y := tell_strip (fun y hy => by
        obtain ⟨_, o, ho, hg⟩ := hraw y hy
        exact ⟨o, ho, by rw [cvG_strip hg]; exact hg⟩) fun y hy => by
        obtain ⟨_, o, ho, hg⟩ := hraw y hy
        exact cvG_strip hg
      have sm' : Sim μ H { w with drawn := w.drawn + 1 } := st.sim.heap rfl
      have tr' : Tr μ H w μ H { w with drawn := w.drawn + 1 } := Tr.heap rfl rfl rfl rfl
      refine draw_sound (P := P) h1 hQ ops.size _ _ hfrom h5 ?_ (by simp) (fun i hi => ?_) (by rw [hfst]; exact hnd) hlen μ env H a _ tr' (st.mono (fun _ _ h => h) sm') hr
      · intro j hj
        rw [Array.getD_eq_getD_getElem?] at hj
        exfalso
        by_cases h : j < ops.size
        · simp [h] at hj
        · simp [h] at hj
      · rw [hfst]
        constructor
        · exact fun _ => hmem i hi
        · intro _; simp [hi]
    · cases h
  · cases h

theorem region_sound (hm : P.follows .mixedOrders = true) {id : Nat} {draw : Bool} {gs : List GI} (h : cvRegion P n ops draw = some gs) {Q : Exit → Act → World → Prop} {K : Env → Heap → Prop} {μ : Map} {env : Env} {H : Heap} {a : Act} {w : World}
    (st : St n μ env H a w) (hr : irun P gs K env H) (hQ : ∀ a' w', Rch n K μ H w a' w' → Q .normal a' w') : (Code.region id ops draw).wp P Q a w := by
  unfold cvRegion at h
  cases draw with
  | false =>
    simp only [Bool.false_eq_true, if_false] at h
    exact wp_region (ops_sound hQ _ gs h μ env H a w (Tr.refl _ _ _) st hr)
  | true =>
    simp only [if_true] at h
    refine wp_region_any hm ?_
    have hor : ∀ {x y : Option (List GI)}, x.or y = some gs → x = some gs ∨ y = some gs := fun {x y} h => by
      cases x with
      | some g => left; simpa using h
      | none => right; simpa using h
    rcases hor h with h | h
    · exact drawRow_sound h st hr hQ
    · rcases hor h with h | h
      · exact drawRow_sound h st hr hQ
      · exact drawRow_sound h st hr hQ
end
end Go.AM
