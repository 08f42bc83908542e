/- Instructions in a row, and when two of them may change places. Conditions: as stated. -/
import Derived.Test.YtopeeknimehmcaaB0
set_option linter.unusedVariables false
set_option linter.unusedSimpArgs false
namespace Go.AM
open Go

/-- the slots that an operand reads -/
def Opd.slots : Opd → List Nat
  | .s t => [t]
  | .c _ => []

def optSlots : Option Opd → List Nat
  | none => []
  | some x => x.slots

def I.slots : I → List Nat
  | .ld _ _ x rt => x.slots ++ (match rt with | some r => [r] | none => [])
  | .st _ a x av | .app _ _ a x av => a.slots ++ x.slots ++ av
  | .mov x | .new x | .isnil _ _ x | .un _ x | .conv _ x | .fa _ x | .fld _ _ _ x | .ext x _ | .ifc _ x | .len x | .nilchk x => x.slots
  | .pick c a b => c.slots ++ a.slots ++ b.slots
  | .zero _ | .bad => []
  | .bin _ a x | .beq _ a x | .eqs _ _ a x | .ia _ a x | .mk _ _ _ a x | .cpy _ a x | .mm _ a x => a.slots ++ x.slots
  | .sli _ x lo hi mx => x.slots ++ optSlots lo ++ optSlots hi ++ optSlots mx
  | .mkf _ xs => xs.flatMap Opd.slots
  | .agg _ ps | .bsl _ _ _ ps => ps.flatMap fun p => p.2.2.slots
  | .call f xs => f.slots ++ xs.flatMap Opd.slots
  | .inv x _ _ xs => x.slots ++ xs.flatMap Opd.slots

def Agree (l : List Nat) (env env' : Env) : Prop := ∀ t ∈ l, env t = env' t

theorem Agree.left {l l' : List Nat} {env env' : Env} (h : Agree (l ++ l') env env') : Agree l env env' := fun t ht => h t (List.mem_append_left _ ht)
theorem Agree.right {l l' : List Nat} {env env' : Env} (h : Agree (l ++ l') env env') : Agree l' env env' := fun t ht => h t (List.mem_append_right _ ht)
theorem Agree.symm {l : List Nat} {env env' : Env} (h : Agree l env env') : Agree l env' env := fun t ht => (h t ht).symm

theorem Opd.agree {x : Opd} {env env' : Env} (h : Agree x.slots env env') : x.ev env = x.ev env' := by
  cases x with
  | s t => exact h t (by simp [Opd.slots])
  | c v => rfl

theorem optAgree {x : Option Opd} {env env' : Env} (h : Agree (optSlots x) env env') : x.map (Opd.ev env) = x.map (Opd.ev env') := by
  cases x with
  | none => rfl
  | some x => simp only [Option.map_some]; rw [Opd.agree h]

theorem listAgree {xs : List Opd} {env env' : Env} (h : Agree (xs.flatMap Opd.slots) env env') : xs.map (Opd.ev env) = xs.map (Opd.ev env') :=
  List.map_congr_left fun x hx => Opd.agree fun t ht => h t (List.mem_flatMap.2 ⟨x, hx, ht⟩)

theorem partsAgree {ps : List (Nat × Nat × Opd)} {env env' : Env} (h : Agree (ps.flatMap fun p => p.2.2.slots) env env') :
    (ps.map fun p => (p.1, p.2.1, p.2.2.ev env)) = ps.map fun p => (p.1, p.2.1, p.2.2.ev env') :=
  List.map_congr_left fun p hp => by rw [Opd.agree (x := p.2.2) fun t ht => h t (List.mem_flatMap.2 ⟨p, hp, ht⟩)]

theorem pv_agree {i : I} {env env' : Env} (H : Heap) (h : Agree i.slots env env') : pv i env H = pv i env' H := by
  cases i <;> simp only [pv, I.slots] at h ⊢
  case pick c a b => rw [Opd.agree h.left.left, Opd.agree h.left.right, Opd.agree h.right]
  case ld agg sz x rt =>
    rw [Opd.agree h.left]
    cases rt with
    | none => rfl
    | some r => simp only; rw [h.right r (by simp)]
  case sli sz x lo hi mx => rw [Opd.agree h.left.left.left, optAgree h.left.left.right, optAgree h.left.right, optAgree h.right]
  case mkf f xs => rw [listAgree h]
  case agg zs ps => rw [partsAgree h]
  all_goals first
    | rfl
    | rw [Opd.agree h]
    | rw [Opd.agree h.left, Opd.agree h.right]

theorem offAll_agree {env env' : Env} {n : Nat} : ∀ {av : List Nat}, Agree av env env' → (offAll env n av ↔ offAll env' n av)
  | [], _ => Iff.rfl
  | s :: r, h => by
    simp only [offAll]
    rw [h s (by simp), offAll_agree (av := r) fun t ht => h t (by simp [ht])]

theorem iwp_agree {P : Program} {i : I} {K : V → Heap → Prop} {env env' : Env} {H : Heap} (h : Agree i.slots env env') (hi : iwp P i K env H) : iwp P i K env' H := by
  have hp := pv_agree H h
  cases i
  case new x => simp only [iwp, I.slots] at h hi ⊢; rw [← Opd.agree h]; exact hi
  case zero zs => exact hi
  case st sz a x av =>
    simp only [iwp, I.slots] at h hi ⊢
    rw [← Opd.agree h.left.left, ← Opd.agree h.left.right]
    split
    · split
      · rename_i e1 _ _ e2
        rw [e1] at hi; simp only [e2] at hi
        exact ⟨(offAll_agree h.right).1 hi.1, hi.2⟩
      · rename_i e1 _ e2
        rw [e1] at hi; simp only [e2] at hi
    · rename_i hno
      split at hi
      · rename_i n o e; exact absurd e (hno n o)
      · exact hi
  case mk sz b zs l c => simp only [iwp, I.slots] at h hi ⊢; rw [← Opd.agree h.left, ← Opd.agree h.right]; exact hi
  case bsl sz len zs ps => simp only [iwp, I.slots] at h hi ⊢; rw [← partsAgree h]; exact hi
  case app sz b s x av =>
    simp only [iwp, I.slots] at h hi ⊢
    rw [← Opd.agree h.left.left, ← Opd.agree h.left.right]
    have ho := fun n => offAll_agree (n := n) h.right
    simp only [ho] at hi
    exact hi
  case cpy sz d s => simp only [iwp, I.slots] at h hi ⊢; rw [← Opd.agree h.left, ← Opd.agree h.right]; exact hi
  case call f xs => simp only [iwp, I.slots] at h hi ⊢; rw [← Opd.agree h.left, ← listAgree h.right]; exact hi
  case inv x t f xs => simp only [iwp, I.slots] at h hi ⊢; rw [← Opd.agree h.left, ← listAgree h.right]; exact hi
  all_goals (simp only [iwp] at hi ⊢; rw [← hp]; exact hi)

/-- 0: reads no memory; 1: reads memory; 2: a call; 3: makes memory; 4: the rest -/
def I.kind : I → Nat
  | .mov _ | .pick .. | .bin .. | .beq .. | .isnil .. | .eqs .. | .un .. | .conv .. | .fa .. | .fld .. | .ia .. | .ext .. | .ifc .. | .mkf .. | .agg .. | .len _ | .mm .. | .nilchk _ => 0
  | .ld .. | .sli .. => 1
  | .call .. | .inv .. => 2
  | .new _ | .zero _ | .mk .. | .bsl .. => 3
  | .st .. | .app .. | .cpy .. | .bad => 4

theorem iwp_quiet {P : Program} {i : I} (hk : i.kind ≤ 1) {K : V → Heap → Prop} {env : Env} {H : Heap} : iwp P i K env H ↔ ∃ v, pv i env H = some v ∧ K v H := by
  have key : iwp P i K env H ↔ (match pv i env H with | some v => K v H | none => False) := by
    cases i <;> first | exact Iff.rfl | (exfalso; simp [I.kind] at hk)
  rw [key]
  cases pv i env H <;> simp

theorem pv_heap {i : I} (hk : i.kind = 0) (env : Env) (H H' : Heap) : pv i env H = pv i env H' := by
  cases i <;> first | rfl | (exfalso; simp [I.kind] at hk)

theorem pv_sub {i : I} (hk : i.kind ≤ 1) {env : Env} {H H' : Heap} (hs : Heap.sub H H') {v : V} (h : pv i env H = some v) : pv i env H' = some v := by
  by_cases h0 : i.kind = 0
  · rw [← pv_heap h0 env H H']; exact h
  · cases i <;> simp only [I.kind] at hk h0 <;> first | omega | exact absurd trivial h0 | skip
    case ld agg sz x rt =>
      have key : ∀ u, ldV H agg sz u = some v → ldV H' agg sz u = some v := by
        intro u h
        simp only [ldV] at h ⊢
        split at h
        · rename_i n o
          split at h
          · rename_i b hb
            simp only [hs _ _ hb]; exact h
          · cases h
        · cases h
      simp only [pv] at h ⊢
      split at h
      · exact key _ h
      · split at h
        · rename_i hsn; rw [if_pos hsn]; exact key _ h
        · cases h
    case sli sz x lo hi mx =>
      simp only [pv, sliV] at h ⊢
      split at h
      · exact h
      · rename_i n o len full e
        cases hb : H n with
        | none => rw [hb] at h; simp at h
        | some b => rw [hs _ _ hb]; rw [hb] at h; exact h
      · cases h

/-- what a making instruction makes -/
def made (i : I) (env : Env) : Option ((Nat → V) × Blk) :=
  match i with
  | .new x => some (fun n => .ptr n 0, ⟨true, 1, (x.ev env).cells⟩)
  | .zero zs => some (fun n => .ptr n 0, ⟨true, 1, zs⟩)
  | .mk sz bytes zs l c => match l.ev env, c.ev env with
    | .int _ len, .int _ cap => if 0 ≤ len ∧ len ≤ cap ∧ cap * bytes ≤ 281474976710656 ∧ cap ≤ 281474976710656 then
      some (fun n => .sl n 0 len.toNat (len == cap), ⟨true, sz, (List.replicate len.toNat zs).flatten⟩) else none
    | _, _ => none
  | .bsl sz len zs parts => match fillV zs (parts.map fun p => (p.1, p.2.1, p.2.2.ev env)) with
    | some cs => some (fun n => .sl n 0 len true, ⟨true, sz, cs⟩)
    | none => none
  | _ => none

theorem iwp_made {P : Program} {i : I} (hk : i.kind = 3) {K : V → Heap → Prop} {env : Env} {H : Heap} : iwp P i K env H ↔ ∃ f b, made i env = some (f, b) ∧ ∀ n, H n = none → K (f n) (H.upd n (some b)) := by
  cases i <;> simp only [I.kind] at hk <;> first | omega | skip
  case new x => exact ⟨fun h => ⟨_, _, rfl, h⟩, fun ⟨_, _, e, h⟩ => by obtain ⟨rfl, rfl⟩ := Prod.mk.inj (Option.some.inj e); exact h⟩
  case zero zs => exact ⟨fun h => ⟨_, _, rfl, h⟩, fun ⟨_, _, e, h⟩ => by obtain ⟨rfl, rfl⟩ := Prod.mk.inj (Option.some.inj e); exact h⟩
  case mk sz bytes zs l c =>
    simp only [iwp, made]
    split
    · rename_i k1 len k2 cap e1 e2
      rw [e1, e2]
      simp only
      by_cases hc : 0 ≤ len ∧ len ≤ cap ∧ cap * (bytes : Int) ≤ 281474976710656 ∧ cap ≤ 281474976710656
      · rw [if_pos hc]
        exact ⟨fun h => ⟨_, _, rfl, h.2.2.2.2⟩, fun ⟨_, _, e, h⟩ => by obtain ⟨rfl, rfl⟩ := Prod.mk.inj (Option.some.inj e); exact ⟨hc.1, hc.2.1, hc.2.2.1, hc.2.2.2, h⟩⟩
      · rw [if_neg hc]
        exact ⟨fun ⟨a, b, c, d, _⟩ => absurd ⟨a, b, c, d⟩ hc, fun ⟨_, _, e, _⟩ => by cases e⟩
    · rename_i hno
      refine ⟨False.elim, fun ⟨_, _, e, _⟩ => ?_⟩
      split at e
      · rename_i e1 e2; exact hno _ _ _ _ e1 e2
      · cases e
  case bsl sz len zs parts =>
    simp only [iwp, made]
    cases fillV zs (parts.map fun p => (p.1, p.2.1, p.2.2.ev env)) with
    | some cs => exact ⟨fun h => ⟨_, _, rfl, h⟩, fun ⟨_, _, e, h⟩ => by obtain ⟨rfl, rfl⟩ := Prod.mk.inj (Option.some.inj e); exact h⟩
    | none => exact ⟨False.elim, fun ⟨_, _, e, _⟩ => by cases e⟩

theorem made_agree {i : I} {env env' : Env} (h : Agree i.slots env env') : made i env = made i env' := by
  cases i
  case new x => simp only [made, I.slots] at h ⊢; rw [Opd.agree h]
  case mk sz b zs l c => simp only [made, I.slots] at h ⊢; rw [Opd.agree h.left, Opd.agree h.right]
  case bsl sz len zs ps => simp only [made, I.slots] at h ⊢; rw [partsAgree h]
  all_goals rfl

theorem Heap.sub_upd {H : Heap} {n : Nat} {b : Option Blk} (hn : H n = none) : Heap.sub H (H.upd n b) := fun m c hm => by
  by_cases h : m = n
  · subst h; rw [hn] at hm; cases hm
  · rw [upd_ne _ _ _ _ h]; exact hm

/-! ### the frame of a contract -/

theorem ACalls.frame {P f args H R} (h : ACalls P f args H R) {n : Nat} (hn : H n = none) (b : Blk) :
    ACalls P f args (H.upd n (some b)) (fun v H' => ∃ H1, R v H1 ∧ H1 n = none ∧ H' = H1.upd n (some b)) := by
  refine ⟨h.1, fun μ w cargs hs hv => ?_⟩
  have hsub : Heap.sub H (H.upd n (some b)) := Heap.sub_upd hn
  have hs0 := hs.sub hsub
  obtain ⟨l, hl, hbe⟩ := hs.bears n b (upd_same _ _ _)
  refine (h.2 μ w cargs hs0 hv).mono fun e w' ⟨μ', cv, v, H1, he, tr, sm, rv, hr⟩ => ?_
  have hl' : μ' n = some l := tr.le _ _ hl
  have hn1 : H1 n = none := by
    cases e1 : H1 n with
    | none => rfl
    | some c => rw [tr.fresh n hn (by rw [e1]; simp)] at hl; cases hl
  have hno : (b.own = true ∨ b.cells ≠ []) → ¬ Owns μ H l.b := by
    rintro hf ⟨m, blk, lm, hm, ho, hlm, hb⟩
    have hmn : m ≠ n := fun e => by subst e; rw [hn] at hm; cases hm
    exact hs.apart m blk n b lm l (by rw [upd_ne _ _ _ _ hmn]; exact hm) ho (upd_same _ _ _) hf hmn hlm hl hb.symm
  have hbe' : Bears μ' w' b l := hbe.keepAll tr.le fun hf => tr.frame l.b (hbe.lt hf) (hno hf)
  have hsub1 : Heap.sub H1 (H1.upd n (some b)) := Heap.sub_upd hn1
  have hget : ∀ m, m ≠ n → Heap.upd H1 n (some b) m = H1 m := fun m hm => upd_ne _ _ _ _ hm
  refine ⟨μ', cv, v, H1.upd n (some b), he, ?_, ?_, rv, H1, hr, hn1, rfl⟩
  · refine ⟨tr.le, tr.size, tr.os, tr.tape, tr.output, fun c hc ho => tr.frame c hc fun h => ho (h.sub hsub), fun c hc => ?_, fun m hm hm' => ?_, fun m c hm hc => ?_⟩
    · obtain ⟨m, blk, lm, hm, ho, hlm, hb⟩ := hc
      by_cases hmn : m = n
      · subst hmn
        rw [upd_same] at hm
        obtain rfl := Option.some.inj hm
        rw [hl'] at hlm
        obtain rfl := Option.some.inj hlm
        exact .inr ⟨m, b, l, upd_same _ _ _, ho, hl, hb⟩
      · rw [hget m hmn] at hm
        rcases tr.own c ⟨m, blk, lm, hm, ho, hlm, hb⟩ with h | h
        · exact .inl h
        · exact .inr (h.sub hsub)
    · have hmn : m ≠ n := fun e => by subst e; rw [upd_same] at hm; cases hm
      rw [upd_ne _ _ _ _ hmn] at hm
      rw [hget m hmn] at hm'
      exact tr.fresh m hm hm'
    · by_cases hmn : m = n
      · subst hmn; rw [upd_same] at hm ⊢; exact hm
      · rw [hget m hmn] at hm
        rw [upd_ne _ _ _ _ hmn]
        exact tr.kept m c hm hc
  · refine ⟨fun m blk hm => ?_, fun m blk m' blk' lm lm' hm ho hm' hf hne hlm hlm' => ?_, sm.bound⟩
    · by_cases hmn : m = n
      · subst hmn
        rw [upd_same] at hm
        obtain rfl := Option.some.inj hm
        exact ⟨l, hl', hbe'⟩
      · rw [hget m hmn] at hm; exact sm.bears m blk hm
    · by_cases hmn : m = n
      · subst hmn
        rw [upd_same] at hm
        obtain rfl := Option.some.inj hm
        rw [hl'] at hlm
        obtain rfl := Option.some.inj hlm
        rw [hget m' (Ne.symm hne)] at hm'
        have hblt : l.b < w.heap.size := hbe.lt (.inl ho)
        cases ho' : blk'.own with
        | true =>
          intro hbb
          rcases tr.own lm'.b ⟨m', blk', lm', hm', ho', hlm', rfl⟩ with h | h
          · omega
          · rw [hbb] at h; exact hno (.inl ho) h
        | false =>
          have hk := tr.kept m' blk' hm' ho'
          obtain ⟨l2, hl2, _⟩ := hs0.bears m' blk' hk
          have : μ' m' = some l2 := tr.le _ _ hl2
          rw [hlm'] at this
          obtain rfl := Option.some.inj this
          exact hs.apart m b m' blk' l lm' (upd_same _ _ _) ho (by rw [upd_ne _ _ _ _ (Ne.symm hne)]; exact hk) hf hne hl hl2
      · rw [hget m hmn] at hm
        by_cases hmn' : m' = n
        · subst hmn'
          rw [upd_same] at hm'
          obtain rfl := Option.some.inj hm'
          rw [hl'] at hlm'
          obtain rfl := Option.some.inj hlm'
          intro hbb
          rcases tr.own lm.b ⟨m, blk, lm, hm, ho, hlm, rfl⟩ with h | h
          · have := hbe.lt hf; omega
          · rw [← hbb] at h; exact hno hf h
        · rw [hget m' hmn'] at hm'
          exact sm.apart m blk m' blk' lm lm' hm ho hm' hf hne hlm hlm'

end Go.AM
