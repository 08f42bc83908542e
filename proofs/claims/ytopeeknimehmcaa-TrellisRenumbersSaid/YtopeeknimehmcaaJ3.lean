/- Rows of instructions; two that may change places. Conditions: as stated. -/
import Derived.Test.YtopeeknimehmcaaJ2
import Derived.Eval
set_option linter.unusedVariables false
set_option linter.unusedSimpArgs false
namespace Go.AM
open Go

def gok (g : Option (Nat × Bool)) (env : Env) : Bool :=
  match g with
  | none => true
  | some (t, want) => match env t with
    | .bool b => b == want
    | _ => false

/-- one instruction with its guard -/
def sE (P : Program) (gi : GI) (KK : V → Heap → Prop) (env : Env) (H : Heap) : Prop :=
  if gok gi.g env then (if gi.p then iwp P gi.i (fun v H' => Heap.sub H H' ∧ KK v H') env H else iwp P gi.i KK env H) else KK und H

def istep (P : Program) (gi : GI) (K : Env → Heap → Prop) (env : Env) (H : Heap) : Prop := sE P gi (fun v H' => K (env.put gi.d v) H') env H

def irun (P : Program) : List GI → (Env → Heap → Prop) → Env → Heap → Prop
  | [], K, env, H => K env H
  | gi :: r, K, env, H => istep P gi (irun P r K) env H

theorem sE_mono {P gi KK KK' env H} (h : sE P gi KK env H) (hk : ∀ v H', KK v H' → KK' v H') : sE P gi KK' env H := by
  unfold sE at *
  split
  · rename_i hg; rw [if_pos hg] at h
    split
    · rename_i hp; rw [if_pos hp] at h; exact iwp_mono h fun v H' ⟨a, b⟩ => ⟨a, hk _ _ b⟩
    · rename_i hp; rw [if_neg hp] at h; exact iwp_mono h hk
  · rename_i hg; rw [if_neg hg] at h; exact hk _ _ h

theorem istep_mono {P gi K K' env H} (h : istep P gi K env H) (hk : ∀ env H, K env H → K' env H) : istep P gi K' env H := sE_mono h fun _ _ h => hk _ _ h

theorem irun_mono {P K K'} (hk : ∀ env H, K env H → K' env H) : ∀ (l : List GI) (env : Env) (H : Heap), irun P l K env H → irun P l K' env H
  | [], env, H, h => hk _ _ h
  | gi :: r, env, H, h => istep_mono h fun env H h => irun_mono hk r env H h

theorem irun_append {P K} : ∀ (l l' : List GI) (env : Env) (H : Heap), irun P (l ++ l') K env H = irun P l (irun P l' K) env H
  | [], l', env, H => rfl
  | gi :: r, l', env, H => by
    show istep P gi (irun P (r ++ l') K) env H = istep P gi (irun P r (irun P l' K)) env H
    congr 1
    funext env H
    exact irun_append r l' env H

def gslots : Option (Nat × Bool) → List Nat
  | some (t, _) => [t]
  | none => []

def GI.slots (gi : GI) : List Nat := gi.i.slots ++ gslots gi.g

theorem gok_agree {g : Option (Nat × Bool)} {env env' : Env} (h : Agree (gslots g) env env') : gok g env = gok g env' := by
  cases g with
  | none => rfl
  | some p => obtain ⟨t, want⟩ := p; simp only [gok]; rw [h t (by simp [gslots])]

theorem sE_agree {P gi KK env env' H} (ha : Agree gi.slots env env') (h : sE P gi KK env H) : sE P gi KK env' H := by
  unfold sE at *
  rw [gok_agree ha.right] at h
  split
  · rename_i hg; rw [if_pos hg] at h
    split
    · rename_i hp; rw [if_pos hp] at h; exact iwp_agree ha.left h
    · rename_i hp; rw [if_neg hp] at h; exact iwp_agree ha.left h
  · rename_i hg; rw [if_neg hg] at h; exact h

theorem Heap.sub_refl (H : Heap) : Heap.sub H H := fun _ _ h => h
theorem Heap.sub_trans {H H' H'' : Heap} (h : Heap.sub H H') (k : Heap.sub H' H'') : Heap.sub H H'' := fun _ _ e => k _ _ (h _ _ e)

def fval (gi : GI) (env : Env) (H : Heap) : Option V := if gok gi.g env then pv gi.i env H else some und

theorem sE_fun {P gi KK env H} (hk : gi.i.kind ≤ 1) : sE P gi KK env H ↔ ∃ v, fval gi env H = some v ∧ KK v H := by
  unfold sE fval
  by_cases hg : gok gi.g env = true
  · rw [if_pos hg, if_pos hg]
    by_cases hp : gi.p = true
    · rw [if_pos hp, iwp_quiet hk]
      exact ⟨fun ⟨v, a, _, b⟩ => ⟨v, a, b⟩, fun ⟨v, a, b⟩ => ⟨v, a, Heap.sub_refl _, b⟩⟩
    · rw [if_neg hp, iwp_quiet hk]
  · rw [if_neg hg, if_neg hg]
    exact ⟨fun h => ⟨_, rfl, h⟩, fun ⟨v, e, h⟩ => by obtain rfl := Option.some.inj e; exact h⟩

theorem fval_agree {gi : GI} {env env' : Env} (ha : Agree gi.slots env env') (H : Heap) : fval gi env H = fval gi env' H := by
  unfold fval; rw [gok_agree ha.right, pv_agree H ha.left]

theorem fval_sub {gi : GI} (hk : gi.i.kind ≤ 1) {env : Env} {H H' : Heap} (hs : Heap.sub H H') {v : V} (h : fval gi env H = some v) : fval gi env H' = some v := by
  unfold fval at *
  split
  · rename_i hg; rw [if_pos hg] at h; exact pv_sub hk hs h
  · rename_i hg; rw [if_neg hg] at h; exact h

theorem fval_heap {gi : GI} (hk : gi.i.kind = 0) {env : Env} {H H' : Heap} : fval gi env H = fval gi env H' := by
  unfold fval; rw [pv_heap hk]

/-- what only adds to the heap -/
def GI.adds (gi : GI) : Bool := gi.i.kind ≤ 1 || gi.i.kind == 3 || (gi.i.kind == 2 && gi.p)

theorem sE_adds {P gi KK env H} (ha : gi.adds = true) (h : sE P gi KK env H) : sE P gi (fun v H' => Heap.sub H H' ∧ KK v H') env H := by
  by_cases hk : gi.i.kind ≤ 1
  · rw [sE_fun hk] at h ⊢
    obtain ⟨v, a, b⟩ := h
    exact ⟨v, a, Heap.sub_refl _, b⟩
  · unfold sE at *
    split
    · rename_i hg; rw [if_pos hg] at h
      by_cases h3 : gi.i.kind = 3
      · have : ∀ KK, iwp P gi.i KK env H → iwp P gi.i (fun v H' => Heap.sub H H' ∧ KK v H') env H := fun KK h => by
          rw [iwp_made h3] at h ⊢
          obtain ⟨f, b, e, h⟩ := h
          exact ⟨f, b, e, fun n hn => ⟨Heap.sub_upd hn, h n hn⟩⟩
        split
        · rename_i hp; rw [if_pos hp] at h
          exact iwp_mono (this _ h) fun v H' ⟨a, b, c⟩ => ⟨a, a, c⟩
        · rename_i hp; rw [if_neg hp] at h; exact this _ h
      · have hp : gi.p = true := by
          simp only [GI.adds, Bool.or_eq_true, decide_eq_true_eq, beq_iff_eq, Bool.and_eq_true] at ha
          rcases ha with (h1 | h1) | h1
          · exact absurd h1 hk
          · exact absurd h1 h3
          · exact h1.2
        rw [if_pos hp] at h ⊢
        exact iwp_mono h fun v H' ⟨a, b⟩ => ⟨a, a, b⟩
    · rename_i hg; rw [if_neg hg] at h; exact ⟨Heap.sub_refl _, h⟩

theorem sE_made {P gi KK env H} (hk : gi.i.kind = 3) (hg : gok gi.g env = true) : sE P gi KK env H ↔ ∃ f b, made gi.i env = some (f, b) ∧ ∀ n, H n = none → KK (f n) (H.upd n (some b)) := by
  unfold sE
  rw [if_pos hg]
  by_cases hp : gi.p = true
  · rw [if_pos hp, iwp_made hk]
    exact ⟨fun ⟨f, b, e, h⟩ => ⟨f, b, e, fun n hn => (h n hn).2⟩, fun ⟨f, b, e, h⟩ => ⟨f, b, e, fun n hn => ⟨Heap.sub_upd hn, h n hn⟩⟩⟩
  · rw [if_neg hp, iwp_made hk]

/-- neither reads or fills what the other fills -/
def indep (a b : GI) : Bool :=
  (match a.d with | some d => !b.slots.contains d && b.d != some d | none => true) &&
  (match b.d with | some d => !a.slots.contains d | none => true)

/-- a load, told to lie apart from what a later write touches -/
def apartOk (a b : I) : Bool :=
  match a, b with
  | .ld _ _ _ (some r), .st _ _ _ av => av.contains r
  | .ld _ _ _ (some r), .app _ _ _ _ av => av.contains r
  | _, _ => false

def isApp : I → Bool
  | .app .. => true
  | _ => false

def swapOk (a b : GI) : Bool :=
  indep a b && (apartOk a.i b.i || ((isApp a.i && !a.p && b.i.kind == 3) || (a.i.kind == 0 || (a.i.kind == 1 && b.adds) || (a.i.kind == 2 && a.p && b.i.kind == 3) || (a.i.kind == 3 && b.i.kind == 3))))

theorem put_agree {l : List Nat} {d : Option Nat} (h : ∀ t, d = some t → t ∉ l) (env : Env) (v : V) : Agree l (env.put d v) env := by
  intro t ht
  cases d with
  | none => rfl
  | some d =>
    simp only [Env.put]
    rw [if_neg]
    intro e; subst e; exact h t rfl ht

theorem put_comm {d d' : Option Nat} (h : ∀ t, d = some t → d' ≠ some t) (env : Env) (v u : V) : (env.put d v).put d' u = (env.put d' u).put d v := by
  cases d with
  | none => rfl
  | some d =>
    cases d' with
    | none => rfl
    | some d' =>
      funext t
      simp only [Env.put]
      have : d ≠ d' := fun e => h d rfl (by rw [e])
      by_cases h1 : t = d' <;> by_cases h2 : t = d <;> simp [h1, h2]
      · subst h1; subst h2; exact absurd rfl this
      · subst h1; simp [h2]
      · subst h2; simp [h1]

theorem indep_spec {a b : GI} (h : indep a b = true) : (∀ t, a.d = some t → t ∉ b.slots) ∧ (∀ t, a.d = some t → b.d ≠ some t) ∧ (∀ t, b.d = some t → t ∉ a.slots) := by
  unfold indep at h
  rw [Bool.and_eq_true] at h
  refine ⟨fun t ht => ?_, fun t ht => ?_, fun t ht => ?_⟩
  · rw [ht] at h; simp at h; exact h.1.1
  · rw [ht] at h; simp at h; exact h.1.2
  · rw [ht] at h; simp at h; exact h.2

theorem offAll_mem {env : Env} {n : Nat} : ∀ {av : List Nat} {r m o : Nat}, offAll env n av → r ∈ av → env r = .ptr m o → m ≠ n
  | s :: l, r, m, o, h, hr, e => by
    simp only [offAll] at h
    rcases List.mem_cons.1 hr with rfl | hr
    · rw [e] at h; exact h.1
    · exact offAll_mem h.2 hr e

/-- a write that is told to stay off what r points to -/
theorem iwp_off {P : Program} {ld i : I} {r : Nat} (hr : apartOk ld i = true) {agg : Bool} {sz : Nat} {x : Opd} (hl : ld = .ld agg sz x (some r)) {KK : V → Heap → Prop} {env : Env} {H : Heap} {m o : Nat} (e : env r = .ptr m o) {blk : Blk} (hb : H m = some blk)
    (h : iwp P i KK env H) : iwp P i (fun u H' => H' m = some blk ∧ KK u H') env H := by
  subst hl
  cases i <;> simp only [apartOk] at hr <;> first | cases hr | skip
  case st sz a x av =>
    simp only [iwp] at h ⊢
    have hm : r ∈ av := by simpa using hr
    split at h
    · split at h
      · obtain ⟨h1, h2, h3, h4, h5, h6⟩ := h
        exact ⟨h1, h2, h3, h4, h5, by rw [upd_ne _ _ _ _ (offAll_mem h1 hm e)]; exact hb, h6⟩
      · exact h
    · exact h
  case app sz bytes s x av =>
    simp only [iwp] at h ⊢
    have hm : r ∈ av := by simpa using hr
    have hfr : ∀ k, H k = none → m ≠ k := fun k hk e => by subst e; rw [hb] at hk; cases hk
    split at h
    · refine ⟨h.1, h.2.1, ?_⟩
      have h := h.2.2
      by_cases hz : lenV (x.ev env) = 0
      · rw [if_pos hz] at h ⊢; exact ⟨⟨hb, h.1⟩, h.2⟩
      · rw [if_neg hz] at h ⊢
        split at h
        · exact fun k hk => ⟨by rw [upd_ne _ _ _ _ (hfr k hk)]; exact hb, h k hk⟩
        · split at h
          · rename_i full _ _ _ _
            obtain ⟨hoff, h⟩ := h
            refine ⟨hoff, ?_⟩
            by_cases hf : full = true
            · rw [if_pos hf] at h ⊢; exact ⟨h.1, fun k hk => ⟨by rw [upd_ne _ _ _ _ (hfr k hk)]; exact hb, h.2 k hk⟩⟩
            · rw [if_neg hf] at h ⊢
              exact ⟨h.1, h.2.1, h.2.2.1, h.2.2.2.1, fun k hk => ⟨by rw [upd_ne _ _ _ _ (hfr k hk), upd_ne _ _ _ _ (offAll_mem hoff hm e)]; exact hb, h.2.2.2.2 k hk⟩⟩
          · exact h
        · exact h
    · exact h

theorem cellsAt_sub {H H' : Heap} (hs : Heap.sub H H') {sz : Nat} {v : V} {ys : List V} (h : cellsAt H sz v = some ys) : cellsAt H' sz v = some ys := by
  unfold cellsAt at *
  split at h
  · exact h
  · rename_i n o len f
    split at h
    · rename_i h0
      rw [if_pos h0]; exact h
    · rename_i h0
      rw [if_neg h0]
      split at h
      · rename_i b hb
        simp only [hs _ _ hb]; exact h
      · cases h
  · cases h

/-- an append beside a block that it does not know of -/
theorem app_frame {P : Program} {i : I} (hi : isApp i = true) {KK : V → Heap → Prop} {env : Env} {H : Heap} {n : Nat} (hn : H n = none) (c : Blk) (h : iwp P i KK env H) :
    iwp P i (fun v H'' => ∃ H1, KK v H1 ∧ H1 n = none ∧ H'' = H1.upd n (some c)) env (H.upd n (some c)) := by
  cases i <;> simp only [isApp] at hi <;> first | cases hi | skip
  case app sz bytes s x av =>
    have hs : Heap.sub H (H.upd n (some c)) := Heap.sub_upd hn
    simp only [iwp] at h ⊢
    split at h
    · rename_i ys hys
      rw [cellsAt_sub hs hys]
      refine ⟨h.1, h.2.1, ?_⟩
      have h := h.2.2
      have hfr : ∀ m, Heap.upd H n (some c) m = none → m ≠ n ∧ H m = none := fun m hm => by
        have hmn : m ≠ n := fun e => by subst e; rw [upd_same] at hm; cases hm
        rw [upd_ne _ _ _ _ hmn] at hm
        exact ⟨hmn, hm⟩
      by_cases hz : lenV (x.ev env) = 0
      · rw [if_pos hz] at h ⊢; exact ⟨⟨H, h.1, hn, rfl⟩, h.2⟩
      · rw [if_neg hz] at h ⊢
        split at h
        · intro m hm
          obtain ⟨hmn, hm⟩ := hfr m hm
          exact ⟨_, h m hm, by rw [upd_ne _ _ _ _ (Ne.symm hmn)]; exact hn, upd_comm H _ _ (Ne.symm hmn)⟩
        · rename_i nm off len full hsv
          split at h
          · rename_i b hb
            have hnn : n ≠ nm := fun e => by subst e; rw [hn] at hb; cases hb
            simp only [hs _ _ hb]
            obtain ⟨hoff, h⟩ := h
            refine ⟨hoff, ?_⟩
            by_cases hf : full = true
            · rw [if_pos hf] at h ⊢
              refine ⟨h.1, fun m hm => ?_⟩
              obtain ⟨hmn, hm⟩ := hfr m hm
              exact ⟨_, h.2 m hm, by rw [upd_ne _ _ _ _ (Ne.symm hmn)]; exact hn, upd_comm H _ _ (Ne.symm hmn)⟩
            · rw [if_neg hf] at h ⊢
              refine ⟨h.1, h.2.1, h.2.2.1, h.2.2.2.1, fun m hm => ?_⟩
              obtain ⟨hmn, hm⟩ := hfr m hm
              refine ⟨_, h.2.2.2.2 m hm, by rw [upd_ne _ _ _ _ (Ne.symm hmn), upd_ne _ _ _ _ hnn]; exact hn, ?_⟩
              rw [upd_comm H _ _ hnn, upd_comm (H.upd nm none) _ _ (Ne.symm hmn)]
          · exact h.elim
        · exact h.elim
    · exact h.elim

theorem apartOk_ld {a b : I} (h : apartOk a b = true) : ∃ (agg : Bool) (sz : Nat) (x : Opd) (r : Nat), a = .ld agg sz x (some r) := by
  cases a with
  | ld agg sz x rt =>
    cases rt with
    | some r => exact ⟨_, _, _, _, rfl⟩
    | none => cases b <;> cases h
  | _ => cases b <;> cases h

theorem sameName_spec {u v : V} (h : sameName u v = true) : ∃ m o o', u = .ptr m o ∧ v = .ptr m o' := by
  unfold sameName at h
  split at h
  · rename_i n o m o'
    have : n = m := by simpa using h
    subst this
    exact ⟨n, o, o', rfl, rfl⟩
  · cases h

theorem swap {P : Program} {a b : GI} (hs : swapOk a b = true) {K : Env → Heap → Prop} {env : Env} {H : Heap} (hm : b.i.kind = 3 → gok b.g env = true → ∃ f c, made b.i env = some (f, c)) (h : istep P a (istep P b K) env H) : istep P b (istep P a K) env H := by
  unfold swapOk at hs
  rw [Bool.and_eq_true] at hs
  obtain ⟨hi, hs⟩ := hs
  obtain ⟨i1, i2, i3⟩ := indep_spec hi
  have ag1 : ∀ v, Agree b.slots (env.put a.d v) env := fun v => put_agree i1 env v
  have ag2 : ∀ v, Agree a.slots (env.put b.d v) env := fun v => put_agree i3 env v
  have pc : ∀ v u, (env.put a.d v).put b.d u = (env.put b.d u).put a.d v := fun v u => put_comm i2 env v u
  simp only [Bool.or_eq_true, Bool.and_eq_true, beq_iff_eq, Bool.not_eq_true'] at hs
  unfold istep at *
  -- a load beside a write
  by_cases hap : apartOk a.i b.i = true
  · obtain ⟨agg, sz, x, r, hai⟩ := apartOk_ld hap
    have hk : a.i.kind ≤ 1 := by rw [hai]; exact Nat.le_refl _
    rw [sE_fun hk] at h
    obtain ⟨v, hv, h⟩ := h
    have h := sE_agree (ag1 v) h
    by_cases hga : gok a.g env = true
    · have hv' := hv
      unfold fval at hv'
      rw [if_pos hga, hai] at hv'
      simp only [pv] at hv'
      split at hv'
      · rename_i hsn
        obtain ⟨m, o, o', hx, hr⟩ := sameName_spec hsn
        rw [hx] at hv'
        have hblk : ∃ blk, H m = some blk := by
          simp only [ldV] at hv'
          cases hb : H m with
          | some blk => exact ⟨blk, rfl⟩
          | none => rw [hb] at hv'; cases hv'
        obtain ⟨blk, hb⟩ := hblk
        have h2 : sE P b (fun u H' => H' m = some blk ∧ K ((env.put a.d v).put b.d u) H') env H := by
          unfold sE at h ⊢
          split
          · rename_i hg; rw [if_pos hg] at h
            split
            · rename_i hp; rw [if_pos hp] at h
              exact iwp_mono (iwp_off hap hai hr hb h) fun u H' ⟨a, b, c⟩ => ⟨b, a, c⟩
            · rename_i hp; rw [if_neg hp] at h; exact iwp_off hap hai hr hb h
          · rename_i hg; rw [if_neg hg] at h; exact ⟨hb, h⟩
        refine sE_mono h2 fun u H' ⟨hb', hK⟩ => (sE_fun hk).2 ⟨v, ?_, ?_⟩
        · rw [fval_agree (ag2 u)]
          unfold fval
          rw [if_pos hga, hai]
          simp only [pv]
          rw [if_pos hsn, hx]
          simp only [ldV, hb'] at hv' ⊢
          simp only [hb] at hv'
          exact hv'
        · rw [← pc]; exact hK
      · cases hv'
    · refine sE_mono h fun u H' hK => (sE_fun hk).2 ⟨v, ?_, ?_⟩
      · rw [fval_agree (ag2 u)]
        unfold fval at hv ⊢
        rw [if_neg hga] at hv ⊢
        exact hv
      · rw [← pc]; exact hK
  replace hs := hs.resolve_left hap
  by_cases hfun : a.i.kind = 0 ∨ (a.i.kind = 1 ∧ b.adds = true)
  · have hk : a.i.kind ≤ 1 := by rcases hfun with h | h <;> omega
    rw [sE_fun hk] at h
    obtain ⟨v, hv, h⟩ := h
    have h := sE_agree (ag1 v) h
    rcases hfun with h0 | ⟨_, had⟩
    · refine sE_mono h fun u H' hK => (sE_fun hk).2 ⟨v, ?_, ?_⟩
      · rw [fval_agree (ag2 u), ← hv]; exact fval_heap h0
      · rw [← pc]; exact hK
    · refine sE_mono (sE_adds had h) fun u H' ⟨hsub, hK⟩ => (sE_fun hk).2 ⟨v, ?_, ?_⟩
      · rw [fval_agree (ag2 u)]; exact fval_sub hk hsub hv
      · rw [← pc]; exact hK
  · by_cases hga : gok a.g env = true
    · by_cases hgb : gok b.g env = true
      · have hb3 : b.i.kind = 3 := by
          rcases hs with h1 | ((h1 | h1) | h1) | h1
          · exact h1.2
          · exact absurd (.inl h1) hfun
          · exact absurd (.inr h1) hfun
          · exact h1.2
          · exact h1.2
        rw [sE_made hb3 hgb]
        rcases hs with h1 | ((h1 | h1) | h1) | h1
        · -- an append, then what makes memory
          obtain ⟨⟨hia, hpa⟩, _⟩ := h1
          obtain ⟨f, c, hm⟩ := hm hb3 hgb
          refine ⟨f, c, hm, fun n hn => ?_⟩
          unfold sE at h
          rw [if_pos hga, hpa] at h
          simp only [Bool.false_eq_true, if_false] at h
          unfold sE
          rw [gok_agree (ag2 (f n)).right, if_pos hga, hpa]
          simp only [Bool.false_eq_true, if_false]
          refine iwp_agree (ag2 (f n)).left.symm (iwp_mono (app_frame hia hn c h) fun v H'' ⟨H1, hr, hn1, he⟩ => ?_)
          subst he
          have hr' : sE P b (fun u H'' => K ((env.put a.d v).put b.d u) H'') (env.put a.d v) H1 := hr
          have hr2 := sE_agree (ag1 v) hr'
          rw [sE_made hb3 hgb] at hr2
          obtain ⟨f', c', hm', hr2⟩ := hr2
          rw [hm] at hm'
          obtain ⟨rfl, rfl⟩ := Prod.mk.inj (Option.some.inj hm')
          rw [← pc]; exact hr2 n hn1
        · exact absurd (.inl h1) hfun
        · exact absurd (.inr h1) hfun
        · -- a call, then what makes a cell
          obtain ⟨⟨ha2, hap⟩, halw⟩ := h1
          obtain ⟨f, c, hm⟩ := hm hb3 hgb
          refine ⟨f, c, hm, fun n hn => ?_⟩
          unfold sE at h
          rw [if_pos hga, if_pos hap] at h
          unfold sE
          rw [gok_agree (ag2 (f n)).right, if_pos hga, if_pos hap]
          refine iwp_agree (ag2 (f n)).left.symm ?_
          have key : ∀ (g : FuncId) (args : List V), ACalls P g args H (fun v H' => Heap.sub H H' ∧ (if gok b.g (env.put a.d v) then (if b.p then iwp P b.i (fun u H'' => Heap.sub H' H'' ∧ K ((env.put a.d v).put b.d u) H'') (env.put a.d v) H' else
              iwp P b.i (fun u H'' => K ((env.put a.d v).put b.d u) H'') (env.put a.d v) H') else K ((env.put a.d v).put b.d und) H')) →
              ACalls P g args (H.upd n (some c)) (fun v H' => Heap.sub (H.upd n (some c)) H' ∧ K ((env.put b.d (f n)).put a.d v) H') := by
            intro g args hc
            refine (hc.frame hn c).mono fun v H' ⟨H1, ⟨hsub, hr⟩, hn1, he⟩ => ?_
            subst he
            have hr' : sE P b (fun u H'' => K ((env.put a.d v).put b.d u) H'') (env.put a.d v) H1 := hr
            have hr2 := sE_agree (ag1 v) hr'
            rw [sE_made hb3 hgb] at hr2
            obtain ⟨f', c', hm', hr2⟩ := hr2
            rw [hm] at hm'
            obtain ⟨rfl, rfl⟩ := Prod.mk.inj (Option.some.inj hm')
            refine ⟨fun m d hd => ?_, by rw [← pc]; exact hr2 n hn1⟩
            by_cases hmn : m = n
            · subst hmn; rw [upd_same] at hd ⊢; exact hd
            · rw [upd_ne _ _ _ _ hmn] at hd ⊢; exact hsub _ _ hd
          generalize a.i = ai at ha2 h ⊢
          cases ai <;> simp only [I.kind] at ha2 <;> first | omega | skip
          · simp only [iwp] at h ⊢
            split at h
            · exact key _ _ h
            · exact h
          · simp only [iwp] at h ⊢
            split at h
            · exact ⟨h.1, key _ _ h.2⟩
            · exact h
        · -- two that make memory
          obtain ⟨ha3, _⟩ := h1
          rw [sE_made ha3 hga] at h
          obtain ⟨f1, c1, hm1, h⟩ := h
          obtain ⟨f2, c2, hm2⟩ := hm hb3 hgb
          refine ⟨f2, c2, hm2, fun m hm => ?_⟩
          rw [sE_made ha3 (by rw [gok_agree (ag2 (f2 m)).right]; exact hga)]
          refine ⟨f1, c1, by rw [made_agree (ag2 (f2 m)).left]; exact hm1, fun n hn => ?_⟩
          have hnm : n ≠ m := fun e => by subst e; rw [upd_same] at hn; cases hn
          rw [upd_ne _ _ _ _ hnm] at hn
          have h2 := sE_agree (ag1 (f1 n)) (h n hn)
          rw [sE_made hb3 hgb] at h2
          obtain ⟨f2', c2', hm2', h2⟩ := h2
          rw [hm2] at hm2'
          obtain ⟨rfl, rfl⟩ := Prod.mk.inj (Option.some.inj hm2')
          have := h2 m (by rw [upd_ne _ _ _ _ (Ne.symm hnm)]; exact hm)
          rw [← pc, upd_comm H _ _ (Ne.symm hnm)]
          exact this
      · -- b does not run
        have hb' : ∀ v, gok b.g (env.put a.d v) = false := fun v => by rw [gok_agree (ag1 v).right]; simpa using hgb
        have goal : sE P a (fun v' H'' => K ((env.put b.d und).put a.d v') H'') (env.put b.d und) H := by
          refine sE_agree (ag2 und).symm (sE_mono h fun v H' hK => ?_)
          unfold sE at hK
          rw [hb' v] at hK
          simp only [Bool.false_eq_true, if_false] at hK
          rw [← pc]; exact hK
        have e : sE P b (fun v H' => sE P a (fun v_1 H' => K ((env.put b.d v).put a.d v_1) H') (env.put b.d v) H') env H = sE P a (fun v' H'' => K ((env.put b.d und).put a.d v') H'') (env.put b.d und) H := by
          rw [sE, if_neg hgb]
        rw [e]; exact goal
    · -- a does not run
      have e : sE P a (fun v H' => sE P b (fun v_1 H' => K ((env.put a.d v).put b.d v_1) H') (env.put a.d v) H') env H = sE P b (fun v' H'' => K ((env.put a.d und).put b.d v') H'') (env.put a.d und) H := by
        rw [sE, if_neg hga]
      rw [e] at h
      refine sE_mono (sE_agree (ag1 und) h) fun u H' hK => ?_
      unfold sE
      rw [gok_agree (ag2 u).right, if_neg hga]
      show K ((env.put b.d u).put a.d und) H'
      rw [← pc]; exact hK


/-! ### what is told to an instruction besides -/

def stripI (i : I) : I :=
  match i with
  | .ld a sz x _ => .ld a sz x none
  | .st sz a x _ => .st sz a x []
  | .app sz b s x _ => .app sz b s x []
  | i => i

def GI.strip (gi : GI) : GI := { gi with i := stripI gi.i }

theorem iwp_strip {P : Program} {i : I} {KK : V → Heap → Prop} {env : Env} {H : Heap} (h : iwp P i KK env H) : iwp P (stripI i) KK env H := by
  cases i
  case ld agg sz x rt =>
    simp only [stripI, iwp, pv] at h ⊢
    cases rt with
    | none => exact h
    | some r =>
      simp only at h
      split at h
      · rename_i v hv
        split at hv
        · rw [hv]; exact h
        · cases hv
      · exact h.elim
  case st sz a x av =>
    simp only [stripI, iwp] at h ⊢
    split at h
    · split at h
      · exact ⟨trivial, h.2⟩
      · exact h
    · exact h
  case app sz b s x av =>
    simp only [stripI, iwp] at h ⊢
    split at h
    · refine ⟨h.1, h.2.1, ?_⟩
      have h := h.2.2
      by_cases hz : lenV (x.ev env) = 0
      · rw [if_pos hz] at h ⊢; exact h
      · rw [if_neg hz] at h ⊢
        split at h
        · exact h
        · split at h
          · exact ⟨trivial, h.2⟩
          · exact h
        · exact h
    · exact h
  all_goals exact h

theorem istep_strip {P : Program} {gi : GI} {K : Env → Heap → Prop} {env : Env} {H : Heap} (h : istep P gi K env H) : istep P gi.strip K env H := by
  unfold istep sE at *
  by_cases hg : gok gi.g env = true
  · have hg' : gok gi.strip.g env = true := hg
    rw [if_pos hg] at h
    rw [if_pos hg']
    by_cases hp : gi.p = true
    · have hp' : gi.strip.p = true := hp
      rw [if_pos hp] at h; rw [if_pos hp']; exact iwp_strip h
    · have hp' : ¬ gi.strip.p = true := hp
      rw [if_neg hp] at h; rw [if_neg hp']; exact iwp_strip h
  · have hg' : ¬ gok gi.strip.g env = true := hg
    rw [if_neg hg] at h; rw [if_neg hg']; exact h

end Go.AM

/- From a region of the program to a row of instructions, in whatever order the region may run. Conditions: as stated. -/
set_option linter.unusedVariables false
set_option linter.unusedSimpArgs false
namespace Go.AM
open Go

def cvGuard (n : Nat) (ops : Array Oper) : Option (Nat × Bool) → Option (Option (Nat × Bool))
  | none => some none
  | some (j, want) => match ops[j]? with
    | some o => match o.dst with
      | some t => if t < n then some (some (t, want)) else none
      | none => none
    | none => none

def cvDst (n : Nat) : Option Nat → Bool
  | none => true
  | some d => decide (d < n)

/-- an operation as an instruction; what is not known becomes 'bad' -/
def cvG (P : Program) (n : Nat) (ops : Array Oper) (p : Bool) (o : Oper) : Option GI :=
  match cvGuard n ops o.guard with
  | some g => if cvDst n o.dst then
      match cvI P n ops o.op with
      | some i => some ⟨g, p && i.kind == 2, o.dst, i⟩
      | none => some ⟨g, false, o.dst, .bad⟩
    else none
  | none => none

theorem cvGuard_sound {P : Program} {n : Nat} {ops : Array Oper} {o : Oper} {g : Option (Nat × Bool)} (h : cvGuard n ops o.guard = some g) {μ env H a w} (st : St n μ env H a w) :
    Region.wanted o (yielded ops a.tmps) = gok g env := by
  unfold cvGuard at h
  unfold Region.wanted
  split at h
  · rename_i e; rw [e]; obtain rfl := Option.some.inj h; rfl
  · rename_i j want e
    rw [e]
    split at h
    · rename_i o' ho
      split at h
      · rename_i t ht
        split at h
        · rename_i hlt
          obtain rfl := Option.some.inj h
          have hr := st.tmps t hlt
          have hsz : t < a.tmps.size := by rw [st.size]; exact hlt
          simp only [gok, yielded, ho, Option.bind_some, ht]
          have hx : a.tmps[t]? = some a.tmps[t] := Array.getElem?_eq_getElem hsz
          have hd : a.tmps.getD t undef = a.tmps[t] := by simp [hsz]
          rw [hd] at hr
          rw [hx]
          cases he : env t <;> rw [he] at hr <;> simp only [VRel] at hr
          case bool b => rw [hr]; simp
          case ptr => obtain ⟨l, _, e⟩ := hr; rw [e]; simp
          case sl => obtain ⟨l, _, _, _, e, _⟩ := hr; rw [e]; simp
          case fn => obtain ⟨_, e, _⟩ := hr; rw [e]; simp
          case ifc => obtain ⟨_, e, _⟩ := hr; rw [e]; simp
          case agg => obtain ⟨_, e, _⟩ := hr; rw [e]; simp
          case tup => obtain ⟨_, e, _⟩ := hr; rw [e]; simp
          all_goals (rw [hr]; simp)
        · cases h
      · cases h
    · cases h

/-- where a walk may come to, seen from its start -/
def Rch (n : Nat) (K : Env → Heap → Prop) (μ : Map) (H : Heap) (w : World) (a' : Act) (w' : World) : Prop :=
  ∃ μ' env' H', St n μ' env' H' a' w' ∧ Tr μ H w μ' H' w' ∧ K env' H'

theorem Rch.trans {n K μ H w μ1 H1 w1 a' w'} (tr : Tr μ H w μ1 H1 w1) (h : Rch n K μ1 H1 w1 a' w') : Rch n K μ H w a' w' := by
  obtain ⟨μ', env', H', st, tr', hk⟩ := h
  exact ⟨μ', env', H', st, tr.trans tr', hk⟩

theorem Rch.mono {n K K' μ H w a' w'} (h : Rch n K μ H w a' w') (hk : ∀ env H, K env H → K' env H) : Rch n K' μ H w a' w' := by
  obtain ⟨μ', env', H', st, tr, h⟩ := h
  exact ⟨μ', env', H', st, tr, hk _ _ h⟩

section
variable {P : Program} {n : Nat} {ops : Array Oper}

theorem op_sound {Q : Exit → Act → World → Prop} {p : Bool} {o : Oper} {gi : GI} {i : Nat} (hi : ops[i]? = some o) (hg : cvG P n ops p o = some gi) {μ env H a w} (st : St n μ env H a w) {K : Env → Heap → Prop}
    (h : istep P gi K env H) {KK : Act → World → Prop} (hk : ∀ a' w', Rch n K μ H w a' w' → KK a' w') : wpOp P ops Q i KK a w := by
  unfold cvG at hg
  split at hg
  · rename_i g hgd
    split at hg
    · have hw := cvGuard_sound (P := P) hgd st
      unfold wpOp
      rw [hi]
      simp only
      unfold istep sE at h
      have hgi : gi.g = g ∧ gi.d = o.dst := by
        split at hg <;> (obtain rfl := Option.some.inj hg; exact ⟨rfl, rfl⟩)
      rw [hgi.1, hgi.2] at h
      rw [hw]
      by_cases hok : gok g env = true
      · rw [if_pos hok] at h ⊢
        left
        split at hg
        · rename_i ii hii
          obtain rfl := Option.some.inj hg
          have h' : iwp P ii (fun v H' => K (env.put o.dst v) H') env H := by
            split at h
            · exact iwp_mono h fun v H' h => h.2
            · exact h
          refine Oper.wp_mono (K := Post μ H w a o (fun v H' => K (env.put o.dst v) H')) (fun a' w' ⟨μ', v, x, H', tr, sm, rv, e, hK⟩ => ?_) (i_sound hii st h')
          subst e
          exact hk _ _ ⟨μ', env.put o.dst v, H', (st.mono tr.le sm).put rv, tr, hK⟩
        · obtain rfl := Option.some.inj hg
          simp only [Bool.false_eq_true, if_false, iwp, pv] at h
      · rw [if_neg hok] at h ⊢
        exact hk _ _ ⟨μ, env.put o.dst und, H, st.put (by simp [und, undef, VRel, VRels]), Tr.refl _ _ _, h⟩
    · cases hg
  · cases hg

theorem ops_sound {Q : Exit → Act → World → Prop} {p : Bool} {K : Env → Heap → Prop} {μ0 : Map} {H0 : Heap} {w0 : World} (hQ : ∀ a' w', Rch n K μ0 H0 w0 a' w' → Q .normal a' w') :
    ∀ (l : List Nat) (gs : List GI), mapO (fun i => (ops[i]?).bind (cvG P n ops p)) l = some gs → ∀ μ env H a w, Tr μ0 H0 w0 μ H w → St n μ env H a w → irun P gs K env H → wpOps P ops Q l a w
  | [], gs, h, μ, env, H, a, w, tr, st, hr => by
    simp only [mapO, Option.some.injEq] at h
    subst h
    exact hQ _ _ ⟨μ, env, H, st, tr, hr⟩
  | i :: l, gs, h, μ, env, H, a, w, tr, st, hr => by
    simp only [mapO] at h
    split at h
    · cases h
    · rename_i gi hgi
      split at h
      · cases h
      · rename_i gs' hgs
        obtain rfl := Option.some.inj h
        obtain ⟨o, ho, hg⟩ := Option.bind_eq_some_iff.1 hgi
        rw [wpOps_cons]
        refine op_sound ho hg st hr fun a' w' ⟨μ', env', H', st', tr', hk⟩ => ?_
        exact ops_sound hQ l gs' hgs μ' env' H' a' w' (tr.trans tr') st' hk

/-! ### regions that draw their order -/

/-- b comes behind a by the edges (looked at to a depth) -/
def behind (ops : Array Oper) : Nat → Nat → Nat → Bool
  | 0, _, _ => false
  | f + 1, a, b => match ops[b]? with
    | some o => o.after.toList.any fun e => Region.binds .any e && (e.on == a || behind ops f a e.on)
    | none => false

/-- what has been listed is closed under what comes before -/
def Closed (ops : Array Oper) (listed : Array Bool) : Prop :=
  ∀ j, listed.getD j false = true → ∀ o, ops[j]? = some o → ∀ e ∈ o.after, Region.binds .any e = true → listed.getD e.on false = true

theorem behind_listed {listed : Array Bool} (hc : Closed ops listed) : ∀ (f a b : Nat), listed.getD b false = true → behind ops f a b = true → listed.getD a false = true
  | 0, a, b, _, h => by simp [behind] at h
  | f + 1, a, b, hb, h => by
    simp only [behind] at h
    split at h
    · rename_i o ho
      obtain ⟨e, he, h⟩ := List.any_eq_true.1 h
      simp only [Bool.and_eq_true, Bool.or_eq_true, beq_iff_eq] at h
      have hl := hc b hb o ho e (by simpa using he) h.1
      rcases h.2 with h2 | h2
      · rw [← h2]; exact hl
      · exact behind_listed hc f a e.on hl h2
    · cases h

theorem behind_ready {listed : Array Bool} (hc : Closed ops listed) {f a b : Nat} (hb : b ∈ Region.ready .any ops listed) (h : behind ops f a b = true) : listed.getD a false = true := by
  obtain ⟨_, o, ho, hall⟩ := mem_ready.1 hb
  cases f with
  | zero => simp [behind] at h
  | succ f =>
    simp only [behind, ho] at h
    obtain ⟨e, he, h⟩ := List.any_eq_true.1 h
    simp only [Bool.and_eq_true, Bool.or_eq_true, beq_iff_eq] at h
    have hl := hall e (by simpa using he) h.1
    rcases h.2 with h2 | h2
    · rw [← h2]; exact hl
    · exact behind_listed hc f a e.on hl h2

/-- each pair in this row: ordered by the edges, or free to change places -/
def okRow (ops : Array Oper) (f : Nat) : List (Nat × GI) → Bool
  | [] => true
  | (a, ga) :: r => r.all (fun x => swapOk ga x.2 || behind ops f a x.1) && okRow ops f r

theorem okRow_mem {f : Nat} : ∀ {A B : List (Nat × GI)} {x : Nat × GI}, okRow ops f (A ++ x :: B) = true → (∀ y ∈ A, swapOk y.2 x.2 = true ∨ behind ops f y.1 x.1 = true) ∧ okRow ops f (A ++ B) = true
  | [], B, x, h => by
    simp only [List.nil_append, okRow, Bool.and_eq_true] at h
    exact ⟨by simp, h.2⟩
  | (a, ga) :: A, B, x, h => by
    simp only [List.cons_append, okRow, Bool.and_eq_true] at h
    obtain ⟨h1, h2⟩ := h
    rw [List.all_eq_true] at h1
    obtain ⟨h3, h4⟩ := okRow_mem h2
    refine ⟨fun y hy => ?_, ?_⟩
    · rcases List.mem_cons.1 hy with rfl | hy
      · have := h1 x (by simp)
        simpa using this
      · exact h3 y hy
    · simp only [List.cons_append, okRow, Bool.and_eq_true]
      refine ⟨List.all_eq_true.2 fun y hy => h1 y ?_, h4⟩
      rcases List.mem_append.1 hy with hy | hy
      · exact List.mem_append_left _ hy
      · exact List.mem_append_right _ (List.mem_cons_of_mem _ hy)

theorem front {K : Env → Heap → Prop} {x : GI} : ∀ (A B : List GI) (env : Env) (H : Heap), (∀ y ∈ A, swapOk y x = true) → (x.i.kind = 3 → gok x.g env = true → ∃ f c, made x.i env = some (f, c)) →
    irun P (A ++ x :: B) K env H → istep P x (irun P (A ++ B) K) env H
  | [], B, env, H, _, _, h => h
  | y :: A, B, env, H, hA, hm, h => by
    have hy := hA y (by simp)
    have hi : indep y x = true := by
      unfold swapOk at hy; rw [Bool.and_eq_true] at hy; exact hy.1
    obtain ⟨i1, _, _⟩ := indep_spec hi
    refine swap hy hm (sE_mono (show sE P y (fun v H' => irun P (A ++ x :: B) K (env.put y.d v) H') env H from h) fun v H' h' => ?_)
    have ag := put_agree i1 env v
    refine front A B _ H' (fun z hz => hA z (by simp [hz])) (fun hk hg => ?_) h'
    rw [gok_agree ag.right] at hg
    obtain ⟨f, c, e⟩ := hm hk hg
    exact ⟨f, c, by rw [made_agree ag.left]; exact e⟩

theorem wpOp_inh {i : Nat} {KK : Act → World → Prop} {a : Act} {w : World} (h : wpOp P ops (fun _ _ _ => False) i KK a w) : ∃ a' w', KK a' w' := by
  unfold wpOp at h
  split at h
  · exact ⟨_, _, h⟩
  · rename_i o ho
    split at h
    · rcases h with h | ⟨_, _, _, h⟩
      · unfold Oper.wp at h
        generalize (execOp a.eval o).run P w = r at h
        cases r with
        | ok n w' =>
          cases n <;> simp only [Oper.upon] at h <;> first
            | exact ⟨_, _, h⟩
            | exact h.elim
            | skip
          · obtain ⟨e, w'', fr, hr, _⟩ := h []
            cases e with
            | returned v => exact ⟨_, _, hr⟩
            | panicked c => exact hr.elim
            | outgrown => obtain ⟨_, _, hr⟩ := hr; exact hr.elim
          · obtain ⟨v, w'', hr, _⟩ := h default []
            exact ⟨_, _, hr⟩
        | halt x w' => cases x <;> simp only [Oper.upon] at h
      · exact h.elim
    · exact ⟨_, _, h⟩

/-- a numbered instruction, told something besides -/
def FromOp (P : Program) (n : Nat) (ops : Array Oper) (p : Bool) (x : Nat × GI) : Prop := ∃ o, ops[x.1]? = some o ∧ cvG P n ops p o = some x.2.strip

/-- what stands further on in the row can be made -/
theorem makeable {p : Bool} {K : Env → Heap → Prop} {x : GI} : ∀ (A : List (Nat × GI)) (B : List GI) (μ : Map) (env : Env) (H : Heap) (a : Act) (w : World), (∀ y ∈ A, FromOp P n ops p y) →
    (∀ y ∈ A, swapOk y.2 x = true) → St n μ env H a w → irun P (A.map (·.2) ++ x :: B) K env H → x.i.kind = 3 → gok x.g env = true → ∃ f c, made x.i env = some (f, c)
  | [], B, μ, env, H, a, w, hL, hA, st, h, hk, hg => by
    have h : istep P x (irun P B K) env H := h
    unfold istep at h
    rw [sE_made hk hg] at h
    obtain ⟨f, c, e, _⟩ := h
    exact ⟨f, c, e⟩
  | y :: A, B, μ, env, H, a, w, hL, hA, st, h, hk, hg => by
    obtain ⟨o, ho, hgo⟩ := hL y (by simp)
    have hsw := hA y (by simp)
    have hi : indep y.2 x = true := by
      unfold swapOk at hsw; rw [Bool.and_eq_true] at hsw; exact hsw.1
    obtain ⟨i1, _, _⟩ := indep_spec hi
    have h2 : istep P y.2 (fun env' H' => (∀ t ∈ x.slots, env' t = env t) ∧ irun P (A.map (·.2) ++ x :: B) K env' H') env H :=
      sE_mono (show sE P y.2 (fun v H' => irun P (A.map (·.2) ++ x :: B) K (env.put y.2.d v) H') env H from h) fun v H' h' => ⟨put_agree i1 env v, h'⟩
    have hw := op_sound (P := P) (Q := fun _ _ _ => False) ho hgo st (istep_strip h2) (KK := Rch n _ μ H w) fun a' w' h => h
    obtain ⟨a', w', μ', env', H', st', tr', hag, h'⟩ := wpOp_inh hw
    have ag : Agree x.slots env' env := hag
    obtain ⟨f, c, e⟩ := makeable A B μ' env' H' a' w' (fun z hz => hL z (by simp [hz])) (fun z hz => hA z (by simp [hz])) st' h' hk (by rw [gok_agree ag.right]; exact hg)
    exact ⟨f, c, by rw [← made_agree ag.left]; exact e⟩

/-- every edge goes to what stands before in the text -/
def downB (ops : Array Oper) : Bool := (List.range ops.size).all fun i => match ops[i]? with
  | some o => o.after.toList.all fun e => !Region.binds .any e || decide (e.on < i)
  | none => true

theorem downB_spec (h : downB ops = true) {i : Nat} {o : Oper} (ho : ops[i]? = some o) {e : Edge} (he : e ∈ o.after) (hb : Region.binds .any e = true) : e.on < i := by
  unfold downB at h
  rw [List.all_eq_true] at h
  have := h i (List.mem_range.2 (Array.getElem?_eq_some_iff.1 ho).1)
  rw [ho] at this
  simp only [List.all_eq_true] at this
  have := this e (by simpa using he)
  rw [hb] at this
  simpa using this

theorem least_of : ∀ (l : List Nat), l ≠ [] → ∃ m ∈ l, ∀ x ∈ l, m ≤ x
  | [], h => absurd rfl h
  | [a], _ => ⟨a, by simp, by simp⟩
  | a :: b :: r, _ => by
    obtain ⟨m, hm, hle⟩ := least_of (b :: r) (by simp)
    by_cases h : a ≤ m
    · exact ⟨a, by simp, fun x hx => by
        rcases List.mem_cons.1 hx with rfl | hx
        · exact Nat.le_refl _
        · exact Nat.le_trans h (hle x hx)⟩
    · exact ⟨m, by simp [hm], fun x hx => by
        rcases List.mem_cons.1 hx with rfl | hx
        · omega
        · exact hle x hx⟩

theorem draw_sound {p : Bool} {f : Nat} (hdown : downB ops = true) {Q : Exit → Act → World → Prop} {K : Env → Heap → Prop} {μ0 : Map} {H0 : Heap} {w0 : World} (hQ : ∀ a' w', Rch n K μ0 H0 w0 a' w' → Q .normal a' w') :
    ∀ (fuel : Nat) (listed : Array Bool) (rem : List (Nat × GI)), (∀ y ∈ rem, FromOp P n ops p y) → okRow ops f rem = true → Closed ops listed → listed.size = ops.size →
      (∀ i, i < ops.size → (listed.getD i true = false ↔ i ∈ rem.map (·.1))) → (rem.map (·.1)).Nodup → rem.length ≤ fuel → ∀ μ env H a w, Tr μ0 H0 w0 μ H w → St n μ env H a w → irun P (rem.map (·.2)) K env H → wpAny P .any ops Q fuel listed a w := by
  intro fuel
  induction fuel with
  | zero =>
    intro listed rem hcv hok hc hsz hmem hnd hlen μ env H a w tr st hr
    have : rem = [] := List.length_eq_zero_iff.1 (by omega)
    subst this
    refine ⟨?_, hQ _ _ ⟨μ, env, H, st, tr, hr⟩⟩
    cases hrd : Region.ready .any ops listed with
    | nil => rfl
    | cons x xs =>
      have hx : x ∈ Region.ready .any ops listed := by rw [hrd]; simp
      obtain ⟨h1, o, ho, _⟩ := mem_ready.1 hx
      have hxl : x < ops.size := (Array.getElem?_eq_some_iff.1 ho).1
      have := (hmem x hxl).1 h1
      simp at this
  | succ fuel ih =>
    intro listed rem hcv hok hc hsz hmem hnd hlen μ env H a w tr st hr
    have hlt : ∀ i ∈ rem.map (·.1), i < ops.size := fun i hi => by
      obtain ⟨y, hy, rfl⟩ := List.mem_map.1 hi
      obtain ⟨o, ho, _⟩ := hcv y hy
      exact (Array.getElem?_eq_some_iff.1 ho).1
    refine ⟨fun hrd => ?_, fun i hi => ?_⟩
    · -- nothing is ready: nothing is left
      by_cases hre : rem.map (·.1) = []
      · have : rem = [] := by simpa using hre
        subst this
        exact hQ _ _ ⟨μ, env, H, st, tr, hr⟩
      · exfalso
        obtain ⟨m, hm, hle⟩ := least_of _ hre
        have hml := hlt m hm
        have : m ∈ Region.ready .any ops listed := by
          rw [mem_ready]
          refine ⟨(hmem m hml).2 hm, ops[m], Array.getElem?_eq_getElem hml, fun e he hb => ?_⟩
          have hd := downB_spec hdown (Array.getElem?_eq_getElem hml) he hb
          have hes : e.on < ops.size := by omega
          have hnr : e.on ∉ rem.map (·.1) := fun h => by have := hle _ h; omega
          have h1 : ¬ listed.getD e.on true = false := fun h => hnr ((hmem _ hes).1 h)
          have hs : e.on < listed.size := by omega
          simp [hs] at h1 ⊢
          exact h1
        rw [hrd] at this
        cases this
    · obtain ⟨hun, o, ho, hall⟩ := mem_ready.1 hi
      have hil : i < ops.size := (Array.getElem?_eq_some_iff.1 ho).1
      have hir := (hmem i hil).1 hun
      obtain ⟨⟨i', x⟩, hxm, rfl⟩ := List.mem_map.1 hir
      obtain ⟨A, B, rfl⟩ := List.append_of_mem hxm
      simp only at hun ho hall hil hi hir ⊢
      obtain ⟨hsw, hok'⟩ := okRow_mem hok
      have hswap : ∀ y ∈ A, swapOk y.2 x = true := by
        intro y hy
        rcases hsw y hy with h | h
        · exact h
        · exfalso
          have hal := behind_ready hc hi h
          have hAm : y.1 ∈ (A ++ (i', x) :: B).map (·.1) := List.mem_map.2 ⟨y, List.mem_append_left _ hy, rfl⟩
          have hun' := (hmem _ (hlt _ hAm)).2 hAm
          have hs : y.1 < listed.size := by rw [hsz]; exact hlt _ hAm
          simp [hs] at hal hun'
          rw [hal] at hun'; cases hun'
      obtain ⟨o', ho', hgo⟩ := hcv (i', x) hxm
      rw [List.map_append, List.map_cons] at hr
      have hr' := front (A.map (·.2)) (B.map (·.2)) env H (fun y hy => by obtain ⟨z, hz, rfl⟩ := List.mem_map.1 hy; exact hswap z hz)
        (makeable (P := P) (ops := ops) (p := p) A (B.map (·.2)) μ env H a w (fun y hy => hcv y (List.mem_append_left _ hy)) hswap st hr) hr
      refine op_sound ho' hgo st (istep_strip hr') fun a' w' ⟨μ', env', H', st', tr', hr2⟩ => ?_
      have hsi : i' < listed.size := by rw [hsz]; exact hil
      have hsub : ∀ y ∈ A ++ B, y ∈ A ++ (i', x) :: B := fun y hy => by
        rcases List.mem_append.1 hy with h | h
        · exact List.mem_append_left _ h
        · exact List.mem_append_right _ (List.mem_cons_of_mem _ h)
      rw [List.map_append, List.map_cons] at hnd
      rw [← List.map_append] at hr2
      refine ih (listed.setIfInBounds i' true) (A ++ B) (fun y hy => hcv y (hsub y hy)) hok' ?_ (by simpa using hsz) ?_ ?_ ?_ μ' env' H' a' w' (tr.trans tr') st' hr2
      · intro j hj o2 ho2 e he hb
        by_cases hji : i' = j
        · subst hji
          rw [ho] at ho2
          obtain rfl := Option.some.inj ho2
          exact getD_set_true (hall e he hb)
        · rw [getD_set_ne false hji] at hj
          exact getD_set_true (hc j hj o2 ho2 e he hb)
      · intro j hj
        rw [List.map_append]
        have hnd' := hnd
        rw [List.nodup_append] at hnd'
        by_cases hji : i' = j
        · subst hji
          have : (listed.setIfInBounds i' true).getD i' true = true := by simp
          rw [this]
          constructor
          · intro h; cases h
          · intro h
            exfalso
            have h3 := hnd'.2.1
            rw [List.nodup_cons] at h3
            rcases List.mem_append.1 h with h | h
            · exact hnd'.2.2 i' h i' (by simp) rfl
            · exact h3.1 h
        · rw [getD_set_ne true hji, hmem j hj, List.map_append, List.map_cons, List.mem_append, List.mem_append, List.mem_cons]
          simp [Ne.symm hji]
      · rw [List.map_append]
        rw [List.nodup_append] at hnd ⊢
        refine ⟨hnd.1, (List.nodup_cons.1 hnd.2.1).2, fun a ha b hb => hnd.2.2 a ha b (by simp [hb])⟩
      · simp at hlen ⊢; omega

/-- which operations may run next, the quiet ones first -/
def nextOf (P : Program) (n : Nat) (ops : Array Oper) (done : List Nat) (k : Nat) : List Nat → Option Nat
  | [] => none
  | i :: r => match ops[i]? with
    | some o => if ((cvI P n ops o.op).getD .bad).kind == k && o.after.toList.all (fun e => !Region.binds .any e || done.contains e.on) then some i else nextOf P n ops done k r
    | none => nextOf P n ops done k r

def greedy (P : Program) (n : Nat) (ops : Array Oper) (ks : List Nat) : Nat → List Nat → List Nat → List Nat
  | 0, _, rem => rem
  | f + 1, done, rem =>
    match ks.findSome? fun k => nextOf P n ops done k rem with
    | some i => i :: greedy P n ops ks f (i :: done) (rem.erase i)
    | none => rem

def nodupB : List Nat → Bool
  | [] => true
  | a :: r => !r.contains a && nodupB r

theorem nodupB_spec : ∀ {l : List Nat}, nodupB l = true → l.Nodup
  | [], _ => List.nodup_nil
  | a :: r, h => by
    simp only [nodupB, Bool.and_eq_true, Bool.not_eq_true'] at h
    rw [List.nodup_cons]
    exact ⟨by simpa using h.1, nodupB_spec h.2⟩

theorem nodup_len : ∀ (n : Nat) (L : List Nat), L.Nodup → (∀ i ∈ L, i < n) → L.length ≤ n
  | 0, L, _, h => by
    cases L with
    | nil => simp
    | cons a r => exact absurd (h a (by simp)) (by omega)
  | n + 1, L, hnd, h => by
    by_cases hn : n ∈ L
    · have := nodup_len n (L.erase n) (hnd.erase n) fun i hi => by
        rw [hnd.mem_erase_iff] at hi
        have := h i hi.2
        omega
      rw [List.length_erase_of_mem hn] at this
      omega
    · have := nodup_len n L hnd fun i hi => by
        have h1 := h i hi
        have : i ≠ n := fun e => hn (e ▸ hi)
        omega
      omega

def rowOf (P : Program) (n : Nat) (ops : Array Oper) (p : Bool) (L : List Nat) : Option (List GI) := mapO (fun i => (ops[i]?).bind (cvG P n ops p)) L

/-- the slot from which an address comes, through the moves, fields and indexes of the region -/
def rootOf (gs : List (Nat × GI)) : Nat → Nat → Option Nat
  | 0, _ => none
  | f + 1, t => match gs.find? (fun x => x.2.d == some t) with
    | none => some t
    | some x => match x.2.i with
      | .mov (.s u) => rootOf gs f u
      | .fa _ (.s u) => rootOf gs f u
      | _ => none

def addrOf : I → Option Nat
  | .ld _ _ (.s t) _ => some t
  | _ => none

def isMut : I → Bool
  | .st .. => true
  | .app .. => true
  | _ => false

/-- tells loads and writes to lie apart where the edges do not order them -/
def tell (ops : Array Oper) (gs : List (Nat × GI)) : List (Nat × GI) :=
  gs.map fun x =>
    let loose (y z : Nat × GI) : Bool := !behind ops ops.size y.1 z.1 && !behind ops ops.size z.1 y.1
    match x.2.i with
    | .ld agg sz a none => match (addrOf x.2.i).bind (rootOf gs gs.length) with
      | some r => if gs.any (fun z => isMut z.2.i && loose x z) then (x.1, { x.2 with i := .ld agg sz a (some r) }) else x
      | none => x
    | .st sz a v [] => (x.1, { x.2 with i := .st sz a v (gs.filterMap fun z => if loose z x then (addrOf z.2.i).bind (rootOf gs gs.length) else none) })
    | .app sz b s v [] => (x.1, { x.2 with i := .app sz b s v (gs.filterMap fun z => if loose z x then (addrOf z.2.i).bind (rootOf gs gs.length) else none) })
    | _ => x

theorem tell_strip {p : Bool} {gs : List (Nat × GI)} (hp : ∀ y ∈ gs, FromOp P n ops p y) (h0 : ∀ y ∈ gs, y.2.strip = y.2) : ∀ y ∈ tell ops gs, FromOp P n ops p y := by
  intro y hy
  unfold tell at hy
  obtain ⟨x, hx, rfl⟩ := List.mem_map.1 hy
  have hf := hp x hx
  have hs := h0 x hx
  obtain ⟨o, ho, hg⟩ := hf
  rw [hs] at hg
  obtain ⟨k, ⟨g, pp, d, i⟩⟩ := x
  simp only at ho hg hs ⊢
  have key : ∀ i', stripI i' = i → FromOp P n ops p (k, ⟨g, pp, d, i'⟩) := fun i' he => ⟨o, ho, by simp only [GI.strip, he]; exact hg⟩
  split
  · split
    · split
      · exact key _ rfl
      · exact key _ rfl
    · exact key _ rfl
  · exact key _ rfl
  · exact key _ rfl
  · refine key _ ?_
    simpa [GI.strip] using hs

theorem cvG_strip {p : Bool} {o : Oper} {gi : GI} (h : cvG P n ops p o = some gi) : gi.strip = gi := by
  unfold cvG at h
  split at h
  · split at h
    · split at h
      · rename_i i hi
        obtain rfl := Option.some.inj h
        have : stripI i = i := by
          cases ho : o.op <;> rw [ho] at hi <;> simp only [cvI] at hi
          case load t x => 
            split at hi
            · obtain rfl := Option.some.inj hi; rfl
            · cases hi
          case store t x y =>
            split at hi
            · obtain rfl := Option.some.inj hi; rfl
            · cases hi
          case call c =>
            unfold cvCall at hi
            repeat' (first | (cases hi; done) | (obtain rfl := Option.some.inj hi; rfl) | (unfold cvApp at hi) | (unfold cvLen at hi) | (unfold cvCpy at hi) | (unfold cvMM at hi) | split at hi)
          case binOp => unfold cvBin at hi; repeat' (first | (cases hi; done) | (obtain rfl := Option.some.inj hi; rfl) | split at hi)
          case makeFunc fn a b => cases fn <;> simp only at hi <;> repeat' (first | (cases hi; done) | (obtain rfl := Option.some.inj hi; rfl) | split at hi)
          all_goals repeat' (first | (cases hi; done) | (obtain rfl := Option.some.inj hi; rfl) | (obtain ⟨y, hy, rfl⟩ := Option.map_eq_some_iff.1 hi; rfl) | split at hi)
        simp [GI.strip, this]
      · obtain rfl := Option.some.inj h; rfl
    · cases h
  · cases h

def drawRow (P : Program) (n : Nat) (ops : Array Oper) (p : Bool) (L : List Nat) : Option (List GI) :=
  match rowOf P n ops p L with
  | some gs0 =>
    let gs := tell ops (L.zip gs0)
    if downB ops && nodupB L && L.all (fun i => decide (i < ops.size)) && (List.range ops.size).all (fun i => L.contains i) && okRow ops ops.size gs then some (gs.map (·.2)) else none
  | none => none

/-- A REGION AS A ROW OF INSTRUCTIONS -/
def cvRegion (P : Program) (n : Nat) (ops : Array Oper) (draw : Bool) : Option (List GI) :=
  if draw then
    let L := greedy P n ops [0, 1, 2, 3, 4] ops.size [] (List.range ops.size)
    (drawRow P n ops false L).or ((drawRow P n ops true L).or (drawRow P n ops true (greedy P n ops [0, 1, 2, 4, 3] ops.size [] (List.range ops.size))))
  else rowOf P n ops false (List.range ops.size)

theorem tell_fst (gs : List (Nat × GI)) : (tell ops gs).map (·.1) = gs.map (·.1) := by
  unfold tell
  rw [List.map_map]
  refine List.map_congr_left fun x hx => ?_
  simp only [Function.comp]
  split
  · split
    · split <;> rfl
    · rfl
  all_goals rfl

theorem drawRow_sound {p : Bool} {L : List Nat} {gs : List GI} (h : drawRow P n ops p L = some gs) {Q : Exit → Act → World → Prop} {K : Env → Heap → Prop} {μ : Map} {env : Env} {H : Heap} {a : Act} {w : World} (st : St n μ env H a w)
    (hr : irun P gs K env H) (hQ : ∀ a' w', Rch n K μ H w a' w' → Q .normal a' w') : wpAny P .any ops Q ops.size (Array.replicate ops.size false) a { w with drawn := w.drawn + 1 } := by
  unfold drawRow at h
  split at h
  · rename_i gs' hgs
    simp only at h
    split at h
    · rename_i hc
      obtain rfl := Option.some.inj h
      simp only [Bool.and_eq_true] at hc
      obtain ⟨⟨⟨⟨h1, h2⟩, h3⟩, h4⟩, h5⟩ := hc
      have hnd := nodupB_spec h2
      rw [List.all_eq_true] at h3 h4
      have hlt : ∀ i ∈ L, i < ops.size := fun i hi => by simpa using h3 i hi
      have hmem : ∀ i, i < ops.size → i ∈ L := fun i hi => by simpa using h4 i (List.mem_range.2 hi)
      obtain ⟨hl, hcv⟩ := mapO_some hgs
      have hfst : (tell ops (L.zip gs')).map (·.1) = L := by
        rw [tell_fst, List.map_fst_zip (by omega)]
      have hlen : (tell ops (L.zip gs')).length ≤ ops.size := by
        have : (tell ops (L.zip gs')).length = L.length := by
          have := congrArg List.length hfst
          simpa using this
        rw [this]; exact nodup_len ops.size L hnd hlt
      have hraw : ∀ y ∈ L.zip gs', cvG P n ops p (ops.getD y.1 default) = some y.2 ∧ ∃ o, ops[y.1]? = some o ∧ cvG P n ops p o = some y.2 := by
        intro y hy
        obtain ⟨k, hk⟩ := List.mem_iff_getElem?.1 hy
        rw [List.getElem?_zip_eq_some] at hk
        have := hcv k y.1 y.2 hk.1 hk.2
        obtain ⟨o, ho, hg⟩ := Option.bind_eq_some_iff.1 this
        refine ⟨?_, o, ho, hg⟩
        rw [Array.getD_eq_getD_getElem?, ho]; exact hg
      have hfrom : ∀ y ∈ tell ops (L.zip gs'), FromOp P n ops p y := tell_strip (fun y hy => by
        obtain ⟨_, o, ho, hg⟩ := hraw y hy
        exact ⟨o, ho, by rw [cvG_strip hg]; exact hg⟩) fun y hy => by
        obtain ⟨_, o, ho, hg⟩ := hraw y hy
        exact cvG_strip hg
      have sm' : Sim μ H { w with drawn := w.drawn + 1 } := st.sim.heap rfl
      have tr' : Tr μ H w μ H { w with drawn := w.drawn + 1 } := Tr.heap rfl rfl rfl rfl
      refine draw_sound (P := P) h1 hQ ops.size _ _ hfrom h5 ?_ (by simp) (fun i hi => ?_) (by rw [hfst]; exact hnd) hlen μ env H a _ tr' (st.mono (fun _ _ h => h) sm') hr
      · intro j hj
        rw [Array.getD_eq_getD_getElem?] at hj
        exfalso
        by_cases h : j < ops.size
        · simp [h] at hj
        · simp [h] at hj
      · rw [hfst]
        constructor
        · exact fun _ => hmem i hi
        · intro _; simp [hi]
    · cases h
  · cases h

theorem region_sound (hm : P.follows .mixedOrders = true) {id : Nat} {draw : Bool} {gs : List GI} (h : cvRegion P n ops draw = some gs) {Q : Exit → Act → World → Prop} {K : Env → Heap → Prop} {μ : Map} {env : Env} {H : Heap} {a : Act} {w : World}
    (st : St n μ env H a w) (hr : irun P gs K env H) (hQ : ∀ a' w', Rch n K μ H w a' w' → Q .normal a' w') : (Code.region id ops draw).wp P Q a w := by
  unfold cvRegion at h
  cases draw with
  | false =>
    simp only [Bool.false_eq_true, if_false] at h
    exact wp_region (ops_sound hQ _ gs h μ env H a w (Tr.refl _ _ _) st hr)
  | true =>
    simp only [if_true] at h
    refine wp_region_any hm ?_
    have hor : ∀ {x y : Option (List GI)}, x.or y = some gs → x = some gs ∨ y = some gs := fun {x y} h => by
      cases x with
      | some g => left; simpa using h
      | none => right; simpa using h
    rcases hor h with h | h
    · exact drawRow_sound h st hr hQ
    · rcases hor h with h | h
      · exact drawRow_sound h st hr hQ
      · exact drawRow_sound h st hr hQ
end
end Go.AM
