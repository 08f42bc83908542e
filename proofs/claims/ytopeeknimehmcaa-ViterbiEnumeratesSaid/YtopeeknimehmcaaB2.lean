/- Rows of instructions; two that may change places. Conditions: as stated. -/
import Derived.Test.YtopeeknimehmcaaB1
set_option linter.unusedVariables false
set_option linter.unusedSimpArgs false
namespace Go.AM
open Go

def gok (g : Option (Nat × Bool)) (env : Env) : Bool :=
  match g with
  | none => true
  | some (t, want) => match env t with
    | .bool b => b == want
    | _ => false

/-- one instruction with its guard -/
def sE (P : Program) (gi : GI) (KK : V → Heap → Prop) (env : Env) (H : Heap) : Prop :=
  if gok gi.g env then (if gi.p then iwp P gi.i (fun v H' => Heap.sub H H' ∧ KK v H') env H else iwp P gi.i KK env H) else KK und H

def istep (P : Program) (gi : GI) (K : Env → Heap → Prop) (env : Env) (H : Heap) : Prop := sE P gi (fun v H' => K (env.put gi.d v) H') env H

def irun (P : Program) : List GI → (Env → Heap → Prop) → Env → Heap → Prop
  | [], K, env, H => K env H
  | gi :: r, K, env, H => istep P gi (irun P r K) env H

theorem sE_mono {P gi KK KK' env H} (h : sE P gi KK env H) (hk : ∀ v H', KK v H' → KK' v H') : sE P gi KK' env H := by
  unfold sE at *
  split
  · rename_i hg; rw [if_pos hg] at h
    split
    · rename_i hp; rw [if_pos hp] at h; exact iwp_mono h fun v H' ⟨a, b⟩ => ⟨a, hk _ _ b⟩
    · rename_i hp; rw [if_neg hp] at h; exact iwp_mono h hk
  · rename_i hg; rw [if_neg hg] at h; exact hk _ _ h

theorem istep_mono {P gi K K' env H} (h : istep P gi K env H) (hk : ∀ env H, K env H → K' env H) : istep P gi K' env H := sE_mono h fun _ _ h => hk _ _ h

theorem irun_mono {P K K'} (hk : ∀ env H, K env H → K' env H) : ∀ (l : List GI) (env : Env) (H : Heap), irun P l K env H → irun P l K' env H
  | [], env, H, h => hk _ _ h
  | gi :: r, env, H, h => istep_mono h fun env H h => irun_mono hk r env H h

theorem irun_append {P K} : ∀ (l l' : List GI) (env : Env) (H : Heap), irun P (l ++ l') K env H = irun P l (irun P l' K) env H
  | [], l', env, H => rfl
  | gi :: r, l', env, H => by
    show istep P gi (irun P (r ++ l') K) env H = istep P gi (irun P r (irun P l' K)) env H
    congr 1
    funext env H
    exact irun_append r l' env H

def gslots : Option (Nat × Bool) → List Nat
  | some (t, _) => [t]
  | none => []

def GI.slots (gi : GI) : List Nat := gi.i.slots ++ gslots gi.g

theorem gok_agree {g : Option (Nat × Bool)} {env env' : Env} (h : Agree (gslots g) env env') : gok g env = gok g env' := by
  cases g with
  | none => rfl
  | some p => obtain ⟨t, want⟩ := p; simp only [gok]; rw [h t (by simp [gslots])]

theorem sE_agree {P gi KK env env' H} (ha : Agree gi.slots env env') (h : sE P gi KK env H) : sE P gi KK env' H := by
  unfold sE at *
  rw [gok_agree ha.right] at h
  split
  · rename_i hg; rw [if_pos hg] at h
    split
    · rename_i hp; rw [if_pos hp] at h; exact iwp_agree ha.left h
    · rename_i hp; rw [if_neg hp] at h; exact iwp_agree ha.left h
  · rename_i hg; rw [if_neg hg] at h; exact h

theorem Heap.sub_refl (H : Heap) : Heap.sub H H := fun _ _ h => h
theorem Heap.sub_trans {H H' H'' : Heap} (h : Heap.sub H H') (k : Heap.sub H' H'') : Heap.sub H H'' := fun _ _ e => k _ _ (h _ _ e)

def fval (gi : GI) (env : Env) (H : Heap) : Option V := if gok gi.g env then pv gi.i env H else some und

theorem sE_fun {P gi KK env H} (hk : gi.i.kind ≤ 1) : sE P gi KK env H ↔ ∃ v, fval gi env H = some v ∧ KK v H := by
  unfold sE fval
  by_cases hg : gok gi.g env = true
  · rw [if_pos hg, if_pos hg]
    by_cases hp : gi.p = true
    · rw [if_pos hp, iwp_quiet hk]
      exact ⟨fun ⟨v, a, _, b⟩ => ⟨v, a, b⟩, fun ⟨v, a, b⟩ => ⟨v, a, Heap.sub_refl _, b⟩⟩
    · rw [if_neg hp, iwp_quiet hk]
  · rw [if_neg hg, if_neg hg]
    exact ⟨fun h => ⟨_, rfl, h⟩, fun ⟨v, e, h⟩ => by obtain rfl := Option.some.inj e; exact h⟩

theorem fval_agree {gi : GI} {env env' : Env} (ha : Agree gi.slots env env') (H : Heap) : fval gi env H = fval gi env' H := by
  unfold fval; rw [gok_agree ha.right, pv_agree H ha.left]

theorem fval_sub {gi : GI} (hk : gi.i.kind ≤ 1) {env : Env} {H H' : Heap} (hs : Heap.sub H H') {v : V} (h : fval gi env H = some v) : fval gi env H' = some v := by
  unfold fval at *
  split
  · rename_i hg; rw [if_pos hg] at h; exact pv_sub hk hs h
  · rename_i hg; rw [if_neg hg] at h; exact h

theorem fval_heap {gi : GI} (hk : gi.i.kind = 0) {env : Env} {H H' : Heap} : fval gi env H = fval gi env H' := by
  unfold fval; rw [pv_heap hk]

/-- what only adds to the heap -/
def GI.adds (gi : GI) : Bool := gi.i.kind ≤ 1 || gi.i.kind == 3 || (gi.i.kind == 2 && gi.p)

theorem sE_adds {P gi KK env H} (ha : gi.adds = true) (h : sE P gi KK env H) : sE P gi (fun v H' => Heap.sub H H' ∧ KK v H') env H := by
  by_cases hk : gi.i.kind ≤ 1
  · rw [sE_fun hk] at h ⊢
    obtain ⟨v, a, b⟩ := h
    exact ⟨v, a, Heap.sub_refl _, b⟩
  · unfold sE at *
    split
    · rename_i hg; rw [if_pos hg] at h
      by_cases h3 : gi.i.kind = 3
      · have : ∀ KK, iwp P gi.i KK env H → iwp P gi.i (fun v H' => Heap.sub H H' ∧ KK v H') env H := fun KK h => by
          rw [iwp_made h3] at h ⊢
          obtain ⟨f, b, e, h⟩ := h
          exact ⟨f, b, e, fun n hn => ⟨Heap.sub_upd hn, h n hn⟩⟩
        split
        · rename_i hp; rw [if_pos hp] at h
          exact iwp_mono (this _ h) fun v H' ⟨a, b, c⟩ => ⟨a, a, c⟩
        · rename_i hp; rw [if_neg hp] at h; exact this _ h
      · have hp : gi.p = true := by
          simp only [GI.adds, Bool.or_eq_true, decide_eq_true_eq, beq_iff_eq, Bool.and_eq_true] at ha
          rcases ha with (h1 | h1) | h1
          · exact absurd h1 hk
          · exact absurd h1 h3
          · exact h1.2
        rw [if_pos hp] at h ⊢
        exact iwp_mono h fun v H' ⟨a, b⟩ => ⟨a, a, b⟩
    · rename_i hg; rw [if_neg hg] at h; exact ⟨Heap.sub_refl _, h⟩

theorem sE_made {P gi KK env H} (hk : gi.i.kind = 3) (hg : gok gi.g env = true) : sE P gi KK env H ↔ ∃ f b, made gi.i env = some (f, b) ∧ ∀ n, H n = none → KK (f n) (H.upd n (some b)) := by
  unfold sE
  rw [if_pos hg]
  by_cases hp : gi.p = true
  · rw [if_pos hp, iwp_made hk]
    exact ⟨fun ⟨f, b, e, h⟩ => ⟨f, b, e, fun n hn => (h n hn).2⟩, fun ⟨f, b, e, h⟩ => ⟨f, b, e, fun n hn => ⟨Heap.sub_upd hn, h n hn⟩⟩⟩
  · rw [if_neg hp, iwp_made hk]

/-- neither reads or fills what the other fills -/
def indep (a b : GI) : Bool :=
  (match a.d with | some d => !b.slots.contains d && b.d != some d | none => true) &&
  (match b.d with | some d => !a.slots.contains d | none => true)

/-- a load, told to lie apart from what a later write touches -/
def apartOk (a b : I) : Bool :=
  match a, b with
  | .ld _ _ _ (some r), .st _ _ _ av => av.contains r
  | .ld _ _ _ (some r), .app _ _ _ _ av => av.contains r
  | _, _ => false

def isApp : I → Bool
  | .app .. => true
  | _ => false

def swapOk (a b : GI) : Bool :=
  indep a b && (apartOk a.i b.i || ((isApp a.i && !a.p && b.i.kind == 3) || (a.i.kind == 0 || (a.i.kind == 1 && b.adds) || (a.i.kind == 2 && a.p && b.i.kind == 3) || (a.i.kind == 3 && b.i.kind == 3))))

theorem put_agree {l : List Nat} {d : Option Nat} (h : ∀ t, d = some t → t ∉ l) (env : Env) (v : V) : Agree l (env.put d v) env := by
  intro t ht
  cases d with
  | none => rfl
  | some d =>
    simp only [Env.put]
    rw [if_neg]
    intro e; subst e; exact h t rfl ht

theorem put_comm {d d' : Option Nat} (h : ∀ t, d = some t → d' ≠ some t) (env : Env) (v u : V) : (env.put d v).put d' u = (env.put d' u).put d v := by
  cases d with
  | none => rfl
  | some d =>
    cases d' with
    | none => rfl
    | some d' =>
      funext t
      simp only [Env.put]
      have : d ≠ d' := fun e => h d rfl (by rw [e])
      by_cases h1 : t = d' <;> by_cases h2 : t = d <;> simp [h1, h2]
      · subst h1; subst h2; exact absurd rfl this
      · subst h1; simp [h2]
      · subst h2; simp [h1]

theorem indep_spec {a b : GI} (h : indep a b = true) : (∀ t, a.d = some t → t ∉ b.slots) ∧ (∀ t, a.d = some t → b.d ≠ some t) ∧ (∀ t, b.d = some t → t ∉ a.slots) := by
  unfold indep at h
  rw [Bool.and_eq_true] at h
  refine ⟨fun t ht => ?_, fun t ht => ?_, fun t ht => ?_⟩
  · rw [ht] at h; simp at h; exact h.1.1
  · rw [ht] at h; simp at h; exact h.1.2
  · rw [ht] at h; simp at h; exact h.2

theorem offAll_mem {env : Env} {n : Nat} : ∀ {av : List Nat} {r m o : Nat}, offAll env n av → r ∈ av → env r = .ptr m o → m ≠ n
  | s :: l, r, m, o, h, hr, e => by
    simp only [offAll] at h
    rcases List.mem_cons.1 hr with rfl | hr
    · rw [e] at h; exact h.1
    · exact offAll_mem h.2 hr e

/-- a write that is told to stay off what r points to -/
theorem iwp_off {P : Program} {ld i : I} {r : Nat} (hr : apartOk ld i = true) {agg : Bool} {sz : Nat} {x : Opd} (hl : ld = .ld agg sz x (some r)) {KK : V → Heap → Prop} {env : Env} {H : Heap} {m o : Nat} (e : env r = .ptr m o) {blk : Blk} (hb : H m = some blk)
    (h : iwp P i KK env H) : iwp P i (fun u H' => H' m = some blk ∧ KK u H') env H := by
  subst hl
  cases i <;> simp only [apartOk] at hr <;> first | cases hr | skip
  case st sz a x av =>
    simp only [iwp] at h ⊢
    have hm : r ∈ av := by simpa using hr
    split at h
    · split at h
      · obtain ⟨h1, h2, h3, h4, h5, h6⟩ := h
        exact ⟨h1, h2, h3, h4, h5, by rw [upd_ne _ _ _ _ (offAll_mem h1 hm e)]; exact hb, h6⟩
      · exact h
    · exact h
  case app sz bytes s x av =>
    simp only [iwp] at h ⊢
    have hm : r ∈ av := by simpa using hr
    have hfr : ∀ k, H k = none → m ≠ k := fun k hk e => by subst e; rw [hb] at hk; cases hk
    split at h
    · refine ⟨h.1, h.2.1, ?_⟩
      have h := h.2.2
      by_cases hz : lenV (x.ev env) = 0
      · rw [if_pos hz] at h ⊢; exact ⟨⟨hb, h.1⟩, h.2⟩
      · rw [if_neg hz] at h ⊢
        split at h
        · exact fun k hk => ⟨by rw [upd_ne _ _ _ _ (hfr k hk)]; exact hb, h k hk⟩
        · split at h
          · rename_i full _ _ _ _
            obtain ⟨hoff, h⟩ := h
            refine ⟨hoff, ?_⟩
            by_cases hf : full = true
            · rw [if_pos hf] at h ⊢; exact ⟨h.1, fun k hk => ⟨by rw [upd_ne _ _ _ _ (hfr k hk)]; exact hb, h.2 k hk⟩⟩
            · rw [if_neg hf] at h ⊢
              exact ⟨h.1, h.2.1, h.2.2.1, h.2.2.2.1, fun k hk => ⟨by rw [upd_ne _ _ _ _ (hfr k hk), upd_ne _ _ _ _ (offAll_mem hoff hm e)]; exact hb, h.2.2.2.2 k hk⟩⟩
          · exact h
        · exact h
    · exact h

theorem cellsAt_sub {H H' : Heap} (hs : Heap.sub H H') {sz : Nat} {v : V} {ys : List V} (h : cellsAt H sz v = some ys) : cellsAt H' sz v = some ys := by
  unfold cellsAt at *
  split at h
  · exact h
  · rename_i n o len f
    split at h
    · rename_i h0
      rw [if_pos h0]; exact h
    · rename_i h0
      rw [if_neg h0]
      split at h
      · rename_i b hb
        simp only [hs _ _ hb]; exact h
      · cases h
  · cases h

/-- an append beside a block that it does not know of -/
theorem app_frame {P : Program} {i : I} (hi : isApp i = true) {KK : V → Heap → Prop} {env : Env} {H : Heap} {n : Nat} (hn : H n = none) (c : Blk) (h : iwp P i KK env H) :
    iwp P i (fun v H'' => ∃ H1, KK v H1 ∧ H1 n = none ∧ H'' = H1.upd n (some c)) env (H.upd n (some c)) := by
  cases i <;> simp only [isApp] at hi <;> first | cases hi | skip
  case app sz bytes s x av =>
    have hs : Heap.sub H (H.upd n (some c)) := Heap.sub_upd hn
    simp only [iwp] at h ⊢
    split at h
    · rename_i ys hys
      rw [cellsAt_sub hs hys]
      refine ⟨h.1, h.2.1, ?_⟩
      have h := h.2.2
      have hfr : ∀ m, Heap.upd H n (some c) m = none → m ≠ n ∧ H m = none := fun m hm => by
        have hmn : m ≠ n := fun e => by subst e; rw [upd_same] at hm; cases hm
        rw [upd_ne _ _ _ _ hmn] at hm
        exact ⟨hmn, hm⟩
      by_cases hz : lenV (x.ev env) = 0
      · rw [if_pos hz] at h ⊢; exact ⟨⟨H, h.1, hn, rfl⟩, h.2⟩
      · rw [if_neg hz] at h ⊢
        split at h
        · intro m hm
          obtain ⟨hmn, hm⟩ := hfr m hm
          exact ⟨_, h m hm, by rw [upd_ne _ _ _ _ (Ne.symm hmn)]; exact hn, upd_comm H _ _ (Ne.symm hmn)⟩
        · rename_i nm off len full hsv
          split at h
          · rename_i b hb
            have hnn : n ≠ nm := fun e => by subst e; rw [hn] at hb; cases hb
            simp only [hs _ _ hb]
            obtain ⟨hoff, h⟩ := h
            refine ⟨hoff, ?_⟩
            by_cases hf : full = true
            · rw [if_pos hf] at h ⊢
              refine ⟨h.1, fun m hm => ?_⟩
              obtain ⟨hmn, hm⟩ := hfr m hm
              exact ⟨_, h.2 m hm, by rw [upd_ne _ _ _ _ (Ne.symm hmn)]; exact hn, upd_comm H _ _ (Ne.symm hmn)⟩
            · rw [if_neg hf] at h ⊢
              refine ⟨h.1, h.2.1, h.2.2.1, h.2.2.2.1, fun m hm => ?_⟩
              obtain ⟨hmn, hm⟩ := hfr m hm
              refine ⟨_, h.2.2.2.2 m hm, by rw [upd_ne _ _ _ _ (Ne.symm hmn), upd_ne _ _ _ _ hnn]; exact hn, ?_⟩
              rw [upd_comm H _ _ hnn, upd_comm (H.upd nm none) _ _ (Ne.symm hmn)]
          · exact h.elim
        · exact h.elim
    · exact h.elim

theorem apartOk_ld {a b : I} (h : apartOk a b = true) : ∃ (agg : Bool) (sz : Nat) (x : Opd) (r : Nat), a = .ld agg sz x (some r) := by
  cases a with
  | ld agg sz x rt =>
    cases rt with
    | some r => exact ⟨_, _, _, _, rfl⟩
    | none => cases b <;> cases h
  | _ => cases b <;> cases h

theorem sameName_spec {u v : V} (h : sameName u v = true) : ∃ m o o', u = .ptr m o ∧ v = .ptr m o' := by
  unfold sameName at h
  split at h
  · rename_i n o m o'
    have : n = m := by simpa using h
    subst this
    exact ⟨n, o, o', rfl, rfl⟩
  · cases h

theorem swap {P : Program} {a b : GI} (hs : swapOk a b = true) {K : Env → Heap → Prop} {env : Env} {H : Heap} (hm : b.i.kind = 3 → gok b.g env = true → ∃ f c, made b.i env = some (f, c)) (h : istep P a (istep P b K) env H) : istep P b (istep P a K) env H := by
  unfold swapOk at hs
  rw [Bool.and_eq_true] at hs
  obtain ⟨hi, hs⟩ := hs
  obtain ⟨i1, i2, i3⟩ := indep_spec hi
  have ag1 : ∀ v, Agree b.slots (env.put a.d v) env := fun v => put_agree i1 env v
  have ag2 : ∀ v, Agree a.slots (env.put b.d v) env := fun v => put_agree i3 env v
  have pc : ∀ v u, (env.put a.d v).put b.d u = (env.put b.d u).put a.d v := fun v u => put_comm i2 env v u
  simp only [Bool.or_eq_true, Bool.and_eq_true, beq_iff_eq, Bool.not_eq_true'] at hs
  unfold istep at *
  -- a load beside a write
  by_cases hap : apartOk a.i b.i = true
  · obtain ⟨agg, sz, x, r, hai⟩ := apartOk_ld hap
    have hk : a.i.kind ≤ 1 := by rw [hai]; exact Nat.le_refl _
    rw [sE_fun hk] at h
    obtain ⟨v, hv, h⟩ := h
    have h := sE_agree (ag1 v) h
    by_cases hga : gok a.g env = true
    · have hv' := hv
      unfold fval at hv'
      rw [if_pos hga, hai] at hv'
      simp only [pv] at hv'
      split at hv'
      · rename_i hsn
        obtain ⟨m, o, o', hx, hr⟩ := sameName_spec hsn
        rw [hx] at hv'
        have hblk : ∃ blk, H m = some blk := by
          simp only [ldV] at hv'
          cases hb : H m with
          | some blk => exact ⟨blk, rfl⟩
          | none => rw [hb] at hv'; cases hv'
        obtain ⟨blk, hb⟩ := hblk
        have h2 : sE P b (fun u H' => H' m = some blk ∧ K ((env.put a.d v).put b.d u) H') env H := by
          unfold sE at h ⊢
          split
          · rename_i hg; rw [if_pos hg] at h
            split
            · rename_i hp; rw [if_pos hp] at h
              exact iwp_mono (iwp_off hap hai hr hb h) fun u H' ⟨a, b, c⟩ => ⟨b, a, c⟩
            · rename_i hp; rw [if_neg hp] at h; exact iwp_off hap hai hr hb h
          · rename_i hg; rw [if_neg hg] at h; exact ⟨hb, h⟩
        refine sE_mono h2 fun u H' ⟨hb', hK⟩ => (sE_fun hk).2 ⟨v, ?_, ?_⟩
        · rw [fval_agree (ag2 u)]
          unfold fval
          rw [if_pos hga, hai]
          simp only [pv]
          rw [if_pos hsn, hx]
          simp only [ldV, hb'] at hv' ⊢
          simp only [hb] at hv'
          exact hv'
        · rw [← pc]; exact hK
      · cases hv'
    · refine sE_mono h fun u H' hK => (sE_fun hk).2 ⟨v, ?_, ?_⟩
      · rw [fval_agree (ag2 u)]
        unfold fval at hv ⊢
        rw [if_neg hga] at hv ⊢
        exact hv
      · rw [← pc]; exact hK
  replace hs := hs.resolve_left hap
  by_cases hfun : a.i.kind = 0 ∨ (a.i.kind = 1 ∧ b.adds = true)
  · have hk : a.i.kind ≤ 1 := by rcases hfun with h | h <;> omega
    rw [sE_fun hk] at h
    obtain ⟨v, hv, h⟩ := h
    have h := sE_agree (ag1 v) h
    rcases hfun with h0 | ⟨_, had⟩
    · refine sE_mono h fun u H' hK => (sE_fun hk).2 ⟨v, ?_, ?_⟩
      · rw [fval_agree (ag2 u), ← hv]; exact fval_heap h0
      · rw [← pc]; exact hK
    · refine sE_mono (sE_adds had h) fun u H' ⟨hsub, hK⟩ => (sE_fun hk).2 ⟨v, ?_, ?_⟩
      · rw [fval_agree (ag2 u)]; exact fval_sub hk hsub hv
      · rw [← pc]; exact hK
  · by_cases hga : gok a.g env = true
    · by_cases hgb : gok b.g env = true
      · have hb3 : b.i.kind = 3 := by
          rcases hs with h1 | ((h1 | h1) | h1) | h1
          · exact h1.2
          · exact absurd (.inl h1) hfun
          · exact absurd (.inr h1) hfun
          · exact h1.2
          · exact h1.2
        rw [sE_made hb3 hgb]
        rcases hs with h1 | ((h1 | h1) | h1) | h1
        · -- an append, then what makes memory
          obtain ⟨⟨hia, hpa⟩, _⟩ := h1
          obtain ⟨f, c, hm⟩ := hm hb3 hgb
          refine ⟨f, c, hm, fun n hn => ?_⟩
          unfold sE at h
          rw [if_pos hga, hpa] at h
          simp only [Bool.false_eq_true, if_false] at h
          unfold sE
          rw [gok_agree (ag2 (f n)).right, if_pos hga, hpa]
          simp only [Bool.false_eq_true, if_false]
          refine iwp_agree (ag2 (f n)).left.symm (iwp_mono (app_frame hia hn c h) fun v H'' ⟨H1, hr, hn1, he⟩ => ?_)
          subst he
          have hr' : sE P b (fun u H'' => K ((env.put a.d v).put b.d u) H'') (env.put a.d v) H1 := hr
          have hr2 := sE_agree (ag1 v) hr'
          rw [sE_made hb3 hgb] at hr2
          obtain ⟨f', c', hm', hr2⟩ := hr2
          rw [hm] at hm'
          obtain ⟨rfl, rfl⟩ := Prod.mk.inj (Option.some.inj hm')
          rw [← pc]; exact hr2 n hn1
        · exact absurd (.inl h1) hfun
        · exact absurd (.inr h1) hfun
        · -- a call, then what makes a cell
          obtain ⟨⟨ha2, hap⟩, halw⟩ := h1
          obtain ⟨f, c, hm⟩ := hm hb3 hgb
          refine ⟨f, c, hm, fun n hn => ?_⟩
          unfold sE at h
          rw [if_pos hga, if_pos hap] at h
          unfold sE
          rw [gok_agree (ag2 (f n)).right, if_pos hga, if_pos hap]
          refine iwp_agree (ag2 (f n)).left.symm ?_
          have key : ∀ (g : FuncId) (args : List V), ACalls P g args H (fun v H' => Heap.sub H H' ∧ (if gok b.g (env.put a.d v) then (if b.p then iwp P b.i (fun u H'' => Heap.sub H' H'' ∧ K ((env.put a.d v).put b.d u) H'') (env.put a.d v) H' else
              iwp P b.i (fun u H'' => K ((env.put a.d v).put b.d u) H'') (env.put a.d v) H') else K ((env.put a.d v).put b.d und) H')) →
              ACalls P g args (H.upd n (some c)) (fun v H' => Heap.sub (H.upd n (some c)) H' ∧ K ((env.put b.d (f n)).put a.d v) H') := by
            intro g args hc
            refine (hc.frame hn c).mono fun v H' ⟨H1, ⟨hsub, hr⟩, hn1, he⟩ => ?_
            subst he
            have hr' : sE P b (fun u H'' => K ((env.put a.d v).put b.d u) H'') (env.put a.d v) H1 := hr
            have hr2 := sE_agree (ag1 v) hr'
            rw [sE_made hb3 hgb] at hr2
            obtain ⟨f', c', hm', hr2⟩ := hr2
            rw [hm] at hm'
            obtain ⟨rfl, rfl⟩ := Prod.mk.inj (Option.some.inj hm')
            refine ⟨fun m d hd => ?_, by rw [← pc]; exact hr2 n hn1⟩
            by_cases hmn : m = n
            · subst hmn; rw [upd_same] at hd ⊢; exact hd
            · rw [upd_ne _ _ _ _ hmn] at hd ⊢; exact hsub _ _ hd
          generalize a.i = ai at ha2 h ⊢
          cases ai <;> simp only [I.kind] at ha2 <;> first | omega | skip
          · simp only [iwp] at h ⊢
            split at h
            · exact key _ _ h
            · exact h
          · simp only [iwp] at h ⊢
            split at h
            · exact ⟨h.1, key _ _ h.2⟩
            · exact h
        · -- two that make memory
          obtain ⟨ha3, _⟩ := h1
          rw [sE_made ha3 hga] at h
          obtain ⟨f1, c1, hm1, h⟩ := h
          obtain ⟨f2, c2, hm2⟩ := hm hb3 hgb
          refine ⟨f2, c2, hm2, fun m hm => ?_⟩
          rw [sE_made ha3 (by rw [gok_agree (ag2 (f2 m)).right]; exact hga)]
          refine ⟨f1, c1, by rw [made_agree (ag2 (f2 m)).left]; exact hm1, fun n hn => ?_⟩
          have hnm : n ≠ m := fun e => by subst e; rw [upd_same] at hn; cases hn
          rw [upd_ne _ _ _ _ hnm] at hn
          have h2 := sE_agree (ag1 (f1 n)) (h n hn)
          rw [sE_made hb3 hgb] at h2
          obtain ⟨f2', c2', hm2', h2⟩ := h2
          rw [hm2] at hm2'
          obtain ⟨rfl, rfl⟩ := Prod.mk.inj (Option.some.inj hm2')
          have := h2 m (by rw [upd_ne _ _ _ _ (Ne.symm hnm)]; exact hm)
          rw [← pc, upd_comm H _ _ (Ne.symm hnm)]
          exact this
      · -- b does not run
        have hb' : ∀ v, gok b.g (env.put a.d v) = false := fun v => by rw [gok_agree (ag1 v).right]; simpa using hgb
        have goal : sE P a (fun v' H'' => K ((env.put b.d und).put a.d v') H'') (env.put b.d und) H := by
          refine sE_agree (ag2 und).symm (sE_mono h fun v H' hK => ?_)
          unfold sE at hK
          rw [hb' v] at hK
          simp only [Bool.false_eq_true, if_false] at hK
          rw [← pc]; exact hK
        have e : sE P b (fun v H' => sE P a (fun v_1 H' => K ((env.put b.d v).put a.d v_1) H') (env.put b.d v) H') env H = sE P a (fun v' H'' => K ((env.put b.d und).put a.d v') H'') (env.put b.d und) H := by
          rw [sE, if_neg hgb]
        rw [e]; exact goal
    · -- a does not run
      have e : sE P a (fun v H' => sE P b (fun v_1 H' => K ((env.put a.d v).put b.d v_1) H') (env.put a.d v) H') env H = sE P b (fun v' H'' => K ((env.put a.d und).put b.d v') H'') (env.put a.d und) H := by
        rw [sE, if_neg hga]
      rw [e] at h
      refine sE_mono (sE_agree (ag1 und) h) fun u H' hK => ?_
      unfold sE
      rw [gok_agree (ag2 u).right, if_neg hga]
      show K ((env.put b.d u).put a.d und) H'
      rw [← pc]; exact hK


/-! ### what is told to an instruction besides -/

def stripI (i : I) : I :=
  match i with
  | .ld a sz x _ => .ld a sz x none
  | .st sz a x _ => .st sz a x []
  | .app sz b s x _ => .app sz b s x []
  | i => i

def GI.strip (gi : GI) : GI := { gi with i := stripI gi.i }

theorem iwp_strip {P : Program} {i : I} {KK : V → Heap → Prop} {env : Env} {H : Heap} (h : iwp P i KK env H) : iwp P (stripI i) KK env H := by
  cases i
  case ld agg sz x rt =>
    simp only [stripI, iwp, pv] at h ⊢
    cases rt with
    | none => exact h
    | some r =>
      simp only at h
      split at h
      · rename_i v hv
        split at hv
        · rw [hv]; exact h
        · cases hv
      · exact h.elim
  case st sz a x av =>
    simp only [stripI, iwp] at h ⊢
    split at h
    · split at h
      · exact ⟨trivial, h.2⟩
      · exact h
    · exact h
  case app sz b s x av =>
    simp only [stripI, iwp] at h ⊢
    split at h
    · refine ⟨h.1, h.2.1, ?_⟩
      have h := h.2.2
      by_cases hz : lenV (x.ev env) = 0
      · rw [if_pos hz] at h ⊢; exact h
      · rw [if_neg hz] at h ⊢
        split at h
        · exact h
        · split at h
          · exact ⟨trivial, h.2⟩
          · exact h
        · exact h
    · exact h
  all_goals exact h

theorem istep_strip {P : Program} {gi : GI} {K : Env → Heap → Prop} {env : Env} {H : Heap} (h : istep P gi K env H) : istep P gi.strip K env H := by
  unfold istep sE at *
  by_cases hg : gok gi.g env = true
  · have hg' : gok gi.strip.g env = true := hg
    rw [if_pos hg] at h
    rw [if_pos hg']
    by_cases hp : gi.p = true
    · have hp' : gi.strip.p = true := hp
      rw [if_pos hp] at h; rw [if_pos hp']; exact iwp_strip h
    · have hp' : ¬ gi.strip.p = true := hp
      rw [if_neg hp] at h; rw [if_neg hp']; exact iwp_strip h
  · have hg' : ¬ gok gi.strip.g env = true := hg
    rw [if_neg hg] at h; rw [if_neg hg']; exact h

end Go.AM
