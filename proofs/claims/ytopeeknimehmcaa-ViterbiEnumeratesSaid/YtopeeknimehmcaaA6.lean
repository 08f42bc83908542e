/- Every quiet instruction gives what the program's operation gives. Conditions: as stated. -/
import Derived.Test.YtopeeknimehmcaaA5
set_option linter.unusedVariables false
set_option linter.unusedSimpArgs false
namespace Go.AM
open Go

theorem quiet_bin {P : Program} {n : Nat} {op : BinOp} {t : TypeId} {x y : Operand} {i : I} (h : cvBin P n op t x y = some i) {μ env H a w} (st : St n μ env H a w) {v : V} (hv : pv i env H = some v) :
    ∃ z, (do eqGuard op t x y (a.eval x) (a.eval y); binOp op t (a.eval x) (a.eval y) : Sem Value).run P w = .ok z w ∧ VRel μ v z := by
  unfold cvBin at h
  split at h
  · rename_i p q d hx hy hd
    have rx := cvO_sound hx st
    have ry := cvO_sound hy st
    split at h
    · obtain rfl := Option.some.inj h
      exact run_bin_int rx ry hv
    · split at h
      · rename_i neg hn
        obtain rfl := Option.some.inj h
        simp only [pv] at hv
        split at hv
        · rename_i b1 b2 e1 e2
          obtain rfl := Option.some.inj hv
          rw [e1] at rx; rw [e2] at ry
          simp only [VRel] at rx ry
          rw [rx, ry]
          exact ⟨_, run_beq hn hd _ _, by simp [VRel]⟩
        · cases hv
      · cases h
    · rename_i fs
      split at h
      · rename_i neg hn
        split at h
        · rename_i hc
          obtain rfl := Option.some.inj h
          simp only [pv] at hv
          split at hv
          · rename_i us vs e1 e2
            split at hv
            · rename_i hl
              obtain ⟨b, hb, rfl⟩ := Option.map_eq_some_iff.1 hv
              rw [e1] at rx; rw [e2] at ry
              simp only [Bool.and_eq_true, Bool.not_eq_true'] at hc
              exact ⟨_, run_eqs hn hd hc.1.1 hc.1.2 hc.2 rx ry hl hb, by simp [VRel]⟩
            · cases hv
          · cases hv
        · cases h
      · cases h
    · split at h
      · rename_i neg k hn hk
        split at h
        · rename_i h1
          obtain rfl := Option.some.inj h
          simp only [pv] at hv
          obtain ⟨b, hb, rfl⟩ := Option.map_eq_some_iff.1 hv
          exact ⟨_, run_isnil hn hd hk (fun _ => rfl) hb (.inl ⟨h1, rx⟩), by simp [VRel]⟩
        · split at h
          · rename_i h1
            obtain rfl := Option.some.inj h
            simp only [pv] at hv
            obtain ⟨b, hb, rfl⟩ := Option.map_eq_some_iff.1 hv
            exact ⟨_, run_isnil hn hd hk (fun _ => rfl) hb (.inr ⟨h1, ry⟩), by simp [VRel]⟩
          · cases h
      · cases h
  · cases h

/-- an operation comes to a value and leaves the world alone -/
def Quietly (P : Program) (a : Act) (o : Oper) (w : World) (μ : Map) (v : V) : Prop := ∃ x, (execOp a.eval o).run P w = .ok (.value x) w ∧ VRel μ v x

theorem quiet_sound {P : Program} {n : Nat} {ops : Array Oper} {o : Oper} {i : I} (h : cvI P n ops o.op = some i) {μ env H a w} (st : St n μ env H a w) {v : V} (hv : pv i env H = some v) : Quietly P a o w μ v := by
  unfold Quietly
  cases ho : o.op <;> rw [ho] at h <;> simp only [cvI] at h
  case move x =>
    obtain ⟨y, hy, rfl⟩ := Option.map_eq_some_iff.1 h
    simp only [pv, Option.some.injEq] at hv
    subst hv
    exact ⟨_, by simp [execOp, ho], cvO_sound hy st⟩
  case assign x =>
    obtain ⟨y, hy, rfl⟩ := Option.map_eq_some_iff.1 h
    simp only [pv, Option.some.injEq] at hv
    subst hv
    exact ⟨_, by simp [execOp, ho], cvO_sound hy st⟩
  case pick c x y =>
    split at h
    · rename_i c' x' y' hc hx hy
      obtain rfl := Option.some.inj h
      have rc := cvO_sound hc st
      simp only [pv] at hv
      split at hv
      · rename_i e
        obtain rfl := Option.some.inj hv
        rw [e] at rc; simp only [VRel] at rc
        exact ⟨_, by simp [execOp, ho, rc, asBool], cvO_sound hx st⟩
      · rename_i e
        obtain rfl := Option.some.inj hv
        rw [e] at rc; simp only [VRel] at rc
        exact ⟨_, by simp [execOp, ho, rc, asBool], cvO_sound hy st⟩
      · cases hv
    · cases h
  case load t x =>
    split at h
    · rename_i sz b y hs hx
      obtain rfl := Option.some.inj h
      obtain ⟨z, hz, hr⟩ := run_loadVar_ld hs st.sim (cvO_sound hx st) hv
      exact ⟨z, by simp [execOp, ho, hz], hr⟩
    · cases h
  case binOp op t x y yt =>
    obtain ⟨z, hz, hr⟩ := quiet_bin h st hv
    refine ⟨z, ?_, hr⟩
    have he : execOp a.eval o = (do pure (Next.value (← (do eqGuard op t x y (a.eval x) (a.eval y); binOp op t (a.eval x) (a.eval y) : Sem Value))) : Sem Next) := by simp only [execOp, ho]
    rw [he, Sem.run_bind, hz]; rfl
  case unOp op t x =>
    obtain ⟨y, hy, rfl⟩ := Option.map_eq_some_iff.1 h
    have rx := cvO_sound hy st
    simp only [pv] at hv
    unfold unV at hv
    split at hv
    · rename_i e
      obtain rfl := Option.some.inj hv
      rw [e] at rx; simp only [VRel] at rx
      exact ⟨_, by simp [execOp, ho, rx, Op.unary, Op.intArith]; rfl, by simp [VRel]⟩
    · rename_i e
      obtain rfl := Option.some.inj hv
      rw [e] at rx; simp only [VRel] at rx
      exact ⟨_, by simp [execOp, ho, rx, Op.unary]; rfl, by simp [VRel]⟩
    · cases hv
  case convert src dst x =>
    split at h
    · rename_i d k y h1 h2 hx
      obtain rfl := Option.some.inj h
      have rx := cvO_sound hx st
      simp only [pv] at hv
      split at hv
      · rename_i k' m e
        obtain rfl := Option.some.inj hv
        rw [e] at rx; simp only [VRel] at rx
        exact ⟨_, by simp [execOp, ho, rx, convert, run_underlying h1, run_underlying h2, Conv.intToInt]; rfl, by simp [VRel]⟩
      · cases hv
    · cases h
  case makeInterface t x =>
    split at h
    · cases h
    · rename_i d y hd hx hne
      obtain rfl := Option.some.inj h
      simp only [pv, Option.some.injEq] at hv
      subst hv
      refine ⟨.iface t (a.eval x), ?_, ?_⟩
      · simp only [execOp, ho, Instr.makeInterface, Sem.run_bind, run_underlying hx, Result.andThen_ok]
        cases d <;> first | rfl | (rename_i ms; exact absurd rfl (hd ms _ hx rfl))
      · simp only [VRel]
        exact ⟨_, rfl, cvO_sound hne st⟩
    · cases h
  case makeFunc fn first captured =>
    cases fn with
    | func g =>
      simp only at h
      split at h
      · rename_i xs hf hx
        obtain rfl := Option.some.inj h
        simp only [pv, Option.some.injEq] at hv
        subst hv
        refine ⟨.func (.func g) (first.map a.eval) (captured.map a.eval), by simp [execOp, ho, Instr.makeFunc], ?_⟩
        simp only [VRel]
        have : first = #[] := by simpa using hf
        subst this
        exact ⟨captured.map a.eval, by simp, by simpa using cvOs_sound hx st⟩
      · cases h
    | _ => cases h
  case slice t x lo hi mx =>
    split at h
    · rename_i e he
      split at h
      · rename_i sz b x' lo' hi' mx' hs hx hlo hhi hmx
        obtain rfl := Option.some.inj h
        have ht : P.underlying t = some (.slice e) := by
          unfold elemT at he; split at he
          · rename_i h1; rw [h1]; simpa using he
          · cases he
        obtain ⟨y, hy, hr⟩ := sliV_sound st ht hs hx hlo hhi hmx hv
        exact ⟨y, by simp [execOp, ho, hy], hr⟩
      · cases h
    · cases h
  case fieldAddr t x f =>
    split at h
    · rename_i fs y ht hx
      split at h
      · rename_i fd hfd
        split at h
        · rename_i sz b hs
          split at h
          · rename_i h0
            obtain rfl := Option.some.inj h
            obtain ⟨i, d, hi, hd, h3, h4⟩ := szT_some hs
            have rx := cvO_sound hx st
            simp only [pv] at hv
            split at hv
            · rename_i nm o e
              obtain rfl := Option.some.inj hv
              rw [e] at rx; simp only [VRel] at rx
              obtain ⟨l, hl, rx⟩ := rx
              refine ⟨.pointer (some ⟨l.b, l.x + (o + fd.offset), none⟩), ?_, ?_⟩
              · have hne : i.size ≠ 0 := by omega
                simp [execOp, ho, rx, Instr.fieldAt, run_underlying ht, hfd, Instr.sureAddr, fieldPlace, run_sizeT hi, hne, addr_add, Nat.add_assoc]
              · simp only [VRel]; exact ⟨l, hl, rfl⟩
            · cases hv
          · cases h
        · cases h
      · cases h
    · cases h
  case field t x f =>
    split at h
    · rename_i fs y ht hx
      split at h
      · rename_i fd hfd
        split at h
        · rename_i sz b hs
          obtain rfl := Option.some.inj h
          have rx := cvO_sound hx st
          simp only [pv] at hv
          split at hv
          · rename_i us e
            rw [e] at rx; simp only [VRel] at rx
            obtain ⟨ar, rx, hr, h1⟩ := rx
            obtain ⟨z, hz, hrz⟩ := part_run (P := P) hs hr h1 w hv
            exact ⟨z, by simp [execOp, ho, rx, Instr.field, run_underlying ht, hfd, asAgg, hz], hrz⟩
          · cases hv
        · cases h
      · cases h
    · cases h
  case indexAddr t x j =>
    split at h
    · rename_i e he
      split at h
      · rename_i sz b x' j' hs hx hj
        obtain rfl := Option.some.inj h
        have ht : P.underlying t = some (.slice e) := by
          unfold elemT at he; split at he
          · rename_i h1; rw [h1]; simpa using he
          · cases he
        obtain ⟨i, d, hi, hd, h3, h4⟩ := szT_some hs
        have rx := cvO_sound hx st
        have rj := cvO_sound hj st
        simp only [pv] at hv
        split at hv
        · rename_i nm o len full k jj e1 e2
          split at hv
          · rename_i hc
            obtain rfl := Option.some.inj hv
            rw [e1] at rx; rw [e2] at rj
            simp only [VRel] at rx rj
            obtain ⟨l, ad, cap, hl, rx, hcap, hful, hb, hat, hroom⟩ := rx
            have hne : len ≠ 0 := by omega
            have had := hat (.inl hne)
            refine ⟨.pointer (some ⟨l.b, l.x + (o + jj.toNat * sz), none⟩), ?_, ?_⟩
            · simp [execOp, ho, rx, rj, Instr.indexAt, run_underlying ht, asIntOf, hc, run_sizeT hi, h3, had, addr_add, Nat.add_assoc]
            · simp only [VRel]; exact ⟨l, hl, rfl⟩
          · cases hv
        · cases hv
      · cases h
    · cases h
  case extract x j =>
    obtain ⟨y, hy, rfl⟩ := Option.map_eq_some_iff.1 h
    have rx := cvO_sound hy st
    simp only [pv] at hv
    split at hv
    · rename_i vs e
      rw [e] at rx; simp only [VRel] at rx
      obtain ⟨ar, rx, hr⟩ := rx
      obtain ⟨z, hz, hrz⟩ := hr.get j v hv
      have : ar[j]? = some z := by simpa using hz
      exact ⟨z, by simp [execOp, ho, rx, Instr.extract, this], hrz⟩
    · cases hv
  case nilCheck x =>
    obtain ⟨y, hy, rfl⟩ := Option.map_eq_some_iff.1 h
    have rx := cvO_sound hy st
    simp only [pv] at hv
    split at hv
    all_goals first
      | cases hv
      | skip
    all_goals
      rename_i e
      rw [e] at rx
      have rx' := rx
      simp only [VRel] at rx
    · obtain ⟨l, hl, rx⟩ := rx
      exact ⟨_, by simp [execOp, ho, rx], rx ▸ rx'⟩
    · obtain ⟨cs, rx, hr⟩ := rx
      exact ⟨_, by simp [execOp, ho, rx], rx ▸ rx'⟩
    · obtain ⟨l, ad, cap, hl, rx, _⟩ := rx
      exact ⟨_, by simp [execOp, ho, rx], rx ▸ rx'⟩
    · exact ⟨_, by simp [execOp, ho, rx], rx ▸ rx'⟩
  case build t parts =>
    split at h
    · rename_i fs zs ht hz
      split at h
      · rename_i pl hpl
        obtain ⟨ps, hps, rfl⟩ := Option.map_eq_some_iff.1 h
        simp only [pv] at hv
        obtain ⟨rs, hrs, rfl⟩ := Option.map_eq_some_iff.1 hv
        obtain ⟨i, z, u, hi, hzz, hcv, rfl⟩ := zeroT_some hz
        obtain ⟨c, f1, f2, f3⟩ := fill_sound st (place := (pl[·]?)) (fun _ _ h => h) parts.toList ps _ rs z.cells hps (cvV_cells hcv) (cvV_sound μ 4 z u hcv).cells_one hrs
        have hm := fieldsT_run (P := P) (w := w) fs.toList pl hpl
        refine ⟨.agg c, ?_, ?_⟩
        · simp only [bind_pure_comp] at hm
          simp [execOp, ho, Instr.build, run_zeroT hi hzz, run_underlying ht, Array.mapM_eq_mapM_toList, hm, f1]
        · simp only [VRel]; exact ⟨c, rfl, f2, f3⟩
      · cases h
    · cases h
  case alloc t => obtain ⟨y, hy, rfl⟩ := Option.map_eq_some_iff.1 h; simp [pv] at hv
  case box t x => obtain ⟨y, hy, rfl⟩ := Option.map_eq_some_iff.1 h; simp [pv] at hv
  case buildSlice t len parts =>
    split at h
    · split at h
      · split at h
        · obtain ⟨y, hy, rfl⟩ := Option.map_eq_some_iff.1 h; simp [pv] at hv
        · cases h
      · cases h
    · cases h
  case store t x y =>
    split at h
    · obtain rfl := Option.some.inj h; simp [pv] at hv
    · cases h
  case makeSlice t l c =>
    split at h
    · split at h
      · split at h
        · obtain rfl := Option.some.inj h; simp [pv] at hv
        · cases h
      · cases h
    · cases h
  case call c =>
    obtain ⟨callee, args, argTypes⟩ := c
    unfold cvCall at h
    simp only at h
    split at h
    · split at h
      · obtain rfl := Option.some.inj h; simp [pv] at hv
      · cases h
    · split at h
      · split at h
        · split at h
          · obtain rfl := Option.some.inj h; simp [pv] at hv
          · cases h
        · cases h
      · cases h
    · unfold cvLen at h
      split at h
      · rename_i x t e1 e2
        split at h
        · rename_i e y ht hx
          obtain rfl := Option.some.inj h
          have ea : args = #[x] := by rw [← Array.toArray_toList (xs := args), e1]
          have et : argTypes = #[t] := by rw [← Array.toArray_toList (xs := argTypes), e2]
          subst ea; subst et
          obtain ⟨z, hz, hr⟩ := lenR_run (P := P) (ty := o.type) ht (cvO_sound hx st) w hv
          exact ⟨z, by simp [execOp, ho, resolve, invoke, builtin, hz], hr⟩
        · cases h
      · cases h
    · unfold cvApp at h
      split at h
      · split at h
        · split at h
          · split at h
            · obtain rfl := Option.some.inj h; simp [pv] at hv
            · cases h
          · cases h
        · cases h
      · cases h
    · unfold cvCpy at h
      split at h
      · split at h
        · split at h
          · split at h
            · obtain rfl := Option.some.inj h; simp [pv] at hv
            · cases h
          · cases h
        · cases h
      · cases h
    · unfold cvMM at h
      split at h
      · rename_i x y e1
        split at h
        · rename_i x' y' hx hy
          obtain rfl := Option.some.inj h
          have ea : args = #[x, y] := by rw [← Array.toArray_toList (xs := args), e1]
          subst ea
          obtain ⟨z, hz, hr⟩ := mm_run (P := P) (mx := true) (ty := o.type) (ts := argTypes) (cvO_sound hx st) (cvO_sound hy st) w hv
          simp only [if_true] at hz
          exact ⟨z, by simp [execOp, ho, resolve, invoke, builtin, hz], hr⟩
        · cases h
      · cases h
    · unfold cvMM at h
      split at h
      · rename_i x y e1
        split at h
        · rename_i x' y' hx hy
          obtain rfl := Option.some.inj h
          have ea : args = #[x, y] := by rw [← Array.toArray_toList (xs := args), e1]
          subst ea
          obtain ⟨z, hz, hr⟩ := mm_run (P := P) (mx := false) (ty := o.type) (ts := argTypes) (cvO_sound hx st) (cvO_sound hy st) w hv
          simp only [Bool.false_eq_true, if_false] at hz
          exact ⟨z, by simp [execOp, ho, resolve, invoke, builtin, hz], hr⟩
        · cases h
      · cases h
    · cases h
  all_goals cases h
end Go.AM
