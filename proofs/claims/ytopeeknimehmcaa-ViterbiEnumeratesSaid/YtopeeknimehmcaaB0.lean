/- Copies and calls, and every instruction together. Conditions: as stated. -/
import Derived.Test.YtopeeknimehmcaaA9
set_option linter.unusedVariables false
set_option linter.unusedSimpArgs false
namespace Go.AM
open Go

theorem VRels.take_len {μ : Map} {vs : List V} {xs : List Value} (h : VRels μ vs xs) (k : Nat) : VRels μ (vs.take k) (xs.take k) := h.take k

section
variable {P : Program} {n : Nat} {ops : Array Oper} {o : Oper} {μ : Map} {env : Env} {H : Heap} {a : Act} {w : World} {Q : Exit → Act → World → Prop} {K : V → Heap → Prop}

theorem sound_cpy {c : Call} {i : I} (ho : o.op = .call c) (hcal : c.callee = .builtin .copy) (hi : cvCpy P n c.args.toList c.argTypes.toList = some i) (st : St n μ env H a w) (h : iwp P i K env H) : o.wp P a w (Post μ H w a o K) Q := by
  obtain ⟨callee, args, argTypes⟩ := c
  simp only at hcal hi
  subst hcal
  unfold cvCpy at hi
  split at hi
  · rename_i dd s t u e1 e2
    split at hi
    · rename_i e e' dv sv he hu hd hs
      split at hi
      · rename_i sz bytes hsz
        split at hi
        · rename_i hc0
          obtain rfl := Option.some.inj hi
          have ea : args = #[dd, s] := by rw [← Array.toArray_toList (xs := args), e1]
          have et : argTypes = #[t, u] := by rw [← Array.toArray_toList (xs := argTypes), e2]
          subst ea; subst et
          obtain ⟨ii, d, i1, i2, i3, i4⟩ := szT_some hsz
          subst i3
          have rd := cvO_sound hd st
          have rs := cvO_sound hs st
          simp only [iwp] at h
          split at h
          · rename_i ys nm off len full hys e
            split at h
            · rename_i b hb
              obtain ⟨how, hle, h⟩ := h
              rw [e] at rd; simp only [VRel] at rd
              obtain ⟨l, ad, cap, hl, hde, hcap, hful, hbl, hat, hroom⟩ := rd
              obtain ⟨hyl, ⟨new, hnew, hnv⟩, hx1, xb, xc, hxe⟩ := cellsAt_run (P := P) st.sim rs hys (k := min (lenV (sv.ev env)) len) (Nat.min_le_left _ _)
              rw [hxe] at hnew
              generalize hk : lenV (sv.ev env) = k at *
              have hl1 : (ys.take (min k len * ii.size)).length = min k len * ii.size := by
                rw [List.length_take, hyl]
                have : min k len * ii.size ≤ k * ii.size := Nat.mul_le_mul_right _ (Nat.min_le_left _ _)
                omega
              have hl2 : min k len * ii.size ≤ len * ii.size := Nat.mul_le_mul_right _ (Nat.min_le_right _ _)
              obtain ⟨w', hst, tr, sm⟩ := write_owned (P := P) st.sim hb how hl (off := off) hnv (fun v hv => hx1 v (List.mem_of_mem_take hv)) (by omega)
              have hst' : (storeCells ad new).run P w = .ok () w' := by
                by_cases h0 : len = 0
                · have : new = [] := by
                    have h5 := hnv.length
                    rw [hl1, h0, Nat.min_zero, Nat.zero_mul] at h5
                    exact List.length_eq_zero_iff.1 h5.symm
                  subst this
                  simp only [storeCells, Sem.run_pure] at hst ⊢
                  exact hst
                · rw [hat (.inl h0)]; exact hst
              have hrun : (execOp a.eval o).run P w = .ok (.value (goInt (min k len : Nat))) w' := by
                have hn := hnew w rfl
                have hmin : Nat.min k len = min k len := rfl
                simp [execOp, ho, resolve, invoke, builtin, Builtin.copy_, run_underlying (elemT_some he), hde, hxe, Builtin.lenOf, run_sizeT i1, hmin, hn, hst']
              refine sound_value hrun ⟨μ, _, _, _, tr, sm, ?_, rfl, h⟩
              simp only [VRel, goInt]
              congr 1; omega
            · exact h.elim
          · rename_i ys hys e
            rw [e] at rd; simp only [VRel] at rd
            obtain ⟨hyl, ⟨new, hnew, hnv⟩, hx1, xb, xc, hxe⟩ := cellsAt_run (P := P) st.sim rs hys (k := 0) (Nat.zero_le _)
            rw [hxe] at hnew
            have hrun : (execOp a.eval o).run P w = .ok (.value (goInt 0)) w := by
              have hn := hnew w rfl
              have hmin : Nat.min (lenV (sv.ev env)) 0 = 0 := Nat.min_zero _
              simp [execOp, ho, resolve, invoke, builtin, Builtin.copy_, run_underlying (elemT_some he), rd, hxe, Builtin.lenOf, run_sizeT i1, hmin, hn]
            exact sound_value hrun ⟨μ, _, _, _, Tr.refl _ _ _, st.sim, by simp [VRel, goInt], rfl, h⟩
          · exact h.elim
        · cases hi
      · cases hi
    · cases hi
  · cases hi

theorem run_callFunc {f : FuncId} (h : okFn P f = true) (args : Array Value) (w : World) : (callFunc f args).run P w = .ok (.enter f args) w := by
  unfold okFn at h
  split at h
  · rename_i fn hf
    simp only [Bool.and_eq_true, bne_iff_ne, ne_eq] at h
    have hb : fn.body.isNone = false := by
      cases e : fn.body with
      | none => simp [e] at h
      | some b => rfl
    simp only [callFunc, Sem.run_bind, run_program, Result.andThen_ok, hf]
    rw [if_neg (by simpa using h.2), hb]
    rfl
  · cases h

theorem sound_enter {f : FuncId} {cargs : Array Value} {args : List V} (hr : (execOp a.eval o).run P w = .ok (.enter f cargs) w) (st : St n μ env H a w) (hv : VRels μ args cargs.toList) (h : ACalls P f args H K) :
    o.wp P a w (Post μ H w a o K) Q := by
  unfold Oper.wp
  rw [hr]
  refine (h.2 μ w cargs st.sim hv).mono fun e w' ⟨μ', cv, v, H', he, tr, sm, rv, hk⟩ => ?_
  subst he
  exact ⟨μ', v, cv, H', tr, sm, rv, rfl, hk⟩

theorem sound_call {c : Call} {i : I} (ho : o.op = .call c) (hi : cvCall P n ops c = some i) (hnb : ∀ b, c.callee ≠ .builtin b) (st : St n μ env H a w) (h : iwp P i K env H) : o.wp P a w (Post μ H w a o K) Q := by
  obtain ⟨callee, args, argTypes⟩ := c
  unfold cvCall at hi
  cases callee with
  | builtin b => exact absurd rfl (hnb b)
  | value f =>
    simp only at hi
    split at hi
    · rename_i g xs hg hxs
      obtain rfl := Option.some.inj hi
      have rg := cvO_sound hg st
      have rxs := cvOs_sound hxs st
      simp only [iwp] at h
      split at h
      · rename_i fn caps e
        rw [e] at rg; simp only [VRel] at rg
        obtain ⟨cs, hf, rcs⟩ := rg
        refine sound_enter (cargs := args.map a.eval ++ cs) ?_ st (by simpa using rxs.append rcs) h
        simp [execOp, ho, resolve, hf, Deferred.ofValue, invoke, run_callFunc h.1]
      · exact h.elim
    · cases hi
  | invoke r name =>
    simp only at hi
    split at hi
    · rename_i x xs t hx hxs ht
      split at hi
      · rename_i f hf
        split at hi
        · rename_i hok
          obtain rfl := Option.some.inj hi
          have rx := cvO_sound hx st
          have rxs := cvOs_sound hxs st
          simp only [iwp] at h
          split at h
          · rename_i t' v e
            obtain ⟨rfl, h⟩ := h
            rw [e] at rx; simp only [VRel] at rx
            obtain ⟨y, hy, ry⟩ := rx
            refine sound_enter (cargs := #[y] ++ args.map a.eval) ?_ st ?_ h
            · have hm : ∀ fuel, (method (fuel + 1) t' y name).run P w = .ok (f, y) w := by
                intro fuel
                unfold methT at hf
                split at hf
                · rename_i i0 d hi0 hd
                  split at hf
                  · cases hf
                  · rename_i hnp
                    obtain ⟨m, hfind, hm⟩ := Option.bind_eq_some_iff.1 hf
                    unfold methOk at hm
                    split at hm
                    · rename_i f' hp hfn
                      obtain rfl := Option.some.inj hm
                      have hpe : m.path.isEmpty = true := by
                        have : m.path = #[] := by rw [← Array.toArray_toList (xs := m.path), hp]
                        rw [this]; rfl
                      simp only [method, Sem.run_bind, run_infoT hi0, Result.andThen_ok, hfind, hp, follow, Sem.run_pure, hfn, receiverAt, run_underlying hd]
                      cases d <;> first | (simp [Place.get]; done) | (exact absurd rfl hnp)
                    · cases hm
                · cases hf
              have hdep : P.types.size + Made.depth = (P.types.size + Made.depth - 1) + 1 := by
                have : 0 < Made.depth := by decide
                omega
              have hm' : (method (P.types.size + Made.depth) t' y name).run P w = .ok (f, y) w := by rw [hdep]; exact hm _
              have h0 : (#[Value.iface t' y] ++ Array.map a.eval args)[0]? = some (.iface t' y) := by simp [Array.getElem?_append]
              have hx : (Array.map a.eval args).extract 0 args.size = Array.map a.eval args := by
                apply Array.ext'
                rw [Array.toList_extract]
                simp [List.extract_eq_take_drop]
                rw [List.take_of_length_le (by simp)]
              simp [execOp, ho, resolve, invoke, hy, h0, hx, callMethod, hm', run_callFunc hok]
            · simp only [VRels, Array.toList_append, List.singleton_append]
              exact ⟨y, _, by simp, ry, rxs⟩
          · exact h.elim
        · cases hi
      · cases hi
    · cases hi

/-- EVERY INSTRUCTION DOES WHAT THE OPERATION DOES THAT IT WAS MADE FROM. -/
theorem i_sound {i : I} (hi : cvI P n ops o.op = some i) (st : St n μ env H a w) (h : iwp P i K env H) : o.wp P a w (Post μ H w a o K) Q := by
  have quiet : (∀ v, pv i env H = some v → K v H → o.wp P a w (Post μ H w a o K) Q) := fun v hv hk => by
    obtain ⟨x, hx, rx⟩ := quiet_sound hi st hv
    exact sound_value hx ⟨μ, v, x, H, Tr.refl _ _ _, st.sim, rx, rfl, hk⟩
  have byQuiet : (match pv i env H with | some v => K v H | none => False) → o.wp P a w (Post μ H w a o K) Q := fun h => by
    split at h
    · rename_i v hv; exact quiet v hv h
    · exact h.elim
  cases ho : o.op
  case box t x =>
    have hi' := hi
    rw [ho] at hi'; simp only [cvI] at hi'
    obtain ⟨y, hy, rfl⟩ := Option.map_eq_some_iff.1 hi'
    exact sound_new ho hy st h
  case alloc t =>
    have hi' := hi
    rw [ho] at hi'; simp only [cvI] at hi'
    obtain ⟨y, hy, rfl⟩ := Option.map_eq_some_iff.1 hi'
    exact sound_zero ho hy st h
  case store t x y => exact sound_st ho hi st h
  case makeSlice t l c => exact sound_mk ho hi st h
  case buildSlice t l ps => exact sound_bsl ho hi st h
  case call c =>
    have hi' := hi
    rw [ho] at hi'; simp only [cvI] at hi'
    have hi2 := hi'
    unfold cvCall at hi2
    split at hi2
    · rename_i hcal; exact sound_call ho hi' (fun b => by rw [hcal]; exact fun h => by cases h) st h
    · rename_i hcal; exact sound_call ho hi' (fun b => by rw [hcal]; exact fun h => by cases h) st h
    · refine byQuiet ?_
      unfold cvLen at hi2
      split at hi2
      · split at hi2
        · obtain rfl := Option.some.inj hi2; exact h
        · cases hi2
      · cases hi2
    · rename_i hcal; exact sound_app ho hcal hi2 st h
    · rename_i hcal; exact sound_cpy ho hcal hi2 st h
    · refine byQuiet ?_
      unfold cvMM at hi2
      split at hi2
      · split at hi2
        · obtain rfl := Option.some.inj hi2; exact h
        · cases hi2
      · cases hi2
    · refine byQuiet ?_
      unfold cvMM at hi2
      split at hi2
      · split at hi2
        · obtain rfl := Option.some.inj hi2; exact h
        · cases hi2
      · cases hi2
    · cases hi2
  case makeFunc fn first captured =>
    refine byQuiet ?_
    rw [ho] at hi
    cases fn <;> simp only [cvI] at hi <;> try cases hi
    split at hi
    · obtain rfl := Option.some.inj hi; exact h
    · cases hi
  all_goals
    refine byQuiet ?_
    rw [ho] at hi
    simp only [cvI] at hi
  all_goals first
    | (cases hi; done)
    | (obtain ⟨y, hy, rfl⟩ := Option.map_eq_some_iff.1 hi; exact h)
    | (unfold cvBin at hi
       repeat' (first | (cases hi; done) | (obtain rfl := Option.some.inj hi; exact h) | split at hi))
    | (repeat' (first | (cases hi; done) | (obtain rfl := Option.some.inj hi; exact h) | (obtain ⟨y, hy, rfl⟩ := Option.map_eq_some_iff.1 hi; exact h) | split at hi))
end
end Go.AM
