/- The quiet instructions give what the program's operations give. Conditions: as each states. -/
import Derived.Test.YtopeeknimehmcaaA2
import Derived.Laws.CopyRow
import Derived.Laws.StructEq
import Derived.WideLaws
set_option linter.unusedVariables false
set_option linter.unusedSimpArgs false
namespace Go.AM
open Go

theorem addr_add (b x i : Nat) : (⟨b, x, none⟩ : Addr).add i = ⟨b, x + i, none⟩ := by
  unfold Addr.add; split
  · rename_i h; subst h; rfl
  · rfl

theorem mapO_some {α β : Type} {f : α → Option β} : ∀ {l : List α} {r : List β}, mapO f l = some r → l.length = r.length ∧ ∀ (i : Nat) (a : α) (b : β), l[i]? = some a → r[i]? = some b → f a = some b
  | [], r, h => by simp [mapO] at h; subst h; simp
  | a :: l, r, h => by
    simp only [mapO] at h
    split at h
    · cases h
    · rename_i b hb
      split at h
      · cases h
      · rename_i bs hbs
        obtain rfl := Option.some.inj h
        obtain ⟨h1, h2⟩ := mapO_some hbs
        refine ⟨by simp [h1], fun i x y hx hy => ?_⟩
        cases i with
        | zero => simp at hx hy; subst hx; subst hy; exact hb
        | succ i => simp at hx hy; exact h2 i x y hx hy

theorem cvV_sound (μ : Map) : ∀ (d : Nat) (x : Value) (v : V), cvV d x = some v → VRel μ v x
  | 0, x, v, h => by simp [cvV] at h
  | d + 1, x, v, h => by
    simp only [cvV] at h
    split at h
    case h_7 a =>
      split at h
      · rename_i cs hcs
        split at h
        · rename_i hall
          obtain rfl := Option.some.inj h
          obtain ⟨h1, h2⟩ := mapO_some hcs
          simp only [VRel]
          refine ⟨a, rfl, VRels.of_get h1.symm fun i u y hu hy => cvV_sound μ d y u (h2 i y u hy hu), fun c hc => ?_⟩
          exact List.all_eq_true.1 hall c hc
        · cases h
      · cases h
    all_goals first
      | (obtain rfl := Option.some.inj h; simp [VRel])
      | cases h

theorem cvO_sound {n : Nat} {x : Operand} {y : Opd} (h : cvO n x = some y) {μ env H a w} (st : St n μ env H a w) : VRel μ (y.ev env) (a.eval x) := by
  cases x with
  | tmp t =>
    simp only [cvO] at h
    split at h
    · rename_i ht
      obtain rfl := Option.some.inj h
      exact st.tmps t ht
    · cases h
  | const v =>
    simp only [cvO, Option.map_eq_some_iff] at h
    obtain ⟨u, hu, rfl⟩ := h
    exact cvV_sound μ 3 v u hu
  | func f =>
    simp only [cvO] at h
    obtain rfl := Option.some.inj h
    simp [Opd.ev, VRel, VRels, Act.eval]
  | global g => simp [cvO] at h

theorem cvOs_sound {n : Nat} {xs : List Operand} {ys : List Opd} (h : mapO (cvO n) xs = some ys) {μ env H a w} (st : St n μ env H a w) :
    VRels μ (ys.map (Opd.ev env)) (xs.map a.eval) := by
  obtain ⟨h1, h2⟩ := mapO_some h
  refine VRels.of_get (by simp [h1]) fun i v x hv hx => ?_
  rw [List.getElem?_map, Option.map_eq_some_iff] at hv hx
  obtain ⟨y, hy, rfl⟩ := hv
  obtain ⟨o, ho, rfl⟩ := hx
  exact cvO_sound (h2 i o y ho hy) st

theorem Bears.range {μ : Map} {w : World} {blk : Blk} {l : Loc} (h : Bears μ w blk l) {o k : Nat} (hk : o + k ≤ blk.cells.length) :
    ∃ cs : List Value, cs.length = k ∧ (∀ j v, cs[j]? = some v → w.cell? ((⟨l.b, l.x + o, none⟩ : Addr).add j) = some v) ∧ VRels μ ((blk.cells.drop o).take k) cs ∧
      (∀ c ∈ cs, c.oneCell' = true) := by
  have hcell : ∀ j, j < k → ∃ c v, blk.cells[o + j]? = some v ∧ w.cell? ⟨l.b, l.x + o + j, none⟩ = some c ∧ VRel μ v c ∧ v.one = true := fun j hj => by
    have hlt : o + j < blk.cells.length := by omega
    obtain ⟨c, h1, h2, h3⟩ := h.cells (o + j) _ (List.getElem?_eq_getElem hlt)
    exact ⟨c, _, List.getElem?_eq_getElem hlt, by rw [Nat.add_assoc]; exact h1, h2, h3⟩
  refine ⟨(List.range k).map fun j => (w.cell? ⟨l.b, l.x + o + j, none⟩).getD undef, by simp, fun j v hj => ?_, ?_, fun c hc => ?_⟩
  · rw [List.getElem?_map, Option.map_eq_some_iff] at hj
    obtain ⟨i, hi, rfl⟩ := hj
    obtain ⟨hlt, rfl⟩ := List.getElem?_eq_some_iff.1 hi
    simp only [List.length_range] at hlt
    obtain ⟨c, v, _, h2, _⟩ := hcell j hlt
    simp only [List.getElem_range]
    rw [addr_add, h2]; rfl
  · refine VRels.of_get (by simp; omega) fun i v x hv hx => ?_
    have hi : i < k := by
      have := (List.getElem?_eq_some_iff.1 hx).1
      simpa using this
    rw [List.getElem?_take_of_lt hi, List.getElem?_drop] at hv
    obtain ⟨c, u, h1, h2, h3, _⟩ := hcell i hi
    rw [h1] at hv
    obtain rfl := Option.some.inj hv
    rw [List.getElem?_map, List.getElem?_range hi] at hx
    simp only [Option.map_some, h2, Option.getD_some, Option.some.injEq] at hx
    subst hx; exact h3
  · rw [List.mem_map] at hc
    obtain ⟨j, hj, rfl⟩ := hc
    obtain ⟨c, v, _, h2, h3, h4⟩ := hcell j (List.mem_range.1 hj)
    rw [h2]; exact h3.one h4

theorem szT_some {P : Program} {t : TypeId} {sz bytes : Nat} (h : szT P t = some (sz, bytes)) : ∃ i d, P.info? t = some i ∧ P.underlying t = some d ∧ i.size = sz ∧ i.bytes = bytes := by
  simp only [szT] at h
  split at h
  · rename_i i d hi hd
    obtain ⟨h1, h2⟩ := Prod.mk.inj (Option.some.inj h)
    exact ⟨i, d, hi, hd, h1, h2⟩
  · cases h

theorem run_sizeT {P : Program} {t : TypeId} {i : TypeInfo} (h : P.info? t = some i) (w : World) : (sizeOf t).run P w = .ok i.size w := by
  simp [sizeOf, typeInfo, h]

theorem run_infoT {P : Program} {t : TypeId} {i : TypeInfo} (h : P.info? t = some i) (w : World) : (typeInfo t).run P w = .ok i w := by
  simp [typeInfo, h]

theorem run_aggT {P : Program} {t : TypeId} {d : TypeDesc} (h : P.underlying t = some d) (w : World) : (isAgg t).run P w = .ok (aggT P t) w := by
  simp only [isAgg, aggT, Sem.run_bind, run_underlying h, Result.andThen_ok, h]
  cases d <;> rfl

theorem run_loadVar_ld {P : Program} {t : TypeId} {sz bytes : Nat} (ht : szT P t = some (sz, bytes)) {μ H w} (hs : Sim μ H w) {v u : V} {x : Value} (hx : VRel μ v x)
    (hv : ldV H (aggT P t) sz v = some u) : ∃ y, (Instr.loadAt t x).run P w = .ok y w ∧ VRel μ u y := by
  cases v with
  | ptr n o =>
    simp only [VRel] at hx
    obtain ⟨l, hl, rfl⟩ := hx
    simp only [ldV] at hv
    split at hv
    · rename_i b hb
      obtain ⟨l', hl', hbe⟩ := hs.bears n b hb
      rw [hl] at hl'
      obtain rfl := Option.some.inj hl'
      obtain ⟨i, d, hi, hd, rfl, rfl⟩ := szT_some ht
      by_cases ha : aggT P t = true
      · rw [if_pos ha] at hv
        split at hv
        · rename_i hle
          obtain rfl := Option.some.inj hv
          obtain ⟨cs, hlen, hc, hr, h1⟩ := hbe.range hle
          refine ⟨.agg cs.toArray, ?_, ?_⟩
          · have := run_loadCells_list (P := P) w ⟨l.b, l.x + o, none⟩ cs hc
            simp [Instr.loadAt, Instr.sureAddr, loadVar, run_aggT hd, ha, run_sizeT hi, ← hlen, this]
          · simp only [VRel]
            refine ⟨_, rfl, by simpa using hr, fun c hc => ?_⟩
            obtain ⟨j, hj, e⟩ := List.mem_iff_getElem.1 hc
            have hj' : j < i.size := by
              have : j < ((b.cells.drop o).take i.size).length := hj
              simp at this; omega
            have : b.cells[o + j]? = some c := by
              have h2 : ((b.cells.drop o).take i.size)[j]? = some c := by rw [← e]; exact List.getElem?_eq_getElem hj
              rwa [List.getElem?_take_of_lt hj', List.getElem?_drop] at h2
            obtain ⟨_, _, _, h3⟩ := hbe.cells _ _ this
            exact h3
        · cases hv
      · rw [if_neg ha] at hv
        obtain ⟨c, h1, h2, _⟩ := hbe.cells o u hv
        have ha : aggT P t = false := by simpa using ha
        exact ⟨c, by simp [Instr.loadAt, Instr.sureAddr, loadVar, run_aggT hd, ha, h1], h2⟩
    · cases hv
  | _ => simp [ldV] at hv


theorem run_bin_int {P : Program} {op : BinOp} {t : TypeId} {x y : Operand} {w : World} {u v r : V} {cu cv : Value} {μ : Map} (hu : VRel μ u cu) (hv : VRel μ v cv)
    (h : binV op u v = some r) : ∃ z, (do eqGuard op t x y cu cv; binOp op t cu cv : Sem Value).run P w = .ok z w ∧ VRel μ r z := by
  unfold binV at h
  split at h
  all_goals first | cases h | skip
  all_goals
    simp only [VRel] at hu hv
    subst hu; subst hv
  all_goals first
    | (split at h
       · rename_i hc
         obtain rfl := Option.some.inj h
         first
           | (subst hc; refine ⟨_, ?_, rfl⟩; simp [eqGuard, binOp, Op.intArith, Op.intBits, Op.intCmp]; done)
           | (obtain ⟨rfl, hb⟩ := hc; refine ⟨_, ?_, rfl⟩; simp [eqGuard, binOp, Op.intDiv, hb]; done)
           | (refine ⟨_, ?_, rfl⟩; simp [eqGuard, binOp, Op.shift, Int.not_lt.2 hc]; done)
       · cases h)

theorem run_equal {P : Program} {t : TypeId} {x y : Value} {w : World} {r : Bool} (h : ∀ d, (Op.equalIn (d + 1) t x y).run P w = .ok r w) : (Op.equal t x y).run P w = .ok r w := h 9999
theorem run_equal2 {P : Program} {t : TypeId} {x y : Value} {w : World} {r : Bool} (h : ∀ d, (Op.equalIn (d + 2) t x y).run P w = .ok r w) : (Op.equal t x y).run P w = .ok r w := h 9998

theorem run_beq {P : Program} {op : BinOp} {neg : Bool} (hop : negOp op = some neg) {t : TypeId} (ht : P.underlying t = some .bool) {x y : Operand} {w : World} (a b : Bool) :
    (do eqGuard op t x y (.bool a) (.bool b); binOp op t (.bool a) (.bool b) : Sem Value).run P w = .ok (.bool ((a == b) != neg)) w := by
  have he : (Op.equal t (.bool a) (.bool b)).run P w = .ok (a == b) w := run_equal fun d => by simp [Op.equalIn, run_underlying ht]
  unfold negOp at hop
  split at hop
  · obtain rfl := Option.some.inj hop
    have : binOp .eql t (.bool a) (.bool b) = (do pure (.bool (← Op.equal t (.bool a) (.bool b))) : Sem Value) := rfl
    rw [this]; simp [eqGuard, he]
  · obtain rfl := Option.some.inj hop
    have : binOp .neq t (.bool a) (.bool b) = (do pure (.bool (!(← Op.equal t (.bool a) (.bool b)))) : Sem Value) := rfl
    rw [this]; simp [eqGuard, he]
  · cases hop

/-- an equality whose answer is known, outside the numbers -/
theorem run_eq_of {P : Program} {op : BinOp} {neg : Bool} (hop : negOp op = some neg) {t : TypeId} {x y : Operand} {u v : Value} {w : World} {b : Bool}
    (h1 : binOp .eql t u v = (do pure (.bool (← Op.equal t u v)) : Sem Value)) (h2 : binOp .neq t u v = (do pure (.bool (!(← Op.equal t u v))) : Sem Value))
    (hg : (eqGuard op t x y u v).run P w = .ok () w) (he : (Op.equal t u v).run P w = .ok b w) :
    (do eqGuard op t x y u v; binOp op t u v : Sem Value).run P w = .ok (.bool (b != neg)) w := by
  unfold negOp at hop
  split at hop
  · obtain rfl := Option.some.inj hop
    rw [h1]; simp [hg, he]
  · obtain rfl := Option.some.inj hop
    rw [h2]; simp [hg, he]
  · cases hop

theorem run_isnil {P : Program} {op : BinOp} {neg : Bool} (hop : negOp op = some neg) {t : TypeId} {d : TypeDesc} (ht : P.underlying t = some d) {k : Nat} (hk : nilKind d = some k)
    {x y : Operand} {a : Operand → Value} (ha : ∀ v, a (.const v) = v) {w : World} {μ : Map} {u : V} {b : Bool} (hb : nilV k u = some b)
    (h : (isNilOpd k y = true ∧ VRel μ u (a x)) ∨ (isNilOpd k x = true ∧ VRel μ u (a y))) :
    (do eqGuard op t x y (a x) (a y); binOp op t (a x) (a y) : Sem Value).run P w = .ok (.bool (b != neg)) w := by
  unfold nilKind at hk
  split at hk
  all_goals first | cases hk | skip
  all_goals
    obtain ⟨h1, h2⟩ | ⟨h1, h2⟩ := h
  all_goals
    unfold isNilOpd at h1
    split at h1
    all_goals first | cases h1 | skip
  all_goals
    unfold nilV at hb
    split at hb
    all_goals first | cases hb | skip
  all_goals first
    | contradiction
    | skip
  all_goals
    simp only [VRel] at h2
    try obtain ⟨l, a', cap, hl, h2, _⟩ := h2
    try obtain ⟨l, hl, h2⟩ := h2
    first | rw [ha, h2] | rw [ha, hl]
    refine run_eq_of hop rfl rfl ?_ (run_equal fun d => ?_)
    · unfold negOp at hop; split at hop <;> first | (simp [eqGuard]; done) | cases hop
    · simp [Op.equalIn, run_underlying ht]

theorem run_eqFields {P : Program} {μ : Map} (d : Nat) (xs ys : Array Value) (w : World) : ∀ (fs : List Field) (i : Nat) (us vs : List V) (b : Bool), intsFrom P i fs = true → us.length = fs.length →
    (∀ (j : Nat) u, us[j]? = some u → ∃ c, xs[i + j]? = some c ∧ VRel μ u c) → (∀ (j : Nat) u, vs[j]? = some u → ∃ c, ys[i + j]? = some c ∧ VRel μ u c) → eqCells us vs = some b →
    (Op.eqFields (d + 1) xs ys fs).run P w = .ok b w
  | [], i, us, vs, b, _, hl, _, _, hb => by
    simp at hl; subst hl
    cases vs with
    | nil => simp [eqCells] at hb; subst hb; simp [Op.eqFields]
    | cons v r => simp [eqCells] at hb
  | f :: fs, i, us, vs, b, hf, hl, hx, hy, hb => by
    cases us with
    | nil => simp at hl
    | cons u us =>
      unfold eqCells at hb
      split at hb
      · rename_i heq; cases heq
      · rename_i k a r k' a' s heq
        obtain ⟨rfl, rfl⟩ := List.cons.inj heq
        split at hb
        · rename_i hk
          subst hk
          obtain ⟨e, he, rfl⟩ := Option.map_eq_some_iff.1 hb
          simp only [intsFrom, Bool.and_eq_true, beq_iff_eq, bne_iff_ne] at hf
          obtain ⟨⟨⟨h1, h2⟩, h3⟩, h4⟩ := hf
          obtain ⟨c1, hc1, r1⟩ := hx 0 _ rfl
          obtain ⟨c2, hc2, r2⟩ := hy 0 _ rfl
          simp only [VRel] at r1 r2
          subst r1; subst r2
          have hagg : aggT P f.type = false := by
            unfold aggT; split at h3
            · rename_i k3 h3'; rw [h3']
            · cases h3
          have hund : ∃ k, P.underlying f.type = some (.int k) := by
            split at h3
            · rename_i k3 h3'; exact ⟨k3, h3'⟩
            · cases h3
          obtain ⟨k3, hund⟩ := hund
          have ih := run_eqFields (P := P) (μ := μ) d xs ys w fs (i + 1) us s e h4 (by simpa using hl) (fun j u hj => by
            have := hx (j + 1) u (by simpa using hj)
            rwa [show i + (j + 1) = i + 1 + j by omega] at this) (fun j u hj => by
            have := hy (j + 1) u (by simpa using hj)
            rwa [show i + (j + 1) = i + 1 + j by omega] at this) he
          have p1 : (part f.type xs f.offset).run P w = .ok (.int k a) w := by
            simp only [Nat.add_zero] at hc1
            simp [part, run_aggT hund, hagg, h1, hc1]
          have p2 : (part f.type ys f.offset).run P w = .ok (.int k a') w := by
            simp only [Nat.add_zero] at hc2
            simp [part, run_aggT hund, hagg, h1, hc2]
          simp only [Op.eqFields, ne_eq, h2, not_false_eq_true, if_true, Sem.run_bind, p1, p2, Result.andThen_ok, run_equalIn_int w d f.type k k3 a a' hund]
          by_cases hab : a = a'
          · subst hab; simp [ih]
          · have : (a == a') = false := by simpa using hab
            simp [this]
        · cases hb
      · cases hb

theorem run_eqs {P : Program} {op : BinOp} {neg : Bool} (hop : negOp op = some neg) {t : TypeId} {fs : Array Field} (ht : P.underlying t = some (.struct fs)) (hi : intsFrom P 0 fs.toList = true)
    (hp : P.stoodInHeld t = false) (hg : P.eqGuardType P.depth t = false) {x y : Operand} {w : World} {μ : Map} {us vs : List V} {cu cv : Value} (h1 : VRel μ (.agg us) cu) (h2 : VRel μ (.agg vs) cv)
    (hl : us.length = fs.size) {b : Bool} (hb : eqCells us vs = some b) :
    (do eqGuard op t x y cu cv; binOp op t cu cv : Sem Value).run P w = .ok (.bool (b != neg)) w := by
  simp only [VRel] at h1 h2
  obtain ⟨xs, rfl, r1, _⟩ := h1
  obtain ⟨ys, rfl, r2, _⟩ := h2
  have hfo : P.underlying t = some (.struct (P.fieldsOf t)) := by simp [Program.fieldsOf, ht]
  have hfs : P.fieldsOf t = fs := by simp [Program.fieldsOf, ht]
  refine run_eq_of hop rfl rfl (run_eqGuard_agg w op t x y xs ys hg) (run_equal2 fun d => ?_)
  · rw [run_equalIn_struct w (d + 1) t xs ys hfo hp, hfs]
    exact run_eqFields d xs ys w fs.toList 0 us vs b hi (by simpa using hl) (fun j u hj => by
      obtain ⟨c, hc, hr⟩ := r1.get j u hj
      exact ⟨c, by simpa using hc, hr⟩) (fun j u hj => by
      obtain ⟨c, hc, hr⟩ := r2.get j u hj
      exact ⟨c, by simpa using hc, hr⟩) hb

end Go.AM
