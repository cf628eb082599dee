/- The evaluator's operations that touch no memory are the model's. -/
import Derived.Test.YtcmfahemeogamaaGreatEvN
import Derived.Laws.Entries
namespace Go.Ev

def ERel (φ : Phi) (ρ : Env) (ρc : Operand → Value) : Prop := ∀ x v, ρ x = some v → VRel φ v (ρc x)
theorem ERel.mono {φ φ' : Phi} (h : Ext φ φ') {ρ : Env} {ρc : Operand → Value} (e : ERel φ ρ ρc) : ERel φ' ρ ρc := fun x v hx => (e x v hx).mono h

/-- What an operation that touches no memory comes to. -/
def PureOk (P : Program) (o : Op) (f : Env → Option V) : Prop :=
  ∀ (ρ : Env) (v : V), f ρ = some v → ∀ (φ : Phi) (ρc : Operand → Value) (oper : Oper) (w : World), oper.op = o → ERel φ ρ ρc →
    ∃ x, (execOp ρc oper).run P w = .ok (.value x) w ∧ VRel φ v x

theorem ofLit_rel {x : Value} {v : V} (h : ofLit x = some v) (φ : Phi) : VRel φ v x ∧ v.one = true := by
  cases x with
  | bool b => simp only [ofLit, Option.some.injEq] at h; subst h; exact ⟨.bool b, rfl⟩
  | int k n => simp only [ofLit, Option.some.injEq] at h; subst h; exact ⟨.int k n, rfl⟩
  | string s => simp only [ofLit, Option.some.injEq] at h; subst h; exact ⟨.str s, rfl⟩
  | pointer a =>
    cases a with
    | none => simp only [ofLit, Option.some.injEq] at h; subst h; exact ⟨.nilptr, rfl⟩
    | some a => simp [ofLit] at h
  | slice a n c =>
    cases a with
    | none =>
      simp only [ofLit] at h
      obtain ⟨h1, h⟩ := cond_some h
      obtain ⟨h2, h⟩ := cond_some h
      obtain rfl := beq_iff.1 h1
      obtain rfl := beq_iff.1 h2
      injection h with h; subst h; exact ⟨.nilslice, rfl⟩
    | some a => simp [ofLit] at h
  | map r =>
    cases r with
    | none => simp only [ofLit, Option.some.injEq] at h; subst h; exact ⟨.nilmap, rfl⟩
    | some a => simp [ofLit] at h
  | nilFunc => simp only [ofLit, Option.some.injEq] at h; subst h; exact ⟨.nilFunc, rfl⟩
  | _ => simp [ofLit] at h
theorem ofValue_rel {x : Value} {v : V} (h : ofValue x = some v) (φ : Phi) : VRel φ v x := by
  cases x with
  | agg cs =>
    simp only [ofValue] at h
    cases hm : mapO ofLit cs.toList with
    | none => rw [hm] at h; cases h
    | some l =>
      rw [hm] at h
      injection h with h; subst h
      obtain ⟨h1, h2⟩ := mapO_some hm
      refine .agg (by simpa using h1) (fun y hy => ?_) (fun i y z hy hz => (ofLit_rel (h2 i z y (by simpa using hz) hy) φ).1)
      obtain ⟨i, hi, rfl⟩ := List.getElem_of_mem hy
      have hi' : i < cs.toList.length := by rw [← h1]; exact hi
      exact (ofLit_rel (h2 i _ _ (List.getElem?_eq_getElem hi') (List.getElem?_eq_getElem hi)) φ).2
  | _ => exact (ofLit_rel (by simpa only [ofValue] using h) φ).1

section
variable {P : Program}
theorem p1_some {f : V → Option V} {x : Operand} {ρ : Env} {v : V} (h : p1 f x ρ = some v) : ∃ y, ρ x = some y ∧ f y = some v := by
  unfold p1 at h
  cases hx : ρ x with
  | none => rw [hx] at h; cases h
  | some y => rw [hx] at h; exact ⟨y, rfl, h⟩
theorem p2_some {f : V → V → Option V} {x y : Operand} {ρ : Env} {v : V} (h : p2 f x y ρ = some v) : ∃ a b, ρ x = some a ∧ ρ y = some b ∧ f a b = some v := by
  unfold p2 at h
  cases hx : ρ x with
  | none => rw [hx] at h; cases h
  | some a =>
    rw [hx] at h
    cases hy : ρ y with
    | none => rw [hy] at h; cases h
    | some b => rw [hy] at h; exact ⟨a, b, rfl, rfl, h⟩
theorem mapO_rel {φ : Phi} {ρ : Env} {ρc : Operand → Value} (e : ERel φ ρ ρc) {l : List Operand} {vs : List V} (h : mapO ρ l = some vs) : LRel φ vs (l.map ρc) := by
  obtain ⟨h1, h2⟩ := mapO_some h
  refine ⟨by simp [h1], fun i x y hx hy => ?_⟩
  rw [List.getElem?_map] at hy
  cases hl : l[i]? with
  | none => rw [hl] at hy; cases hy
  | some o =>
    rw [hl] at hy
    injection hy with hy; subst hy
    exact e o x (h2 i o x hl hx)

theorem sizeT_some {t : TypeId} {n : Nat} (h : sizeT P t = some n) : ∃ i, P.info? t = some i ∧ i.size = n := by
  unfold sizeT at h
  cases hi : P.info? t with
  | none => rw [hi] at h; cases h
  | some i => rw [hi] at h; injection h with h; exact ⟨i, rfl, h⟩
theorem run_sizeOf {t : TypeId} {n : Nat} (h : sizeT P t = some n) (w : World) : (sizeOf t).run P w = .ok n w := by
  obtain ⟨i, hi, rfl⟩ := sizeT_some h
  simp [sizeOf, typeInfo, hi]
theorem zeroT_some {t : TypeId} {v : V} (h : zeroT P t = some v) : ∃ i z, P.info? t = some i ∧ i.zero = some z ∧ ofValue z = some v := by
  unfold zeroT at h
  cases hi : P.info? t with
  | none => rw [hi] at h; cases h
  | some i =>
    rw [hi] at h
    simp only at h
    cases hz : i.zero with
    | none => rw [hz] at h; cases h
    | some z => rw [hz] at h; exact ⟨i, z, rfl, hz, h⟩
theorem run_zeroValue {t : TypeId} {v : V} (h : zeroT P t = some v) : ∃ z, (∀ w, (zeroValue t).run P w = .ok z w) ∧ (∀ φ, VRel φ v z) := by
  obtain ⟨i, z, hi, hz, hv⟩ := zeroT_some h
  exact ⟨z, fun w => by simp [zeroValue, typeInfo, hi, hz], fun φ => ofValue_rel hv φ⟩
theorem run_isAgg {t : TypeId} {b : Bool} (h : isAggT P t = some b) (w : World) : (isAgg t).run P w = .ok b w := by
  unfold isAggT at h
  cases hd : P.underlying t with
  | none => rw [hd] at h; cases h
  | some d =>
    rw [hd] at h
    simp only [isAgg, Sem.run_bind, run_underlying hd, Result.andThen_ok]
    cases d <;> simp_all
theorem run_part {t : TypeId} {cs : List V} {off : Nat} {v : V} {φ : Phi} {C : Array Value} (h : part P t cs off = some v) (hc : LRel φ cs C.toList) (h1 : ∀ c ∈ cs, c.one = true) (w : World) :
    ∃ x, (Go.part t C off).run P w = .ok x w ∧ VRel φ v x := by
  unfold part at h
  cases ha : isAggT P t with
  | none => rw [ha] at h; cases h
  | some b =>
    rw [ha] at h
    cases b with
    | true =>
      simp only at h
      cases hs : sizeT P t with
      | none => rw [hs] at h; cases h
      | some n =>
        rw [hs] at h
        simp only at h
        cases ht : takeN n (drop off cs) with
        | none => rw [ht] at h; cases h
        | some l =>
          rw [ht] at h
          injection h with h; subst h
          obtain ⟨hl, rfl⟩ := takeN_some ht
          rw [drop_eq] at hl ⊢
          have hr := (hc.drop off).take n
          refine ⟨.agg (C.extract off (off + n)), by simp [Go.part, run_isAgg ha, run_sizeOf hs], .agg ?_ (fun x hx => h1 x (List.mem_of_mem_drop (List.mem_of_mem_take hx))) (fun i x y hx hy => ?_)⟩
          · have := hr.len
            simp only [Array.size_extract, List.length_take, List.length_drop] at *
            have := hc.len
            simp at this
            omega
          · refine hr.at_ i x y hx ?_
            have e : (C.extract off (off + n)).toList = (C.toList.drop off).take n := by simp [List.take_drop]
            rw [← Array.getElem?_toList, e] at hy
            exact hy
    | false =>
      simp only at h
      rw [nth_eq] at h
      obtain ⟨y, hy, hv⟩ := hc.get h
      refine ⟨y, ?_, hv⟩
      have hy' : C[off]? = some y := by simpa using hy
      simp [Go.part, run_isAgg ha, hy']

theorem pureOk_move (x : Operand) : PureOk P (.move x) (fun ρ => ρ x) := fun ρ v h φ ρc oper w ho e => ⟨ρc x, by simp only [execOp, ho]; rfl, e x v h⟩
theorem pureOk_assign (x : Operand) : PureOk P (.assign x) (fun ρ => ρ x) := fun ρ v h φ ρc oper w ho e => ⟨ρc x, by simp only [execOp, ho]; rfl, e x v h⟩
theorem pureOk_pick (c x y : Operand) : PureOk P (.pick c x y) (pPick c x y) := by
  intro ρ v h φ ρc oper w ho e
  unfold pPick at h
  cases hc : ρ c with
  | none => rw [hc] at h; cases h
  | some b =>
    rw [hc] at h
    cases b <;> simp only [reduceCtorEq] at h
    rename_i b
    have hb := e c _ hc
    cases hcc : ρc c with
    | bool b' =>
      rw [hcc] at hb
      cases hb
      cases b with
      | true => exact ⟨ρc x, by simp [execOp, ho, hcc, asBool], e x v h⟩
      | false => exact ⟨ρc y, by simp [execOp, ho, hcc, asBool], e y v h⟩
    | _ => rw [hcc] at hb; cases hb
theorem pureOk_nil (x : Operand) : PureOk P (.nilCheck x) (p1 vNil x) := by
  intro ρ v h φ ρc oper w ho e
  obtain ⟨y, hy, h⟩ := p1_some h
  have hv := e x y hy
  generalize hz : ρc x = z at hv
  cases hv <;> simp only [vNil, reduceCtorEq, Option.some.injEq] at h
  case ptr n o l hn => subst h; exact ⟨_, by simp only [execOp, ho, hz]; rfl, .ptr hn⟩
  case func f xs ys as bs h1 h2 h3 h4 => subst h; exact ⟨_, by simp only [execOp, ho, hz]; rfl, .func h1 h2 h3 h4⟩

/-! ### Parts put together -/
theorem places_rel {φ : Phi} {ρ : Env} {ρc : Operand → Value} (e : ERel φ ρ ρc) {ps : List (Nat × Operand)} {l : List (Nat × V)} (h : places ρ ps = some l) :
    l.length = ps.length ∧ ∀ (i : Nat) (p : Nat × Operand) (q : Nat × V), ps[i]? = some p → l[i]? = some q → q.1 = p.1 ∧ VRel φ q.2 (ρc p.2) := by
  unfold places at h
  obtain ⟨h1, h2⟩ := mapO_some h
  refine ⟨h1, fun i p q hp hq => ?_⟩
  have := h2 i p q hp hq
  cases hr : ρ p.2 with
  | none => rw [hr] at this; cases this
  | some v => rw [hr] at this; injection this with this; subst this; exact ⟨rfl, e _ _ hr⟩
theorem foldl_put (vs : List Value) : ∀ (off k : Nat) (C : Array Value), off + k + vs.length ≤ C.size →
    (((vs.zipIdx k).foldl (fun cs (p : Value × Nat) => cs.setIfInBounds (off + p.2) p.1) C).toList = C.toList.take (off + k) ++ vs ++ C.toList.drop (off + k + vs.length)) := by
  induction vs with
  | nil => intro off k C _; simp
  | cons v vs ih =>
    intro off k C h
    simp only [List.zipIdx_cons, List.foldl_cons]
    have hl : off + (k + 1) + vs.length ≤ (C.setIfInBounds (off + k) v).size := by simp at h ⊢; omega
    rw [ih off (k + 1) _ hl, Array.toList_setIfInBounds]
    have := list_seg_step C.toList (off + k) v vs (by simp at h ⊢; omega)
    simpa [Nat.add_assoc] using this
/-- 'fill' is the evaluator's. -/
theorem fill_rel {φ : Phi} {pl plc : Nat → Option (Nat × Nat)} (hp : ∀ i o, pl i = some o → plc i = some o) : ∀ {l : List (Nat × V)} {lc : List (Nat × Value)} {cs r : List V} {C : Array Value},
    fillO pl cs l = some r → l.length = lc.length → (∀ (i : Nat) (p : Nat × V) (q : Nat × Value), l[i]? = some p → lc[i]? = some q → p.1 = q.1 ∧ VRel φ p.2 q.2) →
    LRel φ cs C.toList → (∀ c ∈ cs, c.one = true) → ∃ D, Instr.fill plc C lc = some D ∧ LRel φ r D.toList ∧ (∀ c ∈ r, c.one = true) := by
  intro l
  induction l with
  | nil =>
    intro lc cs r C h hl _ hc h1
    cases lc with
    | cons => simp at hl
    | nil => simp only [fillO, Option.some.injEq] at h; subst h; exact ⟨C, rfl, hc, h1⟩
  | cons p l ih =>
    intro lc cs r C h hl hr hc h1
    cases lc with
    | nil => simp at hl
    | cons q lc =>
      obtain ⟨e1, hv⟩ := hr 0 p q rfl rfl
      simp only [fillO] at h
      cases ho : pl p.1 with
      | none => rw [ho] at h; cases h
      | some o =>
        rw [ho] at h
        cases hcs : p.2.cells with
        | none => rw [hcs] at h; cases h
        | some vs =>
          rw [hcs] at h
          simp only at h
          obtain ⟨hsz, h⟩ := cond_some h
          have hsz := beq_iff.1 hsz
          cases hput : putAt vs o.1 cs with
          | none => rw [hput] at h; cases h
          | some cs' =>
            rw [hput] at h
            simp only at h
            have hpl := hp _ _ ho
            obtain ⟨hvs, hone⟩ := hv.cells hcs
            obtain ⟨hle, rfl⟩ := putAt_some hput
            have hlen : vs.length = q.2.cells.size := by simpa using hvs.len
            have hcl : cs.length = C.size := by simpa using hc.len
            have hfold := foldl_put q.2.cells.toList o.1 0 C (by simp; omega)
            obtain ⟨D, hD, hDr, hD1⟩ := ih (lc := lc) (C := (q.2.cells.zipIdx.foldl (fun cs (p : Value × Nat) => cs.setIfInBounds (o.1 + p.2) p.1) C)) h (by simpa using hl) (fun i a b ha hb => hr (i + 1) a b ha hb)
              (by
                rw [← Array.foldl_toList, Array.toList_zipIdx, hfold]
                simp only [Nat.add_zero]
                have := ((hc.take o.1).append hvs).append (hc.drop (o.1 + vs.length))
                rw [show q.2.cells.toList.length = vs.length by simp [hlen]]
                exact this)
              (fun c hcm => by
                simp only [List.mem_append] at hcm
                rcases hcm with (hcm | hcm) | hcm
                · exact h1 c (List.mem_of_mem_take hcm)
                · exact hone c hcm
                · exact h1 c (List.mem_of_mem_drop hcm))
            refine ⟨D, ?_, hDr, hD1⟩
            simp only [Instr.fill]
            rw [← e1, hpl]
            simp only
            rw [if_neg (by simp; omega)]
            exact hD

theorem cells_of_agg {z : Value} {xs : List V} {φ : Phi} (h : VRel φ (.agg xs) z) : LRel φ xs z.cells.toList ∧ (∀ c ∈ xs, c.one = true) := h.cells rfl
theorem fieldPlaces_run {fields : Array Field} {l : List (Nat × Nat)} (h : fieldPlaces P fields.toList = some l) (w : World) :
    (fields.mapM fun f => do pure (f.offset, ← sizeOf f.type) : Sem (Array (Nat × Nat))).run P w = .ok l.toArray w := by
  unfold fieldPlaces at h
  rw [← Array.toArray_toList (xs := fields)]
  generalize fields.toList = fs at h ⊢
  rw [List.mapM_toArray, Sem.run_map]
  have : ∀ (fs : List Field) (l : List (Nat × Nat)), mapO (fun f : Field => match sizeT P f.type with | some n => some (f.offset, n) | none => none) fs = some l →
      (fs.mapM fun f => do pure (f.offset, ← sizeOf f.type) : Sem (List (Nat × Nat))).run P w = .ok l w := by
    intro fs
    induction fs with
    | nil => intro l h; cases h; rfl
    | cons f fs ih =>
      intro l h
      rw [mapO_cons] at h
      cases hs : sizeT P f.type with
      | none => rw [hs] at h; cases h
      | some n =>
        rw [hs] at h
        cases ht : mapO (fun f : Field => match sizeT P f.type with | some n => some (f.offset, n) | none => none) fs with
        | none => rw [ht] at h; cases h
        | some r =>
          rw [ht] at h
          injection h with h; subst h
          simp only [List.mapM_cons, Sem.run_bind, run_sizeOf hs, Result.andThen_ok, Sem.run_pure, ih r ht]
  rw [this fs l h]
  rfl
theorem pureOk_build (t : TypeId) (ps : Array (Nat × Operand)) : PureOk P (.build t ps) (pBuild (zeroT P t) (buildPlace P t) ps.toList) := by
  intro ρ v h φ ρc oper w ho e
  unfold pBuild at h
  cases hz : zeroT P t with
  | none => rw [hz] at h; cases h
  | some z =>
    cases hb : buildPlace P t with
    | none => rw [hz, hb] at h; cases z <;> cases h
    | some pl =>
      cases hl : places ρ ps.toList with
      | none => rw [hz, hb, hl] at h; cases z <;> cases h
      | some l =>
        rw [hz, hb, hl] at h
        cases z <;> simp only [reduceCtorEq] at h
        rename_i zc
        cases hf : fillO pl zc l with
        | none => rw [hf] at h; cases h
        | some r =>
          rw [hf] at h
          injection h with h; subst h
          obtain ⟨Z, hZ, hZr⟩ := run_zeroValue hz
          obtain ⟨hzc, hz1⟩ := cells_of_agg (hZr φ)
          obtain ⟨hpl1, hpl2⟩ := places_rel e hl
          have hlen : l.length = (ps.map fun (i, x) => (i, ρc x)).toList.length := by simp [hpl1]
          have hrel : ∀ (i : Nat) (p : Nat × V) (q : Nat × Value), l[i]? = some p → (ps.map fun (i, x) => (i, ρc x)).toList[i]? = some q → p.1 = q.1 ∧ VRel φ p.2 q.2 := by
            intro i p q hp hq
            rw [Array.toList_map, List.getElem?_map] at hq
            cases hpi : ps.toList[i]? with
            | none => rw [hpi] at hq; cases hq
            | some u =>
              rw [hpi] at hq
              injection hq with hq; subst hq
              exact hpl2 i u p hpi hp
          unfold buildPlace at hb
          cases hd : P.underlying t with
          | none => rw [hd] at hb; cases hb
          | some d =>
            rw [hd] at hb
            cases d <;> simp only [reduceCtorEq] at hb
            · -- array
              rename_i n el
              cases hs : sizeT P el with
              | none => rw [hs] at hb; cases hb
              | some m =>
                rw [hs] at hb
                injection hb with hb; subst hb
                obtain ⟨D, hD, hDr, hD1⟩ := fill_rel (pl := fun i => some (i * m, m)) (plc := fun i => some (i * m, m)) (fun i o h => h) hf hlen hrel hzc hz1
                refine ⟨.agg D, ?_, .agg (by simpa using hDr.len) hD1 (fun i x y hx hy => hDr.at_ i x y hx (by simpa using hy))⟩
                simp only [execOp, ho, Instr.build, Sem.run_bind, hZ, Result.andThen_ok, run_underlying hd, run_sizeOf hs, hD]
                rfl
            · rename_i fields
              cases hs : fieldPlaces P fields.toList with
              | none => rw [hs] at hb; cases hb
              | some m =>
                rw [hs] at hb
                injection hb with hb; subst hb
                obtain ⟨D, hD, hDr, hD1⟩ := fill_rel (pl := nth m) (plc := fun i => m.toArray[i]?) (fun i o h => by rw [nth_eq] at h; simpa using h) hf hlen hrel hzc hz1
                refine ⟨.agg D, ?_, .agg (by simpa using hDr.len) hD1 (fun i x y hx hy => hDr.at_ i x y hx (by simpa using hy))⟩
                simp only [execOp, ho, Instr.build, Sem.run_bind, hZ, Result.andThen_ok, run_underlying hd, fieldPlaces_run hs, hD]
                rfl
end
end Go.Ev
