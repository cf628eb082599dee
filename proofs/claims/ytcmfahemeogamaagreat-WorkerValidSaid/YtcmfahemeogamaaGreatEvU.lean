/- What acts: stores, new rows, append. -/
import Derived.Test.YtcmfahemeogamaaGreatEvT
namespace Go.Ev
section
variable {P : Program}

/-- What an operation that acts comes to. -/
def EffOk (P : Program) (o : Op) (f : Env → St → Res) : Prop :=
  ∀ (ρ : Env) (s : St) (v : V) (s' : St), f ρ s = some (v, s') → Mono s s' ∧
    ∀ (H : Nat → Option O) (φ : Phi) (w : World) (ρc : Operand → Value) (oper : Oper), oper.op = o → ERel φ ρ ρc → Pre s s' H φ w →
      ∃ nx x w' H' φ', (execOp ρc oper).run P w = .ok nx w' ∧ (nx = .value x ∨ (nx = .skip ∧ x = Go.undef)) ∧ VRel φ' v x ∧ Post s s' H φ w H' φ' w'

theorem setCells_eq_setRow (g : Nat) (t : TypeId) : ∀ (vs : List Value) (o : Nat) (cur : Array Value) (w : World), w.heap[g]? = some (.cells cur t (0, 0)) → o + vs.length ≤ cur.size →
    w.setCells g o vs = w.setRow g (cur.toList.take o ++ vs ++ cur.toList.drop (o + vs.length)).toArray := by
  intro vs
  induction vs with
  | nil =>
    intro o cur w hg _
    simp only [World.setCells, List.append_nil, List.length_nil, Nat.add_zero, List.take_append_drop, Array.toArray_toList]
    rw [setRow_self w g cur t (0, 0) hg]
  | cons v vs ih =>
    intro o cur w hg hl
    simp only [World.setCells]
    have hl' : o + 1 + vs.length ≤ (cur.setIfInBounds o v).size := by simp at hl ⊢; omega
    rw [setCell_eq_setRow w g o cur t (0, 0) v hg, ih (o + 1) _ _ (setRow_heap w g cur _ t _ hg) hl', setRow_setRow]
    congr 2
    have e := list_seg_step cur.toList o v vs (by simp at hl ⊢; omega)
    simpa [Array.toList_setIfInBounds, Nat.add_assoc] using e

/-- A part of a row written anew. -/
theorem row_put {φ : Phi} {e : TypeId} {k k' : Nat} {cs vs : List V} {l : Loc} {C : Array Value} {VS : List Value} {o : Nat} (h : ORel φ (.row e k cs) l (some (.cells C e (0, 0)))) (hv : LRel φ vs VS) (h1 : ∀ c ∈ vs, c.one = true) (hl : o + vs.length ≤ cs.length) :
    ORel φ (.row e k' (cs.take o ++ vs ++ cs.drop (o + vs.length))) l (some (.cells (C.toList.take (l.sh + o) ++ VS ++ C.toList.drop (l.sh + o + VS.length)).toArray e (0, 0))) := by
  obtain ⟨C', hC, g1, g2, g3, g4, g5⟩ := h
  injection hC with hC; injection hC with hC; subst hC
  have hlen := hv.len
  refine ⟨_, rfl, ?_, ?_, g3, fun c hc => ?_, fun i x hx => ?_⟩
  · simp only [List.size_toArray, List.length_append, List.length_take, List.length_drop, Array.length_toList]; omega
  · simp only [List.length_append, List.length_take, List.length_drop]; omega
  · simp only [List.mem_append] at hc
    rcases hc with (hc | hc) | hc
    · exact g4 c (List.mem_of_mem_take hc)
    · exact h1 c hc
    · exact g4 c (List.mem_of_mem_drop hc)
  · rw [List.getElem?_toArray]
    by_cases hi : i < o
    · rw [List.append_assoc, List.getElem?_append_left (by simp; omega), List.getElem?_take, if_pos hi] at hx
      obtain ⟨y, hy, hvr⟩ := g5 i x hx
      refine ⟨y, ?_, hvr⟩
      have : l.sh + i < C.size := (Array.getElem?_eq_some_iff.1 hy).1
      rw [List.append_assoc, List.getElem?_append_left (by simp; omega), List.getElem?_take, if_pos (by omega), Array.getElem?_toList]
      exact hy
    · by_cases hi2 : i < o + vs.length
      · rw [List.append_assoc, List.getElem?_append_right (by simp; omega), List.getElem?_append_left (by simp; omega)] at hx
        have e1 : min o cs.length = o := by omega
        simp only [List.length_take, e1] at hx
        obtain ⟨y, hy, hvr⟩ := hv.get hx
        refine ⟨y, ?_, hvr⟩
        rw [List.append_assoc, List.getElem?_append_right (by simp; omega), List.getElem?_append_left (by simp; omega)]
        have e2 : min (l.sh + o) C.size = l.sh + o := by omega
        simp only [List.length_take, Array.length_toList, e2]
        rw [show l.sh + i - (l.sh + o) = i - o by omega]
        exact hy
      · have hlt : i < cs.length := by
          have := (List.getElem?_eq_some_iff.1 hx).1
          simp only [List.length_append, List.length_take, List.length_drop] at this
          omega
        rw [List.getElem?_append_right (by simp; omega)] at hx
        have e1 : min o cs.length = o := by omega
        simp only [List.length_append, List.length_take, e1] at hx
        rw [List.getElem?_drop, show o + vs.length + (i - (o + vs.length)) = i by omega] at hx
        obtain ⟨y, hy, hvr⟩ := g5 i x hx
        refine ⟨y, ?_, hvr⟩
        rw [List.getElem?_append_right (by simp; omega)]
        have e2 : min (l.sh + o) C.size = l.sh + o := by omega
        simp only [List.length_append, List.length_take, Array.length_toList, e2]
        rw [List.getElem?_drop, show l.sh + o + VS.length + (l.sh + i - (l.sh + o + VS.length)) = l.sh + i by omega, Array.getElem?_toList]
        exact hy

theorem row_some {s : St} {b : Nat} {e : TypeId} {cs : List V} (h : s.row b = some (e, cs)) : ∃ k, s.get b = some (.row e k cs) := by
  unfold St.row at h
  split at h
  · simp only [Option.some.injEq, Prod.mk.injEq] at h
    obtain ⟨rfl, rfl⟩ := h
    exact ⟨_, by assumption⟩
  · cases h
theorem cells_some {s : St} {b o n : Nat} {r : List V} (h : s.cells b o n = some r) : ∃ e k cs, s.get b = some (.row e k cs) ∧ takeN n (drop o cs) = some r := by
  unfold St.cells at h
  split at h
  · obtain ⟨k, hk⟩ := row_some (by assumption)
    exact ⟨_, k, _, hk, h⟩
  · cases h

/-- A store into a row. -/
theorem store_run {s s' : St} {b o : Nat} {vs : List V} (h : s.store b o vs = some s') : Mono s s' ∧
    ∀ (H : Nat → Option O) (φ : Phi) (w : World) (VS : List Value) (l : Loc), Pre s s' H φ w → φ b = some l → LRel φ vs VS → (∀ c ∈ vs, c.one = true) →
      ∃ C e H', w.heap[l.blk]? = some (.cells C e (0, 0)) ∧ l.sh + o + VS.length ≤ C.size ∧ Post s s' H φ w H' φ (w.setRow l.blk (C.toList.take (l.sh + o) ++ VS ++ C.toList.drop (l.sh + o + VS.length)).toArray) := by
  unfold St.store at h
  cases hr : s.row b with
  | none => rw [hr] at h; cases h
  | some ec =>
    obtain ⟨e, cs⟩ := ec
    rw [hr] at h
    simp only at h
    cases hp : putAt vs o cs with
    | none => rw [hp] at h; cases h
    | some cs' =>
      rw [hp] at h
      simp only at h
      obtain ⟨k, hk⟩ := row_some hr
      obtain ⟨hle, rfl⟩ := putAt_some hp
      refine ⟨Mono.set h hk (fun _ => rfl), fun H φ w VS l p hl hv h1 => ?_⟩
      obtain ⟨l', hl', hrel⟩ := p.inv.obj b _ (p.sub b _ hk)
      rw [hl] at hl'; injection hl' with hl'; subst hl'
      have hrel' := hrel
      obtain ⟨C, hC, g1, g2, g3, g4, g5⟩ := hrel
      have hlen := hv.len
      refine ⟨C, e, _, hC, by omega, Post.store h p hk hl (fun c hc => setRow_other w _ c _ hc) (setRow_size _ _ _) rfl rfl rfl ?_⟩
      rw [setRow_heap w _ C _ e _ hC]
      rw [hC] at hrel'
      exact row_put hrel' hv h1 hle

theorem effOk_store (t : TypeId) (pt x : Operand) : EffOk P (.store t pt x) (eStore (sizeT P t) pt x) := by
  intro ρ s v s' h
  unfold eStore at h
  cases hp : ρ pt with
  | none => rw [hp] at h; cases h
  | some pv =>
    rw [hp] at h
    cases pv <;> simp only [reduceCtorEq] at h
    rename_i b o
    cases hx : ρ x with
    | none => rw [hx] at h; cases h
    | some xv =>
      rw [hx] at h
      cases hs : sizeT P t with
      | none => rw [hs] at h; cases h
      | some n =>
        rw [hs] at h
        simp only at h
        cases hc : xv.cells with
        | none => rw [hc] at h; cases h
        | some cs =>
          rw [hc] at h
          simp only at h
          obtain ⟨hn, h⟩ := cond_some h
          have hn := beq_iff.1 hn
          cases hst : s.store b o cs with
          | none => rw [hst] at h; cases h
          | some s₁ =>
            rw [hst] at h
            simp only [Option.some.injEq, Prod.mk.injEq] at h
            obtain ⟨rfl, rfl⟩ := h
            obtain ⟨hm, hrun⟩ := store_run hst
            refine ⟨hm, fun H φ w ρc oper ho e p => ?_⟩
            have hpv := e pt _ hp
            generalize hP : ρc pt = PV at hpv
            cases hpv
            rename_i l hl
            obtain ⟨hr, h1⟩ := (e x _ hx).cells hc
            obtain ⟨C, el, H', hC, hle, hpost⟩ := hrun H φ w _ l p hl hr h1
            have hone : ∀ v ∈ (ρc x).cells.toList, v.oneCell' = true := by
              intro v hv
              obtain ⟨i, hi, rfl⟩ := List.getElem_of_mem hv
              have hi' : i < cs.length := by rw [hr.len]; exact hi
              rw [(hr.at_ i _ _ (List.getElem?_eq_getElem hi') (List.getElem?_eq_getElem hi)).one]
              exact h1 _ (List.getElem_mem hi')
            have hstore := run_storeCells_at P l.blk (l.sh + o) el (ρc x).cells.toList 0 C w hC (by simpa using hle) hone
            simp only [Nat.add_zero] at hstore
            refine ⟨.skip, Go.undef, _, H', φ, ?_, .inr ⟨rfl, rfl⟩, .undef φ, hpost⟩
            have hsz : ¬ ((ρc x).cells.size ≠ n) := by have := hr.len; simp at this; omega
            simp only [execOp, ho, hP, Instr.storeAt, Sem.run_bind, Instr.sureAddr, Sem.run_pure, Result.andThen_ok, storeVar, run_sizeOf hs, hsz, if_false, Sem.run_ite, hstore]
end
end Go.Ev
