/- One operation, in a frame. -/
import Derived.Test.YtcmfahemeogamaaGreatEvF
namespace Go.Ev
section
variable {P : Program}

theorem Fr.get_put (a : Fr) (d t : Nat) (v : V) (hd : d < TMAX) (ht : t < TMAX) : (a.put (some d) v).get t = if t = d then v else a.get t := by
  have hT : TMAX = 2 ^ TK := rfl
  unfold Fr.get Fr.put
  by_cases e : t = d
  · subst e
    rw [if_pos rfl]
    simp only [T.get_put_same]
    rfl
  · rw [if_neg e]
    simp only
    rw [T.get_put_other _ _ _ _ (by rw [bits_length, bits_length]) (fun h => e (bits_inj TK _ _ (by rw [← hT]; exact hd) (by rw [← hT]; exact ht) h).symm)]
theorem Fr.put_none (a : Fr) (v : V) : a.put none v = a := rfl

/-- What a call comes to. -/
def RetOk (v : V) (s s' : St) (H : Nat → Option O) (φ : Phi) (w : World) : Ending → World → Prop
  | .returned x, w' => ∃ H' φ', VRel φ' v x ∧ Post s s' H φ w H' φ' w'
  | _, _ => False
def CallOk (P : Program) (call : CallF) : Prop :=
  ∀ (f : FuncId) (args : List V) (s : St) (v : V) (s' : St), call f args s = some (v, s') → (∀ (A : Array Value) (w : World), (callFunc f A).run P w = .ok (.enter f A) w) ∧ Mono s s' ∧
    ∀ (H : Nat → Option O) (φ : Phi) (w : World) (A : Array Value), Pre s s' H φ w → LRel φ args A.toList → Calls P f A w (RetOk v s s' H φ w)

/-- The slots that an operation looks at. -/
def Look (o : Op) (φ : Phi) (a : Fr) (A : Act) : Prop := ∀ t, Operand.tmp t ∈ o.operands → t < TMAX → VRel φ (a.get t) (A.tmps.getD t Go.undef)
open Classical in
noncomputable def lim (xs : Array Operand) (ρ : Env) : Env := fun x => if x ∈ xs then ρ x else none
theorem lim_eq {xs : Array Operand} {ρ : Env} : ∀ x ∈ xs, ρ x = lim xs ρ x := fun x hx => by unfold lim; rw [if_pos hx]
theorem opnd_rel {φ : Phi} {a : Fr} {A : Act} {x : Operand} {v : V} (h : opnd a x = some v) (hl : ∀ t, x = .tmp t → t < TMAX → VRel φ (a.get t) (A.tmps.getD t Go.undef)) : VRel φ v (A.eval x) := by
  cases x with
  | tmp t =>
    obtain ⟨ht, h⟩ := cond_some (show cond (Nat.blt t TMAX) (some (a.get t)) none = some v from h)
    injection h with h; subst h
    exact hl t rfl (blt_iff.1 ht)
  | const c => exact ofValue_rel h φ
  | global g => cases h
  | func f => injection h with h; subst h; exact .func rfl (fun i x y h => by simp at h) rfl (fun i x y h => by simp at h)
theorem lim_rel {φ : Phi} {a : Fr} {A : Act} {o : Op} (h : Look o φ a A) : ERel φ (lim o.operands (opnd a)) A.eval := by
  intro x v hx
  unfold lim at hx
  split at hx
  · rename_i hm
    exact opnd_rel hx (fun t e ht => h t (e ▸ hm) ht)
  · cases hx
theorem LRel.of_look {φ : Phi} {a : Fr} {A : Act} {o : Op} (h : Look o φ a A) {l : List Operand} (hl : ∀ x ∈ l, x ∈ o.operands) {vs : List V} (hv : mapO (opnd a) l = some vs) : LRel φ vs (l.map A.eval) := by
  rw [mapO_congr (ρ' := lim o.operands (opnd a)) (fun x hx => lim_eq x (hl x hx))] at hv
  exact mapO_rel (lim_rel h) hv

theorem oper_run {call : CallF} (hc : CallOk P call) {o : Oper} {s s' : St} {a a' : Fr} (h : operV call (kind P o.op) o.dst s a = some (s', a')) :
    Mono s s' ∧ ∃ v, a' = a.put o.dst v ∧ ∀ (H : Nat → Option O) (φ : Phi) (w : World) (A : Act), Pre s s' H φ w → Look o.op φ a A →
      ∀ (K : Act → World → Prop) (Q : Exit → Act → World → Prop), (∀ x w' H' φ', VRel φ' v x → Post s s' H φ w H' φ' w' → K (A.put o.dst x) w') → o.wp P A w K Q := by
  have hok := kind_ok (P := P) o.op
  have hcg := kcongr (P := P) o.op
  generalize kind P o.op = k at h hok hcg
  cases k with
  | pure f =>
    simp only [operV, doPure] at h
    cases hf : f (opnd a) with
    | none => rw [hf] at h; cases h
    | some v =>
      rw [hf] at h
      simp only [fin, Option.some.injEq, Prod.mk.injEq] at h
      obtain ⟨rfl, rfl⟩ := h
      refine ⟨Mono.refl _, v, rfl, fun H φ w A p hl K Q hK => ?_⟩
      rw [hcg _ (lim o.op.operands (opnd a)) lim_eq] at hf
      obtain ⟨x, hx, hv⟩ := hok _ v hf φ A.eval o w rfl (lim_rel hl)
      unfold Oper.wp
      rw [hx]
      exact hK x w H φ hv (Post.refl p)
  | alloc f =>
    simp only [operV, doAlloc] at h
    cases hf : f (opnd a) with
    | none => rw [hf] at h; cases h
    | some ov =>
      obtain ⟨ob, mk⟩ := ov
      rw [hf] at h
      simp only at h
      cases hn : s.new ob with
      | none => rw [hn] at h; cases h
      | some ns =>
        obtain ⟨n, s₁⟩ := ns
        rw [hn] at h
        simp only [fin, Option.some.injEq, Prod.mk.injEq] at h
        obtain ⟨rfl, rfl⟩ := h
        rw [hcg _ (lim o.op.operands (opnd a)) lim_eq] at hf
        obtain ⟨hst, hal⟩ := hok _ ob mk hf
        refine ⟨Mono.new hn hst, mk n, rfl, fun H φ w A p hl K Q hK => ?_⟩
        obtain ⟨X, x, len, room, hx, h1, h2⟩ := hal φ A.eval o w rfl (lim_rel hl)
        unfold Oper.wp
        rw [hx]
        have hpost := Post.alloc hn p (w' := w.alloc X) rfl rfl rfl rfl (fun φ' he => h1 φ' s.clk he)
        exact hK x _ _ _ (h2 _ n (upd_same _ _ _)) hpost
  | read f =>
    simp only [operV, doRead] at h
    cases hf : f (opnd a) with
    | none => rw [hf] at h; cases h
    | some bg =>
      obtain ⟨b, g⟩ := bg
      rw [hf] at h
      simp only at h
      cases hb : s.get b with
      | none => rw [hb] at h; cases h
      | some ob =>
        rw [hb] at h
        simp only at h
        cases hg : g ob with
        | none => rw [hg] at h; cases h
        | some v =>
          rw [hg] at h
          simp only [fin, Option.some.injEq, Prod.mk.injEq] at h
          obtain ⟨rfl, rfl⟩ := h
          refine ⟨Mono.refl _, v, rfl, fun H φ w A p hl K Q hK => ?_⟩
          rw [hcg _ (lim o.op.operands (opnd a)) lim_eq] at hf
          obtain ⟨l, hll, hor⟩ := p.inv.obj b ob (p.sub b ob hb)
          obtain ⟨x, hx, hv⟩ := hok _ b g hf φ A.eval o w rfl (lim_rel hl) ob v l hg hll hor
          unfold Oper.wp
          rw [hx]
          exact hK x w H φ hv (Post.refl p)
  | eff f =>
    simp only [operV] at h
    cases hf : f (opnd a) s with
    | none => rw [hf] at h; cases h
    | some vs =>
      obtain ⟨v, s₁⟩ := vs
      rw [hf] at h
      simp only [fin, Option.some.injEq, Prod.mk.injEq] at h
      obtain ⟨rfl, rfl⟩ := h
      rw [hcg _ (lim o.op.operands (opnd a)) lim_eq] at hf
      obtain ⟨hm, hr⟩ := hok _ s v s₁ hf
      refine ⟨hm, v, rfl, fun H φ w A p hl K Q hK => ?_⟩
      obtain ⟨nx, x, w', H', φ', hx, hnx, hv, hpost⟩ := hr H φ w A.eval o rfl (lim_rel hl) p
      unfold Oper.wp
      rw [hx]
      rcases hnx with rfl | ⟨rfl, rfl⟩
      · exact hK x w' H' φ' hv hpost
      · exact hK _ w' H' φ' hv hpost
  | call f args =>
    obtain ⟨hfm, ham⟩ := hcg
    obtain ⟨c, hop, hcal, rfl⟩ := hok
    simp only [operV, doCall] at h
    cases hf : opnd a f with
    | none => rw [hf] at h; cases h
    | some fv =>
      cases hargs : mapO (opnd a) c.args.toList with
      | none => rw [hf, hargs] at h; cases h
      | some vs =>
        rw [hf, hargs] at h
        simp only at h
        cases fv <;> simp only [target, fin, reduceCtorEq] at h
        rename_i g first cap
        cases hcl : call g (first ++ (vs ++ cap)) s with
        | none => rw [hcl] at h; cases h
        | some vs' =>
          obtain ⟨v, s₁⟩ := vs'
          rw [hcl] at h
          simp only [Option.some.injEq, Prod.mk.injEq] at h
          obtain ⟨rfl, rfl⟩ := h
          obtain ⟨hcf, hm, hr⟩ := hc g _ s v s₁ hcl
          refine ⟨hm, v, rfl, fun H φ w A p hl K Q hK => ?_⟩
          have hfv : VRel φ (.func g first cap) (A.eval f) := opnd_rel hf (fun t e ht => hl t (e ▸ hfm) ht)
          have hal := LRel.of_look hl ham hargs
          generalize hF : A.eval f = F at hfv
          cases hfv
          rename_i as bs h1 h2 h3 h4
          have hA : LRel φ (first ++ (vs ++ cap)) (as ++ c.args.map A.eval ++ bs).toList := by
            simp only [Array.toList_append, Array.toList_map, List.append_assoc]
            exact .append ⟨by simpa using h1, fun i x y hx hy => h2 i x y hx (by simpa using hy)⟩ (.append hal ⟨by simpa using h3, fun i x y hx hy => h4 i x y hx (by simpa using hy)⟩)
          have hex : (execOp A.eval o).run P w = .ok (.enter g (as ++ c.args.map A.eval ++ bs)) w := by
            simp only [execOp, hop, resolve, hcal, hF, Deferred.ofValue, Sem.run_bind, Sem.run_pure, Result.andThen_ok, invoke, hcf]
          unfold Oper.wp
          rw [hex]
          refine Calls.mono (hr H φ w _ p hA) (fun e w' he => ?_)
          cases e with
          | returned x => obtain ⟨H', φ', hv, hpost⟩ := he; exact hK x w' H' φ' hv hpost
          | panicked => exact he.elim
          | outgrown => exact he.elim
  | bad => simp only [operV, reduceCtorEq] at h

/-- A frame and what it means. -/
structure FRel (φ : Phi) (n : Nat) (a : Fr) (A : Act) : Prop where
  size : A.tmps.size = n
  defers : A.defers = []
  at_ : ∀ t, t < TMAX → VRel φ (a.get t) (A.tmps.getD t Go.undef)
theorem FRel.mono {φ φ' : Phi} (h : Ext φ φ') {n : Nat} {a : Fr} {A : Act} (r : FRel φ n a A) : FRel φ' n a A := ⟨r.size, r.defers, fun t ht => (r.at_ t ht).mono h⟩
theorem getD_put (A : Act) (d t : Nat) (x : Value) (hd : d < A.tmps.size) : (A.put (some d) x).tmps.getD t Go.undef = if t = d then x else A.tmps.getD t Go.undef := by
  simp only [Act.put, Array.getD_eq_getD_getElem?, Array.getElem?_setIfInBounds]
  by_cases e : t = d
  · subst e; simp [hd]
  · rw [if_neg (Ne.symm e), if_neg e]
theorem FRel.put {φ : Phi} {n : Nat} {a : Fr} {A : Act} (r : FRel φ n a A) {d : Option Tmp} {v : V} {x : Value} (hd : ∀ t, d = some t → t < n) (hn : n ≤ TMAX) (hv : VRel φ v x) : FRel φ n (a.put d v) (A.put d x) := by
  cases d with
  | none => exact r
  | some d =>
    have hd := hd d rfl
    refine ⟨by simp [Act.put, r.size], r.defers, fun t ht => ?_⟩
    rw [Fr.get_put _ _ _ _ (Nat.lt_of_lt_of_le hd hn) ht, getD_put _ _ _ _ (by rw [r.size]; exact hd)]
    split
    · exact hv
    · exact r.at_ t ht

theorem guardOf_wanted {ops : Array Oper} {o : Oper} {g : Option (Tmp × Bool)} (h : guardOf ops o.guard = some g) {φ : Phi} {a : Fr} {A : Act}
    (hg : ∀ j want oj d, o.guard = some (j, want) → ops[j]? = some oj → oj.dst = some d → d < TMAX → VRel φ (a.get d) (A.tmps.getD d Go.undef)) : Region.wanted o (yielded ops A.tmps) = isWanted a g := by
  unfold guardOf at h
  unfold Region.wanted
  cases hgu : o.guard with
  | none => rw [hgu] at h; injection h with h; subst h; rfl
  | some jw =>
    obtain ⟨j, want⟩ := jw
    rw [hgu] at h
    simp only at h ⊢
    cases hj : ops[j]? with
    | none => rw [hj] at h; cases h
    | some oj =>
      rw [hj] at h
      simp only at h
      cases hd : oj.dst with
      | none => rw [hd] at h; cases h
      | some d =>
        rw [hd] at h
        simp only at h
        obtain ⟨hlt, h⟩ := cond_some h
        injection h with h; subst h
        have hv := hg j want oj d hgu hj hd (blt_iff.1 hlt)
        simp only [yielded, hj, Option.bind_some, hd, isWanted]
        generalize a.get d = u at hv
        have hD : A.tmps.getD d Go.undef = (A.tmps[d]?).getD Go.undef := by simp [Array.getD_eq_getD_getElem?]
        rw [hD] at hv
        cases hq : A.tmps[d]? with
        | none =>
          rw [hq] at hv
          simp only [Option.getD_none] at hv
          have : ∀ b, u ≠ .bool b := fun b e => by subst e; cases hv
          cases u <;> first | rfl | exact absurd rfl (this _)
        | some z =>
          rw [hq] at hv
          simp only [Option.getD_some] at hv
          cases hv <;> simp
          rename_i b
          cases b <;> cases want <;> rfl

theorem stepOf_eq {n : Nat} {ops : Array Oper} {o : Oper} {call : CallF} {s s' : St} {a a' : Fr} (h : stepV call (stepOf P n ops o) s a = some (s', a')) :
    ∃ g, guardOf ops o.guard = some g ∧ (∀ d, o.dst = some d → d < n) ∧ stepOf P n ops o = ⟨g, kind P o.op, o.dst⟩ ∧
      ((isWanted a g = true ∧ operV call (kind P o.op) o.dst s a = some (s', a')) ∨ (isWanted a g = false ∧ s' = s ∧ a' = a.put o.dst .undef)) := by
  cases hg : guardOf ops o.guard with
  | none =>
    unfold stepV stepOf at h
    rw [hg] at h
    simp only [isWanted, operV, cond_true, reduceCtorEq] at h
  | some g =>
    cases hb : dstOk n o.dst with
    | false =>
      unfold stepV stepOf at h
      rw [hg] at h
      simp only [hb, cond_false, isWanted, operV, cond_true, reduceCtorEq] at h
    | true =>
      have he : stepOf P n ops o = ⟨g, kind P o.op, o.dst⟩ := by
        unfold stepOf
        rw [hg]
        simp only [hb, cond_true]
      rw [he] at h
      refine ⟨g, rfl, fun d hd => ?_, he, ?_⟩
      · rw [hd] at hb; exact blt_iff.1 hb
      · unfold stepV at h
        simp only at h
        cases hw : isWanted a g with
        | true => rw [hw] at h; exact .inl ⟨rfl, h⟩
        | false =>
          rw [hw] at h
          simp only [cond_false, Option.some.injEq, Prod.mk.injEq] at h
          exact .inr ⟨rfl, h.1.symm, h.2.symm⟩
end
end Go.Ev
