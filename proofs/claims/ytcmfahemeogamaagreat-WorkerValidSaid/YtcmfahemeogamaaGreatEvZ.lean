/- Maps: new entries, loops. -/
import Derived.Test.YtcmfahemeogamaaGreatEvY
namespace Go.Ev
section
variable {P : Program}

theorem effOk_update (t : TypeId) (m k x : Operand) (o : Op) (ho' : o = .mapUpdate t m k x ∨ o = .insert t m k x) : EffOk P o (eUpdate P t m k x) := by
  intro ρ s v s' h
  unfold eUpdate at h
  cases hm : ρ m with
  | none => rw [hm] at h; cases h
  | some mv =>
    cases hk : ρ k with
    | none => rw [hm, hk] at h; cases h
    | some kv =>
      cases hx : ρ x with
      | none => rw [hm, hk, hx] at h; cases h
      | some xv =>
        rw [hm, hk, hx] at h
        simp only at h
        cases hu : updV P s t mv kv xv with
        | none => rw [hu] at h; cases h
        | some s₁ =>
          rw [hu] at h
          simp only [Option.some.injEq, Prod.mk.injEq] at h
          obtain ⟨rfl, rfl⟩ := h
          obtain ⟨hmono, hrun⟩ := updV_run hu
          refine ⟨hmono, fun H φ w ρc oper ho e p => ?_⟩
          obtain ⟨w', H', hr, hpost⟩ := hrun H φ w p _ _ _ (e m _ hm) (e k _ hk) (e x _ hx)
          refine ⟨.skip, Go.undef, w', H', φ, ?_, .inr ⟨rfl, rfl⟩, .undef φ, hpost⟩
          rcases ho' with rfl | rfl <;> simp only [execOp, ho, Sem.run_bind, hr, Result.andThen_ok, Sem.run_pure]

theorem isMapT_some {t : TypeId} (h : isMapT P t = true) : ∃ k e, P.underlying t = some (.map k e) := by
  unfold isMapT at h
  split at h
  · exact ⟨_, _, by assumption⟩
  · cases h
theorem effOk_range (t : TypeId) (x : Operand) (ht : isMapT P t = true) : EffOk P (.range t x) (eRange x) := by
  intro ρ s v s' h
  obtain ⟨kt, et, hd⟩ := isMapT_some ht
  · unfold eRange at h
    split at h
    · rename_i m hx
      cases hm : s.map m with
      | none => rw [hm] at h; cases h
      | some ec =>
        obtain ⟨es, c⟩ := ec
        rw [hm] at h
        simp only at h
        cases hn : s.new fun n => .iter n (some m) c [] c with
        | none => rw [hn] at h; cases h
        | some rs =>
          obtain ⟨r, s₁⟩ := rs
          rw [hn] at h
          simp only [Option.some.injEq, Prod.mk.injEq] at h
          obtain ⟨rfl, rfl⟩ := h
          refine ⟨Mono.new hn (fun _ => rfl), fun H φ w ρc oper ho e p => ?_⟩
          obtain ⟨k0, hg⟩ := map_some hm
          obtain ⟨l, hl, ES, hES, hlen, hat⟩ := p.inv.obj _ _ (p.sub _ _ hg)
          have hM := e x _ hx
          generalize hMv : ρc x = MV at hM
          cases hM
          rename_i l' hl'
          rw [hl] at hl'; injection hl' with hl'; subst hl'
          have hpost := Post.alloc (len := 0) (room := 0) hn p (w' := w.alloc (.mapIter (some l.blk) c #[] c)) rfl rfl rfl rfl (fun φ' hx => ⟨rfl, some l.blk, rfl, l, hx _ _ hl, rfl⟩)
          refine ⟨.value (.pointer (some ⟨w.heap.size, 0, none⟩)), _, _, _, _, ?_, .inl rfl, .ptr (l := ⟨w.heap.size, 0, 0, 0⟩) (upd_same _ _ _), hpost⟩
          simp only [execOp, ho, hMv, Instr.range, Sem.run_bind, run_underlying hd, Result.andThen_ok, getObj_map hES, Sem.run_pure, run_newObj]
          rfl
    · cases h

theorem ERels.filter {φ : Phi} {p : (V × V × Nat) → Bool} {q : MapEntry → Bool} (hpq : ∀ e E, e.2.2 = E.born → p e = q E) : ∀ {es : List (V × V × Nat)} {ES : List MapEntry}, ERels φ es ES → ERels φ (es.filter p) (ES.filter q) := by
  intro es
  induction es with
  | nil =>
    intro ES h
    have : ES = [] := List.eq_nil_of_length_eq_zero (by have := h.len; simpa using this.symm)
    subst this
    exact ⟨rfl, fun i e E he => by simp at he⟩
  | cons e es ih =>
    intro ES h
    cases ES with
    | nil => have := h.len; simp at this
    | cons E ES =>
      have h0 := h.at_ 0 e E rfl rfl
      have ih := ih h.tail
      have hp := hpq e E h0.2.2
      simp only [List.filter_cons, hp]
      split
      · refine ⟨by simp [ih.len], fun i a A ha hA => ?_⟩
        cases i with
        | zero => simp at ha hA; subst ha; subst hA; exact h0
        | succ i => exact ih.at_ i a A (by simpa using ha) (by simpa using hA)
      · exact ih
theorem ERels.all {φ : Phi} {p : (V × V × Nat) → Bool} {q : MapEntry → Bool} (hpq : ∀ e E, e.2.2 = E.born → p e = q E) : ∀ {es : List (V × V × Nat)} {ES : List MapEntry}, ERels φ es ES → es.all p = ES.all q := by
  intro es
  induction es with
  | nil =>
    intro ES h
    have : ES = [] := List.eq_nil_of_length_eq_zero (by have := h.len; simpa using this.symm)
    subst this
    rfl
  | cons e es ih =>
    intro ES h
    cases ES with
    | nil => have := h.len; simp at this
    | cons E ES => simp only [List.all_cons, hpq e E (h.at_ 0 e E rfl rfl).2.2, ih h.tail]
theorem ERels.find {φ : Phi} {p : (V × V × Nat) → Bool} {q : MapEntry → Bool} (hpq : ∀ e E, e.2.2 = E.born → p e = q E) : ∀ {es : List (V × V × Nat)} {ES : List MapEntry} {e : V × V × Nat}, ERels φ es ES → es.find? p = some e →
    ∃ E, ES.find? q = some E ∧ VRel φ e.1 E.key ∧ VRel φ e.2.1 E.val := by
  intro es
  induction es with
  | nil => intro ES e h he; cases he
  | cons e es ih =>
    intro ES e' h he
    cases ES with
    | nil => have := h.len; simp at this
    | cons E ES =>
      have h0 := h.at_ 0 e E rfl rfl
      have hp := hpq e E h0.2.2
      rw [List.find?_cons] at he ⊢
      rw [← hp]
      cases hb : p e with
      | true => rw [hb] at he; injection he with he; subst he; exact ⟨E, rfl, h0.1, h0.2.1⟩
      | false => rw [hb] at he; exact ih h.tail he

theorem tuple2 {φ : Phi} {a b : V} {A B : Value} (h : VRel φ a A) (k : VRel φ b B) : VRel φ (.tuple [a, b]) (.tuple #[A, B]) :=
  .tuple rfl (fun i x y hx hy => (LRel.cons h (LRel.cons k (LRel.nil φ))).at_ i x y hx (by simpa using hy))
theorem tuple3 {φ : Phi} {a b c : V} {A B C : Value} (h : VRel φ a A) (k : VRel φ b B) (l : VRel φ c C) : VRel φ (.tuple [a, b, c]) (.tuple #[A, B, C]) :=
  .tuple rfl (fun i x y hx hy => (LRel.cons h (LRel.cons k (LRel.cons l (LRel.nil φ)))).at_ i x y hx (by simpa using hy))
theorem contains_any (l : List Nat) (n : Nat) : l.toArray.contains n = l.any (Nat.beq n) := by
  rw [List.contains_toArray, List.contains_eq_any_beq, show (fun x => n == x) = Nat.beq n from funext fun x => by rw [Bool.eq_iff_iff, beq_iff]; simp]

theorem iter_inv {φ : Phi} {st : Nat} {m : Nat} {since : Nat} {seen : List Nat} {last : Nat} {l : Loc} {b : Option Obj} (h : ORel φ (.iter st (some m) since seen last) l b) :
    l.sh = 0 ∧ ∃ k, φ m = some k ∧ b = some (.mapIter (some k.blk) since seen.toArray last) := by
  obtain ⟨h0, M, h1, k, hk, rfl⟩ := h
  exact ⟨h0, k, hk, h1⟩

theorem effOk_next (x : Operand) : EffOk P (.next x false) (eNext x) := by
  intro ρ s v s' h
  unfold eNext at h
  split at h
  · rename_i r hx
    split at h
    · rename_i st m since seen last hg
      cases hm : s.map m with
      | none => rw [hm] at h; cases h
      | some ec =>
        obtain ⟨es, clock⟩ := ec
        rw [hm] at h
        simp only at h
        obtain ⟨htest, h⟩ := cond_none h
        obtain ⟨k0, hgm⟩ := map_some hm
        -- what the world has
        have facts : ∀ (H : Nat → Option O) (φ : Phi) (w : World) (ρc : Operand → Value), Inv H φ w → (∀ n o, s.get n = some o → H n = some o) → ERel φ ρ ρc →
            ∃ (l k : Loc) (ES : Array MapEntry), φ r = some l ∧ φ m = some k ∧ ρc x = .pointer (some ⟨l.blk, 0, none⟩) ∧ w.heap[l.blk]? = some (.mapIter (some k.blk) since seen.toArray last) ∧ l.sh = 0 ∧ w.heap[k.blk]? = some (.map ES clock) ∧ ERels φ es ES.toList := by
          intro H φ w ρc hi hsub e
          obtain ⟨l, hl, ho⟩ := hi.obj _ _ (hsub _ _ hg)
          obtain ⟨h0, k, hk, hb⟩ := iter_inv ho
          obtain ⟨k', hk', ES, hES, hlen, hat⟩ := hi.obj _ _ (hsub _ _ hgm)
          rw [hk] at hk'; injection hk' with hk'; subst hk'
          have hX := e x _ hx
          generalize hXv : ρc x = XV at hX
          cases hX
          rename_i l' hl'
          rw [hl] at hl'; injection hl' with hl'; subst hl'
          exact ⟨l, k, ES, hl, hk, by rw [h0], hb, h0, hES, ⟨by simpa using hlen, fun i e E he hE => hat i e E he (by simpa using hE)⟩⟩
        have pq : ∀ (e : V × V × Nat) (E : MapEntry), e.2.2 = E.born → (not (seen.any (Nat.beq e.2.2))) = !seen.toArray.contains E.born := by
          intro e E he
          rw [contains_any, he]
        have test : ∀ {φ : Phi} {ES : Array MapEntry}, ERels φ es ES.toList → (!seen.toArray.isEmpty && !ES.isEmpty && ES.all (fun e => decide (e.born ≥ last))) = false := by
          intro φ ES he
          have h1 : ES.all (fun e => decide (e.born ≥ last)) = bornAll last es := by
            rw [← Array.all_toList]
            refine (ERels.all (p := fun e => Nat.ble last e.2.2) (fun e E he => ?_) he).symm
            rw [he, Bool.eq_iff_iff, ble_iff]
            simp
          have h2 : ES.isEmpty = es.isEmpty := by
            have := he.len
            rw [Bool.eq_iff_iff, Array.isEmpty_iff_size_eq_zero, List.isEmpty_iff_length_eq_zero]
            simp at this; omega
          have h3 : seen.toArray.isEmpty = seen.isEmpty := by simp
          rw [h1, h2, h3]
          exact htest
        split at h
        · -- nothing is left
          rename_i hleft
          simp only [Option.some.injEq, Prod.mk.injEq] at h
          obtain ⟨rfl, rfl⟩ := h
          refine ⟨Mono.refl _, fun H φ w ρc oper ho e p => ?_⟩
          obtain ⟨l, k, ES, hl, hk, hX, hb, h0, hES, he⟩ := facts H φ w ρc p.inv p.sub e
          have hf : ES.filter (fun e => !seen.toArray.contains e.born) = #[] := by
            have := (ERels.filter pq he).len
            rw [hleft] at this
            apply Array.ext'
            rw [Array.toList_filter]
            exact List.eq_nil_of_length_eq_zero this.symm
          refine ⟨.value (.tuple #[.bool false]), _, w, H, φ, ?_, .inl rfl, .tuple rfl (fun i x y hx hy => (LRel.cons (VRel.bool false) (LRel.nil φ)).at_ i x y hx (by simpa using hy)), Post.refl p⟩
          have hg1 : (getObj l.blk).run P w = .ok (.mapIter (some k.blk) since seen.toArray last) w := by simp [getObj, Sem.run, hb]
          simp only [execOp, ho, hX, Instr.next, Sem.run_bind, hg1, Result.andThen_ok, getObj_map hES, test he, Bool.false_eq_true, if_false, hf]
          simp [choose, Sem.run, Question.forced]
        · -- one entry is left
          rename_i en hleft
          obtain ⟨hborn, h⟩ := cond_some h
          have hborn := blt_iff.1 hborn
          cases hset : s.set r fun n => .iter n (some m) since (seen ++ [en.2.2]) clock with
          | none => rw [hset] at h; cases h
          | some s₁ =>
            rw [hset] at h
            simp only [Option.some.injEq, Prod.mk.injEq] at h
            obtain ⟨rfl, rfl⟩ := h
            refine ⟨Mono.set hset hg (fun _ => rfl), fun H φ w ρc oper ho e p => ?_⟩
            obtain ⟨l, k, ES, hl, hk, hX, hb, h0, hES, he⟩ := facts H φ w ρc p.inv p.sub e
            have hfl := ERels.filter pq he
            rw [hleft] at hfl
            obtain ⟨E, hE⟩ : ∃ E, ES.toList.filter (fun e => !seen.toArray.contains e.born) = [E] := by
              have hlen := hfl.len
              cases hq : ES.toList.filter (fun e => !seen.toArray.contains e.born) with
              | nil => rw [hq] at hlen; simp at hlen
              | cons E r =>
                cases r with
                | nil => exact ⟨E, rfl⟩
                | cons => rw [hq] at hlen; simp at hlen
            rw [hE] at hfl
            obtain ⟨v1, v2, v3⟩ := hfl.at_ 0 en E rfl rfl
            have hf : ES.filter (fun e => !seen.toArray.contains e.born) = #[E] := by
              apply Array.ext'
              rw [Array.toList_filter, hE]
            have hlt : l.blk < w.heap.size := (Array.getElem?_eq_some_iff.1 hb).1
            have hpost := Post.store hset p hg hl (w' := { w with heap := w.heap.setIfInBounds l.blk (.mapIter (some k.blk) since (seen.toArray.push E.born) clock) }) (fun b hb => by simp [Ne.symm hb]) (by simp) rfl rfl rfl
              ⟨h0, some k.blk, by simp [hlt, v3], k, hk, rfl⟩
            refine ⟨.value (.tuple #[.bool true, E.key, E.val]), _, _, _, φ, ?_, .inl rfl, tuple3 (.bool true) v1 v2, hpost⟩
            have hg1 : (getObj l.blk).run P w = .ok (.mapIter (some k.blk) since seen.toArray last) w := by simp [getObj, Sem.run, hb]
            have hs1 : ∀ o', (setObj l.blk o').run P w = .ok () { w with heap := w.heap.setIfInBounds l.blk o' } := fun o' => by simp [setObj, Sem.run, hb]
            have e1 : #[E].filter (fun x => decide (x.born < since)) = #[E] := by simp; omega
            have e2 : #[E].filter (fun x => decide (x.born ≥ since)) = #[] := by simp; omega
            simp only [execOp, ho, hX, Instr.next, Sem.run_bind, hg1, Result.andThen_ok, getObj_map hES, test he, Bool.false_eq_true, if_false, hf, e1, e2]
            have hch : ∀ q : Array (Option MapEntry), q.size = 1 → (choose (.mapNext q.size)).run P w = .ok 0 w := by
              intro q hq
              simp [choose, Sem.run, Question.forced, hq]
            simp [hs1, Question.forced]
        · cases h
    · cases h
  · cases h

theorem effOk_entry (x : Operand) : EffOk P (.entry x) (eEntry x) := by
  intro ρ s v s' h
  unfold eEntry at h
  split at h
  · rename_i r hx
    split at h
    · rename_i st m since seen stepped hg
      cases hm : s.map m with
      | none => rw [hm] at h; cases h
      | some ec =>
      obtain ⟨es, clock⟩ := ec
      cases hlast : seen.getLast? with
      | none => rw [hm, hlast] at h; cases h
      | some stamp =>
        rw [hm, hlast] at h
        simp only at h
        obtain ⟨hclock, h2⟩ := cond_some h
        clear h
        obtain rfl := beq_iff.1 hclock
        cases hfind : es.find? (fun e => Nat.beq e.2.2 stamp) with
        | none => rw [hfind] at h2; cases h2
        | some en =>
          rw [hfind] at h2
          simp only [Option.some.injEq, Prod.mk.injEq] at h2
          obtain ⟨rfl, rfl⟩ := h2
          obtain ⟨k0, hgm⟩ := map_some hm
          refine ⟨Mono.refl _, fun H φ w ρc oper ho e p => ?_⟩
          obtain ⟨l, hl, ho'⟩ := p.inv.obj _ _ (p.sub _ _ hg)
          obtain ⟨h0, k, hk, hb⟩ := iter_inv ho'
          obtain ⟨k', hk', ES, hES, hlen, hat⟩ := p.inv.obj _ _ (p.sub _ _ hgm)
          rw [hk] at hk'; injection hk' with hk'; subst hk'
          have hX := e x _ hx
          generalize hXv : ρc x = XV at hX
          cases hX
          rename_i l' hl'
          rw [hl] at hl'; injection hl' with hl'; subst hl'
          have he : ERels φ es ES.toList := ⟨by simpa using hlen, fun i e E he hE => hat i e E he (by simpa using hE)⟩
          obtain ⟨E, hE, v1, v2⟩ := ERels.find (q := fun E => E.born == stamp) (fun e E he => by rw [he, Bool.eq_iff_iff, beq_iff]; simp) he hfind
          have hE' : ES.find? (fun E => E.born == stamp) = some E := by rw [← Array.find?_toList]; exact hE
          refine ⟨.value (.tuple #[E.key, E.val]), _, w, H, φ, ?_, .inl rfl, tuple2 v1 v2, Post.refl p⟩
          have hg1 : (getObj l.blk).run P w = .ok (.mapIter (some k.blk) since seen.toArray clock) w := by simp [getObj, Sem.run, hb]
          have hback : seen.toArray.back? = some stamp := by simp [hlast]
          simp only [execOp, ho, hXv, h0, Nat.zero_add, Instr.entry, Sem.run_bind, hg1, Result.andThen_ok, hback, getObj_map hES, bne_self_eq_false, Bool.false_eq_true, if_false, hE', Sem.run_pure]
    · cases h
  · cases h
end
end Go.Ev
