/- Regions that draw their order: the evaluator's own run of them. -/
import Derived.Test.YtcmfahemeogamaaGreatEvI
namespace Go.Ev
section
variable {P : Program}

abbrev Entry := Nat × Bool × Nat × Nat × Nat
/-- What makes an object sure for a read. -/
def Good (m c0 b st : Nat) (En : Entry → Prop) : Prop :=
  st < c0 ∨ ∃ e : Entry, En e ∧ hasBit m e.1 = true ∧ st < e.2.2.2.2 ∧ (e.2.1 = true ∨ (e.2.1 = false ∧ e.2.2.1 ≤ b ∧ b < e.2.2.2.1))
theorem lowest_good {m c0 b st : Nat} : ∀ {d : Done}, st < lowest m c0 d → Good m c0 b st (· ∈ d) := by
  intro d
  induction d with
  | nil => intro h; exact .inl h
  | cons e d ih =>
    intro h
    obtain ⟨i, f, k, k', c⟩ := e
    unfold lowest at h
    cases hb : (f && hasBit m i) with
    | true =>
      rw [hb] at h
      rw [Bool.and_eq_true] at hb
      exact .inr ⟨(i, f, k, k', c), List.mem_cons.2 (.inl rfl), hb.2, h, .inl hb.1⟩
    | false =>
      rw [hb] at h
      rcases ih h with h | ⟨e, he, r⟩
      · exact .inl h
      · exact .inr ⟨e, List.mem_cons.2 (.inr he), r⟩
theorem made_good {m c0 b st : Nat} : ∀ {d : Done}, made m b st d = true → Good m c0 b st (· ∈ d) := by
  intro d
  induction d with
  | nil => intro h; cases h
  | cons e d ih =>
    intro h
    obtain ⟨i, f, k, k', c⟩ := e
    unfold made at h
    rw [Bool.or_eq_true] at h
    rcases h with h | h
    · simp only [Bool.and_eq_true, Bool.not_eq_true'] at h
      obtain ⟨⟨⟨⟨h1, h2⟩, h3⟩, h4⟩, h5⟩ := h
      exact .inr ⟨(i, f, k, k', c), List.mem_cons.2 (.inl rfl), h2, blt_iff.1 h5, .inr ⟨h1, ble_iff.1 h3, blt_iff.1 h4⟩⟩
    · rcases ih h with h | ⟨e, he, r⟩
      · exact .inl h
      · exact .inr ⟨e, List.mem_cons.2 (.inr he), r⟩

/-- A read that is wanted sees an object that is sure. -/
def Sure (x : PStep) (c0 : Nat) (En : Entry → Prop) (s : St) (a : Fr) : Prop :=
  ∀ f, x.step.kind = .read f → isWanted a x.step.guard = true → ∃ b g ob, f (opnd a) = some (b, g) ∧ s.get b = some ob ∧ Good x.mask c0 b ob.stamp En
theorem Sure.mono {x : PStep} {c0 : Nat} {En En' : Entry → Prop} {s : St} {a : Fr} (h : Sure x c0 En s a) (hE : ∀ e, En e → En' e) : Sure x c0 En' s a := by
  intro f hf hw
  obtain ⟨b, g, ob, h1, h2, h3⟩ := h f hf hw
  refine ⟨b, g, ob, h1, h2, ?_⟩
  rcases h3 with h | ⟨e, he, r⟩
  · exact .inl h
  · exact .inr ⟨e, hE e he, r⟩
theorem readOk_sure {x : PStep} {c0 : Nat} {d : Done} {s : St} {a : Fr} (h : readOk x c0 d s a = true) : Sure x c0 (· ∈ d) s a := by
  intro f hf hw
  unfold readOk at h
  rw [hf] at h
  simp only [hw, cond_true] at h
  unfold fresh at h
  split at h
  · rename_i b g hr
    split at h
    · rename_i ob hb
      rw [Bool.or_eq_true] at h
      refine ⟨b, g, ob, hr, hb, ?_⟩
      rcases h with h | h
      · exact lowest_good (blt_iff.1 h)
      · exact made_good h
    · cases h
  · cases h

theorem drawV_cons (call : CallF) (c0 : Nat) (x : PStep) (l : List PStep) (d : Done) (s : St) (a : Fr) :
    drawV call c0 (x :: l) d s a = cond (readOk x c0 d s a) (match stepV call x.step s a with | some (s', a') => drawV call c0 l ((x.i, x.eff, s.ctr, s'.ctr, s'.clk) :: d) s' a' | none => none) none := rfl

/-- The states and frames of the evaluator's run. -/
structure Trace (call : CallF) (c0 : Nat) (l : List PStep) (d : Done) (s : St) (a : Fr) (s' : St) (a' : Fr) (st : Nat → St) (fr : Nat → Fr) : Prop where
  st0 : st 0 = s
  fr0 : fr 0 = a
  stN : st l.length = s'
  frN : fr l.length = a'
  step : ∀ (p : Nat) (x : PStep), l[p]? = some x → stepV call x.step (st p) (fr p) = some (st (p + 1), fr (p + 1))
  sure : ∀ (p : Nat) (x : PStep), l[p]? = some x → Sure x c0 (fun e => e ∈ d ∨ ∃ (q : Nat) (y : PStep), q < p ∧ l[q]? = some y ∧ e = (y.i, y.eff, (st q).ctr, (st (q + 1)).ctr, (st (q + 1)).clk)) (st p) (fr p)
theorem drawV_trace {call : CallF} {c0 : Nat} : ∀ {l : List PStep} {d : Done} {s s' : St} {a a' : Fr}, drawV call c0 l d s a = some (s', a') → ∃ st fr, Trace call c0 l d s a s' a' st fr := by
  intro l
  induction l with
  | nil =>
    intro d s s' a a' h
    change some (s, a) = some (s', a') at h
    simp only [Option.some.injEq, Prod.mk.injEq] at h
    obtain ⟨rfl, rfl⟩ := h
    exact ⟨fun _ => s, fun _ => a, rfl, rfl, rfl, rfl, fun p x h => by simp at h, fun p x h => by simp at h⟩
  | cons x l ih =>
    intro d s s' a a' h
    rw [drawV_cons] at h
    obtain ⟨hr, h⟩ := cond_some h
    cases hs : stepV call x.step s a with
    | none => rw [hs] at h; cases h
    | some sa =>
      obtain ⟨s₁, a₁⟩ := sa
      rw [hs] at h
      simp only at h
      obtain ⟨st, fr, t⟩ := ih h
      refine ⟨fun p => match p with | 0 => s | p + 1 => st p, fun p => match p with | 0 => a | p + 1 => fr p, rfl, rfl, t.stN, t.frN, fun p y hy => ?_, fun p y hy => ?_⟩
      · cases p with
        | zero => simp at hy; subst hy; simp only [t.st0, t.fr0]; exact hs
        | succ p => exact t.step p y (by simpa using hy)
      · cases p with
        | zero => simp at hy; subst hy; exact (readOk_sure hr).mono (fun e he => .inl he)
        | succ p =>
          refine (t.sure p y (by simpa using hy)).mono (fun e he => ?_)
          rcases he with he | ⟨q, z, hq, hz, he⟩
          · rcases List.mem_cons.1 he with rfl | he
            · exact .inr ⟨0, x, by omega, rfl, by simp only [t.st0]⟩
            · exact .inl he
          · exact .inr ⟨q + 1, z, by omega, by simpa using hz, he⟩

/-- What a step does to names and to the frame. -/
structure StepShape (n : Nat) (x : Step) (s s' : St) (a a' : Fr) : Prop where
  mono : Mono s s'
  put : ∃ v, a' = a.put x.dst v
  dst : ∀ d, x.dst = some d → d < n
theorem step_shape {call : CallF} (hc : CallOk P call) {n : Nat} {ops : Array Oper} {o : Oper} {s s' : St} {a a' : Fr} (h : stepV call (stepOf P n ops o) s a = some (s', a')) : Mono s s' ∧ (∃ v, a' = a.put o.dst v) ∧ (∀ d, o.dst = some d → d < n) := by
  obtain ⟨g, hg, hd, _, h⟩ := stepOf_eq h
  rcases h with ⟨hw, h⟩ | ⟨hw, rfl, rfl⟩
  · obtain ⟨hm, v, rfl, _⟩ := oper_run hc h
    exact ⟨hm, ⟨v, rfl⟩, hd⟩
  · exact ⟨Mono.refl _, ⟨_, rfl⟩, hd⟩
/-- Of what does not act: no object but a new one is touched. -/
theorem noneff_get {call : CallF} {n : Nat} {ops : Array Oper} {o : Oper} (he : isEff P o = false) {s s' : St} {a a' : Fr} (h : stepV call (stepOf P n ops o) s a = some (s', a')) : ∀ m, m < s.ctr → s'.get m = s.get m := by
  obtain ⟨g, hg, hd, _, h⟩ := stepOf_eq h
  rcases h with ⟨hw, h⟩ | ⟨hw, rfl, rfl⟩
  · unfold isEff at he
    generalize kind P o.op = k at h he
    cases k with
    | pure f =>
      simp only [operV, doPure] at h
      cases hf : f (opnd a) with
      | none => rw [hf] at h; cases h
      | some v => rw [hf] at h; simp only [fin, Option.some.injEq, Prod.mk.injEq] at h; obtain ⟨rfl, _⟩ := h; exact fun _ _ => rfl
    | alloc f =>
      simp only [operV, doAlloc] at h
      cases hf : f (opnd a) with
      | none => rw [hf] at h; cases h
      | some ov =>
        obtain ⟨ob, mk⟩ := ov
        rw [hf] at h
        simp only at h
        cases hn : s.new ob with
        | none => rw [hn] at h; cases h
        | some ns =>
          obtain ⟨k, s₁⟩ := ns
          rw [hn] at h
          simp only [fin, Option.some.injEq, Prod.mk.injEq] at h
          obtain ⟨rfl, _⟩ := h
          intro m hm
          rw [(St.new_spec hn).2.2.2, if_neg (by omega)]
    | read f =>
      simp only [operV, doRead] at h
      cases hf : f (opnd a) with
      | none => rw [hf] at h; cases h
      | some bg =>
        obtain ⟨b, g⟩ := bg
        rw [hf] at h
        simp only at h
        cases hb : s.get b with
        | none => rw [hb] at h; cases h
        | some ob =>
          rw [hb] at h
          simp only at h
          cases hg : g ob with
          | none => rw [hg] at h; cases h
          | some v => rw [hg] at h; simp only [fin, Option.some.injEq, Prod.mk.injEq] at h; obtain ⟨rfl, _⟩ := h; exact fun _ _ => rfl
    | eff f => cases he
    | call f args => cases he
    | bad => cases he
  · exact fun _ _ => rfl

/-! ### Slots -/
def Writes (L : List Item3) (t j : Nat) : Prop := ∃ x : Item3, L[j]? = some x ∧ x.2.2.dst = some t
open Classical in
/-- What a slot holds when just some of the first j operations have been carried out. -/
noncomputable def tv (L : List Item3) (fr : Nat → Fr) (In : Nat → Prop) (t : Nat) : Nat → V
  | 0 => (fr 0).get t
  | j + 1 => if In j ∧ Writes L t j then (fr (j + 1)).get t else tv L fr In t j
theorem tv_succ (L : List Item3) (fr : Nat → Fr) (In : Nat → Prop) (t j : Nat) : (In j ∧ Writes L t j → tv L fr In t (j + 1) = (fr (j + 1)).get t) ∧ (¬ (In j ∧ Writes L t j) → tv L fr In t (j + 1) = tv L fr In t j) := by
  constructor
  · intro h; unfold tv; rw [if_pos h]
  · intro h; conv => lhs; unfold tv
    rw [if_neg h]
theorem tv_all {L : List Item3} {fr : Nat → Fr} {In : Nat → Prop} {t : Nat} (hfr : ∀ j, j < L.length → ¬ Writes L t j → (fr (j + 1)).get t = (fr j).get t) :
    ∀ j, j ≤ L.length → (∀ q, q < j → Writes L t q → In q) → tv L fr In t j = (fr j).get t := by
  intro j
  induction j with
  | zero => intro _ _; rfl
  | succ j ih =>
    intro hj h
    have ih := ih (by omega) (fun q hq => h q (by omega))
    by_cases hw : Writes L t j
    · exact (tv_succ L fr In t j).1 ⟨h j (by omega) hw, hw⟩
    · rw [(tv_succ L fr In t j).2 (fun h => hw h.2), ih, hfr j (by omega) hw]
theorem tv_none {L : List Item3} {fr : Nat → Fr} {In : Nat → Prop} {t m : Nat} : ∀ j, m ≤ j → (∀ q, m ≤ q → q < j → Writes L t q → ¬ In q) → tv L fr In t j = tv L fr In t m := by
  intro j
  induction j with
  | zero => intro hm _; have : m = 0 := by omega
            subst this; rfl
  | succ j ih =>
    intro hm h
    by_cases e : m = j + 1
    · subst e; rfl
    · rw [(tv_succ L fr In t j).2 (fun hh => h j (by omega) (by omega) hh.2 hh.1), ih (by omega) (fun q h1 h2 => h q h1 (by omega))]
theorem tv_congr {L : List Item3} {fr : Nat → Fr} {In In' : Nat → Prop} {t : Nat} (h : ∀ q, Writes L t q → (In q ↔ In' q)) : ∀ j, tv L fr In t j = tv L fr In' t j := by
  intro j
  induction j with
  | zero => rfl
  | succ j ih =>
    by_cases hw : In j ∧ Writes L t j
    · rw [(tv_succ L fr In t j).1 hw, (tv_succ L fr In' t j).1 ⟨(h j hw.2).1 hw.1, hw.2⟩]
    · rw [(tv_succ L fr In t j).2 hw, (tv_succ L fr In' t j).2 (fun hh => hw ⟨(h j hh.2).2 hh.1, hh.2⟩), ih]
end
end Go.Ev
