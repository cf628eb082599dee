/- Regions in the order of their text. -/
import Derived.Test.YtcmfahemeogamaaGreatEvG
namespace Go.Ev
section
variable {P : Program}

theorem step_run {call : CallF} (hc : CallOk P call) {n : Nat} (hn : n ≤ TMAX) {ops : Array Oper} {i : Nat} {o : Oper} (ho : ops[i]? = some o) {s s' : St} {a a' : Fr} (h : stepV call (stepOf P n ops o) s a = some (s', a')) :
    Mono s s' ∧ ∀ (H : Nat → Option O) (φ : Phi) (w : World) (A : Act), Pre s s' H φ w → FRel φ n a A → ∀ (K : Act → World → Prop) (Q : Exit → Act → World → Prop),
      (∀ H' φ' w' A', Post s s' H φ w H' φ' w' → FRel φ' n a' A' → K A' w') → wpOp P ops Q i K A w := by
  obtain ⟨g, hg, hd, _, h⟩ := stepOf_eq h
  rcases h with ⟨hw, h⟩ | ⟨hw, rfl, rfl⟩
  · obtain ⟨hm, v, rfl, hr⟩ := oper_run hc h
    refine ⟨hm, fun H φ w A p r K Q hK => ?_⟩
    have hwant := guardOf_wanted (ops := ops) hg (φ := φ) (a := a) (A := A) (fun _ _ _ d _ _ _ ht => r.at_ d ht)
    unfold wpOp
    simp only [ho, hwant, hw, if_true]
    exact .inl (hr H φ w A p (fun t _ ht => r.at_ t ht) K Q (fun x w' H' φ' hv hp => hK H' φ' w' _ hp ((r.mono (hp.ext p)).put hd hn hv)))
  · refine ⟨Mono.refl _, fun H φ w A p r K Q hK => ?_⟩
    have hwant := guardOf_wanted (ops := ops) hg (φ := φ) (a := a) (A := A) (fun _ _ _ d _ _ _ ht => r.at_ d ht)
    unfold wpOp
    simp only [ho, hwant, hw, Bool.false_eq_true, if_false]
    exact hK H φ w _ (Post.refl p) (r.put hd hn (.undef φ))

theorem regionV_cons (call : CallF) (x : Step) (l : List Step) (s : St) (a : Fr) : regionV call (x :: l) s a = match stepV call x s a with | some (s, a) => regionV call l s a | none => none := by
  show (match stepV call x s a with | some (s, a) => regionV call l s a | none => none) = _
  rfl
theorem region_go {call : CallF} (hc : CallOk P call) {n : Nat} (hn : n ≤ TMAX) {ops : Array Oper} : ∀ (L : List Oper) (k : Nat), (∀ i o, L[i]? = some o → ops[k + i]? = some o) → ∀ {s s' : St} {a a' : Fr}, regionV call (L.map (stepOf P n ops)) s a = some (s', a') →
    Mono s s' ∧ ∀ (H : Nat → Option O) (φ : Phi) (w : World) (A : Act), Pre s s' H φ w → FRel φ n a A → ∀ (Q : Exit → Act → World → Prop),
      (∀ H' φ' w' A', Post s s' H φ w H' φ' w' → FRel φ' n a' A' → Q .normal A' w') → wpOps P ops Q (List.range' k L.length) A w := by
  intro L
  induction L with
  | nil =>
    intro k hk s s' a a' h
    change some (s, a) = some (s', a') at h
    simp only [Option.some.injEq, Prod.mk.injEq] at h
    obtain ⟨rfl, rfl⟩ := h
    exact ⟨Mono.refl _, fun H φ w A p r Q hQ => by simpa [wpOps] using hQ H φ w A (Post.refl p) r⟩
  | cons o L ih =>
    intro k hk s s' a a' h
    rw [List.map_cons, regionV_cons] at h
    cases hs : stepV call (stepOf P n ops o) s a with
    | none => rw [hs] at h; cases h
    | some sa =>
      obtain ⟨s₁, a₁⟩ := sa
      rw [hs] at h
      simp only at h
      obtain ⟨hm1, h1⟩ := step_run hc hn (by simpa using hk 0 o rfl) hs
      obtain ⟨hm2, h2⟩ := ih (k + 1) (fun i x hx => by have := hk (i + 1) x (by simpa using hx); rwa [show k + (i + 1) = k + 1 + i by omega] at this) h
      refine ⟨hm1.trans hm2, fun H φ w A p r Q hQ => ?_⟩
      rw [List.length_cons, List.range'_succ, wpOps_cons]
      refine h1 H φ w A (p.left hm2) r _ Q (fun H1 φ1 w1 A1 hp hr => ?_)
      exact h2 H1 φ1 w1 A1 (p.right hm1 hp) hr Q (fun H' φ' w' A' hp' hr' => hQ H' φ' w' A' (Post.trans hm1 hm2 hp hp') hr')
/-- A region in the order of its text. -/
theorem region_run {call : CallF} (hc : CallOk P call) {n : Nat} (hn : n ≤ TMAX) {ops : Array Oper} {s s' : St} {a a' : Fr} (h : regionV call (stepsOf P n ops) s a = some (s', a')) (id : Nat) :
    Mono s s' ∧ ∀ (H : Nat → Option O) (φ : Phi) (w : World) (A : Act), Pre s s' H φ w → FRel φ n a A → ∀ (Q : Exit → Act → World → Prop),
      (∀ H' φ' w' A', Post s s' H φ w H' φ' w' → FRel φ' n a' A' → Q .normal A' w') → (Code.region id ops false).wp P Q A w := by
  obtain ⟨hm, hr⟩ := region_go hc hn ops.toList 0 (fun i o ho => by rw [Nat.zero_add]; simpa using ho) h
  refine ⟨hm, fun H φ w A p r Q hQ => wp_region ?_⟩
  have := hr H φ w A p r Q hQ
  rwa [Array.length_toList, ← List.range_eq_range'] at this
end
end Go.Ev
