/- Plans of regions that draw their order: what is checked of them. -/
import Derived.Test.YtcmfahemeogamaaGreatEvH
namespace Go.Ev
section
variable {P : Program}

theorem hasBit_eq (m i : Nat) : hasBit m i = m.testBit i := by
  rw [Bool.eq_iff_iff]
  unfold hasBit
  rw [beq_iff]
  show (m >>> i) &&& 1 = 1 ↔ _
  rw [Nat.and_one_is_mod, Nat.testBit_eq_decide_div_mod_eq, Nat.shiftRight_eq_div_pow]
  simp
theorem hasBit_or (a b i : Nat) : hasBit (Nat.lor a b) i = (hasBit a i || hasBit b i) := by
  rw [hasBit_eq, hasBit_eq, hasBit_eq]
  exact Nat.testBit_or a b i
theorem hasBit_one (k i : Nat) : hasBit (Nat.shiftLeft 1 k) i = Nat.beq k i := by
  rw [hasBit_eq]
  show (1 <<< k).testBit i = _
  rw [Nat.shiftLeft_eq, Nat.one_mul, Nat.testBit_two_pow, Bool.eq_iff_iff, beq_iff]
  simp
theorem hasBit_zero (i : Nat) : hasBit 0 i = false := by rw [hasBit_eq]; simp

/-- The bits that one operation's edges give. -/
noncomputable def edgeBits (ms : List Nat) (es : List Edge) (m0 : Nat) : Nat :=
  es.foldl (fun m e => cond (binding e) (Nat.lor m (Nat.lor (Nat.shiftLeft 1 e.on) (match nth ms e.on with | some k => k | none => 0))) m) m0
theorem edgeBits_iff (ms : List Nat) (j : Nat) : ∀ (es : List Edge) (m0 : Nat), hasBit (edgeBits ms es m0) j = true ↔ hasBit m0 j = true ∨ ∃ e ∈ es, binding e = true ∧ (j = e.on ∨ ∃ k, ms[e.on]? = some k ∧ hasBit k j = true) := by
  intro es
  induction es with
  | nil => intro m0; simp [edgeBits]
  | cons e es ih =>
    intro m0
    show hasBit (edgeBits ms es (cond (binding e) _ m0)) j = true ↔ _
    rw [ih]
    cases hb : binding e with
    | false =>
      simp only [cond_false, List.mem_cons]
      constructor
      · rintro (h | ⟨x, hx, h⟩)
        · exact .inl h
        · exact .inr ⟨x, .inr hx, h⟩
      · rintro (h | ⟨x, rfl | hx, h⟩)
        · exact .inl h
        · rw [hb] at h; cases h.1
        · exact .inr ⟨x, hx, h⟩
    | true =>
      simp only [cond_true, hasBit_or, hasBit_one, Bool.or_eq_true, List.mem_cons, nth_eq]
      have hm : hasBit (match ms[e.on]? with | some k => k | none => 0) j = true ↔ ∃ k, ms[e.on]? = some k ∧ hasBit k j = true := by
        cases ms[e.on]? with
        | none => simp [hasBit_zero]
        | some k => simp
      rw [hm, beq_iff]
      constructor
      · rintro ((h | h | h) | ⟨x, hx, h⟩)
        · exact .inl h
        · exact .inr ⟨e, .inl rfl, hb, .inl h.symm⟩
        · exact .inr ⟨e, .inl rfl, hb, .inr h⟩
        · exact .inr ⟨x, .inr hx, h⟩
      · rintro (h | ⟨x, rfl | hx, h⟩)
        · exact .inl (.inl h)
        · rcases h.2 with h | h
          · exact .inl (.inr (.inl h.symm))
          · exact .inl (.inr (.inr h))
        · exact .inr ⟨x, hx, h⟩
theorem masksFrom_cons (ms : List Nat) (o : Oper) (r : List Oper) : masksFrom ms (o :: r) = masksFrom (ms ++ [edgeBits ms o.after.toList 0]) r := rfl

/-- Bits lead to what has come before; edges are bits. -/
theorem masksFrom_spec (ops : List Oper) : ∀ (r : List Oper) (ms : List Nat), (∀ i, r[i]? = ops[ms.length + i]?) → ms.length ≤ ops.length →
    (∀ i m, ms[i]? = some m → ∃ o, ops[i]? = some o ∧ m = edgeBits (ms.take i) o.after.toList 0) →
    (masksFrom ms r).length = ops.length ∧ ∀ i m, (masksFrom ms r)[i]? = some m → ∃ o, ops[i]? = some o ∧ m = edgeBits ((masksFrom ms r).take i) o.after.toList 0 := by
  intro r
  induction r with
  | nil =>
    intro ms hr hl h
    have : ms.length = ops.length := by
      have := hr 0
      simp at this
      omega
    exact ⟨this, h⟩
  | cons o r ih =>
    intro ms hr hl h
    rw [masksFrom_cons]
    have ho : ops[ms.length]? = some o := by have := hr 0; simpa using this.symm
    have hlt : ms.length < ops.length := (List.getElem?_eq_some_iff.1 ho).1
    refine ih _ (fun i => ?_) (by simp; omega) (fun i m hm => ?_)
    · have := hr (i + 1)
      simp only [List.getElem?_cons_succ] at this
      rw [this]
      simp [Nat.add_comm, Nat.add_left_comm]
    · by_cases hi : i < ms.length
      · rw [List.getElem?_append_left hi] at hm
        obtain ⟨x, hx, he⟩ := h i m hm
        refine ⟨x, hx, ?_⟩
        rw [List.take_append_of_le_length (by omega)]
        exact he
      · have hi2 : i = ms.length := by
          have := (List.getElem?_eq_some_iff.1 hm).1
          simp at this; omega
        subst hi2
        simp only [List.getElem?_concat_length, Option.some.injEq] at hm
        subst hm
        exact ⟨o, ho, by simp⟩
theorem masks_spec (ops : List Oper) : (masks ops).length = ops.length ∧ ∀ i m, (masks ops)[i]? = some m → ∃ o, ops[i]? = some o ∧ m = edgeBits ((masks ops).take i) o.after.toList 0 :=
  masksFrom_spec ops ops [] (fun i => by simp) (Nat.zero_le _) (fun i m h => by simp at h)

/-- What is listed has what it needs listed. -/
def Closed (ops : Array Oper) (S : Nat → Prop) : Prop := ∀ i o, S i → ops[i]? = some o → ∀ e ∈ o.after.toList, binding e = true → S e.on
theorem mask_closed {ops : Array Oper} {S : Nat → Prop} (hS : Closed ops S) : ∀ (i : Nat) (m : Nat) (o : Oper), (masks ops.toList)[i]? = some m → ops[i]? = some o → (∀ e ∈ o.after.toList, binding e = true → S e.on) → ∀ j, hasBit m j = true → S j := by
  intro i
  induction i using Nat.strongRecOn with
  | _ i ih =>
    intro m o hm ho he j hj
    obtain ⟨o', ho', rfl⟩ := (masks_spec ops.toList).2 i m hm
    rw [Array.getElem?_toList, ho] at ho'
    injection ho' with ho'; subst ho'
    rw [edgeBits_iff] at hj
    rcases hj with hj | ⟨e, hmem, hb, hj⟩
    · rw [hasBit_zero] at hj; cases hj
    · rcases hj with rfl | ⟨k, hk, hj⟩
      · exact he e hmem hb
      · rw [List.getElem?_take] at hk
        split at hk
        · rename_i hlt
          have hSe := he e hmem hb
          have hlen : e.on < ops.size := by
            have := (List.getElem?_eq_some_iff.1 hk).1
            rw [(masks_spec ops.toList).1] at this
            simpa using this
          exact ih e.on hlt k ops[e.on] hk (Array.getElem?_eq_getElem hlen) (fun e' he' hb' => hS e.on _ hSe (Array.getElem?_eq_getElem hlen) e' he' hb') j hj
        · cases hk
theorem mask_edge {ops : Array Oper} {i m : Nat} {o : Oper} (hm : (masks ops.toList)[i]? = some m) (ho : ops[i]? = some o) {e : Edge} (he : e ∈ o.after.toList) (hb : binding e = true) : hasBit m e.on = true := by
  obtain ⟨o', ho', rfl⟩ := (masks_spec ops.toList).2 i m hm
  rw [Array.getElem?_toList, ho] at ho'
  injection ho' with ho'; subst ho'
  rw [edgeBits_iff]
  exact .inr ⟨e, he, hb, .inl rfl⟩

theorem itemsFrom_mem : ∀ (os : List Oper) (ms : List Nat) (k : Nat) (x : Item3), x ∈ itemsFrom k os ms → ∃ i, x.1 = k + i ∧ ms[i]? = some x.2.1 ∧ os[i]? = some x.2.2 := by
  intro os
  induction os with
  | nil => intro ms k x h; cases ms <;> cases h
  | cons o os ih =>
    intro ms k x h
    cases ms with
    | nil => cases h
    | cons m ms =>
      rcases List.mem_cons.1 h with rfl | h
      · exact ⟨0, rfl, rfl, rfl⟩
      · obtain ⟨i, h1, h2, h3⟩ := ih ms (k + 1) x h
        exact ⟨i + 1, by omega, by simpa using h2, by simpa using h3⟩
theorem itemsFrom_get : ∀ (os : List Oper) (ms : List Nat) (k i : Nat) (o : Oper) (m : Nat), os[i]? = some o → ms[i]? = some m → (k + i, m, o) ∈ itemsFrom k os ms := by
  intro os
  induction os with
  | nil => intro ms k i o m h; simp at h
  | cons o' os ih =>
    intro ms k i o m h h'
    cases ms with
    | nil => simp at h'
    | cons m' ms =>
      cases i with
      | zero => simp at h h'; subst h; subst h'; exact List.mem_cons.2 (.inl rfl)
      | succ i =>
        have := ih ms (k + 1) i o m (by simpa using h) (by simpa using h')
        rw [show k + (i + 1) = k + 1 + i by omega]
        exact List.mem_cons.2 (.inr this)
theorem planGo_mem (ls : List Item3) : ∀ (es rest : List Item3) (x : Item3), x ∈ planGo ls es rest → x ∈ es ∨ x ∈ rest := by
  intro es
  induction es with
  | nil => intro rest x h; exact .inr h
  | cons e es ih =>
    intro rest x h
    unfold planGo at h
    rcases List.mem_append.1 h with h | h
    · exact .inr ((List.mem_filter.1 h).1)
    · rcases List.mem_cons.1 h with rfl | h
      · exact .inl (List.mem_cons.2 (.inl rfl))
      · rcases ih _ x h with h | h
        · exact .inl (List.mem_cons.2 (.inr h))
        · exact .inr ((List.mem_filter.1 h).1)
theorem plan_mem {ops : Array Oper} {x : Item3} (h : x ∈ plan P ops) : (masks ops.toList)[x.1]? = some x.2.1 ∧ ops[x.1]? = some x.2.2 := by
  have hx : x ∈ itemsFrom 0 ops.toList (masks ops.toList) := by
    rcases planGo_mem _ _ _ x h with h | h
    · exact (List.mem_filter.1 h).1
    · exact h
  obtain ⟨i, h1, h2, h3⟩ := itemsFrom_mem _ _ _ _ hx
  rw [Nat.zero_add] at h1
  subst h1
  exact ⟨h2, by simpa using h3⟩

/-- What a plan is good for. -/
structure Lay (P : Program) (ops : Array Oper) (L : List Item3) : Prop where
  mem : ∀ (p : Nat) (x : Item3), L[p]? = some x → (masks ops.toList)[x.1]? = some x.2.1 ∧ ops[x.1]? = some x.2.2
  cover : ∀ i, i < ops.size → ∃ (p : Nat) (x : Item3), L[p]? = some x ∧ x.1 = i
  edges : ∀ (i : Nat) (o : Oper), ops[i]? = some o → ∀ e ∈ o.after.toList, binding e = true → e.on < ops.size
  nodup : ∀ (p q : Nat) (x y : Item3), L[p]? = some x → L[q]? = some y → p < q → x.1 ≠ y.1
  order : ∀ (p q : Nat) (x y : Item3), L[p]? = some x → L[q]? = some y → p ≤ q → hasBit x.2.1 y.1 = false
  eff : ∀ (p q : Nat) (x y : Item3), L[p]? = some x → L[q]? = some y → p < q → isEff P y.2.2 = true → hasBit y.2.1 x.1 = true
  tmps : ∀ (p q : Nat) (x y : Item3) (d : Nat), L[p]? = some x → L[q]? = some y → p ≠ q → x.2.2.dst = some d → (d ∈ looks ops y.2.2 ∨ y.2.2.dst = some d) → hasBit y.2.1 x.1 = true ∨ hasBit x.2.1 y.1 = true

theorem orderOk_spec : ∀ (l before : List Item3), orderOk P before l = true →
    (∀ (p q : Nat) (x y : Item3), l[p]? = some x → l[q]? = some y → p < q → x.1 ≠ y.1) ∧ (∀ (p q : Nat) (x y : Item3), l[p]? = some x → l[q]? = some y → p ≤ q → hasBit x.2.1 y.1 = false) ∧
    (∀ (q : Nat) (y : Item3), l[q]? = some y → isEff P y.2.2 = true → (∀ x ∈ before, hasBit y.2.1 x.1 = true) ∧ ∀ (p : Nat) (x : Item3), l[p]? = some x → p < q → hasBit y.2.1 x.1 = true) := by
  intro l
  induction l with
  | nil => intro before _; exact ⟨fun p q x y h => by simp at h, fun p q x y h => by simp at h, fun q y h => by simp at h⟩
  | cons z l ih =>
    intro before h
    simp only [orderOk, Bool.and_eq_true, Bool.or_eq_true, Bool.not_eq_true', List.all_eq_true] at h
    obtain ⟨⟨⟨h1, h2⟩, h3⟩, h4⟩ := h
    obtain ⟨i1, i2, i3⟩ := ih _ h4
    refine ⟨fun p q x y hp hq hlt => ?_, fun p q x y hp hq hle => ?_, fun q y hq he => ?_⟩
    · cases p with
      | zero =>
        cases q with
        | zero => omega
        | succ q =>
          simp at hp hq; subst hp
          have := (h3 y (List.mem_of_getElem? hq)).2
          intro e
          rw [beq_iff.2 e] at this; cases this
      | succ p =>
        cases q with
        | zero => omega
        | succ q => exact i1 p q x y (by simpa using hp) (by simpa using hq) (by omega)
    · cases p with
      | zero =>
        cases q with
        | zero => simp at hp hq; subst hp; subst hq; exact h2
        | succ q => simp at hp hq; subst hp; exact (h3 y (List.mem_of_getElem? hq)).1
      | succ p =>
        cases q with
        | zero => omega
        | succ q => exact i2 p q x y (by simpa using hp) (by simpa using hq) (by omega)
    · cases q with
      | zero =>
        simp at hq; subst hq
        rcases h1 with h1 | h1
        · rw [he] at h1; cases h1
        · exact ⟨h1, fun p x _ hlt => by omega⟩
      | succ q =>
        obtain ⟨j1, j2⟩ := i3 q y (by simpa using hq) he
        refine ⟨fun x hx => j1 x (List.mem_append.2 (.inl hx)), fun p x hp hlt => ?_⟩
        cases p with
        | zero => simp at hp; subst hp; exact j1 _ (List.mem_append.2 (.inr (by simp)))
        | succ p => exact j2 p x (by simpa using hp) (by omega)
theorem memN_iff {t : Nat} {l : List Nat} : memN t l = true ↔ t ∈ l := by
  unfold memN
  rw [List.any_eq_true]
  exact ⟨fun ⟨x, hx, h⟩ => by rw [beq_iff.1 h]; exact hx, fun h => ⟨t, h, beq_iff.2 rfl⟩⟩
theorem lay_of_plan {ops : Array Oper} (h : planOk P ops (plan P ops) = true) : Lay P ops (plan P ops) := by
  unfold planOk at h
  simp only [Bool.and_eq_true] at h
  obtain ⟨⟨⟨h1, h2⟩, h3⟩, h4⟩ := h
  obtain ⟨o1, o2, o3⟩ := orderOk_spec _ _ h4
  have hmem : ∀ (p : Nat) (x : Item3), (plan P ops)[p]? = some x → (masks ops.toList)[x.1]? = some x.2.1 ∧ ops[x.1]? = some x.2.2 := fun p x hx => plan_mem (List.mem_of_getElem? hx)
  refine ⟨hmem, fun i hi => ?_, fun i o ho e he hb => ?_, o1, o2, fun p q x y hp hq hlt hy => (o3 q y hq hy).2 p x hp hlt, fun p q x y d hp hq hne hd hl => ?_⟩
  · rw [List.all_eq_true] at h1
    have hm : i < (masks ops.toList).length := by rw [(masks_spec ops.toList).1]; simpa using hi
    have := h1 _ (itemsFrom_get ops.toList (masks ops.toList) 0 i ops[i] (masks ops.toList)[i] (by simp [hi]) (List.getElem?_eq_getElem hm))
    rw [List.any_eq_true] at this
    obtain ⟨x, hx, he⟩ := this
    obtain ⟨p, hp, rfl⟩ := List.getElem_of_mem hx
    exact ⟨p, _, List.getElem?_eq_getElem hp, by rw [beq_iff.1 he]; simp⟩
  · unfold edgesOk at h2
    rw [List.all_eq_true] at h2
    have := h2 o (by rw [← Array.getElem?_toList] at ho; exact List.mem_of_getElem? ho)
    rw [List.all_eq_true] at this
    have := this e he
    rw [hb] at this
    exact blt_iff.1 (by simpa using this)
  · unfold tmpsOk at h3
    rw [List.all_eq_true] at h3
    have := h3 x (List.mem_of_getElem? hp)
    rw [hd] at this
    simp only at this
    rw [List.all_eq_true] at this
    have := this y (List.mem_of_getElem? hq)
    simp only [Bool.or_eq_true, Bool.not_eq_true', Bool.or_eq_false_iff] at this
    rcases this with ((h | h) | h) | h
    · have := beq_iff.1 h
      rcases Nat.lt_or_gt_of_ne hne with hlt | hlt
      · exact absurd this (o1 p q x y hp hq hlt)
      · exact absurd this.symm (o1 q p y x hq hp hlt)
    · exact .inl h
    · exact .inr h
    · rcases hl with hl | hl
      · rw [memN_iff.2 hl] at h; cases h.1
      · rw [hl] at h; have := h.2; simp [memN] at this
end
end Go.Ev
