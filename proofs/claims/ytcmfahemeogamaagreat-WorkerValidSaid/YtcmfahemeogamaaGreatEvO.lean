/- Regions that draw their order, all of them. -/
import Derived.Test.YtcmfahemeogamaaGreatEvM
namespace Go.Ev
section
variable {P : Program}

theorem countP_le {l : List Nat} {p p' : Nat → Bool} (h : ∀ j ∈ l, p' j = true → p j = true) : l.countP p' ≤ l.countP p := by
  induction l with
  | nil => simp
  | cons x l ih =>
    have ih := ih (fun j hj => h j (by simp [hj]))
    have hx := h x (by simp)
    rw [List.countP_cons, List.countP_cons]
    cases hp : p' x with
    | true => rw [hx hp]; simp; exact ih
    | false => simp; omega
theorem countP_lt {l : List Nat} {p p' : Nat → Bool} (h : ∀ j ∈ l, p' j = true → p j = true) {i : Nat} (hi : i ∈ l) (h1 : p i = true) (h2 : p' i = false) : l.countP p' < l.countP p := by
  induction l with
  | nil => cases hi
  | cons x l ih =>
    have hle := countP_le (l := l) (fun j hj => h j (by simp [hj]))
    have hx := h x (by simp)
    rw [List.countP_cons, List.countP_cons]
    rcases List.mem_cons.1 hi with rfl | hi
    · rw [h1, h2]; simp; omega
    · have ih := ih (fun j hj => h j (by simp [hj])) hi
      cases hp : p' x with
      | true => rw [hx hp]; simp; exact ih
      | false => simp; omega

theorem binds_eq (e : Edge) : Region.binds .any e = binding e := by
  unfold Region.binds binding
  cases e.ground <;> rfl
def Listed (listed : Array Bool) (i : Nat) : Prop := listed.getD i false = true
theorem ready_iff {ops : Array Oper} {listed : Array Bool} (hs : listed.size = ops.size) {i : Nat} :
    i ∈ Region.ready .any ops listed ↔ ¬ Listed listed i ∧ ∃ o, ops[i]? = some o ∧ ∀ e ∈ o.after.toList, binding e = true → Listed listed e.on := by
  unfold Region.ready Listed
  rw [List.mem_filter, List.mem_range, Bool.and_eq_true]
  constructor
  · rintro ⟨hi, h1, h2⟩
    have ho : ops[i]? = some ops[i] := Array.getElem?_eq_getElem hi
    rw [ho] at h2
    simp only [Option.map_some, Option.getD_some] at h2
    refine ⟨?_, ops[i], ho, fun e he hb => ?_⟩
    · rw [Array.getD_eq_getD_getElem?, Array.getElem?_eq_getElem (by omega)] at h1 ⊢
      simpa using h1
    · rw [← Array.all_toList, List.all_eq_true] at h2
      have := h2 e he
      rw [binds_eq, hb] at this
      simpa using this
  · rintro ⟨h1, o, ho, h2⟩
    have hi : i < ops.size := (Array.getElem?_eq_some_iff.1 ho).1
    refine ⟨hi, ?_, ?_⟩
    · rw [Array.getD_eq_getD_getElem?, Array.getElem?_eq_getElem (by omega)] at h1 ⊢
      simpa using h1
    · rw [ho]
      simp only [Option.map_some, Option.getD_some]
      rw [← Array.all_toList, List.all_eq_true]
      intro e he
      rw [binds_eq]
      cases hb : binding e with
      | false => rfl
      | true => have := h2 e he hb; simpa using this
theorem listed_set {listed : Array Bool} {i : Nat} (hi : i < listed.size) (j : Nat) : Listed (listed.setIfInBounds i true) j ↔ Listed listed j ∨ j = i := by
  unfold Listed
  rw [Array.getD_eq_getD_getElem?, Array.getD_eq_getD_getElem?, Array.getElem?_setIfInBounds]
  by_cases e : i = j
  · subst e; simp [hi]
  · rw [if_neg e]
    exact ⟨.inl, fun h => h.elim id (fun h => absurd h.symm e)⟩

variable {call : CallF} {n : Nat} {ops : Array Oper} {L : List Item3} {st : Nat → St} {fr : Nat → Fr}
variable {H₀ : Nat → Option O} {φ₀ : Phi} {w₀ : World}
def InL (L : List Item3) (listed : Array Bool) (p : Nat) : Prop := ∃ x : Item3, L[p]? = some x ∧ Listed listed x.1

theorem DInv.congr {In In' : Nat → Prop} {A : Act} {w : World} {H : Nat → Option O} {φ : Phi} {k : Nat} (h : ∀ q, In q ↔ In' q) (d : DInv P n L st fr H₀ φ₀ w₀ In A w H φ k) : DInv P n L st fr H₀ φ₀ w₀ In' A w H φ k := by
  have : In = In' := funext fun q => propext (h q)
  subst this; exact d
theorem DInv.done (c : Ctx P call n ops L st fr) {In : Nat → Prop} {A : Act} {w : World} {H : Nat → Option O} {φ : Phi} {k : Nat} (d : DInv P n L st fr H₀ φ₀ w₀ In A w H φ k) (h : ∀ q, q < L.length → In q) :
    Post (st 0) (st L.length) H₀ φ₀ w₀ H φ w ∧ FRel φ n (fr L.length) A := by
  refine ⟨⟨d.sub c L.length d.kN (Nat.le_refl _) (fun q _ hq => h q hq), d.inv, d.rest.phi, d.rest.keep, d.rest.os, d.rest.tape, d.rest.output, d.rest.size, d.rest.frame, d.rest.blk⟩, d.size, d.defers, fun t ht => ?_⟩
  rw [← tv_all (In := In) (c.frame t ht) L.length (Nat.le_refl _) (fun q hq _ => h q hq)]
  exact d.slots t ht

theorem all_go (c : Ctx P call n ops L st fr) {Q : Exit → Act → World → Prop} (hQ : ∀ H φ w A, Post (st 0) (st L.length) H₀ φ₀ w₀ H φ w → FRel φ n (fr L.length) A → Q .normal A w) :
    ∀ (fuel : Nat) (listed : Array Bool) (A : Act) (w : World) (H : Nat → Option O) (φ : Phi) (k : Nat), listed.size = ops.size → Closed ops (Listed listed) → (List.range ops.size).countP (fun i => !listed.getD i true) ≤ fuel →
      DInv P n L st fr H₀ φ₀ w₀ (InL L listed) A w H φ k → wpAny P .any ops Q fuel listed A w := by
  -- where nothing is ready, all is done
  have over : ∀ (listed : Array Bool) (A : Act) (w : World) (H : Nat → Option O) (φ : Phi) (k : Nat), listed.size = ops.size → DInv P n L st fr H₀ φ₀ w₀ (InL L listed) A w H φ k → Region.ready .any ops listed = [] → Q .normal A w := by
    intro listed A w H φ k hs d hr
    have hall : ∀ q, q < L.length → InL L listed q := by
      intro q
      induction q using Nat.strongRecOn with
      | _ q ih =>
        intro hq
        have hx : L[q]? = some L[q] := List.getElem?_eq_getElem hq
        refine ⟨L[q], hx, Classical.byContradiction fun hno => ?_⟩
        obtain ⟨hm, ho⟩ := c.lay.mem q _ hx
        have : (L[q]).1 ∈ Region.ready .any ops listed := by
          rw [ready_iff hs]
          refine ⟨hno, _, ho, fun e he hb => ?_⟩
          obtain ⟨r, y, hy, he'⟩ := c.lay.cover e.on (c.lay.edges _ _ ho e he hb)
          have hbit := mask_edge hm ho he hb
          have hrq : r < q := by
            rcases Nat.lt_or_ge r q with h | h
            · exact h
            · have := c.lay.order q r _ y hx hy h
              rw [he'] at this
              rw [hbit] at this; cases this
          obtain ⟨y', hy', hl⟩ := ih r hrq (by omega)
          rw [hy] at hy'; injection hy' with hy'; subst hy'
          rw [← he']; exact hl
        rw [hr] at this
        cases this
    obtain ⟨post, r⟩ := d.done c hall
    exact hQ H φ w A post r
  intro fuel
  induction fuel with
  | zero =>
    intro listed A w H φ k hs hcl hcnt d
    have hready : Region.ready .any ops listed = [] := by
      rw [List.eq_nil_iff_forall_not_mem]
      intro i hi
      obtain ⟨h1, o, ho, _⟩ := (ready_iff hs).1 hi
      have hlt : i < ops.size := (Array.getElem?_eq_some_iff.1 ho).1
      have h0 : (List.range ops.size).countP (fun i => !listed.getD i true) = 0 := by omega
      rw [List.countP_eq_zero] at h0
      have := h0 i (List.mem_range.2 hlt)
      unfold Listed at h1
      rw [Array.getD_eq_getD_getElem?, Array.getElem?_eq_getElem (by omega)] at h1 this
      simp at h1 this
      rw [h1] at this; cases this
    exact ⟨hready, over listed A w H φ k hs d hready⟩
  | succ fuel ih =>
    intro listed A w H φ k hs hcl hcnt d
    refine ⟨over listed A w H φ k hs d, fun i hi => ?_⟩
    obtain ⟨h1, o, ho, h2⟩ := (ready_iff hs).1 hi
    have hlt : i < ops.size := (Array.getElem?_eq_some_iff.1 ho).1
    obtain ⟨p, x, hx, rfl⟩ := c.lay.cover i hlt
    obtain ⟨hm, ho'⟩ := c.lay.mem p x hx
    rw [ho] at ho'; injection ho' with ho'; subst ho'
    have hp : ¬ InL L listed p := fun ⟨y, hy, hl⟩ => by
      rw [hx] at hy; injection hy with hy; subst hy; exact h1 hl
    have anc : ∀ (q : Nat) (y : Item3), L[q]? = some y → hasBit x.2.1 y.1 = true → InL L listed q := fun q y hy hb => ⟨y, hy, mask_closed hcl x.1 x.2.1 x.2.2 hm ho h2 y.1 hb⟩
    have cl : ∀ (q r : Nat) (y z : Item3), L[q]? = some y → L[r]? = some z → InL L listed q → hasBit y.2.1 z.1 = true → InL L listed r := by
      intro q r y z hy hz ⟨y', hy', hl⟩ hb
      rw [hy] at hy'; injection hy' with hy'; subst hy'
      obtain ⟨hm', ho'⟩ := c.lay.mem q y hy
      exact ⟨z, hz, mask_closed hcl y.1 y.2.1 y.2.2 hm' ho' (fun e he hb => hcl y.1 y.2.2 hl ho' e he hb) z.1 hb⟩
    refine d.step c hx hp anc cl (fun A' w' H' φ' k' d' => ?_)
    refine ih _ A' w' H' φ' k' (by simp [hs]) ?_ ?_ (d'.congr (fun q => ?_))
    · intro j oj hj hoj e he hb
      rw [listed_set (by omega)] at hj ⊢
      rcases hj with hj | rfl
      · exact .inl (hcl j oj hj hoj e he hb)
      · rw [ho] at hoj; injection hoj with hoj; subst hoj
        exact .inl (h2 e he hb)
    · have : (List.range ops.size).countP (fun i => !(listed.setIfInBounds x.1 true).getD i true) < (List.range ops.size).countP (fun i => !listed.getD i true) := by
        refine countP_lt (fun j hj h => ?_) (List.mem_range.2 hlt) ?_ ?_
        · rw [List.mem_range] at hj
          simp only [Array.getD_eq_getD_getElem?, Array.getElem?_setIfInBounds] at h ⊢
          by_cases e : x.1 = j
          · rw [if_pos e] at h; split at h <;> simp at h
          · rw [if_neg e] at h; exact h
        · unfold Listed at h1
          rw [Array.getD_eq_getD_getElem?, Array.getElem?_eq_getElem (by omega)] at h1 ⊢
          simpa using h1
        · simp [Array.getD_eq_getD_getElem?, hs, hlt]
      omega
    · constructor
      · rintro (⟨y, hy, hl⟩ | rfl)
        · exact ⟨y, hy, (listed_set (by omega) _).2 (.inl hl)⟩
        · exact ⟨x, hx, (listed_set (by omega) _).2 (.inr rfl)⟩
      · rintro ⟨y, hy, hl⟩
        rcases (listed_set (by omega) _).1 hl with hl | hl
        · exact .inl ⟨y, hy, hl⟩
        · refine .inr ?_
          rcases Nat.lt_trichotomy q p with h | h | h
          · exact absurd hl (c.lay.nodup q p y x hy hx h)
          · exact h
          · exact absurd hl.symm (c.lay.nodup p q x y hx hy h)

/-- A region that draws its order. -/
theorem drawn_run {call : CallF} (hc : CallOk P call) (hmix : P.follows .mixedOrders = true) {n : Nat} (hn : n ≤ TMAX) {ops : Array Oper} {s s' : St} {a a' : Fr} (h : drawnV call s a (pstepsOf P n ops) = some (s', a')) (id : Nat) :
    Mono s s' ∧ ∀ (H : Nat → Option O) (φ : Phi) (w : World) (A : Act), Pre s s' H φ w → FRel φ n a A → ∀ (Q : Exit → Act → World → Prop),
      (∀ H' φ' w' A', Post s s' H φ w H' φ' w' → FRel φ' n a' A' → Q .normal A' w') → (Code.region id ops true).wp P Q A w := by
  unfold drawnV pstepsOf at h
  cases hpl : planOk P ops (plan P ops) with
  | false => rw [hpl] at h; cases h
  | true =>
    rw [hpl] at h
    simp only [cond_true] at h
    have lay := lay_of_plan hpl
    generalize plan P ops = L at h lay
    obtain ⟨st, fr, t⟩ := drawV_trace h
    have hlen : (L.map fun x : Item3 => (⟨x.1, x.2.1, isEff P x.2.2, stepOf P n ops x.2.2⟩ : PStep)).length = L.length := by simp
    have hget : ∀ (p : Nat) (x : Item3), L[p]? = some x → (L.map fun x : Item3 => (⟨x.1, x.2.1, isEff P x.2.2, stepOf P n ops x.2.2⟩ : PStep))[p]? = some ⟨x.1, x.2.1, isEff P x.2.2, stepOf P n ops x.2.2⟩ := fun p x hx => by rw [List.getElem?_map, hx]; rfl
    have hst0 := t.st0
    have hfr0 := t.fr0
    have hstN := t.stN
    have hfrN := t.frN
    rw [hlen] at hstN hfrN
    have c : Ctx P call n ops L st fr := by
      refine ⟨lay, hc, hn, fun p x hx => t.step p _ (hget p x hx), fun p x f g hx hk hg hw => ?_⟩
      obtain ⟨g', hg', _, he, _⟩ := stepOf_eq (t.step p _ (hget p x hx))
      rw [hg] at hg'; injection hg' with hg'; subst hg'
      obtain ⟨b, gg, ob, h1, h2, h3⟩ := t.sure p _ (hget p x hx) f (by rw [he]; exact hk) (by rw [he]; exact hw)
      refine ⟨b, gg, ob, h1, h2, ?_⟩
      rcases h3 with h3 | ⟨e, he', hb, hlt, h4⟩
      · rw [hst0]; exact .inl h3
      · rcases he' with he' | ⟨q, y, hq, hy, rfl⟩
        · cases he'
        · rw [List.getElem?_map] at hy
          cases hz : L[q]? with
          | none => rw [hz] at hy; cases hy
          | some z =>
            rw [hz] at hy
            injection hy with hy; subst hy
            exact .inr ⟨q, z, hq, hz, hb, hlt, h4⟩
    have hm : Mono s s' := by rw [← hst0, ← hstN]; exact c.mono L.length 0 (by omega) (Nat.le_refl _)
    refine ⟨hm, fun H φ w A p r Q hQ => wp_region_any hmix ?_⟩
    refine all_go (H₀ := H) (φ₀ := φ) (w₀ := w) c (fun H' φ' w' A' post r' => hQ H' φ' w' A' (by rw [hst0, hstN] at post; exact post) (by rw [hfrN] at r'; exact r')) ops.size (Array.replicate ops.size false) A _ H φ 0 (by simp) ?_ ?_ ?_
    · intro i o hi
      unfold Listed at hi
      rw [Array.getD_eq_getD_getElem?, Array.getElem?_replicate] at hi
      split at hi <;> simp at hi
    · exact Nat.le_trans List.countP_le_length (by simp)
    · have hno : ∀ q, ¬ InL L (Array.replicate ops.size false) q := by
        rintro q ⟨x, hx, hl⟩
        unfold Listed at hl
        rw [Array.getD_eq_getD_getElem?, Array.getElem?_replicate] at hl
        split at hl <;> simp at hl
      refine ⟨⟨p.inv.obj, p.inv.inj, p.inv.in_⟩, Rest.start rfl rfl rfl rfl, Nat.zero_le _, fun q hq => by omega, fun q y _ hin => absurd hin (hno q), fun m o hmo => p.sub m o (by rw [← hst0]; exact hmo), fun q _ _ hin => absurd hin (hno q), fun q hq _ m h1 h2 => ?_, r.size, r.defers, fun t ht => ?_⟩
      · refine p.fresh m ?_ ?_
        · rw [← hst0]; exact Nat.le_trans (c.mono q 0 (by omega) (by omega)).ctr h1
        · rw [← hstN]; exact Nat.lt_of_lt_of_le h2 (c.mono L.length (q + 1) (by omega) (Nat.le_refl _)).ctr
      · rw [tv_none (m := 0) L.length (Nat.zero_le _) (fun q _ _ _ => hno q)]
        show VRel φ ((fr 0).get t) _
        rw [hfr0]
        exact r.at_ t ht
end
end Go.Ev
