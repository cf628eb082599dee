/- Regions that draw their order: whatever order is drawn, what comes of it is the evaluator's. -/
import Derived.Test.YtcmfahemeogamaaGreatEvJ
namespace Go.Ev
section
variable {P : Program}

/-- All of Post but what stands where. -/
structure Rest (s s' : St) (H : Nat → Option O) (φ : Phi) (w : World) (H' : Nat → Option O) (φ' : Phi) (w' : World) : Prop where
  phi : ∀ n, (n < s.ctr ∨ s'.ctr ≤ n) → φ' n = φ n
  keep : ∀ n, (n < s.ctr ∨ s'.ctr ≤ n) → s.get n = none → H' n = H n
  os : w'.os = w.os
  tape : w'.tape = w.tape
  output : w'.output = w.output
  size : w.heap.size ≤ w'.heap.size
  frame : ∀ b, b < w.heap.size → (∀ n l, φ n = some l → l.blk ≠ b) → w'.heap[b]? = w.heap[b]?
  blk : ∀ n l, φ' n = some l → (∃ m k, φ m = some k ∧ k.blk = l.blk) ∨ w.heap.size ≤ l.blk
theorem Rest.start {s s' : St} {H : Nat → Option O} {φ : Phi} {w w' : World} (hh : w'.heap = w.heap) (ho : w'.os = w.os) (ht : w'.tape = w.tape) (hp : w'.output = w.output) : Rest s s' H φ w H φ w' :=
  ⟨fun _ _ => rfl, fun _ _ _ => rfl, ho, ht, hp, by rw [hh]; exact Nat.le_refl _, fun b _ _ => by rw [hh], fun n l h => .inl ⟨n, l, h, rfl⟩⟩
theorem Rest.step {s s' t t' : St} {H₀ H H' : Nat → Option O} {φ₀ φ φ' : Phi} {w₀ w w' : World} (r : Rest s s' H₀ φ₀ w₀ H φ w) (k : Post t t' H φ w H' φ' w') (h1 : s.ctr ≤ t.ctr) (h2 : t'.ctr ≤ s'.ctr)
    (hd : ∀ n, (n < s.ctr ∨ s'.ctr ≤ n) → s.get n = none → t.get n = none) : Rest s s' H₀ φ₀ w₀ H' φ' w' := by
  refine ⟨fun n hn => ?_, fun n hn hg => ?_, k.os.trans r.os, k.tape.trans r.tape, k.output.trans r.output, Nat.le_trans r.size k.size, fun b hb hf => ?_, fun n l hl => ?_⟩
  · rw [k.phi n (by omega), r.phi n hn]
  · rw [k.keep n (by omega) (hd n hn hg), r.keep n hn hg]
  · rw [k.frame b (Nat.lt_of_lt_of_le hb r.size) (fun n l hl e => ?_), r.frame b hb hf]
    rcases r.blk n l hl with ⟨j, q, hq, e'⟩ | hge
    · exact hf j q hq (e'.trans e)
    · omega
  · rcases k.blk n l hl with ⟨j, q, hq, e⟩ | hge
    · rcases r.blk j q hq with ⟨j', q', hq', e'⟩ | hge
      · exact .inl ⟨j', q', hq', e'.trans e⟩
      · exact .inr (by omega)
    · exact .inr (Nat.le_trans r.size hge)

theorem noneff_run {call : CallF} {o : Oper} (he : isEff P o = false) {s s' : St} {a a' : Fr} (h : operV call (kind P o.op) o.dst s a = some (s', a')) :
    (s' = s ∧ ∃ v, a' = a.put o.dst v ∧ ∀ (H : Nat → Option O) (φ : Phi) (w : World) (A : Act), Inv H φ w → Look o.op φ a A →
        (∀ f b g ob, kind P o.op = .read f → f (opnd a) = some (b, g) → s.get b = some ob → H b = some ob) → ∃ x, (execOp A.eval o).run P w = .ok (.value x) w ∧ VRel φ v x) ∨
    (∃ (ob : Nat → O) (mk : Nat → V) (n : Nat), s.new ob = some (n, s') ∧ a' = a.put o.dst (mk n) ∧ ∀ (φ : Phi) (w : World) (A : Act), Look o.op φ a A → ∃ X x len room, (execOp A.eval o).run P w = .ok (.value x) (w.alloc X) ∧
        (∀ φ', Ext φ φ' → ORel φ' (ob s.clk) ⟨w.heap.size, 0, len, room⟩ (some X)) ∧ (∀ φ' n, φ' n = some ⟨w.heap.size, 0, len, room⟩ → VRel φ' (mk n) x)) := by
  have hok := kind_ok (P := P) o.op
  have hcg := kcongr (P := P) o.op
  unfold isEff at he
  generalize kind P o.op = k at h hok hcg he
  cases k with
  | pure f =>
    simp only [operV, doPure] at h
    cases hf : f (opnd a) with
    | none => rw [hf] at h; cases h
    | some v =>
      rw [hf] at h
      simp only [fin, Option.some.injEq, Prod.mk.injEq] at h
      obtain ⟨rfl, rfl⟩ := h
      refine .inl ⟨rfl, v, rfl, fun H φ w A _ hl _ => ?_⟩
      rw [hcg _ (lim o.op.operands (opnd a)) lim_eq] at hf
      exact hok _ v hf φ A.eval o w rfl (lim_rel hl)
  | alloc f =>
    simp only [operV, doAlloc] at h
    cases hf : f (opnd a) with
    | none => rw [hf] at h; cases h
    | some ov =>
      obtain ⟨ob, mk⟩ := ov
      rw [hf] at h
      simp only at h
      cases hn : s.new ob with
      | none => rw [hn] at h; cases h
      | some ns =>
        obtain ⟨n, s₁⟩ := ns
        rw [hn] at h
        simp only [fin, Option.some.injEq, Prod.mk.injEq] at h
        obtain ⟨rfl, rfl⟩ := h
        rw [hcg _ (lim o.op.operands (opnd a)) lim_eq] at hf
        obtain ⟨hst, hal⟩ := hok _ ob mk hf
        refine .inr ⟨ob, mk, n, hn, rfl, fun φ w A hl => ?_⟩
        obtain ⟨X, x, len, room, hx, h1, h2⟩ := hal φ A.eval o w rfl (lim_rel hl)
        exact ⟨X, x, len, room, hx, fun φ' e => h1 φ' s.clk e, h2⟩
  | read f =>
    simp only [operV, doRead] at h
    cases hf : f (opnd a) with
    | none => rw [hf] at h; cases h
    | some bg =>
      obtain ⟨b, g⟩ := bg
      have hf0 := hf
      rw [hf] at h
      simp only at h
      cases hb : s.get b with
      | none => rw [hb] at h; cases h
      | some ob =>
        rw [hb] at h
        simp only at h
        cases hg : g ob with
        | none => rw [hg] at h; cases h
        | some v =>
          rw [hg] at h
          simp only [fin, Option.some.injEq, Prod.mk.injEq] at h
          obtain ⟨rfl, rfl⟩ := h
          refine .inl ⟨rfl, v, rfl, fun H φ w A hi hl hr => ?_⟩
          have hH := hr f b g ob rfl hf0 hb
          rw [hcg _ (lim o.op.operands (opnd a)) lim_eq] at hf
          obtain ⟨l, hll, hor⟩ := hi.obj b ob hH
          exact hok _ b g hf φ A.eval o w rfl (lim_rel hl) ob v l hg hll hor
  | eff f => cases he
  | call f args => cases he
  | bad => cases he

/-- A plan and the evaluator's run of it. -/
structure Ctx (P : Program) (call : CallF) (n : Nat) (ops : Array Oper) (L : List Item3) (st : Nat → St) (fr : Nat → Fr) : Prop where
  lay : Lay P ops L
  hc : CallOk P call
  hn : n ≤ TMAX
  step : ∀ (p : Nat) (x : Item3), L[p]? = some x → stepV call (stepOf P n ops x.2.2) (st p) (fr p) = some (st (p + 1), fr (p + 1))
  sure : ∀ (p : Nat) (x : Item3) (f : Env → Option Read) (g : Option (Tmp × Bool)), L[p]? = some x → kind P x.2.2.op = .read f → guardOf ops x.2.2.guard = some g → isWanted (fr p) g = true →
    ∃ b gg ob, f (opnd (fr p)) = some (b, gg) ∧ (st p).get b = some ob ∧ (ob.stamp < (st 0).clk ∨ ∃ (q : Nat) (y : Item3), q < p ∧ L[q]? = some y ∧ hasBit x.2.1 y.1 = true ∧ ob.stamp < (st (q + 1)).clk ∧
      (isEff P y.2.2 = true ∨ (isEff P y.2.2 = false ∧ (st q).ctr ≤ b ∧ b < (st (q + 1)).ctr)))

variable {call : CallF} {n : Nat} {ops : Array Oper} {L : List Item3} {st : Nat → St} {fr : Nat → Fr}

theorem Ctx.mono (c : Ctx P call n ops L st fr) : ∀ (q p : Nat), p ≤ q → q ≤ L.length → Mono (st p) (st q) := by
  intro q
  induction q with
  | zero => intro p hp _; have : p = 0 := by omega
            subst this; exact Mono.refl _
  | succ q ih =>
    intro p hp hq
    by_cases e : p = q + 1
    · subst e; exact Mono.refl _
    · exact (ih p (by omega) (by omega)).trans (step_shape c.hc (c.step q L[q] (List.getElem?_eq_getElem (by omega)))).1
theorem Ctx.frame (c : Ctx P call n ops L st fr) (t : Nat) (ht : t < TMAX) : ∀ j, j < L.length → ¬ Writes L t j → (fr (j + 1)).get t = (fr j).get t := by
  intro j hj hw
  obtain ⟨_, ⟨v, hv⟩, hd⟩ := step_shape c.hc (c.step j L[j] (List.getElem?_eq_getElem hj))
  rw [hv]
  cases hdst : (L[j]).2.2.dst with
  | none => rfl
  | some d =>
    have hlt := hd d hdst
    rw [Fr.get_put _ _ _ _ (Nat.lt_of_lt_of_le hlt c.hn) ht, if_neg]
    intro e; subst e
    exact hw ⟨L[j], List.getElem?_eq_getElem hj, hdst⟩

/-- What holds when just some operations have been carried out. -/
structure DInv (P : Program) (n : Nat) (L : List Item3) (st : Nat → St) (fr : Nat → Fr) (H₀ : Nat → Option O) (φ₀ : Phi) (w₀ : World) (In : Nat → Prop) (A : Act) (w : World) (H : Nat → Option O) (φ : Phi) (k : Nat) : Prop where
  inv : Inv H φ w
  rest : Rest (st 0) (st L.length) H₀ φ₀ w₀ H φ w
  kN : k ≤ L.length
  below : ∀ q, q < k → In q
  noeff : ∀ (q : Nat) (y : Item3), k ≤ q → In q → L[q]? = some y → isEff P y.2.2 = false
  base : ∀ m o, (st k).get m = some o → H m = some o
  made : ∀ q, k ≤ q → q < L.length → In q → ∀ m o, (st q).ctr ≤ m → (st (q + 1)).get m = some o → H m = some o
  fresh : ∀ q, q < L.length → ¬ In q → ∀ m, (st q).ctr ≤ m → m < (st (q + 1)).ctr → φ m = none
  size : A.tmps.size = n
  defers : A.defers = []
  slots : ∀ t, t < TMAX → VRel φ (tv L fr In t L.length) (A.tmps.getD t Go.undef)

variable {H₀ H : Nat → Option O} {φ₀ φ : Phi} {w₀ w : World} {In : Nat → Prop} {A : Act} {k : Nat}

/-- Up to a place where all has been carried out, the world bears what the evaluator has. -/
theorem DInv.sub (c : Ctx P call n ops L st fr) (d : DInv P n L st fr H₀ φ₀ w₀ In A w H φ k) : ∀ j, k ≤ j → j ≤ L.length → (∀ q, k ≤ q → q < j → In q) → ∀ m o, (st j).get m = some o → H m = some o := by
  intro j
  induction j with
  | zero => intro hk _ _; have : k = 0 := by omega
            subst this; exact d.base
  | succ j ih =>
    intro hk hj hin m o hm
    by_cases e : k = j + 1
    · subst e; exact d.base m o hm
    · have hIn := hin j (by omega) (by omega)
      by_cases hlt : m < (st j).ctr
      · have hx : L[j]? = some L[j] := List.getElem?_eq_getElem (by omega)
        rw [noneff_get (d.noeff j _ (by omega) hIn hx) (c.step j _ hx) m hlt] at hm
        exact ih (by omega) (by omega) (fun q h1 h2 => hin q h1 (by omega)) m o hm
      · exact d.made j (by omega) (by omega) hIn m o (by omega) hm

/-- What an operation that may be carried out sees in the slots that it looks at. -/
theorem DInv.looks (c : Ctx P call n ops L st fr) (d : DInv P n L st fr H₀ φ₀ w₀ In A w H φ k) {p : Nat} {x : Item3} (hx : L[p]? = some x) (hp : ¬ In p)
    (anc : ∀ (q : Nat) (y : Item3), L[q]? = some y → hasBit x.2.1 y.1 = true → In q) (cl : ∀ (q r : Nat) (y z : Item3), L[q]? = some y → L[r]? = some z → In q → hasBit y.2.1 z.1 = true → In r) :
    ∀ t, t ∈ looks ops x.2.2 → t < TMAX → VRel φ ((fr p).get t) (A.tmps.getD t Go.undef) := by
  intro t ht hlt
  have hpN : p < L.length := (List.getElem?_eq_some_iff.1 hx).1
  have e1 : tv L fr In t L.length = tv L fr In t p := by
    refine tv_none L.length (by omega) (fun q h1 h2 hw hIn => ?_)
    obtain ⟨y, hy, hdst⟩ := hw
    by_cases e : q = p
    · subst e; exact hp hIn
    · rcases c.lay.tmps q p y x t hy hx e hdst (.inl ht) with h | h
      · rw [c.lay.order p q x y hx hy (by omega)] at h; cases h
      · exact hp (cl q p y x hy hx hIn h)
  have e2 : tv L fr In t p = (fr p).get t := by
    refine tv_all (c.frame t hlt) p (by omega) (fun q hq hw => ?_)
    obtain ⟨y, hy, hdst⟩ := hw
    rcases c.lay.tmps q p y x t hy hx (by omega) hdst (.inl ht) with h | h
    · exact anc q y hy h
    · rw [c.lay.order q p y x hy hx (by omega)] at h; cases h
  rw [← e2, ← e1]
  exact d.slots t hlt

/-- The slots behind an operation. -/
theorem DInv.put (c : Ctx P call n ops L st fr) (d : DInv P n L st fr H₀ φ₀ w₀ In A w H φ k) {p : Nat} {x : Item3} (hx : L[p]? = some x) (hp : ¬ In p)
    (_anc : ∀ (q : Nat) (y : Item3), L[q]? = some y → hasBit x.2.1 y.1 = true → In q) (cl : ∀ (q r : Nat) (y z : Item3), L[q]? = some y → L[r]? = some z → In q → hasBit y.2.1 z.1 = true → In r)
    {φ' : Phi} (hext : Ext φ φ') {v : V} {X : Value} (hv : VRel φ' v X) (hfr : fr (p + 1) = (fr p).put x.2.2.dst v) (hd : ∀ e, x.2.2.dst = some e → e < n) :
    (A.put x.2.2.dst X).tmps.size = n ∧ (A.put x.2.2.dst X).defers = [] ∧ ∀ t, t < TMAX → VRel φ' (tv L fr (fun q => In q ∨ q = p) t L.length) ((A.put x.2.2.dst X).tmps.getD t Go.undef) := by
  have hpN : p < L.length := (List.getElem?_eq_some_iff.1 hx).1
  have other : ∀ t, t < TMAX → x.2.2.dst ≠ some t → VRel φ' (tv L fr (fun q => In q ∨ q = p) t L.length) (A.tmps.getD t Go.undef) := by
    intro t ht hne
    rw [← tv_congr (In := In) (fun q hw => ⟨fun h => .inl h, fun h => h.elim id (fun e => by
      subst e
      obtain ⟨y, hy, hdst⟩ := hw
      rw [hx] at hy; injection hy with hy; subst hy
      exact absurd hdst hne)⟩)]
    exact (d.slots t ht).mono hext
  cases hdst : x.2.2.dst with
  | none => exact ⟨d.size, d.defers, fun t ht => other t ht (by rw [hdst]; exact fun h => by cases h)⟩
  | some e =>
    have hlt := hd e hdst
    refine ⟨by simp [Act.put, d.size], d.defers, fun t ht => ?_⟩
    rw [getD_put _ _ _ _ (by rw [d.size]; exact hlt)]
    by_cases he : t = e
    · subst he
      rw [if_pos rfl]
      have hw : Writes L t p := ⟨x, hx, hdst⟩
      have e1 : tv L fr (fun q => In q ∨ q = p) t L.length = tv L fr (fun q => In q ∨ q = p) t (p + 1) := by
        refine tv_none L.length (by omega) (fun q h1 h2 hw' hIn => ?_)
        obtain ⟨y, hy, hdst'⟩ := hw'
        rcases hIn with hIn | hIn
        · rcases c.lay.tmps p q x y t hx hy (by omega) hdst (.inr hdst') with h | h
          · exact hp (cl q p y x hy hx hIn h)
          · rw [c.lay.order p q x y hx hy (by omega)] at h; cases h
        · omega
      rw [e1, (tv_succ L fr _ t p).1 ⟨.inr rfl, hw⟩, hfr, hdst, Fr.get_put _ _ _ _ ht ht, if_pos rfl]
      exact hv
    · rw [if_neg he]
      exact other t ht (by rw [hdst]; exact fun h => he (by injection h with h; exact h.symm))
end
end Go.Ev
