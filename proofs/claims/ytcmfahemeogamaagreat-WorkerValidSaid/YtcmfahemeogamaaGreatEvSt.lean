/- A function run piece by piece. -/
import Derived.Test.YtcmfahemeogamaaGreatEvEx
namespace Go.Ev
noncomputable section
def mkH (names : List Nat) (objs : List O) : T O := (names.zip objs).foldr (fun p t => T.put (.one p.2) (bits HK p.1) t) .nil
def mkS (c k : Nat) (names : List Nat) (objs : List O) : St := ⟨c, k, mkH names objs⟩
def mkF (vs : List V) : Fr := ⟨args0 vs 0 .nil⟩
def view (names : List Nat) (n : Nat) (r : Option (Ex × St × Fr)) : Option (Nat × Nat × List (Option O) × List V) :=
  match r with
  | some (.normal, s, a) => some (s.ctr, s.clk, names.map s.get, (List.range n).map a.get)
  | _ => none
def nthSeq : Nat → Code → Code
  | 0, .seq x _ => x
  | n + 1, .seq _ y => nthSeq n y
  | _, c => c
def belowAll (c : Nat) (l : List Nat) : Bool := l.all fun n => Nat.blt n c
end
section
variable {P : Program}

theorem mkH_cons (n : Nat) (names : List Nat) (ob : O) (objs : List O) : mkH (n :: names) (ob :: objs) = T.put (.one ob) (bits HK n) (mkH names objs) := by
  unfold mkH
  rw [List.zip_cons_cons, List.foldr_cons]
theorem mkH_nil1 (objs : List O) : mkH [] objs = .nil := by
  unfold mkH
  rw [List.zip_nil_left, List.foldr_nil]
theorem mkH_nil2 (names : List Nat) : mkH names [] = .nil := by
  unfold mkH
  rw [List.zip_nil_right, List.foldr_nil]
theorem mkH_get {names : List Nat} {objs : List O} (hn : ∀ n ∈ names, n < 2 ^ HK) : ∀ {m : Nat} {o : O}, m < 2 ^ HK → T.get (bits HK m) (mkH names objs) = some o → ∃ i : Nat, names[i]? = some m ∧ objs[i]? = some o := by
  induction names generalizing objs with
  | nil => intro m o _ h; rw [mkH_nil1, T.get_nil_of] at h; cases h
  | cons n names ih =>
    intro m o hm h
    cases objs with
    | nil => rw [mkH_nil2, T.get_nil_of] at h; cases h
    | cons ob objs =>
      have hn' : n < 2 ^ HK := hn n (List.mem_cons.2 (.inl rfl))
      rw [mkH_cons, get_put _ _ hn' hm] at h
      split at h
      · rename_i e
        subst e
        refine ⟨0, rfl, ?_⟩
        injection h with h
        rw [h]; rfl
      · obtain ⟨i, h1, h2⟩ := ih (fun k hk => hn k (List.mem_cons.2 (.inr hk))) hm h
        exact ⟨i + 1, by simpa using h1, by simpa using h2⟩

/-- Between two pieces. -/
structure Mid (w₀ : World) (s : St) (a : Fr) (n : Nat) (A : Act) (w : World) : Prop where
  rel : ∃ H φ, (∀ m o, s.get m = some o → H m = some o) ∧ Inv H φ w ∧ (∀ m, s.ctr ≤ m → φ m = none) ∧ FRel φ n a A ∧ (∀ m l, φ m = some l → w₀.heap.size ≤ l.blk)
  os : w.os = w₀.os
  tape : w.tape = w₀.tape
  output : w.output = w₀.output
  size : w₀.heap.size ≤ w.heap.size
  frame : ∀ b, b < w₀.heap.size → w.heap[b]? = w₀.heap[b]?

theorem view_some {names : List Nat} {n : Nat} {r : Option (Ex × St × Fr)} {c k : Nat} {objs : List O} {vs : List V} (h : view names n r = some (c, k, objs.map some, vs)) :
    ∃ s a, r = some (.normal, s, a) ∧ s.ctr = c ∧ s.clk = k ∧ names.map s.get = objs.map some ∧ (List.range n).map a.get = vs := by
  unfold view at h
  split at h
  · simp only [Option.some.injEq, Prod.mk.injEq] at h
    exact ⟨_, _, rfl, h.1, h.2.1, h.2.2.1, h.2.2.2⟩
  · cases h

/-- One piece. -/
theorem Mid.step {call : CallF} (hc : CallOk P call) (hmix : P.follows .mixedOrders = true) {n : Nat} (hn : n ≤ TMAX) {c : Code} {C K : Nat} {names₀ : List Nat} {objs₀ : List O} {vs₀ : List V} {C' K' : Nat} {names : List Nat} {objs : List O} {vs : List V}
    (h : view names n (exec P call n FUEL c (mkS C K names₀ objs₀) (mkF vs₀)) = some (C', K', objs.map some, vs)) (hb : belowAll C' names = true) (hC : C' ≤ 16384)
    {w₀ : World} {A : Act} {w : World} (m : Mid w₀ (mkS C K names₀ objs₀) (mkF vs₀) n A w) {Q : Exit → Act → World → Prop} (hQ : ∀ A' w', Mid w₀ (mkS C' K' names objs) (mkF vs) n A' w' → Q .normal A' w') : c.wp P Q A w := by
  obtain ⟨s, a, he, hsc, hsk, hso, hsv⟩ := view_some h
  obtain ⟨hm, hr⟩ := exec_run hc hmix hn FUEL c _ s _ a _ he
  obtain ⟨H, φ, h1, h2, h3, h4, h5⟩ := m.rel
  have hle : C ≤ s.ctr := hm.ctr
  refine (hr H φ w A ⟨h1, h2, fun k hk _ => h3 k hk⟩ h4 Q (fun H' φ' w' A' hp hR => hQ A' w' ?_)).wp
  refine ⟨⟨H', φ', fun k o hk => ?_, hp.inv, fun k hk => ?_, ⟨hR.size, hR.defers, fun t ht => ?_⟩, fun k l hl => ?_⟩, hp.os.trans m.os, hp.tape.trans m.tape, hp.output.trans m.output, Nat.le_trans m.size hp.size, fun b hb' => ?_⟩
  · have hlt : k < C' := St.get_lt hk
    have hk' : T.get (bits HK k) (mkH names objs) = some o := by
      unfold mkS at hk
      rw [St.get_mk, if_pos hlt] at hk
      exact hk
    have hbn : ∀ x ∈ names, x < C' := by
      unfold belowAll at hb
      rw [List.all_eq_true] at hb
      exact fun x hx => blt_iff.1 (hb x hx)
    have hC2 : C' ≤ 2 ^ HK := hC
    obtain ⟨i, hi1, hi2⟩ := mkH_get (fun x hx => Nat.lt_of_lt_of_le (hbn x hx) hC2) (Nat.lt_of_lt_of_le hlt hC2) hk'
    have := congrArg (fun l => l[i]?) hso
    simp only [List.getElem?_map, hi1, hi2, Option.map_some, Option.some.injEq] at this
    exact hp.sub k o this
  · have hk : C' ≤ k := hk
    rw [hp.phi k (.inr (by omega))]
    refine h3 k ?_
    show C ≤ k
    omega
  · unfold mkF
    by_cases htn : t < n
    · have hvl : vs.length = n := by rw [← hsv]; simp
      have hv : vs[t]? = some (a.get t) := by rw [← hsv]; simp [htn]
      have e : Fr.get ⟨args0 vs 0 .nil⟩ t = a.get t := by
        unfold Fr.get
        rw [args0_get vs 0 t .nil (by omega) ht, if_pos (Nat.zero_le _), Nat.sub_zero, hv]
        rfl
      rw [e]
      exact hR.at_ t ht
    · have hvl : vs.length = n := by rw [← hsv]; simp
      have hv : vs[t]? = none := by rw [List.getElem?_eq_none_iff]; omega
      have e : Fr.get ⟨args0 vs 0 .nil⟩ t = V.undef := by
        unfold Fr.get
        rw [args0_get vs 0 t .nil (by omega) ht, if_pos (Nat.zero_le _), Nat.sub_zero, hv, T.get_nil_of]
      have e2 : A'.tmps.getD t Go.undef = Go.undef := by
        rw [Array.getD_eq_getD_getElem?, Array.getElem?_eq_none (by rw [hR.size]; omega)]
        rfl
      rw [e, e2]
      exact .undef φ'
  · rcases hp.blk k l hl with ⟨j, q, hq, e⟩ | hge
    · rw [← e]; exact h5 j q hq
    · exact Nat.le_trans m.size hge
  · rw [hp.frame b (Nat.lt_of_lt_of_le hb' m.size) (fun k l hl e => by have := h5 k l hl; omega)]
    exact m.frame b hb'
/-- Ahead of the first piece. -/
theorem Mid.start (w₀ : World) (n : Nat) : Mid w₀ (mkS 0 0 [] []) (mkF []) n { tmps := Array.replicate n Go.undef, defers := [] } w₀ := by
  refine ⟨⟨fun _ => none, fun _ => none, fun m o h => ?_, ⟨fun m o h => (by cases h), fun m k l q h => (by cases h), fun m l h => (by cases h)⟩, fun _ _ => rfl, ⟨by simp, rfl, fun t ht => ?_⟩, fun m l h => (by cases h)⟩, rfl, rfl, rfl, Nat.le_refl _, fun b _ => rfl⟩
  · have := St.get_lt h
    exact absurd this (Nat.not_lt_zero _)
  · have e : Fr.get (mkF []) t = V.undef := by
      show Option.rec (motive := fun _ => V) V.undef (fun v => v) (T.get (bits TK t) .nil) = _
      rw [T.get_nil_of]
    rw [e, Array.getD_eq_getD_getElem?, Array.getElem?_replicate]
    have e2 : ((if t < n then some Go.undef else none : Option Value).getD Go.undef) = Go.undef := by split <;> rfl
    rw [e2]
    exact .undef _
end
end Go.Ev
