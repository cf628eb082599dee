/- len, max, min; what makes one object; what reads one. -/
import Derived.Test.YtcmfahemeogamaaGreatEvR
namespace Go.Ev
section
variable {P : Program}

theorem run_builtin {ρc : Operand → Value} {oper : Oper} {c : Call} {b : Builtin} (ho : oper.op = .call c) (hc : c.callee = .builtin b) (w : World) :
    ∃ consts, (execOp ρc oper).run P w = (builtin b c.argTypes oper.type consts (c.args.map ρc)).run P w := by
  simp only [execOp, ho, resolve, hc, Sem.run_bind, Sem.run_pure, Result.andThen_ok, invoke]
  exact ⟨_, rfl⟩
theorem map_one {ρc : Operand → Value} {xs : Array Operand} {x : Operand} (h : xs.toList = [x]) : xs.map ρc = #[ρc x] := by
  obtain ⟨l⟩ := xs
  simp only at h
  subst h
  simp
theorem types_one {xs : Array TypeId} {t : TypeId} (h : xs.toList = [t]) : xs = #[t] := by
  obtain ⟨l⟩ := xs
  simp only at h
  subst h
  rfl
theorem pureOk_len (c : Call) (t : TypeId) (hc : c.callee = .builtin .len) (ht : c.argTypes.toList = [t]) : PureOk P (.call c) (pLen (lenKind P t) c.args.toList) := by
  intro ρ v h φ ρc oper w ho e
  unfold pLen at h
  cases hl : c.args.toList with
  | nil => rw [hl] at h; cases h
  | cons x r =>
    cases r with
    | cons => rw [hl] at h; cases h
    | nil =>
      rw [hl] at h
      simp only at h
      obtain ⟨y, hy, h⟩ := p1_some h
      have hv := e x y hy
      generalize hz : ρc x = z at hv
      have hex : (execOp ρc oper).run P w = ((Builtin.len_ #[t] oper.type #[z]).run P w).andThen fun z w' => .ok (.value z) w' := by
        obtain ⟨consts, hb⟩ := run_builtin (P := P) (ρc := ρc) ho hc w
        rw [hb, map_one hl, types_one ht, hz]
        simp only [builtin, Sem.run_bind, Sem.run_pure]
      have isl : ∀ n : Nat, Nat.beq (lenKind P t) 1 = true → ∀ a c, (Builtin.len_ #[t] oper.type #[.slice a n c]).run P w = .ok (.int .i64 (Int.ofNat n)) w := by
        intro n h a c
        have : ∃ e, P.underlying t = some (.slice e) := by
          unfold lenKind at h
          split at h
          · exact ⟨_, by assumption⟩
          · cases h
          · cases h
        obtain ⟨e, he⟩ := this
        simp [Builtin.len_, run_underlying he, goInt]
      unfold vLen at h
      cases y <;> simp only [reduceCtorEq] at h
      · -- a string
        obtain ⟨hk, h⟩ := cond_some h
        simp only [Option.some.injEq] at h
        subst h
        have hu : P.underlying t = some .string := by
          unfold lenKind at hk
          split at hk
          · cases hk
          · assumption
          · cases hk
        obtain ⟨s, rfl, rfl⟩ := hv.str_inv
        refine ⟨.int .i64 s.size, by rw [hex]; simp [Builtin.len_, run_underlying hu, goInt], ?_⟩
        have : (s.toList.map UInt8.toNat).length = s.size := by rw [List.length_map, ByteArray.toList_eq, Array.length_toList]; rfl
        rw [this]
        exact .int _ _
      · obtain ⟨hk, h⟩ := cond_some h
        simp only [Option.some.injEq] at h
        subst h
        cases hv with
        | sliceE => exact ⟨_, by rw [hex, isl _ hk]; rfl, .int _ _⟩
        | sliceO => exact ⟨_, by rw [hex, isl _ hk]; rfl, .int _ _⟩
      · obtain ⟨hk, h⟩ := cond_some h
        simp only [Option.some.injEq] at h
        subst h
        cases hv
        exact ⟨_, by rw [hex, isl _ hk]; rfl, .int _ _⟩

theorem maxV_run {φ : Phi} {big : Bool} : ∀ {l : List V} {x v : V} {X : Value} {L : List Value}, maxV big x l = some v → VRel φ x X → LRel φ l L → ∀ w : World,
    ∃ z, (L.foldlM (if big then Builtin.max2 else Builtin.min2) X).run P w = .ok z w ∧ VRel φ v z := by
  intro l
  induction l with
  | nil =>
    intro x v X L h hx hL w
    have : L = [] := by have := hL.len; cases L <;> simp at this ⊢
    subst this
    have : v = x := by cases x <;> simp only [maxV, Option.some.injEq] at h <;> exact h.symm
    subst this
    exact ⟨X, by simp, hx⟩
  | cons y l ih =>
    intro x v X L h hx hL w
    cases L with
    | nil => have := hL.len; simp at this
    | cons Y L =>
      have hy := hL.at_ 0 y Y rfl rfl
      have hL' : LRel φ l L := ⟨by simpa using hL.len, fun i a b ha hb => hL.at_ (i + 1) a b ha hb⟩
      cases x <;> cases y <;> simp only [maxV, reduceCtorEq] at h
      rename_i k a k' b
      obtain ⟨hk, h'⟩ := cond_some h
      obtain rfl := keq_iff.1 hk
      cases hx; cases hy
      cases big with
      | true =>
        have hr : VRel φ (.int k (cond (cond true (iblt a b) (iblt b a)) b a)) (.int k (if b > a then b else a)) := by
          rw [cond_true, iblt_eq]
          by_cases hab : a < b <;> simp [hab] <;> exact .int _ _
        obtain ⟨z, hz, hv⟩ := ih h' hr hL' w
        exact ⟨z, by simpa [List.foldlM_cons, Builtin.max2] using hz, hv⟩
      | false =>
        have hr : VRel φ (.int k (cond (cond false (iblt a b) (iblt b a)) b a)) (.int k (if b < a then b else a)) := by
          rw [cond_false, iblt_eq]
          by_cases hab : b < a <;> simp [hab] <;> exact .int _ _
        obtain ⟨z, hz, hv⟩ := ih h' hr hL' w
        exact ⟨z, by simpa [List.foldlM_cons, Builtin.min2] using hz, hv⟩
theorem pureOk_max (c : Call) (big : Bool) (hc : c.callee = .builtin (if big then .max else .min)) : PureOk P (.call c) (pMax big c.args.toList) := by
  intro ρ v h φ ρc oper w ho e
  unfold pMax at h
  cases hl : mapO ρ c.args.toList with
  | none => rw [hl] at h; cases h
  | some l =>
    have hr := mapO_rel e hl
    rw [hl] at h
    cases l with
    | nil => cases h
    | cons x l =>
      simp only at h
      cases hL : c.args.toList.map ρc with
      | nil => have := hr.len; rw [hL] at this; simp at this
      | cons X L =>
        rw [hL] at hr
        obtain ⟨z, hz, hv⟩ := maxV_run (P := P) h (hr.at_ 0 x X rfl rfl) (⟨by simpa using hr.len, fun i a b ha hb => hr.at_ (i + 1) a b ha hb⟩ : LRel φ l L) w
        refine ⟨z, ?_, hv⟩
        obtain ⟨consts, hb⟩ := run_builtin (P := P) (ρc := ρc) ho hc w
        rw [hb]
        have hLa : (c.args.map ρc).toList = X :: L := by rw [Array.toList_map, hL]
        cases big with
        | true => simp only [if_true, builtin, Sem.run_bind, Sem.run_pure, Builtin.max_, hLa] at hz ⊢; rw [hz]; rfl
        | false => simp only [Bool.false_eq_true, if_false, builtin, Sem.run_bind, Sem.run_pure, Builtin.min_, hLa] at hz ⊢; rw [hz]; rfl

/-! ### What makes one object -/
/-- What an operation that makes one object comes to. -/
def AllocOk (P : Program) (o : Op) (f : Env → Option New) : Prop :=
  ∀ (ρ : Env) (ob : Nat → O) (mk : Nat → V), f ρ = some (ob, mk) → (∀ k, (ob k).stamp = k) ∧ ∀ (φ : Phi) (ρc : Operand → Value) (oper : Oper) (w : World), oper.op = o → ERel φ ρ ρc →
    ∃ X x len room, (execOp ρc oper).run P w = .ok (.value x) (w.alloc X) ∧
      (∀ φ' k, Ext φ φ' → ORel φ' (ob k) ⟨w.heap.size, 0, len, room⟩ (some X)) ∧
      (∀ φ' n, φ' n = some ⟨w.heap.size, 0, len, room⟩ → VRel φ' (mk n) x)

theorem row_rel {φ : Phi} {cs : List V} {C : Array Value} (h : LRel φ cs C.toList) (h1 : ∀ c ∈ cs, c.one = true) (e : TypeId) (k blk : Nat) :
    ∀ φ', Ext φ φ' → ORel φ' (.row e k cs) ⟨blk, 0, cs.length, C.size⟩ (some (.cells C e)) := by
  intro φ' hext
  refine ⟨C, rfl, by simp, rfl, by have := h.len; show cs.length ≤ C.size; simp at this; omega, h1, fun i x hx => ?_⟩
  obtain ⟨y, hy, hv⟩ := h.get hx
  exact ⟨y, by simpa using hy, hv.mono hext⟩

theorem allocOk_alloc (t : TypeId) : AllocOk P (.alloc t) (aAlloc t (zeroT P t)) := by
  intro ρ ob mk h
  unfold aAlloc at h
  cases hz : zeroT P t with
  | none => rw [hz] at h; cases h
  | some z =>
    rw [hz] at h
    simp only at h
    cases hc : z.cells with
    | none => rw [hc] at h; cases h
    | some cs =>
      rw [hc] at h
      simp only [Option.some.injEq, Prod.mk.injEq] at h
      obtain ⟨rfl, rfl⟩ := h
      refine ⟨fun _ => rfl, fun φ ρc oper w ho e => ?_⟩
      obtain ⟨Z, hZ, hZr⟩ := run_zeroValue hz
      obtain ⟨hr, h1⟩ := (hZr φ).cells hc
      refine ⟨.cells Z.cells t, _, _, _, ?_, fun φ' k hx => row_rel hr h1 t k _ φ' hx, fun φ' n hn => .ptr hn⟩
      simp only [execOp, ho, Instr.alloc, Sem.run_bind, hZ, Result.andThen_ok, newVar, newRow, run_newObj, Sem.run_pure, Nat.add_zero]
      rfl
theorem allocOk_box (t : TypeId) (x : Operand) : AllocOk P (.box t x) (aBox t x) := by
  intro ρ ob mk h
  unfold aBox at h
  cases hz : ρ x with
  | none => rw [hz] at h; cases h
  | some z =>
    rw [hz] at h
    simp only at h
    cases hc : z.cells with
    | none => rw [hc] at h; cases h
    | some cs =>
      rw [hc] at h
      simp only [Option.some.injEq, Prod.mk.injEq] at h
      obtain ⟨rfl, rfl⟩ := h
      refine ⟨fun _ => rfl, fun φ ρc oper w ho e => ?_⟩
      obtain ⟨hr, h1⟩ := (e x z hz).cells hc
      refine ⟨.cells (ρc x).cells t, _, _, _, ?_, fun φ' k hx => row_rel hr h1 t k _ φ' hx, fun φ' n hn => .ptr hn⟩
      simp only [execOp, ho, Instr.box, Sem.run_bind, Result.andThen_ok, newVar, newRow, run_newObj, Sem.run_pure, Nat.add_zero]
      rfl
theorem allocOk_map (t : TypeId) : AllocOk P (.makeMap t none) aMap := by
  intro ρ ob mk h
  unfold aMap at h
  simp only [Option.some.injEq, Prod.mk.injEq] at h
  obtain ⟨rfl, rfl⟩ := h
  refine ⟨fun _ => rfl, fun φ ρc oper w ho e => ⟨.map #[] 0, _, 0, 0, ?_, fun φ' k hx => ⟨#[], rfl, rfl, fun i e E he => by simp at he⟩, fun φ' n hn => .map hn⟩⟩
  simp only [execOp, ho, Instr.makeMap, Option.map_none, Sem.run_bind, run_newObj, Sem.run_pure, Result.andThen_ok]
  rfl

/-- A row of zeros, as the model makes it. -/
theorem zeroRow_some {e : TypeId} {len n : Nat} {zs : List V} (h : zeroRow P e len = some (n, zs)) :
    ∃ i z cs, P.info? e = some i ∧ i.size = n ∧ zeroT P e = some z ∧ z.cells = some cs ∧ cs.length = n ∧ zs = rep cs len ∧ len * n ≤ 65536 ∧ i.bytes * len ≤ 65536 ∧ len ≤ 65536 := by
  unfold zeroRow at h
  cases hs : sizeT P e with
  | none => rw [hs] at h; cases h
  | some m =>
    obtain ⟨i, hi, rfl⟩ := sizeT_some hs
    cases hz : zeroT P e with
    | none => rw [hs, hz] at h; cases hb : bytesT P e <;> rw [hb] at h <;> cases h
    | some z =>
      have hb : bytesT P e = some i.bytes := by simp [bytesT, hi]
      rw [hs, hz, hb] at h
      simp only at h
      cases hc : z.cells with
      | none => rw [hc] at h; cases h
      | some cs =>
        rw [hc] at h
        simp only at h
        obtain ⟨hle, h⟩ := cond_some h
        simp only [Bool.and_eq_true] at hle
        simp only [Option.some.injEq, Prod.mk.injEq] at h
        obtain ⟨rfl, rfl⟩ := h
        exact ⟨i, z, cs, hi, rfl, rfl, hc, beq_iff.1 hle.1.1.1, rfl, Nat.le_of_ble_eq_true hle.1.1.2, Nat.le_of_ble_eq_true hle.1.2, Nat.le_of_ble_eq_true hle.2⟩
theorem zeros_rel {φ : Phi} {cs : List V} {Z : Array Value} (h : LRel φ cs Z.toList) (n : Nat) (hn : cs.length = n) (len : Nat) : LRel φ (rep cs len) ((Array.range (len * n)).map (Z[· % Z.size]!)).toList := by
  have hZ : Z.size = n := by have := h.len; simp at this; omega
  refine ⟨by rw [rep_length, hn]; simp, fun i x y hx hy => ?_⟩
  have hi : i < len * cs.length := by rw [← rep_length]; exact (List.getElem?_eq_some_iff.1 hx).1
  rw [rep_get cs len i hi] at hx
  have hpos : 0 < cs.length := by
    rcases Nat.eq_zero_or_pos cs.length with h0 | h0
    · rw [h0] at hi; omega
    · exact h0
  have hm : i % cs.length < Z.size := by rw [hZ, ← hn]; exact Nat.mod_lt _ hpos
  rw [Array.toList_map, List.getElem?_map, Array.toList_range, List.getElem?_range (by rw [← hn]; exact hi)] at hy
  simp only [Option.map_some, Option.some.injEq] at hy
  subst hy
  refine h.at_ (i % cs.length) x _ hx ?_
  rw [hZ, ← hn]
  simp [hm]
theorem rep_one {cs : List V} (h : ∀ c ∈ cs, c.one = true) (n : Nat) : ∀ c ∈ rep cs n, c.one = true := by
  induction n with
  | zero => intro c hc; simp [rep_zero] at hc
  | succ n ih =>
    intro c hc
    rw [rep_succ, List.mem_append] at hc
    exact hc.elim (h c) (ih c)
theorem sliceElem_some {t e : TypeId} (h : sliceElem P t = some e) : P.underlying t = some (.slice e) := by
  unfold sliceElem at h
  split at h
  · injection h with h; subst h; assumption
  · cases h
theorem allocOk_slice (t : TypeId) (len : Nat) (ps : Array (Nat × Operand)) :
    AllocOk P (.buildSlice t len ps) (aSlice (sliceElem P t) len (match sliceElem P t with | some e => zeroRow P e len | none => none) ps.toList) := by
  intro ρ ob mk h
  unfold aSlice at h
  cases hse : sliceElem P t with
  | none => rw [hse] at h; cases h
  | some el =>
    rw [hse] at h
    simp only at h
    cases hzr : zeroRow P el len with
    | none => rw [hzr] at h; cases h
    | some nz =>
      obtain ⟨n, zs⟩ := nz
      rw [hzr] at h
      cases hl : places ρ ps.toList with
      | none => rw [hl] at h; cases h
      | some l =>
        rw [hl] at h
        simp only at h
        cases hf : fillO (fun i => some (i * n, n)) zs l with
        | none => rw [hf] at h; cases h
        | some cs =>
          rw [hf] at h
          simp only [Option.some.injEq, Prod.mk.injEq] at h
          obtain ⟨rfl, rfl⟩ := h
          refine ⟨fun _ => rfl, fun φ ρc oper w ho e => ?_⟩
          obtain ⟨i, z, zc, hi, rfl, hz, hzc, hzl, rfl, hb1, hb2, hb3⟩ := zeroRow_some hzr
          obtain ⟨Z, hZ, hZr⟩ := run_zeroValue hz
          obtain ⟨hr, h1⟩ := (hZr φ).cells hzc
          have hzeros := zeros_rel hr i.size hzl len
          obtain ⟨hpl1, hpl2⟩ := places_rel e hl
          have hlen : l.length = (ps.map fun (i, x) => (i, ρc x)).toList.length := by simp [hpl1]
          have hrel : ∀ (i : Nat) (p : Nat × V) (q : Nat × Value), l[i]? = some p → (ps.map fun (i, x) => (i, ρc x)).toList[i]? = some q → p.1 = q.1 ∧ VRel φ p.2 q.2 := by
            intro i p q hp hq
            rw [Array.toList_map, List.getElem?_map] at hq
            cases hpi : ps.toList[i]? with
            | none => rw [hpi] at hq; cases hq
            | some u =>
              rw [hpi] at hq
              injection hq with hq; subst hq
              exact hpl2 i u p hpi hp
          obtain ⟨D, hD, hDr, hD1⟩ := fill_rel (pl := fun j => some (j * i.size, i.size)) (plc := fun j => some (j * i.size, i.size)) (fun i o h => h) hf hlen hrel hzeros (rep_one h1 len)
          have hue := sliceElem_some hse
          refine ⟨.cells D el, .slice (some ⟨w.heap.size, 0, none⟩) len len, cs.length, D.size, ?_, fun φ' k hx => row_rel hDr hD1 el k _ φ' hx, fun φ' n hn => .sliceE hn (Nat.le_refl _) (.inr rfl)⟩
          have hs : sizeT P el = some i.size := by simp [sizeT, hi]
          have h24 : ¬ (len * i.size > 2 ^ 24) := by omega
          simp only [execOp, ho, Instr.buildSlice, Sem.run_bind, run_underlying hue, Result.andThen_ok, run_sizeOf hs, h24, if_false, Sem.run_ite]
          by_cases h0 : len * i.size = 0
          · simp only [h0, if_true, Sem.run_pure, Result.andThen_ok]
            have e0 : (Array.range 0).map (fun x => (#[] : Array Value)[x % (#[] : Array Value).size]!) = (Array.range (len * i.size)).map (Z.cells[· % Z.cells.size]!) := by rw [h0]; apply Array.ext'; simp
            rw [e0, hD]
            rfl
          · simp only [h0, if_false, hZ, Result.andThen_ok, Sem.run_pure]
            rw [hD]
            rfl
end
end Go.Ev
