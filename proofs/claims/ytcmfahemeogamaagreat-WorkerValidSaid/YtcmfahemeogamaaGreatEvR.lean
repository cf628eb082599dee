/- The rest of the operations that touch no memory. -/
import Derived.Test.YtcmfahemeogamaaGreatEvQ
namespace Go.Ev
section
variable {P : Program}

theorem VRel.str_inv {φ : Phi} {l : List Nat} {X : Value} (h : VRel φ (.str l) X) : ∃ s : ByteArray, X = .string s ∧ l = s.toList.map UInt8.toNat := by
  cases h
  exact ⟨_, rfl, rfl⟩
theorem VRel.exact_inv {φ : Phi} {b o len c : Nat} {X : Value} (h : VRel φ (.slice b o len (.exact c)) X) :
    ∃ l a, X = .slice (some a) len c ∧ φ b = some l ∧ len ≤ c ∧ (c = 0 ∨ a = ⟨l.blk, l.sh + o, none⟩) := by
  cases h with
  | sliceE h1 h2 h3 => exact ⟨_, _, rfl, h1, h2, h3⟩
theorem VRel.open_inv {φ : Phi} {b o len z : Nat} {X : Value} (h : VRel φ (.slice b o len (.open_ z)) X) :
    ∃ l a c, X = .slice (some a) len c ∧ φ b = some l ∧ len ≤ c ∧ o + c * z = l.room ∧ (c = 0 ∨ a = ⟨l.blk, l.sh + o, none⟩) := by
  cases h with
  | sliceO h1 h2 h3 h4 => exact ⟨_, _, _, rfl, h1, h2, h3, h4⟩
theorem pureOk_un (op : UnOp) (t : TypeId) (x : Operand) : PureOk P (.unOp op t x) (p1 (unV op) x) := by
  intro ρ v h φ ρc oper w ho e
  obtain ⟨y, hy, h⟩ := p1_some h
  have hv := e x y hy
  generalize hz : ρc x = z at hv
  have hex : (execOp ρc oper).run P w = ((Op.unary op z).run P w).andThen fun z w' => .ok (.value z) w' := by
    simp only [execOp, ho, hz, Sem.run_bind, Sem.run_pure]
  cases op <;> simp only [unV, reduceCtorEq] at h
  · cases hv <;> simp only [reduceCtorEq] at h
    simp only [intOp, Option.some.injEq, wrapK_eq] at h
    subst h
    exact ⟨_, by rw [hex]; simp only [Op.unary, Op.intArith, Sem.run_pure, Result.andThen_ok]; rfl, .int _ _⟩
  · cases hv <;> simp only [reduceCtorEq] at h
    simp only [intOp, Option.some.injEq] at h
    subst h
    exact ⟨_, by rw [hex]; simp only [Op.unary, Op.intBits, Sem.run_pure, Result.andThen_ok], .int _ _⟩
  · cases hv <;> simp only [reduceCtorEq, Option.some.injEq] at h
    subst h
    exact ⟨_, by rw [hex]; simp only [Op.unary, Sem.run_pure, Result.andThen_ok], .bool _⟩

theorem pureOk_conv (t u : TypeId) (x : Operand) : PureOk P (.convert t u x) (p1 (convV P t u) x) := by
  intro ρ v h φ ρc oper w ho e
  obtain ⟨y, hy, h⟩ := p1_some h
  have hv := e x y hy
  generalize hz : ρc x = z at hv
  unfold convV at h
  cases ht : P.underlying t with
  | none => rw [ht] at h; cases h
  | some d =>
    rw [ht] at h
    cases d <;> (try (simp only [reduceCtorEq] at h; done))
    cases hu : P.underlying u with
    | none => rw [hu] at h; cases h
    | some d' =>
      rw [hu] at h
      cases d' <;> (try (simp only [reduceCtorEq] at h; done))
      cases hv <;> simp only [reduceCtorEq, Option.some.injEq, wrapK_eq] at h
      subst h
      exact ⟨_, by simp only [execOp, ho, hz, Go.convert, Sem.run_bind, run_underlying ht, run_underlying hu, Result.andThen_ok, Conv.intToInt, Sem.run_pure], .int _ _⟩

theorem pureOk_func (fn : Fn) (first cap : Array Operand) : PureOk P (.makeFunc fn first cap) (pFunc fn first.toList cap.toList) := by
  intro ρ v h φ ρc oper w ho e
  unfold pFunc at h
  cases fn <;> (try (simp only [reduceCtorEq] at h; done))
  rename_i g
  cases ha : mapO ρ first.toList with
  | none => rw [ha] at h; cases h
  | some a =>
    cases hb : mapO ρ cap.toList with
    | none => rw [ha, hb] at h; cases h
    | some b =>
      rw [ha, hb] at h
      simp only [Option.some.injEq] at h
      subst h
      have ra := mapO_rel e ha
      have rb := mapO_rel e hb
      refine ⟨.func (.func g) (first.map ρc) (cap.map ρc), by simp only [execOp, ho, Instr.makeFunc, Sem.run_bind, Sem.run_pure, Result.andThen_ok], .func ?_ ?_ ?_ ?_⟩
      · simpa using ra.len
      · intro i x y hx hy
        exact ra.at_ i x y hx (by simpa using hy)
      · simpa using rb.len
      · intro i x y hx hy
        exact rb.at_ i x y hx (by simpa using hy)

theorem pureOk_fieldAddr (t : TypeId) (x : Operand) (i : Nat) : PureOk P (.fieldAddr t x i) (p1 (vAddr (fieldOff P t i)) x) := by
  intro ρ v h φ ρc oper w ho e
  obtain ⟨y, hy, h⟩ := p1_some h
  have hv := e x y hy
  generalize hz : ρc x = z at hv
  cases hv <;> simp only [vAddr, reduceCtorEq] at h
  rename_i b o l hl
  cases hf : fieldOff P t i with
  | none => rw [hf] at h; cases h
  | some k =>
    rw [hf] at h
    simp only [Option.some.injEq] at h
    subst h
    unfold fieldOff at hf
    cases ht : P.underlying t with
    | none => rw [ht] at hf; cases hf
    | some d =>
      rw [ht] at hf
      cases d <;> simp only [reduceCtorEq] at hf
      rename_i fields
      cases hi : fields[i]? with
      | none => rw [hi] at hf; cases hf
      | some f =>
        rw [hi] at hf
        simp only at hf
        cases hs : sizeT P f.type with
        | none => rw [hs] at hf; cases hf
        | some n =>
          rw [hs] at hf
          cases n <;> simp only [reduceCtorEq, Option.some.injEq] at hf
          subst hf
          have hval : VRel φ (.ptr b (o + f.offset)) (.pointer (some ⟨l.blk, l.sh + o + f.offset, none⟩)) := by
            have := VRel.ptr (φ := φ) (n := b) (o := o + f.offset) hl
            rwa [← Nat.add_assoc] at this
          refine ⟨_, ?_, hval⟩
          simp only [execOp, ho, hz, Instr.fieldAt, Sem.run_bind, run_underlying ht, Result.andThen_ok, hi, Instr.sureAddr, Sem.run_pure, fieldPlace, run_sizeOf hs, Nat.add_one_ne_zero, if_false, Addr.add_lit, Sem.run_ite]

theorem pureOk_field (t : TypeId) (x : Operand) (i : Nat) : PureOk P (.field t x i) (p1 (vField P t i) x) := by
  intro ρ v h φ ρc oper w ho e
  obtain ⟨y, hy, h⟩ := p1_some h
  have hv := e x y hy
  unfold vField at h
  cases y <;> simp only [reduceCtorEq] at h
  obtain ⟨as, hz, hr, h1⟩ := hv.agg_inv
  cases ht : P.underlying t with
  | none => rw [ht] at h; cases h
  | some d =>
    rw [ht] at h
    cases d <;> simp only [reduceCtorEq] at h
    rename_i fields
    cases hi : fields[i]? with
    | none => rw [hi] at h; cases h
    | some f =>
      rw [hi] at h
      obtain ⟨z, hp, hzr⟩ := run_part h hr h1 w
      exact ⟨z, by simp only [execOp, ho, hz, Instr.field, Sem.run_bind, run_underlying ht, Result.andThen_ok, hi, asAgg, Sem.run_pure, hp], hzr⟩

theorem pureOk_extract (x : Operand) (i : Nat) : PureOk P (.extract x i) (p1 (vExtract i) x) := by
  intro ρ v h φ ρc oper w ho e
  obtain ⟨y, hy, h⟩ := p1_some h
  have hv := e x y hy
  generalize hz : ρc x = z at hv
  cases hv <;> simp only [vExtract, reduceCtorEq] at h
  rename_i xs as hl hr
  rw [nth_eq] at h
  have hi : i < xs.length := (List.getElem?_eq_some_iff.1 h).1
  have hi' : i < as.size := by rw [← hl]; exact hi
  have hy' := Array.getElem?_eq_getElem hi'
  exact ⟨as[i], by simp only [execOp, ho, hz, Instr.extract, hy', Sem.run_bind, Sem.run_pure, Result.andThen_ok], hr i v _ h hy'⟩

theorem elemsT_slice {t e : TypeId} {n : Nat} (h : elemsT P t = some (none, n, e)) : P.underlying t = some (.slice e) ∧ sizeT P e = some n := by
  unfold elemsT at h
  cases ht : P.underlying t with
  | none => rw [ht] at h; cases h
  | some d =>
    rw [ht] at h
    cases d <;> simp only [reduceCtorEq] at h
    all_goals
      rename_i e'
      cases hs : sizeT P e' with
      | none => rw [hs] at h; cases h
      | some m => rw [hs] at h; simp only [Option.some.injEq, Prod.mk.injEq, reduceCtorEq, false_and, true_and] at h <;> first | (obtain ⟨rfl, rfl⟩ := h; exact ⟨rfl, hs⟩) | cases h
theorem elemsT_array {t e : TypeId} {n len : Nat} (h : elemsT P t = some (some len, n, e)) : P.underlying t = some (.array len e) ∧ sizeT P e = some n := by
  unfold elemsT at h
  cases ht : P.underlying t with
  | none => rw [ht] at h; cases h
  | some d =>
    rw [ht] at h
    cases d <;> simp only [reduceCtorEq] at h
    all_goals
      rename_i e'
      cases hs : sizeT P e' with
      | none => rw [hs] at h; cases h
      | some m => rw [hs] at h; simp only [Option.some.injEq, Prod.mk.injEq, reduceCtorEq, false_and] at h <;> first | (obtain ⟨rfl, rfl, rfl⟩ := h; exact ⟨rfl, hs⟩) | cases h

theorem pureOk_indexAddr (t : TypeId) (x i : Operand) : PureOk P (.indexAddr t x i) (p2 (vIndexAddr (elemsT P t)) x i) := by
  intro ρ v h φ ρc oper w ho e
  obtain ⟨a, b, ha, hb, h⟩ := p2_some h
  have hA := e x a ha
  have hB := e i b hb
  unfold vIndexAddr at h
  cases b <;> simp only [reduceCtorEq] at h
  rename_i k m
  cases m <;> simp only [reduceCtorEq] at h
  rename_i m
  generalize hZ : ρc i = Z at hB
  cases hB
  have hnn : (0 : Int) ≤ (m : Int) := Int.natCast_nonneg m
  cases het : elemsT P t with
  | none => rw [het] at h; cases h
  | some et =>
    rw [het] at h
    obtain ⟨ln, sz, el⟩ := et
    cases ln with
    | none =>
      simp only at h
      cases a <;> simp only [reduceCtorEq] at h
      rename_i bl o len cap
      obtain ⟨hlt, h⟩ := cond_some h
      have hlt := blt_iff.1 hlt
      simp only [Option.some.injEq] at h
      subst h
      obtain ⟨ht, hs⟩ := elemsT_slice het
      generalize hX : ρc x = X at hA
      have hlt' : (m : Int) < (len : Int) := by omega
      have key : ∀ (l : Loc) (c : Nat), φ bl = some l → X = .slice (some ⟨l.blk, l.sh + o, none⟩) len c → ∃ z, (execOp ρc oper).run P w = .ok (.value z) w ∧ VRel φ (.ptr bl (o + m * sz)) z := by
        intro l c hl hXe
        refine ⟨.pointer (some ⟨l.blk, l.sh + (o + m * sz), none⟩), ?_, .ptr hl⟩
        simp only [execOp, ho, hX, hZ, hXe, Instr.indexAt, Sem.run_bind, asIntOf, Sem.run_pure, Result.andThen_ok, run_underlying ht, hnn, hlt', and_self, if_true, run_sizeOf hs, Sem.run_ite, Addr.add_lit, Int.toNat_natCast, Int.ofNat_eq_natCast, Nat.add_assoc]
      cases hA with
      | sliceE hl hc ha' =>
        rcases ha' with rfl | rfl
        · omega
        · exact key _ _ hl rfl
      | sliceO hl hc hr ha' =>
        rcases ha' with rfl | rfl
        · omega
        · exact key _ _ hl rfl
    | some len =>
      simp only at h
      cases a <;> simp only [reduceCtorEq] at h
      rename_i bl o
      obtain ⟨hlt, h⟩ := cond_some h
      have hlt := blt_iff.1 hlt
      simp only [Option.some.injEq] at h
      subst h
      obtain ⟨ht, hs⟩ := elemsT_array het
      generalize hX : ρc x = X at hA
      cases hA
      rename_i l hl
      have hlt' : (m : Int) < (len : Int) := by omega
      refine ⟨.pointer (some ⟨l.blk, l.sh + (o + m * sz), none⟩), ?_, .ptr hl⟩
      simp only [execOp, ho, hX, hZ, Instr.indexAt, Sem.run_bind, asIntOf, Sem.run_pure, Result.andThen_ok, run_underlying ht, hnn, hlt', and_self, if_true, run_sizeOf hs, Sem.run_ite, Addr.add_lit, Int.toNat_natCast, Int.ofNat_eq_natCast, Nat.add_assoc, Instr.sureAddr]

theorem isStr_some {t : TypeId} (h : isStr P t = true) : P.underlying t = some .string := by
  unfold isStr at h
  split at h
  · assumption
  · cases h

theorem pureOk_index (t : TypeId) (x i : Operand) : PureOk P (.index t x i) (p2 (vIndex P t) x i) := by
  intro ρ v h φ ρc oper w ho e
  obtain ⟨a, b, ha, hb, h⟩ := p2_some h
  have hA := e x a ha
  have hB := e i b hb
  unfold vIndex at h
  cases b <;> simp only [reduceCtorEq] at h
  rename_i k m
  cases m <;> simp only [reduceCtorEq] at h
  rename_i m
  generalize hZ : ρc i = Z at hB
  cases hB
  have hnn : (0 : Int) ≤ (m : Int) := Int.natCast_nonneg m
  cases a <;> simp only [reduceCtorEq] at h
  · -- a string
    obtain ⟨hs, h⟩ := cond_some h
    have ht := isStr_some hs
    generalize hX : ρc x = X at hA
    obtain ⟨s, rfl, rfl⟩ := hA.str_inv
    rw [nth_eq, List.getElem?_map] at h
    cases hg : s.toList[m]? with
    | none => rw [hg] at h; cases h
    | some c =>
      rw [hg] at h
      simp only [Option.map_some, Option.some.injEq] at h
      subst h
      rw [ByteArray.toList_eq] at hg
      have hg' : s[m]? = some c := by
        obtain ⟨d⟩ := s
        have : d[m]? = some c := by simpa using hg
        obtain ⟨hm, rfl⟩ := Array.getElem?_eq_some_iff.1 this
        exact getElem?_pos (ByteArray.mk d) m hm
      refine ⟨.int .u8 c.toNat, ?_, .int _ _⟩
      simp only [execOp, ho, hX, hZ, Instr.index, Sem.run_bind, asIntOf, Sem.run_pure, Result.andThen_ok, run_underlying ht, hnn, if_true, Int.toNat_natCast, Int.ofNat_eq_natCast, hg']
  · obtain ⟨as, hX, hr, h1⟩ := hA.agg_inv
    cases het : elemsT P t with
    | none => rw [het] at h; cases h
    | some et =>
      rw [het] at h
      obtain ⟨ln, sz, el⟩ := et
      cases ln <;> simp only [reduceCtorEq] at h
      rename_i len
      obtain ⟨hlt, h⟩ := cond_some h
      have hlt := blt_iff.1 hlt
      obtain ⟨ht, hs⟩ := elemsT_array het
      have hlt' : (m : Int) < (len : Int) := by omega
      obtain ⟨z, hp, hzr⟩ := run_part h hr h1 w
      refine ⟨z, ?_, hzr⟩
      simp only [execOp, ho, hX, hZ, Instr.index, Sem.run_bind, asIntOf, Sem.run_pure, Result.andThen_ok, run_underlying ht, hnn, hlt', and_self, if_true, run_sizeOf hs, Sem.run_ite, Int.toNat_natCast, Int.ofNat_eq_natCast, hp]

/-! ### Slices of slices -/
/-- A bound: what is written, as the model reads it. -/
theorem bnd_run {φ : Phi} {ρ : Env} {ρc : Operand → Value} (e : ERel φ ρ ρc) {x : Option Operand} {l : List V} (h : mapO ρ x.toList = some l) {d n : Nat} (hb : bnd l d = some n) :
    (x = none ∧ n = d) ∨ ∃ k, x.map ρc = some (.int k (n : Int)) := by
  cases x with
  | none =>
    cases h
    simp only [bnd, Option.some.injEq] at hb
    exact .inl ⟨rfl, hb.symm⟩
  | some o =>
    change mapO ρ [o] = some l at h
    rw [mapO_cons, mapO_nil] at h
    cases hr : ρ o with
    | none => rw [hr] at h; cases h
    | some v =>
      rw [hr] at h
      simp only [Option.bind_some, Option.map_some, Option.some.injEq] at h
      subst h
      have hv := e o v hr
      cases v with
      | int k m =>
        cases m with
        | ofNat m =>
          simp only [bnd, Option.some.injEq] at hb
          subst hb
          refine .inr ⟨k, ?_⟩
          generalize hz : ρc o = z at hv
          cases hv
          simp [hz]
        | negSucc m => simp [bnd] at hb
      | _ => simp [bnd] at hb
theorem run_sliceBound {k : IntKind} {n y : Nat} (h : n ≤ y) (c : BoundsCode) (w : World) : (Instr.sliceBound (.int k (n : Int)) y c).run P w = .ok n w := by
  have h1 : (0 : Int) ≤ (n : Int) ∧ (n : Int) ≤ (y : Int) := by omega
  simp only [Instr.sliceBound, Sem.run_bind, asIntOf, Sem.run_pure, Result.andThen_ok, h1, and_self, if_true, Sem.run_ite, Int.toNat_natCast]
/-- x[lo:hi], x[lo:hi:mx]. -/
theorem run_sliceBounds {lo hi mx : Option Value} {isSlice : Bool} {len cap l h m : Nat} (hl : (lo = none ∧ l = 0) ∨ ∃ k, lo = some (.int k (l : Int))) (hh : (hi = none ∧ h = len) ∨ ∃ k, hi = some (.int k (h : Int)))
    (hm : (mx = none ∧ m = cap) ∨ ((∃ k, mx = some (.int k (m : Int))) ∧ hi ≠ none)) (h1 : l ≤ h) (h2 : h ≤ m) (h3 : m ≤ cap) (w : World) : (Instr.sliceBounds isSlice len cap lo hi mx).run P w = .ok (l, h, m) w := by
  rcases hm with ⟨rfl, rfl⟩ | ⟨⟨km, rfl⟩, hne⟩
  · rcases hh with ⟨rfl, rfl⟩ | ⟨kh, rfl⟩
    · rcases hl with ⟨rfl, rfl⟩ | ⟨kl, rfl⟩
      · simp [Instr.sliceBounds]
      · simp [Instr.sliceBounds, run_sliceBound h1]
    · rcases hl with ⟨rfl, rfl⟩ | ⟨kl, rfl⟩
      · simp [Instr.sliceBounds, run_sliceBound h2]
      · simp [Instr.sliceBounds, run_sliceBound h1, run_sliceBound h2]
  · rcases hh with ⟨rfl, rfl⟩ | ⟨kh, rfl⟩
    · exact absurd rfl hne
    · rcases hl with ⟨rfl, rfl⟩ | ⟨kl, rfl⟩
      · simp [Instr.sliceBounds, run_sliceBound h2, run_sliceBound h3]
      · simp [Instr.sliceBounds, run_sliceBound h1, run_sliceBound h2, run_sliceBound h3]

theorem cut_rel {φ : Phi} {b o sz l h m : Nat} {k : Loc} {a : Addr} (hk : φ b = some k) (ha : m = l ∨ a = ⟨k.blk, k.sh + o, none⟩) (hm : h ≤ m) :
    VRel φ (cut b o sz l h m) (.slice (some (if m = l then a else a.add (l * sz))) (h - l) (m - l)) := by
  unfold cut
  by_cases e : m = l
  · exact .sliceE hk (by omega) (.inl (by omega))
  · rw [if_neg e]
    have : Nat.beq m l = false := by
      cases hb : Nat.beq m l with
      | false => rfl
      | true => exact absurd (beq_iff.1 hb) e
    rw [this]
    obtain rfl := ha.resolve_left e
    rw [Addr.add_lit]
    exact .sliceE hk (by omega) (.inr (by rw [Nat.add_assoc]; rfl))

theorem pureOk_slice (t : TypeId) (x : Operand) (lo hi mx : Option Operand) : PureOk P (.slice t x lo hi mx) (pSlice P t x lo.toList hi.toList mx.toList) := by
  intro ρ v h φ ρc oper w ho e
  unfold pSlice at h
  cases hx : ρ x with
  | none => rw [hx] at h; cases h
  | some y =>
    cases ha : mapO ρ lo.toList with
    | none => rw [hx, ha] at h; cases h
    | some a =>
      cases hb : mapO ρ hi.toList with
      | none => rw [hx, ha, hb] at h; cases h
      | some b =>
        cases hc : mapO ρ mx.toList with
        | none => rw [hx, ha, hb, hc] at h; cases h
        | some c =>
          rw [hx, ha, hb, hc] at h
          simp only at h
          have hv := e x y hx
          unfold sliceV at h
          cases ht : P.underlying t with
          | none => rw [ht] at h; cases h
          | some d =>
            rw [ht] at h
            cases d <;> simp only [reduceCtorEq] at h
            · rename_i el
              cases hs : sizeT P el with
              | none => rw [hs] at h; cases h
              | some sz =>
                rw [hs] at h
                simp only at h
                cases y <;> simp only [reduceCtorEq] at h
                rename_i bl o len cap
                generalize hX : ρc x = X at hv
                -- what the model comes to
                have run : ∀ (A : Addr) (C l h m : Nat), X = .slice (some A) len C → ((lo.map ρc = none ∧ l = 0) ∨ ∃ k, lo.map ρc = some (.int k (l : Int))) → ((hi.map ρc = none ∧ h = len) ∨ ∃ k, hi.map ρc = some (.int k (h : Int))) →
                    ((mx.map ρc = none ∧ m = C) ∨ ((∃ k, mx.map ρc = some (.int k (m : Int))) ∧ hi.map ρc ≠ none)) → l ≤ h → h ≤ m → m ≤ C →
                    (execOp ρc oper).run P w = .ok (.value (.slice (some (if m = l then A else A.add (l * sz))) (h - l) (m - l))) w := by
                  intro A C l h m hXe h1 h2 h3 h4 h5 h6
                  simp only [execOp, ho, hX, hXe, Instr.sliceAt, Sem.run_bind, run_underlying ht, Result.andThen_ok, Instr.slice, run_sliceBounds (P := P) (isSlice := true) (len := len) (cap := C) (l := l) (h := h) (m := m) h1 h2 h3 h4 h5 h6, run_sizeOf hs, Sem.run_pure]
                  congr 4
                  split <;> simp
                have none_map : ∀ {q : Option Operand} {r : Nat} {u : Nat}, ((q = none ∧ r = u) ∨ ∃ k, q.map ρc = some (.int k (r : Int))) → ((q.map ρc = none ∧ r = u) ∨ ∃ k, q.map ρc = some (.int k (r : Int))) := by
                  intro q r u h
                  rcases h with ⟨rfl, h⟩ | h
                  · exact .inl ⟨rfl, h⟩
                  · exact .inr h
                unfold sliceS at h
                by_cases hmx : mx = none
                · subst hmx
                  cases hc
                  simp only at h
                  cases cap with
                  | exact C =>
                    simp only at h
                    cases hbl : bnd a 0 with
                    | none => rw [hbl] at h; cases h
                    | some l =>
                      cases hbh : bnd b len with
                      | none => rw [hbl, hbh] at h; cases h
                      | some hh =>
                        rw [hbl, hbh] at h
                        simp only at h
                        obtain ⟨hle, h⟩ := cond_some h
                        rw [Bool.and_eq_true] at hle
                        simp only [Option.some.injEq] at h
                        subst h
                        have h1 := Nat.le_of_ble_eq_true hle.1
                        have h2 := Nat.le_of_ble_eq_true hle.2
                        obtain ⟨k, A, rfl, hk, hC, hA⟩ := hv.exact_inv
                        exact ⟨_, run _ _ l hh C rfl (none_map (bnd_run e ha hbl)) (none_map (bnd_run e hb hbh)) (.inl ⟨rfl, rfl⟩) h1 h2 (Nat.le_refl _), cut_rel hk (hA.imp (fun _ => by omega) id) h2⟩
                  | open_ z =>
                    simp only at h
                    cases hbl : bnd a 0 with
                    | none => rw [hbl] at h; cases h
                    | some l =>
                      cases hbh : bnd b len with
                      | none => rw [hbl, hbh] at h; cases h
                      | some hh =>
                        rw [hbl, hbh] at h
                        simp only at h
                        obtain ⟨hle, h⟩ := cond_some h
                        rw [Bool.and_eq_true, Bool.and_eq_true] at hle
                        simp only [Option.some.injEq] at h
                        subst h
                        obtain rfl := beq_iff.1 hle.1.1
                        have h1 := Nat.le_of_ble_eq_true hle.1.2
                        have h2 := Nat.le_of_ble_eq_true hle.2
                        obtain ⟨k, A, C, rfl, hk, hC, hr, hA⟩ := hv.open_inv
                        refine ⟨_, run _ _ l hh C rfl (none_map (bnd_run e ha hbl)) (none_map (bnd_run e hb hbh)) (.inl ⟨rfl, rfl⟩) h1 (by omega) (Nat.le_refl _), .sliceO hk (by omega) ?_ ?_⟩
                        · have : C * z = l * z + (C - l) * z := by rw [← Nat.add_mul]; congr 1; omega
                          omega
                        · by_cases e' : C = l
                          · exact .inl (by omega)
                          · rw [if_neg e']
                            rcases hA with rfl | rfl
                            · exact .inl (by omega)
                            · exact .inr (by rw [Addr.add_lit, Nat.add_assoc])
                · cases mx with
                  | none => exact absurd rfl hmx
                  | some q =>
                    have hc1 : ∃ u, c = [u] := by
                      obtain ⟨hl, _⟩ := mapO_some hc
                      cases c with
                      | nil => simp at hl
                      | cons u c => cases c with
                        | nil => exact ⟨u, rfl⟩
                        | cons => simp at hl
                    obtain ⟨u, rfl⟩ := hc1
                    simp only at h
                    cases hi with
                    | none => cases hb; simp at h
                    | some qh =>
                      have hb1 : ∃ u, b = [u] := by
                        obtain ⟨hl, _⟩ := mapO_some hb
                        cases b with
                        | nil => simp at hl
                        | cons u b => cases b with
                          | nil => exact ⟨u, rfl⟩
                          | cons => simp at hl
                      obtain ⟨u', rfl⟩ := hb1
                      simp only at h
                      cases hbl : bnd a 0 with
                      | none => rw [hbl] at h; cases h
                      | some l =>
                        cases hbh : bnd [u'] 0 with
                        | none => rw [hbl, hbh] at h; cases h
                        | some hh =>
                          cases hbm : bnd [u] 0 with
                          | none => rw [hbl, hbh, hbm] at h; cases h
                          | some m =>
                            rw [hbl, hbh, hbm] at h
                            simp only at h
                            obtain ⟨hle, h⟩ := cond_some h
                            rw [Bool.and_eq_true, Bool.and_eq_true] at hle
                            simp only [Option.some.injEq] at h
                            subst h
                            have h1 := Nat.le_of_ble_eq_true hle.1.1
                            have h2 := Nat.le_of_ble_eq_true hle.1.2
                            have h3 := Nat.le_of_ble_eq_true hle.2
                            have rh : (some qh : Option Operand).map ρc = none ∧ hh = len ∨ ∃ k, (some qh : Option Operand).map ρc = some (.int k (hh : Int)) := by
                              rcases bnd_run e hb hbh with ⟨q', _⟩ | q'
                              · cases q'
                              · exact .inr q'
                            have rm : ∃ k, (some q : Option Operand).map ρc = some (.int k (m : Int)) := by
                              rcases bnd_run e hc hbm with ⟨q', _⟩ | q'
                              · cases q'
                              · exact q'
                            cases cap with
                            | exact C =>
                              obtain ⟨k, A, rfl, hk, hC, hA⟩ := hv.exact_inv
                              exact ⟨_, run _ _ l hh m rfl (none_map (bnd_run e ha hbl)) rh (.inr ⟨rm, by simp⟩) h1 h2 h3, cut_rel hk (hA.imp (fun _ => by simp only at h3; omega) id) h2⟩
                            | open_ z =>
                              obtain ⟨k, A, C, rfl, hk, hC, hr, hA⟩ := hv.open_inv
                              simp only at h3
                              exact ⟨_, run _ _ l hh m rfl (none_map (bnd_run e ha hbl)) rh (.inr ⟨rm, by simp⟩) h1 h2 (by omega), cut_rel hk (hA.imp (fun _ => by omega) id) h2⟩
            · -- an array
              rename_i n el
              cases hs : sizeT P el with
              | none => rw [hs] at h; cases h
              | some sz =>
                rw [hs] at h
                simp only at h
                cases y <;> simp only [reduceCtorEq] at h
                rename_i bl o
                have hlo : lo = none := by cases lo with
                  | none => rfl
                  | some o => obtain ⟨hl, _⟩ := mapO_some ha; cases a <;> simp at hl h
                have hhi : hi = none := by cases hi with
                  | none => rfl
                  | some o => obtain ⟨hl, _⟩ := mapO_some hb; cases a <;> cases b <;> simp at hl h
                have hmx : mx = none := by cases mx with
                  | none => rfl
                  | some o => obtain ⟨hl, _⟩ := mapO_some hc; cases a <;> cases b <;> cases c <;> simp at hl h
                subst hlo; subst hhi; subst hmx
                cases ha; cases hb; cases hc
                simp only [Option.some.injEq] at h
                subst h
                generalize hX : ρc x = X at hv
                cases hv
                rename_i l hl
                refine ⟨_, ?_, cut_rel hl (.inr rfl) (Nat.le_refl _)⟩
                simp only [execOp, ho, hX, Instr.sliceAt, Sem.run_bind, run_underlying ht, Result.andThen_ok, Instr.sureAddr, Sem.run_pure, Option.map_none, run_sliceBounds (P := P) (isSlice := false) (len := n) (cap := n) (l := 0) (h := n) (m := n) (.inl ⟨rfl, rfl⟩) (.inl ⟨rfl, rfl⟩) (.inl ⟨rfl, rfl⟩) (Nat.zero_le _) (Nat.le_refl _) (Nat.le_refl _), run_sizeOf hs]
end
end Go.Ev
