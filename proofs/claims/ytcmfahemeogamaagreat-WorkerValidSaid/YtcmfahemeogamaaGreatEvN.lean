/- The evaluator's numbers and strings are the model's. -/
import Derived.Test.YtcmfahemeogamaaGreatEvC
import Derived.Lib.Strings
namespace Go.Ev

theorem kn_inj {a b : IntKind} (h : kn a = kn b) : a = b := by cases a <;> cases b <;> first | rfl | (exact absurd h (by decide))
theorem keq_iff {a b : IntKind} : keq a b = true ↔ a = b := by
  unfold keq; rw [beq_iff]; exact ⟨kn_inj, fun h => by rw [h]⟩
theorem ibeq_eq (a b : Int) : ibeq a b = (a == b) := by
  rw [Bool.eq_iff_iff, beq_iff_eq]
  cases a <;> cases b <;> simp [ibeq] <;> omega
theorem iblt_eq (a b : Int) : iblt a b = decide (a < b) := by
  rw [Bool.eq_iff_iff, decide_eq_true_iff]
  cases a <;> cases b <;> simp only [iblt, blt_iff, Int.ofNat_eq_natCast, Bool.false_eq_true, false_iff, true_iff] <;> omega
theorem wrapK_eq (k : IntKind) (n : Int) : wrapK k n = k.wrap n := by
  cases n with
  | ofNat m =>
    cases h : Nat.ble m (kmax k) with
    | false => simp only [wrapK, h, cond_false]
    | true =>
      simp only [wrapK, h, cond_true]
      have := Nat.le_of_ble_eq_true h
      cases k <;> simp only [kmax] at this <;> simp [IntKind.wrap, IntKind.bits, IntKind.signed] <;> omega
  | negSucc m =>
    cases h : Nat.blt m (kmin k) with
    | false => simp only [wrapK, h, cond_false]
    | true =>
      simp only [wrapK, h, cond_true]
      have := blt_iff.1 h
      have e : Int.negSucc m = -(m : Int) - 1 := by omega
      rw [e]
      cases k <;> simp only [kmin] at this
      case i8 => simp only [IntKind.wrap, IntKind.bits, IntKind.signed, Bool.true_and]; split <;> (rename_i hh; first | (have hh := of_decide_eq_true hh; omega) | (have hh := of_decide_eq_false (Bool.not_eq_true _ ▸ hh); omega) | (have hh : ¬ _ := fun q => hh (decide_eq_true q); omega) | trace_state)
      case i16 => simp only [IntKind.wrap, IntKind.bits, IntKind.signed, Bool.true_and]; split <;> (rename_i hh; first | (have hh := of_decide_eq_true hh; omega) | (have hh := of_decide_eq_false (Bool.not_eq_true _ ▸ hh); omega) | (have hh : ¬ _ := fun q => hh (decide_eq_true q); omega) | trace_state)
      case i32 => simp only [IntKind.wrap, IntKind.bits, IntKind.signed, Bool.true_and]; split <;> (rename_i hh; first | (have hh := of_decide_eq_true hh; omega) | (have hh := of_decide_eq_false (Bool.not_eq_true _ ▸ hh); omega) | (have hh : ¬ _ := fun q => hh (decide_eq_true q); omega) | trace_state)
      case i64 => simp only [IntKind.wrap, IntKind.bits, IntKind.signed, Bool.true_and]; split <;> (rename_i hh; first | (have hh := of_decide_eq_true hh; omega) | (have hh := of_decide_eq_false (Bool.not_eq_true _ ▸ hh); omega) | (have hh : ¬ _ := fun q => hh (decide_eq_true q); omega) | trace_state)
      all_goals (exfalso; omega)

theorem beqL_eq : ∀ (l m : List UInt8), beqL (l.map UInt8.toNat) (m.map UInt8.toNat) = (l == m) := by
  intro l
  induction l with
  | nil => intro m; cases m <;> rfl
  | cons x l ih =>
    intro m
    cases m with
    | nil => rfl
    | cons y m =>
      show cond (Nat.beq x.toNat y.toNat) (beqL (l.map UInt8.toNat) (m.map UInt8.toNat)) false = _
      rw [ih, List.cons_beq_cons]
      have e : Nat.beq x.toNat y.toNat = (x == y) := by
        rw [Bool.eq_iff_iff, beq_iff, beq_iff_eq]
        exact ⟨fun h => UInt8.toNat_inj.1 h, fun h => by rw [h]⟩
      rw [e]
      cases (x == y) <;> rfl
theorem bltL_eq : ∀ (l m : List UInt8), bltL (l.map UInt8.toNat) (m.map UInt8.toNat) = Op.bytesLess l m := by
  intro l
  induction l with
  | nil => intro m; cases m <;> rfl
  | cons x l ih =>
    intro m
    cases m with
    | nil => rfl
    | cons y m =>
      show cond (Nat.blt x.toNat y.toNat) true (cond (Nat.beq x.toNat y.toNat) (bltL (l.map UInt8.toNat) (m.map UInt8.toNat)) false) = _
      rw [ih]
      have e : Nat.beq x.toNat y.toNat = (x == y) := by
        rw [Bool.eq_iff_iff, beq_iff, beq_iff_eq]
        exact ⟨fun h => UInt8.toNat_inj.1 h, fun h => by rw [h]⟩
      have e' : Nat.blt x.toNat y.toNat = decide (x < y) := by
        rw [Bool.eq_iff_iff, blt_iff, decide_eq_true_iff]
        exact UInt8.lt_iff_toNat_lt.symm
      rw [e, e']
      simp only [Op.bytesLess]
      cases decide (x < y) <;> cases (x == y) <;> rfl

/-- What a binary operation on two numbers comes to. -/
theorem intOp_run {P : Program} {op : BinOp} {k l : IntKind} {x y : Int} {v : V} (h : intOp op k x y = some v) (hk : isShift op = true ∨ k = l) (t : TypeId) (w : World) (φ : Phi) :
    ∃ z, (binOp op t (.int k x) (.int l y)).run P w = .ok z w ∧ VRel φ v z := by
  by_cases hs : isShift op = true
  · cases op <;> simp [isShift] at hs
    · -- shl
      simp only [intOp] at h
      obtain ⟨hb, h⟩ : iblt y 0 = false ∧ some (V.int k (wrapK k (x * 2 ^ min y.toNat k.bits))) = some v := by
        cases hb : iblt y 0 with
        | true => rw [hb] at h; cases h
        | false => rw [hb] at h; exact ⟨rfl, h⟩
      injection h with h; subst h
      rw [iblt_eq] at hb
      have hy : ¬ y < 0 := by simpa using hb
      refine ⟨_, by simp [binOp, Op.shift, hy]; rfl, ?_⟩
      rw [wrapK_eq]; exact .int _ _
    · simp only [intOp] at h
      obtain ⟨hb, h⟩ : iblt y 0 = false ∧ some (V.int k (x.fdiv (2 ^ min y.toNat k.bits))) = some v := by
        cases hb : iblt y 0 with
        | true => rw [hb] at h; cases h
        | false => rw [hb] at h; exact ⟨rfl, h⟩
      injection h with h; subst h
      rw [iblt_eq] at hb
      have hy : ¬ y < 0 := by simpa using hb
      refine ⟨_, by simp [binOp, Op.shift, hy]; rfl, ?_⟩
      exact .int _ _
  · obtain rfl : k = l := hk.resolve_left hs
    cases op <;> simp only [intOp, isShift, Option.some.injEq, wrapK_eq, ibeq_eq, iblt_eq] at h hs
    case add => subst h; exact ⟨_, by (try simp [binOp, Op.intArith]) <;> rfl, .int _ _⟩
    case sub => subst h; exact ⟨_, by (try simp [binOp, Op.intArith]) <;> rfl, .int _ _⟩
    case mul => subst h; exact ⟨_, by (try simp [binOp, Op.intArith]) <;> rfl, .int _ _⟩
    case quo =>
      by_cases hy : y = 0
      · simp [hy] at h
      · have : (y == 0) = false := by simpa using hy
        rw [this] at h
        injection h with h; subst h
        exact ⟨_, by (try simp [binOp, Op.intDiv, hy]) <;> rfl, .int _ _⟩
    case rem =>
      by_cases hy : y = 0
      · simp [hy] at h
      · have : (y == 0) = false := by simpa using hy
        rw [this] at h
        injection h with h; subst h
        exact ⟨_, by (try simp [binOp, Op.intDiv, hy]) <;> rfl, .int _ _⟩
    case and => subst h; exact ⟨_, by (try simp [binOp, Op.intBits]) <;> rfl, .int _ _⟩
    case or => subst h; exact ⟨_, by (try simp [binOp, Op.intBits]) <;> rfl, .int _ _⟩
    case xor => subst h; exact ⟨_, by (try simp [binOp, Op.intBits]) <;> rfl, .int _ _⟩
    case andNot => subst h; exact ⟨_, by (try simp [binOp, Op.intBits]) <;> rfl, .int _ _⟩
    case eql => subst h; exact ⟨_, by (try simp [binOp, Op.intCmp]) <;> rfl, .bool _⟩
    case neq => subst h; exact ⟨_, by (try simp [binOp, Op.intCmp]) <;> rfl, .bool _⟩
    case lss => subst h; exact ⟨_, by (try simp [binOp, Op.intCmp]) <;> rfl, .bool _⟩
    case leq => subst h; exact ⟨_, by (try simp [binOp, Op.intCmp]) <;> rfl, by
      have : (!decide (y < x)) = decide (x ≤ y) := by rw [← decide_not]; congr 1; simp [Int.not_lt]
      rw [this]; exact .bool _⟩
    case gtr => subst h; exact ⟨_, by (try simp [binOp, Op.intCmp]) <;> rfl, .bool _⟩
    case geq => subst h; exact ⟨_, by (try simp [binOp, Op.intCmp]) <;> rfl, by
      have : (!decide (x < y)) = decide (y ≤ x) := by rw [← decide_not]; congr 1; simp [Int.not_lt]
      rw [this]; exact .bool _⟩
    all_goals exact absurd trivial hs

theorem strOp_run {P : Program} {op : BinOp} {a b : ByteArray} {v : V} (h : strOp op (a.toList.map UInt8.toNat) (b.toList.map UInt8.toNat) = some v) (t : TypeId) (w : World) (φ : Phi) :
    ∃ z, (binOp op t (.string a) (.string b)).run P w = .ok z w ∧ VRel φ v z := by
  cases op <;> simp only [strOp, beqL_eq, bltL_eq, Option.some.injEq, reduceCtorEq] at h
  all_goals (subst h; exact ⟨_, by (try simp [binOp, Op.stringOp]) <;> rfl, .bool _⟩)
end Go.Ev
