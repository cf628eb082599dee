/- What the kinds of operations mean. -/
import Derived.Test.YtcmfahemeogamaaGreatEvZ
namespace Go.Ev
section
variable {P : Program}

/-- The operation of a kind is what the kind says. -/
def KindOk (P : Program) (o : Op) (k : K) : Prop :=
  match k with
  | .pure f => PureOk P o f
  | .alloc f => AllocOk P o f
  | .read f => ReadOk P o f
  | .eff f => EffOk P o f
  | .call f args => ∃ c : Call, o = .call c ∧ c.callee = .value f ∧ args = c.args.toList
  | .bad => True

theorem kindV_ok (t u : TypeId) (x : Operand) : KindOk P (.convert t u x) (kindV P t u x) := by
  have e : kindV P t u x = match P.underlying t with | some (.slice _) => cond (isStr P u) (.read (rConv (isBytes P t) x)) .bad | _ => .pure (p1 (convV P t u) x) := rfl
  rw [e]
  split
  · cases hu : isStr P u with
    | true => exact readOk_conv t u x (isStr_some hu)
    | false => trivial
  · exact pureOk_conv t u x
theorem kindB_ok (b : Builtin) (c : Call) (hb : c.callee = .builtin b) : KindOk P (.call c) (kindB P b c) := by
  cases b <;> try trivial
  case len => 
    show KindOk P (.call c) (match c.argTypes.toList with | [t] => .pure (pLen (lenKind P t) c.args.toList) | _ => .bad)
    split
    · rename_i t ht; exact pureOk_len c t hb ht
    · trivial
  case append =>
    show KindOk P (.call c) (match c.argTypes.toList with | [t, u] => .eff (eAppend P t u c.args.toList) | _ => .bad)
    split
    · rename_i t u ht; exact effOk_append c t u hb ht
    · trivial
  case min => exact pureOk_max c false hb
  case max => exact pureOk_max c true hb
theorem kindC_ok (c : Call) : KindOk P (.call c) (kindC P c) := by
  cases h : c.callee with
  | value f =>
    have e : kindC P c = .call f c.args.toList := by unfold kindC; rw [h]
    rw [e]; exact ⟨c, rfl, h, rfl⟩
  | builtin b =>
    have e : kindC P c = kindB P b c := by unfold kindC; rw [h]
    rw [e]; exact kindB_ok b c h
  | invoke r m =>
    have e : kindC P c = .bad := by unfold kindC; rw [h]
    rw [e]; trivial

theorem kind_ok (o : Op) : KindOk P o (kind P o) := by
  cases o <;> try trivial
  case move x => exact pureOk_move x
  case assign x => exact pureOk_assign x
  case pick c x y => exact pureOk_pick c x y
  case build t ps => exact pureOk_build t ps
  case nilCheck x => exact pureOk_nil x
  case binOp op t x y u => exact pureOk_bin op t x y u
  case unOp op t x => exact pureOk_un op t x
  case convert t u x => exact kindV_ok t u x
  case makeFunc fn first cap => exact pureOk_func fn first cap
  case slice t x lo hi mx => exact pureOk_slice t x lo hi mx
  case fieldAddr t x i => exact pureOk_fieldAddr t x i
  case field t x i => exact pureOk_field t x i
  case indexAddr t x i => exact pureOk_indexAddr t x i
  case index t x i => exact pureOk_index t x i
  case extract x i => exact pureOk_extract x i
  case alloc t => exact allocOk_alloc t
  case box t x => exact allocOk_box t x
  case buildSlice t len ps => exact allocOk_slice t len ps
  case makeMap t r =>
    cases r with
    | none => exact allocOk_map t
    | some => trivial
  case load t x => exact readOk_load t x
  case store t p x => exact effOk_store t p x
  case makeSlice t l c => exact effOk_make t l c
  case lookup t m k ok => exact effOk_lookup t m k ok
  case mapUpdate t m k x => exact effOk_update t m k x _ (.inl rfl)
  case insert t m k x => exact effOk_update t m k x _ (.inr rfl)
  case range t x =>
    cases ht : isMapT P t with
    | true =>
      have e : kind P (.range t x) = .eff (eRange x) := by show cond (isMapT P t) _ _ = _; rw [ht]; rfl
      rw [e]; exact effOk_range t x ht
    | false =>
      have e : kind P (.range t x) = .bad := by show cond (isMapT P t) _ _ = _; rw [ht]; rfl
      rw [e]; trivial
  case next x isStr =>
    cases isStr with
    | true => trivial
    | false => exact effOk_next x
  case entry x => exact effOk_entry x
  case call c => exact kindC_ok c
end
end Go.Ev
