/- What operations look at; frames. -/
import Derived.Test.YtcmfahemeogamaaGreatEvK
namespace Go.Ev
section
variable {P : Program}

theorem mapO_congr {ρ ρ' : Env} : ∀ {l : List Operand}, (∀ x ∈ l, ρ x = ρ' x) → mapO ρ l = mapO ρ' l := by
  intro l
  induction l with
  | nil => intro _; rfl
  | cons x l ih =>
    intro h
    rw [mapO_cons, mapO_cons, h x (by simp), ih (fun y hy => h y (by simp [hy]))]
theorem places_congr {ρ ρ' : Env} : ∀ {l : List (Nat × Operand)}, (∀ x ∈ l, ρ x.2 = ρ' x.2) → places ρ l = places ρ' l := by
  intro l
  induction l with
  | nil => intro _; rfl
  | cons x l ih =>
    intro h
    have ih := ih (fun y hy => h y (by simp [hy]))
    unfold places at ih ⊢
    rw [mapO_cons, mapO_cons, h x (by simp), ih]

/-- What a kind does hangs on the operands alone. -/
def KCongr (o : Op) (k : K) : Prop :=
  match k with
  | .pure f => ∀ ρ ρ' : Env, (∀ x ∈ o.operands, ρ x = ρ' x) → f ρ = f ρ'
  | .alloc f => ∀ ρ ρ' : Env, (∀ x ∈ o.operands, ρ x = ρ' x) → f ρ = f ρ'
  | .read f => ∀ ρ ρ' : Env, (∀ x ∈ o.operands, ρ x = ρ' x) → f ρ = f ρ'
  | .eff f => ∀ ρ ρ' : Env, (∀ x ∈ o.operands, ρ x = ρ' x) → f ρ = f ρ'
  | .call f args => f ∈ o.operands ∧ ∀ x ∈ args, x ∈ o.operands
  | .bad => True
theorem kcongrB (b : Builtin) (c : Call) (hb : c.callee = .builtin b) : KCongr (.call c) (kindB P b c) := by
  have hargs : ∀ ρ ρ' : Env, (∀ x ∈ (Op.call c).operands, ρ x = ρ' x) → ∀ x ∈ c.args.toList, ρ x = ρ' x := fun ρ ρ' h x hx => h x (by simp [Op.operands, Call.operands, hb]; simpa using hx)
  cases b <;> try trivial
  case len =>
    show KCongr (.call c) (match c.argTypes.toList with | [t] => .pure (pLen (lenKind P t) c.args.toList) | _ => .bad)
    split
    · intro ρ ρ' h
      have := hargs ρ ρ' h
      unfold pLen
      split
      · rename_i e; unfold p1; rw [this _ (by rw [e]; simp)]
      · rfl
    · trivial
  case append =>
    show KCongr (.call c) (match c.argTypes.toList with | [t, u] => .eff (eAppend P t u c.args.toList) | _ => .bad)
    split
    · intro ρ ρ' h
      unfold eAppend
      rw [mapO_congr (hargs ρ ρ' h)]
    · trivial
  case min => intro ρ ρ' h; unfold pMax; rw [mapO_congr (hargs ρ ρ' h)]
  case max => intro ρ ρ' h; unfold pMax; rw [mapO_congr (hargs ρ ρ' h)]
theorem kcongrC (c : Call) : KCongr (.call c) (kindC P c) := by
  cases h : c.callee with
  | value f =>
    have e : kindC P c = .call f c.args.toList := by unfold kindC; rw [h]
    rw [e]; exact ⟨by simp [Op.operands, Call.operands, h], fun x hx => by simp [Op.operands, Call.operands, h]; exact .inr (by simpa using hx)⟩
  | builtin b =>
    have e : kindC P c = kindB P b c := by unfold kindC; rw [h]
    rw [e]; exact kcongrB b c h
  | invoke r m =>
    have e : kindC P c = .bad := by unfold kindC; rw [h]
    rw [e]; trivial
theorem kcongr (o : Op) : KCongr o (kind P o) := by
  cases o <;> try trivial
  case move x => intro ρ ρ' h; exact h x (by simp [Op.operands])
  case assign x => intro ρ ρ' h; exact h x (by simp [Op.operands])
  case pick c x y => intro ρ ρ' h; show pPick c x y ρ = pPick c x y ρ'; unfold pPick; rw [h c (by simp [Op.operands]), h x (by simp [Op.operands]), h y (by simp [Op.operands])]
  case build t ps =>
    intro ρ ρ' h
    have e : places ρ ps.toList = places ρ' ps.toList := places_congr (fun x hx => h x.2 (by simp only [Op.operands]; rw [List.mem_toArray]; exact List.mem_map.2 ⟨x, hx, rfl⟩))
    show pBuild _ _ ps.toList ρ = pBuild _ _ ps.toList ρ'
    unfold pBuild; rw [e]
  case nilCheck x => intro ρ ρ' h; show p1 _ x ρ = p1 _ x ρ'; unfold p1; rw [h x (by simp [Op.operands])]
  case binOp op t x y u => intro ρ ρ' h; show p2 _ x y ρ = p2 _ x y ρ'; unfold p2; rw [h x (by simp [Op.operands]), h y (by simp [Op.operands])]
  case unOp op t x => intro ρ ρ' h; show p1 _ x ρ = p1 _ x ρ'; unfold p1; rw [h x (by simp [Op.operands])]
  case convert t u x =>
    show KCongr _ (kindV P t u x)
    have e : kindV P t u x = match P.underlying t with | some (.slice _) => cond (isStr P u) (.read (rConv (isBytes P t) x)) .bad | _ => .pure (p1 (convV P t u) x) := rfl
    rw [e]
    split
    · cases isStr P u with
      | true => intro ρ ρ' h; unfold rConv; rw [h x (by simp [Op.operands])]
      | false => trivial
    · intro ρ ρ' h; unfold p1; rw [h x (by simp [Op.operands])]
  case makeFunc fn first cap =>
    intro ρ ρ' h; show pFunc _ _ _ ρ = pFunc _ _ _ ρ'; unfold pFunc
    rw [mapO_congr (ρ := ρ) (ρ' := ρ') (l := first.toList) (fun x hx => h x (by simp [Op.operands]; exact .inl (by simpa using hx))), mapO_congr (ρ := ρ) (ρ' := ρ') (l := cap.toList) (fun x hx => h x (by simp [Op.operands]; exact .inr (by simpa using hx)))]
  case slice t x lo hi mx =>
    intro ρ ρ' h; show pSlice P t x _ _ _ ρ = pSlice P t x _ _ _ ρ'; unfold pSlice
    rw [h x (by simp [Op.operands]), mapO_congr (ρ := ρ) (ρ' := ρ') (l := lo.toList) (fun y hy => h y (by cases lo <;> simp [Op.operands] at hy ⊢; simp [hy])),
      mapO_congr (ρ := ρ) (ρ' := ρ') (l := hi.toList) (fun y hy => h y (by cases hi <;> simp [Op.operands] at hy ⊢; simp [hy])),
      mapO_congr (ρ := ρ) (ρ' := ρ') (l := mx.toList) (fun y hy => h y (by cases mx <;> simp [Op.operands] at hy ⊢; simp [hy]))]
  case fieldAddr t x i => intro ρ ρ' h; show p1 _ x ρ = p1 _ x ρ'; unfold p1; rw [h x (by simp [Op.operands])]
  case field t x i => intro ρ ρ' h; show p1 _ x ρ = p1 _ x ρ'; unfold p1; rw [h x (by simp [Op.operands])]
  case indexAddr t x i => intro ρ ρ' h; show p2 _ x i ρ = p2 _ x i ρ'; unfold p2; rw [h x (by simp [Op.operands]), h i (by simp [Op.operands])]
  case index t x i => intro ρ ρ' h; show p2 _ x i ρ = p2 _ x i ρ'; unfold p2; rw [h x (by simp [Op.operands]), h i (by simp [Op.operands])]
  case extract x i => intro ρ ρ' h; show p1 _ x ρ = p1 _ x ρ'; unfold p1; rw [h x (by simp [Op.operands])]
  case alloc t => intro ρ ρ' h; rfl
  case box t x => intro ρ ρ' h; show aBox t x ρ = aBox t x ρ'; unfold aBox; rw [h x (by simp [Op.operands])]
  case buildSlice t len ps =>
    intro ρ ρ' h
    have e : places ρ ps.toList = places ρ' ps.toList := places_congr (fun x hx => h x.2 (by simp only [Op.operands]; rw [List.mem_toArray]; exact List.mem_map.2 ⟨x, hx, rfl⟩))
    show aSlice _ _ _ ps.toList ρ = aSlice _ _ _ ps.toList ρ'
    unfold aSlice; rw [e]
  case makeMap t r => cases r with
    | none => intro ρ ρ' h; rfl
    | some => trivial
  case load t x => intro ρ ρ' h; show rLoad _ x ρ = rLoad _ x ρ'; unfold rLoad; rw [h x (by simp [Op.operands])]
  case store t p x => intro ρ ρ' h; show eStore _ p x ρ = eStore _ p x ρ'; funext s; unfold eStore; rw [h p (by simp [Op.operands]), h x (by simp [Op.operands])]
  case makeSlice t l c => intro ρ ρ' h; show eMake P _ l c ρ = eMake P _ l c ρ'; funext s; unfold eMake; rw [h l (by simp [Op.operands]), h c (by simp [Op.operands])]
  case lookup t m k ok => intro ρ ρ' h; show eLookup P t m k ok ρ = eLookup P t m k ok ρ'; funext s; unfold eLookup; rw [h m (by simp [Op.operands]), h k (by simp [Op.operands])]
  case mapUpdate t m k x => intro ρ ρ' h; show eUpdate P t m k x ρ = eUpdate P t m k x ρ'; funext s; unfold eUpdate; rw [h m (by simp [Op.operands]), h k (by simp [Op.operands]), h x (by simp [Op.operands])]
  case insert t m k x => intro ρ ρ' h; show eUpdate P t m k x ρ = eUpdate P t m k x ρ'; funext s; unfold eUpdate; rw [h m (by simp [Op.operands]), h k (by simp [Op.operands]), h x (by simp [Op.operands])]
  case range t x =>
    show KCongr _ (cond (isMapT P t) (.eff (eRange x)) .bad)
    cases isMapT P t with
    | true => intro ρ ρ' h; funext s; unfold eRange; rw [h x (by simp [Op.operands])]
    | false => trivial
  case next x isStr => cases isStr with
    | true => trivial
    | false => intro ρ ρ' h; funext s; show eNext x ρ s = eNext x ρ' s; unfold eNext; rw [h x (by simp [Op.operands])]
  case entry x => intro ρ ρ' h; funext s; show eEntry x ρ s = eEntry x ρ' s; unfold eEntry; rw [h x (by simp [Op.operands])]
  case call c => exact kcongrC c
end
end Go.Ev
