/- More of the operations that touch no memory. -/
import Derived.Test.YtcmfahemeogamaaGreatEvP
import Derived.DeepKeys3
namespace Go.Ev
section
variable {P : Program}

theorem cond_none {α : Type} {b : Bool} {x : Option α} {y : α} (h : cond b none x = some y) : b = false ∧ x = some y := by
  cases b with
  | true => cases h
  | false => exact ⟨rfl, h⟩

theorem VRel.agg_inv {φ : Phi} {xs : List V} {X : Value} (h : VRel φ (.agg xs) X) : ∃ as, X = .agg as ∧ LRel φ xs as.toList ∧ (∀ x ∈ xs, x.one = true) := by
  cases h with
  | agg hx h1 hxi => exact ⟨_, rfl, ⟨by simpa using hx, fun i x y h1 h2 => hxi i x y h1 (by simpa using h2)⟩, h1⟩

/-- '==' is the evaluator's. -/
theorem eqV_run (φ : Phi) : ∀ (d : Nat) (t : TypeId) (x y : V) (b : Bool), eqV P d t x y = some b → ∀ (X Y : Value) (D : Nat) (w : World), VRel φ x X → VRel φ y Y → d ≤ D → (Op.equalIn D t X Y).run P w = .ok b w := by
  intro d
  induction d with
  | zero => intro t x y b h; cases h
  | succ d ih =>
    intro t x y b h X Y D w hx hy hD
    obtain ⟨D, rfl⟩ : ∃ m, D = m + 1 := ⟨D - 1, by omega⟩
    have hD : d ≤ D := by omega
    simp only [eqV] at h
    cases hd : P.underlying t with
    | none => rw [hd] at h; cases h
    | some desc =>
      rw [hd] at h
      cases desc <;> simp only [reduceCtorEq] at h
      case bool =>
        cases x <;> cases y <;> simp only [reduceCtorEq, Option.some.injEq] at h
        cases hx; cases hy; subst h
        exact run_equalIn_bool' w D t _ _ hd
      case int k =>
        cases x <;> cases y <;> simp only [reduceCtorEq] at h
        obtain ⟨hk, h'⟩ := cond_some h
        obtain rfl := keq_iff.1 hk
        injection h' with h'; subst h'
        cases hx; cases hy
        rw [ibeq_eq]
        exact run_equalIn_int w D t _ _ _ _ hd
      case string =>
        cases x <;> cases y <;> simp only [reduceCtorEq, Option.some.injEq] at h
        cases hx; cases hy; subst h
        rw [beqL_eq]
        exact run_equalIn_string w D t _ _ hd
      case slice e =>
        cases x <;> cases y <;> simp only [reduceCtorEq, Option.some.injEq] at h
        · subst h
          cases hy
          cases hx <;> simp [Op.equalIn, run_underlying hd]
        · subst h
          cases hx
          cases hy <;> simp [Op.equalIn, run_underlying hd]
        · subst h
          cases hx; cases hy
          simp [Op.equalIn, run_underlying hd]
      case array n e =>
        cases x <;> cases y <;> simp only [reduceCtorEq] at h
        rename_i xs ys
        cases hs : sizeT P e with
        | none => rw [hs] at h; cases h
        | some m =>
          rw [hs] at h
          simp only at h
          obtain ⟨as, rfl, hxr, hx1⟩ := hx.agg_inv
          obtain ⟨bs, rfl, hyr, hy1⟩ := hy.agg_inv
          obtain ⟨i, hi, rfl⟩ := sizeT_some hs
          rw [run_equalIn_array w D as bs hd hi]
          have hc : P.cellsOf e = i.size := by simp [Program.cellsOf, hi]
          rw [hc, List.range_eq_range']
          have key : ∀ (l k : Nat) (b : Bool), eqElems P (eqV P d e) e i.size xs ys l k = some b → (Op.eqItems D e i.size as bs (List.range' k l)).run P w = .ok b w := by
            intro l
            induction l with
            | zero => intro k b h; simp only [eqElems, Option.some.injEq] at h; subst h; rfl
            | succ l ihl =>
              intro k b h
              simp only [eqElems] at h
              cases hp : part P e xs (k * i.size) with
              | none => rw [hp] at h; cases h
              | some u =>
                cases hq : part P e ys (k * i.size) with
                | none => rw [hp, hq] at h; cases h
                | some v =>
                  rw [hp, hq] at h
                  simp only at h
                  obtain ⟨U, hU, hUr⟩ := run_part hp hxr hx1 w
                  obtain ⟨Z, hZ, hZr⟩ := run_part hq hyr hy1 w
                  cases he : eqV P d e u v with
                  | none => rw [he] at h; cases h
                  | some r =>
                    rw [he] at h
                    have hr := ih e u v r he U Z D w hUr hZr hD
                    rw [List.range'_succ]
                    simp only [Op.eqItems, Sem.run_bind, hU, hZ, hr, Result.andThen_ok]
                    cases r with
                    | false => simp only [Option.some.injEq] at h; subst h; simp
                    | true => simpa using ihl (k + 1) b h
          exact key n 0 b h
      case struct fields =>
        cases x <;> cases y <;> simp only [reduceCtorEq] at h
        rename_i xs ys
        obtain ⟨hst, h⟩ := cond_none h
        obtain ⟨as, rfl, hxr, hx1⟩ := hx.agg_inv
        obtain ⟨bs, rfl, hyr, hy1⟩ := hy.agg_inv
        have hf : P.fieldsOf t = fields := by simp [Program.fieldsOf, hd]
        rw [run_equalIn_struct w D t as bs (by rw [hf]; exact hd) hst, hf]
        have key : ∀ (l : List Field) (b : Bool), eqFields P (eqV P d) xs ys l = some b → (Op.eqFields D as bs l).run P w = .ok b w := by
          intro l
          induction l with
          | nil => intro b h; simp only [eqFields, Option.some.injEq] at h; subst h; rfl
          | cons f l ihl =>
            intro b h
            simp only [eqFields] at h
            obtain ⟨hn, h⟩ := cond_none h
            have hn : f.name ≠ "_" := by simpa using hn
            cases hp : part P f.type xs f.offset with
            | none => rw [hp] at h; cases h
            | some u =>
              cases hq : part P f.type ys f.offset with
              | none => rw [hp, hq] at h; cases h
              | some v =>
                rw [hp, hq] at h
                simp only at h
                obtain ⟨U, hU, hUr⟩ := run_part hp hxr hx1 w
                obtain ⟨Z, hZ, hZr⟩ := run_part hq hyr hy1 w
                cases he : eqV P d f.type u v with
                | none => rw [he] at h; cases h
                | some r =>
                  rw [he] at h
                  have hr := ih f.type u v r he U Z D w hUr hZr hD
                  simp only [Op.eqFields, hn, ne_eq, not_false_eq_true, if_true, Sem.run_bind, hU, hZ, hr, Result.andThen_ok]
                  cases r with
                  | false => simp only [Option.some.injEq] at h; subst h; simp
                  | true => simpa using ihl b h
        exact key fields.toList b h

theorem eqV_agg {d : Nat} {t : TypeId} {xs : List V} {y : V} {b : Bool} (hE : eqV P (d + 1) t (.agg xs) y = some b) : ∃ ys, y = .agg ys := by
  simp only [eqV] at hE
  cases hd : P.underlying t with
  | none => rw [hd] at hE; cases hE
  | some desc =>
    rw [hd] at hE
    cases desc <;> simp only [reduceCtorEq] at hE <;> cases y <;> simp only [reduceCtorEq] at hE <;> exact ⟨_, rfl⟩
/-- '==', '!=' of what is no number and no string. -/
theorem eqO_run {φ : Phi} {t : TypeId} {x y : V} {b : Bool} (h : eqO P t x y = some b) {X Y : Value} (hx : VRel φ x X) (hy : VRel φ y Y) (w : World) :
    (Op.equal t X Y).run P w = .ok b w ∧ ∀ op a c, (eqGuard op t a c X Y).run P w = .ok () w := by
  have hE : eqV P 20 t x y = some b := by
    unfold eqO at h
    split at h
    · exact (cond_none h).2
    · exact h
  refine ⟨eqV_run φ 20 t x y b hE X Y 10000 w hx hy (by omega), fun op a c => ?_⟩
  cases hx with
  | agg h1 h2 h3 =>
    have hg := (cond_none h).1
    obtain ⟨ys, rfl⟩ := eqV_agg (d := 19) hE
    obtain ⟨bs, rfl, _, _⟩ := hy.agg_inv
    exact run_eqGuard_agg w op t a c _ _ hg
  | _ => first | (rw [eqGuard_at_bool]; rfl) | (rw [eqGuard_at_int]; rfl) | (rw [eqGuard_at_string]; rfl) | (rw [eqGuard_at_pointer]; rfl) | (rw [eqGuard_at_slice]; rfl) | (rw [eqGuard_at_map]; rfl) | (rw [eqGuard_at_func]; rfl) | (rw [eqGuard_at_nilFunc]; rfl) | (rw [eqGuard_at_tuple]; rfl)

theorem binOp_eql_other (t : TypeId) (X Y : Value) (n1 : ∀ k n, X ≠ .int k n) (n2 : ∀ s, X ≠ .string s) (n3 : ∀ k n, X ≠ .float k n) (n4 : ∀ k n m, X ≠ .complex k n m) :
    binOp .eql t X Y = (do pure (.bool (← Op.equal t X Y))) := by
  cases X <;> first | rfl | exact absurd rfl (n1 _ _) | exact absurd rfl (n2 _) | exact absurd rfl (n3 _ _) | exact absurd rfl (n4 _ _ _)
theorem binOp_neq_other (t : TypeId) (X Y : Value) (n1 : ∀ k n, X ≠ .int k n) (n2 : ∀ s, X ≠ .string s) (n3 : ∀ k n, X ≠ .float k n) (n4 : ∀ k n m, X ≠ .complex k n m) :
    binOp .neq t X Y = (do pure (.bool (!(← Op.equal t X Y)))) := by
  cases X <;> first | rfl | exact absurd rfl (n1 _ _) | exact absurd rfl (n2 _) | exact absurd rfl (n3 _ _) | exact absurd rfl (n4 _ _ _)
theorem pureOk_bin (op : BinOp) (t : TypeId) (x y : Operand) (u : TypeId) : PureOk P (.binOp op t x y u) (p2 (binV P op t) x y) := by
  intro ρ v h φ ρc oper w ho e
  obtain ⟨a, b, ha, hb, h⟩ := p2_some h
  have hA := e x a ha
  have hB := e y b hb
  have hex : (execOp ρc oper).run P w = (((eqGuard op t x y (ρc x) (ρc y)).run P w).andThen fun _ w' => ((binOp op t (ρc x) (ρc y)).run P w').andThen fun z w'' => .ok (.value z) w'') := by
    simp only [execOp, ho, Sem.run_bind, Sem.run_pure]
    cases (eqGuard op t x y (ρc x) (ρc y)).run P w <;> rfl
  have other : binO P op t a b = some v → (∀ k n, ρc x ≠ .int k n) → (∀ s, ρc x ≠ .string s) → (∀ k n, ρc x ≠ .float k n) → (∀ k n m, ρc x ≠ .complex k n m) → ∃ z, (execOp ρc oper).run P w = .ok (.value z) w ∧ VRel φ v z := by
    intro h n1 n2 n3 n4
    unfold binO at h
    cases op <;> simp only [reduceCtorEq] at h
    · cases hq : eqO P t a b with
      | none => rw [hq] at h; cases h
      | some r =>
        rw [hq] at h
        injection h with h; subst h
        obtain ⟨h1, h2⟩ := eqO_run hq hA hB w
        refine ⟨.bool r, ?_, .bool r⟩
        rw [hex, h2]
        rw [binOp_eql_other t (ρc x) (ρc y) n1 n2 n3 n4]
        simp only [Sem.run_bind, h1, Result.andThen_ok, Sem.run_pure]
    · cases hq : eqO P t a b with
      | none => rw [hq] at h; cases h
      | some r =>
        rw [hq] at h
        injection h with h; subst h
        obtain ⟨h1, h2⟩ := eqO_run hq hA hB w
        refine ⟨.bool (!r), ?_, .bool (!r)⟩
        rw [hex, h2]
        rw [binOp_neq_other t (ρc x) (ρc y) n1 n2 n3 n4]
        simp only [Sem.run_bind, h1, Result.andThen_ok, Sem.run_pure]
  cases a with
  | int k m =>
    cases b <;> simp only [binV, reduceCtorEq] at h
    rename_i l n
    obtain ⟨hc, h⟩ := cond_some h
    have hk : isShift op = true ∨ k = l := by
      rcases Bool.or_eq_true_iff.1 hc with h | h
      · exact .inl h
      · exact .inr (keq_iff.1 h)
    generalize hX : ρc x = X at hA hex
    generalize hY : ρc y = Y at hB hex
    cases hA; cases hB
    obtain ⟨z, hz, hv⟩ := intOp_run (P := P) h hk t w φ
    exact ⟨z, by rw [hex, eqGuard_at_int]; simp only [Sem.run_pure, Result.andThen_ok, hz], hv⟩
  | str s =>
    cases b <;> simp only [binV, reduceCtorEq] at h
    rename_i s'
    generalize hX : ρc x = X at hA hex
    generalize hY : ρc y = Y at hB hex
    cases hA; cases hB
    obtain ⟨z, hz, hv⟩ := strOp_run (P := P) h t w φ
    exact ⟨z, by rw [hex, eqGuard_at_string]; simp only [Sem.run_pure, Result.andThen_ok, hz], hv⟩
  | _ => exact other (by simpa only [binV] using h) (fun k n q => by rw [q] at hA; cases hA) (fun s q => by rw [q] at hA; cases hA) (fun k n q => by rw [q] at hA; cases hA) (fun k n m q => by rw [q] at hA; cases hA)
end
end Go.Ev
