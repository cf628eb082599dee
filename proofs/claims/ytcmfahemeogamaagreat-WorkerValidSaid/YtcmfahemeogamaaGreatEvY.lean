/- Maps: keys, lookups, new entries. -/
import Derived.Test.YtcmfahemeogamaaGreatEvX
namespace Go.Ev
section
variable {P : Program}

theorem checkKey_run (φ : Phi) (em : Bool) : ∀ (d : Nat) (t : TypeId) (v : V), keyOk P d t v = true → ∀ (X : Value) (D : Nat) (w : World), VRel φ v X → d ≤ D → (Instr.checkKey em D t X).run P w = .ok () w := by
  intro d
  induction d with
  | zero => intro t v h; cases h
  | succ d ih =>
    intro t v h X D w hx hD
    obtain ⟨D, rfl⟩ : ∃ m, D = m + 1 := ⟨D - 1, by omega⟩
    have hD : d ≤ D := by omega
    simp only [keyOk] at h
    cases hd : P.underlying t with
    | none => rw [hd] at h; cases h
    | some desc =>
      rw [hd] at h
      rw [Instr.checkKey]
      simp only [Sem.run_bind, run_underlying hd, Result.andThen_ok]
      cases desc <;> simp only [Bool.false_eq_true] at h
      case int => simp
      case string => simp
      case array n e =>
        cases v <;> simp only [Bool.false_eq_true] at h
        rename_i cs
        cases hs : sizeT P e with
        | none => rw [hs] at h; cases h
        | some m =>
          rw [hs] at h
          simp only at h
          obtain ⟨as, rfl, hr, h1⟩ := hx.agg_inv
          simp only [Std.Legacy.Range.forIn_eq_forIn_range', Std.Legacy.Range.size, Nat.sub_zero, Nat.add_one_sub_one, Nat.div_one]
          have key : ∀ (l k : Nat), keyElems P (keyOk P d e) e m cs l k = true → ((forIn (List.range' k l) PUnit.unit fun i r => do
              let n ← sizeOf e
              let x ← Go.part e as (i * n)
              Instr.checkKey em D e x
              pure (ForInStep.yield PUnit.unit) : Sem PUnit).run P w) = .ok PUnit.unit w := by
            intro l
            induction l with
            | zero => intro k _; simp
            | succ l ihl =>
              intro k h
              simp only [keyElems, Bool.and_eq_true] at h
              obtain ⟨ha, hb⟩ := h
              cases hp : part P e cs (k * m) with
              | none => rw [hp] at ha; cases ha
              | some u =>
                rw [hp] at ha
                obtain ⟨U, hU, hUr⟩ := run_part hp hr h1 w
                rw [List.range'_succ]
                simp only [List.forIn_cons, Sem.run_bind, run_sizeOf hs, Result.andThen_ok, hU, ih e u ha U D w hUr hD, Sem.run_pure]
                exact ihl (k + 1) hb
          rw [Sem.run_bind, key n 0 h]
          rfl
      case struct fields =>
        cases v <;> simp only [Bool.false_eq_true] at h
        rename_i cs
        obtain ⟨as, rfl, hr, h1⟩ := hx.agg_inv
        simp only
        rw [← Array.forIn_toList]
        generalize fields.toList = L at h
        induction L with
        | nil => simp
        | cons f L ihL =>
          simp only [keyParts, Bool.and_eq_true] at h
          obtain ⟨ha, hb⟩ := h
          cases hp : part P f.type cs f.offset with
          | none => rw [hp] at ha; cases ha
          | some u =>
            rw [hp] at ha
            obtain ⟨U, hU, hUr⟩ := run_part hp hr h1 w
            by_cases hn : f.name = "_"
            · simp only [List.forIn_cons, hn, ne_eq, not_true_eq_false, if_false, Sem.run_bind, Sem.run_pure, Result.andThen_ok]
              simpa only [Sem.run_bind, ne_eq, Sem.run_pure] using ihL hb
            · simp only [List.forIn_cons, hn, ne_eq, not_false_eq_true, if_true, Sem.run_bind, hU, ih f.type u ha U D w hUr hD, Sem.run_pure, Result.andThen_ok]
              simpa only [Sem.run_bind, ne_eq, Sem.run_pure] using ihL hb

/-- The entries of a map, one by one. -/
structure ERels (φ : Phi) (es : List (V × V × Nat)) (ES : List MapEntry) : Prop where
  len : es.length = ES.length
  at_ : ∀ (i : Nat) (e : V × V × Nat) (E : MapEntry), es[i]? = some e → ES[i]? = some E → VRel φ e.1 E.key ∧ VRel φ e.2.1 E.val ∧ e.2.2 = E.born
theorem ERels.tail {φ : Phi} {e : V × V × Nat} {es : List (V × V × Nat)} {E : MapEntry} {ES : List MapEntry} (h : ERels φ (e :: es) (E :: ES)) : ERels φ es ES :=
  ⟨by simpa using h.len, fun i x y hx hy => h.at_ (i + 1) x y (by simpa using hx) (by simpa using hy)⟩
theorem sameNow_eq {φ : Phi} {d : Nat} {t : TypeId} {x y : V} {b b' : Bool} {X Y : Value} {desc : TypeDesc} (hd : P.underlying t = some desc) (h : eqV P (d + 1) t x y = some b) (hx : VRel φ x X) (hy : VRel φ y Y)
    (hs : Instr.sameNow desc X Y = some b') : b = b' := by
  simp only [eqV, hd] at h
  cases desc <;> simp only [Instr.sameNow, reduceCtorEq] at hs
  case bool =>
    cases x <;> cases y <;> simp only [reduceCtorEq, Option.some.injEq] at h
    cases hx; cases hy
    simp only [Option.some.injEq] at hs
    rw [← h, hs]
  case int =>
    cases x <;> cases y <;> simp only [reduceCtorEq] at h
    obtain ⟨hk, h'⟩ := cond_some h
    obtain rfl := keq_iff.1 hk
    injection h' with h'
    cases hx; cases hy
    simp only [if_true, Option.some.injEq] at hs
    rw [← h', ← hs, ibeq_eq]
  case string =>
    cases x <;> cases y <;> simp only [reduceCtorEq, Option.some.injEq] at h
    cases hx; cases hy
    simp only [Option.some.injEq] at hs
    rw [← h, ← hs, beqL_eq, beq_toListBytes]

/-- What a search comes to. -/
def Found (φ : Phi) (r : Option V) (R : Option (Nat × Value)) : Prop :=
  match r with
  | none => R = none
  | some x => ∃ i X, R = some (i, X) ∧ VRel φ x X
theorem findAsking_run {φ : Phi} {kt : TypeId} {k : V} {K : Value} (hk : VRel φ k K) (w : World) : ∀ {es : List (V × V × Nat)} {ES : List MapEntry} {r : Option V}, findV P kt k es = some r → ERels φ es ES → ∀ j,
    ∃ R, (Instr.findAsking kt K ES j).run P w = .ok R w ∧ Found φ r R := by
  intro es
  induction es with
  | nil =>
    intro ES r h he j
    have : ES = [] := List.eq_nil_of_length_eq_zero (by have := he.len; simpa using this.symm)
    subst this
    simp only [findV, Option.some.injEq] at h
    subst h
    exact ⟨none, by simp [Instr.findAsking], rfl⟩
  | cons e es ih =>
    intro ES r h he j
    cases ES with
    | nil => have := he.len; simp at this
    | cons E ES =>
      obtain ⟨h1, h2, _⟩ := he.at_ 0 e E rfl rfl
      simp only [findV] at h
      cases hq : eqV P 20 kt k e.1 with
      | none => rw [hq] at h; cases h
      | some b =>
        have hrun := eqV_run φ 20 kt k e.1 b hq K E.key 10000 w hk h1 (by omega)
        have hrun : (Op.equal kt K E.key).run P w = .ok b w := hrun
        rw [hq] at h
        cases b with
        | true =>
          simp only [Option.some.injEq] at h
          subst h
          exact ⟨some (j, E.val), by simp [Instr.findAsking, hrun], _, _, rfl, h2⟩
        | false =>
          obtain ⟨R, hR, hF⟩ := ih h he.tail (j + 1)
          exact ⟨R, by simp [Instr.findAsking, hrun, hR], hF⟩
theorem findNow_run {φ : Phi} {kt : TypeId} {desc : TypeDesc} (hd : P.underlying kt = some desc) {k : V} {K : Value} (hk : VRel φ k K) : ∀ {es : List (V × V × Nat)} {ES : List MapEntry} {r : Option V}, findV P kt k es = some r → ERels φ es ES → ∀ j R,
    Instr.findNow desc K ES j = some R → Found φ r R := by
  intro es
  induction es with
  | nil =>
    intro ES r h he j R hR
    have : ES = [] := List.eq_nil_of_length_eq_zero (by have := he.len; simpa using this.symm)
    subst this
    simp only [findV, Option.some.injEq] at h
    subst h
    simp only [Instr.findNow, Option.some.injEq] at hR
    exact hR.symm
  | cons e es ih =>
    intro ES r h he j R hR
    cases ES with
    | nil => have := he.len; simp at this
    | cons E ES =>
      obtain ⟨h1, h2, _⟩ := he.at_ 0 e E rfl rfl
      simp only [findV] at h
      simp only [Instr.findNow] at hR
      cases hs : Instr.sameNow desc K E.key with
      | none => rw [hs] at hR; cases hR
      | some b' =>
        rw [hs] at hR
        cases hq : eqV P 20 kt k e.1 with
        | none => rw [hq] at h; cases h
        | some b =>
          obtain rfl := sameNow_eq hd hq hk h1 hs
          rw [hq] at h
          cases b with
          | true =>
            simp only [Option.some.injEq] at h hR
            subst h; subst hR
            exact ⟨_, _, rfl, h2⟩
          | false => exact ih h he.tail (j + 1) R hR
theorem findKey_run {φ : Phi} {kt : TypeId} {k : V} {K : Value} (hk : VRel φ k K) {es : List (V × V × Nat)} {ES : List MapEntry} {r : Option V} (h : findV P kt k es = some r) (he : ERels φ es ES) (hu : ∃ d, P.underlying kt = some d) (w : World) :
    ∃ R, (Instr.findKey kt K ES).run P w = .ok R w ∧ Found φ r R := by
  obtain ⟨d, hd⟩ := hu
  cases hn : Instr.findNow d K ES 0 with
  | some R => exact ⟨R, by simp [Instr.findKey, run_underlying hd, hn], findNow_run hd hk h he 0 R hn⟩
  | none =>
    obtain ⟨R, hR, hF⟩ := findAsking_run (P := P) hk w h he 0
    exact ⟨R, by simp [Instr.findKey, run_underlying hd, hn, hR], hF⟩
theorem keyOk_underlying {d : Nat} {t : TypeId} {v : V} (h : keyOk P (d + 1) t v = true) : ∃ k, P.underlying t = some k := by
  simp only [keyOk] at h
  cases hd : P.underlying t with
  | none => rw [hd] at h; cases h
  | some k => exact ⟨k, rfl⟩

theorem map_some {s : St} {r : Nat} {es : List (V × V × Nat)} {c : Nat} (h : s.map r = some (es, c)) : ∃ k, s.get r = some (.map k es c) := by
  unfold St.map at h
  split at h
  · simp only [Option.some.injEq, Prod.mk.injEq] at h
    obtain ⟨rfl, rfl⟩ := h
    exact ⟨_, by assumption⟩
  · cases h
theorem getObj_map {w : World} {r : Nat} {es : Array MapEntry} {clock : Nat} (hb : w.heap[r]? = some (.map es clock)) : (getObj r).run P w = .ok (.map es clock) w := by
  simp [getObj, Sem.run, hb]
theorem setObj_map {w : World} {r : Nat} {es : Array MapEntry} {clock : Nat} (o : Obj) (hb : w.heap[r]? = some (.map es clock)) : (setObj r o).run P w = .ok () { w with heap := w.heap.setIfInBounds r o } := by
  simp [setObj, Sem.run, hb]

theorem effOk_lookup (t : TypeId) (m k : Operand) (ok : Bool) : EffOk P (.lookup t m k ok) (eLookup P t m k ok) := by
  intro ρ s v s' h
  unfold eLookup at h
  split at h
  · rename_i kt et r kv e1 e2 e3
    cases hm : s.map r with
    | none => rw [hm] at h; cases h
    | some ec =>
      obtain ⟨es, c⟩ := ec
      rw [hm] at h
      simp only at h
      obtain ⟨hk, h⟩ := cond_some h
      obtain ⟨k0, hg⟩ := map_some hm
      have core : ∀ (φ : Phi) (w : World) (ρc : Operand → Value), Inv (fun n => s.get n) φ w ∨ True → True := fun _ _ _ _ => trivial
      cases hf : findV P kt kv es with
      | none => rw [hf] at h; cases h
      | some fr =>
        rw [hf] at h
        have hs : s' = s := by
          cases fr with
          | some x => simp only [Option.some.injEq, Prod.mk.injEq] at h; exact h.2.symm
          | none =>
            simp only at h
            cases hz : zeroT P et with
            | none => rw [hz] at h; cases h
            | some z => rw [hz] at h; simp only [Option.some.injEq, Prod.mk.injEq] at h; exact h.2.symm
        subst hs
        refine ⟨Mono.refl _, fun H φ w ρc oper ho e p => ?_⟩
        obtain ⟨l, hl, ES, hES, hlen, hat⟩ := p.inv.obj _ _ (p.sub _ _ hg)
        have hM := e m _ e2
        have hK := e k _ e3
        generalize hMv : ρc m = MV at hM
        cases hM
        rename_i l' hl'
        rw [hl] at hl'; injection hl' with hl'; subst hl'
        have he : ERels φ es ES.toList := ⟨by simpa using hlen, fun i x y hx hy => hat i x y hx (by simpa using hy)⟩
        obtain ⟨R, hR, hF⟩ := findKey_run (P := P) hK hf he (keyOk_underlying (d := 19) hk) w
        have hck := checkKey_run φ ES.isEmpty 20 kt kv hk (ρc k) 10000 w hK (by omega)
        have hob : (getObj l.blk).run P w = .ok (.map ES c) w := getObj_map hES
        cases fr with
        | some x =>
          simp only [Option.some.injEq, Prod.mk.injEq, and_true] at h
          obtain ⟨i, X, rfl, hX⟩ := hF
          refine ⟨.value (if ok then .tuple #[X, .bool true] else X), _, w, H, φ, ?_, .inl rfl, ?_, Post.refl p⟩
          · simp only [execOp, ho, hMv, Instr.lookup, Sem.run_bind, run_underlying e1, Result.andThen_ok, hob, hck, hR, Sem.run_pure]
          · subst h
            cases ok with
            | true => exact .tuple rfl (fun i x y hx hy => by
                have := (LRel.cons hX (LRel.cons (VRel.bool true) (LRel.nil φ))).at_ i x y hx (by simpa using hy)
                exact this)
            | false => exact hX
        | none =>
          simp only at h
          cases hF
          cases hz : zeroT P et with
          | none => rw [hz] at h; cases h
          | some z =>
            rw [hz] at h
            simp only [Option.some.injEq, Prod.mk.injEq, and_true] at h
            obtain ⟨Z, hZ, hZr⟩ := run_zeroValue hz
            refine ⟨.value (if ok then .tuple #[Z, .bool false] else Z), _, w, H, φ, ?_, .inl rfl, ?_, Post.refl p⟩
            · simp only [execOp, ho, hMv, Instr.lookup, Sem.run_bind, run_underlying e1, Result.andThen_ok, hob, hck, hR, hZ, Sem.run_pure]
            · subst h
              cases ok with
              | true => exact .tuple rfl (fun i x y hx hy => by
                  have := (LRel.cons (hZr φ) (LRel.cons (VRel.bool false) (LRel.nil φ))).at_ i x y hx (by simpa using hy)
                  exact this)
              | false => exact hZr φ
  · cases h

theorem updV_run {s s' : St} {t : TypeId} {m k v : V} (h : updV P s t m k v = some s') : Mono s s' ∧
    ∀ (H : Nat → Option O) (φ : Phi) (w : World), Pre s s' H φ w → ∀ (M K X : Value), VRel φ m M → VRel φ k K → VRel φ v X →
      ∃ w' H', (Instr.mapUpdate t M K X).run P w = .ok () w' ∧ Post s s' H φ w H' φ w' := by
  unfold updV at h
  split at h
  · rename_i kt et r e1
    cases hm : s.map r with
    | none => rw [hm] at h; cases h
    | some ec =>
      obtain ⟨es, c⟩ := ec
      rw [hm] at h
      simp only at h
      obtain ⟨hk, h⟩ := cond_some h
      obtain ⟨k0, hg⟩ := map_some hm
      cases hf : findV P kt k es with
      | none => rw [hf] at h; cases h
      | some fr =>
        rw [hf] at h
        cases fr with
        | some x => cases h
        | none =>
          simp only at h
          refine ⟨Mono.set h hg (fun _ => rfl), fun H φ w p M K X hM hK hX => ?_⟩
          obtain ⟨l, hl, ES, hES, hlen, hat⟩ := p.inv.obj _ _ (p.sub _ _ hg)
          cases hM
          rename_i l' hl'
          rw [hl] at hl'; injection hl' with hl'; subst hl'
          have he : ERels φ es ES.toList := ⟨by simpa using hlen, fun i x y hx hy => hat i x y hx (by simpa using hy)⟩
          obtain ⟨R, hR, hF⟩ := findKey_run (P := P) hK hf he (keyOk_underlying (d := 19) hk) w
          cases hF
          have hck := checkKey_run φ false 20 kt k hk K 10000 w hK (by omega)
          have hob : (getObj l.blk).run P w = .ok (.map ES c) w := getObj_map hES
          have hlt : l.blk < w.heap.size := (Array.getElem?_eq_some_iff.1 hES).1
          refine ⟨_, _, ?_, Post.store h p hg hl (w' := { w with heap := w.heap.setIfInBounds l.blk (.map (ES.push { key := K, val := X, born := c }) (c + 1)) }) (fun b hb => ?_) ?_ rfl rfl rfl ?_⟩
          · simp only [Instr.mapUpdate, Sem.run_bind, run_underlying e1, Result.andThen_ok, hob, hck, hR]
            exact setObj_map _ hES
          · simp [Ne.symm hb]
          · simp
          · refine ⟨ES.push { key := K, val := X, born := c }, by simp [hlt], by simp [hlen], fun i e E he' hE => ?_⟩
            rw [Array.getElem?_push] at hE
            by_cases hi : i < es.length
            · rw [List.getElem?_append_left hi] at he'
              rw [if_neg (by omega)] at hE
              exact hat i e E he' hE
            · have hi2 : i = es.length := by
                have := (List.getElem?_eq_some_iff.1 he').1
                simp at this; omega
              subst hi2
              simp only [List.getElem?_concat_length, Option.some.injEq] at he'
              rw [if_pos hlen] at hE
              injection hE with hE
              subst he'; subst hE
              exact ⟨hK, hX, rfl⟩
  · cases h
end
end Go.Ev
