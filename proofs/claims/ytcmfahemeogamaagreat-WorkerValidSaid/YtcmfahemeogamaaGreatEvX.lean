/- append, all of it. -/
import Derived.Test.YtcmfahemeogamaaGreatEvW
namespace Go.Ev
section
variable {P : Program}

theorem appendE_run {s s' : St} {e : TypeId} {sz by_ c b o len n : Nat} {new : List V} {v : V} (h : appendE s e sz by_ c b o len n new = some (v, s')) (hn0 : n ≠ 0) : Mono s s' ∧
    ∀ (H : Nat → Option O) (φ : Phi) (w : World) (t u ty : TypeId) (i : TypeInfo) (Z : Value), App P t e i Z → sz = i.size → by_ = i.bytes → Pre s s' H φ w →
    ∀ (X Y : Value) (news : List Value), VRel φ (.slice b o len (.exact c)) X → Src P i.size u Y n news w → LRel φ new news → (∀ c ∈ new, c.one = true) →
      ∃ z w' H' φ', (Builtin.append_ #[t, u] ty #[X, Y]).run P w = .ok z w' ∧ VRel φ' v z ∧ Post s s' H φ w H' φ' w' := by
  unfold appendE at h
  cases hb : Nat.ble (len + n) c with
  | true =>
    rw [hb] at h
    simp only [cond_true] at h
    cases hst : s.store b (o + len * sz) new with
    | none => rw [hst] at h; cases h
    | some s₁ =>
      rw [hst] at h
      simp only [Option.some.injEq, Prod.mk.injEq] at h
      obtain ⟨rfl, rfl⟩ := h
      refine ⟨(store_run hst).1, fun H φ w t u ty i Z a hsz hby p X Y news hX hsrc hrel h1 => ?_⟩
      subst hsz
      cases hX with
      | sliceE hl hc ha =>
        have hle := ble_iff.1 hb
        rcases ha with h0 | rfl
        · omega
        · obtain ⟨w', H', hrun, hpost⟩ := room_run (ty := ty) hst a p hl rfl hsrc hrel h1 hle
          exact ⟨_, _, _, _, hrun, .sliceE hl hle (.inr rfl), hpost⟩
  | false =>
    rw [hb] at h
    simp only [cond_false] at h
    cases hce : s.cells b o (len * sz) with
    | none => rw [hce] at h; cases h
    | some old =>
      rw [hce] at h
      simp only at h
      obtain ⟨hm, hg⟩ := grow_run (P := P) h
      refine ⟨hm, fun H φ w t u ty i Z a hsz hby p X Y news hX hsrc hrel h1 => ?_⟩
      subst hsz
      have hlt : c < len + n := by
        have : ¬ (len + n ≤ c) := fun hle => by rw [ble_iff.2 hle] at hb; cases hb
        omega
      obtain ⟨e0, k, cs, hgt, htk⟩ := cells_some hce
      obtain ⟨l, hl, ho⟩ := p.inv.obj _ _ (p.sub _ _ hgt)
      cases hX with
      | sliceE hl' hc ha =>
        rw [hl] at hl'; injection hl' with hl'; subst hl'
        obtain ⟨L, g1, g2, g3, g4⟩ := row_cells (w := w.drew) ho htk
        refine hg H φ w t u ty i Z a rfl hby p (some _) len c n L news Y rfl hlt ?_ hsrc (g2.append hrel) ?_ ?_
        · rcases ha with h0 | rfl
          · subst h0
            have h0 : len = 0 := by omega
            subst h0
            have : L = [] := List.eq_nil_of_length_eq_zero (by omega)
            subst this
            exact run_firstCells_some w.drew i.size 0 _ 0 _ [] (by simp) (fun j v h => by simp at h)
          · exact run_firstCells_some w.drew i.size len _ len c L g1 g4
        · intro x hx
          rcases List.mem_append.1 hx with hx | hx
          · exact g3 x hx
          · exact h1 x hx
        · rw [List.length_append, g2.len, g1, hrel.len, hsrc.newsLen, Nat.add_mul]

theorem appendO_run {s s' : St} {e : TypeId} {sz by_ z b o len n : Nat} {new : List V} {v : V} (h : appendO s e sz by_ z b o len n new = some (v, s')) (hn0 : n ≠ 0) : Mono s s' ∧
    ∀ (H : Nat → Option O) (φ : Phi) (w : World) (t u ty : TypeId) (i : TypeInfo) (Z : Value), App P t e i Z → sz = i.size → by_ = i.bytes → Pre s s' H φ w →
    ∀ (X Y : Value) (news : List Value), VRel φ (.slice b o len (.open_ z)) X → Src P i.size u Y n news w → LRel φ new news → (∀ c ∈ new, c.one = true) →
      ∃ z w' H' φ', (Builtin.append_ #[t, u] ty #[X, Y]).run P w = .ok z w' ∧ VRel φ' v z ∧ Post s s' H φ w H' φ' w' := by
  unfold appendO at h
  cases hr : s.row b with
  | none => rw [hr] at h; cases h
  | some ec =>
    obtain ⟨e', cs⟩ := ec
    rw [hr] at h
    simp only at h
    obtain ⟨hb, h⟩ := cond_some h
    simp only [Bool.and_eq_true] at hb
    obtain ⟨⟨he, hz⟩, hsz0⟩ := hb
    obtain rfl := beq_iff.1 he
    obtain rfl := beq_iff.1 hz
    have hpos : 0 < z := by
      rcases Nat.eq_zero_or_pos z with h0 | h0
      · subst h0; simp at hsz0
      · exact h0
    obtain ⟨k0, hgt⟩ := row_some hr
    cases hb : Nat.ble (o + (len + n) * z) cs.length with
    | true =>
      rw [hb] at h
      simp only [cond_true] at h
      have hfit := ble_iff.1 hb
      cases hst : s.store b (o + len * z) new with
      | none => rw [hst] at h; cases h
      | some s₁ =>
        rw [hst] at h
        simp only [Option.some.injEq, Prod.mk.injEq] at h
        obtain ⟨rfl, rfl⟩ := h
        refine ⟨(store_run hst).1, fun H φ w t u ty i Z a hsz hby p X Y news hX hsrc hrel h1 => ?_⟩
        subst hsz
        obtain ⟨l, hl, ho⟩ := p.inv.obj _ _ (p.sub _ _ hgt)
        obtain ⟨C, hC, g1, g2, g3, g4, g5⟩ := ho
        cases hX with
        | sliceO hl' hc hroom ha =>
          rename_i c
          rw [hl] at hl'; injection hl' with hl'; subst hl'
          have hle : len + n ≤ c := by
            have : (len + n) * i.size ≤ c * i.size := by omega
            exact Nat.le_of_mul_le_mul_right this hpos
          rcases ha with h0 | rfl
          · omega
          · obtain ⟨w', H', hrun, hpost⟩ := room_run (ty := ty) hst a p hl rfl hsrc hrel h1 hle
            exact ⟨_, _, _, _, hrun, .sliceO hl hle hroom (.inr rfl), hpost⟩
    | false =>
      rw [hb] at h
      simp only [cond_false] at h
      obtain ⟨hat, h⟩ := cond_some h
      have hat := beq_iff.1 hat
      cases htk : takeN (len * z) (drop o cs) with
      | none => rw [htk] at h; cases h
      | some old =>
        cases hk : s.kill b with
        | none => rw [htk, hk] at h; cases h
        | some s₁ =>
          rw [htk, hk] at h
          simp only at h
          obtain ⟨hm1, hg⟩ := grow_run (P := P) h
          have hm := Mono.trans (Mono.kill hk) hm1
          refine ⟨hm, fun H φ w t u ty i Z a hsz hby p X Y news hX hsrc hrel h1 => ?_⟩
          subst hsz
          obtain ⟨l, hl, ho⟩ := p.inv.obj _ _ (p.sub _ _ hgt)
          have ho' := ho
          obtain ⟨C, hC, g1, g2, g3, g4, g5⟩ := ho
          obtain ⟨L, q1, q2, q3, q4⟩ := row_cells (w := w.drew) ho' htk
          have hlen : (old ++ new).length = (len + n) * i.size := by rw [List.length_append, q2.len, q1, hrel.len, hsrc.newsLen, Nat.add_mul]
          have hone : ∀ x ∈ old ++ new, x.one = true := by
            intro x hx
            rcases List.mem_append.1 hx with hx | hx
            · exact q3 x hx
            · exact h1 x hx
          cases hX with
          | sliceO hl' hc hroom ha =>
            rename_i adr c
            rw [hl] at hl'; injection hl' with hl'; subst hl'
            by_cases hle : len + n ≤ c
            · -- there is room behind the row
              rcases ha with h0 | rfl
              · omega
              · have hmul : (len + n) * i.size ≤ c * i.size := Nat.mul_le_mul_right _ hle
                have hnl := hsrc.newsLen
                rw [Nat.add_mul] at hmul
                have hin : l.sh + o + len * i.size + news.length ≤ C.size := by omega
                have hrun := run_append_room_src (P := P) w t u ty e' i a.ht a.hi l.blk (l.sh + o) len c Y n news hsrc hle
                  (fun j hj => by
                    have : l.sh + o + len * i.size + j < C.size := by omega
                    simp [World.cell?, hC, this])
                  (fun j hj => by simp [World.frozen?, hC])
                rw [setCells_eq_setRow l.blk e' news _ C w hC hin] at hrun
                unfold grow at h
                obtain ⟨_, h⟩ := cond_some h
                cases hn : s₁.new fun k => .row e' k (old ++ new) with
                | none => rw [hn] at h; cases h
                | some ks =>
                  obtain ⟨k, s₂⟩ := ks
                  rw [hn] at h
                  simp only [Option.some.injEq, Prod.mk.injEq] at h
                  obtain ⟨rfl, rfl⟩ := h
                  obtain ⟨hext, hks, hpost⟩ := Post.regrow (sh := l.sh + o) (len := (old ++ new).length) (room := l.room - o) hk hn p hgt hl (w' := w.setRow l.blk (C.toList.take (l.sh + o + len * i.size) ++ news ++ C.toList.drop (l.sh + o + len * i.size + news.length)).toArray)
                    (fun c hc => setRow_other w _ c _ hc) (setRow_size _ _ _) rfl rfl rfl (fun φ' hx => by
                      rw [setRow_heap w _ C _ e' _ hC]
                      refine ⟨_, rfl, ?_, rfl, ?_, hone, fun j x hj => ?_⟩
                      · simp only [List.size_toArray, List.length_append, List.length_take, List.length_drop, Array.length_toList]; omega
                      · show (old ++ new).length ≤ l.room - o
                        rw [hlen, Nat.add_mul]; omega
                      · simp only [List.getElem?_toArray]
                        have hol : old.length = len * i.size := by rw [q2.len, q1]
                        by_cases hjl : j < old.length
                        · rw [List.getElem?_append_left hjl] at hj
                          obtain ⟨_, rfl⟩ := takeN_some htk
                          rw [drop_eq, List.getElem?_take] at hj
                          split at hj
                          · rw [List.getElem?_drop] at hj
                            obtain ⟨y, hy, hv⟩ := g5 _ x hj
                            refine ⟨y, ?_, hv.mono hx⟩
                            rw [List.append_assoc, List.getElem?_append_left (by simp only [List.length_take, Array.length_toList]; omega), List.getElem?_take, if_pos (by omega), Array.getElem?_toList, Nat.add_assoc]
                            exact hy
                          · cases hj
                        · rw [List.getElem?_append_right (by omega)] at hj
                          obtain ⟨y, hy, hv⟩ := hrel.get hj
                          have hjn := (List.getElem?_eq_some_iff.1 hy).1
                          refine ⟨y, ?_, hv.mono hx⟩
                          have e2 : min (l.sh + o + len * i.size) C.size = l.sh + o + len * i.size := by omega
                          rw [List.append_assoc, List.getElem?_append_right (by simp only [List.length_take, Array.length_toList]; omega)]
                          simp only [List.length_take, Array.length_toList, e2]
                          rw [show l.sh + o + j - (l.sh + o + len * i.size) = j - old.length by omega, List.getElem?_append_left hjn]
                          exact hy)
                  refine ⟨_, _, _, _, hrun, ?_, hpost⟩
                  exact .sliceO (l := ⟨l.blk, l.sh + o, (old ++ new).length, l.room - o⟩) hks hle (by show 0 + c * i.size = l.room - o; omega) (.inr rfl)
            · -- there is none
              have hp1 : Post s s₁ H φ w H φ w := Post.same (p.left hm1) (fun m q h => by
                obtain ⟨_, _, _, hg⟩ := St.kill_spec hk
                rw [hg] at h
                split at h
                · cases h
                · exact h) rfl rfl rfl rfl
              have p1 := p.right (Mono.kill hk) hp1
              obtain ⟨zz, w', H', φ', hrun, hv, hpost⟩ := hg H φ w t u ty i Z a rfl hby p1 (some adr) len c n L news Y rfl (by omega) (by
                rcases ha with h0 | rfl
                · subst h0
                  have h0 : len = 0 := by omega
                  subst h0
                  have : L = [] := List.eq_nil_of_length_eq_zero (by omega)
                  subst this
                  exact run_firstCells_some w.drew i.size 0 _ 0 _ [] (by simp) (fun j v h => by simp at h)
                · exact run_firstCells_some w.drew i.size len _ len c L q1 q4) hsrc (q2.append hrel) hone hlen
              exact ⟨zz, w', H', φ', hrun, hv, hp1.trans (Mono.kill hk) hm1 hpost⟩

theorem appendX_run {s s' : St} {e : TypeId} {sz by_ n : Nat} {new : List V} {x v : V} (h : appendX s e sz by_ x n new = some (v, s')) (hn0 : n ≠ 0) : Mono s s' ∧
    ∀ (H : Nat → Option O) (φ : Phi) (w : World) (t u ty : TypeId) (i : TypeInfo) (Z : Value), App P t e i Z → sz = i.size → by_ = i.bytes → Pre s s' H φ w →
    ∀ (X Y : Value) (news : List Value), VRel φ x X → Src P i.size u Y n news w → LRel φ new news → (∀ c ∈ new, c.one = true) →
      ∃ z w' H' φ', (Builtin.append_ #[t, u] ty #[X, Y]).run P w = .ok z w' ∧ VRel φ' v z ∧ Post s s' H φ w H' φ' w' := by
  unfold appendX at h
  cases x <;> simp only [reduceCtorEq] at h
  · rename_i b o len cap
    cases cap with
    | exact c => exact appendE_run h hn0
    | open_ z => exact appendO_run h hn0
  · obtain ⟨hm, hg⟩ := grow_run (P := P) h
    refine ⟨hm, fun H φ w t u ty i Z a hsz hby p X Y news hX hsrc hrel h1 => ?_⟩
    cases hX
    refine hg H φ w t u ty i Z a hsz hby p none 0 0 n [] news Y (by omega) (by omega) (run_firstCells_none w.drew _ _ _ _) hsrc hrel h1 ?_
    rw [hrel.len, hsrc.newsLen, hsz]

theorem appendV_run {s s' : St} {t u : TypeId} {x y v : V} (h : appendV P s t u x y = some (v, s')) : Mono s s' ∧
    ∀ (H : Nat → Option O) (φ : Phi) (w : World) (ty : TypeId), Pre s s' H φ w → ∀ (X Y : Value), VRel φ x X → VRel φ y Y →
      ∃ z w' H' φ', (Builtin.append_ #[t, u] ty #[X, Y]).run P w = .ok z w' ∧ VRel φ' v z ∧ Post s s' H φ w H' φ' w' := by
  unfold appendV at h
  cases hse : sliceElem P t with
  | none => rw [hse] at h; cases h
  | some e =>
    cases hl : lenV y with
    | none => rw [hse, hl] at h; cases h
    | some n =>
      rw [hse, hl] at h
      simp only at h
      cases hzr : zeroRow P e 0 with
      | none => rw [hzr] at h; cases h
      | some nz =>
        obtain ⟨sz, zs⟩ := nz
        obtain ⟨i, z, zc, hi, hsz, hz, hzc, hzl, _, _, _, _⟩ := zeroRow_some hzr
        have hby : bytesT P e = some i.bytes := by simp [bytesT, hi]
        rw [hzr, hby] at h
        simp only at h
        obtain ⟨hsrc, h⟩ := cond_some h
        obtain ⟨i', Z, hi', hZ, hZv⟩ := zeroT_some hz
        rw [hi] at hi'; injection hi' with hi'; subst hi'
        have happ : App P t e i Z := ⟨sliceElem_some hse, hi, hZ, by
          have := ((ofValue_rel hZv (fun _ => none)).cells hzc).1.len
          simp at this; omega⟩
        cases hn0 : Nat.beq n 0 with
        | true =>
          rw [hn0] at h
          simp only [cond_true] at h
          obtain ⟨hxs, h⟩ := cond_some h
          simp only [Option.some.injEq, Prod.mk.injEq] at h
          obtain ⟨rfl, rfl⟩ := h
          refine ⟨Mono.refl _, fun H φ w ty p X Y hX hY => ?_⟩
          obtain rfl := beq_iff.1 hn0
          subst hsz
          have hs0 := src_none (P := P) (w := w) hsrc hl hY
          have key : ∀ (base : Option Addr) (len cap : Nat), len ≤ cap → X = .slice base len cap → ∃ z w' H' φ', (Builtin.append_ #[t, u] ty #[X, Y]).run P w = .ok z w' ∧ VRel φ' x z ∧ Post s s H φ w H' φ' w' := by
            intro base len cap hle hXe
            have hrun := run_append_nothing (P := P) w t u ty e i happ.ht hi base len cap hle Y hs0
            rw [← hXe] at hrun
            exact ⟨_, _, _, _, hrun, hX, Post.refl p⟩
          cases hX with
          | sliceE _ hc _ => exact key _ _ _ hc rfl
          | sliceO _ hc _ _ => exact key _ _ _ hc rfl
          | nilslice => exact key _ _ _ (Nat.le_refl _) rfl
          | _ => cases hxs
        | false =>
          rw [hn0] at h
          simp only [cond_false] at h
          have hn0' : n ≠ 0 := fun e => by subst e; simp at hn0
          cases hf : firstV s sz n y with
          | none => rw [hf] at h; cases h
          | some new =>
            rw [hf] at h
            simp only at h
            obtain ⟨hm, hrun⟩ := appendX_run (P := P) h hn0'
            refine ⟨hm, fun H φ w ty p X Y hX hY => ?_⟩
            obtain ⟨news, k1, k2, k3⟩ := src_some (P := P) hsrc hl hn0' hf p.sub p.inv hY
            subst hsz
            exact hrun H φ w t u ty i Z happ rfl rfl p X Y news hX k1 k2 k3

theorem effOk_append (c : Call) (t u : TypeId) (hc : c.callee = .builtin .append) (ht : c.argTypes.toList = [t, u]) : EffOk P (.call c) (eAppend P t u c.args.toList) := by
  intro ρ s v s' h
  unfold eAppend at h
  cases hl : mapO ρ c.args.toList with
  | none => rw [hl] at h; cases h
  | some l =>
    rw [hl] at h
    split at h
    · rename_i x y e
      injection e with e
      subst e
      obtain ⟨hm, hrun⟩ := appendV_run h
      refine ⟨hm, fun H φ w ρc oper ho e p => ?_⟩
      have hr := mapO_rel e hl
      obtain ⟨consts, hb⟩ := run_builtin (P := P) (ρc := ρc) ho hc w
      have hargs : ∃ X Y, c.args.map ρc = #[X, Y] ∧ VRel φ x X ∧ VRel φ y Y := by
        have hlen := hr.len
        cases hL : c.args.toList.map ρc with
        | nil => rw [hL] at hlen; simp at hlen
        | cons X L =>
          cases L with
          | nil => rw [hL] at hlen; simp at hlen
          | cons Y L =>
            cases L with
            | cons => rw [hL] at hlen; simp at hlen
            | nil =>
              rw [hL] at hr
              refine ⟨X, Y, Array.ext' (by rw [Array.toList_map, hL]), hr.at_ 0 x X rfl rfl, hr.at_ 1 y Y rfl rfl⟩
      obtain ⟨X, Y, hXY, hX, hY⟩ := hargs
      have hta : c.argTypes = #[t, u] := Array.ext' (by rw [ht])
      obtain ⟨z, w', H', φ', hz, hv, hpost⟩ := hrun H φ w oper.type p X Y hX hY
      refine ⟨.value z, z, w', H', φ', ?_, .inl rfl, hv, hpost⟩
      rw [hb, hXY, hta]
      simp only [builtin, Sem.run_bind, hz, Result.andThen_ok, Sem.run_pure]
    · cases h
end
end Go.Ev
