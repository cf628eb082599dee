/- append. -/
import Derived.Test.YtcmfahemeogamaaGreatEvV
namespace Go.Ev
section
variable {P : Program}

theorem LRel.one {φ : Phi} {r : List V} {L : List Value} (h : LRel φ r L) (h1 : ∀ c ∈ r, c.one = true) : ∀ v ∈ L, v.oneCell' = true := by
  intro v hv
  obtain ⟨i, hi, rfl⟩ := List.getElem_of_mem hv
  have hi' : i < r.length := by rw [h.len]; exact hi
  have := h.at_ i r[i] L[i] (List.getElem?_eq_getElem hi') (List.getElem?_eq_getElem hi)
  rw [this.one]
  exact h1 _ (List.getElem_mem hi')
theorem srcOk_kind {u : TypeId} {sz : Nat} {y : V} (h : srcOk P u sz y = true) : ((∃ l, y = .str l) ∧ P.underlying u = some .string ∧ sz = 1) ∨ (isSlice y = true ∧ ∃ e', P.underlying u = some (.slice e')) := by
  unfold srcOk at h
  split at h
  · split at h
    · exact .inr ⟨rfl, _, by assumption⟩
    · cases h
  · split at h
    · exact .inr ⟨rfl, _, by assumption⟩
    · cases h
  · split at h
    · exact .inl ⟨⟨_, rfl⟩, by assumption, beq_iff.1 h⟩
    · cases h
  · cases h
/-- What is appended, where it is something. -/
theorem src_some {s : St} {u : TypeId} {sz n : Nat} {y : V} {new : List V} (hs : srcOk P u sz y = true) (hl : lenV y = some n) (hn : n ≠ 0) (hf : firstV s sz n y = some new)
    {H : Nat → Option O} {φ : Phi} {w : World} {Y : Value} (hsub : ∀ n o, s.get n = some o → H n = some o) (hi : Inv H φ w) (hy : VRel φ y Y) :
    ∃ NEWS, Src P sz u Y n NEWS w ∧ LRel φ new NEWS ∧ (∀ c ∈ new, c.one = true) := by
  cases y <;> simp only [lenV, reduceCtorEq, Option.some.injEq] at hl
  · -- a string
    subst hl
    rcases srcOk_kind hs with ⟨_, hu, rfl⟩ | ⟨h, _⟩
    · obtain ⟨b, rfl, rfl⟩ := hy.str_inv
      have hlen : (b.toList.map UInt8.toNat).length = b.size := by rw [List.length_map, ByteArray.toList_eq, Array.length_toList]; rfl
      rw [hlen]
      have htk : takeN (b.toList.map UInt8.toNat).length (b.toList.map UInt8.toNat) = some (b.toList.map UInt8.toNat) := by
        generalize b.toList.map UInt8.toNat = l
        induction l with
        | nil => rfl
        | cons x l ih =>
          unfold takeN at ih ⊢
          simp only [List.length_cons, ih]
      simp only [firstV, htk, Option.some.injEq] at hf
      subst hf
      refine ⟨byteCells b, Src.ofString w hu b, ⟨by simp [byteCells, ByteArray.toList_eq], fun i x z hx hz => ?_⟩, by simp [V.one]⟩
      simp only [byteCells, List.getElem?_map, ByteArray.toList_eq] at hx hz
      cases hb : b.data.toList[i]? with
      | none => rw [hb] at hx; cases hx
      | some q =>
        rw [hb] at hx hz
        simp only [Option.map_some, Option.some.injEq] at hx hz
        subst hx; subst hz
        exact .int _ _
    · cases h
  · -- a slice
    rename_i b o len cap
    subst hl
    rcases srcOk_kind hs with ⟨⟨_, h⟩, _⟩ | ⟨_, e', hu⟩
    · cases h
    · simp only [firstV] at hf
      obtain ⟨e, k, cs, hg, ht⟩ := cells_some hf
      obtain ⟨l, hl, ho⟩ := hi.obj _ _ (hsub _ _ hg)
      obtain ⟨L, h1, h2, h3, h4⟩ := row_cells ho ht
      have key : ∀ (a : Addr) (c : Nat), a = ⟨l.blk, l.sh + o, none⟩ → Src P sz u (.slice (some a) len c) len L w := fun a c ha => by
        subst ha
        exact Src.ofSlice w hu _ len c L h1 h4 (h2.one h3)
      refine ⟨L, ?_, h2, h3⟩
      cases hy with
      | sliceE hl' hc ha => rw [hl] at hl'; injection hl' with hl'; subst hl'; exact key _ _ (by rcases ha with h0 | h; omega; exact h)
      | sliceO hl' hc _ ha => rw [hl] at hl'; injection hl' with hl'; subst hl'; exact key _ _ (by rcases ha with h0 | h; omega; exact h)
  · exact absurd hl.symm hn
theorem src_none {u : TypeId} {sz : Nat} {y : V} (hs : srcOk P u sz y = true) (hl : lenV y = some 0) {φ : Phi} {w : World} {Y : Value} (hy : VRel φ y Y) : Src P sz u Y 0 [] w := by
  have key : ∀ (a : Option Addr) (c : Nat), (∃ e', P.underlying u = some (.slice e')) → Src P sz u (.slice a 0 c) 0 [] w := by
    intro a c ⟨e', hu⟩
    cases a with
    | none => exact Src.ofNil w hu c
    | some a => exact Src.ofSlice w hu a 0 c [] (by simp) (fun j u h => by simp at h) (fun u h => by simp at h)
  cases y <;> simp only [lenV, reduceCtorEq, Option.some.injEq] at hl
  · rcases srcOk_kind hs with ⟨_, hu, rfl⟩ | ⟨h, _⟩
    · obtain ⟨b, rfl, rfl⟩ := hy.str_inv
      have hlen : (b.toList.map UInt8.toNat).length = b.size := by rw [List.length_map, ByteArray.toList_eq, Array.length_toList]; rfl
      have h0 : b.size = 0 := by omega
      have := Src.ofString w hu b
      have hb : byteCells b = [] := List.eq_nil_of_length_eq_zero (by rw [byteCells_length, h0])
      rw [h0, hb] at this
      exact this
    · cases h
  · subst hl
    rcases srcOk_kind hs with ⟨⟨_, h⟩, _⟩ | ⟨_, hu⟩
    · cases h
    · cases hy with
      | sliceE => exact key _ _ hu
      | sliceO => exact key _ _ hu
  · rcases srcOk_kind hs with ⟨⟨_, h⟩, _⟩ | ⟨_, hu⟩
    · cases h
    · cases hy; exact key _ _ hu

/-- What append is asked. -/
structure App (P : Program) (t e : TypeId) (i : TypeInfo) (Z : Value) : Prop where
  ht : P.underlying t = some (.slice e)
  hi : P.info? e = some i
  hz : i.zero = some Z
  hs : Z.cells.size = i.size

/-- A row that is too short: a new one. -/
theorem grow_run {s s' : St} {e : TypeId} {sz by_ need : Nat} {cs : List V} {v : V} (h : grow s e sz by_ need cs = some (v, s')) : Mono s s' ∧
    ∀ (H : Nat → Option O) (φ : Phi) (w : World) (t u ty : TypeId) (i : TypeInfo) (Z : Value), App P t e i Z → sz = i.size → by_ = i.bytes → Pre s s' H φ w →
    ∀ (base : Option Addr) (sLen sCap n : Nat) (olds news : List Value) (Y : Value), sLen + n = need → sCap < need → (Builtin.firstCells i.size sLen (.slice base sLen sCap)).run P w.drew = .ok olds.toArray w.drew →
      Src P i.size u Y n news w → LRel φ cs (olds ++ news) → (∀ c ∈ cs, c.one = true) → cs.length = need * sz →
      ∃ z w' H' φ', (Builtin.append_ #[t, u] ty #[.slice base sLen sCap, Y]).run P w = .ok z w' ∧ VRel φ' v z ∧ Post s s' H φ w H' φ' w' := by
  unfold grow at h
  obtain ⟨hb, h⟩ := cond_some h
  rw [Bool.and_eq_true] at hb
  have hb1 := ble_iff.1 hb.1
  have hb2 := ble_iff.1 hb.2
  cases hn : s.new fun k => .row e k cs with
  | none => rw [hn] at h; cases h
  | some ks =>
    obtain ⟨k, s₁⟩ := ks
    rw [hn] at h
    simp only [Option.some.injEq, Prod.mk.injEq] at h
    obtain ⟨rfl, rfl⟩ := h
    refine ⟨Mono.new hn (fun _ => rfl), fun H φ w t u ty i Z a hsz hby p base sLen sCap n olds news Y hneed hcap hold hsrc hrel h1 hlen => ?_⟩
    subst hsz; subst hby; subst hneed
    have hle := Nat.mul_le_mul_right i.bytes (nextslicecap_le hcap)
    have hrun := run_append_grow_src (P := P) w t u ty e i Z a.ht a.hi a.hz base sLen sCap olds hold Y n news hsrc hcap (by omega) (by
      have : 2 * (sLen + n) * i.bytes ≤ (2 * (sLen + n) + 200) * i.bytes := Nat.mul_le_mul_right _ (by omega)
      omega)
    have hge := grownCap_ge w (sLen + n) sCap e
    generalize grownCap w (sLen + n) sCap e = cap at hrun hge
    have hsize : ((olds ++ news).toArray ++ Builtin.zeroCells Z.cells (cap - (sLen + n))).size = cap * i.size := by
      simp only [Array.size_append, List.size_toArray, size_zeroCells, a.hs, ← hrel.len, hlen, ← Nat.add_mul]
      congr 1; omega
    refine ⟨_, _, _, _, hrun, ?_, Post.alloc (len := cs.length) (room := cap * i.size) hn p rfl rfl rfl rfl ?_⟩
    · have := VRel.sliceO (φ := upd φ k (some ⟨w.heap.size, 0, cs.length, cap * i.size⟩)) (n := k) (o := 0) (z := i.size) (a := ⟨w.heap.size, 0, none⟩) (upd_same _ _ _) hge (by simp) (.inr rfl)
      exact this
    · intro φ' hext
      refine ⟨_, rfl, by rw [hsize]; simp, rfl, ?_, h1, fun j x hx => ?_⟩
      · show cs.length ≤ cap * i.size
        rw [hlen]; exact Nat.mul_le_mul_right _ hge
      · obtain ⟨y, hy, hv⟩ := hrel.get hx
        refine ⟨y, ?_, hv.mono hext⟩
        have hj := (List.getElem?_eq_some_iff.1 hy).1
        rw [Nat.zero_add, Array.getElem?_append_left (by simpa using hj), List.getElem?_toArray]
        exact hy

/-- There is room in the row. -/
theorem room_run {s s' : St} {b o : Nat} {new : List V} (h : s.store b o new = some s') {H : Nat → Option O} {φ : Phi} {w : World} {t u ty e : TypeId} {i : TypeInfo} {Z : Value} (a : App P t e i Z) (p : Pre s s' H φ w)
    {l : Loc} (hl : φ b = some l) {off len n c : Nat} (ho : o = off + len * i.size) {news : List Value} {Y : Value} (hsrc : Src P i.size u Y n news w) (hrel : LRel φ new news) (h1 : ∀ c ∈ new, c.one = true) (hc : len + n ≤ c) :
    ∃ w' H', (Builtin.append_ #[t, u] ty #[.slice (some ⟨l.blk, l.sh + off, none⟩) len c, Y]).run P w = .ok (.slice (some ⟨l.blk, l.sh + off, none⟩) (len + n) c) w' ∧ Post s s' H φ w H' φ w' := by
  obtain ⟨_, hst⟩ := store_run h
  obtain ⟨C, e0, H', hC, hle, hpost⟩ := hst H φ w news l p hl hrel h1
  subst ho
  have hrun := run_append_room_src (P := P) w t u ty e i a.ht a.hi l.blk (l.sh + off) len c Y n news hsrc hc
    (fun j hj => by
      have : l.sh + off + len * i.size + j < C.size := by omega
      simp [World.cell?, hC, this])
    (fun j hj => by simp [World.frozen?, hC])
  rw [setCells_eq_setRow l.blk e0 news _ C w hC (by omega)] at hrun
  rw [← Nat.add_assoc] at hpost
  exact ⟨_, _, hrun, hpost⟩
end
end Go.Ev
