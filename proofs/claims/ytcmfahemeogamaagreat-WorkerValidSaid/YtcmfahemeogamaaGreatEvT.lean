/- What reads one object; what acts. -/
import Derived.Test.YtcmfahemeogamaaGreatEvS
import Derived.Laws.BytesArg
namespace Go.Ev
section
variable {P : Program}

/-- What an operation that reads one object comes to. -/
def ReadOk (P : Program) (o : Op) (f : Env → Option Read) : Prop :=
  ∀ (ρ : Env) (b : Nat) (g : O → Option V), f ρ = some (b, g) → ∀ (φ : Phi) (ρc : Operand → Value) (oper : Oper) (w : World), oper.op = o → ERel φ ρ ρc →
    ∀ (ob : O) (v : V) (l : Loc), g ob = some v → φ b = some l → ORel φ ob l w.heap[l.blk]? → ∃ x, (execOp ρc oper).run P w = .ok (.value x) w ∧ VRel φ v x

/-- Cells of a row, as the world has them. -/
theorem row_cells {φ : Phi} {e : TypeId} {k : Nat} {cs : List V} {l : Loc} {w : World} (h : ORel φ (.row e k cs) l w.heap[l.blk]?) {o n : Nat} {r : List V} (ht : takeN n (drop o cs) = some r) :
    ∃ L : List Value, L.length = n ∧ LRel φ r L ∧ (∀ c ∈ r, c.one = true) ∧ ∀ j v, L[j]? = some v → w.cell? ((⟨l.blk, l.sh + o, none⟩ : Addr).add j) = some v := by
  obtain ⟨C, hC, h1, h2, h3, h4, h5⟩ := h
  obtain ⟨hn, rfl⟩ := takeN_some ht
  rw [drop_eq] at hn ⊢
  have hlen : (cs.drop o).length = cs.length - o := by simp
  refine ⟨(C.toList.drop (l.sh + o)).take n, ?_, ⟨?_, fun i x y hx hy => ?_⟩, fun c hc => h4 c (List.mem_of_mem_drop (List.mem_of_mem_take hc)), fun j v hv => ?_⟩
  · simp only [List.length_take, List.length_drop, Array.length_toList] at *; omega
  · simp only [List.length_take, List.length_drop, Array.length_toList] at *; omega
  · rw [List.getElem?_take] at hx hy
    split at hx
    · rename_i hi
      rw [if_pos hi, List.getElem?_drop, Array.getElem?_toList] at hy
      rw [List.getElem?_drop] at hx
      obtain ⟨y', hy', hv⟩ := h5 _ x hx
      rw [Nat.add_assoc] at hy
      rw [hy] at hy'
      injection hy' with hy'; subst hy'
      exact hv
    · cases hx
  · rw [List.getElem?_take] at hv
    split at hv
    · rw [List.getElem?_drop, Array.getElem?_toList] at hv
      rw [Addr.add_lit]
      simp [World.cell?, hC, hv]
    · cases hv
theorem run_loadCells_row {φ : Phi} {e : TypeId} {k : Nat} {cs : List V} {l : Loc} {w : World} (h : ORel φ (.row e k cs) l w.heap[l.blk]?) {o n : Nat} {r : List V} (ht : takeN n (drop o cs) = some r) :
    ∃ L : List Value, L.length = n ∧ LRel φ r L ∧ (∀ c ∈ r, c.one = true) ∧ (loadCells ⟨l.blk, l.sh + o, none⟩ n).run P w = .ok L.toArray w ∧ (∀ v ∈ L, v.oneCell' = true) := by
  obtain ⟨L, h1, h2, h3, h4⟩ := row_cells h ht
  refine ⟨L, h1, h2, h3, ?_, fun v hv => ?_⟩
  · rw [← h1]; exact run_loadCells_list w _ L h4
  · obtain ⟨i, hi, rfl⟩ := List.getElem_of_mem hv
    have hi' : i < r.length := by rw [h2.len]; exact hi
    have := h2.at_ i r[i] L[i] (List.getElem?_eq_getElem hi') (List.getElem?_eq_getElem hi)
    rw [this.one]
    exact h3 _ (List.getElem_mem hi')

theorem aggSize_agg {t : TypeId} {n : Nat} (h : aggSize P t = some (some n)) : isAggT P t = some true ∧ sizeT P t = some n := by
  unfold aggSize at h
  split at h
  · injection h with h; injection h with h; subst h; exact ⟨by assumption, by assumption⟩
  · simp at h
  · cases h
theorem aggSize_one {t : TypeId} (h : aggSize P t = some none) : isAggT P t = some false := by
  unfold aggSize at h
  split at h
  · simp at h
  · assumption
  · cases h
theorem load_run {t : TypeId} {φ : Phi} {w : World} {b o : Nat} {g : O → Option V} {ob : O} {v : V} {l : Loc}
    (hg : (match aggSize P t with | some (some n) => some (b, rAgg o n) | some none => some (b, rOne o) | none => none) = some (b, g)) (h : g ob = some v) (ho : ORel φ ob l w.heap[l.blk]?) :
    ∃ x, (loadVar t ⟨l.blk, l.sh + o, none⟩).run P w = .ok x w ∧ VRel φ v x := by
  cases hk : aggSize P t with
  | none => rw [hk] at hg; cases hg
  | some k =>
    rw [hk] at hg
    cases k with
    | some n =>
      simp only [Option.some.injEq, Prod.mk.injEq, true_and] at hg
      subst hg
      obtain ⟨ha, hs⟩ := aggSize_agg hk
      unfold rAgg at h
      cases ob <;> simp only [reduceCtorEq] at h
      rename_i e st cs
      cases ht : takeN n (drop o cs) with
      | none => rw [ht] at h; cases h
      | some r =>
        rw [ht] at h
        injection h with h; subst h
        obtain ⟨L, h1, h2, h3, h4, h5⟩ := run_loadCells_row (P := P) ho ht
        refine ⟨.agg L.toArray, ?_, .agg (by simpa using h2.len) h3 (fun i x y hx hy => h2.at_ i x y hx (by simpa using hy))⟩
        simp only [loadVar, Sem.run_bind, run_isAgg ha, Result.andThen_ok, if_true, run_sizeOf hs, h4, Sem.run_pure]
    | none =>
      simp only [Option.some.injEq, Prod.mk.injEq, true_and] at hg
      subst hg
      have ha := aggSize_one hk
      unfold rOne at h
      cases ob <;> simp only [reduceCtorEq] at h
      rename_i e st cs
      rw [nth_eq] at h
      obtain ⟨C, hC, h1, h2, h3, h4, h5⟩ := ho
      obtain ⟨y, hy, hv⟩ := h5 o v h
      refine ⟨y, ?_, hv⟩
      have hc : w.cell? ⟨l.blk, l.sh + o, none⟩ = some y := by simp [World.cell?, hC, hy]
      simp [loadVar, run_isAgg ha, hc]
theorem readOk_load (t : TypeId) (x : Operand) : ReadOk P (.load t x) (rLoad (aggSize P t) x) := by
  intro ρ b g h φ ρc oper w ho e ob v l hg hb hr
  unfold rLoad at h
  cases hx : ρ x with
  | none => rw [hx] at h; cases h
  | some y =>
    rw [hx] at h
    cases y <;> simp only [reduceCtorEq] at h
    rename_i b' o
    have hbb : b' = b := by
      cases hk : aggSize P t with
      | none => rw [hk] at h; cases h
      | some k => rw [hk] at h; cases k <;> (simp only [Option.some.injEq, Prod.mk.injEq] at h; exact h.1)
    subst hbb
    obtain ⟨z, hz, hzr⟩ := load_run h hg hr
    have hv := e x _ hx
    generalize hX : ρc x = X at hv
    cases hv
    rename_i l' hl'
    rw [hb] at hl'
    injection hl' with hl'; subst hl'
    exact ⟨z, by simp only [execOp, ho, hX, Instr.loadAt, Sem.run_bind, Instr.sureAddr, Sem.run_pure, Result.andThen_ok, hz], hzr⟩

theorem bytes_of {r : List V} {bs : List Nat} (h : mapO byteV r = some bs) {φ : Phi} {L : List Value} (hr : LRel φ r L) : L = (bs.map fun (b : Nat) => (b : Int)).map (Value.int .u8) ∧ (∀ b ∈ bs, b < 256) := by
  obtain ⟨h1, h2⟩ := mapO_some h
  have each : ∀ (i : Nat) (x : V) (b : Nat), r[i]? = some x → bs[i]? = some b → x = .int .u8 (b : Int) ∧ b < 256 := by
    intro i x b hx hb
    have := h2 i x b hx hb
    unfold byteV at this
    split at this
    · obtain ⟨hlt, h⟩ := cond_some this
      simp only [Option.some.injEq] at h
      subst h
      exact ⟨rfl, blt_iff.1 hlt⟩
    · cases this
  constructor
  · apply List.ext_getElem?
    intro i
    by_cases hi : i < bs.length
    · have hi' : i < r.length := by omega
      have hi'' : i < L.length := by rw [← hr.len]; exact hi'
      obtain ⟨e1, _⟩ := each i _ _ (List.getElem?_eq_getElem hi') (List.getElem?_eq_getElem hi)
      have := hr.at_ i _ _ (List.getElem?_eq_getElem hi') (List.getElem?_eq_getElem hi'')
      rw [e1] at this
      rw [List.getElem?_eq_getElem hi'', List.getElem?_map, List.getElem?_map, List.getElem?_eq_getElem hi]
      generalize L[i] = y at this
      cases this
      rfl
    · rw [List.getElem?_eq_none (by rw [← hr.len]; omega), List.getElem?_eq_none (by simp; omega)]
  · intro b hb
    obtain ⟨i, hi, rfl⟩ := List.getElem_of_mem hb
    exact (each i _ _ (List.getElem?_eq_getElem (by omega)) (List.getElem?_eq_getElem hi)).2
theorem isBytes_some {t : TypeId} (h : isBytes P t = true) : ∃ e, P.underlying t = some (.slice e) ∧ P.underlying e = some (.int .u8) := by
  unfold isBytes at h
  split at h
  · split at h
    · exact ⟨_, by assumption, by assumption⟩
    · cases h
  · cases h
theorem readOk_conv (t u : TypeId) (x : Operand) (hu : P.underlying u = some .string) : ReadOk P (.convert t u x) (rConv (isBytes P t) x) := by
  intro ρ b g h φ ρc oper w ho e ob v l hg hb hr
  unfold rConv at h
  cases hx : ρ x with
  | none => rw [hx] at h; cases h
  | some y =>
    rw [hx] at h
    cases y <;> simp only [reduceCtorEq] at h
    rename_i b' o len cap
    obtain ⟨hby, h⟩ := cond_some h
    simp only [Option.some.injEq, Prod.mk.injEq] at h
    obtain ⟨rfl, rfl⟩ := h
    obtain ⟨el, ht, he⟩ := isBytes_some hby
    unfold rStr at hg
    cases ob <;> simp only [reduceCtorEq] at hg
    rename_i e' st cs
    cases htk : takeN len (drop o cs) with
    | none => rw [htk] at hg; cases hg
    | some r =>
      rw [htk] at hg
      simp only at hg
      cases hm : mapO byteV r with
      | none => rw [hm] at hg; cases hg
      | some bs =>
        rw [hm] at hg
        injection hg with hg; subst hg
        have hv := e x _ hx
        generalize hX : ρc x = X at hv
        have key : ∀ (a : Addr) (c : Nat), X = .slice (some a) len c → len ≤ c → (c = 0 ∨ a = ⟨l.blk, l.sh + o, none⟩) → ∃ x, (execOp ρc oper).run P w = .ok (.value x) w ∧ VRel φ (.str bs) x := by
          intro a c hXe hc ha
          obtain ⟨L, h1, h2, h3, h4, _⟩ := run_loadCells_row (P := P) hr htk
          obtain ⟨hL, hlt⟩ := bytes_of hm h2
          have hload : (loadCells a len).run P w = .ok ((bs.map fun (b : Nat) => (b : Int)).map (Value.int .u8)).toArray w := by
            rcases ha with rfl | rfl
            · have h0 : len = 0 := by omega
              subst h0
              have hb0 : bs = [] := by
                have : L = [] := List.eq_nil_of_length_eq_zero h1
                rw [this] at hL
                cases bs with
                | nil => rfl
                | cons => simp at hL
              subst hb0
              rfl
            · rw [← hL]; exact h4
          have hrun := run_bytesToString (P := P) w a len c _ hload
          rw [foldl_push_bytes] at hrun
          refine ⟨.string (strOfNums (bs.map fun (b : Nat) => (b : Int))), ?_, ?_⟩
          · simp only [execOp, ho, hX, hXe, Sem.run_bind, run_convert_bytes_string w t u el _ len c ht he hu, hrun, Result.andThen_ok, Sem.run_pure]
            congr 3
            simp [strOfNums, ByteArray.empty, ByteArray.emptyWithCapacity]
            rfl
          · have : bs = (strOfNums (bs.map fun (b : Nat) => (b : Int))).toList.map UInt8.toNat := by
              rw [ByteArray.toList_eq, strOfNums_data]
              simp only [List.map_map]
              apply List.ext_getElem?
              intro i
              rw [List.getElem?_map]
              cases hi : bs[i]? with
              | none => rfl
              | some q =>
                have := hlt q (List.mem_of_getElem? hi)
                simp only [Option.map_some, Function.comp, Int.toNat_natCast, Option.some.injEq]
                exact (UInt8.toNat_ofNat_of_lt' this).symm
            have q := VRel.str (φ := φ) (strOfNums (bs.map fun (b : Nat) => (b : Int)))
            rw [← this] at q
            exact q
        cases hv with
        | sliceE hl hc ha => rw [hb] at hl; injection hl with hl; subst hl; exact key _ _ rfl hc ha
        | sliceO hl hc _ ha => rw [hb] at hl; injection hl with hl; subst hl; exact key _ _ rfl hc ha
end
end Go.Ev
