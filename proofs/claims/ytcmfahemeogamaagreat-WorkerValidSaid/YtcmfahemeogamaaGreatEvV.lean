/- What acts: makeSlice, append. -/
import Derived.Test.YtcmfahemeogamaaGreatEvU
import Derived.Deep.Upon
import Derived.Laws.MakeOwn
namespace Go.Ev
section
variable {P : Program}

/-- An object in the block of another one that goes. -/
theorem Post.regrow {s s₁ s' : St} {H : Nat → Option O} {φ : Phi} {w w' : World} {b k : Nat} {f : Nat → O} {o : O} {l : Loc} {sh len room : Nat}
    (hk : s.kill b = some s₁) (hn : s₁.new f = some (k, s')) (p : Pre s s' H φ w) (ho₀ : s.get b = some o) (hl : φ b = some l)
    (hold : ∀ c, c ≠ l.blk → w'.heap[c]? = w.heap[c]?) (hz : w'.heap.size = w.heap.size) (ho : w'.os = w.os) (ht : w'.tape = w.tape) (hp : w'.output = w.output)
    (hX : ∀ φ', Ext φ φ' → ORel φ' (f s₁.clk) ⟨l.blk, sh, len, room⟩ w'.heap[l.blk]?) :
    Ext φ (upd φ k (some ⟨l.blk, sh, len, room⟩)) ∧ upd φ k (some ⟨l.blk, sh, len, room⟩) k = some ⟨l.blk, sh, len, room⟩ ∧
    Post s s' H φ w (upd (upd H b none) k (some (f s₁.clk))) (upd φ k (some ⟨l.blk, sh, len, room⟩)) w' := by
  obtain ⟨hlt, hc1, hk1, hg1⟩ := St.kill_spec hk
  obtain ⟨rfl, hc, _, hg⟩ := St.new_spec hn
  rw [hc1] at hc
  simp only [hc1] at hg ⊢
  have hfr : φ s.ctr = none := p.fresh _ (Nat.le_refl _) (by omega)
  have hext : Ext φ (upd φ s.ctr (some ⟨l.blk, sh, len, room⟩)) := by
    intro m q hq
    rw [upd_other _ _ _ (fun e => by subst e; rw [hfr] at hq; cases hq)]
    exact hq
  have hHb : (H b).isSome = true := by rw [p.sub b o ho₀]; rfl
  refine ⟨hext, upd_same _ _ _, fun m q h => ?_, ⟨fun m q h => ?_, fun m m' q r h1 h2 hq hr hne => ?_, fun m q hq => ?_⟩, fun m hm => ?_, fun m hm hd => ?_, ho, ht, hp, by omega, fun c hc hf => hold c (fun e => hf b l hl e.symm), fun m q hq => ?_⟩
  · rw [hg] at h
    unfold upd
    split at h
    · rename_i e; rw [if_pos e]; exact h
    · rename_i e; rw [if_neg e]
      rw [hg1] at h
      split at h
      · cases h
      · rename_i e'; rw [if_neg e']; exact p.sub m q h
  · by_cases e : m = s.ctr
    · subst e
      rw [upd_same] at h
      injection h with h; subst h
      exact ⟨_, upd_same _ _ _, hX _ hext⟩
    · rw [upd_other _ _ _ e] at h
      by_cases e' : m = b
      · subst e'; rw [upd_same] at h; cases h
      · rw [upd_other _ _ _ e'] at h
        obtain ⟨r, hr, ho⟩ := p.inv.obj m q h
        refine ⟨r, hext _ _ hr, ?_⟩
        rw [hold _ (p.inv.inj m b r l (by rw [h]; rfl) hHb hr hl e')]
        exact ho.mono hext
  · by_cases e : m = s.ctr
    · by_cases e' : m' = s.ctr
      · exact absurd (e.trans e'.symm) hne
      · subst e
        rw [upd_same] at hq; rw [upd_other _ _ _ e'] at hr h2
        injection hq with hq; subst hq
        have hb : m' ≠ b := fun e => by subst e; rw [upd_same] at h2; cases h2
        rw [upd_other _ _ _ hb] at h2
        exact fun e => p.inv.inj m' b r l h2 hHb hr hl hb e.symm
    · rw [upd_other _ _ _ e] at hq h1
      have hb : m ≠ b := fun e => by subst e; rw [upd_same] at h1; cases h1
      rw [upd_other _ _ _ hb] at h1
      by_cases e' : m' = s.ctr
      · subst e'
        rw [upd_same] at hr
        injection hr with hr; subst hr
        exact fun e => p.inv.inj m b q l h1 hHb hq hl hb e
      · rw [upd_other _ _ _ e'] at hr h2
        have hb' : m' ≠ b := fun e => by subst e; rw [upd_same] at h2; cases h2
        rw [upd_other _ _ _ hb'] at h2
        exact p.inv.inj m m' q r h1 h2 hq hr hne
  · by_cases e : m = s.ctr
    · subst e
      rw [upd_same] at hq
      injection hq with hq; subst hq
      have := p.inv.in_ b l hl
      show l.blk < _
      omega
    · rw [upd_other _ _ _ e] at hq
      have := p.inv.in_ m q hq
      omega
  · exact upd_other _ _ _ (by omega)
  · rw [upd_other _ _ _ (by omega)]
    exact upd_other _ _ _ (fun e => by subst e; rw [hd] at ho₀; cases ho₀)
  · by_cases e : m = s.ctr
    · subst e
      rw [upd_same] at hq
      injection hq with hq; subst hq
      exact .inl ⟨b, l, hl, rfl⟩
    · rw [upd_other _ _ _ e] at hq
      exact .inl ⟨m, q, hq, rfl⟩

theorem effOk_make (t : TypeId) (l c : Operand) : EffOk P (.makeSlice t l c) (eMake P (sliceElem P t) l c) := by
  intro ρ s v s' h
  unfold eMake at h
  cases hse : sliceElem P t with
  | none => rw [hse] at h; cases h
  | some el =>
    cases hl : ρ l with
    | none => rw [hse, hl] at h; cases h
    | some lv =>
      cases hc : ρ c with
      | none => rw [hse, hl, hc] at h; simp only [reduceCtorEq] at h
      | some cv =>
        rw [hse, hl, hc] at h
        split at h
        · rename_i el' k1 l' k2 c' e1 e2 e3
          injection e1 with e1; subst e1
          injection e2 with e2; subst e2
          injection e3 with e3; subst e3
          obtain ⟨hle, h⟩ := cond_some h
          have hle := ble_iff.1 hle
          cases hzr : zeroRow P el c' with
          | none => rw [hzr] at h; cases h
          | some nz =>
            obtain ⟨n, zs⟩ := nz
            rw [hzr] at h
            simp only at h
            cases hn : s.new fun k => .row el k zs with
            | none => rw [hn] at h; cases h
            | some ks =>
              obtain ⟨k, s₁⟩ := ks
              rw [hn] at h
              simp only [Option.some.injEq, Prod.mk.injEq] at h
              obtain ⟨rfl, rfl⟩ := h
              refine ⟨Mono.new hn (fun _ => rfl), fun H φ w ρc oper ho e p => ?_⟩
              obtain ⟨i, z, zc, hi, rfl, hz, hzc, hzl, rfl, hb1, hb2, hb3⟩ := zeroRow_some hzr
              obtain ⟨i', Z, hi', hZ, hZv⟩ := zeroT_some hz
              rw [hi] at hi'; injection hi' with hi'; subst hi'
              obtain ⟨hr, h1⟩ := (ofValue_rel hZv φ).cells hzc
              have hzeros := zeros_rel hr i.size hzl c'
              have hue := sliceElem_some hse
              have hlv := e l _ hl
              have hcv := e c _ hc
              generalize hL : ρc l = L at hlv
              generalize hC : ρc c = C at hcv
              cases hlv; cases hcv
              have hrun := run_makeSlice (P := P) w t el i Z hue hi hZ k1 k2 (l' : Int) (c' : Int) (by omega) (by omega) (by simp; omega)
                (by have : (i.bytes : Int) * (c' : Int) = ((i.bytes * c' : Nat) : Int) := by simp
                    rw [this]; omega) (by omega)
              simp only [Int.toNat_natCast] at hrun
              have hrun' : (execOp ρc oper).run P w = .ok (.value (.slice (some ⟨w.heap.size, 0, none⟩) l' c')) (w.alloc (.cells ((Array.range (c' * i.size)).map (Z.cells[· % Z.cells.size]!)) el)) := by
                simp only [execOp, ho, hL, hC, Sem.run_bind, Int.ofNat_eq_natCast, hrun, Result.andThen_ok, Sem.run_pure]
                rfl
              have hpost := Post.alloc hn p (w' := w.alloc (.cells ((Array.range (c' * i.size)).map (Z.cells[· % Z.cells.size]!)) el)) rfl rfl rfl rfl (row_rel hzeros (rep_one h1 c') el s.clk w.heap.size)
              refine ⟨_, _, _, _, _, hrun', .inl rfl, ?_, hpost⟩
              exact .sliceE (l := ⟨w.heap.size, 0, (rep zc c').length, ((Array.range (c' * i.size)).map (Z.cells[· % Z.cells.size]!)).size⟩) (upd_same _ _ _) hle (.inr rfl)
        · cases h
end
end Go.Ev
