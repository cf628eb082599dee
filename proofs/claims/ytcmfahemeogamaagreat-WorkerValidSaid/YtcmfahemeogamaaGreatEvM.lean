/- Regions that draw their order: one operation; all of them. -/
import Derived.Test.YtcmfahemeogamaaGreatEvL
namespace Go.Ev
section
variable {P : Program}
variable {call : CallF} {n : Nat} {ops : Array Oper} {L : List Item3} {st : Nat → St} {fr : Nat → Fr}
variable {H₀ H : Nat → Option O} {φ₀ φ : Phi} {w₀ w : World} {In : Nat → Prop} {A : Act} {k : Nat}

theorem looks_operand {o : Oper} {t : Tmp} (h : Operand.tmp t ∈ o.op.operands) : t ∈ looks ops o := by
  unfold looks
  exact List.mem_append.2 (.inl (List.mem_filterMap.2 ⟨.tmp t, by simpa using h, rfl⟩))
theorem looks_guard {o oj : Oper} {j d : Nat} {want : Bool} (h : o.guard = some (j, want)) (hj : ops[j]? = some oj) (hd : oj.dst = some d) : d ∈ looks ops o := by
  unfold looks
  rw [h]
  simp only [hj, hd]
  exact List.mem_append.2 (.inr (by simp))

/-- Behind an acting operation. -/
theorem DInv.acted (c : Ctx P call n ops L st fr) (d : DInv P n L st fr H₀ φ₀ w₀ In A w H φ k) {p : Nat} {x : Item3} (hx : L[p]? = some x) (hp : ¬ In p) (he : isEff P x.2.2 = true)
    (anc : ∀ (q : Nat) (y : Item3), L[q]? = some y → hasBit x.2.1 y.1 = true → In q) (cl : ∀ (q r : Nat) (y z : Item3), L[q]? = some y → L[r]? = some z → In q → hasBit y.2.1 z.1 = true → In r) :
    Pre (st p) (st (p + 1)) H φ w ∧ ∀ (w' : World) (H' : Nat → Option O) (φ' : Phi) (v : V) (X : Value), Post (st p) (st (p + 1)) H φ w H' φ' w' → VRel φ' v X → fr (p + 1) = (fr p).put x.2.2.dst v → (∀ e, x.2.2.dst = some e → e < n) →
      DInv P n L st fr H₀ φ₀ w₀ (fun q => In q ∨ q = p) (A.put x.2.2.dst X) w' H' φ' (p + 1) := by
  have hpN : p < L.length := (List.getElem?_eq_some_iff.1 hx).1
  have hkp : k ≤ p := by
    rcases Nat.lt_or_ge p k with h | h
    · exact absurd (d.below p h) hp
    · exact h
  have hbefore : ∀ q, q < p → In q := fun q hq => anc q _ (List.getElem?_eq_getElem (by omega)) (c.lay.eff q p _ x (List.getElem?_eq_getElem (by omega)) hx hq he)
  have pre : Pre (st p) (st (p + 1)) H φ w := ⟨d.sub c p hkp (by omega) (fun q _ hq => hbefore q hq), d.inv, d.fresh p hpN hp⟩
  refine ⟨pre, fun w' H' φ' v X post hv hfr hd => ?_⟩
  obtain ⟨s1, s2, s3⟩ := d.put c hx hp anc cl (post.ext pre) hv hfr hd
  refine ⟨post.inv, ?_, by omega, fun q hq => ?_, fun q y hq hin hy => ?_, post.sub, fun q hq hqN hin m o hm ho => ?_, fun q hqN hin m h1 h2 => ?_, s1, s2, s3⟩
  · refine d.rest.step post (c.mono p 0 (by omega) (by omega)).ctr (c.mono L.length (p + 1) (by omega) (by omega)).ctr (fun m hm hg => ?_)
    rcases hm with hm | hm
    · exact (c.mono p 0 (by omega) (by omega)).dead m hm hg
    · exact St.get_ge (Nat.le_trans (c.mono L.length p (by omega) (by omega)).ctr hm)
  · by_cases e : q = p
    · exact .inr e
    · exact .inl (hbefore q (by omega))
  · rcases hin with hin | hin
    · cases hey : isEff P y.2.2 with
      | false => rfl
      | true => exact absurd (cl q p y x hy hx hin (c.lay.eff p q x y hx hy (by omega) hey)) hp
    · omega
  · rcases hin with hin | hin
    · have hge : (st (p + 1)).ctr ≤ m := Nat.le_trans (c.mono q (p + 1) hq (by omega)).ctr hm
      have h1 := d.made q (by omega) hqN hin m o hm ho
      rw [post.keep m (.inr hge) (St.get_ge (Nat.le_trans (c.mono (p + 1) p (by omega) (by omega)).ctr hge))]
      exact h1
    · omega
  · have hne : ¬ In q := fun h => hin (.inl h)
    have hlt : p + 1 ≤ q := by
      rcases Nat.lt_or_ge q (p + 1) with h | h
      · by_cases e : q = p
        · exact absurd (.inr e) hin
        · exact absurd (hbefore q (by omega)) hne
      · exact h
    rw [post.phi m (.inr (Nat.le_trans (c.mono q (p + 1) hlt (by omega)).ctr h1))]
    exact d.fresh q hqN hne m h1 h2

/-- Behind an operation that changes nothing. -/
theorem DInv.stays (c : Ctx P call n ops L st fr) (d : DInv P n L st fr H₀ φ₀ w₀ In A w H φ k) {p : Nat} {x : Item3} (hx : L[p]? = some x) (hp : ¬ In p) (he : isEff P x.2.2 = false)
    (anc : ∀ (q : Nat) (y : Item3), L[q]? = some y → hasBit x.2.1 y.1 = true → In q) (cl : ∀ (q r : Nat) (y z : Item3), L[q]? = some y → L[r]? = some z → In q → hasBit y.2.1 z.1 = true → In r)
    (hst : st (p + 1) = st p) {v : V} {X : Value} (hv : VRel φ v X) (hfr : fr (p + 1) = (fr p).put x.2.2.dst v) (hd : ∀ e, x.2.2.dst = some e → e < n) :
      DInv P n L st fr H₀ φ₀ w₀ (fun q => In q ∨ q = p) (A.put x.2.2.dst X) w H φ k := by
  obtain ⟨s1, s2, s3⟩ := d.put c hx hp anc cl (Ext.refl φ) hv hfr hd
  refine ⟨d.inv, d.rest, d.kN, fun q hq => .inl (d.below q hq), fun q y hq hin hy => ?_, d.base, fun q hq hqN hin m o hm ho => ?_, fun q hqN hin m h1 h2 => d.fresh q hqN (fun h => hin (.inl h)) m h1 h2, s1, s2, s3⟩
  · rcases hin with hin | rfl
    · exact d.noeff q y hq hin hy
    · rw [hx] at hy; injection hy with hy; subst hy; exact he
  · rcases hin with hin | rfl
    · exact d.made q hq hqN hin m o hm ho
    · rw [hst, St.get_ge hm] at ho; cases ho

/-- Behind an operation that makes an object. -/
theorem DInv.grew (c : Ctx P call n ops L st fr) (d : DInv P n L st fr H₀ φ₀ w₀ In A w H φ k) {p : Nat} {x : Item3} (hx : L[p]? = some x) (hp : ¬ In p) (he : isEff P x.2.2 = false)
    (anc : ∀ (q : Nat) (y : Item3), L[q]? = some y → hasBit x.2.1 y.1 = true → In q) (cl : ∀ (q r : Nat) (y z : Item3), L[q]? = some y → L[r]? = some z → In q → hasBit y.2.1 z.1 = true → In r)
    {ob : Nat → O} {m₀ : Nat} (hn : (st p).new ob = some (m₀, st (p + 1))) {Xo : Obj} {len room : Nat} (hX : ∀ φ', Ext φ φ' → ORel φ' (ob (st p).clk) ⟨w.heap.size, 0, len, room⟩ (some Xo))
    {v : V} {X : Value} (hv : ∀ φ' m, φ' m = some ⟨w.heap.size, 0, len, room⟩ → m = m₀ → VRel φ' v X) (hfr : fr (p + 1) = (fr p).put x.2.2.dst v) (hd : ∀ e, x.2.2.dst = some e → e < n) :
      ∃ H' φ', DInv P n L st fr H₀ φ₀ w₀ (fun q => In q ∨ q = p) (A.put x.2.2.dst X) (w.alloc Xo) H' φ' k := by
  have hpN : p < L.length := (List.getElem?_eq_some_iff.1 hx).1
  have hkp : k ≤ p := by
    rcases Nat.lt_or_ge p k with h | h
    · exact absurd (d.below p h) hp
    · exact h
  obtain ⟨rfl, hc1, hk1, hg1⟩ := St.new_spec hn
  -- a state without objects
  have hfake : ∃ t t' : St, t.new ob = some (t.ctr, t') ∧ t.ctr = (st p).ctr ∧ t.clk = (st p).clk ∧ t'.ctr = (st p).ctr + 1 ∧ ∀ m, t.get m = none := by
    have hlt : Nat.blt (st p).ctr HMAX = true := by
      unfold St.new at hn
      exact (cond_some hn).1
    refine ⟨⟨(st p).ctr, (st p).clk, .nil⟩, ⟨(st p).ctr + 1, (st p).clk + 1, T.put (.one (ob (st p).clk)) (bits HK (st p).ctr) .nil⟩, ?_, rfl, rfl, rfl, fun m => ?_⟩
    · unfold St.new
      simp only [hlt, cond_true]
    · rw [St.get_mk]
      split
      · exact T.get_nil_of _
      · rfl
  obtain ⟨t, t', ht, htc, htk, htc', htg⟩ := hfake
  have pre : Pre t t' H φ w := ⟨fun m o h => (by rw [htg] at h; cases h), d.inv, fun m h1 h2 => d.fresh p hpN hp m (by omega) (by omega)⟩
  have post := Post.alloc ht pre (w' := w.alloc Xo) (X := Xo) (len := len) (room := room) rfl rfl rfl rfl (fun φ' e => by rw [htk]; exact hX φ' e)
  rw [htk, htc] at post
  have hother : ∀ m, m ≠ (st p).ctr → upd H (st p).ctr (some (ob (st p).clk)) m = H m := fun m h => upd_other _ _ _ h
  have hotherφ : ∀ m, m ≠ (st p).ctr → upd φ (st p).ctr (some (⟨w.heap.size, 0, len, room⟩ : Loc)) m = φ m := fun m h => upd_other _ _ _ h
  obtain ⟨s1, s2, s3⟩ := d.put c hx hp anc cl (post.ext pre) (hv _ _ (upd_same _ _ _) rfl) hfr hd
  have hne : ∀ q, q < L.length → q ≠ p → ∀ m, (st q).ctr ≤ m → m < (st (q + 1)).ctr → m ≠ (st p).ctr := by
    intro q hq hqp m h1 h2 e
    subst e
    rcases Nat.lt_or_gt_of_ne hqp with h | h
    · have := (c.mono p (q + 1) (by omega) (by omega)).ctr; omega
    · have := (c.mono q (p + 1) (by omega) (by omega)).ctr; omega
  refine ⟨_, _, post.inv, ?_, d.kN, fun q hq => .inl (d.below q hq), fun q y hq hin hy => ?_, fun m o hm => ?_, fun q hq hqN hin m o hm ho => ?_, fun q hqN hin m h1 h2 => ?_, s1, s2, s3⟩
  · refine d.rest.step post ?_ ?_ (fun m _ _ => htg m)
    · rw [htc]; exact (c.mono p 0 (by omega) (by omega)).ctr
    · rw [htc', ← hc1]; exact (c.mono L.length (p + 1) (by omega) (by omega)).ctr
  · rcases hin with hin | rfl
    · exact d.noeff q y hq hin hy
    · rw [hx] at hy; injection hy with hy; subst hy; exact he
  · have := St.get_lt hm
    have := (c.mono p k hkp (by omega)).ctr
    rw [hother m (by omega)]
    exact d.base m o hm
  · have hlt := St.get_lt ho
    rcases hin with hin | rfl
    · rw [hother m (hne q hqN (fun e => hp (e ▸ hin)) m hm hlt)]
      exact d.made q hq hqN hin m o hm ho
    · have e : m = (st q).ctr := by omega
      subst e
      rw [hg1, if_pos rfl] at ho
      rw [upd_same]
      exact ho
  · rw [hotherφ m (hne q hqN (fun e => hin (.inr e)) m h1 h2)]
    exact d.fresh q hqN (fun h => hin (.inl h)) m h1 h2

/-- A read sees what the evaluator saw. -/
theorem DInv.read (c : Ctx P call n ops L st fr) (d : DInv P n L st fr H₀ φ₀ w₀ In A w H φ k) {p : Nat} {x : Item3} (hx : L[p]? = some x) (hp : ¬ In p)
    (anc : ∀ (q : Nat) (y : Item3), L[q]? = some y → hasBit x.2.1 y.1 = true → In q) {g : Option (Tmp × Bool)} (hg : guardOf ops x.2.2.guard = some g) (hw : isWanted (fr p) g = true) :
    ∀ f b gg ob, kind P x.2.2.op = .read f → f (opnd (fr p)) = some (b, gg) → (st p).get b = some ob → H b = some ob := by
  intro f b gg ob hk hf hb
  have hpN : p < L.length := (List.getElem?_eq_some_iff.1 hx).1
  have hkp : k ≤ p := by
    rcases Nat.lt_or_ge p k with h | h
    · exact absurd (d.below p h) hp
    · exact h
  obtain ⟨b', gg', ob', hf', hb', hgood⟩ := c.sure p x f g hx hk hg hw
  rw [hf] at hf'
  simp only [Option.some.injEq, Prod.mk.injEq] at hf'
  obtain ⟨rfl, rfl⟩ := hf'
  rw [hb] at hb'
  injection hb' with hb'; subst hb'
  have old : ob.stamp < (st k).clk → H b = some ob := fun h => d.base b ob ((c.mono p k hkp (by omega)).old b ob hb h)
  rcases hgood with h | ⟨q, y, hq, hy, hbit, hst, h⟩
  · exact old (Nat.lt_of_lt_of_le h (c.mono k 0 (by omega) d.kN).clk)
  · have hin := anc q y hy hbit
    by_cases hqk : q < k
    · exact old (Nat.lt_of_lt_of_le hst (c.mono k (q + 1) hqk d.kN).clk)
    · rcases h with h | ⟨_, h1, h2⟩
      · rw [d.noeff q y (by omega) hin hy] at h; cases h
      · exact d.made q (by omega) (by omega) hin b ob h1 ((c.mono p (q + 1) (by omega) (by omega)).old b ob hb hst)

/-- One operation, whichever may be carried out. -/
theorem DInv.step (c : Ctx P call n ops L st fr) (d : DInv P n L st fr H₀ φ₀ w₀ In A w H φ k) {p : Nat} {x : Item3} (hx : L[p]? = some x) (hp : ¬ In p)
    (anc : ∀ (q : Nat) (y : Item3), L[q]? = some y → hasBit x.2.1 y.1 = true → In q) (cl : ∀ (q r : Nat) (y z : Item3), L[q]? = some y → L[r]? = some z → In q → hasBit y.2.1 z.1 = true → In r)
    {K : Act → World → Prop} {Q : Exit → Act → World → Prop} (hK : ∀ A' w' H' φ' k', DInv P n L st fr H₀ φ₀ w₀ (fun q => In q ∨ q = p) A' w' H' φ' k' → K A' w') : wpOp P ops Q x.1 K A w := by
  have hlk := d.looks c hx hp anc cl
  obtain ⟨g, hg, hd, _, h⟩ := stepOf_eq (c.step p x hx)
  have hwant := guardOf_wanted (ops := ops) hg (φ := φ) (a := fr p) (A := A) (fun j want oj e h1 h2 h3 ht => hlk e (looks_guard h1 h2 h3) ht)
  have hL : Look x.2.2.op φ (fr p) A := fun t ht hlt => hlk t (looks_operand ht) hlt
  unfold wpOp
  simp only [(c.lay.mem p x hx).2, hwant]
  cases he : isEff P x.2.2 with
  | true =>
    obtain ⟨pre, hafter⟩ := d.acted c hx hp he anc cl
    rcases h with ⟨hw, h⟩ | ⟨hw, hs, hf⟩
    · obtain ⟨hm, v, hfr, hr⟩ := oper_run c.hc h
      simp only [hw, if_true]
      exact .inl (hr H φ w A pre hL K Q (fun X w' H' φ' hv post => hK _ _ _ _ _ (hafter w' H' φ' v X post hv hfr hd)))
    · simp only [hw, Bool.false_eq_true, if_false]
      refine hK _ _ _ _ _ (hafter w H φ .undef Go.undef ?_ (.undef φ) hf hd)
      rw [hs]; rw [hs] at pre; exact Post.refl pre
  | false =>
    rcases h with ⟨hw, h⟩ | ⟨hw, hs, hf⟩
    · simp only [hw, if_true]
      refine .inl ?_
      rcases noneff_run he h with ⟨hs, v, hfr, hr⟩ | ⟨ob, mk, m₀, hn, hfr, hr⟩
      · obtain ⟨X, hX, hv⟩ := hr H φ w A d.inv hL (d.read c hx hp anc hg hw)
        unfold Oper.wp
        rw [hX]
        exact hK _ _ _ _ _ (d.stays c hx hp he anc cl hs hv hfr hd)
      · obtain ⟨Xo, X, len, room, hX, h1, h2⟩ := hr φ w A hL
        unfold Oper.wp
        rw [hX]
        obtain ⟨H', φ', d'⟩ := d.grew c hx hp he anc cl hn h1 (v := mk m₀) (X := X) (fun φ' m hm e => by subst e; exact h2 φ' m hm) hfr hd
        exact hK _ _ _ _ _ d'
    · simp only [hw, Bool.false_eq_true, if_false]
      exact hK _ _ _ _ _ (d.stays c hx hp he anc cl hs (.undef φ) hf hd)
end
end Go.Ev
