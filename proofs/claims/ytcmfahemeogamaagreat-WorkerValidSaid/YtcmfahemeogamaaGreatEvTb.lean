/- A table of one call: what the evaluator says of a call from a small state, it says from every state that holds the small one's objects. -/
import Derived.Test.YtcmfahemeogamaaGreatEvSt
namespace Go.Ev
noncomputable section
def beqCap : Cap → Cap → Bool
  | .exact a, .exact b => Nat.beq a b
  | .open_ a, .open_ b => Nat.beq a b
  | _, _ => false
def beqInt : Int → Int → Bool
  | .ofNat a, .ofNat b => Nat.beq a b
  | .negSucc a, .negSucc b => Nat.beq a b
  | _, _ => false
def beqList {α : Type} (f : α → α → Bool) : List α → List α → Bool
  | [], [] => true
  | a :: l, b :: m => f a b && beqList f l m
  | _, _ => false
def beqV : Nat → V → V → Bool
  | 0 => fun _ _ => false
  | n + 1 => fun a b => match a, b with
    | .bool a, .bool b => a == b
    | .int k a, .int l b => decide (k = l) && beqInt a b
    | .ptr a b, .ptr c d => Nat.beq a c && Nat.beq b d
    | .nilptr, .nilptr => true
    | .slice a b c d, .slice a' b' c' d' => Nat.beq a a' && (Nat.beq b b' && (Nat.beq c c' && beqCap d d'))
    | .nilslice, .nilslice => true
    | .map a, .map b => Nat.beq a b
    | .nilmap, .nilmap => true
    | .nilFunc, .nilFunc => true
    | .agg a, .agg b => beqList (beqV n) a b
    | .tuple a, .tuple b => beqList (beqV n) a b
    | _, _ => false
def beqO : O → O → Bool
  | .row a b c, .row a' b' c' => Nat.beq a a' && (Nat.beq b b' && beqList (beqV 6) c c')
  | _, _ => false

theorem nbeq {a b : Nat} (h : Nat.beq a b = true) : a = b := Nat.eq_of_beq_eq_true h
theorem beqCap_eq : ∀ {a b : Cap}, beqCap a b = true → a = b
  | .exact _, .exact _, h => by rw [nbeq h]
  | .open_ _, .open_ _, h => by rw [nbeq h]
theorem beqInt_eq : ∀ {a b : Int}, beqInt a b = true → a = b
  | .ofNat _, .ofNat _, h => by rw [nbeq h]
  | .negSucc _, .negSucc _, h => by rw [nbeq h]
theorem beqList_eq {α : Type} {f : α → α → Bool} (hf : ∀ a b, f a b = true → a = b) : ∀ {l m : List α}, beqList f l m = true → l = m
  | [], [], _ => rfl
  | a :: l, b :: m, h => by
    have h : (f a b && beqList f l m) = true := h
    rw [Bool.and_eq_true] at h
    rw [hf _ _ h.1, beqList_eq hf h.2]
theorem beqV_eq : ∀ (n : Nat) (a b : V), beqV n a b = true → a = b := by
  intro n
  induction n with
  | zero => intro a b h; cases h
  | succ n ih =>
    intro a b h
    cases a <;> cases b <;> first | (exact absurd h (by unfold beqV; exact Bool.noConfusion)) | skip
    case bool.bool => rw [eq_of_beq (show (_ == _) = true from h)]
    case int.int =>
      have h : (decide _ && beqInt _ _) = true := h
      rw [Bool.and_eq_true] at h
      rw [of_decide_eq_true h.1, beqInt_eq h.2]
    case ptr.ptr =>
      have h : (Nat.beq _ _ && Nat.beq _ _) = true := h
      rw [Bool.and_eq_true] at h
      rw [nbeq h.1, nbeq h.2]
    case nilptr.nilptr => rfl
    case slice.slice =>
      have h : (Nat.beq _ _ && (Nat.beq _ _ && (Nat.beq _ _ && beqCap _ _))) = true := h
      simp only [Bool.and_eq_true] at h
      rw [nbeq h.1, nbeq h.2.1, nbeq h.2.2.1, beqCap_eq h.2.2.2]
    case nilslice.nilslice => rfl
    case map.map => rw [nbeq h]
    case nilmap.nilmap => rfl
    case nilFunc.nilFunc => rfl
    case agg.agg => rw [beqList_eq ih (show beqList (beqV n) _ _ = true from h)]
    case tuple.tuple => rw [beqList_eq ih (show beqList (beqV n) _ _ = true from h)]
theorem beqO_eq : ∀ {a b : O}, beqO a b = true → a = b
  | .row _ _ _, .row _ _ _, h => by
    have h : (Nat.beq _ _ && (Nat.beq _ _ && beqList (beqV 6) _ _)) = true := h
    simp only [Bool.and_eq_true] at h
    rw [nbeq h.1, nbeq h.2.1, beqList_eq (beqV_eq 6) h.2.2]

/-- One entry: the call from a small state, and what comes of it, cut down to some objects. -/
structure TabE where
  (f : FuncId) (args : List V) (c k : Nat) (names : List Nat) (objs : List O) (v : V) (c' k' : Nat) (names' : List Nat) (objs' : List O)
def TabE.st (e : TabE) : St := mkS e.c e.k e.names e.objs
def TabE.st' (e : TabE) : St := mkS e.c' e.k' e.names' e.objs'
def viewC (names : List Nat) : Option (V × St) → Option (V × Nat × Nat × List (Option O))
  | some (v, s) => some (v, s.ctr, s.clk, names.map s.get)
  | none => none
/-- The state holds the objects. -/
def holdsAll (s : St) : List Nat → List O → Bool
  | n :: l, o :: m => (match s.get n with | some x => beqO x o | none => false) && holdsAll s l m
  | [], [] => true
  | _, _ => false
def TabE.fits (e : TabE) (f : FuncId) (args : List V) (s : St) : Bool :=
  Nat.beq f e.f && (Nat.beq s.ctr e.c && (Nat.beq s.clk e.k && (beqList (beqV 6) args e.args && holdsAll s e.names e.objs)))
def tabled (call : CallF) (e : TabE) : CallF := fun f args s => cond (e.fits f args s) (some (e.v, e.st')) (call f args s)
end

theorem holdsAll_get {s : St} : ∀ {names : List Nat} {objs : List O}, holdsAll s names objs = true → ∀ (i : Nat) (n : Nat) (o : O), names[i]? = some n → objs[i]? = some o → s.get n = some o
  | n :: l, o :: m, h, i, n', o', hn, ho => by
    have h : ((match s.get n with | some x => beqO x o | none => false) && holdsAll s l m) = true := h
    rw [Bool.and_eq_true] at h
    cases i with
    | zero =>
      simp only [List.getElem?_cons_zero, Option.some.injEq] at hn ho
      subst hn ho
      cases hg : s.get n with
      | none => have := h.1; rw [hg] at this; cases this
      | some x => have := h.1; rw [hg] at this; rw [beqO_eq this]
    | succ i => exact holdsAll_get h.2 i n' o' (by simpa using hn) (by simpa using ho)
  | [], [], _, i, n', _, hn, _ => by simp at hn

theorem mkS_get {c k : Nat} {names : List Nat} {objs : List O} (hc : c ≤ 2 ^ HK) (hb : belowAll c names = true) {n : Nat} {o : O} (h : (mkS c k names objs).get n = some o) :
    n < c ∧ ∃ i : Nat, names[i]? = some n ∧ objs[i]? = some o := by
  have hlt : n < c := St.get_lt h
  refine ⟨hlt, ?_⟩
  unfold mkS at h
  rw [St.get_mk, if_pos hlt] at h
  refine mkH_get (fun x hx => ?_) (Nat.lt_of_lt_of_le hlt hc) h
  unfold belowAll at hb
  rw [List.all_eq_true] at hb
  exact Nat.lt_of_lt_of_le (blt_iff.1 (hb x hx)) hc

section
variable {P : Program}
/-- The table is sound. -/
theorem tabled_ok {call : CallF} (hc : CallOk P call) {e : TabE} (h : viewC e.names' (call e.f e.args e.st) = some (e.v, e.c', e.k', e.objs'.map some))
    (hb : belowAll e.c e.names = true) (hb' : belowAll e.c' e.names' = true) (hC : e.c ≤ 2 ^ HK) (hC' : e.c' ≤ 2 ^ HK) : CallOk P (tabled call e) := by
  intro f args s v s' hcall
  unfold tabled at hcall
  cases hf : e.fits f args s with
  | false => rw [hf] at hcall; exact hc f args s v s' hcall
  | true =>
    rw [hf] at hcall
    simp only [cond_true, Option.some.injEq, Prod.mk.injEq] at hcall
    obtain ⟨rfl, rfl⟩ := hcall
    unfold TabE.fits at hf
    simp only [Bool.and_eq_true] at hf
    obtain ⟨h1, h2, h3, h4, h5⟩ := hf
    obtain rfl := nbeq h1
    obtain rfl := beqList_eq (beqV_eq 6) h4
    have h2 := nbeq h2
    have h3 := nbeq h3
    -- the call from the small state
    cases hr : call e.f e.args e.st with
    | none => rw [hr] at h; cases h
    | some r =>
      obtain ⟨v1, t⟩ := r
      rw [hr] at h
      simp only [viewC, Option.some.injEq, Prod.mk.injEq] at h
      obtain ⟨rfl, ht1, ht2, ht3⟩ := h
      have hsub : ∀ n o, e.st.get n = some o → s.get n = some o := fun n o hn => by
        obtain ⟨_, i, hi1, hi2⟩ := mkS_get hC hb hn
        exact holdsAll_get h5 i n o hi1 hi2
      have hsub' : ∀ n o, e.st'.get n = some o → t.get n = some o := fun n o hn => by
        obtain ⟨_, i, hi1, hi2⟩ := mkS_get hC' hb' hn
        have := congrArg (fun l => l[i]?) ht3
        simpa only [List.getElem?_map, hi1, hi2, Option.map_some, Option.some.injEq] using this
      obtain ⟨g1, g2, g3⟩ := hc _ _ _ _ _ hr
      have ec : e.st.ctr = s.ctr := h2.symm
      have ek : e.st.clk = s.clk := h3.symm
      have ec' : e.st'.ctr = t.ctr := ht1.symm
      have ek' : e.st'.clk = t.clk := ht2.symm
      have none_of : ∀ n, s.get n = none → e.st.get n = none := fun n hn => by
        cases hg : e.st.get n with
        | none => rfl
        | some o => rw [hsub n o hg] at hn; cases hn
      have none_of' : ∀ n, t.get n = none → e.st'.get n = none := fun n hn => by
        cases hg : e.st'.get n with
        | none => rfl
        | some o => rw [hsub' n o hg] at hn; cases hn
      refine ⟨g1, ⟨by rw [ec', ← ec]; exact g2.ctr, by rw [ek', ← ek]; exact g2.clk, fun n o hn hs => hsub n o (g2.old n o (hsub' n o hn) (by rw [ek]; exact hs)), fun n hn hd => none_of' n (g2.dead n (by rw [ec]; exact hn) (none_of n hd))⟩, fun H φ w A hp hl => ?_⟩
      have hp' : Pre e.st t H φ w := ⟨fun n o hn => hp.sub n o (hsub n o hn), hp.inv, fun n h1 h2 => hp.fresh n (by rw [← ec]; exact h1) (by rw [ec']; exact h2)⟩
      refine (g3 H φ w A hp' hl).mono fun en w' hret => ?_
      cases en with
      | returned x =>
        obtain ⟨H', φ', hv, hpost⟩ := hret
        refine ⟨H', φ', hv, ⟨fun n o hn => hpost.sub n o (hsub' n o hn), hpost.inv, fun n hn => hpost.phi n (by rw [ec, ← ec']; exact hn), fun n hn hd => hpost.keep n (by rw [ec, ← ec']; exact hn) (none_of n hd), hpost.os, hpost.tape, hpost.output, hpost.size, hpost.frame, hpost.blk⟩⟩
      | _ => exact hret

/-- One level of calls more. -/
theorem callStep_ok {sp : FuncId → Bool} (hsp : SpecOk P sp) (hmix : P.follows .mixedOrders = true) {call : CallF} (ih : CallOk P call) : CallOk P (callStep P sp call) := by
  intro f args s v s' h
  unfold callStep at h
  cases hb : sp f with
  | true =>
    rw [hb] at h
    obtain ⟨h1, h2⟩ := hsp f hb
    obtain ⟨h3, h4⟩ := h2 _ ih args s s' v h
    exact ⟨h1, h3, h4⟩
  | false =>
    rw [hb] at h
    simp only [cond_false] at h
    cases hf : fnOf P f with
    | none => rw [hf] at h; cases h
    | some fi =>
      rw [hf] at h
      exact body_run ih hmix hf h
end
end Go.Ev
