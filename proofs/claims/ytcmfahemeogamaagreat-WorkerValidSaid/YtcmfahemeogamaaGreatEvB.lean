/- Tries, lists, states of the evaluator: what reading says behind writing. -/
import Derived.Test.YtcmfahemeogamaaGreatEvA
namespace Go.Ev

/-! ### Tries -/
theorem bits_succ (k n : Nat) : bits (k + 1) n = Nat.beq (n % 2) 1 :: bits k (n / 2) := rfl
theorem bits_length (k : Nat) : ∀ n, (bits k n).length = k := by
  induction k with
  | zero => intro n; rfl
  | succ k ih => intro n; rw [bits_succ]; simp [ih]
theorem bits_inj (k : Nat) : ∀ n m, n < 2 ^ k → m < 2 ^ k → bits k n = bits k m → n = m := by
  induction k with
  | zero => intro n m hn hm _; simp at hn hm; omega
  | succ k ih =>
    intro n m hn hm h
    rw [bits_succ, bits_succ] at h
    injection h with h1 h2
    have hd := ih (n / 2) (m / 2) (by rw [Nat.pow_succ] at hn; omega) (by rw [Nat.pow_succ] at hm; omega) h2
    have h3 : (n % 2 = 1) ↔ (m % 2 = 1) := by
      rw [← Nat.beq_eq, ← Nat.beq_eq, h1]
    omega
section
variable {α : Type}
theorem T.get_nil_of (p : List Bool) : T.get p (.nil : T α) = none := by cases p <;> rfl
theorem T.get_one_cons (b : Bool) (p : List Bool) (x : α) : T.get (b :: p) (.one x) = none := rfl
theorem T.get_node (b : Bool) (p : List Bool) (l r : T α) : T.get (b :: p) (.node l r) = T.get p (Bool.rec l r b) := rfl
theorem T.put_nil_path (x t : T α) : T.put x [] t = x := rfl
theorem T.get_put_same (x : T α) : ∀ (p : List Bool) (t : T α), T.get p (T.put x p t) = T.get [] x := by
  intro p
  induction p with
  | nil => intro t; rfl
  | cons b p ih =>
    intro t
    cases t <;> cases b <;> exact ih _
theorem T.get_put_other (x : T α) : ∀ (p q : List Bool) (t : T α), p.length = q.length → p ≠ q → T.get q (T.put x p t) = T.get q t := by
  intro p
  induction p with
  | nil => intro q t hl hne; cases q with
    | nil => exact absurd rfl hne
    | cons => simp at hl
  | cons b p ih =>
    intro q t hl hne
    cases q with
    | nil => simp at hl
    | cons c q =>
      have hl' : p.length = q.length := by simpa using hl
      cases t <;> cases b <;> cases c <;>
        first
          | (rw [T.get_one_cons]; exact (ih q .nil hl' (fun h => hne (by rw [h]))).trans (T.get_nil_of q))
          | (rw [T.get_nil_of]; exact (ih q .nil hl' (fun h => hne (by rw [h]))).trans (T.get_nil_of q))
          | exact ih q _ hl' (fun h => hne (by rw [h]))
          | (rw [T.get_nil_of]; exact T.get_nil_of q)
          | (rw [T.get_one_cons]; exact T.get_nil_of q)
          | rfl
end

/-! ### States -/
theorem beq_iff {a b : Nat} : Nat.beq a b = true ↔ a = b := Iff.of_eq Nat.beq_eq
theorem ble_iff {a b : Nat} : Nat.ble a b = true ↔ a ≤ b := Iff.of_eq Nat.ble_eq
theorem blt_iff {a b : Nat} : Nat.blt a b = true ↔ a < b := by unfold Nat.blt; rw [ble_iff]; omega
theorem cond_some {α : Type} {b : Bool} {x : Option α} {y : α} (h : cond b x none = some y) : b = true ∧ x = some y := by
  cases b with
  | true => exact ⟨rfl, h⟩
  | false => cases h

theorem St.get_mk (c k : Nat) (h : T O) (n : Nat) : (St.mk c k h).get n = if n < c then T.get (bits HK n) h else none := by
  unfold St.get
  by_cases hn : n < c
  · rw [if_pos hn, show Nat.blt n (St.mk c k h).ctr = true from blt_iff.2 hn]; rfl
  · rw [if_neg hn]
    cases hb : Nat.blt n (St.mk c k h).ctr with
    | true => exact absurd (blt_iff.1 hb) hn
    | false => rfl
theorem St.get_lt {s : St} {n : Nat} {o : O} (h : s.get n = some o) : n < s.ctr := by
  obtain ⟨c, k, hp⟩ := s
  rw [St.get_mk] at h
  split at h
  · assumption
  · cases h
theorem St.get_ge {s : St} {n : Nat} (h : s.ctr ≤ n) : s.get n = none := by
  cases hg : s.get n with
  | none => rfl
  | some o => have := St.get_lt hg; omega

theorem HMAX_eq : HMAX = 2 ^ HK := rfl
theorem get_put {n m : Nat} (x : T O) (h : T O) (hn : n < 2 ^ HK) (hm : m < 2 ^ HK) :
    T.get (bits HK m) (T.put x (bits HK n) h) = if m = n then T.get [] x else T.get (bits HK m) h := by
  by_cases e : m = n
  · subst e; rw [if_pos rfl]; exact T.get_put_same _ _ _
  · rw [if_neg e]
    exact T.get_put_other _ _ _ _ (by rw [bits_length, bits_length]) (fun h => e (bits_inj HK _ _ hn hm h).symm)

theorem St.new_spec {s s' : St} {f : Nat → O} {n : Nat} (h : s.new f = some (n, s')) :
    n = s.ctr ∧ s'.ctr = s.ctr + 1 ∧ s'.clk = s.clk + 1 ∧ ∀ m, s'.get m = if m = s.ctr then some (f s.clk) else s.get m := by
  unfold St.new at h
  obtain ⟨hb, h⟩ := cond_some h
  have hlt : s.ctr < 2 ^ HK := blt_iff.1 hb
  simp only [Option.some.injEq, Prod.mk.injEq] at h
  obtain ⟨rfl, rfl⟩ := h
  refine ⟨rfl, rfl, rfl, fun m => ?_⟩
  obtain ⟨c, k, hp⟩ := s
  simp only [St.get_mk] at hlt ⊢
  by_cases hm : m < c + 1
  · rw [if_pos (show m < c.succ from hm), get_put _ _ hlt (by omega)]
    by_cases e : m = c
    · rw [if_pos e, if_pos e]; rfl
    · rw [if_neg e, if_neg e, if_pos (by omega)]
  · rw [if_neg (show ¬ m < c.succ from hm), if_neg (by omega), if_neg (by omega)]
theorem St.set_spec {s s' : St} {f : Nat → O} {n : Nat} (h : s.set n f = some s') :
    n < s.ctr ∧ s'.ctr = s.ctr ∧ s'.clk = s.clk + 1 ∧ ∀ m, s'.get m = if m = n then some (f s.clk) else s.get m := by
  unfold St.set at h
  obtain ⟨hb, h⟩ := cond_some h
  rw [Bool.and_eq_true] at hb
  have hlt : n < s.ctr := blt_iff.1 hb.1
  have hle : s.ctr ≤ 2 ^ HK := Nat.le_of_ble_eq_true hb.2
  simp only [Option.some.injEq] at h
  subst h
  refine ⟨hlt, rfl, rfl, fun m => ?_⟩
  obtain ⟨c, k, hp⟩ := s
  simp only [St.get_mk] at hlt hle ⊢
  by_cases hm : m < c
  · rw [if_pos hm, if_pos hm, get_put _ _ (by omega) (by omega)]
    by_cases e : m = n
    · rw [if_pos e, if_pos e]; rfl
    · rw [if_neg e, if_neg e]
  · rw [if_neg hm, if_neg hm, if_neg (by omega)]
theorem St.kill_spec {s s' : St} {n : Nat} (h : s.kill n = some s') :
    n < s.ctr ∧ s'.ctr = s.ctr ∧ s'.clk = s.clk ∧ ∀ m, s'.get m = if m = n then none else s.get m := by
  unfold St.kill at h
  obtain ⟨hb, h⟩ := cond_some h
  rw [Bool.and_eq_true] at hb
  have hlt : n < s.ctr := blt_iff.1 hb.1
  have hle : s.ctr ≤ 2 ^ HK := Nat.le_of_ble_eq_true hb.2
  simp only [Option.some.injEq] at h
  subst h
  refine ⟨hlt, rfl, rfl, fun m => ?_⟩
  obtain ⟨c, k, hp⟩ := s
  simp only [St.get_mk] at hlt hle ⊢
  by_cases hm : m < c
  · rw [if_pos hm, if_pos hm, get_put _ _ (by omega) (by omega)]
    by_cases e : m = n
    · rw [if_pos e, if_pos e]; rfl
    · rw [if_neg e, if_neg e]
  · rw [if_neg hm, if_neg hm]
    split <;> rfl

/-- A later state: names and clock go up; what has not been stamped since is as it was; what is gone stays gone. -/
structure Mono (s s' : St) : Prop where
  ctr : s.ctr ≤ s'.ctr
  clk : s.clk ≤ s'.clk
  old : ∀ n o, s'.get n = some o → o.stamp < s.clk → s.get n = some o
  dead : ∀ n, n < s.ctr → s.get n = none → s'.get n = none
theorem Mono.refl (s : St) : Mono s s := ⟨Nat.le_refl _, Nat.le_refl _, fun _ _ h _ => h, fun _ _ h => h⟩
theorem Mono.trans {a b c : St} (h : Mono a b) (k : Mono b c) : Mono a c :=
  ⟨Nat.le_trans h.ctr k.ctr, Nat.le_trans h.clk k.clk, fun n o ho hs => h.old n o (k.old n o ho (Nat.lt_of_lt_of_le hs h.clk)) hs,
   fun n hn hd => k.dead n (Nat.lt_of_lt_of_le hn h.ctr) (h.dead n hn hd)⟩
theorem Mono.new {s s' : St} {f : Nat → O} {n : Nat} (h : s.new f = some (n, s')) (hf : ∀ k, (f k).stamp = k) : Mono s s' := by
  obtain ⟨_, hc, hk, hg⟩ := St.new_spec h
  refine ⟨by omega, by omega, fun m o ho hs => ?_, fun m hm hd => ?_⟩
  · rw [hg] at ho
    split at ho
    · injection ho with ho; subst ho; rw [hf] at hs; omega
    · exact ho
  · rw [hg, if_neg (by omega)]; exact hd
theorem Mono.set {s s' : St} {f : Nat → O} {n : Nat} {o : O} (h : s.set n f = some s') (ho : s.get n = some o) (hf : ∀ k, (f k).stamp = k) : Mono s s' := by
  obtain ⟨_, hc, hk, hg⟩ := St.set_spec h
  refine ⟨by omega, by omega, fun m o' ho' hs => ?_, fun m hm hd => ?_⟩
  · rw [hg] at ho'
    split at ho'
    · injection ho' with ho'; subst ho'; rw [hf] at hs; omega
    · exact ho'
  · rw [hg]
    split
    · rename_i e; subst e; rw [ho] at hd; cases hd
    · exact hd
theorem Mono.kill {s s' : St} {n : Nat} (h : s.kill n = some s') : Mono s s' := by
  obtain ⟨_, hc, hk, hg⟩ := St.kill_spec h
  refine ⟨by omega, by omega, fun m o' ho' hs => ?_, fun m hm hd => ?_⟩
  · rw [hg] at ho'
    split at ho'
    · cases ho'
    · exact ho'
  · rw [hg]
    split
    · rfl
    · exact hd

/-! ### Lists -/
section
variable {α : Type}
theorem nth_eq (l : List α) : ∀ n, nth l n = l[n]? := by
  induction l with
  | nil => intro n; rfl
  | cons x l ih =>
    intro n
    cases n with
    | zero => rfl
    | succ n => show nth l n = _; rw [ih]; simp
theorem drop_eq (n : Nat) : ∀ l : List α, drop n l = l.drop n := by
  induction n with
  | zero => intro l; rfl
  | succ n ih =>
    intro l
    cases l with
    | nil => rfl
    | cons x l => show drop n l = _; rw [ih]; rfl
theorem takeN_some {n : Nat} : ∀ {l r : List α}, takeN n l = some r → n ≤ l.length ∧ r = l.take n := by
  induction n with
  | zero => intro l r h; cases h; exact ⟨Nat.zero_le _, by simp⟩
  | succ n ih =>
    intro l r h
    cases l with
    | nil => cases h
    | cons x l =>
      change (match takeN n l with | some r => some (x :: r) | none => none) = some r at h
      cases ht : takeN n l with
      | none => rw [ht] at h; cases h
      | some r' =>
        rw [ht] at h
        injection h with h
        subst h
        obtain ⟨h1, h2⟩ := ih ht
        exact ⟨by simp; omega, by rw [h2]; rfl⟩
theorem over_some : ∀ {vs l r : List α}, over vs l = some r → vs.length ≤ l.length ∧ r = vs ++ l.drop vs.length := by
  intro vs
  induction vs with
  | nil => intro l r h; cases h; exact ⟨Nat.zero_le _, by simp⟩
  | cons v vs ih =>
    intro l r h
    cases l with
    | nil => cases h
    | cons x l =>
      change (match over vs l with | some r => some (v :: r) | none => none) = some r at h
      cases ht : over vs l with
      | none => rw [ht] at h; cases h
      | some r' =>
        rw [ht] at h
        injection h with h
        subst h
        obtain ⟨h1, h2⟩ := ih ht
        exact ⟨by simp; omega, by rw [h2]; rfl⟩
theorem putAt_some {vs : List α} {n : Nat} : ∀ {l r : List α}, putAt vs n l = some r → n + vs.length ≤ l.length ∧ r = l.take n ++ vs ++ l.drop (n + vs.length) := by
  induction n with
  | zero =>
    intro l r h
    obtain ⟨h1, h2⟩ := over_some h
    exact ⟨by omega, by simp [h2]⟩
  | succ n ih =>
    intro l r h
    cases l with
    | nil => cases h
    | cons x l =>
      change (match putAt vs n l with | some r => some (x :: r) | none => none) = some r at h
      cases ht : putAt vs n l with
      | none => rw [ht] at h; cases h
      | some r' =>
        rw [ht] at h
        injection h with h
        subst h
        obtain ⟨h1, h2⟩ := ih ht
        refine ⟨by simp; omega, ?_⟩
        rw [h2, show n + 1 + vs.length = (n + vs.length) + 1 by omega]
        rfl
theorem mapO_some {β : Type} {f : α → Option β} : ∀ {l : List α} {r : List β}, mapO f l = some r → r.length = l.length ∧ ∀ (i : Nat) (x : α) (y : β), l[i]? = some x → r[i]? = some y → f x = some y := by
  intro l
  induction l with
  | nil => intro r h; cases h; exact ⟨rfl, fun i x y hx => by simp at hx⟩
  | cons a l ih =>
    intro r h
    change (match f a with | some y => (match mapO f l with | some r => some (y :: r) | none => none) | none => none) = some r at h
    cases hf : f a with
    | none => rw [hf] at h; cases h
    | some b =>
      rw [hf] at h
      cases ht : mapO f l with
      | none => rw [ht] at h; cases h
      | some r' =>
        rw [ht] at h
        injection h with h
        subst h
        obtain ⟨h1, h2⟩ := ih ht
        refine ⟨by simp [h1], fun i x y hx hy => ?_⟩
        cases i with
        | zero => simp at hx hy; rw [← hx, ← hy]; exact hf
        | succ i => exact h2 i x y (by simpa using hx) (by simpa using hy)
theorem mapO_nil {β : Type} (f : α → Option β) : mapO f [] = some [] := rfl
theorem mapO_cons {β : Type} (f : α → Option β) (a : α) (l : List α) : mapO f (a :: l) = (f a).bind fun y => (mapO f l).map (y :: ·) := by
  show (match f a with | some y => (match mapO f l with | some r => some (y :: r) | none => none) | none => none) = _
  cases f a with
  | none => rfl
  | some y => cases mapO f l <;> rfl
theorem rep_zero (l : List α) : rep l 0 = [] := rfl
theorem rep_succ (l : List α) (n : Nat) : rep l (n + 1) = l ++ rep l n := rfl
theorem rep_length (l : List α) (n : Nat) : (rep l n).length = n * l.length := by
  induction n with
  | zero => simp [rep_zero]
  | succ n ih => rw [rep_succ, List.length_append, ih, Nat.succ_mul]; omega
theorem rep_get (l : List α) (n : Nat) : ∀ i, i < n * l.length → (rep l n)[i]? = l[i % l.length]? := by
  induction n with
  | zero => intro i h; simp at h
  | succ n ih =>
    intro i h
    rw [rep_succ]
    by_cases hi : i < l.length
    · rw [List.getElem?_append_left hi, Nat.mod_eq_of_lt hi]
    · rw [List.getElem?_append_right (by omega), ih _ (by have : (n + 1) * l.length = n * l.length + l.length := Nat.succ_mul _ _; omega)]
      rw [← Nat.mod_eq_sub_mod (by omega)]
end
end Go.Ev
