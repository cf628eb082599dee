/- What the evaluator's values and objects mean in a world; what it is for a world to bear them; steps from world to world. -/
import Derived.Test.YtcmfahemeogamaaGreatEvB
import Derived.Laws.CopyRow
import Derived.Deep.AppendSrc
import Derived.Orders
import Derived.LoopN
import Derived.Below
namespace Go.Ev

/-- Where the object with a name lies: its block, its first cell, how many cells it has, and how many there are up to the block's end. -/
structure Loc where
  blk : Nat
  sh : Nat
  len : Nat
  room : Nat
abbrev Phi := Nat → Option Loc
def Ext (φ φ' : Phi) : Prop := ∀ n l, φ n = some l → φ' n = some l
theorem Ext.refl (φ : Phi) : Ext φ φ := fun _ _ h => h
theorem Ext.trans {a b c : Phi} (h : Ext a b) (k : Ext b c) : Ext a c := fun n l hl => k n l (h n l hl)

/-- A value of one cell. -/
def V.one : V → Bool
  | .agg _ => false
  | .tuple _ => false
  | _ => true

inductive VRel (φ : Phi) : V → Value → Prop
  | bool (b : Bool) : VRel φ (.bool b) (.bool b)
  | int (k : IntKind) (n : Int) : VRel φ (.int k n) (.int k n)
  | str (b : ByteArray) : VRel φ (.str (b.toList.map UInt8.toNat)) (.string b)
  | ptr {n o : Nat} {l : Loc} (h : φ n = some l) : VRel φ (.ptr n o) (.pointer (some ⟨l.blk, l.sh + o, none⟩))
  | nilptr : VRel φ .nilptr (.pointer none)
  | sliceE {n o len c : Nat} {l : Loc} {a : Addr} (h : φ n = some l) (hc : len ≤ c) (ha : c = 0 ∨ a = ⟨l.blk, l.sh + o, none⟩) : VRel φ (.slice n o len (.exact c)) (.slice (some a) len c)
  | sliceO {n o len z : Nat} {l : Loc} {a : Addr} {c : Nat} (h : φ n = some l) (hc : len ≤ c) (hr : o + c * z = l.room) (ha : c = 0 ∨ a = ⟨l.blk, l.sh + o, none⟩) :
      VRel φ (.slice n o len (.open_ z)) (.slice (some a) len c)
  | nilslice : VRel φ .nilslice (.slice none 0 0)
  | map {n : Nat} {l : Loc} (h : φ n = some l) : VRel φ (.map n) (.map (some l.blk))
  | nilmap : VRel φ .nilmap (.map none)
  | func {f : FuncId} {xs ys : List V} {as bs : Array Value} (hx : xs.length = as.size) (hxi : ∀ (i : Nat) (x : V) (y : Value), xs[i]? = some x → as[i]? = some y → VRel φ x y)
      (hy : ys.length = bs.size) (hyi : ∀ (i : Nat) (x : V) (y : Value), ys[i]? = some x → bs[i]? = some y → VRel φ x y) : VRel φ (.func f xs ys) (.func (.func f) as bs)
  | nilFunc : VRel φ .nilFunc .nilFunc
  | agg {xs : List V} {as : Array Value} (hx : xs.length = as.size) (h1 : ∀ x ∈ xs, x.one = true) (hxi : ∀ (i : Nat) (x : V) (y : Value), xs[i]? = some x → as[i]? = some y → VRel φ x y) : VRel φ (.agg xs) (.agg as)
  | tuple {xs : List V} {as : Array Value} (hx : xs.length = as.size) (hxi : ∀ (i : Nat) (x : V) (y : Value), xs[i]? = some x → as[i]? = some y → VRel φ x y) : VRel φ (.tuple xs) (.tuple as)

theorem VRel.mono {φ φ' : Phi} (h : Ext φ φ') {v : V} {x : Value} (hv : VRel φ v x) : VRel φ' v x := by
  induction hv with
  | bool b => exact .bool b
  | int k n => exact .int k n
  | str b => exact .str b
  | ptr hn => exact .ptr (h _ _ hn)
  | nilptr => exact .nilptr
  | sliceE hn hc ha => exact .sliceE (h _ _ hn) hc ha
  | sliceO hn hc hr ha => exact .sliceO (h _ _ hn) hc hr ha
  | nilslice => exact .nilslice
  | map hn => exact .map (h _ _ hn)
  | nilmap => exact .nilmap
  | func hx _ hy _ ih1 ih2 => exact .func hx ih1 hy ih2
  | nilFunc => exact .nilFunc
  | agg hx h1 _ ih => exact .agg hx h1 ih
  | tuple hx _ ih => exact .tuple hx ih
theorem VRel.undef (φ : Phi) : VRel φ V.undef Go.undef := .tuple rfl (fun i x y h => by simp at h)
theorem VRel.one {φ : Phi} {v : V} {x : Value} (h : VRel φ v x) : x.oneCell' = v.one := by
  cases h <;> rfl

/-- Lists of values, element by element. -/
structure LRel (φ : Phi) (xs : List V) (ys : List Value) : Prop where
  len : xs.length = ys.length
  at_ : ∀ (i : Nat) (x : V) (y : Value), xs[i]? = some x → ys[i]? = some y → VRel φ x y
theorem LRel.nil (φ : Phi) : LRel φ [] [] := ⟨rfl, fun i x y h => by simp at h⟩
theorem LRel.cons {φ : Phi} {x : V} {y : Value} {xs : List V} {ys : List Value} (h : VRel φ x y) (t : LRel φ xs ys) : LRel φ (x :: xs) (y :: ys) :=
  ⟨by simp [t.len], fun i a b ha hb => by
    cases i with
    | zero => simp at ha hb; subst ha; subst hb; exact h
    | succ i => exact t.at_ i a b (by simpa using ha) (by simpa using hb)⟩
theorem LRel.mono {φ φ' : Phi} (h : Ext φ φ') {xs : List V} {ys : List Value} (t : LRel φ xs ys) : LRel φ' xs ys := ⟨t.len, fun i x y hx hy => (t.at_ i x y hx hy).mono h⟩
theorem LRel.append {φ : Phi} {xs xs' : List V} {ys ys' : List Value} (h : LRel φ xs ys) (k : LRel φ xs' ys') : LRel φ (xs ++ xs') (ys ++ ys') := by
  refine ⟨by simp [h.len, k.len], fun i x y hx hy => ?_⟩
  by_cases hi : i < xs.length
  · rw [List.getElem?_append_left hi] at hx
    rw [List.getElem?_append_left (by rw [← h.len]; exact hi)] at hy
    exact h.at_ i x y hx hy
  · rw [List.getElem?_append_right (by omega)] at hx
    rw [List.getElem?_append_right (by rw [← h.len]; omega)] at hy
    exact k.at_ _ x y hx (by rw [h.len]; exact hy)
theorem LRel.take {φ : Phi} {xs : List V} {ys : List Value} (h : LRel φ xs ys) (n : Nat) : LRel φ (xs.take n) (ys.take n) := by
  refine ⟨by simp [h.len], fun i x y hx hy => ?_⟩
  rw [List.getElem?_take] at hx hy
  split at hx
  · rename_i hlt; rw [if_pos hlt] at hy; exact h.at_ i x y hx hy
  · cases hx
theorem LRel.drop {φ : Phi} {xs : List V} {ys : List Value} (h : LRel φ xs ys) (n : Nat) : LRel φ (xs.drop n) (ys.drop n) := by
  refine ⟨by simp [h.len], fun i x y hx hy => ?_⟩
  rw [List.getElem?_drop] at hx hy
  exact h.at_ _ x y hx hy
theorem LRel.get {φ : Phi} {xs : List V} {ys : List Value} (h : LRel φ xs ys) {i : Nat} {x : V} (hx : xs[i]? = some x) : ∃ y, ys[i]? = some y ∧ VRel φ x y := by
  have hi : i < xs.length := (List.getElem?_eq_some_iff.1 hx).1
  have hi' : i < ys.length := by rw [← h.len]; exact hi
  exact ⟨ys[i], List.getElem?_eq_getElem hi', h.at_ i x _ hx (List.getElem?_eq_getElem hi')⟩
/-- The cells of a value and of what it means. -/
theorem VRel.cells {φ : Phi} {v : V} {x : Value} (h : VRel φ v x) {cs : List V} (hc : v.cells = some cs) : LRel φ cs x.cells.toList ∧ (∀ c ∈ cs, c.one = true) := by
  cases h with
  | agg hx h1 hxi => cases hc; exact ⟨⟨by simp [Value.cells, hx], fun i a b ha hb => hxi i a b ha (by simpa [Value.cells] using hb)⟩, h1⟩
  | tuple hx hxi => cases hc
  | bool b => cases hc; exact ⟨.cons (.bool b) (.nil φ), by simp [V.one]⟩
  | int k n => cases hc; exact ⟨.cons (.int k n) (.nil φ), by simp [V.one]⟩
  | str b => cases hc; exact ⟨.cons (.str b) (.nil φ), by simp [V.one]⟩
  | ptr hn => cases hc; exact ⟨.cons (.ptr hn) (.nil φ), by simp [V.one]⟩
  | nilptr => cases hc; exact ⟨.cons .nilptr (.nil φ), by simp [V.one]⟩
  | sliceE hn h1 h2 => cases hc; exact ⟨.cons (.sliceE hn h1 h2) (.nil φ), by simp [V.one]⟩
  | sliceO hn h1 h2 h3 => cases hc; exact ⟨.cons (.sliceO hn h1 h2 h3) (.nil φ), by simp [V.one]⟩
  | nilslice => cases hc; exact ⟨.cons .nilslice (.nil φ), by simp [V.one]⟩
  | map hn => cases hc; exact ⟨.cons (.map hn) (.nil φ), by simp [V.one]⟩
  | nilmap => cases hc; exact ⟨.cons .nilmap (.nil φ), by simp [V.one]⟩
  | func h1 h2 h3 h4 => cases hc; exact ⟨.cons (.func h1 h2 h3 h4) (.nil φ), by simp [V.one]⟩
  | nilFunc => cases hc; exact ⟨.cons .nilFunc (.nil φ), by simp [V.one]⟩

/-- The block in which an object lies. -/
def ORel (φ : Phi) (o : O) (l : Loc) (b : Option Obj) : Prop :=
  match o with
  | .row e _ cs => ∃ C : Array Value, b = some (.cells C e (0, 0)) ∧ l.sh + l.room = C.size ∧ cs.length = l.len ∧ l.len ≤ l.room ∧
      (∀ c ∈ cs, c.one = true) ∧ ∀ (i : Nat) (x : V), cs[i]? = some x → ∃ y, C[l.sh + i]? = some y ∧ VRel φ x y
  | .map _ es c => ∃ ES : Array MapEntry, b = some (.map ES c) ∧ es.length = ES.size ∧
      ∀ (i : Nat) (e : V × V × Nat) (E : MapEntry), es[i]? = some e → ES[i]? = some E → VRel φ e.1 E.key ∧ VRel φ e.2.1 E.val ∧ e.2.2 = E.born
  | .iter _ m since seen last => l.sh = 0 ∧ ∃ M : Option Nat, b = some (.mapIter M since seen.toArray last) ∧
      (match m with | none => M = none | some r => ∃ k, φ r = some k ∧ M = some k.blk)
theorem ORel.mono {φ φ' : Phi} (h : Ext φ φ') {o : O} {l : Loc} {b : Option Obj} (ho : ORel φ o l b) : ORel φ' o l b := by
  cases o with
  | row e s cs =>
    obtain ⟨C, h1, h2, h3, h4, h5, h6⟩ := ho
    exact ⟨C, h1, h2, h3, h4, h5, fun i x hx => let ⟨y, hy, hv⟩ := h6 i x hx; ⟨y, hy, hv.mono h⟩⟩
  | map s es c =>
    obtain ⟨ES, h1, h2, h3⟩ := ho
    exact ⟨ES, h1, h2, fun i e E he hE => let ⟨a, b, c⟩ := h3 i e E he hE; ⟨a.mono h, b.mono h, c⟩⟩
  | iter s m since seen last =>
    obtain ⟨h0, M, h1, h2⟩ := ho
    refine ⟨h0, M, h1, ?_⟩
    cases m with
    | none => exact h2
    | some r => obtain ⟨k, hk, hM⟩ := h2; exact ⟨k, h _ _ hk, hM⟩
/-- The same object under another stamp. -/
def O.same : O → O → Prop
  | .row e _ cs, .row e' _ cs' => e = e' ∧ cs = cs'
  | .map _ es c, .map _ es' c' => es = es' ∧ c = c'
  | .iter _ m a b c, .iter _ m' a' b' c' => m = m' ∧ a = a' ∧ b = b' ∧ c = c'
  | _, _ => False

/-- A world bears objects. -/
structure Inv (H : Nat → Option O) (φ : Phi) (w : World) : Prop where
  obj : ∀ n o, H n = some o → ∃ l, φ n = some l ∧ ORel φ o l w.heap[l.blk]?
  inj : ∀ n m l k, (H n).isSome = true → (H m).isSome = true → φ n = some l → φ m = some k → n ≠ m → l.blk ≠ k.blk
  in_ : ∀ n l, φ n = some l → l.blk < w.heap.size

/-- What is asked ahead of a piece of the evaluator's work from s to s'. -/
structure Pre (s s' : St) (H : Nat → Option O) (φ : Phi) (w : World) : Prop where
  sub : ∀ n o, s.get n = some o → H n = some o
  inv : Inv H φ w
  fresh : ∀ n, s.ctr ≤ n → n < s'.ctr → φ n = none

/-- What holds behind it. -/
structure Post (s s' : St) (H : Nat → Option O) (φ : Phi) (w : World) (H' : Nat → Option O) (φ' : Phi) (w' : World) : Prop where
  sub : ∀ n o, s'.get n = some o → H' n = some o
  inv : Inv H' φ' w'
  phi : ∀ n, (n < s.ctr ∨ s'.ctr ≤ n) → φ' n = φ n
  keep : ∀ n, (n < s.ctr ∨ s'.ctr ≤ n) → s.get n = none → H' n = H n
  os : w'.os = w.os
  tape : w'.tape = w.tape
  output : w'.output = w.output
  size : w.heap.size ≤ w'.heap.size
  frame : ∀ b, b < w.heap.size → (∀ n l, φ n = some l → l.blk ≠ b) → w'.heap[b]? = w.heap[b]?
  blk : ∀ n l, φ' n = some l → (∃ m k, φ m = some k ∧ k.blk = l.blk) ∨ w.heap.size ≤ l.blk

theorem Post.ext {s s' : St} {H H' : Nat → Option O} {φ φ' : Phi} {w w' : World} (p : Pre s s' H φ w) (h : Post s s' H φ w H' φ' w') : Ext φ φ' := by
  intro n l hl
  by_cases hn : n < s.ctr ∨ s'.ctr ≤ n
  · rw [h.phi n hn]; exact hl
  · have := p.fresh n (by omega) (by omega)
    rw [this] at hl; cases hl

/-- Nothing but the count of draws has turned. -/
theorem Post.same {s s' : St} {H : Nat → Option O} {φ : Phi} {w w' : World} (p : Pre s s' H φ w) (hg : ∀ n o, s'.get n = some o → s.get n = some o)
    (hh : w'.heap = w.heap) (ho : w'.os = w.os) (ht : w'.tape = w.tape) (hp : w'.output = w.output) : Post s s' H φ w H φ w' := by
  refine ⟨fun n o h => p.sub n o (hg n o h), ⟨?_, p.inv.inj, ?_⟩, fun _ _ => rfl, fun _ _ _ => rfl, ho, ht, hp, by rw [hh]; exact Nat.le_refl _, fun b _ _ => by rw [hh], fun n l h => .inl ⟨n, l, h, rfl⟩⟩
  · rw [hh]; exact p.inv.obj
  · rw [hh]; exact p.inv.in_
theorem Post.refl {s : St} {H : Nat → Option O} {φ : Phi} {w : World} (p : Pre s s H φ w) : Post s s H φ w H φ w :=
  .same p (fun _ _ h => h) rfl rfl rfl rfl

theorem Pre.left {s s₁ s' : St} {H : Nat → Option O} {φ : Phi} {w : World} (p : Pre s s' H φ w) (k : Mono s₁ s') : Pre s s₁ H φ w :=
  ⟨p.sub, p.inv, fun n h1 h2 => p.fresh n h1 (Nat.lt_of_lt_of_le h2 k.ctr)⟩
theorem Pre.right {s s₁ s' : St} {H H₁ : Nat → Option O} {φ φ₁ : Phi} {w w₁ : World} (p : Pre s s' H φ w) (m : Mono s s₁) (h : Post s s₁ H φ w H₁ φ₁ w₁) : Pre s₁ s' H₁ φ₁ w₁ :=
  ⟨h.sub, h.inv, fun n h1 h2 => by rw [h.phi n (.inr h1)]; exact p.fresh n (Nat.le_trans m.ctr h1) h2⟩
theorem Post.trans {s s₁ s' : St} {H H₁ H' : Nat → Option O} {φ φ₁ φ' : Phi} {w w₁ w' : World} (m : Mono s s₁) (m' : Mono s₁ s')
    (h : Post s s₁ H φ w H₁ φ₁ w₁) (k : Post s₁ s' H₁ φ₁ w₁ H' φ' w') : Post s s' H φ w H' φ' w' := by
  have hc := m.ctr
  have hc' := m'.ctr
  refine ⟨k.sub, k.inv, fun n hn => ?_, fun n hn hd => ?_, k.os.trans h.os, k.tape.trans h.tape, k.output.trans h.output, Nat.le_trans h.size k.size, fun b hb hf => ?_, fun n l hl => ?_⟩
  · rw [k.phi n (by omega), h.phi n (by omega)]
  · have hd1 : s₁.get n = none := by
      rcases hn with hn | hn
      · exact m.dead n hn hd
      · exact St.get_ge (by omega)
    rw [k.keep n (by omega) hd1, h.keep n (by omega) hd]
  · rw [k.frame b (Nat.lt_of_lt_of_le hb h.size) (fun n l hl e => ?_), h.frame b hb hf]
    rcases h.blk n l hl with ⟨j, q, hq, e'⟩ | hge
    · exact hf j q hq (e'.trans e)
    · omega
  · rcases k.blk n l hl with ⟨j, q, hq, e⟩ | hge
    · rcases h.blk j q hq with ⟨j', q', hq', e'⟩ | hge
      · exact .inl ⟨j', q', hq', e'.trans e⟩
      · exact .inr (by omega)
    · exact .inr (Nat.le_trans h.size hge)

/-- Names told anew. -/
def upd {α : Type} (f : Nat → Option α) (n : Nat) (x : Option α) : Nat → Option α := fun m => if m = n then x else f m
theorem upd_same {α : Type} (f : Nat → Option α) (n : Nat) (x : Option α) : upd f n x n = x := if_pos rfl
theorem upd_other {α : Type} (f : Nat → Option α) (n : Nat) (x : Option α) {m : Nat} (h : m ≠ n) : upd f n x m = f m := if_neg h

/-- A new object in a new block. -/
theorem Post.alloc {s s' : St} {H : Nat → Option O} {φ : Phi} {w w' : World} {n : Nat} {f : Nat → O} {X : Obj} {len room : Nat}
    (hs : s.new f = some (n, s')) (p : Pre s s' H φ w) (hh : w'.heap = w.heap.push X) (ho : w'.os = w.os) (ht : w'.tape = w.tape) (hp : w'.output = w.output)
    (hX : ∀ φ', Ext φ φ' → ORel φ' (f s.clk) ⟨w.heap.size, 0, len, room⟩ (some X)) :
    Post s s' H φ w (upd H n (some (f s.clk))) (upd φ n (some ⟨w.heap.size, 0, len, room⟩)) w' := by
  obtain ⟨rfl, hc, _, hg⟩ := St.new_spec hs
  have hfr : φ s.ctr = none := p.fresh _ (Nat.le_refl _) (by omega)
  have hext : Ext φ (upd φ s.ctr (some ⟨w.heap.size, 0, len, room⟩)) := by
    intro m l hl
    rw [upd_other _ _ _ (fun e => by subst e; rw [hfr] at hl; cases hl)]
    exact hl
  have hold : ∀ b, b < w.heap.size → w'.heap[b]? = w.heap[b]? := fun b hb => by rw [hh, Array.getElem?_push, if_neg (by omega)]
  have hnew : w'.heap[w.heap.size]? = some X := by rw [hh, Array.getElem?_push, if_pos rfl]
  refine ⟨fun m o h => ?_, ⟨fun m o h => ?_, fun m m' l k h1 h2 hl hk hne => ?_, fun m l hl => ?_⟩, fun m hm => ?_, fun m hm _ => ?_, ho, ht, hp, ?_, fun b hb _ => hold b hb, fun m l hl => ?_⟩
  · rw [hg] at h
    unfold upd
    split at h
    · rename_i e; rw [if_pos e]; exact h
    · rename_i e; rw [if_neg e]; exact p.sub m o h
  · by_cases e : m = s.ctr
    · subst e
      rw [upd_same] at h
      injection h with h; subst h
      exact ⟨_, upd_same _ _ _, by rw [hnew]; exact hX _ hext⟩
    · rw [upd_other _ _ _ e] at h
      obtain ⟨l, hl, hr⟩ := p.inv.obj m o h
      exact ⟨l, hext _ _ hl, by rw [hold _ (p.inv.in_ m l hl)]; exact hr.mono hext⟩
  · by_cases e : m = s.ctr
    · by_cases e' : m' = s.ctr
      · exact absurd (e.trans e'.symm) hne
      · subst e
        rw [upd_same] at hl; rw [upd_other _ _ _ e'] at hk
        injection hl with hl; subst hl
        have := p.inv.in_ m' k hk
        exact fun e => by simp at e; omega
    · rw [upd_other _ _ _ e] at hl h1
      by_cases e' : m' = s.ctr
      · subst e'
        rw [upd_same] at hk
        injection hk with hk; subst hk
        have := p.inv.in_ m l hl
        exact fun e => by simp at e; omega
      · rw [upd_other _ _ _ e'] at hk h2
        exact p.inv.inj m m' l k h1 h2 hl hk hne
  · by_cases e : m = s.ctr
    · subst e
      rw [upd_same] at hl
      injection hl with hl; subst hl
      rw [hh, Array.size_push]
      exact Nat.lt_succ_self _
    · rw [upd_other _ _ _ e] at hl
      have := p.inv.in_ m l hl
      rw [hh, Array.size_push]; omega
  · exact upd_other _ _ _ (by omega)
  · exact upd_other _ _ _ (by omega)
  · rw [hh, Array.size_push]; omega
  · by_cases e : m = s.ctr
    · subst e
      rw [upd_same] at hl
      injection hl with hl; subst hl
      exact .inr (Nat.le_refl _)
    · rw [upd_other _ _ _ e] at hl
      exact .inl ⟨m, l, hl, rfl⟩

/-- An object in the place of one that was there. -/
theorem Post.store {s s' : St} {H : Nat → Option O} {φ : Phi} {w w' : World} {n : Nat} {f : Nat → O} {o : O} {l : Loc}
    (hs : s.set n f = some s') (p : Pre s s' H φ w) (ho₀ : s.get n = some o) (hl : φ n = some l)
    (hold : ∀ b, b ≠ l.blk → w'.heap[b]? = w.heap[b]?) (hz : w'.heap.size = w.heap.size) (ho : w'.os = w.os) (ht : w'.tape = w.tape) (hp : w'.output = w.output)
    (hX : ORel φ (f s.clk) l w'.heap[l.blk]?) : Post s s' H φ w (upd H n (some (f s.clk))) φ w' := by
  obtain ⟨hlt, hc, _, hg⟩ := St.set_spec hs
  have hHn : (H n).isSome = true := by rw [p.sub n o ho₀]; rfl
  have hs' : ∀ m, (upd H n (some (f s.clk)) m).isSome = true → (H m).isSome = true := fun m h => by
    by_cases e : m = n
    · subst e; exact hHn
    · rw [upd_other _ _ _ e] at h; exact h
  refine ⟨fun m o' h => ?_, ⟨fun m o' h => ?_, fun m m' l k h1 h2 hl hk hne => p.inv.inj m m' l k (hs' m h1) (hs' m' h2) hl hk hne, fun m l hl => by rw [hz]; exact p.inv.in_ m l hl⟩, fun _ _ => rfl, fun m hm hd => ?_, ho, ht, hp, by rw [hz]; exact Nat.le_refl _, fun b hb hf => hold b (fun e => hf n l hl e.symm), fun m l hl => .inl ⟨m, l, hl, rfl⟩⟩
  · rw [hg] at h
    unfold upd
    split at h
    · rename_i e; rw [if_pos e]; exact h
    · rename_i e; rw [if_neg e]; exact p.sub m o' h
  · by_cases e : m = n
    · subst e
      rw [upd_same] at h
      injection h with h; subst h
      exact ⟨l, hl, hX⟩
    · rw [upd_other _ _ _ e] at h
      obtain ⟨k, hk, hr⟩ := p.inv.obj m o' h
      refine ⟨k, hk, ?_⟩
      rw [hold _ (p.inv.inj m n k l (by rw [h]; rfl) hHn hk hl e)]
      exact hr
  · exact upd_other _ _ _ (fun e => by subst e; rw [hd] at ho₀; cases ho₀)
end Go.Ev
