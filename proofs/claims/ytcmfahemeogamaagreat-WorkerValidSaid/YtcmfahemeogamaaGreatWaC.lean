/- worker.find (function 14) and worker.Valid (function 5) by their contracts. -/
import Derived.Test.YtcmfahemeogamaaGreatWaB
namespace Go.Ev.Wa
open Go.Proofs Go.RowKit

/-- A slice of n leases, as it lies in memory; nil is one too. -/
inductive Leases (w : World) (n : Nat) (L : Nat → Le) : Value → Prop where
  | none (hn : n = 0) (a : Option Addr) (cap : Nat) : Leases w n L (.slice a 0 cap)
  | some (b off cap : Nat) (hb : b < w.heap.size) (hl : Lies w b off n L) : Leases w n L (.slice (some ⟨b, off, none⟩) n cap)

theorem Lies.below {B b off n : Nat} {w w' : World} {L : Nat → Le} (h : Lies w b off n L) (hb : b < B) (hw : Below B w w') : Lies w' b off n L :=
  fun i hi j v hj => (hw.cell (by exact hb)).trans (h i hi j v hj)
theorem Leases.below {n : Nat} {w w' : World} {L : Nat → Le} {s : Value} (h : Leases w n L s) (hw : Below w.heap.size w w') : Leases w' n L s := by
  cases h with
  | none hn a cap => exact .none hn a cap
  | some b off cap hb hl => exact .some b off cap (Nat.lt_of_lt_of_le hb hw.size) (hl.below hb hw)

set_option maxHeartbeats 1600000 in
theorem index_nil (a : Option Addr) (cap : Nat) (f : Value) (w : World) :
    Calls Tryz.prog 42 #[.slice a 0 cap, f] w fun e w' => e = .returned (.int .i64 (-1)) ∧ w = w' := by
  go_enter Tryz.func42, Tryz.ntmps42
  go_wp2
  refine wp_loop_rounds 1 ?_
  rw [rounds_succ]
  go_wp2
  go_ret
  exact ⟨rfl, rfl⟩

/-- The search at the closure: over any slice. -/
theorem index_all {B bi bp n : Nat} {L : Nat → Le} {next : Int} {s : Value} {w0 w : World} (hn : n ≤ 201) (hs : Leases w0 n L s) (hB : B = w0.heap.size) (hw : Below B w0 w) (hi : B ≤ bi) (hne : bi ≠ bp)
    (h : Held B bi bp 0 next w w) :
    Calls Tryz.prog 42 #[s, .func (.func 15) #[] #[.pointer (some ⟨bi, 0, none⟩), .pointer (some ⟨bp, 0, none⟩)]] w (Idx B w L next n) := by
  subst hB
  cases hs with
  | none hn a cap =>
    subst hn
    refine (index_nil a cap _ w).mono ?_
    rintro e w' ⟨rfl, rfl⟩
    exact ⟨_, rfl, ⟨fun _ i hi => by omega, fun _ => by decide⟩, Below.refl _ _⟩
  | some b off cap hb hl => exact index_any _ b off n cap bi bp L next w hn hb hw.size hi hne (hl.below hb hw) h

set_option maxHeartbeats 1600000 in
theorem find_all {B bi bp n : Nat} {L : Nat → Le} {next : Int} {s : Value} {w0 w : World} (hn : n ≤ 201) (hs : Leases w0 n L s) (hB : B = w0.heap.size) (hw : Below B w0 w) (hi : B ≤ bi) (hne : bi ≠ bp)
    (h : Held B bi bp 0 next w w) :
    Calls Tryz.prog 14 #[s, .func (.func 15) #[] #[.pointer (some ⟨bi, 0, none⟩), .pointer (some ⟨bp, 0, none⟩)]] w (Idx B w L next n) := by
  have hc := index_all hn hs hB hw hi hne h
  clear hs h hw
  go_enter Tryz.func14, Tryz.ntmps14
  go_wp2_with fail
  refine hc.mono ?_
  rintro e w1 ⟨r, rfl, hr, hb⟩
  clear hc
  go_wp2
  go_ret
  exact ⟨r, rfl, hr, hb⟩

/-- What both functions ask of a pool. -/
def Sound (n : Nat) (next : Int) (L : Nat → Le) : Prop := 1 ≤ next ∧ next ≤ 1000000 ∧ n ≤ 200 ∧ good L next n

def Says (p : Prop) (w : World) (e : Ending) (w' : World) : Prop := ∃ r : Bool, e = .returned (.bool r) ∧ (r = true ↔ p) ∧ Below w.heap.size w w'

theorem Leases.len {w : World} {n : Nat} {L : Nat → Le} {s : Value} (h : Leases w n L s) : ∃ a cap, s = .slice a n cap := by
  cases h with
  | none hn a cap => exact ⟨a, cap, by rw [hn]⟩
  | some b off cap hb hl => exact ⟨_, _, rfl⟩

set_option maxHeartbeats 1600000 in
theorem valid_short {n : Nat} {L : Nat → Le} {next : Int} {s : Value} {w : World} (hn : n ≤ 201) (hs : Leases w n L s) (h : decide (next < 1) = true ∨ decide (next < 1) = false ∧ (decide (1000000 < next) = true ∨ decide (1000000 < next) = false ∧ decide ((200 : Int) < (n : Int)) = true)) :
    Calls Tryz.prog 5 #[.agg #[s, .int .i64 next]] w (Says (Sound n next L) w) := by
  obtain ⟨a, cap, rfl⟩ := hs.len
  clear hs
  rcases h with h1 | ⟨h1, h2 | ⟨h2, h3⟩⟩
  · go_enter Tryz.func5, Tryz.ntmps5
    go_wp2
    go_ret
    exact ⟨_, rfl, ⟨(fun h => by cases h), fun h => by have := h.1; simp at h1; omega⟩, (Below.refl _ _).alloc (Nat.le_refl _) _⟩
  · go_enter Tryz.func5, Tryz.ntmps5
    go_wp2
    go_ret
    exact ⟨_, rfl, ⟨(fun h => by cases h), fun h => by have := h.2.1; simp at h2; omega⟩, (Below.refl _ _).alloc (Nat.le_refl _) _⟩
  · go_enter Tryz.func5, Tryz.ntmps5
    go_wp2
    go_ret
    exact ⟨_, rfl, ⟨(fun h => by cases h), fun h => by have := h.2.2.1; simp at h3; omega⟩, (Below.refl _ _).alloc (Nat.le_refl _) _⟩

set_option maxHeartbeats 1600000 in
theorem valid_long {n : Nat} {L : Nat → Le} {next : Int} {s : Value} {w : World} (hn : n ≤ 201) (hs : Leases w n L s) (h1 : decide (next < 1) = false) (h2 : decide (1000000 < next) = false) (h3 : decide ((200 : Int) < (n : Int)) = false) :
    Calls Tryz.prog 5 #[.agg #[s, .int .i64 next]] w (Says (Sound n next L) w) := by
  have hc := @find_all w.heap.size (w.heap.size + 1) w.heap.size n L next s w ((w.alloc (.cells #[s, .int .i64 next] 25)).alloc (.cells #[.int .i64 0] 3)) hn hs rfl
     (((Below.refl _ _).alloc (Nat.le_refl _) _).alloc (by simp) _) (by omega) (by omega) 
     ⟨Below.refl _ _, by rw [World.cell?_alloc_at _ _ _ _ (by simp)]; rfl, World.frozen?_alloc_at _ _ _ _ (by simp), by rw [World.cell?_alloc_past _ _ _ (by simp), World.cell?_alloc_at _ _ _ _ rfl]; rfl, by simp, by simp; omega⟩
  obtain ⟨a, cap, rfl⟩ := hs.len
  clear hs
  go_enter Tryz.func5, Tryz.ntmps5
  go_wp2_with fail
  refine hc.mono ?_
  rintro e w1 ⟨r, rfl, hr, hb⟩
  clear hc
  go_wp2
  go_ret
  refine ⟨_, rfl, ⟨fun h => ⟨?_, ?_, ?_, ?_⟩, fun h => ?_⟩, (((Below.refl _ _).alloc (Nat.le_refl _) _).alloc (by simp) _).trans hb⟩
  · simp at h1; omega
  · simp at h2; omega
  · simp at h3; omega
  · exact hr.1 (by simpa using h)
  · simpa using hr.2 h.2.2.2

theorem valid_any {n : Nat} {L : Nat → Le} {next : Int} {s : Value} {w : World} (hn : n ≤ 201) (hs : Leases w n L s) :
    Calls Tryz.prog 5 #[.agg #[s, .int .i64 next]] w (Says (Sound n next L) w) := by
  cases h1 : decide (next < 1)
  case true => exact valid_short hn hs (.inl h1)
  cases h2 : decide (1000000 < next)
  case true => exact valid_short hn hs (.inr ⟨h1, .inl h2⟩)
  cases h3 : decide ((200 : Int) < (n : Int))
  case true => exact valid_short hn hs (.inr ⟨h1, .inr ⟨h2, h3⟩⟩)
  exact valid_long hn hs h1 h2 h3
end Go.Ev.Wa
