/- The reference's Valid (function 6) by its contract. -/
import Derived.Test.YtcmfahemeogamaaGreatWaC
import Derived.Deep.QuietTactic
import Derived.BigQuiet
namespace Go.Ev.Wa
open Go.Proofs Go.RowKit

set_option maxHeartbeats 1600000 in
theorem ref_short {n : Nat} {L : Nat → Le} {next : Int} {s : Value} {w : World} (hn : n ≤ 201) (hs : Leases w n L s) (h : decide (next < 1) = true ∨ decide (next < 1) = false ∧ (decide (1000000 < next) = true ∨ decide (1000000 < next) = false ∧ decide ((200 : Int) < (n : Int)) = true)) :
    Calls Tryz.prog 6 #[.agg #[s, .int .i64 next]] w (Says (Sound n next L) w) := by
  obtain ⟨a, cap, rfl⟩ := hs.len
  clear hs
  rcases h with h1 | ⟨h1, h2 | ⟨h2, h3⟩⟩
  · go_enter Tryz.func6, Tryz.ntmps6
    go_wp2
    go_ret
    exact ⟨_, rfl, ⟨(fun h => by cases h), fun h => by have := h.1; simp at h1; omega⟩, (Below.refl _ _).alloc (Nat.le_refl _) _⟩
  · go_enter Tryz.func6, Tryz.ntmps6
    go_wp2
    go_ret
    exact ⟨_, rfl, ⟨(fun h => by cases h), fun h => by have := h.2.1; simp at h2; omega⟩, (Below.refl _ _).alloc (Nat.le_refl _) _⟩
  · go_enter Tryz.func6, Tryz.ntmps6
    go_wp2
    go_ret
    exact ⟨_, rfl, ⟨(fun h => by cases h), fun h => by have := h.2.2.1; simp at h3; omega⟩, (Below.refl _ _).alloc (Nat.le_refl _) _⟩

/-- What the round of the reference's loop needs of the world. -/
structure Rests (B : Nat) (next : Int) (s : Value) (w wr : World) : Prop where
  below : Below B w wr
  s : wr.cell? ⟨B, 0, none⟩ = some s
  next : wr.cell? ⟨B, 1, none⟩ = some (.int .i64 next)
  lt : B < wr.heap.size

theorem Rests.alloc {B : Nat} {next : Int} {s : Value} {w wr : World} (h : Rests B next s w wr) (o : Obj) : Rests B next s w (wr.alloc o) :=
  have := h.lt
  ⟨h.below.alloc (by omega) o, (World.cell?_alloc_past _ _ _ h.lt).trans h.s, (World.cell?_alloc_past _ _ _ h.lt).trans h.next, by simp; omega⟩
theorem Rests.drewN {B : Nat} {next : Int} {s : Value} {w wr : World} (h : Rests B next s w wr) (m : Nat) : Rests B next s w (wr.drewN m) :=
  ⟨⟨h.below.os, h.below.tape, h.below.output, h.below.size, h.below.block⟩, h.s, h.next, h.lt⟩

/-- What the two orders of tests come to. -/
theorem prev_nonneg {L : Nat → Le} {next : Int} {k : Nat} (h : good L next k) : 0 ≤ prev L k := by
  induction k with
  | zero => exact Int.le_refl _
  | succ j ih =>
    have h1 := ih fun i hi => h i (by omega)
    have h2 := h j (by omega)
    simp only [bad, Bool.or_eq_false_iff, decide_eq_false_iff_not] at h2
    show 0 ≤ (L j).a
    omega
theorem bad_true {L : Nat → Le} {next : Int} {k : Nat} (hg : good L next k) (h : (L k).a < 1 ∨ next ≤ (L k).a ∨ (L k).a ≤ prev L k ∨ (L k).b < 1 ∨ (L k).c < 1 ∨ 1000 < (L k).c ∨ (L k).d < 0 ∨ 12 < (L k).d ∨ (L k).e < 20 ∨ 1000000020 < (L k).e) : bad (prev L k) next (L k) = true := by
  have := prev_nonneg hg
  simp only [bad, Bool.or_eq_true, decide_eq_true_eq]
  omega
theorem good_more {L : Nat → Le} {next : Int} {k : Nat} (hg : good L next k) (h : ¬((L k).a < 1 ∨ next ≤ (L k).a ∨ (L k).a ≤ prev L k ∨ (L k).b < 1 ∨ (L k).c < 1 ∨ 1000 < (L k).c ∨ (L k).d < 0 ∨ 12 < (L k).d ∨ (L k).e < 20 ∨ 1000000020 < (L k).e)) : good L next (k + 1) := by
  intro i hi
  by_cases e : i = k
  · subst e
    simp only [bad, Bool.or_eq_false_iff, decide_eq_false_iff_not]
    omega
  · exact hg i (by omega)

set_option maxHeartbeats 1600000 in
theorem ref_nil (a : Option Addr) (cap : Nat) {L : Nat → Le} {next : Int} {w : World} (h1 : decide (next < 1) = false) (h2 : decide (1000000 < next) = false) :
    Calls Tryz.prog 6 #[.agg #[.slice a 0 cap, .int .i64 next]] w (Says (Sound 0 next L) w) := by
  go_enter Tryz.func6, Tryz.ntmps6
  go_wp2
  refine wp_loop_rounds 1 ?_
  rw [rounds_succ]
  go_wp2
  go_ret
  exact ⟨true, rfl, ⟨fun _ => ⟨by simp at h1; omega, by simp at h2; omega, by omega, fun i hi => by omega⟩, fun _ => rfl⟩, (Below.refl _ _).alloc (Nat.le_refl _) _⟩

set_option maxHeartbeats 4000000 in
set_option maxRecDepth 100000 in
theorem ref_long (n b off cap : Nat) {L : Nat → Le} {next : Int} {w : World} (hn : n ≤ 201) (hb : b < w.heap.size) (hl : Lies w b off n L) (h1 : decide (next < 1) = false) (h2 : decide (1000000 < next) = false) (h3 : decide ((200 : Int) < (n : Int)) = false) :
    Calls Tryz.prog 6 #[.agg #[.slice (some ⟨b, off, none⟩) n cap, .int .i64 next]] w (Says (Sound n next L) w) := by
  have hr : Rests w.heap.size next (.slice (some ⟨b, off, none⟩) n cap) w (w.alloc (.cells #[.slice (some ⟨b, off, none⟩) n cap, .int .i64 next] 25)) := 
    ⟨(Below.refl _ _).alloc (Nat.le_refl _) _, by rw [World.cell?_alloc_at _ _ _ _ rfl]; rfl, by rw [World.cell?_alloc_at _ _ _ _ rfl]; rfl, by simp⟩
  go_enter Tryz.func6, Tryz.ntmps6
  go_wp2
  go_loopw [3] (fun i wr => ∃ k : Nat, k ≤ n ∧ i = .int .i64 k ∧ good L next k ∧ Rests w.heap.size next (.slice (some ⟨b, off, none⟩) n cap) w wr) (fun i _ => n - (intOf i).toNat)
  case atStart => exact ⟨0, Nat.zero_le _, rfl, fun i hi => by omega, hr⟩
  case round =>
    obtain ⟨k, hk, rfl, hg, hh⟩ := hrel
    clear hr
    by_cases hlt : k < n
    · have c0 : wr.cell? ⟨b, off + k * 6, none⟩ = some (.int .i64 (L k).a) := (hh.below.cell (by exact hb)).trans (hl k hlt 0 _ rfl)
      have c1 : wr.cell? ⟨b, off + k * 6 + 1, none⟩ = some (.int .i64 (L k).b) := (hh.below.cell (by exact hb)).trans (hl k hlt 1 _ rfl)
      have c2 : wr.cell? ⟨b, off + k * 6 + 2, none⟩ = some (.int .i64 (L k).c) := (hh.below.cell (by exact hb)).trans (hl k hlt 2 _ rfl)
      have c3 : wr.cell? ⟨b, off + k * 6 + 3, none⟩ = some (.int .i64 (L k).d) := (hh.below.cell (by exact hb)).trans (hl k hlt 3 _ rfl)
      have c4 : wr.cell? ⟨b, off + k * 6 + 4, none⟩ = some (.int .i64 (L k).e) := (hh.below.cell (by exact hb)).trans (hl k hlt 4 _ rfl)
      have c5 : wr.cell? ⟨b, off + k * 6 + 5, none⟩ = some (.bool (L k).o) := (hh.below.cell (by exact hb)).trans (hl k hlt 5 _ rfl)
      have q0 := hh.s
      have q1 := hh.next
      have qc := hh.alloc
      have lt := hh.lt
      have ltb : b < wr.heap.size := by omega
      have hg0 := Lib.hid hg
      clear hg
      rcases k with _ | j
      · have ltn : 0 < n := hlt
        simp only [Nat.zero_mul, Nat.add_zero] at c0 c1 c2 c3 c4 c5
        cases e0 : decide ((L 0).a < 1)
        case true =>
          have r := Lib.hid (bad_true hg0.out (by have := of_decide_eq_true e0; simp only [prev]; omega))
          go_wp2_with fail
          go_quiet (fail)
          go_wp2_with fail
          go_ret
          exact ⟨false, rfl, ⟨(fun h => by cases h), fun h => by have := h.2.2.2 _ hlt; rw [r.out] at this; cases this⟩, ((qc _).drewN _).below⟩
        cases e1 : decide (next ≤ (L 0).a)
        case true =>
          have r := Lib.hid (bad_true hg0.out (by have := of_decide_eq_true e1; simp only [prev]; omega))
          go_wp2_with fail
          go_quiet (fail)
          go_wp2_with fail
          go_ret
          exact ⟨false, rfl, ⟨(fun h => by cases h), fun h => by have := h.2.2.2 _ hlt; rw [r.out] at this; cases this⟩, ((qc _).drewN _).below⟩
        cases e2 : decide ((L 0).b < 1)
        case true =>
          have r := Lib.hid (bad_true hg0.out (by have := of_decide_eq_true e2; simp only [prev]; omega))
          go_wp2_with fail
          go_quiet (fail)
          go_wp2_with fail
          go_ret
          exact ⟨false, rfl, ⟨(fun h => by cases h), fun h => by have := h.2.2.2 _ hlt; rw [r.out] at this; cases this⟩, ((qc _).drewN _).below⟩
        cases e3 : decide ((L 0).c < 1)
        case true =>
          have r := Lib.hid (bad_true hg0.out (by have := of_decide_eq_true e3; simp only [prev]; omega))
          go_wp2_with fail
          go_quiet (fail)
          go_wp2_with fail
          go_ret
          exact ⟨false, rfl, ⟨(fun h => by cases h), fun h => by have := h.2.2.2 _ hlt; rw [r.out] at this; cases this⟩, ((qc _).drewN _).below⟩
        cases e4 : decide (1000 < (L 0).c)
        case true =>
          have r := Lib.hid (bad_true hg0.out (by have := of_decide_eq_true e4; simp only [prev]; omega))
          go_wp2_with fail
          go_quiet (fail)
          go_wp2_with fail
          go_ret
          exact ⟨false, rfl, ⟨(fun h => by cases h), fun h => by have := h.2.2.2 _ hlt; rw [r.out] at this; cases this⟩, ((qc _).drewN _).below⟩
        cases e5 : decide ((L 0).d < 0)
        case true =>
          have r := Lib.hid (bad_true hg0.out (by have := of_decide_eq_true e5; simp only [prev]; omega))
          go_wp2_with fail
          go_quiet (fail)
          go_wp2_with fail
          go_ret
          exact ⟨false, rfl, ⟨(fun h => by cases h), fun h => by have := h.2.2.2 _ hlt; rw [r.out] at this; cases this⟩, ((qc _).drewN _).below⟩
        cases e6 : decide (12 < (L 0).d)
        case true =>
          have r := Lib.hid (bad_true hg0.out (by have := of_decide_eq_true e6; simp only [prev]; omega))
          go_wp2_with fail
          go_quiet (fail)
          go_wp2_with fail
          go_ret
          exact ⟨false, rfl, ⟨(fun h => by cases h), fun h => by have := h.2.2.2 _ hlt; rw [r.out] at this; cases this⟩, ((qc _).drewN _).below⟩
        cases e7 : decide ((L 0).e < 20)
        case true =>
          have r := Lib.hid (bad_true hg0.out (by have := of_decide_eq_true e7; simp only [prev]; omega))
          go_wp2_with fail
          go_quiet (fail)
          go_wp2_with fail
          go_ret
          exact ⟨false, rfl, ⟨(fun h => by cases h), fun h => by have := h.2.2.2 _ hlt; rw [r.out] at this; cases this⟩, ((qc _).drewN _).below⟩
        cases e8 : decide (1000000020 < (L 0).e)
        case true =>
          have r := Lib.hid (bad_true hg0.out (by have := of_decide_eq_true e8; simp only [prev]; omega))
          go_wp2_with fail
          go_quiet (fail)
          go_wp2_with fail
          go_ret
          exact ⟨false, rfl, ⟨(fun h => by cases h), fun h => by have := h.2.2.2 _ hlt; rw [r.out] at this; cases this⟩, ((qc _).drewN _).below⟩
        have r := Lib.hid (good_more hg0.out (by have f0 := of_decide_eq_false e0; have f1 := of_decide_eq_false e1; have f2 := of_decide_eq_false e2; have f3 := of_decide_eq_false e3; have f4 := of_decide_eq_false e4; have f5 := of_decide_eq_false e5; have f6 := of_decide_eq_false e6; have f7 := of_decide_eq_false e7; have f8 := of_decide_eq_false e8; simp only [prev]; omega))
        go_wp2_with fail
        go_quiet (fail)
        go_wp2_with fail
        go_roundw
        case rel => exact ⟨0 + 1, by omega, by go_num, r.out, (qc _).drewN _⟩
        case measure => simp [intOf]; omega
      · have c6 : wr.cell? ⟨b, off + j * 6, none⟩ = some (.int .i64 (L j).a) := (hh.below.cell (by exact hb)).trans (hl j (by omega) 0 _ rfl)
        have hj : j < n := by omega
        have hjk : (0 : Int) < ↑j + 1 := by omega
        cases e0 : decide ((L (j + 1)).a < 1)
        case true =>
          have r := Lib.hid (bad_true hg0.out (by have := of_decide_eq_true e0; simp only [prev]; omega))
          go_wp2_with fail
          go_quiet (fail)
          go_wp2_with fail
          go_ret
          exact ⟨false, rfl, ⟨(fun h => by cases h), fun h => by have := h.2.2.2 _ hlt; rw [r.out] at this; cases this⟩, ((qc _).drewN _).below⟩
        cases e1 : decide (next ≤ (L (j + 1)).a)
        case true =>
          have r := Lib.hid (bad_true hg0.out (by have := of_decide_eq_true e1; simp only [prev]; omega))
          go_wp2_with fail
          go_quiet (fail)
          go_wp2_with fail
          go_ret
          exact ⟨false, rfl, ⟨(fun h => by cases h), fun h => by have := h.2.2.2 _ hlt; rw [r.out] at this; cases this⟩, ((qc _).drewN _).below⟩
        cases e2 : decide ((L (j + 1)).a ≤ (L j).a)
        case true =>
          have r := Lib.hid (bad_true hg0.out (by have := of_decide_eq_true e2; simp only [prev]; omega))
          go_wp2_with fail
          go_quiet (fail)
          go_wp2_with fail
          go_ret
          exact ⟨false, rfl, ⟨(fun h => by cases h), fun h => by have := h.2.2.2 _ hlt; rw [r.out] at this; cases this⟩, ((qc _).drewN _).below⟩
        cases e3 : decide ((L (j + 1)).b < 1)
        case true =>
          have r := Lib.hid (bad_true hg0.out (by have := of_decide_eq_true e3; simp only [prev]; omega))
          go_wp2_with fail
          go_quiet (fail)
          go_wp2_with fail
          go_ret
          exact ⟨false, rfl, ⟨(fun h => by cases h), fun h => by have := h.2.2.2 _ hlt; rw [r.out] at this; cases this⟩, ((qc _).drewN _).below⟩
        cases e4 : decide ((L (j + 1)).c < 1)
        case true =>
          have r := Lib.hid (bad_true hg0.out (by have := of_decide_eq_true e4; simp only [prev]; omega))
          go_wp2_with fail
          go_quiet (fail)
          go_wp2_with fail
          go_ret
          exact ⟨false, rfl, ⟨(fun h => by cases h), fun h => by have := h.2.2.2 _ hlt; rw [r.out] at this; cases this⟩, ((qc _).drewN _).below⟩
        cases e5 : decide (1000 < (L (j + 1)).c)
        case true =>
          have r := Lib.hid (bad_true hg0.out (by have := of_decide_eq_true e5; simp only [prev]; omega))
          go_wp2_with fail
          go_quiet (fail)
          go_wp2_with fail
          go_ret
          exact ⟨false, rfl, ⟨(fun h => by cases h), fun h => by have := h.2.2.2 _ hlt; rw [r.out] at this; cases this⟩, ((qc _).drewN _).below⟩
        cases e6 : decide ((L (j + 1)).d < 0)
        case true =>
          have r := Lib.hid (bad_true hg0.out (by have := of_decide_eq_true e6; simp only [prev]; omega))
          go_wp2_with fail
          go_quiet (fail)
          go_wp2_with fail
          go_ret
          exact ⟨false, rfl, ⟨(fun h => by cases h), fun h => by have := h.2.2.2 _ hlt; rw [r.out] at this; cases this⟩, ((qc _).drewN _).below⟩
        cases e7 : decide (12 < (L (j + 1)).d)
        case true =>
          have r := Lib.hid (bad_true hg0.out (by have := of_decide_eq_true e7; simp only [prev]; omega))
          go_wp2_with fail
          go_quiet (fail)
          go_wp2_with fail
          go_ret
          exact ⟨false, rfl, ⟨(fun h => by cases h), fun h => by have := h.2.2.2 _ hlt; rw [r.out] at this; cases this⟩, ((qc _).drewN _).below⟩
        cases e8 : decide ((L (j + 1)).e < 20)
        case true =>
          have r := Lib.hid (bad_true hg0.out (by have := of_decide_eq_true e8; simp only [prev]; omega))
          go_wp2_with fail
          go_quiet (fail)
          go_wp2_with fail
          go_ret
          exact ⟨false, rfl, ⟨(fun h => by cases h), fun h => by have := h.2.2.2 _ hlt; rw [r.out] at this; cases this⟩, ((qc _).drewN _).below⟩
        cases e9 : decide (1000000020 < (L (j + 1)).e)
        case true =>
          have r := Lib.hid (bad_true hg0.out (by have := of_decide_eq_true e9; simp only [prev]; omega))
          go_wp2_with fail
          go_quiet (fail)
          go_wp2_with fail
          go_ret
          exact ⟨false, rfl, ⟨(fun h => by cases h), fun h => by have := h.2.2.2 _ hlt; rw [r.out] at this; cases this⟩, ((qc _).drewN _).below⟩
        have r := Lib.hid (good_more hg0.out (by have f0 := of_decide_eq_false e0; have f1 := of_decide_eq_false e1; have f2 := of_decide_eq_false e2; have f3 := of_decide_eq_false e3; have f4 := of_decide_eq_false e4; have f5 := of_decide_eq_false e5; have f6 := of_decide_eq_false e6; have f7 := of_decide_eq_false e7; have f8 := of_decide_eq_false e8; have f9 := of_decide_eq_false e9; simp only [prev]; omega))
        go_wp2_with fail
        go_quiet (fail)
        go_wp2_with fail
        go_roundw
        case rel => exact ⟨(j + 1) + 1, by omega, by go_num, r.out, (qc _).drewN _⟩
        case measure => simp [intOf]; omega
    · have : k = n := by omega
      subst this
      have hb2 := hh.below
      have q0 := hh.s
      clear hh
      go_wp2
      go_ret
      exact ⟨true, rfl, ⟨fun _ => ⟨by simp at h1; omega, by simp at h2; omega, by simp at h3; omega, hg⟩, fun _ => rfl⟩, hb2⟩

theorem ref_any {n : Nat} {L : Nat → Le} {next : Int} {s : Value} {w : World} (hn : n ≤ 201) (hs : Leases w n L s) :
    Calls Tryz.prog 6 #[.agg #[s, .int .i64 next]] w (Says (Sound n next L) w) := by
  cases h1 : decide (next < 1)
  case true => exact ref_short hn hs (.inl h1)
  cases h2 : decide (1000000 < next)
  case true => exact ref_short hn hs (.inr ⟨h1, .inl h2⟩)
  cases h3 : decide ((200 : Int) < (n : Int))
  case true => exact ref_short hn hs (.inr ⟨h1, .inr ⟨h2, h3⟩⟩)
  cases hs with
  | none hn a cap => subst hn; exact ref_nil a cap h1 h2
  | some b off cap hb hl => exact ref_long n b off cap hn hb hl h1 h2 h3
end Go.Ev.Wa
