/- The law WorkerValid (function 3): it returns true. -/
import Derived.Test.YtcmfahemeogamaaGreatWaD
import Derived.Deep.RegionHeld3
namespace Go.Ev.Wa
open Go.Proofs Go.RowKit

def SanityB (w : World) (e : Ending) (w' : World) : Prop := e = .returned (.bool true) ∧ Below w.heap.size w w'
def LawB (w : World) (e : Ending) (w' : World) : Prop := e = .returned (.bool true) ∧ Below w.heap.size w w'

/-- What the last statement's operations leave as it is. -/
def Kept (n : Nat) (L : Nat → Le) (s : Value) (w w' : World) : Prop := Leases w' n L s ∧ Below w.heap.size w w'

theorem Kept.more {n : Nat} {L : Nat → Le} {s : Value} {w a b : World} (h : Kept n L s w a) (hb : Below a.heap.size a b) : Kept n L s w b :=
  ⟨h.1.below hb, h.2.trans (hb.mono h.2.size)⟩

/-- Both functions, at the answer r. -/
theorem both (n : Nat) (L : Nat → Le) (s : Value) (next : Int) (hn : n ≤ 201) : ∃ r : Bool, ∀ w, Leases w n L s →
    Calls Tryz.prog 5 #[.agg #[s, .int .i64 next]] w (fun e w' => e = .returned (.bool r) ∧ Below w.heap.size w w') ∧
    Calls Tryz.prog 6 #[.agg #[s, .int .i64 next]] w (fun e w' => e = .returned (.bool r) ∧ Below w.heap.size w w') := by
  by_cases h : Sound n next L
  · refine ⟨true, fun w hs => ⟨(valid_any hn hs).mono ?_, (ref_any hn hs).mono ?_⟩⟩ <;>
    · rintro e w' ⟨r, rfl, hr, hb⟩
      exact ⟨by rw [hr.2 h], hb⟩
  · refine ⟨false, fun w hs => ⟨(valid_any hn hs).mono ?_, (ref_any hn hs).mono ?_⟩⟩ <;>
    · rintro e w' ⟨r, rfl, hr, hb⟩
      exact ⟨by cases r with | false => rfl | true => exact absurd (hr.1 rfl) h, hb⟩

/-- What the last statement's operations need of the world. -/
theorem held_more {n p : Nat} {L : Nat → Le} {s v : Value} {w a b : World} (h : a.cell? ⟨p, 0, none⟩ = some s ∧ a.cell? ⟨p, 1, none⟩ = some v ∧ Kept n L s w a ∧ p < a.heap.size) (hb : Below a.heap.size a b) :
    b.cell? ⟨p, 0, none⟩ = some s ∧ b.cell? ⟨p, 1, none⟩ = some v ∧ Kept n L s w b ∧ p < b.heap.size :=
  ⟨(hb.cell (by exact h.2.2.2)).trans h.1, (hb.cell (by exact h.2.2.2)).trans h.2.1, h.2.2.1.more hb, Nat.lt_of_lt_of_le h.2.2.2 hb.size⟩
theorem held_leases {n p : Nat} {L : Nat → Le} {s v : Value} {w a : World} (h : a.cell? ⟨p, 0, none⟩ = some s ∧ a.cell? ⟨p, 1, none⟩ = some v ∧ Kept n L s w a ∧ p < a.heap.size) : Leases a n L s := h.2.2.1.1

set_option maxHeartbeats 4000000 in
theorem law_some {n b off cap : Nat} {L : Nat → Le} {next : Int} {w : World} (hsan : ∀ w, Calls Tryz.prog 4 #[] w (SanityB w)) (hb : b < w.heap.size) (hl : Lies w b off n L) (hcap : n ≤ cap) (hn : n ≤ 201) :
    Calls Tryz.prog 3 #[.slice (some ⟨b, off, none⟩) n cap, .int .i64 next] w (LawB w) := by
  have hs0 := hsan w
  obtain ⟨r, hr⟩ := both n L (.slice (some ⟨b, off, none⟩) n cap) next hn
  go_enter Tryz.func3, Tryz.ntmps3
  go_wp2_with fail
  refine hs0.mono ?_
  rintro e w1 ⟨rfl, hb1⟩
  have hs1 : Kept n L (.slice (some ⟨b, off, none⟩) n cap) w1 w1 := ⟨(Leases.some b off cap hb hl).below hb1, Below.refl _ _⟩
  clear hs0 hsan hl
  go_wp2_with fail
  have hs2 : Kept n L (.slice (some ⟨b, off, none⟩) n cap) w1 (w1.alloc (.cells #[.slice (some ⟨b, off, none⟩) n cap, .int .i64 next] 25)) := hs1.more ((Below.refl _ _).alloc (Nat.le_refl _) _)
  have c0 : (w1.alloc (.cells #[.slice (some ⟨b, off, none⟩) n cap, .int .i64 next] 25)).cell? ⟨w1.heap.size, 0, none⟩ = some (.slice (some ⟨b, off, none⟩) n cap) := by
    rw [World.cell?_alloc_at _ _ _ _ rfl]; rfl
  have c1 : (w1.alloc (.cells #[.slice (some ⟨b, off, none⟩) n cap, .int .i64 next] 25)).cell? ⟨w1.heap.size, 1, none⟩ = some (.int .i64 next) := by
    rw [World.cell?_alloc_at _ _ _ _ rfl]; rfl
  have hsz : w1.heap.size < (w1.alloc (.cells #[.slice (some ⟨b, off, none⟩) n cap, .int .i64 next] 25)).heap.size := by simp
  revert hs2 c0 c1 hsz
  generalize w1.alloc (.cells #[.slice (some ⟨b, off, none⟩) n cap, .int .i64 next] 25) = W
  intro hs2 c0 c1 hsz
  go_region_held3 (fun w' => w'.cell? ⟨w1.heap.size, 0, none⟩ = some (.slice (some ⟨b, off, none⟩) n cap) ∧ w'.cell? ⟨w1.heap.size, 1, none⟩ = some (.int .i64 next) ∧ Kept n L (.slice (some ⟨b, off, none⟩) n cap) w1 w' ∧ w1.heap.size < w'.heap.size)
    (first | exact held_more ⟨c0, c1, hs2, hsz⟩ (Below.refl _ _).drew | exact held_more (by assumption) (by assumption))
    (first
      | (go_at_call 5; refine ((hr _ ?_).1).mono ?_; (exact held_leases (by assumption)); rintro e w' ⟨rfl, hbb⟩)
      | (go_at_call 6; refine ((hr _ ?_).2).mono ?_; (exact held_leases (by assumption)); rintro e w' ⟨rfl, hbb⟩))
  have hB : Below w.heap.size w w' := hb1.trans (Below.mono (by assumption : _ ∧ _ ∧ Kept n L (.slice (some ⟨b, off, none⟩) n cap) w1 w' ∧ _).2.2.1.2 hb1.size)
  go_wp2
  go_ret
  exact ⟨rfl, hB⟩
set_option maxHeartbeats 4000000 in
theorem law_many {n b off cap : Nat} {L : Nat → Le} {next : Int} {w : World} (hsan : ∀ w, Calls Tryz.prog 4 #[] w (SanityB w)) (hb : b < w.heap.size) (hl : Lies w b off 201 L) (hcap : n ≤ cap) (hn : 201 < n) :
    Calls Tryz.prog 3 #[.slice (some ⟨b, off, none⟩) n cap, .int .i64 next] w (LawB w) := by
  have hs0 := hsan w
  obtain ⟨r, hr⟩ := both 201 L (.slice (some ⟨b, off, none⟩) 201 cap) next (Nat.le_refl _)
  go_enter Tryz.func3, Tryz.ntmps3
  go_wp2_with fail
  refine hs0.mono ?_
  rintro e w1 ⟨rfl, hb1⟩
  have hs1 : Kept 201 L (.slice (some ⟨b, off, none⟩) 201 cap) w1 w1 := ⟨(Leases.some b off cap hb hl).below hb1, Below.refl _ _⟩
  clear hs0 hsan hl
  go_wp2_with fail
  have hs2 : Kept 201 L (.slice (some ⟨b, off, none⟩) 201 cap) w1 (w1.alloc (.cells #[.slice (some ⟨b, off, none⟩) 201 cap, .int .i64 next] 25)) := hs1.more ((Below.refl _ _).alloc (Nat.le_refl _) _)
  have c0 : (w1.alloc (.cells #[.slice (some ⟨b, off, none⟩) 201 cap, .int .i64 next] 25)).cell? ⟨w1.heap.size, 0, none⟩ = some (.slice (some ⟨b, off, none⟩) 201 cap) := by
    rw [World.cell?_alloc_at _ _ _ _ rfl]; rfl
  have c1 : (w1.alloc (.cells #[.slice (some ⟨b, off, none⟩) 201 cap, .int .i64 next] 25)).cell? ⟨w1.heap.size, 1, none⟩ = some (.int .i64 next) := by
    rw [World.cell?_alloc_at _ _ _ _ rfl]; rfl
  have hsz : w1.heap.size < (w1.alloc (.cells #[.slice (some ⟨b, off, none⟩) 201 cap, .int .i64 next] 25)).heap.size := by simp
  revert hs2 c0 c1 hsz
  generalize w1.alloc (.cells #[.slice (some ⟨b, off, none⟩) 201 cap, .int .i64 next] 25) = W
  intro hs2 c0 c1 hsz
  go_region_held3 (fun w' => w'.cell? ⟨w1.heap.size, 0, none⟩ = some (.slice (some ⟨b, off, none⟩) 201 cap) ∧ w'.cell? ⟨w1.heap.size, 1, none⟩ = some (.int .i64 next) ∧ Kept 201 L (.slice (some ⟨b, off, none⟩) 201 cap) w1 w' ∧ w1.heap.size < w'.heap.size)
    (first | exact held_more ⟨c0, c1, hs2, hsz⟩ (Below.refl _ _).drew | exact held_more (by assumption) (by assumption))
    (first
      | (go_at_call 5; refine ((hr _ ?_).1).mono ?_; (exact held_leases (by assumption)); rintro e w' ⟨rfl, hbb⟩)
      | (go_at_call 6; refine ((hr _ ?_).2).mono ?_; (exact held_leases (by assumption)); rintro e w' ⟨rfl, hbb⟩))
  have hB : Below w.heap.size w w' := hb1.trans (Below.mono (by assumption : _ ∧ _ ∧ Kept 201 L (.slice (some ⟨b, off, none⟩) 201 cap) w1 w' ∧ _).2.2.1.2 hb1.size)
  go_wp2
  go_ret
  exact ⟨rfl, hB⟩
set_option maxHeartbeats 4000000 in
theorem law_nil {next : Int} {w : World} (hsan : ∀ w, Calls Tryz.prog 4 #[] w (SanityB w)) :
    Calls Tryz.prog 3 #[.slice none 0 0, .int .i64 next] w (LawB w) := by
  have hs0 := hsan w
  obtain ⟨r, hr⟩ := both 0 (fun _ => ⟨0, 0, 0, 0, 0, false⟩) (.slice none 0 0) next (by omega)
  go_enter Tryz.func3, Tryz.ntmps3
  go_wp2_with fail
  refine hs0.mono ?_
  rintro e w1 ⟨rfl, hb1⟩
  have hs1 : Kept 0 (fun _ => ⟨0, 0, 0, 0, 0, false⟩) (.slice none 0 0) w1 w1 := ⟨Leases.none rfl _ _, Below.refl _ _⟩
  clear hs0 hsan
  go_wp2_with fail
  have hs2 : Kept 0 (fun _ => ⟨0, 0, 0, 0, 0, false⟩) (.slice none 0 0) w1 (w1.alloc (.cells #[.slice none 0 0, .int .i64 next] 25)) := hs1.more ((Below.refl _ _).alloc (Nat.le_refl _) _)
  have c0 : (w1.alloc (.cells #[.slice none 0 0, .int .i64 next] 25)).cell? ⟨w1.heap.size, 0, none⟩ = some (.slice none 0 0) := by
    rw [World.cell?_alloc_at _ _ _ _ rfl]; rfl
  have c1 : (w1.alloc (.cells #[.slice none 0 0, .int .i64 next] 25)).cell? ⟨w1.heap.size, 1, none⟩ = some (.int .i64 next) := by
    rw [World.cell?_alloc_at _ _ _ _ rfl]; rfl
  have hsz : w1.heap.size < (w1.alloc (.cells #[.slice none 0 0, .int .i64 next] 25)).heap.size := by simp
  revert hs2 c0 c1 hsz
  generalize w1.alloc (.cells #[.slice none 0 0, .int .i64 next] 25) = W
  intro hs2 c0 c1 hsz
  go_region_held3 (fun w' => w'.cell? ⟨w1.heap.size, 0, none⟩ = some (.slice none 0 0) ∧ w'.cell? ⟨w1.heap.size, 1, none⟩ = some (.int .i64 next) ∧ Kept 0 (fun _ => ⟨0, 0, 0, 0, 0, false⟩) (.slice none 0 0) w1 w' ∧ w1.heap.size < w'.heap.size)
    (first | exact held_more ⟨c0, c1, hs2, hsz⟩ (Below.refl _ _).drew | exact held_more (by assumption) (by assumption))
    (first
      | (go_at_call 5; refine ((hr _ ?_).1).mono ?_; (exact held_leases (by assumption)); rintro e w' ⟨rfl, hbb⟩)
      | (go_at_call 6; refine ((hr _ ?_).2).mono ?_; (exact held_leases (by assumption)); rintro e w' ⟨rfl, hbb⟩))
  have hB : Below w.heap.size w w' := hb1.trans (Below.mono (by assumption : _ ∧ _ ∧ Kept 0 (fun _ => ⟨0, 0, 0, 0, 0, false⟩) (.slice none 0 0) w1 w' ∧ _).2.2.1.2 hb1.size)
  go_wp2
  go_ret
  exact ⟨rfl, hB⟩
set_option maxHeartbeats 4000000 in
theorem law_zero (a : Addr) (cap : Nat) {next : Int} {w : World} (hsan : ∀ w, Calls Tryz.prog 4 #[] w (SanityB w)) :
    Calls Tryz.prog 3 #[.slice (some a) 0 cap, .int .i64 next] w (LawB w) := by
  have hs0 := hsan w
  obtain ⟨r, hr⟩ := both 0 (fun _ => ⟨0, 0, 0, 0, 0, false⟩) (.slice (some a) 0 cap) next (by omega)
  go_enter Tryz.func3, Tryz.ntmps3
  go_wp2_with fail
  refine hs0.mono ?_
  rintro e w1 ⟨rfl, hb1⟩
  have hs1 : Kept 0 (fun _ => ⟨0, 0, 0, 0, 0, false⟩) (.slice (some a) 0 cap) w1 w1 := ⟨Leases.none rfl _ _, Below.refl _ _⟩
  clear hs0 hsan
  go_wp2_with fail
  have hs2 : Kept 0 (fun _ => ⟨0, 0, 0, 0, 0, false⟩) (.slice (some a) 0 cap) w1 (w1.alloc (.cells #[.slice (some a) 0 cap, .int .i64 next] 25)) := hs1.more ((Below.refl _ _).alloc (Nat.le_refl _) _)
  have c0 : (w1.alloc (.cells #[.slice (some a) 0 cap, .int .i64 next] 25)).cell? ⟨w1.heap.size, 0, none⟩ = some (.slice (some a) 0 cap) := by
    rw [World.cell?_alloc_at _ _ _ _ rfl]; rfl
  have c1 : (w1.alloc (.cells #[.slice (some a) 0 cap, .int .i64 next] 25)).cell? ⟨w1.heap.size, 1, none⟩ = some (.int .i64 next) := by
    rw [World.cell?_alloc_at _ _ _ _ rfl]; rfl
  have hsz : w1.heap.size < (w1.alloc (.cells #[.slice (some a) 0 cap, .int .i64 next] 25)).heap.size := by simp
  revert hs2 c0 c1 hsz
  generalize w1.alloc (.cells #[.slice (some a) 0 cap, .int .i64 next] 25) = W
  intro hs2 c0 c1 hsz
  go_region_held3 (fun w' => w'.cell? ⟨w1.heap.size, 0, none⟩ = some (.slice (some a) 0 cap) ∧ w'.cell? ⟨w1.heap.size, 1, none⟩ = some (.int .i64 next) ∧ Kept 0 (fun _ => ⟨0, 0, 0, 0, 0, false⟩) (.slice (some a) 0 cap) w1 w' ∧ w1.heap.size < w'.heap.size)
    (first | exact held_more ⟨c0, c1, hs2, hsz⟩ (Below.refl _ _).drew | exact held_more (by assumption) (by assumption))
    (first
      | (go_at_call 5; refine ((hr _ ?_).1).mono ?_; (exact held_leases (by assumption)); rintro e w' ⟨rfl, hbb⟩)
      | (go_at_call 6; refine ((hr _ ?_).2).mono ?_; (exact held_leases (by assumption)); rintro e w' ⟨rfl, hbb⟩))
  have hB : Below w.heap.size w w' := hb1.trans (Below.mono (by assumption : _ ∧ _ ∧ Kept 0 (fun _ => ⟨0, 0, 0, 0, 0, false⟩) (.slice (some a) 0 cap) w1 w' ∧ _).2.2.1.2 hb1.size)
  go_wp2
  go_ret
  exact ⟨rfl, hB⟩
end Go.Ev.Wa
