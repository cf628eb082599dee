/- slices.IndexFunc (function 42) at worker.Valid's closure. -/
import Derived.Test.YtcmfahemeogamaaGreatWaA
import Derived.Lib.Hide
import Derived.WalkKit
namespace Go.Ev.Wa
open Go.Proofs Go.RowKit

/-- The number that the closure holds when it comes to lease i. -/
def prev (L : Nat → Le) : Nat → Int
  | 0 => 0
  | i + 1 => (L i).a
/-- No lease below n is bad. -/
def good (L : Nat → Le) (next : Int) (n : Nat) : Prop := ∀ i, i < n → bad (prev L i) next (L i) = false

/-- The leases in memory. -/
def Lies (w : World) (b off n : Nat) (L : Nat → Le) : Prop := ∀ i, i < n → ∀ j v, (cellsOf (L i))[j]? = some v → w.cell? ⟨b, off + i * 6 + j, none⟩ = some v

def Idx (B : Nat) (w : World) (L : Nat → Le) (next : Int) (n : Nat) (e : Ending) (w' : World) : Prop :=
  ∃ r : Int, e = .returned (.int .i64 r) ∧ (r < 0 ↔ good L next n) ∧ Below B w w'

/-- What the closure's variables hold in the round. -/
structure Held (B bi bp : Nat) (id next : Int) (w wr : World) : Prop where
  below : Below B w wr
  id : wr.cell? ⟨bi, 0, none⟩ = some (.int .i64 id)
  fr : wr.frozen? ⟨bi, 0, none⟩ = false
  next : wr.cell? ⟨bp, 1, none⟩ = some (.int .i64 next)
  lti : bi < wr.heap.size
  ltp : bp < wr.heap.size
  
theorem Held.step {B bi bp : Nat} {id next v : Int} {w wr : World} {o : Obj} (h : Held B bi bp id next w wr) (hi : B ≤ bi) (_hp : bi ≠ bp) (_hw : B ≤ w.heap.size) : Held B bi bp v next w ((wr.setCell ⟨bi, 0, none⟩ (.int .i64 v)).alloc o) := by
  have hs : (wr.setCell ⟨bi, 0, none⟩ (.int .i64 v)).heap.size = wr.heap.size := by simp [World.setCell]
  have h1 := h.lti
  have h2 := h.ltp
  refine ⟨(h.below.setCell hi _).alloc (by rw [hs]; have := h.below.size; omega) _, ?_, ?_, ?_, ?_, ?_⟩
  · rw [World.cell?_alloc_past _ _ _ (by rw [hs]; exact h1)]
    exact World.cell?_setCell_same _ _ _ h.id
  · rw [World.frozen?_alloc_past _ _ _ (by rw [hs]; exact h1)]
    rw [World.frozen?_setCell]; exact h.fr
  · rw [World.cell?_alloc_past _ _ _ (by rw [hs]; exact h2)]
    rw [World.cell?_setCell_other _ _ _ _ (by intro e; injection e; omega)]; exact h.next
  · show _ < (wr.setCell _ _ |>.heap.push _).size
    simp [World.setCell]; omega
  · show _ < (wr.setCell _ _ |>.heap.push _).size
    simp [World.setCell]; omega

set_option maxHeartbeats 1600000 in
theorem index_any (B b off n cap bi bp : Nat) (L : Nat → Le) (next : Int) (w : World) (hn : n ≤ 201) (hb : b < B) (hB : B ≤ w.heap.size) (hi : B ≤ bi) (hne : bi ≠ bp)
    (hl : Lies w b off n L) (h : Held B bi bp 0 next w w) :
    Calls Tryz.prog 42 #[.slice (some ⟨b, off, none⟩) n cap, .func (.func 15) #[] #[.pointer (some ⟨bi, 0, none⟩), .pointer (some ⟨bp, 0, none⟩)]] w (Idx B w L next n) := by
  go_enter Tryz.func42, Tryz.ntmps42
  go_wp2
  go_loopw [8] (fun i wr => ∃ k : Nat, k ≤ n ∧ i = .int .i64 k ∧ good L next k ∧ Held B bi bp (prev L k) next w wr) (fun i _ => n - (intOf i).toNat)
  case atStart => exact ⟨0, Nat.zero_le _, rfl, fun i hi => by omega, h⟩
  case round =>
    obtain ⟨k, hk, rfl, hg, hh⟩ := hrel
    by_cases hlt : k < n
    · have c0 : wr.cell? ⟨b, off + k * 6, none⟩ = some (.int .i64 (L k).a) := (hh.below.cell (by exact hb)).trans (hl k hlt 0 _ rfl)
      have c1 : wr.cell? ⟨b, off + k * 6 + 1, none⟩ = some (.int .i64 (L k).b) := (hh.below.cell (by exact hb)).trans (hl k hlt 1 _ rfl)
      have c2 : wr.cell? ⟨b, off + k * 6 + 2, none⟩ = some (.int .i64 (L k).c) := (hh.below.cell (by exact hb)).trans (hl k hlt 2 _ rfl)
      have c3 : wr.cell? ⟨b, off + k * 6 + 3, none⟩ = some (.int .i64 (L k).d) := (hh.below.cell (by exact hb)).trans (hl k hlt 3 _ rfl)
      have c4 : wr.cell? ⟨b, off + k * 6 + 4, none⟩ = some (.int .i64 (L k).e) := (hh.below.cell (by exact hb)).trans (hl k hlt 4 _ rfl)
      have c5 : wr.cell? ⟨b, off + k * 6 + 5, none⟩ = some (.bool (L k).o) := (hh.below.cell (by exact hb)).trans (hl k hlt 5 _ rfl)
      have hst := fun v (o : Obj) => hh.step (v := v) (o := o) hi hne hB
      have hc := closure_any bi bp (prev L k) next (L k) wr hh.id hh.next hh.fr hh.lti hh.ltp
      unfold cellsOf at hc
      go_wp2_with fail
      cases hbad : bad (prev L k) next (L k)
      · rw [hbad] at hc
        refine hc.mono ?_
        rintro e w' ⟨rfl, rfl⟩
        go_wp2
        go_roundw
        case rel =>
          refine ⟨k + 1, by omega, by go_num, ?_, hst _ _⟩
          intro i hi'
          by_cases e : i = k
          · rw [e]; exact hbad
          · exact hg i (by omega)
        case measure => simp [intOf]; omega
      · rw [hbad] at hc
        refine hc.mono ?_
        rintro e w' ⟨rfl, rfl⟩
        go_wp2
        go_ret
        refine ⟨_, rfl, ⟨fun h => by omega, fun h => ?_⟩, (hst _ _).below⟩
        have := h k hlt
        rw [hbad] at this; cases this
    · have : k = n := by omega
      subst this
      have hb := hh.below
      go_wp2
      go_ret
      exact ⟨_, rfl, ⟨fun _ => hg, fun _ => by decide⟩, hb⟩
end Go.Ev.Wa
