/- worker.Valid's closure (function 15) by its contract: ten ways, by the first comparison that holds. -/
import Derived.Test.YtcmfahemeogamaaGreatProg
import Derived.Tactics
import Derived.Tactics2
import Derived.Laws.Pointers
import Derived.Laws.NewBlocks
import Derived.Below
namespace Go.Ev.Wa
open Go.Proofs Go.RowKit

/-- A lease's numbers. -/
structure Le where
  (a b c d e : Int) (o : Bool)
def cellsOf (l : Le) : Array Value := #[.int .i64 l.a, .int .i64 l.b, .int .i64 l.c, .int .i64 l.d, .int .i64 l.e, .bool l.o]
def bad (id next : Int) (l : Le) : Bool := decide (l.a ≤ id) || decide (next ≤ l.a) || decide (l.b < 1) || decide (l.c < 1) || decide (1000 < l.c) || decide (l.d < 0) || decide (12 < l.d) || decide (l.e < 20) || decide (1000000020 < l.e)
set_option maxHeartbeats 4000000 in
theorem closure_0 (bi bp : Nat) (id next a b c d e : Int) (o : Bool) (w : World) (hi : w.cell? ⟨bi, 0, none⟩ = some (.int .i64 id)) (_hn : w.cell? ⟨bp, 1, none⟩ = some (.int .i64 next)) (hf : w.frozen? ⟨bi, 0, none⟩ = false) (lti : bi < w.heap.size) (_ltp : bp < w.heap.size) (h0 : decide (a ≤ id) = true) :
    Calls Tryz.prog 15 #[.agg #[.int .i64 a, .int .i64 b, .int .i64 c, .int .i64 d, .int .i64 e, .bool o], .pointer (some ⟨bi, 0, none⟩), .pointer (some ⟨bp, 0, none⟩)] w fun en w' =>
      en = .returned (.bool true) ∧ w' = (w.setCell ⟨bi, 0, none⟩ (.int .i64 a)).alloc (.cells #[.int .i64 a, .int .i64 b, .int .i64 c, .int .i64 d, .int .i64 e, .bool o] 47) := by
  go_enter Tryz.func15, Tryz.ntmps15
  go_wp2
  go_ret
  exact ⟨rfl, rfl⟩
set_option maxHeartbeats 4000000 in
theorem closure_1 (bi bp : Nat) (id next a b c d e : Int) (o : Bool) (w : World) (hi : w.cell? ⟨bi, 0, none⟩ = some (.int .i64 id)) (hn : w.cell? ⟨bp, 1, none⟩ = some (.int .i64 next)) (hf : w.frozen? ⟨bi, 0, none⟩ = false) (lti : bi < w.heap.size) (ltp : bp < w.heap.size) (h0 : decide (a ≤ id) = false) (h1 : decide (next ≤ a) = true) :
    Calls Tryz.prog 15 #[.agg #[.int .i64 a, .int .i64 b, .int .i64 c, .int .i64 d, .int .i64 e, .bool o], .pointer (some ⟨bi, 0, none⟩), .pointer (some ⟨bp, 0, none⟩)] w fun en w' =>
      en = .returned (.bool true) ∧ w' = (w.setCell ⟨bi, 0, none⟩ (.int .i64 a)).alloc (.cells #[.int .i64 a, .int .i64 b, .int .i64 c, .int .i64 d, .int .i64 e, .bool o] 47) := by
  go_enter Tryz.func15, Tryz.ntmps15
  go_wp2
  go_ret
  exact ⟨rfl, rfl⟩
set_option maxHeartbeats 4000000 in
theorem closure_2 (bi bp : Nat) (id next a b c d e : Int) (o : Bool) (w : World) (hi : w.cell? ⟨bi, 0, none⟩ = some (.int .i64 id)) (hn : w.cell? ⟨bp, 1, none⟩ = some (.int .i64 next)) (hf : w.frozen? ⟨bi, 0, none⟩ = false) (lti : bi < w.heap.size) (ltp : bp < w.heap.size) (h0 : decide (a ≤ id) = false) (h1 : decide (next ≤ a) = false) (h2 : decide (b < 1) = true) :
    Calls Tryz.prog 15 #[.agg #[.int .i64 a, .int .i64 b, .int .i64 c, .int .i64 d, .int .i64 e, .bool o], .pointer (some ⟨bi, 0, none⟩), .pointer (some ⟨bp, 0, none⟩)] w fun en w' =>
      en = .returned (.bool true) ∧ w' = (w.setCell ⟨bi, 0, none⟩ (.int .i64 a)).alloc (.cells #[.int .i64 a, .int .i64 b, .int .i64 c, .int .i64 d, .int .i64 e, .bool o] 47) := by
  go_enter Tryz.func15, Tryz.ntmps15
  go_wp2
  go_ret
  exact ⟨rfl, rfl⟩
set_option maxHeartbeats 4000000 in
theorem closure_3 (bi bp : Nat) (id next a b c d e : Int) (o : Bool) (w : World) (hi : w.cell? ⟨bi, 0, none⟩ = some (.int .i64 id)) (hn : w.cell? ⟨bp, 1, none⟩ = some (.int .i64 next)) (hf : w.frozen? ⟨bi, 0, none⟩ = false) (lti : bi < w.heap.size) (ltp : bp < w.heap.size) (h0 : decide (a ≤ id) = false) (h1 : decide (next ≤ a) = false) (h2 : decide (b < 1) = false) (h3 : decide (c < 1) = true) :
    Calls Tryz.prog 15 #[.agg #[.int .i64 a, .int .i64 b, .int .i64 c, .int .i64 d, .int .i64 e, .bool o], .pointer (some ⟨bi, 0, none⟩), .pointer (some ⟨bp, 0, none⟩)] w fun en w' =>
      en = .returned (.bool true) ∧ w' = (w.setCell ⟨bi, 0, none⟩ (.int .i64 a)).alloc (.cells #[.int .i64 a, .int .i64 b, .int .i64 c, .int .i64 d, .int .i64 e, .bool o] 47) := by
  go_enter Tryz.func15, Tryz.ntmps15
  go_wp2
  go_ret
  exact ⟨rfl, rfl⟩
set_option maxHeartbeats 4000000 in
theorem closure_4 (bi bp : Nat) (id next a b c d e : Int) (o : Bool) (w : World) (hi : w.cell? ⟨bi, 0, none⟩ = some (.int .i64 id)) (hn : w.cell? ⟨bp, 1, none⟩ = some (.int .i64 next)) (hf : w.frozen? ⟨bi, 0, none⟩ = false) (lti : bi < w.heap.size) (ltp : bp < w.heap.size) (h0 : decide (a ≤ id) = false) (h1 : decide (next ≤ a) = false) (h2 : decide (b < 1) = false) (h3 : decide (c < 1) = false) (h4 : decide (1000 < c) = true) :
    Calls Tryz.prog 15 #[.agg #[.int .i64 a, .int .i64 b, .int .i64 c, .int .i64 d, .int .i64 e, .bool o], .pointer (some ⟨bi, 0, none⟩), .pointer (some ⟨bp, 0, none⟩)] w fun en w' =>
      en = .returned (.bool true) ∧ w' = (w.setCell ⟨bi, 0, none⟩ (.int .i64 a)).alloc (.cells #[.int .i64 a, .int .i64 b, .int .i64 c, .int .i64 d, .int .i64 e, .bool o] 47) := by
  go_enter Tryz.func15, Tryz.ntmps15
  go_wp2
  go_ret
  exact ⟨rfl, rfl⟩
set_option maxHeartbeats 4000000 in
theorem closure_5 (bi bp : Nat) (id next a b c d e : Int) (o : Bool) (w : World) (hi : w.cell? ⟨bi, 0, none⟩ = some (.int .i64 id)) (hn : w.cell? ⟨bp, 1, none⟩ = some (.int .i64 next)) (hf : w.frozen? ⟨bi, 0, none⟩ = false) (lti : bi < w.heap.size) (ltp : bp < w.heap.size) (h0 : decide (a ≤ id) = false) (h1 : decide (next ≤ a) = false) (h2 : decide (b < 1) = false) (h3 : decide (c < 1) = false) (h4 : decide (1000 < c) = false) (h5 : decide (d < 0) = true) :
    Calls Tryz.prog 15 #[.agg #[.int .i64 a, .int .i64 b, .int .i64 c, .int .i64 d, .int .i64 e, .bool o], .pointer (some ⟨bi, 0, none⟩), .pointer (some ⟨bp, 0, none⟩)] w fun en w' =>
      en = .returned (.bool true) ∧ w' = (w.setCell ⟨bi, 0, none⟩ (.int .i64 a)).alloc (.cells #[.int .i64 a, .int .i64 b, .int .i64 c, .int .i64 d, .int .i64 e, .bool o] 47) := by
  go_enter Tryz.func15, Tryz.ntmps15
  go_wp2
  go_ret
  exact ⟨rfl, rfl⟩
set_option maxHeartbeats 4000000 in
theorem closure_6 (bi bp : Nat) (id next a b c d e : Int) (o : Bool) (w : World) (hi : w.cell? ⟨bi, 0, none⟩ = some (.int .i64 id)) (hn : w.cell? ⟨bp, 1, none⟩ = some (.int .i64 next)) (hf : w.frozen? ⟨bi, 0, none⟩ = false) (lti : bi < w.heap.size) (ltp : bp < w.heap.size) (h0 : decide (a ≤ id) = false) (h1 : decide (next ≤ a) = false) (h2 : decide (b < 1) = false) (h3 : decide (c < 1) = false) (h4 : decide (1000 < c) = false) (h5 : decide (d < 0) = false) (h6 : decide (12 < d) = true) :
    Calls Tryz.prog 15 #[.agg #[.int .i64 a, .int .i64 b, .int .i64 c, .int .i64 d, .int .i64 e, .bool o], .pointer (some ⟨bi, 0, none⟩), .pointer (some ⟨bp, 0, none⟩)] w fun en w' =>
      en = .returned (.bool true) ∧ w' = (w.setCell ⟨bi, 0, none⟩ (.int .i64 a)).alloc (.cells #[.int .i64 a, .int .i64 b, .int .i64 c, .int .i64 d, .int .i64 e, .bool o] 47) := by
  go_enter Tryz.func15, Tryz.ntmps15
  go_wp2
  go_ret
  exact ⟨rfl, rfl⟩
set_option maxHeartbeats 4000000 in
theorem closure_7 (bi bp : Nat) (id next a b c d e : Int) (o : Bool) (w : World) (hi : w.cell? ⟨bi, 0, none⟩ = some (.int .i64 id)) (hn : w.cell? ⟨bp, 1, none⟩ = some (.int .i64 next)) (hf : w.frozen? ⟨bi, 0, none⟩ = false) (lti : bi < w.heap.size) (ltp : bp < w.heap.size) (h0 : decide (a ≤ id) = false) (h1 : decide (next ≤ a) = false) (h2 : decide (b < 1) = false) (h3 : decide (c < 1) = false) (h4 : decide (1000 < c) = false) (h5 : decide (d < 0) = false) (h6 : decide (12 < d) = false) (h7 : decide (e < 20) = true) :
    Calls Tryz.prog 15 #[.agg #[.int .i64 a, .int .i64 b, .int .i64 c, .int .i64 d, .int .i64 e, .bool o], .pointer (some ⟨bi, 0, none⟩), .pointer (some ⟨bp, 0, none⟩)] w fun en w' =>
      en = .returned (.bool true) ∧ w' = (w.setCell ⟨bi, 0, none⟩ (.int .i64 a)).alloc (.cells #[.int .i64 a, .int .i64 b, .int .i64 c, .int .i64 d, .int .i64 e, .bool o] 47) := by
  go_enter Tryz.func15, Tryz.ntmps15
  go_wp2
  go_ret
  exact ⟨rfl, rfl⟩
set_option maxHeartbeats 4000000 in
theorem closure_8 (bi bp : Nat) (id next a b c d e : Int) (o : Bool) (w : World) (hi : w.cell? ⟨bi, 0, none⟩ = some (.int .i64 id)) (hn : w.cell? ⟨bp, 1, none⟩ = some (.int .i64 next)) (hf : w.frozen? ⟨bi, 0, none⟩ = false) (lti : bi < w.heap.size) (ltp : bp < w.heap.size) (h0 : decide (a ≤ id) = false) (h1 : decide (next ≤ a) = false) (h2 : decide (b < 1) = false) (h3 : decide (c < 1) = false) (h4 : decide (1000 < c) = false) (h5 : decide (d < 0) = false) (h6 : decide (12 < d) = false) (h7 : decide (e < 20) = false) (h8 : decide (1000000020 < e) = true) :
    Calls Tryz.prog 15 #[.agg #[.int .i64 a, .int .i64 b, .int .i64 c, .int .i64 d, .int .i64 e, .bool o], .pointer (some ⟨bi, 0, none⟩), .pointer (some ⟨bp, 0, none⟩)] w fun en w' =>
      en = .returned (.bool true) ∧ w' = (w.setCell ⟨bi, 0, none⟩ (.int .i64 a)).alloc (.cells #[.int .i64 a, .int .i64 b, .int .i64 c, .int .i64 d, .int .i64 e, .bool o] 47) := by
  go_enter Tryz.func15, Tryz.ntmps15
  go_wp2
  go_ret
  exact ⟨rfl, rfl⟩
set_option maxHeartbeats 4000000 in
theorem closure_9 (bi bp : Nat) (id next a b c d e : Int) (o : Bool) (w : World) (hi : w.cell? ⟨bi, 0, none⟩ = some (.int .i64 id)) (hn : w.cell? ⟨bp, 1, none⟩ = some (.int .i64 next)) (hf : w.frozen? ⟨bi, 0, none⟩ = false) (lti : bi < w.heap.size) (ltp : bp < w.heap.size) (h0 : decide (a ≤ id) = false) (h1 : decide (next ≤ a) = false) (h2 : decide (b < 1) = false) (h3 : decide (c < 1) = false) (h4 : decide (1000 < c) = false) (h5 : decide (d < 0) = false) (h6 : decide (12 < d) = false) (h7 : decide (e < 20) = false) (h8 : decide (1000000020 < e) = false) :
    Calls Tryz.prog 15 #[.agg #[.int .i64 a, .int .i64 b, .int .i64 c, .int .i64 d, .int .i64 e, .bool o], .pointer (some ⟨bi, 0, none⟩), .pointer (some ⟨bp, 0, none⟩)] w fun en w' =>
      en = .returned (.bool false) ∧ w' = (w.setCell ⟨bi, 0, none⟩ (.int .i64 a)).alloc (.cells #[.int .i64 a, .int .i64 b, .int .i64 c, .int .i64 d, .int .i64 e, .bool o] 47) := by
  go_enter Tryz.func15, Tryz.ntmps15
  go_wp2
  go_ret
  exact ⟨rfl, rfl⟩
/-- The closure at any numbers. -/
theorem closure_any (bi bp : Nat) (id next : Int) (l : Le) (w : World) (hi : w.cell? ⟨bi, 0, none⟩ = some (.int .i64 id)) (hn : w.cell? ⟨bp, 1, none⟩ = some (.int .i64 next)) (hf : w.frozen? ⟨bi, 0, none⟩ = false) (lti : bi < w.heap.size) (ltp : bp < w.heap.size) :
    Calls Tryz.prog 15 #[.agg (cellsOf l), .pointer (some ⟨bi, 0, none⟩), .pointer (some ⟨bp, 0, none⟩)] w fun en w' =>
      en = .returned (.bool (bad id next l)) ∧ w' = (w.setCell ⟨bi, 0, none⟩ (.int .i64 l.a)).alloc (.cells (cellsOf l) 47) := by
  obtain ⟨a, b, c, d, e, o⟩ := l
  unfold cellsOf
  cases h0 : decide (a ≤ id)
  case true =>
    have r : bad id next ⟨a, b, c, d, e, o⟩ = true := by simp only [bad, h0]; rfl
    rw [r]; exact closure_0 bi bp id next a b c d e o w hi hn hf lti ltp h0
  cases h1 : decide (next ≤ a)
  case true =>
    have r : bad id next ⟨a, b, c, d, e, o⟩ = true := by simp only [bad, h0, h1]; rfl
    rw [r]; exact closure_1 bi bp id next a b c d e o w hi hn hf lti ltp h0 h1
  cases h2 : decide (b < 1)
  case true =>
    have r : bad id next ⟨a, b, c, d, e, o⟩ = true := by simp only [bad, h0, h1, h2]; rfl
    rw [r]; exact closure_2 bi bp id next a b c d e o w hi hn hf lti ltp h0 h1 h2
  cases h3 : decide (c < 1)
  case true =>
    have r : bad id next ⟨a, b, c, d, e, o⟩ = true := by simp only [bad, h0, h1, h2, h3]; rfl
    rw [r]; exact closure_3 bi bp id next a b c d e o w hi hn hf lti ltp h0 h1 h2 h3
  cases h4 : decide (1000 < c)
  case true =>
    have r : bad id next ⟨a, b, c, d, e, o⟩ = true := by simp only [bad, h0, h1, h2, h3, h4]; rfl
    rw [r]; exact closure_4 bi bp id next a b c d e o w hi hn hf lti ltp h0 h1 h2 h3 h4
  cases h5 : decide (d < 0)
  case true =>
    have r : bad id next ⟨a, b, c, d, e, o⟩ = true := by simp only [bad, h0, h1, h2, h3, h4, h5]; rfl
    rw [r]; exact closure_5 bi bp id next a b c d e o w hi hn hf lti ltp h0 h1 h2 h3 h4 h5
  cases h6 : decide (12 < d)
  case true =>
    have r : bad id next ⟨a, b, c, d, e, o⟩ = true := by simp only [bad, h0, h1, h2, h3, h4, h5, h6]; rfl
    rw [r]; exact closure_6 bi bp id next a b c d e o w hi hn hf lti ltp h0 h1 h2 h3 h4 h5 h6
  cases h7 : decide (e < 20)
  case true =>
    have r : bad id next ⟨a, b, c, d, e, o⟩ = true := by simp only [bad, h0, h1, h2, h3, h4, h5, h6, h7]; rfl
    rw [r]; exact closure_7 bi bp id next a b c d e o w hi hn hf lti ltp h0 h1 h2 h3 h4 h5 h6 h7
  cases h8 : decide (1000000020 < e)
  case true =>
    have r : bad id next ⟨a, b, c, d, e, o⟩ = true := by simp only [bad, h0, h1, h2, h3, h4, h5, h6, h7, h8]; rfl
    rw [r]; exact closure_8 bi bp id next a b c d e o w hi hn hf lti ltp h0 h1 h2 h3 h4 h5 h6 h7 h8
  have r : bad id next ⟨a, b, c, d, e, o⟩ = false := by simp only [bad, h0, h1, h2, h3, h4, h5, h6, h7, h8]; rfl
  rw [r]; exact closure_9 bi bp id next a b c d e o w hi hn hf lti ltp h0 h1 h2 h3 h4 h5 h6 h7 h8
end Go.Ev.Wa
