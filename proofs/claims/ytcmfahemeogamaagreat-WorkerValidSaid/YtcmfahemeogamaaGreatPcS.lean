/- Sanity, piece after piece. -/
import Derived.Test.YtcmfahemeogamaaGreatEvSt
import Derived.Test.YtcmfahemeogamaaGreatPcX
import Derived.Test.YtcmfahemeogamaaGreatPc3
import Derived.Test.YtcmfahemeogamaaGreatPc4
import Derived.Test.YtcmfahemeogamaaGreatPc5
import Derived.Test.YtcmfahemeogamaaGreatPc10
import Derived.Test.YtcmfahemeogamaaGreatTbL
namespace Go.Ev.Pc
open Go.Proofs

/-- What sanity comes to. -/
def SanityEnds (w : World) : Ending → World → Prop
  | .returned v, w' => v = .bool true ∧ w'.os = w.os ∧ w'.tape = w.tape ∧ w'.output = w.output ∧ w.heap.size ≤ w'.heap.size ∧ ∀ b, b < w.heap.size → w'.heap[b]? = w.heap[b]?
  | _, _ => False
theorem code_eq : Tryz.f4.body = some code := rfl
theorem spine : code = .seq (nthSeq 0 code) (.seq (nthSeq 1 code) (.seq (nthSeq 2 code) (.seq (nthSeq 3 code) (.seq (nthSeq 4 code) (.seq (nthSeq 5 code) (.seq (nthSeq 6 code) (.seq (nthSeq 7 code) (.seq (nthSeq 8 code) (.seq (nthSeq 9 code) (.seq (nthSeq 10 code) (.seq (nthSeq 11 code) (.seq (nthSeq 12 code) (.seq (nthSeq 13 code) (.ret)))))))))))))) := rfl
theorem mixed : Tryz.prog.follows .mixedOrders = true := by kernel_rfl
theorem slots_ret : slots13[0]? = some (.bool true) := rfl
theorem sanity_calls (w : World) : Calls Tryz.prog 4 #[] w (SanityEnds w) := by
  have hc : CallOk Tryz.prog cal := call_ok caught_ok mixed 60
  have hcT : CallOk Tryz.prog calT := callStep_ok caught_ok mixed (tabled_ok (call_ok caught_ok mixed 59) tabE_run (by decide) (by decide) (by decide) (by decide))
  have hn : (143 : Nat) ≤ TMAX := by decide
  refine calls_of_wp Tryz.func4 code_eq ?_
  have e0 : ({ tmps := #[] ++ Array.replicate (Tryz.f4.ntmps - (#[] : Array Value).size) Go.undef, defers := [] } : Act) = { tmps := Array.replicate 143 Go.undef, defers := [] } := by
    rw [Tryz.ntmps4]; simp
  rw [e0, spine]
  have m := Mid.start w 143
  refine wp_seq (Mid.step hc mixed hn piece0 (by decide) (by decide) m (fun A0 w0 m => ?_))
  refine wp_seq (Mid.step hc mixed hn piece1 (by decide) (by decide) m (fun A1 w1 m => ?_))
  refine wp_seq (Mid.step hc mixed hn piece2 (by decide) (by decide) m (fun A2 w2 m => ?_))
  refine wp_seq (Mid.step hc mixed hn piece3 (by decide) (by decide) m (fun A3 w3 m => ?_))
  refine wp_seq (Mid.step hc mixed hn piece4 (by decide) (by decide) m (fun A4 w4 m => ?_))
  refine wp_seq (Mid.step hc mixed hn piece5 (by decide) (by decide) m (fun A5 w5 m => ?_))
  refine wp_seq (Mid.step hc mixed hn piece6 (by decide) (by decide) m (fun A6 w6 m => ?_))
  refine wp_seq (Mid.step hc mixed hn piece7 (by decide) (by decide) m (fun A7 w7 m => ?_))
  refine wp_seq (Mid.step hc mixed hn piece8 (by decide) (by decide) m (fun A8 w8 m => ?_))
  refine wp_seq (Mid.step hc mixed hn piece9 (by decide) (by decide) m (fun A9 w9 m => ?_))
  refine wp_seq (Mid.step hcT mixed hn piece10 (by decide) (by decide) m (fun A10 w10 m => ?_))
  refine wp_seq (Mid.step hc mixed hn piece11 (by decide) (by decide) m (fun A11 w11 m => ?_))
  refine wp_seq (Mid.step hc mixed hn piece12 (by decide) (by decide) m (fun A12 w12 m => ?_))
  refine wp_seq (Mid.step hc mixed hn piece13 (by decide) (by decide) m (fun A13 w13 m => ?_))
  refine wp_ret ?_
  obtain ⟨H, φ, _, _, _, r, _⟩ := m.rel
  refine ⟨r.defers, .bool true, ?_, rfl, m.os, m.tape, m.output, m.size, m.frame⟩
  have ht : 0 < TMAX := by decide
  have hl : slots13.length = 143 := by kernel_rfl
  have hv := r.at_ 0 ht
  have e : Fr.get (mkF slots13) 0 = .bool true := by
    show Fr.get ⟨args0 slots13 0 .nil⟩ 0 = _
    unfold Fr.get
    rw [args0_get slots13 0 0 .nil (by rw [hl]; decide) ht, if_pos (Nat.zero_le _), Nat.sub_zero, slots_ret]
  rw [e] at hv
  generalize hq : A13.tmps.getD 0 Go.undef = q at hv
  cases hv
  rw [Array.getD_eq_getD_getElem?] at hq
  simp [results, Tryz.results4, hq]
end Go.Ev.Pc
