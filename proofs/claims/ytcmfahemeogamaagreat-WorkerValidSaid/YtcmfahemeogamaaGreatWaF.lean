/- WorkerValid: for every slice of leases and every number the law returns true and leaves its arguments as they were. No conditions. -/
import Derived.Test.YtcmfahemeogamaaGreatRows
import Derived.ProofKit
import Derived.Deep.Slices
import Derived.Deep.Fields
import Derived.Test.YtcmfahemeogamaaGreatPcS
import Derived.Test.YtcmfahemeogamaaGreatFaR
import Derived.Test.YtcmfahemeogamaaGreatWaE
namespace Go.Proofs.YtcmfahemeogamaaGreat
open Go.ChangeShapes Go.WideShapes Go.ChangeAt Go.RowKit Go.Ev.Wa Go.Deep

theorem Tryz.own : ownKnob Tryz.prog.godebug = none := by kernel_rfl
theorem Tryz.laidOut : laidOutB Tryz.prog = true := fact2
theorem Tryz.cells47 : Tryz.prog.cellsOf 47 = 6 := by kernel_rfl
theorem Tryz.cells3 : Tryz.prog.cellsOf 3 = 1 := by kernel_rfl
theorem Tryz.cells4 : Tryz.prog.cellsOf 4 = 1 := by kernel_rfl
theorem six {α : Type} {l : List α} (h : l.length = 6) : ∃ a b c d e f, l = [a, b, c, d, e, f] := by
  match l, h with
  | [a, b, c, d, e, f], _ => exact ⟨a, b, c, d, e, f, rfl⟩
section
variable {H : Type} {enc : TypeId × Value → H} {w : World}
/-- Six cells that read as a lease. -/
theorem lease_cells {n : Nat} {cs : List Value} {x : DataW H × List MemPlace} (h : DataW.trod enc Tryz.prog w 0 (fun _ => true) true n 47 cs = some x) : ∃ l : Le, cs = (cellsOf l).toList := by
  obtain ⟨xs, m, _, _, hl, hx, hf⟩ := DataW.trod_struct Tryz.underlying47 h
  rw [Tryz.cells47] at hl
  obtain ⟨c0, c1, c2, c3, c4, c5, rfl⟩ := six hl
  obtain ⟨y0, y1, y2, y3, y4, y5, rfl⟩ := six hx
  have g0 : DataW.trod enc Tryz.prog w 0 (fun _ => true) true m 3 ((([c0, c1, c2, c3, c4, c5] : List Value).drop 0).take (Tryz.prog.cellsOf 3)) = some y0 := hf 0 _ rfl
  have g1 : DataW.trod enc Tryz.prog w 0 (fun _ => true) true m 3 ((([c0, c1, c2, c3, c4, c5] : List Value).drop 1).take (Tryz.prog.cellsOf 3)) = some y1 := hf 1 _ rfl
  have g2 : DataW.trod enc Tryz.prog w 0 (fun _ => true) true m 3 ((([c0, c1, c2, c3, c4, c5] : List Value).drop 2).take (Tryz.prog.cellsOf 3)) = some y2 := hf 2 _ rfl
  have g3 : DataW.trod enc Tryz.prog w 0 (fun _ => true) true m 3 ((([c0, c1, c2, c3, c4, c5] : List Value).drop 3).take (Tryz.prog.cellsOf 3)) = some y3 := hf 3 _ rfl
  have g4 : DataW.trod enc Tryz.prog w 0 (fun _ => true) true m 3 ((([c0, c1, c2, c3, c4, c5] : List Value).drop 4).take (Tryz.prog.cellsOf 3)) = some y4 := hf 4 _ rfl
  have g5 : DataW.trod enc Tryz.prog w 0 (fun _ => true) true m 4 ((([c0, c1, c2, c3, c4, c5] : List Value).drop 5).take (Tryz.prog.cellsOf 4)) = some y5 := hf 5 _ rfl
  rw [Tryz.cells3] at g0 g1 g2 g3 g4
  rw [Tryz.cells4] at g5
  obtain ⟨a, ha, _⟩ := DataW.trod_int Tryz.underlying3 g0
  obtain ⟨b, hb, _⟩ := DataW.trod_int Tryz.underlying3 g1
  obtain ⟨c, hc, _⟩ := DataW.trod_int Tryz.underlying3 g2
  obtain ⟨d, hd, _⟩ := DataW.trod_int Tryz.underlying3 g3
  obtain ⟨e, he, _⟩ := DataW.trod_int Tryz.underlying3 g4
  obtain ⟨o, ho, _⟩ := DataW.trod_bool Tryz.underlying4 g5
  simp at ha hb hc hd he ho
  subst ha hb hc hd he ho
  exact ⟨⟨a, b, c, d, e, o⟩, rfl⟩
end
/-- The law at any slice that can be read. -/
theorem walk_any {H : Type} {enc : TypeId × Value → H} {W : World} {fuel len cap : Nat} {a0 : Option Addr} {n : Int} {x : DataW H × List MemPlace} (hsan : ∀ w, Calls Tryz.prog 4 #[] w (SanityB w))
    (h : DataW.trod enc Tryz.prog W 0 (fun _ => true) true fuel 22 [.slice a0 len cap] = some x) : Calls Tryz.prog 3 #[.slice a0 len cap, .int .i64 n] W (LawB W) := by
  rcases open_slice Tryz.underlying22 h with ⟨hcs, _⟩ | ⟨a, len', cap', m, nn, D, Pl, hcs, _, hl, _, hm, _, hi⟩
  · simp only [List.cons.injEq, Value.slice.injEq, and_true] at hcs
    obtain ⟨rfl, rfl, rfl⟩ := hcs
    exact law_nil hsan
  · simp only [List.cons.injEq, Value.slice.injEq, and_true] at hcs
    obtain ⟨rfl, rfl, rfl⟩ := hcs
    simp only [if_true] at hm
    subst hm
    by_cases h0 : len = 0
    · rw [h0]; exact law_zero a _ hsan
    have hL : ∀ i, ∃ l : Le, i < len → ∀ j v, (cellsOf l)[j]? = some v → W.cell? ((a.add (i * 6)).add j) = some v := fun i => by
      by_cases hil : i < len
      · obtain ⟨cs', hc, ht⟩ := hi i (by omega)
        rw [Tryz.cells47] at hc
        obtain ⟨_, _, hat⟩ := World.cells?_some hc
        obtain ⟨l, rfl⟩ := lease_cells ht
        refine ⟨l, fun _ j v hv => ?_⟩
        have hj : j < 6 := by
          rcases Nat.lt_or_ge j 6 with hj | hj
          · exact hj
          · rw [Array.getElem?_eq_none (by exact hj)] at hv; cases hv
        rw [hat j hj]
        simpa using hv
      · exact ⟨⟨0, 0, 0, 0, 0, false⟩, fun hh => absurd hh hil⟩
    obtain ⟨L, hL⟩ := Classical.axiomOfChoice hL
    have hfirst := hL 0 (by omega) 0 _ rfl
    obtain ⟨b, off, spot⟩ := a
    have hspot : spot = none := by
      have := World.cell?_spot hfirst
      simpa [Addr.add] using this
    subst hspot
    have hb : b < W.heap.size := by
      have := World.block_lt_of_cell? _ _ hfirst
      simpa [Addr.add] using this
    have lies : Lies W b off len L := fun i hi j v hv => by
      have := hL i hi j v hv
      rw [add_plain, add_plain] at this
      exact this
    by_cases hn : len ≤ 201
    · exact law_some hsan hb lies hl hn
    · exact law_many hsan hb (fun i hi j v hv => lies i (by omega) j v hv) hl (by omega)

theorem sanity_below (w : World) : Calls Tryz.prog 4 #[] w (SanityB w) :=
  (Go.Ev.Pc.sanity_calls w).mono fun e w' h => by
    unfold Go.Ev.Pc.SanityEnds at h
    split at h
    · obtain ⟨rfl, h1, h2, h3, h4, h5⟩ := h
      exact ⟨rfl, h1, h2, h3, h4, h5⟩
    · exact h.elim

set_option maxRecDepth 100000 in
theorem lifted (os : Os) (started : os.Started) (H : Type) (enc : TypeId × Value → H) :
    ReturnsInHanded {} Tryz.checked os 3 .any (Rows.workerValidSpec.pre6 enc Tryz.prog Tryz.f3 Rows.workerValidRow.domain false) (Rows.workerValidSpec.post enc Tryz.prog Tryz.f3 false true false false) := by
  refine returnsInHanded_of_change (C := Tryz.checked) Tryz.own started (by kernel_rfl) Tryz.func3
    (ChangeSpec.witness6 (enc := enc) (C := Tryz.checked) false ⟨#[], #[.slice none 0 0, .int .i64 0], []⟩ 8 (by kernel_rfl) (by kernel_rfl) (by kernel_rfl) (by kernel_rfl)) ?_
  intro W base args ds gs before hval0 hW hcnd _
  have hval : ∀ (j : Nat) t v, Tryz.f3.params[j]? = some t → args[j]? = some v → Value.okWide Tryz.prog W .any base t v := hval0
  have hW' := hW
  obtain ⟨p, q, hA0, hV, rfl, hfz, hnd⟩ := hW
  have hA : DataW.TrodAll enc Tryz.prog W 0 (fun _ => true) true Tryz.f3.params.toList args.toList ds p := hA0
  rw [Tryz.params3] at hA hval
  obtain ⟨v0, v1, d0, d1, p0, p1, rfl, rfl, rfl, h0, h1⟩ := trodAll_two hA
  obtain ⟨rfl, rfl⟩ := trodVars_none hV
  obtain ⟨n, rfl, rfl, rfl, wn⟩ := open_int Tryz.underlying3 (hval 1 3 v1 rfl rfl) h1
  obtain ⟨a0, len, cap, rfl⟩ := okWide_slice Tryz.underlying22 (hval 0 22 v0 rfl rfl)
  clear hA0 hval0
  simp only [List.append_nil] at hW'
  have hlt : ∀ x ∈ p0, x.block < W.heap.size := fun x hx => by simpa using hW'.lt x hx
  have walk : Calls Tryz.prog 3 #[.slice a0 len cap, .int .i64 n] W (LawB W) := by
    obtain ⟨fuel, hf⟩ := h0
    exact walk_any sanity_below hf
  refine walk.mono fun e W' ⟨he, bel⟩ => ?_
  subst he
  exact ⟨_, rfl, _, _, _, [], p0 ++ [], [], hW', trodAll_mk1 (shut_bool Tryz.underlying4 true), trodAll_mk2 (Below.trod Tryz.laidOut (by kernel_rfl) (of_decide_eq_true (by kernel_rfl)) h0 bel hlt) (shut_int Tryz.underlying3 wn), rfl, bel.frame _, fun h => by cases h⟩

theorem holds : Rows.WorkerValidSaid :=
  OpenClaim.holds_of_wide 3 Tryz.f3 rfl rfl rfl rfl rfl rfl rfl ⟨rfl, rfl, rfl, rfl, rfl⟩ rfl rfl rfl rfl rfl (by kernel_rfl) Tryz.func3 closed
    (of_decide_eq_true (by kernel_rfl)) (by unfold Func.isWrapper; first | (rw [if_pos (by decide +kernel)]; kernel_rfl) | (rw [if_neg (by decide +kernel)]; exact ⟨rfl, rfl⟩))
    (fun os started H enc _ => lifted os started H enc)
#print axioms holds
end Go.Proofs.YtcmfahemeogamaaGreat
