/- Closed facts of the row of WorkerValid, part R. -/
import Derived.Test.YtcmfahemeogamaaGreatRows
import Derived.JoinedOf
import Derived.KernelRfl
import Derived.Test.YtcmfahemeogamaaGreatFa2
import Derived.Test.YtcmfahemeogamaaGreatFa10
import Derived.Test.YtcmfahemeogamaaGreatFa11
import Derived.Test.YtcmfahemeogamaaGreatFa12
import Derived.Test.YtcmfahemeogamaaGreatFa13
namespace Go.Proofs.YtcmfahemeogamaaGreat
theorem fact1 : (Rows.workerValidRow.wf (OpenSpec.ofChange Rows.workerValidSpec)) = true := by kernel_rfl
theorem fact3 : (mapsRowed Tryz.prog) = true := by kernel_rfl
theorem fact4 : (Tryz.f3.params.all (Tryz.prog.readableRec ·)) = true := by kernel_rfl
theorem fact5 : (namedTie Tryz.prog Rows.workerValidRow.named Rows.workerValidSpec.vars) = true := by kernel_rfl
theorem fact6 : ((Rows.workerValidRow.stops == [])) = true := by kernel_rfl
theorem fact7 : ((Tryz.prog.stops == [])) = true := by kernel_rfl
theorem fact8 : ((Rows.workerValidRow.knobs == [])) = true := by kernel_rfl
theorem fact9 : ((Tryz.prog.stopKnobs == [])) = true := by kernel_rfl
theorem fact14 : ((Rows.workerValidRow.maps == (Tryz.f3.params.toList ++ Rows.workerValidSpec.plain.varTypes Tryz.prog).any (Tryz.prog.mapsRec ·))) = true := by kernel_rfl
theorem fact15 : ((Rows.workerValidRow.ifaces == (Tryz.f3.params.toList ++ Rows.workerValidSpec.plain.varTypes Tryz.prog).any (Tryz.prog.ifacesRec ·))) = true := by kernel_rfl
theorem fact16 : ((Rows.workerValidRow.mapsOut == Tryz.prog.mapsAmong Tryz.f3.resultTypes.toList)) = true := by kernel_rfl
theorem fact17 : ((Rows.workerValidRow.loops == (Tryz.f3.params.toList ++ Rows.workerValidSpec.plain.varTypes Tryz.prog).any (Tryz.prog.loopsFrom ·))) = true := by kernel_rfl
theorem fact18 : ((Rows.workerValidRow.wideKeys == (Tryz.f3.params.toList ++ Rows.workerValidSpec.plain.varTypes Tryz.prog ++ Tryz.f3.resultTypes.toList).any (Tryz.prog.wideKeysFrom ·))) = true := by kernel_rfl
theorem fact19 : (Rows.workerValidSpec.vars.all (Tryz.prog.varReadable ·)) = true := by kernel_rfl
theorem fact20 : (Tryz.f3.resultTypes.all (fun t => Tryz.prog.readableRec t && decide (t < Tryz.prog.types.size))) = true := by kernel_rfl
theorem fact21 : ((Rows.workerValidRow.ifacesOut == Tryz.f3.resultTypes.toList.any (Tryz.prog.ifacesRec ·))) = true := by kernel_rfl
theorem fact22 : ((Rows.workerValidRow.loopsOut == Tryz.f3.resultTypes.toList.any (Tryz.prog.loopsFrom ·))) = true := by kernel_rfl
theorem fact23 : ((Rows.workerValidRow.plainKeys == Tryz.prog.plainKeys)) = true := by kernel_rfl
theorem fact24 : (Rows.workerValidRow.shortTexts.isNone) = true := by kernel_rfl
theorem fact25 : (Tryz.prog.stopsHeard) = true := by kernel_rfl
theorem fact26 : (Tryz.prog.mayEnter) = true := by kernel_rfl
theorem fact27 : ((Rows.workerValidRow.lifted == Tryz.prog.liftsFinal)) = true := by kernel_rfl
theorem fact28 : ((Tryz.prog.make == some Rows.workerValidRow.make)) = true := by kernel_rfl
theorem fact29 : ((Rows.workerValidRow.kinds == (if Rows.workerValidRow.domain.isEmpty then [] else Tryz.f3.params.toList.map fun t => match Tryz.prog.underlying t with | some (.int k) => some k | _ => none))) = true := by kernel_rfl
theorem fact30 : ((Rows.workerValidRow.pinned == Rows.workerValidRow.pinnedBy)) = true := by kernel_rfl
theorem fact31 : ((Rows.workerValidRow.veiled == (Tryz.f3.params.toList ++ Rows.workerValidSpec.plain.varTypes Tryz.prog ++ Tryz.f3.resultTypes.toList).any (Tryz.prog.veiledRec ·))) = true := by kernel_rfl
theorem fact32 : (Rows.workerValidRow.veiledFits Tryz.prog Tryz.f3.params.toList (Tryz.f3.params.toList ++ Rows.workerValidSpec.plain.varTypes Tryz.prog ++ Tryz.f3.resultTypes.toList)) = true := by kernel_rfl
theorem and2 {a b : Bool} (h : a = true) (k : b = true) : (a && b) = true := by rw [h, k]; rfl
set_option maxRecDepth 100000 in
theorem closed : joinedFacts Tryz.prog 3 Tryz.f3 Rows.workerValidSpec Rows.workerValidRow = true := by
  unfold joinedFacts
  refine and2 ?_ fact32
  refine and2 ?_ fact31
  refine and2 ?_ fact30
  refine and2 ?_ fact29
  refine and2 ?_ fact28
  refine and2 ?_ fact27
  refine and2 ?_ fact26
  refine and2 ?_ fact25
  refine and2 ?_ fact24
  refine and2 ?_ fact23
  refine and2 ?_ fact22
  refine and2 ?_ fact21
  refine and2 ?_ fact20
  refine and2 ?_ fact19
  refine and2 ?_ fact18
  refine and2 ?_ fact17
  refine and2 ?_ fact16
  refine and2 ?_ fact15
  refine and2 ?_ fact14
  refine and2 ?_ fact13
  refine and2 ?_ fact12
  refine and2 ?_ fact11
  refine and2 ?_ fact10
  refine and2 ?_ fact9
  refine and2 ?_ fact8
  refine and2 ?_ fact7
  refine and2 ?_ fact6
  refine and2 ?_ fact5
  refine and2 ?_ fact4
  refine and2 ?_ fact3
  refine and2 ?_ fact2
  exact fact1
end Go.Proofs.YtcmfahemeogamaaGreat
