/- Closed facts of the row of WorkerValid, part 13. -/
import Derived.Test.YtcmfahemeogamaaGreatRows
import Derived.JoinedOf
import Derived.KernelRfl
namespace Go.Proofs.YtcmfahemeogamaaGreat
theorem fact13 : ((Rows.workerValidRow.named == Tryz.prog.varsNamed 3)) = true := by kernel_rfl
end Go.Proofs.YtcmfahemeogamaaGreat
