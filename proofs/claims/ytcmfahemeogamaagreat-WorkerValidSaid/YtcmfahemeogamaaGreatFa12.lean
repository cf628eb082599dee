/- Closed facts of the row of WorkerValid, part 12. -/
import Derived.Test.YtcmfahemeogamaaGreatRows
import Derived.JoinedOf
import Derived.KernelRfl
namespace Go.Proofs.YtcmfahemeogamaaGreat
theorem fact12 : ((Rows.workerValidRow.recurses == Tryz.prog.recurses 3)) = true := by kernel_rfl
end Go.Proofs.YtcmfahemeogamaaGreat
