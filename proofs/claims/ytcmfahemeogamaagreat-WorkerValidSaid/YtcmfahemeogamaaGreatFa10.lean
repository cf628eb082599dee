/- Closed facts of the row of WorkerValid, part 10. -/
import Derived.Test.YtcmfahemeogamaaGreatRows
import Derived.JoinedOf
import Derived.KernelRfl
namespace Go.Proofs.YtcmfahemeogamaaGreat
theorem fact10 : ((Rows.workerValidRow.inPlace == Tryz.prog.inPlace 3)) = true := by kernel_rfl
end Go.Proofs.YtcmfahemeogamaaGreat
