/- Closed facts of the row of WorkerValid, part 11. -/
import Derived.Test.YtcmfahemeogamaaGreatRows
import Derived.JoinedOf
import Derived.KernelRfl
namespace Go.Proofs.YtcmfahemeogamaaGreat
theorem fact11 : ((Rows.workerValidRow.unfollowed == Tryz.prog.unfollowed 3)) = true := by kernel_rfl
end Go.Proofs.YtcmfahemeogamaaGreat
