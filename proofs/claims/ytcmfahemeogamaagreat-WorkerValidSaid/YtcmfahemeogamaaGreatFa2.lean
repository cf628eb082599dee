/- Closed facts of the row of WorkerValid, part 2. -/
import Derived.Test.YtcmfahemeogamaaGreatRows
import Derived.JoinedOf
import Derived.KernelRfl
namespace Go.Proofs.YtcmfahemeogamaaGreat
theorem fact2 : (laidOutB Tryz.prog) = true := by kernel_rfl
end Go.Proofs.YtcmfahemeogamaaGreat
