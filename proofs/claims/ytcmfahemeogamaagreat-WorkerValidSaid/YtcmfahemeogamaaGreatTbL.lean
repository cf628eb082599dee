/- The entry's equation: the evaluator's own run of task.Learn. -/
import Derived.Test.YtcmfahemeogamaaGreatTbD
namespace Go.Ev.Pc
open Go.Proofs
theorem tabE_run : viewC tabE.names' (call Tryz.prog sp 59 tabE.f tabE.args tabE.st) = some (tabE.v, tabE.c', tabE.k', tabE.objs'.map some) := by kernel_rfl
end Go.Ev.Pc
