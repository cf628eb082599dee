/- One piece of sanity: worker.Submit, with task.Learn out of the table. -/
import Derived.Test.YtcmfahemeogamaaGreatTbD
namespace Go.Ev.Pc
open Go.Proofs
theorem piece10 : view names10 143 (exec Tryz.prog calT 143 FUEL (nthSeq 10 code) (mkS 1283 1980 names9 objs9) (mkF slots9)) = some (3243, 4994, objs10.map some, slots10) := by kernel_rfl
end Go.Ev.Pc
