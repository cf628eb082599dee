/- One piece of sanity. -/
import Derived.Test.YtcmfahemeogamaaGreatPcD
namespace Go.Ev.Pc
open Go.Proofs
theorem piece4 : view names4 143 (exec Tryz.prog cal 143 FUEL (nthSeq 4 code) (mkS 459 733 names3 objs3) (mkF slots3)) = some (851, 1327, objs4.map some, slots4) := by kernel_rfl
end Go.Ev.Pc
