/- One piece of sanity. -/
import Derived.Test.YtcmfahemeogamaaGreatPcD
namespace Go.Ev.Pc
open Go.Proofs
theorem piece5 : view names5 143 (exec Tryz.prog cal 143 FUEL (nthSeq 5 code) (mkS 851 1327 names4 objs4) (mkF slots4)) = some (1238, 1913, objs5.map some, slots5) := by kernel_rfl
end Go.Ev.Pc
