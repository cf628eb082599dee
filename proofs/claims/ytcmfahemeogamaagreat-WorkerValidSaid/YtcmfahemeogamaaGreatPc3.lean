/- One piece of sanity. -/
import Derived.Test.YtcmfahemeogamaaGreatPcD
namespace Go.Ev.Pc
open Go.Proofs
theorem piece3 : view names3 143 (exec Tryz.prog cal 143 FUEL (nthSeq 3 code) (mkS 21 37 names2 objs2) (mkF slots2)) = some (459, 733, objs3.map some, slots3) := by kernel_rfl
end Go.Ev.Pc
