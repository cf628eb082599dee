/- Pieces of sanity: the evaluator runs each from one state to the next. -/
import Derived.Test.YtcmfahemeogamaaGreatPcD
namespace Go.Ev.Pc
open Go.Proofs
theorem piece0 : view names0 143 (exec Tryz.prog cal 143 FUEL (nthSeq 0 code) (mkS 0 0 [] []) (mkF [])) = some (0, 0, objs0.map some, slots0) := by kernel_rfl
theorem piece1 : view names1 143 (exec Tryz.prog cal 143 FUEL (nthSeq 1 code) (mkS 0 0 names0 objs0) (mkF slots0)) = some (11, 19, objs1.map some, slots1) := by kernel_rfl
theorem piece2 : view names2 143 (exec Tryz.prog cal 143 FUEL (nthSeq 2 code) (mkS 11 19 names1 objs1) (mkF slots1)) = some (21, 37, objs2.map some, slots2) := by kernel_rfl
theorem piece6 : view names6 143 (exec Tryz.prog cal 143 FUEL (nthSeq 6 code) (mkS 1238 1913 names5 objs5) (mkF slots5)) = some (1248, 1927, objs6.map some, slots6) := by kernel_rfl
theorem piece7 : view names7 143 (exec Tryz.prog cal 143 FUEL (nthSeq 7 code) (mkS 1248 1927 names6 objs6) (mkF slots6)) = some (1270, 1962, objs7.map some, slots7) := by kernel_rfl
theorem piece8 : view names8 143 (exec Tryz.prog cal 143 FUEL (nthSeq 8 code) (mkS 1270 1962 names7 objs7) (mkF slots7)) = some (1272, 1965, objs8.map some, slots8) := by kernel_rfl
theorem piece9 : view names9 143 (exec Tryz.prog cal 143 FUEL (nthSeq 9 code) (mkS 1272 1965 names8 objs8) (mkF slots8)) = some (1283, 1980, objs9.map some, slots9) := by kernel_rfl
theorem piece11 : view names11 143 (exec Tryz.prog cal 143 FUEL (nthSeq 11 code) (mkS 3243 4994 names10 objs10) (mkF slots10)) = some (3253, 5007, objs11.map some, slots11) := by kernel_rfl
theorem piece12 : view names12 143 (exec Tryz.prog cal 143 FUEL (nthSeq 12 code) (mkS 3253 5007 names11 objs11) (mkF slots11)) = some (3254, 5009, objs12.map some, slots12) := by kernel_rfl
theorem piece13 : view names13 143 (exec Tryz.prog cal 143 FUEL (nthSeq 13 code) (mkS 3254 5009 names12 objs12) (mkF slots12)) = some (3258, 5015, objs13.map some, slots13) := by kernel_rfl
end Go.Ev.Pc
