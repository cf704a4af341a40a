/- A piece of the hall's example, by a run. -/
import Derived.Test.YtfghmaheokgceaaGreatDoorMF
set_option linter.unusedSimpArgs false
set_option linter.unusedVariables false
set_option maxRecDepth 100000
namespace Go.Proofs.YtfghmaheokgceaaGreatDoor
open Go.Abs
theorem hs0_run : snapRun Tryz.prog baseE 5000 80 hs0 [[], [(50, 52), (51, 50), (52, 51)], [(50, 54), (51, 50), (52, 51), (53, 52), (54, 53)], [(50, 56), (51, 50), (52, 51), (53, 52), (54, 53), (55, 54), (56, 55)], [(50, 58), (51, 50), (52, 51), (53, 52), (54, 53), (55, 54), (56, 55), (57, 56), (58, 57)], [(48, 49), (49, 50), (50, 48)], [(44, 45), (47, 48), (48, 49), (49, 50), (50, 43)]] = true := by kernel_rfl
theorem hs0_ok : ExtOk Tryz.prog (snapE hs0) := snapE_ok mixedH baseE_ok hs0_run
end Go.Proofs.YtfghmaheokgceaaGreatDoor
