/- A piece of the hall's example, by a run. -/
import Derived.Test.YtfghmaheokgceaaGreatDoorMF
set_option linter.unusedSimpArgs false
set_option linter.unusedVariables false
set_option maxRecDepth 100000
namespace Go.Proofs.YtfghmaheokgceaaGreatDoor
open Go.Abs
theorem hs1_run : snapRun Tryz.prog baseE 5000 80 hs1 [[]] = true := by kernel_rfl
theorem hs1_ok : ExtOk Tryz.prog (snapE hs1) := snapE_ok mixedH baseE_ok hs1_run
end Go.Proofs.YtfghmaheokgceaaGreatDoor
