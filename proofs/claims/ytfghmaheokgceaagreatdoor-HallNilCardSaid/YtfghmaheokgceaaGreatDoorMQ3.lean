/- A piece of the hall's example, by a run. -/
import Derived.Test.YtfghmaheokgceaaGreatDoorMF
set_option linter.unusedSimpArgs false
set_option linter.unusedVariables false
set_option maxRecDepth 100000
namespace Go.Proofs.YtfghmaheokgceaaGreatDoor
open Go.Abs
theorem hs3_run : snapRun Tryz.prog baseE 5000 80 hs3 [[]] = true := by kernel_rfl
theorem hs3_ok : ExtOk Tryz.prog (snapE hs3) := snapE_ok mixedH baseE_ok hs3_run
end Go.Proofs.YtfghmaheokgceaaGreatDoor
