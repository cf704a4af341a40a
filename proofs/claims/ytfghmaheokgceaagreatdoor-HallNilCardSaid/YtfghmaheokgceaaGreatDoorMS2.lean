/- One step of the sum, by a run. -/
import Derived.Test.YtfghmaheokgceaaGreatDoorME
set_option linter.unusedSimpArgs false
set_option linter.unusedVariables false
set_option maxRecDepth 100000
namespace Go.Proofs.YtfghmaheokgceaaGreatDoor
open Go.Abs
theorem step_run2 : withG shaG .e (fun tr => callX Tryz.prog noX 5000 80 370 stepA2 (heap0 Tryz.prog tr) fun v _ => eqX v stepV2) = true := by kernel_rfl
theorem step_good2 : SpecGood Tryz.prog (370, ConstO shaG stepA2 stepV2) := const_good mixedH (noX_ok _) shaOk (by kernel_rfl) (by kernel_rfl) step_run2
end Go.Proofs.YtfghmaheokgceaaGreatDoor
