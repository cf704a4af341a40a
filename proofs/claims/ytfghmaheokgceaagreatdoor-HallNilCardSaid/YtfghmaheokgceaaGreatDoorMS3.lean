/- One step of the sum, by a run. -/
import Derived.Test.YtfghmaheokgceaaGreatDoorME
set_option linter.unusedSimpArgs false
set_option linter.unusedVariables false
set_option maxRecDepth 100000
namespace Go.Proofs.YtfghmaheokgceaaGreatDoor
open Go.Abs
theorem step_run3 : withG shaG .e (fun tr => callX Tryz.prog noX 5000 80 370 stepA3 (heap0 Tryz.prog tr) fun v _ => eqX v stepV3) = true := by kernel_rfl
theorem step_good3 : SpecGood Tryz.prog (370, ConstO shaG stepA3 stepV3) := const_good mixedH (noX_ok _) shaOk (by kernel_rfl) (by kernel_rfl) step_run3
end Go.Proofs.YtfghmaheokgceaaGreatDoor
