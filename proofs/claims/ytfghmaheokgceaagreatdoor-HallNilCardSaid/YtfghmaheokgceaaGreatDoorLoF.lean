/- The types of the functions' parameters stand in the program. -/
import Derived.Test.YtfghmaheokgceaaGreatDoorProg
import GoSem.ClaimDataLaid
import Derived.WalkKit
set_option maxRecDepth 100000
namespace Go.Proofs.YtfghmaheokgceaaGreatDoor
open Go
theorem lo_g : Tryz.prog.globals.all (fun g => decide (g.type < Tryz.prog.types.size)) = true := by kernel_rfl
theorem lo_f : (Tryz.prog.funcs.all fun f => f.params.all fun t => decide (t < Tryz.prog.types.size)) = true := by kernel_rfl
end Go.Proofs.YtfghmaheokgceaaGreatDoor
