/- The program's types are laid out. -/
import Derived.Test.YtfghmaheokgceaaGreatDoorProg
import GoSem.ClaimDataLaid
import Derived.WalkKit
set_option maxRecDepth 100000
namespace Go.Proofs.YtfghmaheokgceaaGreatDoor
open Go
theorem lo_t : (List.range Tryz.prog.types.size).all (rowFine Tryz.prog) = true := by kernel_rfl
end Go.Proofs.YtfghmaheokgceaaGreatDoor
