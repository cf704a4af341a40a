/- Closed facts of the program. -/
import Derived.Test.YtfghmaheokgceaaGreatDoorRows
import Derived.Test.YtfghmaheokgceaaGreatDoorJn
set_option maxRecDepth 100000
namespace Go.Proofs.YtfghmaheokgceaaGreatDoor
open Go
theorem jc_3 : mapsRowed Tryz.pinned.checked.prog = true := by kernel_rfl
theorem jc_7 : (Tryz.pinned.checked.prog.stops == []) = true := by kernel_rfl
theorem jc_9 : (Tryz.pinned.checked.prog.stopKnobs == []) = true := by kernel_rfl
theorem jc_25 : Tryz.pinned.checked.prog.stopsHeard = true := by kernel_rfl
theorem jc_26 : Tryz.pinned.checked.prog.mayEnter = true := by kernel_rfl
end Go.Proofs.YtfghmaheokgceaaGreatDoor
