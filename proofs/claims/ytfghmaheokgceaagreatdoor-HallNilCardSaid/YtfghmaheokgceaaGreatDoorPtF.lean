/- A piece of the program's tie: closed facts. -/
import Derived.Test.YtfghmaheokgceaaGreatDoorPt0
import Derived.LaidByTextLater
import Derived.SevenTiedAt
namespace Go.Proofs.YtfghmaheokgceaaGreatDoor
open Go
theorem noOwnUnsafe : Tryz.pinned.checked.prog.headLifts.contains "ownunsafe" = false := by kernel_rfl
theorem tie_f : Tryz.pinned.checked.prog.funcsFit laidT = true := by kernel_rfl
end Go.Proofs.YtfghmaheokgceaaGreatDoor
