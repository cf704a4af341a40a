/- A piece of the program's tie: closed facts. -/
import Derived.Test.YtfghmaheokgceaaGreatDoorPt0
import Derived.LaidByTextLater
import Derived.SevenTiedAt
namespace Go.Proofs.YtfghmaheokgceaaGreatDoor
open Go
theorem tie_n : varsNamedLaterB Tryz.prog (varsId Tryz.prog) laidT = true := by kernel_rfl
end Go.Proofs.YtfghmaheokgceaaGreatDoor
