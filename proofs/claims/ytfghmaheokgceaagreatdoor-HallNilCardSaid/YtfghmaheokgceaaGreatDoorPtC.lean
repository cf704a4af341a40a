/- A piece of the program's tie: closed facts. -/
import Derived.Test.YtfghmaheokgceaaGreatDoorPt0
import Derived.LaidByTextLater
import Derived.SevenTiedAt
namespace Go.Proofs.YtfghmaheokgceaaGreatDoor
open Go
theorem tie_d : ∀ os tape, varsDone Tryz.prog 400 (varsId Tryz.prog) os tape = true := fun _ _ => by kernel_rfl
end Go.Proofs.YtfghmaheokgceaaGreatDoor
