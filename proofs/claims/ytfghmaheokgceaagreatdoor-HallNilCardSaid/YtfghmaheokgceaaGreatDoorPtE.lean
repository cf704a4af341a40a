/- A piece of the program's tie: closed facts. -/
import Derived.Test.YtfghmaheokgceaaGreatDoorPt0
import Derived.LaidByTextLater
import Derived.SevenTiedAt
namespace Go.Proofs.YtfghmaheokgceaaGreatDoor
open Go
theorem tie_2 : ∀ os tape, (DataW.laidRun Tryz.prog (varsWorld Tryz.prog 400 (varsId Tryz.prog) os tape).memory 8 (laidT.map (·.1))).map (fun x => decide x.2.Nodup && laidRowsB Tryz.prog (varsWorld Tryz.prog 400 (varsId Tryz.prog) os tape).memory x.2) = some true := fun _ _ => by kernel_rfl
end Go.Proofs.YtfghmaheokgceaaGreatDoor
