/- The door's own heap is well shaped. -/
import Derived.Test.YtfghmaheokgceaaGreatDoorReM
namespace Go.Proofs.YtfghmaheokgceaaGreatDoor
theorem door_shaped (os : Os) (args : Array Value) : ((World.doorLaid Tryz.prog 400 os).forCall (fun _ _ => 0) ⟨#[], args, []⟩).Shaped Tryz.prog :=
  World.shaped_of_RefB (by kernel_rfl) (by kernel_rfl)
end Go.Proofs.YtfghmaheokgceaaGreatDoor
