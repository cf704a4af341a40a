/- The program is laid out. -/
import Derived.Test.YtfghmaheokgceaaGreatDoorLoF
import Derived.Test.YtfghmaheokgceaaGreatDoorLoT
namespace Go.Proofs.YtfghmaheokgceaaGreatDoor
open Go
theorem laidOut : laidOutB Tryz.prog = true := by
  unfold laidOutB
  rw [lo_t, lo_g, lo_f]
  rfl
end Go.Proofs.YtfghmaheokgceaaGreatDoor
