/- The program is laid out. -/
import Derived.Test.YtnnjcenoihdhfaaGreatDoorLoF
import Derived.Test.YtnnjcenoihdhfaaGreatDoorLoT
namespace Go.Proofs.YtnnjcenoihdhfaaGreatDoor
open Go
theorem laidOut : laidOutB Tryz.prog = true := by
  unfold laidOutB
  rw [lo_t, lo_g, lo_f]
  rfl
end Go.Proofs.YtnnjcenoihdhfaaGreatDoor
