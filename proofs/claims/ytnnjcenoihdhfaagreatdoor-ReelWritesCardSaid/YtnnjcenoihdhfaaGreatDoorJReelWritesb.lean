/- Closed facts of a row. -/
import Derived.Test.YtnnjcenoihdhfaaGreatDoorRows
import Derived.Test.YtnnjcenoihdhfaaGreatDoorJn
set_option maxRecDepth 100000
namespace Go.Proofs.YtnnjcenoihdhfaaGreatDoor
open Go
theorem j_reelWrites_11 : (Rows.reelWritesRow.unfollowed == Tryz.pinned.checked.prog.unfollowed 3) = true := by kernel_rfl
end Go.Proofs.YtnnjcenoihdhfaaGreatDoor
