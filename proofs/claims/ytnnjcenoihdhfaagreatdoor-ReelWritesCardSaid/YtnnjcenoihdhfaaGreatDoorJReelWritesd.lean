/- Closed facts of a row. -/
import Derived.Test.YtnnjcenoihdhfaaGreatDoorRows
import Derived.Test.YtnnjcenoihdhfaaGreatDoorJn
set_option maxRecDepth 100000
namespace Go.Proofs.YtnnjcenoihdhfaaGreatDoor
open Go
theorem j_reelWrites_13 : (Rows.reelWritesRow.named == Tryz.pinned.checked.prog.varsNamed 3) = true := by kernel_rfl
end Go.Proofs.YtnnjcenoihdhfaaGreatDoor
