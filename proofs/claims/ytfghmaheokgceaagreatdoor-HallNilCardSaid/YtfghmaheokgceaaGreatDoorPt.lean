/- The program's tie out of its pieces, and the rows' ties. -/
import Derived.Test.YtfghmaheokgceaaGreatDoorPtA
import Derived.Test.YtfghmaheokgceaaGreatDoorPtB
import Derived.Test.YtfghmaheokgceaaGreatDoorPtC
import Derived.Test.YtfghmaheokgceaaGreatDoorPtD
import Derived.Test.YtfghmaheokgceaaGreatDoorPtE
import Derived.Test.YtfghmaheokgceaaGreatDoorPtF
import Derived.LaidByTextLater
import Derived.SevenTiedAt
namespace Go.Proofs.YtfghmaheokgceaaGreatDoor
open Go
theorem tie : Tryz.prog.laidByTextLater laidT [.data, .data, .data, .data, .data, .data, .data, .data, .data, .data] true :=
  Program.laidByTextLater_by_run 400 8 tie_w tie_w' tie_root tie_k tie_g tie_n tie_d tie_1 tie_2 tie_p
theorem hallNil_row_tie : Rows.hallNilRow.laidByTextAt .later Tryz.pinned [.data, .data, .data, .data, .data, .data, .data, .data, .data, .data] true :=
  OpenClaim.laidByTextAt_later rfl rfl tie noOwnUnsafe tie_f
end Go.Proofs.YtfghmaheokgceaaGreatDoor
