/- The program's tie out of its pieces, and the rows' ties. -/
import Derived.Test.YtnnjcenoihdhfaaGreatDoorPtA
import Derived.Test.YtnnjcenoihdhfaaGreatDoorPtB
import Derived.Test.YtnnjcenoihdhfaaGreatDoorPtC
import Derived.Test.YtnnjcenoihdhfaaGreatDoorPtD
import Derived.Test.YtnnjcenoihdhfaaGreatDoorPtE
import Derived.Test.YtnnjcenoihdhfaaGreatDoorPtF
import Derived.LaidByTextLater
import Derived.SevenTiedAt
namespace Go.Proofs.YtnnjcenoihdhfaaGreatDoor
open Go
theorem tie : Tryz.prog.laidByTextLater laidT [.data, .data, .data, .data, .data, .data, .data, .data, .data, .data] true :=
  Program.laidByTextLater_by_run 400 8 tie_w tie_w' tie_root tie_k tie_g tie_n tie_d tie_1 tie_2 tie_p
theorem reelWrites_row_tie : Rows.reelWritesRow.laidByTextAt .later Tryz.pinned [.data, .data, .data, .data, .data, .data, .data, .data, .data, .data] true :=
  OpenClaim.laidByTextAt_later rfl rfl tie noOwnUnsafe tie_f
theorem reelReads_row_tie : Rows.reelReadsRow.laidByTextAt .later Tryz.pinned [.data, .data, .data, .data, .data, .data, .data, .data, .data, .data] true :=
  OpenClaim.laidByTextAt_later rfl rfl tie noOwnUnsafe tie_f
theorem reelTells_row_tie : Rows.reelTellsRow.laidByTextAt .later Tryz.pinned [.data, .data, .data, .data, .data, .data, .data, .data, .data, .data] true :=
  OpenClaim.laidByTextAt_later rfl rfl tie noOwnUnsafe tie_f
theorem reelBack_row_tie : Rows.reelBackRow.laidByTextAt .later Tryz.pinned [.data, .data, .data, .data, .data, .data, .data, .data, .data, .data] true :=
  OpenClaim.laidByTextAt_later rfl rfl tie noOwnUnsafe tie_f
end Go.Proofs.YtnnjcenoihdhfaaGreatDoor
