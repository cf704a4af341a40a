/-
  DERIVED. GIVEN WITH THE SEED: THE CARDS: each row of YtnnjcenoihdhfaaGreatDoorRows.lean that lists a variable, with what it lists TIED to the program's text (the seventh form; the later family's looks); each row that meets fmt, with fmt's text TOLD by the authors' own Lean function (tested against real Go, not proved from fmt's source: count such statements apart). THE CARD IS WHAT COUNTS. Prove the row's statement (the work); the ties are given (YtnnjcenoihdhfaaGreatDoorTie.lean); close each card by the builder's one call (the guide's Derived/Test/ToyasCard.lean, 'card_holds'). Laid BY PROGRAM, IN A SANDBOX (cutbox-door.mjs). By AI agents, Wed Nov 11 2026. No macro, syntax, notation, axiom, sorry.
-/
import Derived.Test.YtnnjcenoihdhfaaGreatDoorRows
import GoSem.ClaimSeven
namespace Go.Proofs.YtnnjcenoihdhfaaGreatDoor
namespace Rows

/-- THE TIED CARD OF 'tiltyardlaw27.ReelWrites'. -/
def reelWritesCard : Claim7 := { stood := { row := reelWritesRow, standIns := [], harness := (true, "6431bf441ade55fd0651bcddb12eba436f730ac5c4c4e14f1a31be04c5165619"), looks := true }, kinds := [], alts := [], laidByText := true, laidKinds := [.data, .data, .data, .data, .data, .data, .data, .data, .data, .data], laidTests := true, laidLooks := .later }
def ReelWritesCardSaid : Prop := Claim7.holds Tryz.pinned (.plain (OpenSpec.ofChange reelWritesSpec)) reelWritesCard

/-- THE TIED CARD OF 'tiltyardlaw27.ReelReads'. -/
def reelReadsCard : Claim7 := { stood := { row := reelReadsRow, standIns := [], harness := (true, "6431bf441ade55fd0651bcddb12eba436f730ac5c4c4e14f1a31be04c5165619"), looks := true }, kinds := [], alts := [], laidByText := true, laidKinds := [.data, .data, .data, .data, .data, .data, .data, .data, .data, .data], laidTests := true, laidLooks := .later }
def ReelReadsCardSaid : Prop := Claim7.holds Tryz.pinned (.plain (OpenSpec.ofChange reelReadsSpec)) reelReadsCard

/-- THE TIED CARD OF 'tiltyardlaw27.ReelTells'. -/
def reelTellsCard : Claim7 := { stood := { row := reelTellsRow, standIns := [], harness := (true, "6431bf441ade55fd0651bcddb12eba436f730ac5c4c4e14f1a31be04c5165619"), looks := true }, kinds := [], alts := [], laidByText := true, laidKinds := [.data, .data, .data, .data, .data, .data, .data, .data, .data, .data], laidTests := true, laidLooks := .later }
def ReelTellsCardSaid : Prop := Claim7.holds Tryz.pinned (.plain (OpenSpec.ofChange reelTellsSpec)) reelTellsCard

/-- THE TIED CARD OF 'tiltyardlaw27.ReelBack'. -/
def reelBackCard : Claim7 := { stood := { row := reelBackRow, standIns := [], harness := (true, "6431bf441ade55fd0651bcddb12eba436f730ac5c4c4e14f1a31be04c5165619"), looks := true }, kinds := [], alts := [], laidByText := true, laidKinds := [.data, .data, .data, .data, .data, .data, .data, .data, .data, .data], laidTests := true, laidLooks := .later }
def ReelBackCardSaid : Prop := Claim7.holds Tryz.pinned (.plain (OpenSpec.ofChange reelBackSpec)) reelBackCard

/-- THE SECOND FORM's CARD OF 'tiltyardlaw27.ReelWrites'. -/
def reelWritesUptoCard : Claim7 := { stood := { row := reelWritesUptoRow, standIns := [], harness := (true, "6431bf441ade55fd0651bcddb12eba436f730ac5c4c4e14f1a31be04c5165619"), looks := true }, kinds := [], alts := [], laidByText := true, laidKinds := [.data, .data, .data, .data, .data, .data, .data, .data, .data, .data], laidTests := true, laidLooks := .later }
def ReelWritesUptoCardSaid : Prop := Claim7.holds Tryz.pinned (.plain (OpenSpec.upto reelWritesSpec)) reelWritesUptoCard

/-- THE SECOND FORM's CARD OF 'tiltyardlaw27.ReelReads'. -/
def reelReadsUptoCard : Claim7 := { stood := { row := reelReadsUptoRow, standIns := [], harness := (true, "6431bf441ade55fd0651bcddb12eba436f730ac5c4c4e14f1a31be04c5165619"), looks := true }, kinds := [], alts := [], laidByText := true, laidKinds := [.data, .data, .data, .data, .data, .data, .data, .data, .data, .data], laidTests := true, laidLooks := .later }
def ReelReadsUptoCardSaid : Prop := Claim7.holds Tryz.pinned (.plain (OpenSpec.upto reelReadsSpec)) reelReadsUptoCard

/-- THE SECOND FORM's CARD OF 'tiltyardlaw27.ReelTells'. -/
def reelTellsUptoCard : Claim7 := { stood := { row := reelTellsUptoRow, standIns := [], harness := (true, "6431bf441ade55fd0651bcddb12eba436f730ac5c4c4e14f1a31be04c5165619"), looks := true }, kinds := [], alts := [], laidByText := true, laidKinds := [.data, .data, .data, .data, .data, .data, .data, .data, .data, .data], laidTests := true, laidLooks := .later }
def ReelTellsUptoCardSaid : Prop := Claim7.holds Tryz.pinned (.plain (OpenSpec.upto reelTellsSpec)) reelTellsUptoCard

/-- THE SECOND FORM's CARD OF 'tiltyardlaw27.ReelBack'. -/
def reelBackUptoCard : Claim7 := { stood := { row := reelBackUptoRow, standIns := [], harness := (true, "6431bf441ade55fd0651bcddb12eba436f730ac5c4c4e14f1a31be04c5165619"), looks := true }, kinds := [], alts := [], laidByText := true, laidKinds := [.data, .data, .data, .data, .data, .data, .data, .data, .data, .data], laidTests := true, laidLooks := .later }
def ReelBackUptoCardSaid : Prop := Claim7.holds Tryz.pinned (.plain (OpenSpec.upto reelBackSpec)) reelBackUptoCard
end Rows
end Go.Proofs.YtnnjcenoihdhfaaGreatDoor
