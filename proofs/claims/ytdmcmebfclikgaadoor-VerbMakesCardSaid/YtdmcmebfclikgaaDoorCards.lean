/-
  DERIVED. GIVEN WITH THE SEED: THE CARDS: each row of YtdmcmebfclikgaaDoorRows.lean that lists a variable, with what it lists TIED to the program's text (the seventh form; the later family's looks); each row that meets fmt, with fmt's text TOLD by the authors' own Lean function (tested against real Go, not proved from fmt's source: count such statements apart). THE CARD IS WHAT COUNTS. Prove the row's statement (the work); the ties are given (YtdmcmebfclikgaaDoorTie.lean); close each card by the builder's one call (the guide's Derived/Test/ToyasCard.lean, 'card_holds'). Laid BY PROGRAM, IN A SANDBOX (cutbox-door.mjs). By AI agents, Wed Nov 11 2026. No macro, syntax, notation, axiom, sorry.
-/
import Derived.Test.YtdmcmebfclikgaaDoorRows
import GoSem.ClaimSeven
namespace Go.Proofs.YtdmcmebfclikgaaDoor
namespace Rows

/-- THE TIED CARD OF 'tiltyardlaw04.VerbEncodes'. -/
def verbEncodesCard : Claim7 := { stood := { row := verbEncodesRow, standIns := [], harness := (true, "1b491c94d19752bb349b145de6abc00f07c54011a3f692ba7bd8521053d3e651"), looks := false }, kinds := [], alts := [], laidByText := true, laidKinds := [.data, .data, .data, .data, .data], laidTests := true, laidLooks := .later }
def VerbEncodesCardSaid : Prop := Claim7.holds Tryd.pinned (.plain (OpenSpec.ofChange verbEncodesSpec)) verbEncodesCard

/-- THE TIED CARD OF 'tiltyardlaw04.VerbDecodes'. -/
def verbDecodesCard : Claim7 := { stood := { row := verbDecodesRow, standIns := [], harness := (true, "1b491c94d19752bb349b145de6abc00f07c54011a3f692ba7bd8521053d3e651"), looks := false }, kinds := [], alts := [], laidByText := true, laidKinds := [.data, .data, .data, .data, .data], laidTests := true, laidLooks := .later }
def VerbDecodesCardSaid : Prop := Claim7.holds Tryd.pinned (.plain (OpenSpec.ofChange verbDecodesSpec)) verbDecodesCard

/-- THE TIED CARD OF 'tiltyardlaw04.VerbBack'. -/
def verbBackCard : Claim7 := { stood := { row := verbBackRow, standIns := [], harness := (true, "1b491c94d19752bb349b145de6abc00f07c54011a3f692ba7bd8521053d3e651"), looks := false }, kinds := [], alts := [], laidByText := true, laidKinds := [.data, .data, .data, .data, .data], laidTests := true, laidLooks := .later }
def VerbBackCardSaid : Prop := Claim7.holds Tryd.pinned (.plain (OpenSpec.ofChange verbBackSpec)) verbBackCard

/-- THE TIED CARD OF 'tiltyardlaw04.VerbOnly'. -/
def verbOnlyCard : Claim7 := { stood := { row := verbOnlyRow, standIns := [], harness := (true, "1b491c94d19752bb349b145de6abc00f07c54011a3f692ba7bd8521053d3e651"), looks := false }, kinds := [], alts := [], laidByText := true, laidKinds := [.data, .data, .data, .data, .data], laidTests := true, laidLooks := .later }
def VerbOnlyCardSaid : Prop := Claim7.holds Tryd.pinned (.plain (OpenSpec.ofChange verbOnlySpec)) verbOnlyCard

/-- THE TIED CARD OF 'tiltyardlaw04.VerbMakes'. -/
def verbMakesCard : Claim7 := { stood := { row := verbMakesRow, standIns := [], harness := (true, "1b491c94d19752bb349b145de6abc00f07c54011a3f692ba7bd8521053d3e651"), looks := false }, kinds := [], alts := [], laidByText := true, laidKinds := [.data, .data, .data, .data, .data], laidTests := true, laidLooks := .later }
def VerbMakesCardSaid : Prop := Claim7.holds Tryd.pinned (.plain (OpenSpec.ofChange verbMakesSpec)) verbMakesCard

/-- THE TIED CARD OF 'tiltyardlaw04.VerbNames'. -/
def verbNamesCard : Claim7 := { stood := { row := verbNamesRow, standIns := [], harness := (true, "1b491c94d19752bb349b145de6abc00f07c54011a3f692ba7bd8521053d3e651"), looks := false }, kinds := [], alts := [], laidByText := true, laidKinds := [.data, .data, .data, .data, .data], laidTests := true, laidLooks := .later }
def VerbNamesCardSaid : Prop := Claim7.holds Tryd.pinned (.plain (OpenSpec.ofChange verbNamesSpec)) verbNamesCard

/-- THE TIED CARD OF 'tiltyardlaw04.VerbKinds'. -/
def verbKindsCard : Claim7 := { stood := { row := verbKindsRow, standIns := [], harness := (true, "1b491c94d19752bb349b145de6abc00f07c54011a3f692ba7bd8521053d3e651"), looks := false }, kinds := [], alts := [], laidByText := true, laidKinds := [.data, .data, .data, .data, .data], laidTests := true, laidLooks := .later }
def VerbKindsCardSaid : Prop := Claim7.holds Tryd.pinned (.plain (OpenSpec.ofChange verbKindsSpec)) verbKindsCard

/-- THE SECOND FORM's CARD OF 'tiltyardlaw04.VerbEncodes'. -/
def verbEncodesUptoCard : Claim7 := { stood := { row := verbEncodesUptoRow, standIns := [], harness := (true, "1b491c94d19752bb349b145de6abc00f07c54011a3f692ba7bd8521053d3e651"), looks := false }, kinds := [], alts := [], laidByText := true, laidKinds := [.data, .data, .data, .data, .data], laidTests := true, laidLooks := .later }
def VerbEncodesUptoCardSaid : Prop := Claim7.holds Tryd.pinned (.plain (OpenSpec.upto verbEncodesSpec)) verbEncodesUptoCard

/-- THE SECOND FORM's CARD OF 'tiltyardlaw04.VerbDecodes'. -/
def verbDecodesUptoCard : Claim7 := { stood := { row := verbDecodesUptoRow, standIns := [], harness := (true, "1b491c94d19752bb349b145de6abc00f07c54011a3f692ba7bd8521053d3e651"), looks := false }, kinds := [], alts := [], laidByText := true, laidKinds := [.data, .data, .data, .data, .data], laidTests := true, laidLooks := .later }
def VerbDecodesUptoCardSaid : Prop := Claim7.holds Tryd.pinned (.plain (OpenSpec.upto verbDecodesSpec)) verbDecodesUptoCard

/-- THE SECOND FORM's CARD OF 'tiltyardlaw04.VerbBack'. -/
def verbBackUptoCard : Claim7 := { stood := { row := verbBackUptoRow, standIns := [], harness := (true, "1b491c94d19752bb349b145de6abc00f07c54011a3f692ba7bd8521053d3e651"), looks := false }, kinds := [], alts := [], laidByText := true, laidKinds := [.data, .data, .data, .data, .data], laidTests := true, laidLooks := .later }
def VerbBackUptoCardSaid : Prop := Claim7.holds Tryd.pinned (.plain (OpenSpec.upto verbBackSpec)) verbBackUptoCard

/-- THE SECOND FORM's CARD OF 'tiltyardlaw04.VerbOnly'. -/
def verbOnlyUptoCard : Claim7 := { stood := { row := verbOnlyUptoRow, standIns := [], harness := (true, "1b491c94d19752bb349b145de6abc00f07c54011a3f692ba7bd8521053d3e651"), looks := false }, kinds := [], alts := [], laidByText := true, laidKinds := [.data, .data, .data, .data, .data], laidTests := true, laidLooks := .later }
def VerbOnlyUptoCardSaid : Prop := Claim7.holds Tryd.pinned (.plain (OpenSpec.upto verbOnlySpec)) verbOnlyUptoCard

/-- THE SECOND FORM's CARD OF 'tiltyardlaw04.VerbMakes'. -/
def verbMakesUptoCard : Claim7 := { stood := { row := verbMakesUptoRow, standIns := [], harness := (true, "1b491c94d19752bb349b145de6abc00f07c54011a3f692ba7bd8521053d3e651"), looks := false }, kinds := [], alts := [], laidByText := true, laidKinds := [.data, .data, .data, .data, .data], laidTests := true, laidLooks := .later }
def VerbMakesUptoCardSaid : Prop := Claim7.holds Tryd.pinned (.plain (OpenSpec.upto verbMakesSpec)) verbMakesUptoCard

/-- THE SECOND FORM's CARD OF 'tiltyardlaw04.VerbNames'. -/
def verbNamesUptoCard : Claim7 := { stood := { row := verbNamesUptoRow, standIns := [], harness := (true, "1b491c94d19752bb349b145de6abc00f07c54011a3f692ba7bd8521053d3e651"), looks := false }, kinds := [], alts := [], laidByText := true, laidKinds := [.data, .data, .data, .data, .data], laidTests := true, laidLooks := .later }
def VerbNamesUptoCardSaid : Prop := Claim7.holds Tryd.pinned (.plain (OpenSpec.upto verbNamesSpec)) verbNamesUptoCard

/-- THE SECOND FORM's CARD OF 'tiltyardlaw04.VerbKinds'. -/
def verbKindsUptoCard : Claim7 := { stood := { row := verbKindsUptoRow, standIns := [], harness := (true, "1b491c94d19752bb349b145de6abc00f07c54011a3f692ba7bd8521053d3e651"), looks := false }, kinds := [], alts := [], laidByText := true, laidKinds := [.data, .data, .data, .data, .data], laidTests := true, laidLooks := .later }
def VerbKindsUptoCardSaid : Prop := Claim7.holds Tryd.pinned (.plain (OpenSpec.upto verbKindsSpec)) verbKindsUptoCard
end Rows
end Go.Proofs.YtdmcmebfclikgaaDoor
