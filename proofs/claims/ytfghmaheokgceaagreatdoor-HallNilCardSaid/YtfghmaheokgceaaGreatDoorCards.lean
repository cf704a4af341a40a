/-
  DERIVED. GIVEN WITH THE SEED: THE CARDS: each row of YtfghmaheokgceaaGreatDoorRows.lean that lists a variable, with what it lists TIED to the program's text (the seventh form; the later family's looks); each row that meets fmt, with fmt's text TOLD by the authors' own Lean function (tested against real Go, not proved from fmt's source: count such statements apart). THE CARD IS WHAT COUNTS. Prove the row's statement (the work); the ties are given (YtfghmaheokgceaaGreatDoorTie.lean); close each card by the builder's one call (the guide's Derived/Test/ToyasCard.lean, 'card_holds'). Laid BY PROGRAM, IN A SANDBOX (cutbox-door.mjs). By AI agents, Wed Nov 11 2026. No macro, syntax, notation, axiom, sorry.
-/
import Derived.Test.YtfghmaheokgceaaGreatDoorRows
import GoSem.ClaimSeven
namespace Go.Proofs.YtfghmaheokgceaaGreatDoor
namespace Rows

/-- THE TIED CARD OF 'tiltyardlaw24.HallNil'. -/
def hallNilCard : Claim7 := { stood := { row := hallNilRow, standIns := [], harness := (true, "954bf12ba524bd4c52440bd72c9204d810a8c14b54da15b71d10767fdc6dec5d"), looks := true }, kinds := [], alts := [], laidByText := true, laidKinds := [.data, .data, .data, .data, .data, .data, .data, .data, .data, .data], laidTests := true, laidLooks := .later }
def HallNilCardSaid : Prop := Claim7.holds Tryz.pinned (.plain (OpenSpec.ofChange hallNilSpec)) hallNilCard

/-- THE SECOND FORM's CARD OF 'tiltyardlaw24.HallNil'. -/
def hallNilUptoCard : Claim7 := { stood := { row := hallNilUptoRow, standIns := [], harness := (true, "954bf12ba524bd4c52440bd72c9204d810a8c14b54da15b71d10767fdc6dec5d"), looks := true }, kinds := [], alts := [], laidByText := true, laidKinds := [.data, .data, .data, .data, .data, .data, .data, .data, .data, .data], laidTests := true, laidLooks := .later }
def HallNilUptoCardSaid : Prop := Claim7.holds Tryz.pinned (.plain (OpenSpec.upto hallNilSpec)) hallNilUptoCard
end Rows
end Go.Proofs.YtfghmaheokgceaaGreatDoor
