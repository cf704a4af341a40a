/-
  NARROWER THAN 'FOR EVERY INPUT', by the rows' own cells (each row's printed sentence says how): VerbEncodes: laid · VerbDecodes: laid · VerbBack: laid · VerbOnly: laid · VerbMakes: laid · VerbNames: laid · VerbKinds: laid.
  DERIVED. THE GIVEN ROWS OF THIS SEAT. 7 by the template 'for every input the law returns true; each argument reads behind the call as it read before'; 0 by the template 'total and deterministic' (their statements: YtdmcmebfclikgaaDoorTotals.lean).
  GIVEN WITH THE SEED: the statements are not yours to turn. If you find one false, say at which input.
  Laid BY PROGRAM, IN A SANDBOX (cutbox-rows.mjs): the forced cells as the released guide's own fill.sh prints them over the translation 0b375d5ff715c4d1… (all of the seat's roots in one cut). By AI agents, Wed Nov 11 2026. No macro, syntax, notation, axiom, sorry.
-/
import Derived.Test.YtdmcmebfclikgaaDoorChecked
import GoSem.Claim
import GoSem.ClaimJoined
import GoSem.ClaimMapViews
import Derived.JoinedTies
import Derived.KernelRfl
namespace Go.Proofs.YtdmcmebfclikgaaDoor
/- THE CELL 'sum', in the pinned program and in every row, IS THE sha256 OF THE DUMP (.gsa) THAT YtdmcmebfclikgaaDoorProg.lean LOADS. Nothing in Lean hashes anything: it is a label: what it is worth is what the hold of that sum in a sandbox is worth. -/
noncomputable def Tryd.pinned : Pinned := { name := "ytdmcmebfclikgaadoor", sum := "0b375d5ff715c4d1e156e45d79b6115bcca3f516a3fb1269e307d3fb98017eb6", checked := Tryd.checked }
namespace Rows
def none {H : Type} : Left H := { results := [], args := [] }

/- WHAT THE LISTED PACKAGE-LEVEL VARIABLES READ AS WHEN THE CALL BEGINS. Each datum BY PROGRAM (the guide's laid-datum.mjs) off the statement by which the dump's own 'gosem.cut.vars' lays the variable. In a bare row this is a premise. The card (YtdmcmebfclikgaaDoorCards.lean) ties it to the program's text. -/
def laid_tiltyard_verb_requests {H : Type} : DataW H := .agg [.lit (.string [108, 111, 103, 105, 110, 32, 115]), .lit (.string [112, 105, 110, 103, 32, 100]), .lit (.string [102, 114, 105, 101, 110, 100, 45, 97, 115, 107, 32, 100]), .lit (.string [102, 114, 105, 101, 110, 100, 45, 97, 99, 99, 101, 112, 116, 32, 100]), .lit (.string [102, 114, 105, 101, 110, 100, 45, 114, 101, 102, 117, 115, 101, 32, 100]), .lit (.string [102, 114, 105, 101, 110, 100, 45, 114, 101, 109, 111, 118, 101, 32, 100]), .lit (.string [98, 108, 111, 99, 107, 32, 100]), .lit (.string [117, 110, 98, 108, 111, 99, 107, 32, 100]), .lit (.string [102, 114, 105, 101, 110, 100, 115, 32]), .lit (.string [105, 110, 118, 105, 116, 101, 32, 100]), .lit (.string [106, 111, 105, 110, 32, 100]), .lit (.string [114, 101, 102, 117, 115, 101, 32, 100]), .lit (.string [108, 101, 97, 118, 101, 32]), .lit (.string [107, 105, 99, 107, 32, 100]), .lit (.string [108, 101, 97, 100, 32, 100]), .lit (.string [112, 97, 114, 116, 121, 32]), .lit (.string [113, 117, 101, 117, 101, 32, 98]), .lit (.string [99, 97, 110, 99, 101, 108, 32]), .lit (.string [97, 99, 99, 101, 112, 116, 32]), .lit (.string [100, 101, 99, 108, 105, 110, 101, 32]), .lit (.string [116, 111, 107, 101, 110, 32]), .lit (.string [114, 97, 116, 105, 110, 103, 32, 100]), .lit (.string [112, 101, 110, 97, 108, 116, 121, 32]), .lit (.string [115, 116, 97, 116, 117, 115, 32, 100]), .lit (.string [108, 111, 103, 111, 117, 116, 32]), .lit (.string [116, 105, 109, 101, 32]), .lit (.string [109, 97, 116, 99, 104, 32])]
def laid_tiltyard_verb_replies {H : Type} : DataW H := .agg [.lit (.string [111, 107, 32, 98]), .lit (.string [101, 114, 114, 111, 114, 32, 98, 98]), .lit (.string [119, 101, 108, 99, 111, 109, 101, 32, 100, 100, 98]), .lit (.string [112, 111, 110, 103, 32, 100]), .lit (.string [102, 114, 105, 101, 110, 100, 45, 108, 105, 115, 116, 32, 108, 108, 108]), .lit (.string [112, 97, 114, 116, 121, 45, 105, 115, 32, 100, 100, 108]), .lit (.string [114, 97, 116, 105, 110, 103, 45, 105, 115, 32, 100, 100]), .lit (.string [112, 101, 110, 97, 108, 116, 121, 45, 105, 115, 32, 98, 113]), .lit (.string [115, 116, 97, 116, 117, 115, 45, 105, 115, 32, 100, 98]), .lit (.string [116, 105, 109, 101, 45, 105, 115, 32, 113]), .lit (.string [109, 97, 116, 99, 104, 45, 105, 115, 32, 100, 119, 98, 98])]
def laid_tiltyard_verb_events {H : Type} : DataW H := .agg [.lit (.string [102, 114, 105, 101, 110, 100, 45, 97, 115, 107, 101, 100, 32, 100]), .lit (.string [102, 114, 105, 101, 110, 100, 45, 110, 111, 119, 32, 100, 98]), .lit (.string [102, 114, 105, 101, 110, 100, 45, 103, 111, 110, 101, 32, 100]), .lit (.string [112, 114, 101, 115, 101, 110, 99, 101, 32, 100, 98]), .lit (.string [105, 110, 118, 105, 116, 101, 100, 32, 100, 100]), .lit (.string [112, 97, 114, 116, 121, 45, 110, 111, 119, 32, 100, 100, 108]), .lit (.string [112, 97, 114, 116, 121, 45, 111, 118, 101, 114, 32, 100]), .lit (.string [113, 117, 101, 117, 101, 100, 32, 98]), .lit (.string [117, 110, 113, 117, 101, 117, 101, 100, 32, 98]), .lit (.string [99, 104, 101, 99, 107, 32, 100, 113]), .lit (.string [99, 104, 101, 99, 107, 45, 111, 118, 101, 114, 32, 100, 98]), .lit (.string [115, 101, 97, 116, 32, 100, 119, 98, 98, 113, 115]), .lit (.string [108, 105, 118, 101, 32, 100]), .lit (.string [111, 118, 101, 114, 32, 100, 98, 100]), .lit (.string [112, 101, 110, 97, 108, 105, 115, 101, 100, 32, 98, 98, 113]), .lit (.string [98, 121, 101, 32, 98])]
def laid_tiltyard_verb_orders {H : Type} : DataW H := .agg [.lit (.string [115, 116, 97, 114, 116, 32, 100, 98, 108, 108]), .lit (.string [102, 105, 108, 108, 101, 100, 32, 100, 98, 108]), .lit (.string [108, 111, 115, 116, 32, 100, 100]), .lit (.string [100, 114, 97, 105, 110, 32, 100]), .lit (.string [106, 111, 105, 110, 101, 100, 32, 100, 100]), .lit (.string [114, 101, 102, 117, 115, 101, 100, 32, 98, 98])]
def laid_tiltyard_verb_reports {H : Type} : DataW H := .agg [.lit (.string [104, 101, 108, 108, 111, 32]), .lit (.string [98, 101, 97, 116, 32]), .lit (.string [117, 112, 32]), .lit (.string [99, 111, 109, 101, 32, 115]), .lit (.string [108, 101, 102, 116, 32, 100]), .lit (.string [114, 101, 115, 117, 108, 116, 32, 100, 98]), .lit (.string [102, 114, 101, 101, 100, 32])]

/-- 'tiltyardlaw04.VerbEncodes': WHATEVER THE INPUT: true; the input reads as it did. -/
def verbEncodesSpec : ChangeSpec := { name := "verbEncodes", fn := fun _ => fun
  | [d] => { results := [.lit (.bool true)], args := [d] }
  | _ => none }
def verbEncodesRow : OpenClaim := { program := "ytdmcmebfclikgaadoor", sum := "0b375d5ff715c4d1e156e45d79b6115bcca3f516a3fb1269e307d3fb98017eb6", func := "tiltyard/tiltyardlaw04.VerbEncodes", spec := "verbEncodes", inPlace := ["internal/bytealg.IndexByteString", "internal/bytealg.IndexString"], named := ["tiltyard/verb.requests", "tiltyard/verb.replies", "tiltyard/verb.events", "tiltyard/verb.orders", "tiltyard/verb.reports", "internal/bytealg.MaxLen"], apart := false, laid := [("tiltyard/verb.requests", laid_tiltyard_verb_requests), ("tiltyard/verb.replies", laid_tiltyard_verb_replies), ("tiltyard/verb.events", laid_tiltyard_verb_events), ("tiltyard/verb.orders", laid_tiltyard_verb_orders), ("tiltyard/verb.reports", laid_tiltyard_verb_reports)] }
def VerbEncodesSaid : Prop := verbEncodesRow.holds Tryd.pinned (OpenSpec.ofChange verbEncodesSpec)

/-- ITS FALSE NEIGHBOUR: 'it returns false'. Refute it at one input. -/
def verbEncodesWrong : ChangeSpec := { name := "verbEncodes", fn := fun _ => fun
  | [d] => { results := [.lit (.bool false)], args := [d] }
  | _ => none }
def VerbEncodesWrongFalsely : Prop := verbEncodesRow.holds Tryd.pinned (OpenSpec.ofChange verbEncodesWrong)

/-- 'tiltyardlaw04.VerbDecodes': WHATEVER THE INPUT: true; the input reads as it did. -/
def verbDecodesSpec : ChangeSpec := { name := "verbDecodes", fn := fun _ => fun
  | [d] => { results := [.lit (.bool true)], args := [d] }
  | _ => none }
def verbDecodesRow : OpenClaim := { program := "ytdmcmebfclikgaadoor", sum := "0b375d5ff715c4d1e156e45d79b6115bcca3f516a3fb1269e307d3fb98017eb6", func := "tiltyard/tiltyardlaw04.VerbDecodes", spec := "verbDecodes", inPlace := ["internal/bytealg.IndexByteString", "internal/bytealg.IndexString"], named := ["tiltyard/verb.requests", "tiltyard/verb.replies", "tiltyard/verb.events", "tiltyard/verb.orders", "tiltyard/verb.reports", "internal/bytealg.MaxLen"], apart := false, laid := [("tiltyard/verb.requests", laid_tiltyard_verb_requests), ("tiltyard/verb.replies", laid_tiltyard_verb_replies), ("tiltyard/verb.events", laid_tiltyard_verb_events), ("tiltyard/verb.orders", laid_tiltyard_verb_orders), ("tiltyard/verb.reports", laid_tiltyard_verb_reports)] }
def VerbDecodesSaid : Prop := verbDecodesRow.holds Tryd.pinned (OpenSpec.ofChange verbDecodesSpec)

/-- ITS FALSE NEIGHBOUR: 'it returns false'. Refute it at one input. -/
def verbDecodesWrong : ChangeSpec := { name := "verbDecodes", fn := fun _ => fun
  | [d] => { results := [.lit (.bool false)], args := [d] }
  | _ => none }
def VerbDecodesWrongFalsely : Prop := verbDecodesRow.holds Tryd.pinned (OpenSpec.ofChange verbDecodesWrong)

/-- 'tiltyardlaw04.VerbBack': WHATEVER THE INPUT: true; the input reads as it did. -/
def verbBackSpec : ChangeSpec := { name := "verbBack", fn := fun _ => fun
  | [d] => { results := [.lit (.bool true)], args := [d] }
  | _ => none }
def verbBackRow : OpenClaim := { program := "ytdmcmebfclikgaadoor", sum := "0b375d5ff715c4d1e156e45d79b6115bcca3f516a3fb1269e307d3fb98017eb6", func := "tiltyard/tiltyardlaw04.VerbBack", spec := "verbBack", inPlace := ["internal/bytealg.IndexByteString", "internal/bytealg.IndexString"], named := ["tiltyard/verb.requests", "tiltyard/verb.replies", "tiltyard/verb.events", "tiltyard/verb.orders", "tiltyard/verb.reports", "internal/bytealg.MaxLen"], apart := false, laid := [("tiltyard/verb.requests", laid_tiltyard_verb_requests), ("tiltyard/verb.replies", laid_tiltyard_verb_replies), ("tiltyard/verb.events", laid_tiltyard_verb_events), ("tiltyard/verb.orders", laid_tiltyard_verb_orders), ("tiltyard/verb.reports", laid_tiltyard_verb_reports)] }
def VerbBackSaid : Prop := verbBackRow.holds Tryd.pinned (OpenSpec.ofChange verbBackSpec)

/-- ITS FALSE NEIGHBOUR: 'it returns false'. Refute it at one input. -/
def verbBackWrong : ChangeSpec := { name := "verbBack", fn := fun _ => fun
  | [d] => { results := [.lit (.bool false)], args := [d] }
  | _ => none }
def VerbBackWrongFalsely : Prop := verbBackRow.holds Tryd.pinned (OpenSpec.ofChange verbBackWrong)

/-- 'tiltyardlaw04.VerbOnly': WHATEVER THE INPUT: true; the input reads as it did. -/
def verbOnlySpec : ChangeSpec := { name := "verbOnly", fn := fun _ => fun
  | [d] => { results := [.lit (.bool true)], args := [d] }
  | _ => none }
def verbOnlyRow : OpenClaim := { program := "ytdmcmebfclikgaadoor", sum := "0b375d5ff715c4d1e156e45d79b6115bcca3f516a3fb1269e307d3fb98017eb6", func := "tiltyard/tiltyardlaw04.VerbOnly", spec := "verbOnly", inPlace := ["internal/bytealg.IndexByteString", "internal/bytealg.IndexString"], named := ["tiltyard/verb.requests", "tiltyard/verb.replies", "tiltyard/verb.events", "tiltyard/verb.orders", "tiltyard/verb.reports", "internal/bytealg.MaxLen"], apart := false, laid := [("tiltyard/verb.requests", laid_tiltyard_verb_requests), ("tiltyard/verb.replies", laid_tiltyard_verb_replies), ("tiltyard/verb.events", laid_tiltyard_verb_events), ("tiltyard/verb.orders", laid_tiltyard_verb_orders), ("tiltyard/verb.reports", laid_tiltyard_verb_reports)] }
def VerbOnlySaid : Prop := verbOnlyRow.holds Tryd.pinned (OpenSpec.ofChange verbOnlySpec)

/-- ITS FALSE NEIGHBOUR: 'it returns false'. Refute it at one input. -/
def verbOnlyWrong : ChangeSpec := { name := "verbOnly", fn := fun _ => fun
  | [d] => { results := [.lit (.bool false)], args := [d] }
  | _ => none }
def VerbOnlyWrongFalsely : Prop := verbOnlyRow.holds Tryd.pinned (OpenSpec.ofChange verbOnlyWrong)

/-- 'tiltyardlaw04.VerbMakes': WHATEVER THE INPUT: true; the input reads as it did. -/
def verbMakesSpec : ChangeSpec := { name := "verbMakes", fn := fun _ => fun
  | [d1, d2] => { results := [.lit (.bool true)], args := [d1, d2] }
  | _ => none }
def verbMakesRow : OpenClaim := { program := "ytdmcmebfclikgaadoor", sum := "0b375d5ff715c4d1e156e45d79b6115bcca3f516a3fb1269e307d3fb98017eb6", func := "tiltyard/tiltyardlaw04.VerbMakes", spec := "verbMakes", inPlace := ["internal/bytealg.IndexByteString", "internal/bytealg.IndexString"], named := ["tiltyard/verb.requests", "tiltyard/verb.replies", "tiltyard/verb.events", "tiltyard/verb.orders", "tiltyard/verb.reports", "internal/bytealg.MaxLen"], apart := false, laid := [("tiltyard/verb.requests", laid_tiltyard_verb_requests), ("tiltyard/verb.replies", laid_tiltyard_verb_replies), ("tiltyard/verb.events", laid_tiltyard_verb_events), ("tiltyard/verb.orders", laid_tiltyard_verb_orders), ("tiltyard/verb.reports", laid_tiltyard_verb_reports)] }
def VerbMakesSaid : Prop := verbMakesRow.holds Tryd.pinned (OpenSpec.ofChange verbMakesSpec)

/-- ITS FALSE NEIGHBOUR: 'it returns false'. Refute it at one input. -/
def verbMakesWrong : ChangeSpec := { name := "verbMakes", fn := fun _ => fun
  | [d1, d2] => { results := [.lit (.bool false)], args := [d1, d2] }
  | _ => none }
def VerbMakesWrongFalsely : Prop := verbMakesRow.holds Tryd.pinned (OpenSpec.ofChange verbMakesWrong)

/-- 'tiltyardlaw04.VerbNames': WHATEVER THE INPUT: true; the input reads as it did. -/
def verbNamesSpec : ChangeSpec := { name := "verbNames", fn := fun _ => fun
  | [d1, d2] => { results := [.lit (.bool true)], args := [d1, d2] }
  | _ => none }
def verbNamesRow : OpenClaim := { program := "ytdmcmebfclikgaadoor", sum := "0b375d5ff715c4d1e156e45d79b6115bcca3f516a3fb1269e307d3fb98017eb6", func := "tiltyard/tiltyardlaw04.VerbNames", spec := "verbNames", inPlace := ["internal/bytealg.IndexByteString", "internal/bytealg.IndexString"], named := ["tiltyard/verb.requests", "tiltyard/verb.replies", "tiltyard/verb.events", "tiltyard/verb.orders", "tiltyard/verb.reports", "internal/bytealg.MaxLen"], apart := false, laid := [("tiltyard/verb.requests", laid_tiltyard_verb_requests), ("tiltyard/verb.replies", laid_tiltyard_verb_replies), ("tiltyard/verb.events", laid_tiltyard_verb_events), ("tiltyard/verb.orders", laid_tiltyard_verb_orders), ("tiltyard/verb.reports", laid_tiltyard_verb_reports)] }
def VerbNamesSaid : Prop := verbNamesRow.holds Tryd.pinned (OpenSpec.ofChange verbNamesSpec)

/-- ITS FALSE NEIGHBOUR: 'it returns false'. Refute it at one input. -/
def verbNamesWrong : ChangeSpec := { name := "verbNames", fn := fun _ => fun
  | [d1, d2] => { results := [.lit (.bool false)], args := [d1, d2] }
  | _ => none }
def VerbNamesWrongFalsely : Prop := verbNamesRow.holds Tryd.pinned (OpenSpec.ofChange verbNamesWrong)

/-- 'tiltyardlaw04.VerbKinds': WHATEVER THE INPUT: true; the input reads as it did. -/
def verbKindsSpec : ChangeSpec := { name := "verbKinds", fn := fun _ => fun
  | [d1, d2] => { results := [.lit (.bool true)], args := [d1, d2] }
  | _ => none }
def verbKindsRow : OpenClaim := { program := "ytdmcmebfclikgaadoor", sum := "0b375d5ff715c4d1e156e45d79b6115bcca3f516a3fb1269e307d3fb98017eb6", func := "tiltyard/tiltyardlaw04.VerbKinds", spec := "verbKinds", inPlace := ["internal/bytealg.IndexByteString", "internal/bytealg.IndexString"], named := ["tiltyard/verb.requests", "tiltyard/verb.replies", "tiltyard/verb.events", "tiltyard/verb.orders", "tiltyard/verb.reports", "internal/bytealg.MaxLen"], apart := false, laid := [("tiltyard/verb.requests", laid_tiltyard_verb_requests), ("tiltyard/verb.replies", laid_tiltyard_verb_replies), ("tiltyard/verb.events", laid_tiltyard_verb_events), ("tiltyard/verb.orders", laid_tiltyard_verb_orders), ("tiltyard/verb.reports", laid_tiltyard_verb_reports)] }
def VerbKindsSaid : Prop := verbKindsRow.holds Tryd.pinned (OpenSpec.ofChange verbKindsSpec)

/-- ITS FALSE NEIGHBOUR: 'it returns false'. Refute it at one input. -/
def verbKindsWrong : ChangeSpec := { name := "verbKinds", fn := fun _ => fun
  | [d1, d2] => { results := [.lit (.bool false)], args := [d1, d2] }
  | _ => none }
def VerbKindsWrongFalsely : Prop := verbKindsRow.holds Tryd.pinned (OpenSpec.ofChange verbKindsWrong)

/- THE SECOND FORM. 'bulk': how many values and letters a reading holds, each counted each time it is reached (what is shared counts as often as it is met; a slice's spare places count too). A statement '..UptoSaid' is the law's where the arguments, and the package variables that the reading takes, are together of bulk at most 1048576: NARROWER than '..Said'. Prove '..Said' where nothing that the law and all that it calls make is longer than what came in: it says more and counts as full. Else prove '..UptoSaid'. A law counts once. -/
mutual
def uptoBulk {H : Type} : DataW H → Nat
  | .lit (.string bytes) => bytes.length + 1
  | .lit _ => 1
  | .nil => 1
  | .ptr d => uptoBulk d + 1
  | .slice elems spare => uptoBulkAll elems + uptoBulkAll spare + 1
  | .agg parts => uptoBulkAll parts + 1
  | .iface _ d => uptoBulk d + 1
  | .map entries => uptoBulkEntries entries + 1
  | .held _ => 1
def uptoBulkAll {H : Type} : List (DataW H) → Nat
  | [] => 0
  | d :: r => uptoBulk d + uptoBulkAll r
def uptoBulkEntries {H : Type} : List (Lit × DataW H) → Nat
  | [] => 0
  | x :: r => uptoBulkEntry x + uptoBulkEntries r
def uptoBulkEntry {H : Type} : Lit × DataW H → Nat
  | (.string bytes, d) => bytes.length + uptoBulk d + 1
  | (_, d) => uptoBulk d + 1
 end
def uptoSmall : (H : Type) → List (DataW H) → Bool := fun _ ds => decide (uptoBulkAll ds ≤ 1048576)
def OpenSpec.upto (s : _root_.Go.ChangeSpec) : _root_.Go.OpenSpec := { _root_.Go.OpenSpec.ofChange s with cond := some uptoSmall }

/-- 'tiltyardlaw04.VerbEncodes', WHERE WHAT IT READS IS OF BULK AT MOST 1048576: true; the input reads as it did. -/
def verbEncodesUptoRow : OpenClaim := { program := "ytdmcmebfclikgaadoor", sum := "0b375d5ff715c4d1e156e45d79b6115bcca3f516a3fb1269e307d3fb98017eb6", func := "tiltyard/tiltyardlaw04.VerbEncodes", spec := "verbEncodes", inPlace := ["internal/bytealg.IndexByteString", "internal/bytealg.IndexString"], named := ["tiltyard/verb.requests", "tiltyard/verb.replies", "tiltyard/verb.events", "tiltyard/verb.orders", "tiltyard/verb.reports", "internal/bytealg.MaxLen"], apart := false, laid := [("tiltyard/verb.requests", laid_tiltyard_verb_requests), ("tiltyard/verb.replies", laid_tiltyard_verb_replies), ("tiltyard/verb.events", laid_tiltyard_verb_events), ("tiltyard/verb.orders", laid_tiltyard_verb_orders), ("tiltyard/verb.reports", laid_tiltyard_verb_reports)], narrowed := true }
def VerbEncodesUptoSaid : Prop := verbEncodesUptoRow.holds Tryd.pinned (OpenSpec.upto verbEncodesSpec)

/-- 'tiltyardlaw04.VerbDecodes', WHERE WHAT IT READS IS OF BULK AT MOST 1048576: true; the input reads as it did. -/
def verbDecodesUptoRow : OpenClaim := { program := "ytdmcmebfclikgaadoor", sum := "0b375d5ff715c4d1e156e45d79b6115bcca3f516a3fb1269e307d3fb98017eb6", func := "tiltyard/tiltyardlaw04.VerbDecodes", spec := "verbDecodes", inPlace := ["internal/bytealg.IndexByteString", "internal/bytealg.IndexString"], named := ["tiltyard/verb.requests", "tiltyard/verb.replies", "tiltyard/verb.events", "tiltyard/verb.orders", "tiltyard/verb.reports", "internal/bytealg.MaxLen"], apart := false, laid := [("tiltyard/verb.requests", laid_tiltyard_verb_requests), ("tiltyard/verb.replies", laid_tiltyard_verb_replies), ("tiltyard/verb.events", laid_tiltyard_verb_events), ("tiltyard/verb.orders", laid_tiltyard_verb_orders), ("tiltyard/verb.reports", laid_tiltyard_verb_reports)], narrowed := true }
def VerbDecodesUptoSaid : Prop := verbDecodesUptoRow.holds Tryd.pinned (OpenSpec.upto verbDecodesSpec)

/-- 'tiltyardlaw04.VerbBack', WHERE WHAT IT READS IS OF BULK AT MOST 1048576: true; the input reads as it did. -/
def verbBackUptoRow : OpenClaim := { program := "ytdmcmebfclikgaadoor", sum := "0b375d5ff715c4d1e156e45d79b6115bcca3f516a3fb1269e307d3fb98017eb6", func := "tiltyard/tiltyardlaw04.VerbBack", spec := "verbBack", inPlace := ["internal/bytealg.IndexByteString", "internal/bytealg.IndexString"], named := ["tiltyard/verb.requests", "tiltyard/verb.replies", "tiltyard/verb.events", "tiltyard/verb.orders", "tiltyard/verb.reports", "internal/bytealg.MaxLen"], apart := false, laid := [("tiltyard/verb.requests", laid_tiltyard_verb_requests), ("tiltyard/verb.replies", laid_tiltyard_verb_replies), ("tiltyard/verb.events", laid_tiltyard_verb_events), ("tiltyard/verb.orders", laid_tiltyard_verb_orders), ("tiltyard/verb.reports", laid_tiltyard_verb_reports)], narrowed := true }
def VerbBackUptoSaid : Prop := verbBackUptoRow.holds Tryd.pinned (OpenSpec.upto verbBackSpec)

/-- 'tiltyardlaw04.VerbOnly', WHERE WHAT IT READS IS OF BULK AT MOST 1048576: true; the input reads as it did. -/
def verbOnlyUptoRow : OpenClaim := { program := "ytdmcmebfclikgaadoor", sum := "0b375d5ff715c4d1e156e45d79b6115bcca3f516a3fb1269e307d3fb98017eb6", func := "tiltyard/tiltyardlaw04.VerbOnly", spec := "verbOnly", inPlace := ["internal/bytealg.IndexByteString", "internal/bytealg.IndexString"], named := ["tiltyard/verb.requests", "tiltyard/verb.replies", "tiltyard/verb.events", "tiltyard/verb.orders", "tiltyard/verb.reports", "internal/bytealg.MaxLen"], apart := false, laid := [("tiltyard/verb.requests", laid_tiltyard_verb_requests), ("tiltyard/verb.replies", laid_tiltyard_verb_replies), ("tiltyard/verb.events", laid_tiltyard_verb_events), ("tiltyard/verb.orders", laid_tiltyard_verb_orders), ("tiltyard/verb.reports", laid_tiltyard_verb_reports)], narrowed := true }
def VerbOnlyUptoSaid : Prop := verbOnlyUptoRow.holds Tryd.pinned (OpenSpec.upto verbOnlySpec)

/-- 'tiltyardlaw04.VerbMakes', WHERE WHAT IT READS IS OF BULK AT MOST 1048576: true; the input reads as it did. -/
def verbMakesUptoRow : OpenClaim := { program := "ytdmcmebfclikgaadoor", sum := "0b375d5ff715c4d1e156e45d79b6115bcca3f516a3fb1269e307d3fb98017eb6", func := "tiltyard/tiltyardlaw04.VerbMakes", spec := "verbMakes", inPlace := ["internal/bytealg.IndexByteString", "internal/bytealg.IndexString"], named := ["tiltyard/verb.requests", "tiltyard/verb.replies", "tiltyard/verb.events", "tiltyard/verb.orders", "tiltyard/verb.reports", "internal/bytealg.MaxLen"], apart := false, laid := [("tiltyard/verb.requests", laid_tiltyard_verb_requests), ("tiltyard/verb.replies", laid_tiltyard_verb_replies), ("tiltyard/verb.events", laid_tiltyard_verb_events), ("tiltyard/verb.orders", laid_tiltyard_verb_orders), ("tiltyard/verb.reports", laid_tiltyard_verb_reports)], narrowed := true }
def VerbMakesUptoSaid : Prop := verbMakesUptoRow.holds Tryd.pinned (OpenSpec.upto verbMakesSpec)

/-- 'tiltyardlaw04.VerbNames', WHERE WHAT IT READS IS OF BULK AT MOST 1048576: true; the input reads as it did. -/
def verbNamesUptoRow : OpenClaim := { program := "ytdmcmebfclikgaadoor", sum := "0b375d5ff715c4d1e156e45d79b6115bcca3f516a3fb1269e307d3fb98017eb6", func := "tiltyard/tiltyardlaw04.VerbNames", spec := "verbNames", inPlace := ["internal/bytealg.IndexByteString", "internal/bytealg.IndexString"], named := ["tiltyard/verb.requests", "tiltyard/verb.replies", "tiltyard/verb.events", "tiltyard/verb.orders", "tiltyard/verb.reports", "internal/bytealg.MaxLen"], apart := false, laid := [("tiltyard/verb.requests", laid_tiltyard_verb_requests), ("tiltyard/verb.replies", laid_tiltyard_verb_replies), ("tiltyard/verb.events", laid_tiltyard_verb_events), ("tiltyard/verb.orders", laid_tiltyard_verb_orders), ("tiltyard/verb.reports", laid_tiltyard_verb_reports)], narrowed := true }
def VerbNamesUptoSaid : Prop := verbNamesUptoRow.holds Tryd.pinned (OpenSpec.upto verbNamesSpec)

/-- 'tiltyardlaw04.VerbKinds', WHERE WHAT IT READS IS OF BULK AT MOST 1048576: true; the input reads as it did. -/
def verbKindsUptoRow : OpenClaim := { program := "ytdmcmebfclikgaadoor", sum := "0b375d5ff715c4d1e156e45d79b6115bcca3f516a3fb1269e307d3fb98017eb6", func := "tiltyard/tiltyardlaw04.VerbKinds", spec := "verbKinds", inPlace := ["internal/bytealg.IndexByteString", "internal/bytealg.IndexString"], named := ["tiltyard/verb.requests", "tiltyard/verb.replies", "tiltyard/verb.events", "tiltyard/verb.orders", "tiltyard/verb.reports", "internal/bytealg.MaxLen"], apart := false, laid := [("tiltyard/verb.requests", laid_tiltyard_verb_requests), ("tiltyard/verb.replies", laid_tiltyard_verb_replies), ("tiltyard/verb.events", laid_tiltyard_verb_events), ("tiltyard/verb.orders", laid_tiltyard_verb_orders), ("tiltyard/verb.reports", laid_tiltyard_verb_reports)], narrowed := true }
def VerbKindsUptoSaid : Prop := verbKindsUptoRow.holds Tryd.pinned (OpenSpec.upto verbKindsSpec)

end Rows
end Go.Proofs.YtdmcmebfclikgaaDoor
