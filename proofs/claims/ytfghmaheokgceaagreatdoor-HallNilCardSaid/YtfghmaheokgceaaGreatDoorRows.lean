/-
  NARROWER THAN 'FOR EVERY INPUT', by the rows' own cells (each row's printed sentence says how): HallNil: laid.
  DERIVED. THE GIVEN ROWS OF THIS SEAT. 1 by the template 'for every input the law returns true; each argument reads behind the call as it read before'; 0 by the template 'total and deterministic' (their statements: YtfghmaheokgceaaGreatDoorTotals.lean).
  GIVEN WITH THE SEED: the statements are not yours to turn. If you find one false, say at which input.
  Laid BY PROGRAM, IN A SANDBOX (cutbox-rows.mjs): the forced cells as the released guide's own fill.sh prints them over the translation 024e6a449678f3f5… (all of the seat's roots in one cut). By AI agents, Wed Nov 11 2026. No macro, syntax, notation, axiom, sorry.
-/
import Derived.Test.YtfghmaheokgceaaGreatDoorChecked
import GoSem.Claim
import GoSem.ClaimJoined
import GoSem.ClaimMapViews
import Derived.JoinedTies
import Derived.KernelRfl
namespace Go.Proofs.YtfghmaheokgceaaGreatDoor
/- THE CELL 'sum', in the pinned program and in every row, IS THE sha256 OF THE DUMP (.gsa) THAT YtfghmaheokgceaaGreatDoorProg.lean LOADS. Nothing in Lean hashes anything: it is a label: what it is worth is what the hold of that sum in a sandbox is worth. -/
noncomputable def Tryz.pinned : Pinned := { name := "ytfghmaheokgceaagreatdoor", sum := "024e6a449678f3f5a224402f08bd77e0aa4cce6672de19077d3717844d439f2e", checked := Tryz.checked }
namespace Rows
def none {H : Type} : Left H := { results := [], args := [] }

/- WHAT THE LISTED PACKAGE-LEVEL VARIABLES READ AS WHEN THE CALL BEGINS. Each datum BY PROGRAM (the guide's laid-datum.mjs) off the statement by which the dump's own 'gosem.cut.vars' lays the variable. In a bare row this is a premise. The card (YtfghmaheokgceaaGreatDoorCards.lean) ties it to the program's text. -/
def laid_tiltyard_elo_expected {H : Type} : DataW H := .agg [.lit (.int .i64 500), .lit (.int .i64 571), .lit (.int .i64 640), .lit (.int .i64 703), .lit (.int .i64 760), .lit (.int .i64 808), .lit (.int .i64 849), .lit (.int .i64 882), .lit (.int .i64 909), .lit (.int .i64 930), .lit (.int .i64 947), .lit (.int .i64 960), .lit (.int .i64 969), .lit (.int .i64 977), .lit (.int .i64 983), .lit (.int .i64 987), .lit (.int .i64 990)]
def laid_tiltyard_elo_scores {H : Type} : DataW H := .agg [.lit (.int .i64 500), .lit (.int .i64 1000), .lit (.int .i64 0)]
def laid_tiltyard_sha_first {H : Type} : DataW H := .agg [.lit (.int .u32 1779033703), .lit (.int .u32 3144134277), .lit (.int .u32 1013904242), .lit (.int .u32 2773480762), .lit (.int .u32 1359893119), .lit (.int .u32 2600822924), .lit (.int .u32 528734635), .lit (.int .u32 1541459225)]
def laid_tiltyard_sha_rounds {H : Type} : DataW H := .agg [.lit (.int .u32 1116352408), .lit (.int .u32 1899447441), .lit (.int .u32 3049323471), .lit (.int .u32 3921009573), .lit (.int .u32 961987163), .lit (.int .u32 1508970993), .lit (.int .u32 2453635748), .lit (.int .u32 2870763221), .lit (.int .u32 3624381080), .lit (.int .u32 310598401), .lit (.int .u32 607225278), .lit (.int .u32 1426881987), .lit (.int .u32 1925078388), .lit (.int .u32 2162078206), .lit (.int .u32 2614888103), .lit (.int .u32 3248222580), .lit (.int .u32 3835390401), .lit (.int .u32 4022224774), .lit (.int .u32 264347078), .lit (.int .u32 604807628), .lit (.int .u32 770255983), .lit (.int .u32 1249150122), .lit (.int .u32 1555081692), .lit (.int .u32 1996064986), .lit (.int .u32 2554220882), .lit (.int .u32 2821834349), .lit (.int .u32 2952996808), .lit (.int .u32 3210313671), .lit (.int .u32 3336571891), .lit (.int .u32 3584528711), .lit (.int .u32 113926993), .lit (.int .u32 338241895), .lit (.int .u32 666307205), .lit (.int .u32 773529912), .lit (.int .u32 1294757372), .lit (.int .u32 1396182291), .lit (.int .u32 1695183700), .lit (.int .u32 1986661051), .lit (.int .u32 2177026350), .lit (.int .u32 2456956037), .lit (.int .u32 2730485921), .lit (.int .u32 2820302411), .lit (.int .u32 3259730800), .lit (.int .u32 3345764771), .lit (.int .u32 3516065817), .lit (.int .u32 3600352804), .lit (.int .u32 4094571909), .lit (.int .u32 275423344), .lit (.int .u32 430227734), .lit (.int .u32 506948616), .lit (.int .u32 659060556), .lit (.int .u32 883997877), .lit (.int .u32 958139571), .lit (.int .u32 1322822218), .lit (.int .u32 1537002063), .lit (.int .u32 1747873779), .lit (.int .u32 1955562222), .lit (.int .u32 2024104815), .lit (.int .u32 2227730452), .lit (.int .u32 2361852424), .lit (.int .u32 2428436474), .lit (.int .u32 2756734187), .lit (.int .u32 3204031479), .lit (.int .u32 3329325298)]
def laid_tiltyard_penal_ladder {H : Type} : DataW H := .agg [.lit (.int .i64 60), .lit (.int .i64 300), .lit (.int .i64 900), .lit (.int .i64 3600), .lit (.int .i64 14400), .lit (.int .i64 86400)]
def laid_tiltyard_verb_requests {H : Type} : DataW H := .agg [.lit (.string [108, 111, 103, 105, 110, 32, 115]), .lit (.string [112, 105, 110, 103, 32, 100]), .lit (.string [102, 114, 105, 101, 110, 100, 45, 97, 115, 107, 32, 100]), .lit (.string [102, 114, 105, 101, 110, 100, 45, 97, 99, 99, 101, 112, 116, 32, 100]), .lit (.string [102, 114, 105, 101, 110, 100, 45, 114, 101, 102, 117, 115, 101, 32, 100]), .lit (.string [102, 114, 105, 101, 110, 100, 45, 114, 101, 109, 111, 118, 101, 32, 100]), .lit (.string [98, 108, 111, 99, 107, 32, 100]), .lit (.string [117, 110, 98, 108, 111, 99, 107, 32, 100]), .lit (.string [102, 114, 105, 101, 110, 100, 115, 32]), .lit (.string [105, 110, 118, 105, 116, 101, 32, 100]), .lit (.string [106, 111, 105, 110, 32, 100]), .lit (.string [114, 101, 102, 117, 115, 101, 32, 100]), .lit (.string [108, 101, 97, 118, 101, 32]), .lit (.string [107, 105, 99, 107, 32, 100]), .lit (.string [108, 101, 97, 100, 32, 100]), .lit (.string [112, 97, 114, 116, 121, 32]), .lit (.string [113, 117, 101, 117, 101, 32, 98]), .lit (.string [99, 97, 110, 99, 101, 108, 32]), .lit (.string [97, 99, 99, 101, 112, 116, 32]), .lit (.string [100, 101, 99, 108, 105, 110, 101, 32]), .lit (.string [116, 111, 107, 101, 110, 32]), .lit (.string [114, 97, 116, 105, 110, 103, 32, 100]), .lit (.string [112, 101, 110, 97, 108, 116, 121, 32]), .lit (.string [115, 116, 97, 116, 117, 115, 32, 100]), .lit (.string [108, 111, 103, 111, 117, 116, 32]), .lit (.string [116, 105, 109, 101, 32]), .lit (.string [109, 97, 116, 99, 104, 32])]
def laid_tiltyard_verb_replies {H : Type} : DataW H := .agg [.lit (.string [111, 107, 32, 98]), .lit (.string [101, 114, 114, 111, 114, 32, 98, 98]), .lit (.string [119, 101, 108, 99, 111, 109, 101, 32, 100, 100, 98]), .lit (.string [112, 111, 110, 103, 32, 100]), .lit (.string [102, 114, 105, 101, 110, 100, 45, 108, 105, 115, 116, 32, 108, 108, 108]), .lit (.string [112, 97, 114, 116, 121, 45, 105, 115, 32, 100, 100, 108]), .lit (.string [114, 97, 116, 105, 110, 103, 45, 105, 115, 32, 100, 100]), .lit (.string [112, 101, 110, 97, 108, 116, 121, 45, 105, 115, 32, 98, 113]), .lit (.string [115, 116, 97, 116, 117, 115, 45, 105, 115, 32, 100, 98]), .lit (.string [116, 105, 109, 101, 45, 105, 115, 32, 113]), .lit (.string [109, 97, 116, 99, 104, 45, 105, 115, 32, 100, 119, 98, 98])]
def laid_tiltyard_verb_events {H : Type} : DataW H := .agg [.lit (.string [102, 114, 105, 101, 110, 100, 45, 97, 115, 107, 101, 100, 32, 100]), .lit (.string [102, 114, 105, 101, 110, 100, 45, 110, 111, 119, 32, 100, 98]), .lit (.string [102, 114, 105, 101, 110, 100, 45, 103, 111, 110, 101, 32, 100]), .lit (.string [112, 114, 101, 115, 101, 110, 99, 101, 32, 100, 98]), .lit (.string [105, 110, 118, 105, 116, 101, 100, 32, 100, 100]), .lit (.string [112, 97, 114, 116, 121, 45, 110, 111, 119, 32, 100, 100, 108]), .lit (.string [112, 97, 114, 116, 121, 45, 111, 118, 101, 114, 32, 100]), .lit (.string [113, 117, 101, 117, 101, 100, 32, 98]), .lit (.string [117, 110, 113, 117, 101, 117, 101, 100, 32, 98]), .lit (.string [99, 104, 101, 99, 107, 32, 100, 113]), .lit (.string [99, 104, 101, 99, 107, 45, 111, 118, 101, 114, 32, 100, 98]), .lit (.string [115, 101, 97, 116, 32, 100, 119, 98, 98, 113, 115]), .lit (.string [108, 105, 118, 101, 32, 100]), .lit (.string [111, 118, 101, 114, 32, 100, 98, 100]), .lit (.string [112, 101, 110, 97, 108, 105, 115, 101, 100, 32, 98, 98, 113]), .lit (.string [98, 121, 101, 32, 98])]
def laid_tiltyard_verb_orders {H : Type} : DataW H := .agg [.lit (.string [115, 116, 97, 114, 116, 32, 100, 98, 108, 108]), .lit (.string [102, 105, 108, 108, 101, 100, 32, 100, 98, 108]), .lit (.string [108, 111, 115, 116, 32, 100, 100]), .lit (.string [100, 114, 97, 105, 110, 32, 100]), .lit (.string [106, 111, 105, 110, 101, 100, 32, 100, 100]), .lit (.string [114, 101, 102, 117, 115, 101, 100, 32, 98, 98])]
def laid_tiltyard_verb_reports {H : Type} : DataW H := .agg [.lit (.string [104, 101, 108, 108, 111, 32]), .lit (.string [98, 101, 97, 116, 32]), .lit (.string [117, 112, 32]), .lit (.string [99, 111, 109, 101, 32, 115]), .lit (.string [108, 101, 102, 116, 32, 100]), .lit (.string [114, 101, 115, 117, 108, 116, 32, 100, 98]), .lit (.string [102, 114, 101, 101, 100, 32])]

/-- 'tiltyardlaw24.HallNil': WHATEVER THE INPUT: true; the input reads as it did. -/
def hallNilSpec : ChangeSpec := { name := "hallNil", fn := fun _ => fun
  | [d] => { results := [.lit (.bool true)], args := [d] }
  | _ => none }
def hallNilRow : OpenClaim := { program := "ytfghmaheokgceaagreatdoor", sum := "024e6a449678f3f5a224402f08bd77e0aa4cce6672de19077d3717844d439f2e", func := "tiltyard/tiltyardlaw24.HallNil", spec := "hallNil", inPlace := ["slices.overlaps[tiltyard/rack.row[tiltyard/session.link]]", "internal/bytealg.IndexByteString", "internal/bytealg.IndexString", "slices.overlaps[tiltyard/rack.row[int]]", "slices.overlaps[tiltyard/rack.row[tiltyard/party.Party]]", "slices.overlaps[tiltyard/queue.Ticket]", "slices.overlaps[tiltyard/rack.row[tiltyard/ready.Check]]", "slices.overlaps[tiltyard/seat.Seat]", "slices.overlaps[tiltyard/rack.row[tiltyard/seat.Match]]", "slices.overlaps[tiltyard/rack.row[tiltyard/penal.Mark]]"], unfollowed := true, recurses := true, named := ["tiltyard/sha.first", "tiltyard/sha.rounds", "tiltyard/verb.requests", "tiltyard/verb.replies", "tiltyard/verb.events", "tiltyard/verb.orders", "tiltyard/verb.reports", "internal/bytealg.MaxLen", "tiltyard/penal.ladder", "tiltyard/elo.scores", "tiltyard/elo.expected"], plainKeys := false, apart := false, laid := [("tiltyard/elo.expected", laid_tiltyard_elo_expected), ("tiltyard/elo.scores", laid_tiltyard_elo_scores), ("tiltyard/sha.first", laid_tiltyard_sha_first), ("tiltyard/sha.rounds", laid_tiltyard_sha_rounds), ("tiltyard/penal.ladder", laid_tiltyard_penal_ladder), ("tiltyard/verb.requests", laid_tiltyard_verb_requests), ("tiltyard/verb.replies", laid_tiltyard_verb_replies), ("tiltyard/verb.events", laid_tiltyard_verb_events), ("tiltyard/verb.orders", laid_tiltyard_verb_orders), ("tiltyard/verb.reports", laid_tiltyard_verb_reports)] }
def HallNilSaid : Prop := hallNilRow.holds Tryz.pinned (OpenSpec.ofChange hallNilSpec)

/-- ITS FALSE NEIGHBOUR: 'it returns false'. Refute it at one input. -/
def hallNilWrong : ChangeSpec := { name := "hallNil", fn := fun _ => fun
  | [d] => { results := [.lit (.bool false)], args := [d] }
  | _ => none }
def HallNilWrongFalsely : Prop := hallNilRow.holds Tryz.pinned (OpenSpec.ofChange hallNilWrong)

/- THE SECOND FORM. 'bulk': how many values and letters a reading holds, each counted each time it is reached (what is shared counts as often as it is met; a slice's spare places count too). A statement '..UptoSaid' is the law's where the arguments, and the package variables that the reading takes, are together of bulk at most 1048576: NARROWER than '..Said'. Prove '..Said' where nothing that the law and all that it calls make is longer than what came in: it says more and counts as full. Else prove '..UptoSaid'. A law counts once. -/
mutual
def uptoBulk {H : Type} : DataW H → Nat
  | .lit (.string bytes) => bytes.length + 1
  | .lit _ => 1
  | .nil => 1
  | .ptr d => uptoBulk d + 1
  | .slice elems spare => uptoBulkAll elems + uptoBulkAll spare + 1
  | .agg parts => uptoBulkAll parts + 1
  | .iface _ d => uptoBulk d + 1
  | .map entries => uptoBulkEntries entries + 1
  | .held _ => 1
def uptoBulkAll {H : Type} : List (DataW H) → Nat
  | [] => 0
  | d :: r => uptoBulk d + uptoBulkAll r
def uptoBulkEntries {H : Type} : List (Lit × DataW H) → Nat
  | [] => 0
  | x :: r => uptoBulkEntry x + uptoBulkEntries r
def uptoBulkEntry {H : Type} : Lit × DataW H → Nat
  | (.string bytes, d) => bytes.length + uptoBulk d + 1
  | (_, d) => uptoBulk d + 1
 end
def uptoSmall : (H : Type) → List (DataW H) → Bool := fun _ ds => decide (uptoBulkAll ds ≤ 1048576)
def OpenSpec.upto (s : _root_.Go.ChangeSpec) : _root_.Go.OpenSpec := { _root_.Go.OpenSpec.ofChange s with cond := some uptoSmall }

/-- 'tiltyardlaw24.HallNil', WHERE WHAT IT READS IS OF BULK AT MOST 1048576: true; the input reads as it did. -/
def hallNilUptoRow : OpenClaim := { program := "ytfghmaheokgceaagreatdoor", sum := "024e6a449678f3f5a224402f08bd77e0aa4cce6672de19077d3717844d439f2e", func := "tiltyard/tiltyardlaw24.HallNil", spec := "hallNil", inPlace := ["slices.overlaps[tiltyard/rack.row[tiltyard/session.link]]", "internal/bytealg.IndexByteString", "internal/bytealg.IndexString", "slices.overlaps[tiltyard/rack.row[int]]", "slices.overlaps[tiltyard/rack.row[tiltyard/party.Party]]", "slices.overlaps[tiltyard/queue.Ticket]", "slices.overlaps[tiltyard/rack.row[tiltyard/ready.Check]]", "slices.overlaps[tiltyard/seat.Seat]", "slices.overlaps[tiltyard/rack.row[tiltyard/seat.Match]]", "slices.overlaps[tiltyard/rack.row[tiltyard/penal.Mark]]"], unfollowed := true, recurses := true, named := ["tiltyard/sha.first", "tiltyard/sha.rounds", "tiltyard/verb.requests", "tiltyard/verb.replies", "tiltyard/verb.events", "tiltyard/verb.orders", "tiltyard/verb.reports", "internal/bytealg.MaxLen", "tiltyard/penal.ladder", "tiltyard/elo.scores", "tiltyard/elo.expected"], plainKeys := false, apart := false, laid := [("tiltyard/elo.expected", laid_tiltyard_elo_expected), ("tiltyard/elo.scores", laid_tiltyard_elo_scores), ("tiltyard/sha.first", laid_tiltyard_sha_first), ("tiltyard/sha.rounds", laid_tiltyard_sha_rounds), ("tiltyard/penal.ladder", laid_tiltyard_penal_ladder), ("tiltyard/verb.requests", laid_tiltyard_verb_requests), ("tiltyard/verb.replies", laid_tiltyard_verb_replies), ("tiltyard/verb.events", laid_tiltyard_verb_events), ("tiltyard/verb.orders", laid_tiltyard_verb_orders), ("tiltyard/verb.reports", laid_tiltyard_verb_reports)], narrowed := true }
def HallNilUptoSaid : Prop := hallNilUptoRow.holds Tryz.pinned (OpenSpec.upto hallNilSpec)

end Rows
end Go.Proofs.YtfghmaheokgceaaGreatDoor
