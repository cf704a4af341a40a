/-
  No cell of these rows narrows 'for every input' (looked for: loops, veiled, ifaces, maps, wideKeys, modest, calm, conditions, laid).
  DERIVED. THE GIVEN ROWS OF THIS SEAT. 4 by the template 'for every input the law returns true; each argument reads behind the call as it read before'; 0 by the template 'total and deterministic' (their statements: YtlohiobliagaoaaTotals.lean).
  GIVEN WITH THE SEED: the statements are not yours to turn. If you find one false, say at which input.
  Laid BY PROGRAM, IN A SANDBOX (cutbox-rows.mjs): the forced cells as the released guide's own fill.sh prints them over the translation d43b8ef838585d93… (all of the seat's roots in one cut). By AI agents, Wed Nov 11 2026. No macro, syntax, notation, axiom, sorry.
-/
import Derived.Test.YtlohiobliagaoaaChecked
import GoSem.Claim
import GoSem.ClaimJoined
import GoSem.ClaimMapViews
import Derived.JoinedTies
import Derived.KernelRfl
namespace Go.Proofs.Ytlohiobliagaoaa
/- THE CELL 'sum', in the pinned program and in every row, IS THE sha256 OF THE DUMP (.gsa) THAT YtlohiobliagaoaaProg.lean LOADS. Nothing in Lean hashes anything: it is a label: what it is worth is what the hold of that sum in a sandbox is worth. -/
noncomputable def Try.pinned : Pinned := { name := "ytlohiobliagaoaa", sum := "d43b8ef838585d935e06ee85940080ae439aa02dcccb5c0e9b6de0458a34a093", checked := Try.checked }
namespace Rows
def none {H : Type} : Left H := { results := [], args := [] }

/-- 'tiltyardlaw14.BoardRuns': WHATEVER THE INPUT: true; the input reads as it did. -/
def boardRunsSpec : ChangeSpec := { name := "boardRuns", fn := fun _ => fun
  | [d] => { results := [.lit (.bool true)], args := [d] }
  | _ => none }
def boardRunsRow : OpenClaim := { program := "ytlohiobliagaoaa", sum := "d43b8ef838585d935e06ee85940080ae439aa02dcccb5c0e9b6de0458a34a093", func := "tiltyard/tiltyardlaw14.BoardRuns", spec := "boardRuns", unfollowed := true, recurses := true, plainKeys := false, apart := false }
def BoardRunsSaid : Prop := boardRunsRow.holds Try.pinned (OpenSpec.ofChange boardRunsSpec)

/-- ITS FALSE NEIGHBOUR: 'it returns false'. Refute it at one input. -/
def boardRunsWrong : ChangeSpec := { name := "boardRuns", fn := fun _ => fun
  | [d] => { results := [.lit (.bool false)], args := [d] }
  | _ => none }
def BoardRunsWrongFalsely : Prop := boardRunsRow.holds Try.pinned (OpenSpec.ofChange boardRunsWrong)

/-- 'tiltyardlaw14.BoardKnows': WHATEVER THE INPUT: true; the input reads as it did. -/
def boardKnowsSpec : ChangeSpec := { name := "boardKnows", fn := fun _ => fun
  | [d1, d2] => { results := [.lit (.bool true)], args := [d1, d2] }
  | _ => none }
def boardKnowsRow : OpenClaim := { program := "ytlohiobliagaoaa", sum := "d43b8ef838585d935e06ee85940080ae439aa02dcccb5c0e9b6de0458a34a093", func := "tiltyard/tiltyardlaw14.BoardKnows", spec := "boardKnows", unfollowed := true, recurses := true, plainKeys := false, apart := false }
def BoardKnowsSaid : Prop := boardKnowsRow.holds Try.pinned (OpenSpec.ofChange boardKnowsSpec)

/-- ITS FALSE NEIGHBOUR: 'it returns false'. Refute it at one input. -/
def boardKnowsWrong : ChangeSpec := { name := "boardKnows", fn := fun _ => fun
  | [d1, d2] => { results := [.lit (.bool false)], args := [d1, d2] }
  | _ => none }
def BoardKnowsWrongFalsely : Prop := boardKnowsRow.holds Try.pinned (OpenSpec.ofChange boardKnowsWrong)

/-- 'tiltyardlaw14.BoardHides': WHATEVER THE INPUT: true; the input reads as it did. -/
def boardHidesSpec : ChangeSpec := { name := "boardHides", fn := fun _ => fun
  | [d1, d2, d3] => { results := [.lit (.bool true)], args := [d1, d2, d3] }
  | _ => none }
def boardHidesRow : OpenClaim := { program := "ytlohiobliagaoaa", sum := "d43b8ef838585d935e06ee85940080ae439aa02dcccb5c0e9b6de0458a34a093", func := "tiltyard/tiltyardlaw14.BoardHides", spec := "boardHides", unfollowed := true, recurses := true, plainKeys := false, apart := false }
def BoardHidesSaid : Prop := boardHidesRow.holds Try.pinned (OpenSpec.ofChange boardHidesSpec)

/-- ITS FALSE NEIGHBOUR: 'it returns false'. Refute it at one input. -/
def boardHidesWrong : ChangeSpec := { name := "boardHides", fn := fun _ => fun
  | [d1, d2, d3] => { results := [.lit (.bool false)], args := [d1, d2, d3] }
  | _ => none }
def BoardHidesWrongFalsely : Prop := boardHidesRow.holds Try.pinned (OpenSpec.ofChange boardHidesWrong)

/-- 'tiltyardlaw14.BoardAudience': WHATEVER THE INPUT: true; the input reads as it did. -/
def boardAudienceSpec : ChangeSpec := { name := "boardAudience", fn := fun _ => fun
  | [d1, d2, d3] => { results := [.lit (.bool true)], args := [d1, d2, d3] }
  | _ => none }
def boardAudienceRow : OpenClaim := { program := "ytlohiobliagaoaa", sum := "d43b8ef838585d935e06ee85940080ae439aa02dcccb5c0e9b6de0458a34a093", func := "tiltyard/tiltyardlaw14.BoardAudience", spec := "boardAudience", unfollowed := true, recurses := true, plainKeys := false, apart := false }
def BoardAudienceSaid : Prop := boardAudienceRow.holds Try.pinned (OpenSpec.ofChange boardAudienceSpec)

/-- ITS FALSE NEIGHBOUR: 'it returns false'. Refute it at one input. -/
def boardAudienceWrong : ChangeSpec := { name := "boardAudience", fn := fun _ => fun
  | [d1, d2, d3] => { results := [.lit (.bool false)], args := [d1, d2, d3] }
  | _ => none }
def BoardAudienceWrongFalsely : Prop := boardAudienceRow.holds Try.pinned (OpenSpec.ofChange boardAudienceWrong)

/- THE SECOND FORM. 'bulk': how many values and letters a reading holds, each counted each time it is reached (what is shared counts as often as it is met; a slice's spare places count too). A statement '..UptoSaid' is the law's where the arguments, and the package variables that the reading takes, are together of bulk at most 1048576: NARROWER than '..Said'. Prove '..Said' where nothing that the law and all that it calls make is longer than what came in: it says more and counts as full. Else prove '..UptoSaid'. A law counts once. -/
mutual
def uptoBulk {H : Type} : DataW H → Nat
  | .lit (.string bytes) => bytes.length + 1
  | .lit _ => 1
  | .nil => 1
  | .ptr d => uptoBulk d + 1
  | .slice elems spare => uptoBulkAll elems + uptoBulkAll spare + 1
  | .agg parts => uptoBulkAll parts + 1
  | .iface _ d => uptoBulk d + 1
  | .map entries => uptoBulkEntries entries + 1
  | .held _ => 1
def uptoBulkAll {H : Type} : List (DataW H) → Nat
  | [] => 0
  | d :: r => uptoBulk d + uptoBulkAll r
def uptoBulkEntries {H : Type} : List (Lit × DataW H) → Nat
  | [] => 0
  | x :: r => uptoBulkEntry x + uptoBulkEntries r
def uptoBulkEntry {H : Type} : Lit × DataW H → Nat
  | (.string bytes, d) => bytes.length + uptoBulk d + 1
  | (_, d) => uptoBulk d + 1
 end
def uptoSmall : (H : Type) → List (DataW H) → Bool := fun _ ds => decide (uptoBulkAll ds ≤ 1048576)
def OpenSpec.upto (s : _root_.Go.ChangeSpec) : _root_.Go.OpenSpec := { _root_.Go.OpenSpec.ofChange s with cond := some uptoSmall }

/-- 'tiltyardlaw14.BoardRuns', WHERE WHAT IT READS IS OF BULK AT MOST 1048576: true; the input reads as it did. -/
def boardRunsUptoRow : OpenClaim := { program := "ytlohiobliagaoaa", sum := "d43b8ef838585d935e06ee85940080ae439aa02dcccb5c0e9b6de0458a34a093", func := "tiltyard/tiltyardlaw14.BoardRuns", spec := "boardRuns", unfollowed := true, recurses := true, plainKeys := false, apart := false, narrowed := true }
def BoardRunsUptoSaid : Prop := boardRunsUptoRow.holds Try.pinned (OpenSpec.upto boardRunsSpec)

/-- 'tiltyardlaw14.BoardKnows', WHERE WHAT IT READS IS OF BULK AT MOST 1048576: true; the input reads as it did. -/
def boardKnowsUptoRow : OpenClaim := { program := "ytlohiobliagaoaa", sum := "d43b8ef838585d935e06ee85940080ae439aa02dcccb5c0e9b6de0458a34a093", func := "tiltyard/tiltyardlaw14.BoardKnows", spec := "boardKnows", unfollowed := true, recurses := true, plainKeys := false, apart := false, narrowed := true }
def BoardKnowsUptoSaid : Prop := boardKnowsUptoRow.holds Try.pinned (OpenSpec.upto boardKnowsSpec)

/-- 'tiltyardlaw14.BoardHides', WHERE WHAT IT READS IS OF BULK AT MOST 1048576: true; the input reads as it did. -/
def boardHidesUptoRow : OpenClaim := { program := "ytlohiobliagaoaa", sum := "d43b8ef838585d935e06ee85940080ae439aa02dcccb5c0e9b6de0458a34a093", func := "tiltyard/tiltyardlaw14.BoardHides", spec := "boardHides", unfollowed := true, recurses := true, plainKeys := false, apart := false, narrowed := true }
def BoardHidesUptoSaid : Prop := boardHidesUptoRow.holds Try.pinned (OpenSpec.upto boardHidesSpec)

/-- 'tiltyardlaw14.BoardAudience', WHERE WHAT IT READS IS OF BULK AT MOST 1048576: true; the input reads as it did. -/
def boardAudienceUptoRow : OpenClaim := { program := "ytlohiobliagaoaa", sum := "d43b8ef838585d935e06ee85940080ae439aa02dcccb5c0e9b6de0458a34a093", func := "tiltyard/tiltyardlaw14.BoardAudience", spec := "boardAudience", unfollowed := true, recurses := true, plainKeys := false, apart := false, narrowed := true }
def BoardAudienceUptoSaid : Prop := boardAudienceUptoRow.holds Try.pinned (OpenSpec.upto boardAudienceSpec)

end Rows
end Go.Proofs.Ytlohiobliagaoaa
