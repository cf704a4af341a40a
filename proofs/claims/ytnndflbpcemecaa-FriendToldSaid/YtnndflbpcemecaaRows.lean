/-
  No cell of these rows narrows 'for every input' (looked for: loops, veiled, ifaces, maps, wideKeys, modest, calm, conditions, laid).
  DERIVED. THE GIVEN ROWS OF THIS SEAT. 4 by the template 'for every input the law returns true; each argument reads behind the call as it read before'; 0 by the template 'total and deterministic' (their statements: YtnndflbpcemecaaTotals.lean).
  GIVEN WITH THE SEED: the statements are not yours to turn. If you find one false, say at which input.
  Laid BY PROGRAM, IN A SANDBOX (cutbox-rows.mjs): the forced cells as the released guide's own fill.sh prints them over the translation c37121ec48b6ecd3… (all of the seat's roots in one cut). By AI agents, Wed Nov 11 2026. No macro, syntax, notation, axiom, sorry.
-/
import Derived.Test.YtnndflbpcemecaaChecked
import GoSem.Claim
import GoSem.ClaimJoined
import GoSem.ClaimMapViews
import Derived.JoinedTies
import Derived.KernelRfl
namespace Go.Proofs.Ytnndflbpcemecaa
/- THE CELL 'sum', in the pinned program and in every row, IS THE sha256 OF THE DUMP (.gsa) THAT YtnndflbpcemecaaProg.lean LOADS. Nothing in Lean hashes anything: it is a label: what it is worth is what the hold of that sum in a sandbox is worth. -/
noncomputable def Try.pinned : Pinned := { name := "ytnndflbpcemecaa", sum := "c37121ec48b6ecd347d2bd3e36187cb5dec26a6e3348b7c105e0c4214ab9b39d", checked := Try.checked }
namespace Rows
def none {H : Type} : Left H := { results := [], args := [] }

/-- 'tiltyardlaw12.FriendRuns': WHATEVER THE INPUT: true; the input reads as it did. -/
def friendRunsSpec : ChangeSpec := { name := "friendRuns", fn := fun _ => fun
  | [d] => { results := [.lit (.bool true)], args := [d] }
  | _ => none }
def friendRunsRow : OpenClaim := { program := "ytnndflbpcemecaa", sum := "c37121ec48b6ecd347d2bd3e36187cb5dec26a6e3348b7c105e0c4214ab9b39d", func := "tiltyard/tiltyardlaw12.FriendRuns", spec := "friendRuns", unfollowed := true, recurses := true, plainKeys := false, apart := false }
def FriendRunsSaid : Prop := friendRunsRow.holds Try.pinned (OpenSpec.ofChange friendRunsSpec)

/-- ITS FALSE NEIGHBOUR: 'it returns false'. Refute it at one input. -/
def friendRunsWrong : ChangeSpec := { name := "friendRuns", fn := fun _ => fun
  | [d] => { results := [.lit (.bool false)], args := [d] }
  | _ => none }
def FriendRunsWrongFalsely : Prop := friendRunsRow.holds Try.pinned (OpenSpec.ofChange friendRunsWrong)

/-- 'tiltyardlaw12.FriendBoth': WHATEVER THE INPUT: true; the input reads as it did. -/
def friendBothSpec : ChangeSpec := { name := "friendBoth", fn := fun _ => fun
  | [d1, d2] => { results := [.lit (.bool true)], args := [d1, d2] }
  | _ => none }
def friendBothRow : OpenClaim := { program := "ytnndflbpcemecaa", sum := "c37121ec48b6ecd347d2bd3e36187cb5dec26a6e3348b7c105e0c4214ab9b39d", func := "tiltyard/tiltyardlaw12.FriendBoth", spec := "friendBoth", unfollowed := true, recurses := true, plainKeys := false, apart := false }
def FriendBothSaid : Prop := friendBothRow.holds Try.pinned (OpenSpec.ofChange friendBothSpec)

/-- ITS FALSE NEIGHBOUR: 'it returns false'. Refute it at one input. -/
def friendBothWrong : ChangeSpec := { name := "friendBoth", fn := fun _ => fun
  | [d1, d2] => { results := [.lit (.bool false)], args := [d1, d2] }
  | _ => none }
def FriendBothWrongFalsely : Prop := friendBothRow.holds Try.pinned (OpenSpec.ofChange friendBothWrong)

/-- 'tiltyardlaw12.FriendRefuses': WHATEVER THE INPUT: true; the input reads as it did. -/
def friendRefusesSpec : ChangeSpec := { name := "friendRefuses", fn := fun _ => fun
  | [d1, d2] => { results := [.lit (.bool true)], args := [d1, d2] }
  | _ => none }
def friendRefusesRow : OpenClaim := { program := "ytnndflbpcemecaa", sum := "c37121ec48b6ecd347d2bd3e36187cb5dec26a6e3348b7c105e0c4214ab9b39d", func := "tiltyard/tiltyardlaw12.FriendRefuses", spec := "friendRefuses", unfollowed := true, recurses := true, plainKeys := false, apart := false }
def FriendRefusesSaid : Prop := friendRefusesRow.holds Try.pinned (OpenSpec.ofChange friendRefusesSpec)

/-- ITS FALSE NEIGHBOUR: 'it returns false'. Refute it at one input. -/
def friendRefusesWrong : ChangeSpec := { name := "friendRefuses", fn := fun _ => fun
  | [d1, d2] => { results := [.lit (.bool false)], args := [d1, d2] }
  | _ => none }
def FriendRefusesWrongFalsely : Prop := friendRefusesRow.holds Try.pinned (OpenSpec.ofChange friendRefusesWrong)

/-- 'tiltyardlaw12.FriendTold': WHATEVER THE INPUT: true; the input reads as it did. -/
def friendToldSpec : ChangeSpec := { name := "friendTold", fn := fun _ => fun
  | [d1, d2] => { results := [.lit (.bool true)], args := [d1, d2] }
  | _ => none }
def friendToldRow : OpenClaim := { program := "ytnndflbpcemecaa", sum := "c37121ec48b6ecd347d2bd3e36187cb5dec26a6e3348b7c105e0c4214ab9b39d", func := "tiltyard/tiltyardlaw12.FriendTold", spec := "friendTold", unfollowed := true, recurses := true, plainKeys := false, apart := false }
def FriendToldSaid : Prop := friendToldRow.holds Try.pinned (OpenSpec.ofChange friendToldSpec)

/-- ITS FALSE NEIGHBOUR: 'it returns false'. Refute it at one input. -/
def friendToldWrong : ChangeSpec := { name := "friendTold", fn := fun _ => fun
  | [d1, d2] => { results := [.lit (.bool false)], args := [d1, d2] }
  | _ => none }
def FriendToldWrongFalsely : Prop := friendToldRow.holds Try.pinned (OpenSpec.ofChange friendToldWrong)

/- THE SECOND FORM. 'bulk': how many values and letters a reading holds, each counted each time it is reached (what is shared counts as often as it is met; a slice's spare places count too). A statement '..UptoSaid' is the law's where the arguments, and the package variables that the reading takes, are together of bulk at most 1048576: NARROWER than '..Said'. Prove '..Said' where nothing that the law and all that it calls make is longer than what came in: it says more and counts as full. Else prove '..UptoSaid'. A law counts once. -/
mutual
def uptoBulk {H : Type} : DataW H → Nat
  | .lit (.string bytes) => bytes.length + 1
  | .lit _ => 1
  | .nil => 1
  | .ptr d => uptoBulk d + 1
  | .slice elems spare => uptoBulkAll elems + uptoBulkAll spare + 1
  | .agg parts => uptoBulkAll parts + 1
  | .iface _ d => uptoBulk d + 1
  | .map entries => uptoBulkEntries entries + 1
  | .held _ => 1
def uptoBulkAll {H : Type} : List (DataW H) → Nat
  | [] => 0
  | d :: r => uptoBulk d + uptoBulkAll r
def uptoBulkEntries {H : Type} : List (Lit × DataW H) → Nat
  | [] => 0
  | x :: r => uptoBulkEntry x + uptoBulkEntries r
def uptoBulkEntry {H : Type} : Lit × DataW H → Nat
  | (.string bytes, d) => bytes.length + uptoBulk d + 1
  | (_, d) => uptoBulk d + 1
 end
def uptoSmall : (H : Type) → List (DataW H) → Bool := fun _ ds => decide (uptoBulkAll ds ≤ 1048576)
def OpenSpec.upto (s : _root_.Go.ChangeSpec) : _root_.Go.OpenSpec := { _root_.Go.OpenSpec.ofChange s with cond := some uptoSmall }

/-- 'tiltyardlaw12.FriendRuns', WHERE WHAT IT READS IS OF BULK AT MOST 1048576: true; the input reads as it did. -/
def friendRunsUptoRow : OpenClaim := { program := "ytnndflbpcemecaa", sum := "c37121ec48b6ecd347d2bd3e36187cb5dec26a6e3348b7c105e0c4214ab9b39d", func := "tiltyard/tiltyardlaw12.FriendRuns", spec := "friendRuns", unfollowed := true, recurses := true, plainKeys := false, apart := false, narrowed := true }
def FriendRunsUptoSaid : Prop := friendRunsUptoRow.holds Try.pinned (OpenSpec.upto friendRunsSpec)

/-- 'tiltyardlaw12.FriendBoth', WHERE WHAT IT READS IS OF BULK AT MOST 1048576: true; the input reads as it did. -/
def friendBothUptoRow : OpenClaim := { program := "ytnndflbpcemecaa", sum := "c37121ec48b6ecd347d2bd3e36187cb5dec26a6e3348b7c105e0c4214ab9b39d", func := "tiltyard/tiltyardlaw12.FriendBoth", spec := "friendBoth", unfollowed := true, recurses := true, plainKeys := false, apart := false, narrowed := true }
def FriendBothUptoSaid : Prop := friendBothUptoRow.holds Try.pinned (OpenSpec.upto friendBothSpec)

/-- 'tiltyardlaw12.FriendRefuses', WHERE WHAT IT READS IS OF BULK AT MOST 1048576: true; the input reads as it did. -/
def friendRefusesUptoRow : OpenClaim := { program := "ytnndflbpcemecaa", sum := "c37121ec48b6ecd347d2bd3e36187cb5dec26a6e3348b7c105e0c4214ab9b39d", func := "tiltyard/tiltyardlaw12.FriendRefuses", spec := "friendRefuses", unfollowed := true, recurses := true, plainKeys := false, apart := false, narrowed := true }
def FriendRefusesUptoSaid : Prop := friendRefusesUptoRow.holds Try.pinned (OpenSpec.upto friendRefusesSpec)

/-- 'tiltyardlaw12.FriendTold', WHERE WHAT IT READS IS OF BULK AT MOST 1048576: true; the input reads as it did. -/
def friendToldUptoRow : OpenClaim := { program := "ytnndflbpcemecaa", sum := "c37121ec48b6ecd347d2bd3e36187cb5dec26a6e3348b7c105e0c4214ab9b39d", func := "tiltyard/tiltyardlaw12.FriendTold", spec := "friendTold", unfollowed := true, recurses := true, plainKeys := false, apart := false, narrowed := true }
def FriendToldUptoSaid : Prop := friendToldUptoRow.holds Try.pinned (OpenSpec.upto friendToldSpec)

end Rows
end Go.Proofs.Ytnndflbpcemecaa
