/-
  No cell of these rows narrows 'for every input' (looked for: loops, veiled, ifaces, maps, wideKeys, modest, calm, conditions, laid).
  DERIVED. THE GIVEN ROWS OF THIS SEAT. 4 by the template 'for every input the law returns true; each argument reads behind the call as it read before'; 0 by the template 'total and deterministic' (their statements: YtnelcpabjpchnaaTotals.lean).
  GIVEN WITH THE SEED: the statements are not yours to turn. If you find one false, say at which input.
  Laid BY PROGRAM, IN A SANDBOX (cutbox-rows.mjs): the forced cells as the released guide's own fill.sh prints them over the translation 6520983309175ba8… (all of the seat's roots in one cut). By AI agents, Wed Nov 11 2026. No macro, syntax, notation, axiom, sorry.
-/
import Derived.Test.YtnelcpabjpchnaaChecked
import GoSem.Claim
import GoSem.ClaimJoined
import GoSem.ClaimMapViews
import Derived.JoinedTies
import Derived.KernelRfl
namespace Go.Proofs.Ytnelcpabjpchnaa
/- THE CELL 'sum', in the pinned program and in every row, IS THE sha256 OF THE DUMP (.gsa) THAT YtnelcpabjpchnaaProg.lean LOADS. Nothing in Lean hashes anything: it is a label: what it is worth is what the hold of that sum in a sandbox is worth. -/
noncomputable def Try.pinned : Pinned := { name := "ytnelcpabjpchnaa", sum := "6520983309175ba878672850b57ce1a923bf562d572defadd2aff1a40795babb", checked := Try.checked }
namespace Rows
def none {H : Type} : Left H := { results := [], args := [] }

/-- 'tiltyardlaw10.SessionIdle': WHATEVER THE INPUT: true; the input reads as it did. -/
def sessionIdleSpec : ChangeSpec := { name := "sessionIdle", fn := fun _ => fun
  | [d1, d2, d3] => { results := [.lit (.bool true)], args := [d1, d2, d3] }
  | _ => none }
def sessionIdleRow : OpenClaim := { program := "ytnelcpabjpchnaa", sum := "6520983309175ba878672850b57ce1a923bf562d572defadd2aff1a40795babb", func := "tiltyard/tiltyardlaw10.SessionIdle", spec := "sessionIdle", inPlace := ["slices.overlaps[tiltyard/rack.row[tiltyard/session.link]]"], unfollowed := true, recurses := true, apart := false }
def SessionIdleSaid : Prop := sessionIdleRow.holds Try.pinned (OpenSpec.ofChange sessionIdleSpec)

/-- ITS FALSE NEIGHBOUR: 'it returns false'. Refute it at one input. -/
def sessionIdleWrong : ChangeSpec := { name := "sessionIdle", fn := fun _ => fun
  | [d1, d2, d3] => { results := [.lit (.bool false)], args := [d1, d2, d3] }
  | _ => none }
def SessionIdleWrongFalsely : Prop := sessionIdleRow.holds Try.pinned (OpenSpec.ofChange sessionIdleWrong)

/-- 'tiltyardlaw10.SessionOne': WHATEVER THE INPUT: true; the input reads as it did. -/
def sessionOneSpec : ChangeSpec := { name := "sessionOne", fn := fun _ => fun
  | [d] => { results := [.lit (.bool true)], args := [d] }
  | _ => none }
def sessionOneRow : OpenClaim := { program := "ytnelcpabjpchnaa", sum := "6520983309175ba878672850b57ce1a923bf562d572defadd2aff1a40795babb", func := "tiltyard/tiltyardlaw10.SessionOne", spec := "sessionOne", inPlace := ["slices.overlaps[tiltyard/rack.row[tiltyard/session.link]]"], unfollowed := true, recurses := true, apart := false }
def SessionOneSaid : Prop := sessionOneRow.holds Try.pinned (OpenSpec.ofChange sessionOneSpec)

/-- ITS FALSE NEIGHBOUR: 'it returns false'. Refute it at one input. -/
def sessionOneWrong : ChangeSpec := { name := "sessionOne", fn := fun _ => fun
  | [d] => { results := [.lit (.bool false)], args := [d] }
  | _ => none }
def SessionOneWrongFalsely : Prop := sessionOneRow.holds Try.pinned (OpenSpec.ofChange sessionOneWrong)

/-- 'tiltyardlaw10.SessionRuns': WHATEVER THE INPUT: true; the input reads as it did. -/
def sessionRunsSpec : ChangeSpec := { name := "sessionRuns", fn := fun _ => fun
  | [d1, d2, d3] => { results := [.lit (.bool true)], args := [d1, d2, d3] }
  | _ => none }
def sessionRunsRow : OpenClaim := { program := "ytnelcpabjpchnaa", sum := "6520983309175ba878672850b57ce1a923bf562d572defadd2aff1a40795babb", func := "tiltyard/tiltyardlaw10.SessionRuns", spec := "sessionRuns", inPlace := ["slices.overlaps[tiltyard/rack.row[tiltyard/session.link]]"], unfollowed := true, recurses := true, apart := false }
def SessionRunsSaid : Prop := sessionRunsRow.holds Try.pinned (OpenSpec.ofChange sessionRunsSpec)

/-- ITS FALSE NEIGHBOUR: 'it returns false'. Refute it at one input. -/
def sessionRunsWrong : ChangeSpec := { name := "sessionRuns", fn := fun _ => fun
  | [d1, d2, d3] => { results := [.lit (.bool false)], args := [d1, d2, d3] }
  | _ => none }
def SessionRunsWrongFalsely : Prop := sessionRunsRow.holds Try.pinned (OpenSpec.ofChange sessionRunsWrong)

/-- 'tiltyardlaw10.SessionNil': WHATEVER THE INPUT: true; the input reads as it did. -/
def sessionNilSpec : ChangeSpec := { name := "sessionNil", fn := fun _ => fun
  | [d] => { results := [.lit (.bool true)], args := [d] }
  | _ => none }
def sessionNilRow : OpenClaim := { program := "ytnelcpabjpchnaa", sum := "6520983309175ba878672850b57ce1a923bf562d572defadd2aff1a40795babb", func := "tiltyard/tiltyardlaw10.SessionNil", spec := "sessionNil", inPlace := ["slices.overlaps[tiltyard/rack.row[tiltyard/session.link]]"], unfollowed := true, recurses := true, apart := false }
def SessionNilSaid : Prop := sessionNilRow.holds Try.pinned (OpenSpec.ofChange sessionNilSpec)

/-- ITS FALSE NEIGHBOUR: 'it returns false'. Refute it at one input. -/
def sessionNilWrong : ChangeSpec := { name := "sessionNil", fn := fun _ => fun
  | [d] => { results := [.lit (.bool false)], args := [d] }
  | _ => none }
def SessionNilWrongFalsely : Prop := sessionNilRow.holds Try.pinned (OpenSpec.ofChange sessionNilWrong)

/- THE SECOND FORM. 'bulk': how many values and letters a reading holds, each counted each time it is reached (what is shared counts as often as it is met; a slice's spare places count too). A statement '..UptoSaid' is the law's where the arguments, and the package variables that the reading takes, are together of bulk at most 1048576: NARROWER than '..Said'. Prove '..Said' where nothing that the law and all that it calls make is longer than what came in: it says more and counts as full. Else prove '..UptoSaid'. A law counts once. -/
mutual
def uptoBulk {H : Type} : DataW H → Nat
  | .lit (.string bytes) => bytes.length + 1
  | .lit _ => 1
  | .nil => 1
  | .ptr d => uptoBulk d + 1
  | .slice elems spare => uptoBulkAll elems + uptoBulkAll spare + 1
  | .agg parts => uptoBulkAll parts + 1
  | .iface _ d => uptoBulk d + 1
  | .map entries => uptoBulkEntries entries + 1
  | .held _ => 1
def uptoBulkAll {H : Type} : List (DataW H) → Nat
  | [] => 0
  | d :: r => uptoBulk d + uptoBulkAll r
def uptoBulkEntries {H : Type} : List (Lit × DataW H) → Nat
  | [] => 0
  | x :: r => uptoBulkEntry x + uptoBulkEntries r
def uptoBulkEntry {H : Type} : Lit × DataW H → Nat
  | (.string bytes, d) => bytes.length + uptoBulk d + 1
  | (_, d) => uptoBulk d + 1
 end
def uptoSmall : (H : Type) → List (DataW H) → Bool := fun _ ds => decide (uptoBulkAll ds ≤ 1048576)
def OpenSpec.upto (s : _root_.Go.ChangeSpec) : _root_.Go.OpenSpec := { _root_.Go.OpenSpec.ofChange s with cond := some uptoSmall }

/-- 'tiltyardlaw10.SessionIdle', WHERE WHAT IT READS IS OF BULK AT MOST 1048576: true; the input reads as it did. -/
def sessionIdleUptoRow : OpenClaim := { program := "ytnelcpabjpchnaa", sum := "6520983309175ba878672850b57ce1a923bf562d572defadd2aff1a40795babb", func := "tiltyard/tiltyardlaw10.SessionIdle", spec := "sessionIdle", inPlace := ["slices.overlaps[tiltyard/rack.row[tiltyard/session.link]]"], unfollowed := true, recurses := true, apart := false, narrowed := true }
def SessionIdleUptoSaid : Prop := sessionIdleUptoRow.holds Try.pinned (OpenSpec.upto sessionIdleSpec)

/-- 'tiltyardlaw10.SessionOne', WHERE WHAT IT READS IS OF BULK AT MOST 1048576: true; the input reads as it did. -/
def sessionOneUptoRow : OpenClaim := { program := "ytnelcpabjpchnaa", sum := "6520983309175ba878672850b57ce1a923bf562d572defadd2aff1a40795babb", func := "tiltyard/tiltyardlaw10.SessionOne", spec := "sessionOne", inPlace := ["slices.overlaps[tiltyard/rack.row[tiltyard/session.link]]"], unfollowed := true, recurses := true, apart := false, narrowed := true }
def SessionOneUptoSaid : Prop := sessionOneUptoRow.holds Try.pinned (OpenSpec.upto sessionOneSpec)

/-- 'tiltyardlaw10.SessionRuns', WHERE WHAT IT READS IS OF BULK AT MOST 1048576: true; the input reads as it did. -/
def sessionRunsUptoRow : OpenClaim := { program := "ytnelcpabjpchnaa", sum := "6520983309175ba878672850b57ce1a923bf562d572defadd2aff1a40795babb", func := "tiltyard/tiltyardlaw10.SessionRuns", spec := "sessionRuns", inPlace := ["slices.overlaps[tiltyard/rack.row[tiltyard/session.link]]"], unfollowed := true, recurses := true, apart := false, narrowed := true }
def SessionRunsUptoSaid : Prop := sessionRunsUptoRow.holds Try.pinned (OpenSpec.upto sessionRunsSpec)

/-- 'tiltyardlaw10.SessionNil', WHERE WHAT IT READS IS OF BULK AT MOST 1048576: true; the input reads as it did. -/
def sessionNilUptoRow : OpenClaim := { program := "ytnelcpabjpchnaa", sum := "6520983309175ba878672850b57ce1a923bf562d572defadd2aff1a40795babb", func := "tiltyard/tiltyardlaw10.SessionNil", spec := "sessionNil", inPlace := ["slices.overlaps[tiltyard/rack.row[tiltyard/session.link]]"], unfollowed := true, recurses := true, apart := false, narrowed := true }
def SessionNilUptoSaid : Prop := sessionNilUptoRow.holds Try.pinned (OpenSpec.upto sessionNilSpec)

end Rows
end Go.Proofs.Ytnelcpabjpchnaa
