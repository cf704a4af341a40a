/-
  No cell of these rows narrows 'for every input' (looked for: loops, veiled, ifaces, maps, wideKeys, modest, calm, conditions, laid).
  DERIVED. THE GIVEN ROWS OF THIS SEAT. 4 by the template 'for every input the law returns true; each argument reads behind the call as it read before'; 0 by the template 'total and deterministic' (their statements: YtdgonebknphkcaaTotals.lean).
  GIVEN WITH THE SEED: the statements are not yours to turn. If you find one false, say at which input.
  Laid BY PROGRAM, IN A SANDBOX (cutbox-rows.mjs): the forced cells as the released guide's own fill.sh prints them over the translation 33e12880ac9dae13… (all of the seat's roots in one cut). By AI agents, Wed Nov 11 2026. No macro, syntax, notation, axiom, sorry.
-/
import Derived.Test.YtdgonebknphkcaaChecked
import GoSem.Claim
import GoSem.ClaimJoined
import GoSem.ClaimMapViews
import Derived.JoinedTies
import Derived.KernelRfl
namespace Go.Proofs.Ytdgonebknphkcaa
/- THE CELL 'sum', in the pinned program and in every row, IS THE sha256 OF THE DUMP (.gsa) THAT YtdgonebknphkcaaProg.lean LOADS. Nothing in Lean hashes anything: it is a label: what it is worth is what the hold of that sum in a sandbox is worth. -/
noncomputable def Try.pinned : Pinned := { name := "ytdgonebknphkcaa", sum := "33e12880ac9dae13cb4113197aac9d9e75e7456c13e965d99aa3a88cb0e40f91", checked := Try.checked }
namespace Rows
def none {H : Type} : Left H := { results := [], args := [] }

/-- 'tiltyardlaw09.LedgerOnce': WHATEVER THE INPUT: true; the input reads as it did. -/
def ledgerOnceSpec : ChangeSpec := { name := "ledgerOnce", fn := fun _ => fun
  | [d1, d2] => { results := [.lit (.bool true)], args := [d1, d2] }
  | _ => none }
def ledgerOnceRow : OpenClaim := { program := "ytdgonebknphkcaa", sum := "33e12880ac9dae13cb4113197aac9d9e75e7456c13e965d99aa3a88cb0e40f91", func := "tiltyard/tiltyardlaw09.LedgerOnce", spec := "ledgerOnce", apart := false }
def LedgerOnceSaid : Prop := ledgerOnceRow.holds Try.pinned (OpenSpec.ofChange ledgerOnceSpec)

/-- ITS FALSE NEIGHBOUR: 'it returns false'. Refute it at one input. -/
def ledgerOnceWrong : ChangeSpec := { name := "ledgerOnce", fn := fun _ => fun
  | [d1, d2] => { results := [.lit (.bool false)], args := [d1, d2] }
  | _ => none }
def LedgerOnceWrongFalsely : Prop := ledgerOnceRow.holds Try.pinned (OpenSpec.ofChange ledgerOnceWrong)

/-- 'tiltyardlaw09.LedgerRefuses': WHATEVER THE INPUT: true; the input reads as it did. -/
def ledgerRefusesSpec : ChangeSpec := { name := "ledgerRefuses", fn := fun _ => fun
  | [d1, d2, d3] => { results := [.lit (.bool true)], args := [d1, d2, d3] }
  | _ => none }
def ledgerRefusesRow : OpenClaim := { program := "ytdgonebknphkcaa", sum := "33e12880ac9dae13cb4113197aac9d9e75e7456c13e965d99aa3a88cb0e40f91", func := "tiltyard/tiltyardlaw09.LedgerRefuses", spec := "ledgerRefuses", unfollowed := true, recurses := true, apart := false }
def LedgerRefusesSaid : Prop := ledgerRefusesRow.holds Try.pinned (OpenSpec.ofChange ledgerRefusesSpec)

/-- ITS FALSE NEIGHBOUR: 'it returns false'. Refute it at one input. -/
def ledgerRefusesWrong : ChangeSpec := { name := "ledgerRefuses", fn := fun _ => fun
  | [d1, d2, d3] => { results := [.lit (.bool false)], args := [d1, d2, d3] }
  | _ => none }
def LedgerRefusesWrongFalsely : Prop := ledgerRefusesRow.holds Try.pinned (OpenSpec.ofChange ledgerRefusesWrong)

/-- 'tiltyardlaw09.LedgerRuns': WHATEVER THE INPUT: true; the input reads as it did. -/
def ledgerRunsSpec : ChangeSpec := { name := "ledgerRuns", fn := fun _ => fun
  | [d1, d2] => { results := [.lit (.bool true)], args := [d1, d2] }
  | _ => none }
def ledgerRunsRow : OpenClaim := { program := "ytdgonebknphkcaa", sum := "33e12880ac9dae13cb4113197aac9d9e75e7456c13e965d99aa3a88cb0e40f91", func := "tiltyard/tiltyardlaw09.LedgerRuns", spec := "ledgerRuns", unfollowed := true, recurses := true, apart := false }
def LedgerRunsSaid : Prop := ledgerRunsRow.holds Try.pinned (OpenSpec.ofChange ledgerRunsSpec)

/-- ITS FALSE NEIGHBOUR: 'it returns false'. Refute it at one input. -/
def ledgerRunsWrong : ChangeSpec := { name := "ledgerRuns", fn := fun _ => fun
  | [d1, d2] => { results := [.lit (.bool false)], args := [d1, d2] }
  | _ => none }
def LedgerRunsWrongFalsely : Prop := ledgerRunsRow.holds Try.pinned (OpenSpec.ofChange ledgerRunsWrong)

/-- 'tiltyardlaw09.LedgerNil': WHATEVER THE INPUT: true; the input reads as it did. -/
def ledgerNilSpec : ChangeSpec := { name := "ledgerNil", fn := fun _ => fun
  | [d1, d2] => { results := [.lit (.bool true)], args := [d1, d2] }
  | _ => none }
def ledgerNilRow : OpenClaim := { program := "ytdgonebknphkcaa", sum := "33e12880ac9dae13cb4113197aac9d9e75e7456c13e965d99aa3a88cb0e40f91", func := "tiltyard/tiltyardlaw09.LedgerNil", spec := "ledgerNil", unfollowed := true, recurses := true, apart := false }
def LedgerNilSaid : Prop := ledgerNilRow.holds Try.pinned (OpenSpec.ofChange ledgerNilSpec)

/-- ITS FALSE NEIGHBOUR: 'it returns false'. Refute it at one input. -/
def ledgerNilWrong : ChangeSpec := { name := "ledgerNil", fn := fun _ => fun
  | [d1, d2] => { results := [.lit (.bool false)], args := [d1, d2] }
  | _ => none }
def LedgerNilWrongFalsely : Prop := ledgerNilRow.holds Try.pinned (OpenSpec.ofChange ledgerNilWrong)

/- THE SECOND FORM. 'bulk': how many values and letters a reading holds, each counted each time it is reached (what is shared counts as often as it is met; a slice's spare places count too). A statement '..UptoSaid' is the law's where the arguments, and the package variables that the reading takes, are together of bulk at most 1048576: NARROWER than '..Said'. Prove '..Said' where nothing that the law and all that it calls make is longer than what came in: it says more and counts as full. Else prove '..UptoSaid'. A law counts once. -/
mutual
def uptoBulk {H : Type} : DataW H → Nat
  | .lit (.string bytes) => bytes.length + 1
  | .lit _ => 1
  | .nil => 1
  | .ptr d => uptoBulk d + 1
  | .slice elems spare => uptoBulkAll elems + uptoBulkAll spare + 1
  | .agg parts => uptoBulkAll parts + 1
  | .iface _ d => uptoBulk d + 1
  | .map entries => uptoBulkEntries entries + 1
  | .held _ => 1
def uptoBulkAll {H : Type} : List (DataW H) → Nat
  | [] => 0
  | d :: r => uptoBulk d + uptoBulkAll r
def uptoBulkEntries {H : Type} : List (Lit × DataW H) → Nat
  | [] => 0
  | x :: r => uptoBulkEntry x + uptoBulkEntries r
def uptoBulkEntry {H : Type} : Lit × DataW H → Nat
  | (.string bytes, d) => bytes.length + uptoBulk d + 1
  | (_, d) => uptoBulk d + 1
 end
def uptoSmall : (H : Type) → List (DataW H) → Bool := fun _ ds => decide (uptoBulkAll ds ≤ 1048576)
def OpenSpec.upto (s : _root_.Go.ChangeSpec) : _root_.Go.OpenSpec := { _root_.Go.OpenSpec.ofChange s with cond := some uptoSmall }

/-- 'tiltyardlaw09.LedgerOnce', WHERE WHAT IT READS IS OF BULK AT MOST 1048576: true; the input reads as it did. -/
def ledgerOnceUptoRow : OpenClaim := { program := "ytdgonebknphkcaa", sum := "33e12880ac9dae13cb4113197aac9d9e75e7456c13e965d99aa3a88cb0e40f91", func := "tiltyard/tiltyardlaw09.LedgerOnce", spec := "ledgerOnce", apart := false, narrowed := true }
def LedgerOnceUptoSaid : Prop := ledgerOnceUptoRow.holds Try.pinned (OpenSpec.upto ledgerOnceSpec)

/-- 'tiltyardlaw09.LedgerRefuses', WHERE WHAT IT READS IS OF BULK AT MOST 1048576: true; the input reads as it did. -/
def ledgerRefusesUptoRow : OpenClaim := { program := "ytdgonebknphkcaa", sum := "33e12880ac9dae13cb4113197aac9d9e75e7456c13e965d99aa3a88cb0e40f91", func := "tiltyard/tiltyardlaw09.LedgerRefuses", spec := "ledgerRefuses", unfollowed := true, recurses := true, apart := false, narrowed := true }
def LedgerRefusesUptoSaid : Prop := ledgerRefusesUptoRow.holds Try.pinned (OpenSpec.upto ledgerRefusesSpec)

/-- 'tiltyardlaw09.LedgerRuns', WHERE WHAT IT READS IS OF BULK AT MOST 1048576: true; the input reads as it did. -/
def ledgerRunsUptoRow : OpenClaim := { program := "ytdgonebknphkcaa", sum := "33e12880ac9dae13cb4113197aac9d9e75e7456c13e965d99aa3a88cb0e40f91", func := "tiltyard/tiltyardlaw09.LedgerRuns", spec := "ledgerRuns", unfollowed := true, recurses := true, apart := false, narrowed := true }
def LedgerRunsUptoSaid : Prop := ledgerRunsUptoRow.holds Try.pinned (OpenSpec.upto ledgerRunsSpec)

/-- 'tiltyardlaw09.LedgerNil', WHERE WHAT IT READS IS OF BULK AT MOST 1048576: true; the input reads as it did. -/
def ledgerNilUptoRow : OpenClaim := { program := "ytdgonebknphkcaa", sum := "33e12880ac9dae13cb4113197aac9d9e75e7456c13e965d99aa3a88cb0e40f91", func := "tiltyard/tiltyardlaw09.LedgerNil", spec := "ledgerNil", unfollowed := true, recurses := true, apart := false, narrowed := true }
def LedgerNilUptoSaid : Prop := ledgerNilUptoRow.holds Try.pinned (OpenSpec.upto ledgerNilSpec)

end Rows
end Go.Proofs.Ytdgonebknphkcaa
