/-
  No cell of these rows narrows 'for every input' (looked for: loops, veiled, ifaces, maps, wideKeys, modest, calm, conditions, laid).
  DERIVED. THE GIVEN ROWS OF THIS SEAT. 7 by the template 'for every input the law returns true; each argument reads behind the call as it read before'; 0 by the template 'total and deterministic' (their statements: YtiaijbkmgajieaaTotals.lean).
  GIVEN WITH THE SEED: the statements are not yours to turn. If you find one false, say at which input.
  Laid BY PROGRAM, IN A SANDBOX (cutbox-rows.mjs): the forced cells as the released guide's own fill.sh prints them over the translation cf59acc50b3ba885… (all of the seat's roots in one cut). By AI agents, Wed Nov 11 2026. No macro, syntax, notation, axiom, sorry.
-/
import Derived.Test.YtiaijbkmgajieaaChecked
import GoSem.Claim
import GoSem.ClaimJoined
import GoSem.ClaimMapViews
import Derived.JoinedTies
import Derived.KernelRfl
namespace Go.Proofs.Ytiaijbkmgajieaa
/- THE CELL 'sum', in the pinned program and in every row, IS THE sha256 OF THE DUMP (.gsa) THAT YtiaijbkmgajieaaProg.lean LOADS. Nothing in Lean hashes anything: it is a label: what it is worth is what the hold of that sum in a sandbox is worth. -/
noncomputable def Try.pinned : Pinned := { name := "ytiaijbkmgajieaa", sum := "cf59acc50b3ba88526cd2a89b09f2f8b8a1f44149daa4e520c7c0e995dc008be", checked := Try.checked }
namespace Rows
def none {H : Type} : Left H := { results := [], args := [] }

/-- 'tiltyardlaw01.FieldShapes': WHATEVER THE INPUT: true; the input reads as it did. -/
def fieldShapesSpec : ChangeSpec := { name := "fieldShapes", fn := fun _ => fun
  | [d] => { results := [.lit (.bool true)], args := [d] }
  | _ => none }
def fieldShapesRow : OpenClaim := { program := "ytiaijbkmgajieaa", sum := "cf59acc50b3ba88526cd2a89b09f2f8b8a1f44149daa4e520c7c0e995dc008be", func := "tiltyard/tiltyardlaw01.FieldShapes", spec := "fieldShapes", apart := false }
def FieldShapesSaid : Prop := fieldShapesRow.holds Try.pinned (OpenSpec.ofChange fieldShapesSpec)

/-- ITS FALSE NEIGHBOUR: 'it returns false'. Refute it at one input. -/
def fieldShapesWrong : ChangeSpec := { name := "fieldShapes", fn := fun _ => fun
  | [d] => { results := [.lit (.bool false)], args := [d] }
  | _ => none }
def FieldShapesWrongFalsely : Prop := fieldShapesRow.holds Try.pinned (OpenSpec.ofChange fieldShapesWrong)

/-- 'tiltyardlaw01.FieldWrites': WHATEVER THE INPUT: true; the input reads as it did. -/
def fieldWritesSpec : ChangeSpec := { name := "fieldWrites", fn := fun _ => fun
  | [d1, d2] => { results := [.lit (.bool true)], args := [d1, d2] }
  | _ => none }
def fieldWritesRow : OpenClaim := { program := "ytiaijbkmgajieaa", sum := "cf59acc50b3ba88526cd2a89b09f2f8b8a1f44149daa4e520c7c0e995dc008be", func := "tiltyard/tiltyardlaw01.FieldWrites", spec := "fieldWrites", apart := false }
def FieldWritesSaid : Prop := fieldWritesRow.holds Try.pinned (OpenSpec.ofChange fieldWritesSpec)

/-- ITS FALSE NEIGHBOUR: 'it returns false'. Refute it at one input. -/
def fieldWritesWrong : ChangeSpec := { name := "fieldWrites", fn := fun _ => fun
  | [d1, d2] => { results := [.lit (.bool false)], args := [d1, d2] }
  | _ => none }
def FieldWritesWrongFalsely : Prop := fieldWritesRow.holds Try.pinned (OpenSpec.ofChange fieldWritesWrong)

/-- 'tiltyardlaw01.FieldTakes': WHATEVER THE INPUT: true; the input reads as it did. -/
def fieldTakesSpec : ChangeSpec := { name := "fieldTakes", fn := fun _ => fun
  | [d1, d2, d3] => { results := [.lit (.bool true)], args := [d1, d2, d3] }
  | _ => none }
def fieldTakesRow : OpenClaim := { program := "ytiaijbkmgajieaa", sum := "cf59acc50b3ba88526cd2a89b09f2f8b8a1f44149daa4e520c7c0e995dc008be", func := "tiltyard/tiltyardlaw01.FieldTakes", spec := "fieldTakes", apart := false }
def FieldTakesSaid : Prop := fieldTakesRow.holds Try.pinned (OpenSpec.ofChange fieldTakesSpec)

/-- ITS FALSE NEIGHBOUR: 'it returns false'. Refute it at one input. -/
def fieldTakesWrong : ChangeSpec := { name := "fieldTakes", fn := fun _ => fun
  | [d1, d2, d3] => { results := [.lit (.bool false)], args := [d1, d2, d3] }
  | _ => none }
def FieldTakesWrongFalsely : Prop := fieldTakesRow.holds Try.pinned (OpenSpec.ofChange fieldTakesWrong)

/-- 'tiltyardlaw01.FieldReads': WHATEVER THE INPUT: true; the input reads as it did. -/
def fieldReadsSpec : ChangeSpec := { name := "fieldReads", fn := fun _ => fun
  | [d1, d2] => { results := [.lit (.bool true)], args := [d1, d2] }
  | _ => none }
def fieldReadsRow : OpenClaim := { program := "ytiaijbkmgajieaa", sum := "cf59acc50b3ba88526cd2a89b09f2f8b8a1f44149daa4e520c7c0e995dc008be", func := "tiltyard/tiltyardlaw01.FieldReads", spec := "fieldReads", apart := false }
def FieldReadsSaid : Prop := fieldReadsRow.holds Try.pinned (OpenSpec.ofChange fieldReadsSpec)

/-- ITS FALSE NEIGHBOUR: 'it returns false'. Refute it at one input. -/
def fieldReadsWrong : ChangeSpec := { name := "fieldReads", fn := fun _ => fun
  | [d1, d2] => { results := [.lit (.bool false)], args := [d1, d2] }
  | _ => none }
def FieldReadsWrongFalsely : Prop := fieldReadsRow.holds Try.pinned (OpenSpec.ofChange fieldReadsWrong)

/-- 'tiltyardlaw01.FieldBack': WHATEVER THE INPUT: true; the input reads as it did. -/
def fieldBackSpec : ChangeSpec := { name := "fieldBack", fn := fun _ => fun
  | [d1, d2] => { results := [.lit (.bool true)], args := [d1, d2] }
  | _ => none }
def fieldBackRow : OpenClaim := { program := "ytiaijbkmgajieaa", sum := "cf59acc50b3ba88526cd2a89b09f2f8b8a1f44149daa4e520c7c0e995dc008be", func := "tiltyard/tiltyardlaw01.FieldBack", spec := "fieldBack", apart := false }
def FieldBackSaid : Prop := fieldBackRow.holds Try.pinned (OpenSpec.ofChange fieldBackSpec)

/-- ITS FALSE NEIGHBOUR: 'it returns false'. Refute it at one input. -/
def fieldBackWrong : ChangeSpec := { name := "fieldBack", fn := fun _ => fun
  | [d1, d2] => { results := [.lit (.bool false)], args := [d1, d2] }
  | _ => none }
def FieldBackWrongFalsely : Prop := fieldBackRow.holds Try.pinned (OpenSpec.ofChange fieldBackWrong)

/-- 'tiltyardlaw01.FieldOnly': WHATEVER THE INPUT: true; the input reads as it did. -/
def fieldOnlySpec : ChangeSpec := { name := "fieldOnly", fn := fun _ => fun
  | [d1, d2] => { results := [.lit (.bool true)], args := [d1, d2] }
  | _ => none }
def fieldOnlyRow : OpenClaim := { program := "ytiaijbkmgajieaa", sum := "cf59acc50b3ba88526cd2a89b09f2f8b8a1f44149daa4e520c7c0e995dc008be", func := "tiltyard/tiltyardlaw01.FieldOnly", spec := "fieldOnly", apart := false }
def FieldOnlySaid : Prop := fieldOnlyRow.holds Try.pinned (OpenSpec.ofChange fieldOnlySpec)

/-- ITS FALSE NEIGHBOUR: 'it returns false'. Refute it at one input. -/
def fieldOnlyWrong : ChangeSpec := { name := "fieldOnly", fn := fun _ => fun
  | [d1, d2] => { results := [.lit (.bool false)], args := [d1, d2] }
  | _ => none }
def FieldOnlyWrongFalsely : Prop := fieldOnlyRow.holds Try.pinned (OpenSpec.ofChange fieldOnlyWrong)

/-- 'tiltyardlaw01.FieldCut': WHATEVER THE INPUT: true; the input reads as it did. -/
def fieldCutSpec : ChangeSpec := { name := "fieldCut", fn := fun _ => fun
  | [d1, d2, d3] => { results := [.lit (.bool true)], args := [d1, d2, d3] }
  | _ => none }
def fieldCutRow : OpenClaim := { program := "ytiaijbkmgajieaa", sum := "cf59acc50b3ba88526cd2a89b09f2f8b8a1f44149daa4e520c7c0e995dc008be", func := "tiltyard/tiltyardlaw01.FieldCut", spec := "fieldCut", apart := false }
def FieldCutSaid : Prop := fieldCutRow.holds Try.pinned (OpenSpec.ofChange fieldCutSpec)

/-- ITS FALSE NEIGHBOUR: 'it returns false'. Refute it at one input. -/
def fieldCutWrong : ChangeSpec := { name := "fieldCut", fn := fun _ => fun
  | [d1, d2, d3] => { results := [.lit (.bool false)], args := [d1, d2, d3] }
  | _ => none }
def FieldCutWrongFalsely : Prop := fieldCutRow.holds Try.pinned (OpenSpec.ofChange fieldCutWrong)

/- THE SECOND FORM. 'bulk': how many values and letters a reading holds, each counted each time it is reached (what is shared counts as often as it is met; a slice's spare places count too). A statement '..UptoSaid' is the law's where the arguments, and the package variables that the reading takes, are together of bulk at most 1048576: NARROWER than '..Said'. Prove '..Said' where nothing that the law and all that it calls make is longer than what came in: it says more and counts as full. Else prove '..UptoSaid'. A law counts once. -/
mutual
def uptoBulk {H : Type} : DataW H → Nat
  | .lit (.string bytes) => bytes.length + 1
  | .lit _ => 1
  | .nil => 1
  | .ptr d => uptoBulk d + 1
  | .slice elems spare => uptoBulkAll elems + uptoBulkAll spare + 1
  | .agg parts => uptoBulkAll parts + 1
  | .iface _ d => uptoBulk d + 1
  | .map entries => uptoBulkEntries entries + 1
  | .held _ => 1
def uptoBulkAll {H : Type} : List (DataW H) → Nat
  | [] => 0
  | d :: r => uptoBulk d + uptoBulkAll r
def uptoBulkEntries {H : Type} : List (Lit × DataW H) → Nat
  | [] => 0
  | x :: r => uptoBulkEntry x + uptoBulkEntries r
def uptoBulkEntry {H : Type} : Lit × DataW H → Nat
  | (.string bytes, d) => bytes.length + uptoBulk d + 1
  | (_, d) => uptoBulk d + 1
 end
def uptoSmall : (H : Type) → List (DataW H) → Bool := fun _ ds => decide (uptoBulkAll ds ≤ 1048576)
def OpenSpec.upto (s : _root_.Go.ChangeSpec) : _root_.Go.OpenSpec := { _root_.Go.OpenSpec.ofChange s with cond := some uptoSmall }

/-- 'tiltyardlaw01.FieldShapes', WHERE WHAT IT READS IS OF BULK AT MOST 1048576: true; the input reads as it did. -/
def fieldShapesUptoRow : OpenClaim := { program := "ytiaijbkmgajieaa", sum := "cf59acc50b3ba88526cd2a89b09f2f8b8a1f44149daa4e520c7c0e995dc008be", func := "tiltyard/tiltyardlaw01.FieldShapes", spec := "fieldShapes", apart := false, narrowed := true }
def FieldShapesUptoSaid : Prop := fieldShapesUptoRow.holds Try.pinned (OpenSpec.upto fieldShapesSpec)

/-- 'tiltyardlaw01.FieldWrites', WHERE WHAT IT READS IS OF BULK AT MOST 1048576: true; the input reads as it did. -/
def fieldWritesUptoRow : OpenClaim := { program := "ytiaijbkmgajieaa", sum := "cf59acc50b3ba88526cd2a89b09f2f8b8a1f44149daa4e520c7c0e995dc008be", func := "tiltyard/tiltyardlaw01.FieldWrites", spec := "fieldWrites", apart := false, narrowed := true }
def FieldWritesUptoSaid : Prop := fieldWritesUptoRow.holds Try.pinned (OpenSpec.upto fieldWritesSpec)

/-- 'tiltyardlaw01.FieldTakes', WHERE WHAT IT READS IS OF BULK AT MOST 1048576: true; the input reads as it did. -/
def fieldTakesUptoRow : OpenClaim := { program := "ytiaijbkmgajieaa", sum := "cf59acc50b3ba88526cd2a89b09f2f8b8a1f44149daa4e520c7c0e995dc008be", func := "tiltyard/tiltyardlaw01.FieldTakes", spec := "fieldTakes", apart := false, narrowed := true }
def FieldTakesUptoSaid : Prop := fieldTakesUptoRow.holds Try.pinned (OpenSpec.upto fieldTakesSpec)

/-- 'tiltyardlaw01.FieldReads', WHERE WHAT IT READS IS OF BULK AT MOST 1048576: true; the input reads as it did. -/
def fieldReadsUptoRow : OpenClaim := { program := "ytiaijbkmgajieaa", sum := "cf59acc50b3ba88526cd2a89b09f2f8b8a1f44149daa4e520c7c0e995dc008be", func := "tiltyard/tiltyardlaw01.FieldReads", spec := "fieldReads", apart := false, narrowed := true }
def FieldReadsUptoSaid : Prop := fieldReadsUptoRow.holds Try.pinned (OpenSpec.upto fieldReadsSpec)

/-- 'tiltyardlaw01.FieldBack', WHERE WHAT IT READS IS OF BULK AT MOST 1048576: true; the input reads as it did. -/
def fieldBackUptoRow : OpenClaim := { program := "ytiaijbkmgajieaa", sum := "cf59acc50b3ba88526cd2a89b09f2f8b8a1f44149daa4e520c7c0e995dc008be", func := "tiltyard/tiltyardlaw01.FieldBack", spec := "fieldBack", apart := false, narrowed := true }
def FieldBackUptoSaid : Prop := fieldBackUptoRow.holds Try.pinned (OpenSpec.upto fieldBackSpec)

/-- 'tiltyardlaw01.FieldOnly', WHERE WHAT IT READS IS OF BULK AT MOST 1048576: true; the input reads as it did. -/
def fieldOnlyUptoRow : OpenClaim := { program := "ytiaijbkmgajieaa", sum := "cf59acc50b3ba88526cd2a89b09f2f8b8a1f44149daa4e520c7c0e995dc008be", func := "tiltyard/tiltyardlaw01.FieldOnly", spec := "fieldOnly", apart := false, narrowed := true }
def FieldOnlyUptoSaid : Prop := fieldOnlyUptoRow.holds Try.pinned (OpenSpec.upto fieldOnlySpec)

/-- 'tiltyardlaw01.FieldCut', WHERE WHAT IT READS IS OF BULK AT MOST 1048576: true; the input reads as it did. -/
def fieldCutUptoRow : OpenClaim := { program := "ytiaijbkmgajieaa", sum := "cf59acc50b3ba88526cd2a89b09f2f8b8a1f44149daa4e520c7c0e995dc008be", func := "tiltyard/tiltyardlaw01.FieldCut", spec := "fieldCut", apart := false, narrowed := true }
def FieldCutUptoSaid : Prop := fieldCutUptoRow.holds Try.pinned (OpenSpec.upto fieldCutSpec)

end Rows
end Go.Proofs.Ytiaijbkmgajieaa
