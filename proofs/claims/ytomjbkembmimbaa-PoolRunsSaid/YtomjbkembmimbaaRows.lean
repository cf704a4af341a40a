/-
  No cell of these rows narrows 'for every input' (looked for: loops, veiled, ifaces, maps, wideKeys, modest, calm, conditions, laid).
  DERIVED. THE GIVEN ROWS OF THIS SEAT. 4 by the template 'for every input the law returns true; each argument reads behind the call as it read before'; 0 by the template 'total and deterministic' (their statements: YtomjbkembmimbaaTotals.lean).
  GIVEN WITH THE SEED: the statements are not yours to turn. If you find one false, say at which input.
  Laid BY PROGRAM, IN A SANDBOX (cutbox-rows.mjs): the forced cells as the released guide's own fill.sh prints them over the translation 6d87d83b310f2978… (all of the seat's roots in one cut). By AI agents, Wed Nov 11 2026. No macro, syntax, notation, axiom, sorry.
-/
import Derived.Test.YtomjbkembmimbaaChecked
import GoSem.Claim
import GoSem.ClaimJoined
import GoSem.ClaimMapViews
import Derived.JoinedTies
import Derived.KernelRfl
namespace Go.Proofs.Ytomjbkembmimbaa
/- THE CELL 'sum', in the pinned program and in every row, IS THE sha256 OF THE DUMP (.gsa) THAT YtomjbkembmimbaaProg.lean LOADS. Nothing in Lean hashes anything: it is a label: what it is worth is what the hold of that sum in a sandbox is worth. -/
noncomputable def Try.pinned : Pinned := { name := "ytomjbkembmimbaa", sum := "6d87d83b310f2978db6ffb1a594da74b59d7f0c47bcb7c7e34a612ac19515206", checked := Try.checked }
namespace Rows
def none {H : Type} : Left H := { results := [], args := [] }

/-- 'tiltyardlaw21.PoolMatch': WHATEVER THE INPUT: true; the input reads as it did. -/
def poolMatchSpec : ChangeSpec := { name := "poolMatch", fn := fun _ => fun
  | [d] => { results := [.lit (.bool true)], args := [d] }
  | _ => none }
def poolMatchRow : OpenClaim := { program := "ytomjbkembmimbaa", sum := "6d87d83b310f2978db6ffb1a594da74b59d7f0c47bcb7c7e34a612ac19515206", func := "tiltyard/tiltyardlaw21.PoolMatch", spec := "poolMatch", apart := false }
def PoolMatchSaid : Prop := poolMatchRow.holds Try.pinned (OpenSpec.ofChange poolMatchSpec)

/-- ITS FALSE NEIGHBOUR: 'it returns false'. Refute it at one input. -/
def poolMatchWrong : ChangeSpec := { name := "poolMatch", fn := fun _ => fun
  | [d] => { results := [.lit (.bool false)], args := [d] }
  | _ => none }
def PoolMatchWrongFalsely : Prop := poolMatchRow.holds Try.pinned (OpenSpec.ofChange poolMatchWrong)

/-- 'tiltyardlaw21.PoolLate': WHATEVER THE INPUT: true; the input reads as it did. -/
def poolLateSpec : ChangeSpec := { name := "poolLate", fn := fun _ => fun
  | [d1, d2] => { results := [.lit (.bool true)], args := [d1, d2] }
  | _ => none }
def poolLateRow : OpenClaim := { program := "ytomjbkembmimbaa", sum := "6d87d83b310f2978db6ffb1a594da74b59d7f0c47bcb7c7e34a612ac19515206", func := "tiltyard/tiltyardlaw21.PoolLate", spec := "poolLate", apart := false }
def PoolLateSaid : Prop := poolLateRow.holds Try.pinned (OpenSpec.ofChange poolLateSpec)

/-- ITS FALSE NEIGHBOUR: 'it returns false'. Refute it at one input. -/
def poolLateWrong : ChangeSpec := { name := "poolLate", fn := fun _ => fun
  | [d1, d2] => { results := [.lit (.bool false)], args := [d1, d2] }
  | _ => none }
def PoolLateWrongFalsely : Prop := poolLateRow.holds Try.pinned (OpenSpec.ofChange poolLateWrong)

/-- 'tiltyardlaw21.PoolRuns': WHATEVER THE INPUT: true; the input reads as it did. -/
def poolRunsSpec : ChangeSpec := { name := "poolRuns", fn := fun _ => fun
  | [d1, d2, d3] => { results := [.lit (.bool true)], args := [d1, d2, d3] }
  | _ => none }
def poolRunsRow : OpenClaim := { program := "ytomjbkembmimbaa", sum := "6d87d83b310f2978db6ffb1a594da74b59d7f0c47bcb7c7e34a612ac19515206", func := "tiltyard/tiltyardlaw21.PoolRuns", spec := "poolRuns", apart := false }
def PoolRunsSaid : Prop := poolRunsRow.holds Try.pinned (OpenSpec.ofChange poolRunsSpec)

/-- ITS FALSE NEIGHBOUR: 'it returns false'. Refute it at one input. -/
def poolRunsWrong : ChangeSpec := { name := "poolRuns", fn := fun _ => fun
  | [d1, d2, d3] => { results := [.lit (.bool false)], args := [d1, d2, d3] }
  | _ => none }
def PoolRunsWrongFalsely : Prop := poolRunsRow.holds Try.pinned (OpenSpec.ofChange poolRunsWrong)

/-- 'tiltyardlaw21.PoolNil': WHATEVER THE INPUT: true; the input reads as it did. -/
def poolNilSpec : ChangeSpec := { name := "poolNil", fn := fun _ => fun
  | [d] => { results := [.lit (.bool true)], args := [d] }
  | _ => none }
def poolNilRow : OpenClaim := { program := "ytomjbkembmimbaa", sum := "6d87d83b310f2978db6ffb1a594da74b59d7f0c47bcb7c7e34a612ac19515206", func := "tiltyard/tiltyardlaw21.PoolNil", spec := "poolNil", apart := false }
def PoolNilSaid : Prop := poolNilRow.holds Try.pinned (OpenSpec.ofChange poolNilSpec)

/-- ITS FALSE NEIGHBOUR: 'it returns false'. Refute it at one input. -/
def poolNilWrong : ChangeSpec := { name := "poolNil", fn := fun _ => fun
  | [d] => { results := [.lit (.bool false)], args := [d] }
  | _ => none }
def PoolNilWrongFalsely : Prop := poolNilRow.holds Try.pinned (OpenSpec.ofChange poolNilWrong)

/- THE SECOND FORM. 'bulk': how many values and letters a reading holds, each counted each time it is reached (what is shared counts as often as it is met; a slice's spare places count too). A statement '..UptoSaid' is the law's where the arguments, and the package variables that the reading takes, are together of bulk at most 1048576: NARROWER than '..Said'. Prove '..Said' where nothing that the law and all that it calls make is longer than what came in: it says more and counts as full. Else prove '..UptoSaid'. A law counts once. -/
mutual
def uptoBulk {H : Type} : DataW H → Nat
  | .lit (.string bytes) => bytes.length + 1
  | .lit _ => 1
  | .nil => 1
  | .ptr d => uptoBulk d + 1
  | .slice elems spare => uptoBulkAll elems + uptoBulkAll spare + 1
  | .agg parts => uptoBulkAll parts + 1
  | .iface _ d => uptoBulk d + 1
  | .map entries => uptoBulkEntries entries + 1
  | .held _ => 1
def uptoBulkAll {H : Type} : List (DataW H) → Nat
  | [] => 0
  | d :: r => uptoBulk d + uptoBulkAll r
def uptoBulkEntries {H : Type} : List (Lit × DataW H) → Nat
  | [] => 0
  | x :: r => uptoBulkEntry x + uptoBulkEntries r
def uptoBulkEntry {H : Type} : Lit × DataW H → Nat
  | (.string bytes, d) => bytes.length + uptoBulk d + 1
  | (_, d) => uptoBulk d + 1
 end
def uptoSmall : (H : Type) → List (DataW H) → Bool := fun _ ds => decide (uptoBulkAll ds ≤ 1048576)
def OpenSpec.upto (s : _root_.Go.ChangeSpec) : _root_.Go.OpenSpec := { _root_.Go.OpenSpec.ofChange s with cond := some uptoSmall }

/-- 'tiltyardlaw21.PoolMatch', WHERE WHAT IT READS IS OF BULK AT MOST 1048576: true; the input reads as it did. -/
def poolMatchUptoRow : OpenClaim := { program := "ytomjbkembmimbaa", sum := "6d87d83b310f2978db6ffb1a594da74b59d7f0c47bcb7c7e34a612ac19515206", func := "tiltyard/tiltyardlaw21.PoolMatch", spec := "poolMatch", apart := false, narrowed := true }
def PoolMatchUptoSaid : Prop := poolMatchUptoRow.holds Try.pinned (OpenSpec.upto poolMatchSpec)

/-- 'tiltyardlaw21.PoolLate', WHERE WHAT IT READS IS OF BULK AT MOST 1048576: true; the input reads as it did. -/
def poolLateUptoRow : OpenClaim := { program := "ytomjbkembmimbaa", sum := "6d87d83b310f2978db6ffb1a594da74b59d7f0c47bcb7c7e34a612ac19515206", func := "tiltyard/tiltyardlaw21.PoolLate", spec := "poolLate", apart := false, narrowed := true }
def PoolLateUptoSaid : Prop := poolLateUptoRow.holds Try.pinned (OpenSpec.upto poolLateSpec)

/-- 'tiltyardlaw21.PoolRuns', WHERE WHAT IT READS IS OF BULK AT MOST 1048576: true; the input reads as it did. -/
def poolRunsUptoRow : OpenClaim := { program := "ytomjbkembmimbaa", sum := "6d87d83b310f2978db6ffb1a594da74b59d7f0c47bcb7c7e34a612ac19515206", func := "tiltyard/tiltyardlaw21.PoolRuns", spec := "poolRuns", apart := false, narrowed := true }
def PoolRunsUptoSaid : Prop := poolRunsUptoRow.holds Try.pinned (OpenSpec.upto poolRunsSpec)

/-- 'tiltyardlaw21.PoolNil', WHERE WHAT IT READS IS OF BULK AT MOST 1048576: true; the input reads as it did. -/
def poolNilUptoRow : OpenClaim := { program := "ytomjbkembmimbaa", sum := "6d87d83b310f2978db6ffb1a594da74b59d7f0c47bcb7c7e34a612ac19515206", func := "tiltyard/tiltyardlaw21.PoolNil", spec := "poolNil", apart := false, narrowed := true }
def PoolNilUptoSaid : Prop := poolNilUptoRow.holds Try.pinned (OpenSpec.upto poolNilSpec)

end Rows
end Go.Proofs.Ytomjbkembmimbaa
