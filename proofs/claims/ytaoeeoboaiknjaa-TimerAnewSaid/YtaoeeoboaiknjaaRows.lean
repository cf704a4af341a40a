/-
  No cell of these rows narrows 'for every input' (looked for: loops, veiled, ifaces, maps, wideKeys, modest, calm, conditions, laid).
  DERIVED. THE GIVEN ROWS OF THIS SEAT. 5 by the template 'for every input the law returns true; each argument reads behind the call as it read before'; 0 by the template 'total and deterministic' (their statements: YtaoeeoboaiknjaaTotals.lean).
  GIVEN WITH THE SEED: the statements are not yours to turn. If you find one false, say at which input.
  Laid BY PROGRAM, IN A SANDBOX (cutbox-rows.mjs): the forced cells as the released guide's own fill.sh prints them over the translation 39d52df98a93dd90… (all of the seat's roots in one cut). By AI agents, Wed Nov 11 2026. No macro, syntax, notation, axiom, sorry.
-/
import Derived.Test.YtaoeeoboaiknjaaChecked
import GoSem.Claim
import GoSem.ClaimJoined
import GoSem.ClaimMapViews
import Derived.JoinedTies
import Derived.KernelRfl
namespace Go.Proofs.Ytaoeeoboaiknjaa
/- THE CELL 'sum', in the pinned program and in every row, IS THE sha256 OF THE DUMP (.gsa) THAT YtaoeeoboaiknjaaProg.lean LOADS. Nothing in Lean hashes anything: it is a label: what it is worth is what the hold of that sum in a sandbox is worth. -/
noncomputable def Try.pinned : Pinned := { name := "ytaoeeoboaiknjaa", sum := "39d52df98a93dd90e37287f46771023f923356fa25acc59f27d42fdfdfcc7f6d", checked := Try.checked }
namespace Rows
def none {H : Type} : Left H := { results := [], args := [] }

/-- 'tiltyardlaw08.TimerAdds': WHATEVER THE INPUT: true; the input reads as it did. -/
def timerAddsSpec : ChangeSpec := { name := "timerAdds", fn := fun _ => fun
  | [d1, d2] => { results := [.lit (.bool true)], args := [d1, d2] }
  | _ => none }
def timerAddsRow : OpenClaim := { program := "ytaoeeoboaiknjaa", sum := "39d52df98a93dd90e37287f46771023f923356fa25acc59f27d42fdfdfcc7f6d", func := "tiltyard/tiltyardlaw08.TimerAdds", spec := "timerAdds", unfollowed := true, recurses := true, plainKeys := false, apart := false }
def TimerAddsSaid : Prop := timerAddsRow.holds Try.pinned (OpenSpec.ofChange timerAddsSpec)

/-- ITS FALSE NEIGHBOUR: 'it returns false'. Refute it at one input. -/
def timerAddsWrong : ChangeSpec := { name := "timerAdds", fn := fun _ => fun
  | [d1, d2] => { results := [.lit (.bool false)], args := [d1, d2] }
  | _ => none }
def TimerAddsWrongFalsely : Prop := timerAddsRow.holds Try.pinned (OpenSpec.ofChange timerAddsWrong)

/-- 'tiltyardlaw08.TimerOrder': WHATEVER THE INPUT: true; the input reads as it did. -/
def timerOrderSpec : ChangeSpec := { name := "timerOrder", fn := fun _ => fun
  | [d1, d2] => { results := [.lit (.bool true)], args := [d1, d2] }
  | _ => none }
def timerOrderRow : OpenClaim := { program := "ytaoeeoboaiknjaa", sum := "39d52df98a93dd90e37287f46771023f923356fa25acc59f27d42fdfdfcc7f6d", func := "tiltyard/tiltyardlaw08.TimerOrder", spec := "timerOrder", unfollowed := true, recurses := true, plainKeys := false, apart := false }
def TimerOrderSaid : Prop := timerOrderRow.holds Try.pinned (OpenSpec.ofChange timerOrderSpec)

/-- ITS FALSE NEIGHBOUR: 'it returns false'. Refute it at one input. -/
def timerOrderWrong : ChangeSpec := { name := "timerOrder", fn := fun _ => fun
  | [d1, d2] => { results := [.lit (.bool false)], args := [d1, d2] }
  | _ => none }
def TimerOrderWrongFalsely : Prop := timerOrderRow.holds Try.pinned (OpenSpec.ofChange timerOrderWrong)

/-- 'tiltyardlaw08.TimerAnew': WHATEVER THE INPUT: true; the input reads as it did. -/
def timerAnewSpec : ChangeSpec := { name := "timerAnew", fn := fun _ => fun
  | [d1, d2, d3] => { results := [.lit (.bool true)], args := [d1, d2, d3] }
  | _ => none }
def timerAnewRow : OpenClaim := { program := "ytaoeeoboaiknjaa", sum := "39d52df98a93dd90e37287f46771023f923356fa25acc59f27d42fdfdfcc7f6d", func := "tiltyard/tiltyardlaw08.TimerAnew", spec := "timerAnew", unfollowed := true, recurses := true, plainKeys := false, apart := false }
def TimerAnewSaid : Prop := timerAnewRow.holds Try.pinned (OpenSpec.ofChange timerAnewSpec)

/-- ITS FALSE NEIGHBOUR: 'it returns false'. Refute it at one input. -/
def timerAnewWrong : ChangeSpec := { name := "timerAnew", fn := fun _ => fun
  | [d1, d2, d3] => { results := [.lit (.bool false)], args := [d1, d2, d3] }
  | _ => none }
def TimerAnewWrongFalsely : Prop := timerAnewRow.holds Try.pinned (OpenSpec.ofChange timerAnewWrong)

/-- 'tiltyardlaw08.TimerRuns': WHATEVER THE INPUT: true; the input reads as it did. -/
def timerRunsSpec : ChangeSpec := { name := "timerRuns", fn := fun _ => fun
  | [d] => { results := [.lit (.bool true)], args := [d] }
  | _ => none }
def timerRunsRow : OpenClaim := { program := "ytaoeeoboaiknjaa", sum := "39d52df98a93dd90e37287f46771023f923356fa25acc59f27d42fdfdfcc7f6d", func := "tiltyard/tiltyardlaw08.TimerRuns", spec := "timerRuns", unfollowed := true, recurses := true, plainKeys := false, apart := false }
def TimerRunsSaid : Prop := timerRunsRow.holds Try.pinned (OpenSpec.ofChange timerRunsSpec)

/-- ITS FALSE NEIGHBOUR: 'it returns false'. Refute it at one input. -/
def timerRunsWrong : ChangeSpec := { name := "timerRuns", fn := fun _ => fun
  | [d] => { results := [.lit (.bool false)], args := [d] }
  | _ => none }
def TimerRunsWrongFalsely : Prop := timerRunsRow.holds Try.pinned (OpenSpec.ofChange timerRunsWrong)

/-- 'tiltyardlaw08.TimerNil': WHATEVER THE INPUT: true; the input reads as it did. -/
def timerNilSpec : ChangeSpec := { name := "timerNil", fn := fun _ => fun
  | [d1, d2, d3] => { results := [.lit (.bool true)], args := [d1, d2, d3] }
  | _ => none }
def timerNilRow : OpenClaim := { program := "ytaoeeoboaiknjaa", sum := "39d52df98a93dd90e37287f46771023f923356fa25acc59f27d42fdfdfcc7f6d", func := "tiltyard/tiltyardlaw08.TimerNil", spec := "timerNil", unfollowed := true, recurses := true, plainKeys := false, apart := false }
def TimerNilSaid : Prop := timerNilRow.holds Try.pinned (OpenSpec.ofChange timerNilSpec)

/-- ITS FALSE NEIGHBOUR: 'it returns false'. Refute it at one input. -/
def timerNilWrong : ChangeSpec := { name := "timerNil", fn := fun _ => fun
  | [d1, d2, d3] => { results := [.lit (.bool false)], args := [d1, d2, d3] }
  | _ => none }
def TimerNilWrongFalsely : Prop := timerNilRow.holds Try.pinned (OpenSpec.ofChange timerNilWrong)

/- THE SECOND FORM. 'bulk': how many values and letters a reading holds, each counted each time it is reached (what is shared counts as often as it is met; a slice's spare places count too). A statement '..UptoSaid' is the law's where the arguments, and the package variables that the reading takes, are together of bulk at most 1048576: NARROWER than '..Said'. Prove '..Said' where nothing that the law and all that it calls make is longer than what came in: it says more and counts as full. Else prove '..UptoSaid'. A law counts once. -/
mutual
def uptoBulk {H : Type} : DataW H → Nat
  | .lit (.string bytes) => bytes.length + 1
  | .lit _ => 1
  | .nil => 1
  | .ptr d => uptoBulk d + 1
  | .slice elems spare => uptoBulkAll elems + uptoBulkAll spare + 1
  | .agg parts => uptoBulkAll parts + 1
  | .iface _ d => uptoBulk d + 1
  | .map entries => uptoBulkEntries entries + 1
  | .held _ => 1
def uptoBulkAll {H : Type} : List (DataW H) → Nat
  | [] => 0
  | d :: r => uptoBulk d + uptoBulkAll r
def uptoBulkEntries {H : Type} : List (Lit × DataW H) → Nat
  | [] => 0
  | x :: r => uptoBulkEntry x + uptoBulkEntries r
def uptoBulkEntry {H : Type} : Lit × DataW H → Nat
  | (.string bytes, d) => bytes.length + uptoBulk d + 1
  | (_, d) => uptoBulk d + 1
 end
def uptoSmall : (H : Type) → List (DataW H) → Bool := fun _ ds => decide (uptoBulkAll ds ≤ 1048576)
def OpenSpec.upto (s : _root_.Go.ChangeSpec) : _root_.Go.OpenSpec := { _root_.Go.OpenSpec.ofChange s with cond := some uptoSmall }

/-- 'tiltyardlaw08.TimerAdds', WHERE WHAT IT READS IS OF BULK AT MOST 1048576: true; the input reads as it did. -/
def timerAddsUptoRow : OpenClaim := { program := "ytaoeeoboaiknjaa", sum := "39d52df98a93dd90e37287f46771023f923356fa25acc59f27d42fdfdfcc7f6d", func := "tiltyard/tiltyardlaw08.TimerAdds", spec := "timerAdds", unfollowed := true, recurses := true, plainKeys := false, apart := false, narrowed := true }
def TimerAddsUptoSaid : Prop := timerAddsUptoRow.holds Try.pinned (OpenSpec.upto timerAddsSpec)

/-- 'tiltyardlaw08.TimerOrder', WHERE WHAT IT READS IS OF BULK AT MOST 1048576: true; the input reads as it did. -/
def timerOrderUptoRow : OpenClaim := { program := "ytaoeeoboaiknjaa", sum := "39d52df98a93dd90e37287f46771023f923356fa25acc59f27d42fdfdfcc7f6d", func := "tiltyard/tiltyardlaw08.TimerOrder", spec := "timerOrder", unfollowed := true, recurses := true, plainKeys := false, apart := false, narrowed := true }
def TimerOrderUptoSaid : Prop := timerOrderUptoRow.holds Try.pinned (OpenSpec.upto timerOrderSpec)

/-- 'tiltyardlaw08.TimerAnew', WHERE WHAT IT READS IS OF BULK AT MOST 1048576: true; the input reads as it did. -/
def timerAnewUptoRow : OpenClaim := { program := "ytaoeeoboaiknjaa", sum := "39d52df98a93dd90e37287f46771023f923356fa25acc59f27d42fdfdfcc7f6d", func := "tiltyard/tiltyardlaw08.TimerAnew", spec := "timerAnew", unfollowed := true, recurses := true, plainKeys := false, apart := false, narrowed := true }
def TimerAnewUptoSaid : Prop := timerAnewUptoRow.holds Try.pinned (OpenSpec.upto timerAnewSpec)

/-- 'tiltyardlaw08.TimerRuns', WHERE WHAT IT READS IS OF BULK AT MOST 1048576: true; the input reads as it did. -/
def timerRunsUptoRow : OpenClaim := { program := "ytaoeeoboaiknjaa", sum := "39d52df98a93dd90e37287f46771023f923356fa25acc59f27d42fdfdfcc7f6d", func := "tiltyard/tiltyardlaw08.TimerRuns", spec := "timerRuns", unfollowed := true, recurses := true, plainKeys := false, apart := false, narrowed := true }
def TimerRunsUptoSaid : Prop := timerRunsUptoRow.holds Try.pinned (OpenSpec.upto timerRunsSpec)

/-- 'tiltyardlaw08.TimerNil', WHERE WHAT IT READS IS OF BULK AT MOST 1048576: true; the input reads as it did. -/
def timerNilUptoRow : OpenClaim := { program := "ytaoeeoboaiknjaa", sum := "39d52df98a93dd90e37287f46771023f923356fa25acc59f27d42fdfdfcc7f6d", func := "tiltyard/tiltyardlaw08.TimerNil", spec := "timerNil", unfollowed := true, recurses := true, plainKeys := false, apart := false, narrowed := true }
def TimerNilUptoSaid : Prop := timerNilUptoRow.holds Try.pinned (OpenSpec.upto timerNilSpec)

end Rows
end Go.Proofs.Ytaoeeoboaiknjaa
