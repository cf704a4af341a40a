/- The variables, as they were laid; the rows' common part. -/
import Derived.Test.YtfghmaheokgceaaGreatDoorPt
import Derived.Test.YtfghmaheokgceaaGreatDoorLo
import Derived.WalkKit
import Derived.ProofKit
import Derived.OpenShut
import Derived.ShutString
import Derived.ChangeOld
import Derived.Below
import Derived.HandedShaped
import Derived.DataShut
import Derived.LaidMore
import Derived.LaidLaws
import Derived.LaidHandle
set_option linter.unusedSimpArgs false
set_option linter.unusedVariables false
set_option maxHeartbeats 4000000
set_option maxRecDepth 100000
namespace Go.Proofs.YtfghmaheokgceaaGreatDoor
open Go.ChangeShapes Go.WideShapes Go.ChangeAt Go.RowKit

theorem own : ownKnob Tryz.prog.godebug = none := by kernel_rfl
def laidL : List (String × DataW Unit) := laidT
/-- The row's wrapping, where it says what was laid: the contract is handed the heap's shape too. -/
theorem handed_laid {H : Type} {enc : TypeId × Value → H} {a : Assume} {C : Checked} {os : Os} {f : FuncId} {fn : Func} {s : ChangeSpec} {conds : List PathCond} {apart fresh handsOn again : Bool} {X : World → Array Value → Prop}
    (hX : ∀ (w w' : World) (args : Array Value), w.heap = w'.heap → X w args → X w' args)
    (own : ownKnob C.prog.godebug = none) (started : os.Started) (noInit : C.prog.inits.idxOf? f = none) (hfn : C.prog.funcs[f]? = some fn)
    (witness : ∃ (w : World) (tape : Tape) (i : Input), w.os = os ∧ (w.forCall tape i).Shaped C.prog ∧ i.vars = [] ∧ Input.okWide C.prog (w.forCall tape i) .any w.heap.size f i ∧
      ((s.pre enc C.prog fn conds apart (w.forCall tape i).memory i.args ∧ X (w.forCall tape i).memory i.args) ∧ sizedMet enc C.prog fn (OpenSpec.ofChange s) apart (w.forCall tape i).memory i.args) ∧ a.holds C.prog (lone (Frame.enter C.prog f i.args .normal) [] (w.forCall tape i)))
    (contract : ∀ (W : World) (base : Nat) (args : Array Value) (ds gs : List (DataW H)) (before : List MemPlace),
      (∀ (j : Nat) t v, fn.params[j]? = some t → args[j]? = some v → Value.okWide C.prog W .any base t v) →
      DataW.Whole enc C.prog fn.params.toList s.vars apart W args.toList ds gs before →
      W.ShapedOpen C.prog → X W args →
      Calls C.prog f args W fun e W' => ∃ v, e = .returned v ∧ s.post enc C.prog fn apart fresh handsOn again W args v W') :
    ReturnsInHanded a C os f .any (fun w args => (s.pre enc C.prog fn conds apart w args ∧ X w args) ∧ sizedMet enc C.prog fn (OpenSpec.ofChange s) apart w args) (s.post enc C.prog fn apart fresh handsOn again) := by
  refine returnsInHanded_of_calls own started noInit witness ?_
  intro w tape i _ hsh _ hok hpre hholds
  obtain ⟨_, _, _, fn', hfn', _, _, _, _, hval⟩ := hok
  have e : fn' = fn := Option.some.inj (hfn'.symm.trans hfn)
  subst e
  obtain ⟨⟨⟨ds, gs, before, hw, hc⟩, hx⟩, hz⟩ := hpre
  have hw' := DataW.Whole.of_heap (w' := w.forCall tape i) (by rfl) hw
  refine (contract (w.forCall tape i) w.heap.size i.args ds gs before hval hw' hsh (hX _ _ _ (by rfl) hx)).mono fun e W' ⟨v, he, hp⟩ => ?_
  subst he
  exact ChangeSpec.post_blind hp
theorem door_heap (P : Program) (n : Nat) (os : Os) (args : Array Value) : (varsWorld P n (varsId P) os (fun _ _ => 0)).memory.heap = ((World.doorLaid P n os).forCall (fun _ _ => 0) ⟨#[], args, []⟩).memory.heap := rfl
theorem door_of (P : Program) (n : Nat) (l : List (String × DataW Unit)) (hp : (l.all fun x => x.2.handleName?.isNone) = true)
    (h1 : ∀ os tape, (DataW.laidRun P (varsWorld P n (varsId P) os tape).memory 8 (l.map (·.1))).map (·.1) = some l)
    (h2 : ∀ os tape, (DataW.laidRun P (varsWorld P n (varsId P) os tape).memory 8 (l.map (·.1))).map (fun x => decide x.2.Nodup && laidRowsB P (varsWorld P n (varsId P) os tape).memory x.2) = some true)
    (os : Os) (args : Array Value) : laidMetH P l ((World.doorLaid P n os).forCall (fun _ _ => 0) ⟨#[], args, []⟩).memory := by
  have h : laidMetH P l (varsWorld P n (varsId P) os (fun _ _ => 0)).memory := by
    rw [MakeChecks.laidMetH_plain _ _ _ hp]
    exact laidMet_of_run' 8 (h1 os _) (h2 os _)
  exact h.of_heap (door_heap P n os args)
/-- The door's own heap meets the condition. -/
theorem door_met (os : Os) (args : Array Value) : laidMetH Tryz.prog laidL ((World.doorLaid Tryz.prog 400 os).forCall (fun _ _ => 0) ⟨#[], args, []⟩).memory :=
  door_of Tryz.prog 400 laidT tie_p tie_1 tie_2 os args
end Go.Proofs.YtfghmaheokgceaaGreatDoor
