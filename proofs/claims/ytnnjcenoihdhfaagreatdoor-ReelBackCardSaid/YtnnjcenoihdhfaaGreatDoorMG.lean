/- What the chapter's example says: the machine runs it (a new server, one connection: nothing comes in, no variable of a package is read). -/
import Derived.Test.YtnnjcenoihdhfaaGreatDoorMD
import Derived.Test.YtnnjcenoihdhfaaGreatDoorME
import Derived.Test.YtnnjcenoihdhfaaGreatDoorProg
import Derived.KernelRfl
set_option linter.unusedSimpArgs false
set_option linter.unusedVariables false
set_option maxRecDepth 100000
namespace Go.Proofs.YtnnjcenoihdhfaaGreatDoor
open Go.Abs

theorem spec_weak {P : Program} {g : FuncId} {S S' : Abs.Spec} (hs : ∀ args h k, S' args h k → S args h k) (hg : SpecGood P (g, S)) : SpecGood P (g, S') :=
  ⟨fun args h k hk => hg.1 args h k (hs args h k hk), fun args h k hk => hg.2 args h k (hs args h k hk)⟩
def noX : FuncId → Option XSpec := fun _ => none
theorem noX_ok (P : Program) : ExtOk P noX := fun g s h => by cases h
theorem awake_runs : callX Tryz.prog noX 2000 60 12 [] (heap0 Tryz.prog .e) isTrue = true := by kernel_rfl
def awakeO : Abs.Spec := fun args h k => args = [] ∧ ∀ h', k (.bool true) h'
theorem mixedY : Tryz.prog.follows .mixedOrders = true := by kernel_rfl
theorem awakeO_good : SpecGood Tryz.prog (12, awakeO) :=
  spec_weak (S := RunsTrue []) (fun args h k hk => ⟨hk.1, by simp, hk.2⟩) (run_good mixedY (noX_ok _) (fun i o h => by cases h) awake_runs)
end Go.Proofs.YtnnjcenoihdhfaaGreatDoor
