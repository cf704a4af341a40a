import Derived.Test.YtlohiobliagaoaaProg
import Derived.Test.YtlohiobliagaoaaAbsA
import Derived.KernelRfl
set_option linter.unusedVariables false
set_option maxRecDepth 100000
namespace Go.Proofs.Ytlohiobliagaoaa
open Go.Abs
/- slices.Sorted[uint32] -/
def k_Sorted_keep : List Bool := [false, false, true, false, false, false, false, false, false]
def k_Sorted_mk (x2 : Value) : List Value := [unk, unk, x2, unk, unk, unk, unk, unk, unk]
def k_Sorted (C : Oracle) (G : Prop → Prop) (n : Nat) (a0 : Value) (h : St) (K : Cont) : Prop := funcK Try.prog C G k_Sorted_keep n Try.f25 [a0] h K
theorem k_Sorted_eq (C : Oracle) (G : Prop → Prop) (n : Nat) (a0 : Value) (h : St) (K : Cont) : k_Sorted C G n a0 h K = (C 41 [a0] h fun v5 h1 => C 42 [v5] h1 fun _ h2 => K v5 h2) := by kernel_rfl
/- slices.Collect[uint32] -/
def k_Collect_keep : List Bool := [false, false, true, false, false]
def k_Collect_mk (x2 : Value) : List Value := [unk, unk, x2, unk, unk]
def k_Collect (C : Oracle) (G : Prop → Prop) (n : Nat) (a0 : Value) (h : St) (K : Cont) : Prop := funcK Try.prog C G k_Collect_keep n Try.f41 [a0] h K
theorem k_Collect_eq (C : Oracle) (G : Prop → Prop) (n : Nat) (a0 : Value) (h : St) (K : Cont) : k_Collect C G n a0 h K = (C 50 [(.slice none 0 0), a0] h fun v4 h1 => K v4 h1) := by kernel_rfl
/- maps.Keys[map[uint32]tiltyard/board.mark,uint32,tiltyard/board.mark] -/
def k_Keys_keep : List Bool := [false, false, true, false]
def k_Keys_mk (x2 : Value) : List Value := [unk, unk, x2, unk]
def k_Keys (C : Oracle) (G : Prop → Prop) (n : Nat) (a0 : Value) (h : St) (K : Cont) : Prop := funcK Try.prog C G k_Keys_keep n Try.f26 [a0] h K
theorem k_Keys_eq (C : Oracle) (G : Prop → Prop) (n : Nat) (a0 : Value) (h : St) (K : Cont) : k_Keys C G n a0 h K = (boxE a0 h fun v1 h1 => K (.func (.func 43) #[] #[v1]) h1) := by kernel_rfl
end Go.Proofs.Ytlohiobliagaoaa
