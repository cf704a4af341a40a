import Derived.Test.YtdgonebknphkcaaProg
import Derived.Test.YtdgonebknphkcaaAbsA
import Derived.KernelRfl
set_option linter.unusedVariables false
set_option maxRecDepth 100000
namespace Go.Proofs.Ytdgonebknphkcaa
open Go.Abs
/- slices.Sorted[uint64] -/
def k_Sorted_keep : List Bool := [false, false, true, false, false, false, false, false, false]
def k_Sorted_mk (x2 : Value) : List Value := [unk, unk, x2, unk, unk, unk, unk, unk, unk]
def k_Sorted (C : Oracle) (G : Prop → Prop) (n : Nat) (a0 : Value) (h : St) (K : Cont) : Prop := funcK Try.prog C G k_Sorted_keep n Try.f24 [a0] h K
theorem k_Sorted_eq (C : Oracle) (G : Prop → Prop) (n : Nat) (a0 : Value) (h : St) (K : Cont) : k_Sorted C G n a0 h K = (C 26 [a0] h fun v5 h1 => C 27 [v5] h1 fun _ h2 => K v5 h2) := by kernel_rfl
/- slices.Collect[uint64] -/
def k_Collect_keep : List Bool := [false, false, true, false, false]
def k_Collect_mk (x2 : Value) : List Value := [unk, unk, x2, unk, unk]
def k_Collect (C : Oracle) (G : Prop → Prop) (n : Nat) (a0 : Value) (h : St) (K : Cont) : Prop := funcK Try.prog C G k_Collect_keep n Try.f26 [a0] h K
theorem k_Collect_eq (C : Oracle) (G : Prop → Prop) (n : Nat) (a0 : Value) (h : St) (K : Cont) : k_Collect C G n a0 h K = (C 29 [(.slice none 0 0), a0] h fun v4 h1 => K v4 h1) := by kernel_rfl
/- maps.Keys[map[uint64]tiltyard/ledger.Entry,uint64,tiltyard/ledger.Entry] -/
def k_Keys_keep : List Bool := [false, false, true, false]
def k_Keys_mk (x2 : Value) : List Value := [unk, unk, x2, unk]
def k_Keys (C : Oracle) (G : Prop → Prop) (n : Nat) (a0 : Value) (h : St) (K : Cont) : Prop := funcK Try.prog C G k_Keys_keep n Try.f25 [a0] h K
theorem k_Keys_eq (C : Oracle) (G : Prop → Prop) (n : Nat) (a0 : Value) (h : St) (K : Cont) : k_Keys C G n a0 h K = (boxE a0 h fun v1 h1 => K (.func (.func 28) #[] #[v1]) h1) := by kernel_rfl
end Go.Proofs.Ytdgonebknphkcaa
