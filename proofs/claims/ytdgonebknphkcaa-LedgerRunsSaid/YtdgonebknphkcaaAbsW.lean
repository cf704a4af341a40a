/- Specs of functions, and a table of them as an oracle. -/
import Derived.Test.YtdgonebknphkcaaAbsV
set_option linter.unusedSimpArgs false
set_option linter.unusedVariables false
namespace Go.Abs
open Go.RowKit (Below)

/-- What a call is said to do: asked of the arguments and the heap, for whatever stands behind. -/
abbrev Spec := List Value → St → Cont → Prop
def SpecOk (P : Program) (g : FuncId) (S : Spec) : Prop :=
  ∀ args h k, S args h k → ∀ B w0 w ρ args', HRel P B w0 ρ h w → LRel ρ args args'.toList → Post P B w0 ρ k ((callFunc g args').run P w)
theorem run_call {P : Program} {g : FuncId} {fn : Func} (hf : P.funcs[g]? = some fn) (hn : fn.name ≠ "runtime.NumGoroutine") (hb : fn.body ≠ none) (args : Array Value) (w : World) : (callFunc g args).run P w = .ok (.enter g args) w := by
  simp [callFunc, hf, hn, hb]
def SpecLive (S : Spec) : Prop := ∀ args h k, S args h k → ∃ v h', k v h'

/-- The oracle of a table. -/
def tabC : List (FuncId × Spec) → Oracle
  | [], _, _, _, _ => False
  | (f, S) :: r, g, args, h, k => (g = f ∧ S args h k) ∨ tabC r g args h k
theorem tabC_ok {P : Program} (B : Nat) (w0 : World) : ∀ {tab : List (FuncId × Spec)}, (∀ p ∈ tab, SpecOk P p.1 p.2) → OracleOk P B w0 (tabC tab)
  | [], _, g, args, h, k, H => H.elim
  | (f, S) :: r, hs, g, args, h, k, H => by
    rcases H with ⟨rfl, H⟩ | H
    · exact fun w ρ args' => hs (g, S) (List.mem_cons_self ..) args h k H B w0 w ρ args'
    · exact tabC_ok B w0 (fun p hp => hs p (List.mem_cons_of_mem _ hp)) g args h k H
theorem tabC_live : ∀ {tab : List (FuncId × Spec)}, (∀ p ∈ tab, SpecLive p.2) → OracleLive (tabC tab)
  | [], _, g, args, h, k, H => H.elim
  | (f, S) :: r, hs, g, args, h, k, H => by
    rcases H with ⟨_, H⟩ | H
    · exact hs (f, S) (List.mem_cons_self ..) args h k H
    · exact tabC_live (fun p hp => hs p (List.mem_cons_of_mem _ hp)) g args h k H

/-- A spec holds when the body, walked abstractly, does as it says. -/
theorem specOk_of {P : Program} (hm : P.follows .mixedOrders = true) {g : FuncId} {fn : Func} (hf : P.funcs[g]? = some fn) (hn : fn.name ≠ "runtime.NumGoroutine") (hb : fn.body ≠ none) {tab : List (FuncId × Spec)} (ht : ∀ p ∈ tab, SpecOk P p.1 p.2) (hl : ∀ p ∈ tab, SpecLive p.2)
    {S : Spec} {keep : List Bool} (H : ∀ args h k, S args h k → ∃ n, funcK P (tabC tab) idG keep n fn args h fun v h1 => ∃ h2, St.le h2 h1 ∧ k v h2) : SpecOk P g S := by
  intro args h k hS B w0 w ρ args' HR HL
  obtain ⟨n, hk⟩ := H args h k hS
  rw [run_call hf hn hb]
  exact funcK_sound (tabC_ok B w0 ht) (drawOk hm (tabC_ok B w0 ht) (tabC_live hl)) hf hb HR HL hk
end Go.Abs
