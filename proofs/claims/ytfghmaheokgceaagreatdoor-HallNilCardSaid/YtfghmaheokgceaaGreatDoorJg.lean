/- No function of the program starts a goroutine. -/
import Derived.Test.YtfghmaheokgceaaGreatDoorRows
import GoSem.ClaimGoes
import Derived.WalkKit
set_option maxRecDepth 100000
namespace Go.Proofs.YtfghmaheokgceaaGreatDoor
open Go
theorem goes_by {P : Program} {c : OpenClaim} (hs : c.start = .entering) (h : ∀ i : Nat, (P.funcs[i]?).any Func.goes = false) : false = c.goesBy P := by
  unfold OpenClaim.goesBy Program.goesAt Program.goesFrom
  rw [hs]
  simp only [Bool.or_false]
  cases hf : P.funcNamed c.func with
  | none => rfl
  | some f =>
    simp only [Option.any_some]
    unfold Program.goes
    have h1 : ((P.closure f).any fun g => (P.funcs[g]?).any Func.goes) = false := by
      rw [List.any_eq_false]
      intro g _
      rw [h g]
      simp
    have h2 : P.funcs.any Func.goes = false := by
      rw [Array.any_eq_false]
      intro i hi
      have := h i
      rw [Array.getElem?_eq_getElem hi] at this
      simpa using this
    rw [h1, h2]
    simp
def still (P : Program) (i : Nat) : Bool := !((P.funcs[i]?).any Func.goes)
theorem goes_size : Tryz.prog.funcs.size = 566 := by kernel_rfl
theorem goes_0 : (List.range' 0 100).all (still Tryz.prog) = true := by kernel_rfl
theorem goes_100 : (List.range' 100 100).all (still Tryz.prog) = true := by kernel_rfl
theorem goes_200 : (List.range' 200 100).all (still Tryz.prog) = true := by kernel_rfl
theorem goes_300 : (List.range' 300 100).all (still Tryz.prog) = true := by kernel_rfl
theorem goes_400 : (List.range' 400 100).all (still Tryz.prog) = true := by kernel_rfl
theorem goes_500 : (List.range' 500 66).all (still Tryz.prog) = true := by kernel_rfl
theorem goes_none (i : Nat) : (Tryz.prog.funcs[i]?).any Func.goes = false := by
  have use : ∀ a m : Nat, (List.range' a m).all (still Tryz.prog) = true → a ≤ i → i < a + m → (Tryz.prog.funcs[i]?).any Func.goes = false := fun a m h h1 h2 => by
    have := List.all_eq_true.1 h i (List.mem_range'_1.2 ⟨h1, h2⟩)
    unfold still at this
    simpa using this
  by_cases hi : i < 566
  · by_cases h0 : i < 100
    · exact use 0 100 goes_0 (by omega) (by omega)
    by_cases h1 : i < 200
    · exact use 100 100 goes_100 (by omega) (by omega)
    by_cases h2 : i < 300
    · exact use 200 100 goes_200 (by omega) (by omega)
    by_cases h3 : i < 400
    · exact use 300 100 goes_300 (by omega) (by omega)
    by_cases h4 : i < 500
    · exact use 400 100 goes_400 (by omega) (by omega)
    exact use 500 66 goes_500 (by omega) (by omega)
  · rw [Array.getElem?_eq_none (by rw [goes_size]; omega)]
    rfl
end Go.Proofs.YtfghmaheokgceaaGreatDoor
