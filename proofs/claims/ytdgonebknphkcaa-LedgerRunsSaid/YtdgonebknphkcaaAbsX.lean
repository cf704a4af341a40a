/- Where a call starts: the old memory, read alone. -/
import Derived.Test.YtdgonebknphkcaaAbsW
set_option linter.unusedSimpArgs false
set_option linter.unusedVariables false
namespace Go.Abs
open Go.RowKit (Below)

/-- What of an old cell is known. -/
def san (B : Nat) (v : Value) : Value :=
  match lit1 v with
  | true => v
  | false => match v with
    | .pointer (some ⟨b, o, none⟩) => if b < B then v else unk
    | .slice (some ⟨b, o, s⟩) n c => if n = 0 ∧ c = 0 then .slice (some ⟨0, 0, none⟩) 0 0 else if s = none ∧ b < B ∧ n ≤ c ∧ c ≤ maxLen then v else unk
    | _ => unk
def rho0 (B : Nat) : Rho := fun i => if i < B then some ⟨i, 0, false⟩ else none
def st0 (w : World) : St := ⟨w.heap.size, fun i => match w.heap[i]? with
  | some (.cells arr _ _) => some (.cells (arr.toList.map (san w.heap.size)) false)
  | _ => none⟩
theorem san_rel (B : Nat) (v : Value) : VRel (rho0 B) (san B v) v := by
  unfold san
  split
  · rename_i h; exact .lit v h
  · split
    · rename_i b o _
      split
      · rename_i hb; exact .ptr b o ⟨b, 0, false⟩ (by simp [rho0, hb])
      · exact .unk _
    · rename_i b o s n c _
      split
      · rename_i hz
        obtain ⟨rfl, rfl⟩ := hz
        exact .empty _ _ _ fun h => absurd rfl h
      · split
        · rename_i hb
          obtain ⟨rfl, hb⟩ := hb
          exact .slice b o n c c ⟨b, 0, false⟩ (by simp [rho0, hb.1]) rfl hb.2.1 hb.2.2
        · exact .unk _
    · exact .unk _
theorem san_list (B : Nat) : ∀ l : List Value, LRel (rho0 B) (l.map (san B)) l
  | [] => .nil
  | v :: l => .cons (san_rel B v) (san_list B l)
theorem HRel.start {P : Program} {w : World} (hg : P.globals.size ≤ w.heap.size) : HRel P w.heap.size w (rho0 w.heap.size) (st0 w) w := by
  refine ⟨Below.refl _ _, rfl, hg, ?_, ?_, ?_, ?_⟩
  · intro g hgl
    exact ⟨⟨g, 0, false⟩, by simp [rho0]; omega, rfl⟩
  · intro i l hi
    unfold rho0 at hi
    split at hi
    · rename_i h; exact h
    · cases hi
  · intro i o ho
    simp only [st0] at ho
    split at ho
    · rename_i arr ty fr hb
      cases ho
      have hlt : i < w.heap.size := (Array.getElem?_eq_some_iff.1 hb).1
      refine ⟨⟨i, 0, false⟩, by simp [rho0, hlt], rfl, (fun h => by cases h), arr, ty, fr, hb, (fun h => by cases h), by simp, ?_⟩
      have : arr.toList.take ((arr.toList.map (san w.heap.size)).length) = arr.toList := by rw [List.length_map]; exact List.take_length
      rw [this]
      exact san_list _ _
    · cases ho
  · intro i j o o' li lj _ _ hi hj hown hblk
    unfold rho0 at hi
    split at hi
    · cases hi; cases hown
    · cases hi
end Go.Abs
