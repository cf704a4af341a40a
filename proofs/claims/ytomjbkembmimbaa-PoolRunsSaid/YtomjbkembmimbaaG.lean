/- One act at one instance, plainly. -/
import Derived.Test.YtomjbkembmimbaaD
set_option linter.unusedSimpArgs false
set_option linter.unusedVariables false
set_option maxHeartbeats 4000000
namespace Go.Proofs.Ytomjbkembmimbaa
open Go.Abs Go.IntWalk

/-- An act at one instance: the match that it had, the error, the instance then. -/
def doI (x : Inst) (a : Act) : Int × Int × Inst :=
  if a.d = 0 then (x.m, 0, ⟨1, 0, a.now⟩)
  else if a.d = 1 then (if x.st = 0 then (0, 24, x) else (0, 0, if x.st = 3 then x else { x with last := a.now }))
  else if a.d = 2 then (if x.st = 1 then (if okId a.m = true then (0, 0, ⟨2, a.m, x.last⟩) else (0, 14, x)) else (0, 24, x))
  else if a.d = 3 then (if x.st = 2 then (0, 0, ⟨3, x.m, a.now⟩) else (0, 24, x))
  else if a.d = 4 then (if x.st = 3 then (0, 0, ⟨4, x.m, a.now⟩) else (0, 24, x))
  else if a.d = 5 then (if x.st = 2 then (0, 0, ⟨1, 0, x.last⟩) else (0, 24, x))
  else if a.d = 6 then (if x.st = 3 ∨ x.st = 4 then (0, 0, ⟨5, 0, x.last⟩) else (0, 24, x))
  else if a.d = 7 then (if x.st = 5 then (0, 0, ⟨1, x.m, a.now⟩) else (0, 24, x))
  else (if x.st = 0 then (0, 24, x) else (x.m, 0, ⟨0, 0, x.last⟩))
theorem getA_set {P : Pl} {id i : Nat} (h : atZ P id = some i) (x : Inst) : getA (setA P i x) i = x := by
  obtain ⟨A, b, rfl, h1, _, _⟩ := at_some h
  simp [getA, setA, h1]
theorem setA_self {P : Pl} {id i : Nat} (h : atZ P id = some i) : setA P i (getA P i) = P := by
  obtain ⟨A, b, rfl, h1, _, h3⟩ := at_some h
  simp only [setA]
  have : A[i] = getA (some (A, b)) i := by simp [getA, h1]
  rw [← this, List.set_getElem_self]
theorem move_yes {P : Pl} {id i : Nat} {to : Int} {fr : List Int} (h : atZ P id = some i) (hm : (getA P i).st ∈ fr) : moveZ P id to fr = (some i, 0, setA P i { getA P i with st := to }) := by simp only [moveZ, h, if_pos hm]
theorem move_no {P : Pl} {id i : Nat} {to : Int} {fr : List Int} (h : atZ P id = some i) (hm : ¬ (getA P i).st ∈ fr) : moveZ P id to fr = (none, 24, P) := by simp only [moveZ, h, if_neg hm]
theorem setA_st {P : Pl} {id i : Nat} {s : Int} (h : atZ P id = some i) (hs : (getA P i).st = s) : setA P i { getA P i with st := s } = P := by
  rw [← hs]
  exact setA_self h
theorem do_some {P : Pl} {a : Act} {i : Nat} (h : atZ P a.id = some i) (hst : (getA P i).st ∈ [0, 1, 2, 3, 4, 5]) : doZ P a = ((doI (getA P i) a).1, (doI (getA P i) a).2.1, setA P i (doI (getA P i) a).2.2) := by
  have gs := fun x => getA_set h x
  have ss := setA_self h
  unfold doZ doI
  by_cases e0 : a.d = 0
  · simp only [e0, if_true, move_yes h hst, touchZ, bareZ, gs, setA_two]
  simp only [e0, if_false]
  by_cases e1 : a.d = 1
  · simp only [e1, if_true, beatZ, h]
    by_cases s0 : (getA P i).st = 0
    · simp only [s0, if_true, ss]
    · by_cases s3 : (getA P i).st = 3
      · simp [s3, ss]
      · simp [s0, s3]
  simp only [e1, if_false]
  by_cases e2 : a.d = 2
  · simp only [e2, if_true, holdZ]
    by_cases s1 : (getA P i).st = 1
    · rw [move_yes h (by simp [s1])]
      by_cases hk : okId a.m = true
      · simp only [hk, if_true, s1, gs, setA_two]
      · simp only [hk, if_false, s1, if_true, Bool.false_eq_true, ss, setA_st h s1]
    · rw [move_no h (by simp [s1])]
      simp only [s1, if_false, ss]
  simp only [e2, if_false]
  have three : ∀ (s to : Int), (getA P i).st = s ∨ (getA P i).st ≠ s := fun s _ => by by_cases h : (getA P i).st = s <;> simp [h]
  by_cases e3 : a.d = 3
  · simp only [e3, if_true]
    by_cases s : (getA P i).st = 2
    · rw [move_yes h (by simp [s])]; simp only [s, if_true, touchZ, gs, setA_two]
    · rw [move_no h (by simp [s])]; simp only [s, if_false, touchZ, ss]
  simp only [e3, if_false]
  by_cases e4 : a.d = 4
  · simp only [e4, if_true]
    by_cases s : (getA P i).st = 3
    · rw [move_yes h (by simp [s])]; simp only [s, if_true, touchZ, gs, setA_two]
    · rw [move_no h (by simp [s])]; simp only [s, if_false, touchZ, ss]
  simp only [e4, if_false]
  by_cases e5 : a.d = 5
  · simp only [e5, if_true]
    by_cases s : (getA P i).st = 2
    · rw [move_yes h (by simp [s])]; simp only [s, if_true, bareZ, gs, setA_two]
    · rw [move_no h (by simp [s])]; simp only [s, if_false, bareZ, ss]
  simp only [e5, if_false]
  by_cases e6 : a.d = 6
  · simp only [e6, if_true]
    by_cases s : (getA P i).st = 3 ∨ (getA P i).st = 4
    · rw [move_yes h (by simpa using s)]; simp only [s, if_true, bareZ, gs, setA_two]
    · rw [move_no h (by simpa using s)]; simp only [s, if_false, bareZ, ss]
  simp only [e6, if_false]
  by_cases e7 : a.d = 7
  · simp only [e7, if_true]
    by_cases s : (getA P i).st = 5
    · rw [move_yes h (by simp [s])]; simp only [s, if_true, touchZ, gs, setA_two]
    · rw [move_no h (by simp [s])]; simp only [s, if_false, touchZ, ss]
  simp only [e7, if_false]
  by_cases s : (getA P i).st = 0
  · rw [move_no h (by simp [s])]; simp only [s, if_true, bareZ, ss]
  · rw [move_yes h (by simp at hst ⊢; omega)]; simp only [s, if_false, bareZ, gs, setA_two]
theorem do_miss {P : Pl} {a : Act} (h : atZ P a.id = none) : doZ P a = (0, 12, P) := by
  have m : ∀ to fr, moveZ P a.id to fr = (none, 12, P) := fun to fr => by simp only [moveZ, h]
  have b : beatZ P a.id a.now = (12, P) := by simp only [beatZ, h]
  have hd : holdZ P a.id a.m = (12, P) := by simp only [holdZ, m]
  unfold doZ
  simp only [m, b, hd, touchZ, bareZ]
  repeat' split
  all_goals rfl
/-- What holds of an instance always. -/
def okI (x : Inst) : Prop := x.st ∈ ([0, 1, 2, 3, 4, 5] : List Int) ∧ (¬ (x.st = 2 ∨ x.st = 3 ∨ x.st = 4) → x.m = 0)
theorem doI_ok {x : Inst} {a : Act} (h : okI x) : okI (doI x a).2.2 := by
  obtain ⟨h1, h2⟩ := h
  simp only [List.mem_cons, List.not_mem_nil, or_false] at h1
  unfold doI okI
  simp only [List.mem_cons, List.not_mem_nil, or_false]
  repeat' split
  all_goals simp_all
/-- What is refused changes nothing. -/
theorem doI_err {x : Inst} {a : Act} (h : (doI x a).2.1 ≠ 0) : (doI x a).2.2 = x := by
  revert h
  unfold doI
  repeat' split
  all_goals simp
/-- Whoever has a match has had it, or was held for it now. -/
theorem doI_match {x : Inst} {a : Act} (h : okI x) (hs : (doI x a).2.2.st = 2 ∨ (doI x a).2.2.st = 3 ∨ (doI x a).2.2.st = 4) :
    (a.d = 2 ∧ (doI x a).2.1 = 0 ∧ (doI x a).2.2.m = a.m) ∨ (¬ (a.d = 2 ∧ (doI x a).2.1 = 0) ∧ (x.st = 2 ∨ x.st = 3 ∨ x.st = 4) ∧ (doI x a).2.2.m = x.m) := by
  revert hs
  unfold doI
  repeat' split
  all_goals simp_all
theorem doI_live {x : Inst} {a : Act} (h : (doI x a).2.2.st = 4) : x.st = 4 ∨ x.st = 3 := by
  revert h
  unfold doI
  repeat' split
  all_goals simp_all
end Go.Proofs.Ytomjbkembmimbaa
