/- A heap of timers, in plain Lean: exchanges keep its order. -/
import Derived.Test.YtaoeeoboaiknjaaAbsLv
import Derived.Test.YtaoeeoboaiknjaaGenA
set_option linter.unusedSimpArgs false
set_option linter.unusedVariables false
namespace Go.Proofs.Ytaoeeoboaiknjaa
open Go.Abs Go.IntWalk

/-- A timer: where it lies, its kind, its id, its time, the number under which it was set. -/
structure It where
  blk : Nat
  kind : Int
  id : Int
  at_ : Int
  seq : Int
def ltT (x y : It) : Prop := x.at_ < y.at_ ∨ (x.at_ = y.at_ ∧ x.seq < y.seq)
instance (x y : It) : Decidable (ltT x y) := by unfold ltT; exact inferInstance
def leT (x y : It) : Prop := x.at_ < y.at_ ∨ (x.at_ = y.at_ ∧ x.seq ≤ y.seq)
theorem leT_of_not {x y : It} (h : ¬ ltT y x) : leT x y := by unfold ltT at h; unfold leT; omega
theorem leT_of_lt {x y : It} (h : ltT x y) : leT x y := by unfold ltT at h; unfold leT; omega
theorem leT.trans {x y z : It} (a : leT x y) (b : leT y z) : leT x z := by unfold leT at *; omega
theorem leT.refl (x : It) : leT x x := by unfold leT; omega
def par (k : Nat) : Nat := (k - 1) / 2
def swapF (f : Nat → It) (i j : Nat) : Nat → It := fun k => if k = i then f j else if k = j then f i else f k
def HeapF (f : Nat → It) (n : Nat) : Prop := ∀ k, 0 < k → k < n → leT (f (par k)) (f k)
def UpI (f : Nat → It) (n j : Nat) : Prop := (∀ k, 0 < k → k < n → k ≠ j → leT (f (par k)) (f k)) ∧ ∀ k, 0 < k → k < n → par k = j → 0 < j → leT (f (par j)) (f k)
def Hole (f : Nat → It) (n i : Nat) : Prop := (∀ k, 0 < k → k < n → k ≠ i → par k ≠ i → leT (f (par k)) (f k)) ∧ ∀ k, 0 < k → k < n → par k = i → 0 < i → leT (f (par i)) (f k)
theorem swap_l (f : Nat → It) (i j : Nat) : swapF f i j i = f j := by simp [swapF]
theorem swap_r (f : Nat → It) (i j : Nat) : swapF f i j j = f i := by
  unfold swapF
  split
  · rename_i h; rw [h]
  · rw [if_pos rfl]
theorem swap_o (f : Nat → It) {i j k : Nat} (h1 : k ≠ i) (h2 : k ≠ j) : swapF f i j k = f k := by simp [swapF, h1, h2]
theorem up_step {f : Nat → It} {n j : Nat} (u : UpI f n j) (hj : j < n) (h0 : 0 < j) (l : ltT (f j) (f (par j))) : UpI (swapF f (par j) j) n (par j) := by
  obtain ⟨u1, u2⟩ := u
  have hp : par j < j := by unfold par; omega
  refine ⟨fun k k0 kn kp => ?_, fun k k0 kn kp p0 => ?_⟩
  · by_cases kj : k = j
    · subst kj
      rw [swap_l, swap_r]
      exact leT_of_lt l
    · rw [swap_o f (k := k) kp kj]
      by_cases e : par k = j
      · rw [e, swap_r]
        exact u2 k k0 kn e h0
      · by_cases e' : par k = par j
        · rw [e', swap_l]
          have := u1 k k0 kn kj
          rw [e'] at this
          exact (leT_of_lt l).trans this
        · rw [swap_o f e' e]
          exact u1 k k0 kn kj
  · have hpp : par (par j) < par j := by unfold par at *; omega
    rw [swap_o f (k := par (par j)) (by omega) (by omega)]
    have up := u1 (par j) p0 (by omega) (by omega)
    by_cases kj : k = j
    · subst kj
      rw [swap_r]
      exact up
    · have : par k < k := by unfold par; omega
      rw [swap_o f (k := k) (by omega) kj]
      have := u1 k k0 kn kj
      rw [kp] at this
      exact up.trans this
theorem up_end {f : Nat → It} {n j : Nat} (u : UpI f n j) (h : j = 0 ∨ ¬ ltT (f j) (f (par j))) : HeapF f n := by
  intro k k0 kn
  by_cases kj : k = j
  · subst kj
    rcases h with h | h
    · omega
    · exact leT_of_not h
  · exact u.1 k k0 kn kj
/-- The lesser of the children. -/
def Least (f : Nat → It) (n i j : Nat) : Prop := 0 < j ∧ j < n ∧ par j = i ∧ ∀ k, 0 < k → k < n → par k = i → leT (f j) (f k)
theorem least_one {f : Nat → It} {n i : Nat} (h : 2 * i + 1 < n) (h2 : 2 * i + 2 < n → ¬ ltT (f (2 * i + 2)) (f (2 * i + 1))) : Least f n i (2 * i + 1) := by
  refine ⟨by omega, h, by unfold par; omega, fun k k0 kn kp => ?_⟩
  have : k = 2 * i + 1 ∨ k = 2 * i + 2 := by unfold par at kp; omega
  rcases this with rfl | rfl
  · exact leT.refl _
  · exact leT_of_not (h2 kn)
theorem least_two {f : Nat → It} {n i : Nat} (h : 2 * i + 2 < n) (h2 : ltT (f (2 * i + 2)) (f (2 * i + 1))) : Least f n i (2 * i + 2) := by
  refine ⟨by omega, h, by unfold par; omega, fun k k0 kn kp => ?_⟩
  have : k = 2 * i + 1 ∨ k = 2 * i + 2 := by unfold par at kp; omega
  rcases this with rfl | rfl
  · exact leT_of_lt h2
  · exact leT.refl _
/-- One step down: the hole goes to the lesser child, which is no less than its parent now. -/
theorem down_step {f : Nat → It} {n i j : Nat} (u : Hole f n i) (m : Least f n i j) (l : ltT (f j) (f i)) : Hole (swapF f i j) n j ∧ leT (swapF f i j (par j)) (swapF f i j j) := by
  obtain ⟨u1, u2⟩ := u
  obtain ⟨m0, m1, m2, m3⟩ := m
  have hij : i < j := by rw [← m2]; unfold par; omega
  refine ⟨⟨fun k k0 kn kj kp => ?_, fun k k0 kn kp p0 => ?_⟩, ?_⟩
  · by_cases ki : k = i
    · subst ki
      have hp : par k < k := by unfold par; omega
      rw [swap_l, swap_o f (k := par k) (by omega) (by omega)]
      exact u2 j m0 m1 m2 k0
    · rw [swap_o f (k := k) ki kj]
      by_cases e : par k = i
      · rw [e, swap_l]
        exact m3 k k0 kn e
      · rw [swap_o f e kp]
        exact u1 k k0 kn ki e
  · have : par k < k := by unfold par; omega
    rw [m2, swap_l, swap_o f (k := k) (by omega) (by omega)]
    have := u1 k k0 kn (by omega) (by omega)
    rw [kp] at this
    exact this
  · rw [m2, swap_l, swap_r]
    exact leT_of_lt l
/-- Its children are no less: no hole is left but above it. -/
def Kids (f : Nat → It) (n i : Nat) : Prop := ∀ k, 0 < k → k < n → par k = i → leT (f i) (f k)
theorem kids_none {f : Nat → It} {n i : Nat} (h : ¬ 2 * i + 1 < n) : Kids f n i := fun k k0 kn kp => by unfold par at kp; omega
theorem kids_least {f : Nat → It} {n i j : Nat} (m : Least f n i j) (h : ¬ ltT (f j) (f i)) : Kids f n i := fun k k0 kn kp => (leT_of_not h).trans (m.2.2.2 k k0 kn kp)
theorem hole_up {f : Nat → It} {n i : Nat} (u : Hole f n i) (c : Kids f n i) : UpI f n i := by
  refine ⟨fun k k0 kn ki => ?_, u.2⟩
  by_cases e : par k = i
  · rw [e]; exact c k k0 kn e
  · exact u.1 k k0 kn ki e
theorem hole_heap {f : Nat → It} {n i : Nat} (u : Hole f n i) (c : Kids f n i) (h : 0 < i → i < n → leT (f (par i)) (f i)) : HeapF f n := by
  intro k k0 kn
  by_cases ki : k = i
  · subst ki; exact h k0 kn
  · by_cases e : par k = i
    · rw [e]; exact c k k0 kn e
    · exact u.1 k k0 kn ki e
/-- The last one put in the place of one. -/
theorem heap_hole {f : Nat → It} {n i : Nat} (u : HeapF f (n + 1)) (hi : i < n) : Hole (swapF f i n) n i := by
  refine ⟨fun k k0 kn ki kp => ?_, fun k k0 kn kp i0 => ?_⟩
  · have : par k < k := by unfold par; omega
    rw [swap_o f kp (by omega), swap_o f ki (by omega)]
    exact u k k0 (by omega)
  · have h1 : par k < k := by unfold par; omega
    have h2 : par i < i := by unfold par; omega
    rw [swap_o f (k := par i) (by omega) (by omega), swap_o f (k := k) (by omega) (by omega)]
    have a := u i i0 (by omega)
    have b := u k k0 (by omega)
    rw [kp] at b
    exact a.trans b
theorem heap_init {f : Nat → It} {n : Nat} (u : HeapF f (n + 1)) : HeapF f n := fun k k0 kn => u k k0 (by omega)
theorem heap_push {f : Nat → It} {n : Nat} (u : HeapF f n) : UpI f (n + 1) n := by
  refine ⟨fun k k0 kn kj => u k k0 (by omega), fun k k0 kn kp => by unfold par at kp; omega⟩
theorem heap_first {f : Nat → It} {n : Nat} (u : HeapF f n) : ∀ k, k < n → leT (f 0) (f k) := by
  intro k
  induction k using Nat.strongRecOn with
  | ind k ih =>
    intro hk
    by_cases k0 : k = 0
    · subst k0; exact leT.refl _
    · have hp : par k < k := by unfold par; omega
      exact (ih _ hp (by omega)).trans (u k (by omega) hk)
end Go.Proofs.Ytaoeeoboaiknjaa
