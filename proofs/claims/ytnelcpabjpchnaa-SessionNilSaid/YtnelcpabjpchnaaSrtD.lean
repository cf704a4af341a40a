/- The library's sort: parting at a pivot. -/
import Derived.Test.YtnelcpabjpchnaaSrtC
set_option linter.unusedSimpArgs false
set_option linter.unusedVariables false
set_option maxHeartbeats 4000000
namespace Go.Proofs.Ytnelcpabjpchnaa
open Go.Abs Go.IntWalk
attribute [local congr] bindV_weak condK_weak guardK_weak groupK_weak allocE_weak boxE_weak storeE_weak storeM_weak tabC_weak ite_weak idG_weak appendE_weak buildSliceE_weak mapUpdateE_weak deleteE_weak makeMapE_weak copyE_weak clearE_weak callE_weak

/-- Parted so far: less than the first up to i, no less behind j. -/
def PInv (f : Nat → Int) (a b i j : Nat) : Prop := a < i ∧ i ≤ j + 1 ∧ j < b ∧ (∀ k, a < k → k < i → f k < f a) ∧ ∀ k, j < k → k < b → f a ≤ f k
theorem PInv.up {f : Nat → Int} {a b i j : Nat} (h : PInv f a b i j) (hij : i ≤ j) (l : f i < f a) : PInv f a b (i + 1) j := by
  obtain ⟨h1, h2, h3, h4, h5⟩ := h
  refine ⟨by omega, by omega, h3, fun k k1 k2 => ?_, h5⟩
  by_cases e : k = i
  · subst e; exact l
  · exact h4 k k1 (by omega)
theorem PInv.dn {f : Nat → Int} {a b i j : Nat} (h : PInv f a b i j) (hij : i ≤ j) (l : ¬ f j < f a) : PInv f a b i (j - 1) := by
  obtain ⟨h1, h2, h3, h4, h5⟩ := h
  refine ⟨h1, by omega, by omega, h4, fun k k1 k2 => ?_⟩
  by_cases e : k = j
  · subst e; omega
  · exact h5 k (by omega) k2
theorem PInv.sw {f : Nat → Int} {a b i j : Nat} (h : PInv f a b i j) (hij : i ≤ j) (l1 : ¬ f i < f a) (l2 : f j < f a) : PInv (Sw f i j) a b (i + 1) (j - 1) := by
  obtain ⟨h1, h2, h3, h4, h5⟩ := h
  have ne : i ≠ j := fun e => by subst e; exact l1 l2
  have fa : Sw f i j a = f a := sw_o f (by omega) (by omega)
  refine ⟨by omega, by omega, by omega, fun k k1 k2 => ?_, fun k k1 k2 => ?_⟩
  · rw [fa]
    by_cases e : k = i
    · subst e; rw [sw_l]; exact l2
    · rw [sw_o f e (by omega)]; exact h4 k k1 (by omega)
  · rw [fa]
    by_cases e : k = j
    · subst e; rw [sw_r]; omega
    · rw [sw_o f (by omega) e]; exact h5 k (by omega) k2
/-- Parted at m. -/
def Parted (f : Nat → Int) (a b m : Nat) : Prop := a ≤ m ∧ m < b ∧ (∀ k, a ≤ k → k < m → f k ≤ f m) ∧ ∀ k, m < k → k < b → f m ≤ f k
theorem PInv.done {f : Nat → Int} {a b i j : Nat} (h : PInv f a b i j) (hij : j < i) : Parted (Sw f j a) a b j := by
  obtain ⟨h1, h2, h3, h4, h5⟩ := h
  refine ⟨by omega, h3, fun k k1 k2 => ?_, fun k k1 k2 => ?_⟩
  · rw [sw_l]
    by_cases e : k = a
    · subst e; rw [sw_r]; have := h4 j k2 (by omega); omega
    · rw [sw_o f (by omega) e]; have := h4 k (by omega) (by omega); omega
  · rw [sw_l, sw_o f (by omega) (by omega)]
    exact h5 k k1 k2
theorem i64_int {a : Nat} (h : a ≤ 1000000) : IntKind.i64.wrap (a : Int) = (a : Int) := i64_in _ (by omega)
section
variable {q N a b nn : Nat} {k : Cont} {h0 : St} {f0 : Nat → Int}
/-- The second loops: to the left. -/
theorem par_l7 {m0 : Nat} {x8 x9 : Value} {h : St} {f : Nat → Int} (hN : N ≤ 255) (hb : b ≤ N) (ha : a < N) (d : Dat q N f h) {i : Nat}
    (H : ∀ j, PInv f a b i j → (i ≤ j → f j < f a) → slices_partitionOrdered_j8 (tabC tabS1) idG nn m0 (vS q N) (.int .i64 a) x8 x9 (.int .i64 i) (.int .i64 j) h k) :
    ∀ (dd j m1 : Nat), j < i + dd → dd < m1 → PInv f a b i j → slices_partitionOrdered_l7 (tabC tabS1) idG nn m0 m1 (vS q N) (.int .i64 a) x8 x9 (.int .i64 i) (.int .i64 j) h k := by
  intro dd
  induction dd with
  | zero =>
    intro j m1 hd hm p
    obtain ⟨m1, rfl⟩ : ∃ m, m1 = m + 1 := ⟨m1 - 1, by omega⟩
    rw [slices_partitionOrdered_l7_eq]
    have e : ¬ (i : Int) ≤ j := by omega
    simp only [binV_leq, bindV_some, groupK_eq, guardK_bool, e, decide_false, Bool.false_eq_true, if_false, idG_eq, pickV_bool, condK_bool]
    exact H j p (fun h => by omega)
  | succ dd ih =>
    intro j m1 hd hm p
    obtain ⟨m1, rfl⟩ : ∃ m, m1 = m + 1 := ⟨m1 - 1, by omega⟩
    rw [slices_partitionOrdered_l7_eq]
    by_cases e : i ≤ j
    · have e' : (i : Int) ≤ j := by omega
      have jN : j < N := by have := p.2.2.1; omega
      simp only [binV_leq, bindV_some, groupK_eq, guardK_bool, e', decide_true, if_true, Dat.idx q jN, d.load jN, Dat.idx q ha, d.load ha, true_and]
      refine cLess ?_
      simp only [true_and, and_self, unV_not, bindV_some, idG_eq, e', decide_true, pickV_bool, if_true, getT, condK_bool]
      by_cases l : f j < f a
      · simp only [l, decide_true, Bool.not_true, Bool.false_eq_true, if_false]
        exact H j p (fun _ => l)
      · simp only [l, decide_false, Bool.not_false, if_true, binNil_int, binV_sub, bindV_some, i64_dn (show 0 < j by have := p.1; omega) (show j ≤ 1000000 by omega), idG_eq]
        exact ih (j - 1) m1 (by have := p.1; omega) (by omega) (p.dn e l)
    · have e' : ¬ (i : Int) ≤ j := by omega
      simp only [binV_leq, bindV_some, groupK_eq, guardK_bool, e', decide_false, Bool.false_eq_true, if_false, idG_eq, pickV_bool, condK_bool]
      exact H j p (fun h => by omega)
theorem par_l5 {m0 : Nat} {x8 x9 : Value} {h : St} {f : Nat → Int} (hN : N ≤ 255) (hb : b ≤ N) (ha : a < N) (d : Dat q N f h) {j : Nat}
    (H : ∀ i, PInv f a b i j → (i ≤ j → ¬ f i < f a) → slices_partitionOrdered_j6 (tabC tabS1) idG nn m0 (vS q N) (.int .i64 a) x8 x9 (.int .i64 i) (.int .i64 j) h k) :
    ∀ (dd i m1 : Nat), j < i + dd → dd < m1 → PInv f a b i j → slices_partitionOrdered_l5 (tabC tabS1) idG nn m0 m1 (vS q N) (.int .i64 a) x8 x9 (.int .i64 i) (.int .i64 j) h k := by
  intro dd
  induction dd with
  | zero =>
    intro i m1 hd hm p
    obtain ⟨m1, rfl⟩ : ∃ m, m1 = m + 1 := ⟨m1 - 1, by omega⟩
    rw [slices_partitionOrdered_l5_eq]
    have e : ¬ (i : Int) ≤ j := by omega
    simp only [binV_leq, bindV_some, groupK_eq, guardK_bool, e, decide_false, Bool.false_eq_true, if_false, idG_eq, pickV_bool, condK_bool]
    exact H i p (fun h => by omega)
  | succ dd ih =>
    intro i m1 hd hm p
    obtain ⟨m1, rfl⟩ : ∃ m, m1 = m + 1 := ⟨m1 - 1, by omega⟩
    rw [slices_partitionOrdered_l5_eq]
    by_cases e : i ≤ j
    · have e' : (i : Int) ≤ j := by omega
      have iN : i < N := by have := p.2.2.1; omega
      simp only [binV_leq, bindV_some, groupK_eq, guardK_bool, e', decide_true, if_true, Dat.idx q iN, d.load iN, Dat.idx q ha, d.load ha, true_and]
      refine cLess ?_
      simp only [true_and, and_self, bindV_some, idG_eq, e', decide_true, pickV_bool, if_true, getT, condK_bool]
      by_cases l : f i < f a
      · simp only [l, decide_true, if_true, binNil_int, binV_add, bindV_some, i64_up (show i ≤ 1000000 by omega), idG_eq]
        exact ih (i + 1) m1 (by omega) (by omega) (p.up e l)
      · simp only [l, decide_false, Bool.false_eq_true, if_false]
        exact H i p (fun _ => l)
    · have e' : ¬ (i : Int) ≤ j := by omega
      simp only [binV_leq, bindV_some, groupK_eq, guardK_bool, e', decide_false, Bool.false_eq_true, if_false, idG_eq, pickV_bool, condK_bool]
      exact H i p (fun h => by omega)
theorem par_l4 {x8 x9 : Value} (hN : N ≤ 255) (hab : a < b) (hb : b ≤ N)
    (H : ∀ h' f' m bb, Chg h0 h' [q] → Dat q N f' h' → SwS a b f0 f' → Parted f' a b m → k (.tuple #[.int .i64 (m : Nat), .bool bb]) h') :
    ∀ (dd i j m0 : Nat) (h : St) (f : Nat → Int), j < i + dd → 2 * b < m0 + i → dd < m0 → Chg h0 h [q] → Dat q N f h → SwS a b f0 f → PInv f a b i j →
      slices_partitionOrdered_l4 (tabC tabS1) idG nn m0 (vS q N) (.int .i64 a) x8 x9 (.int .i64 i) (.int .i64 j) h k := by
  intro dd
  induction dd using Nat.strongRecOn with
  | ind dd ih =>
    intro i j m0 h f hd hm2 hm c d s p
    obtain ⟨m0, rfl⟩ : ∃ m, m0 = m + 1 := ⟨m0 - 1, by omega⟩
    rw [slices_partitionOrdered_l4_eq]
    have ha : a < N := by omega
    have pj := p.2.2.1
    have pi := p.2.1
    simp only [idG_eq]
    refine par_l5 hN hb ha d (fun i' p' le' => ?_) (j + 1 - i) i m0 (by have := p.1; omega) (by have := p.1; omega) p
    rw [slices_partitionOrdered_j6_eq]
    simp only [idG_eq]
    refine par_l7 hN hb ha d (fun j' p2 le2 => ?_) (j + 1 - i') j m0 (by have := p'.2.1; omega) (by have := p'.1; omega) p'
    rw [slices_partitionOrdered_j8_eq]
    simp only [binV_gtr, bindV_some, condK_bool]
    have p2j := p2.2.2.1
    have jN : j' < N := by omega
    by_cases e : i' > j'
    · have e' : (i' : Int) > j' := by omega
      simp only [e', decide_true, if_true, idG_eq]
      rw [slices_partitionOrdered_j9_eq]
      simp only [Dat.idx q ha, Dat.idx q jN, bindV_some, d.load ha, d.load jN, true_and]
      refine d.store jN fun h1 c1 n1 d1 => ?_
      simp only [true_and, and_self, Dat.idx q ha, bindV_some]
      refine d1.store ha fun h2 c2 n2 d2 => ?_
      simp only [true_and, and_self]
      exact H h2 _ j' _ ((c.of_chg c1 (by simp)).of_chg c2 (by simp)) d2 (s.step j' a (by have := p2.1; have := p2.2.1; omega) (by omega)) (p2.done e)
    · have e' : ¬ (i' : Int) > j' := by omega
      have iN : i' < N := by omega
      have l2 := le2 (by omega)
      have jj : j' ≤ j := by
        rcases Nat.lt_or_ge j j' with h | h
        · have := p2.2.2.2.2
          -- j' is no greater than j: it came down from it
          have hh := p'.2.2.2.2 j' h p2j
          omega
        · exact h
      have l1 := le' (by omega)
      have ii : i ≤ i' := by
        rcases Nat.lt_or_ge i' i with h | h
        · have := p.2.2.2.1 i' (by have := p'.1; omega) h
          omega
        · exact h
      simp only [e', decide_false, Bool.false_eq_true, if_false, idG_eq, Dat.idx q iN, Dat.idx q jN, bindV_some, d.load iN, d.load jN, true_and]
      refine d.store iN fun h1 c1 n1 d1 => ?_
      simp only [true_and, and_self, Dat.idx q jN, bindV_some]
      refine d1.store jN fun h2 c2 n2 d2 => ?_
      have j0 : 0 < j' := by have := p2.1; omega
      simp only [true_and, and_self, binNil_int, binV_add, binV_sub, bindV_some, i64_up (show i' ≤ 1000000 by omega), i64_dn j0 (show j' ≤ 1000000 by omega), idG_eq]
      exact ih (j' - 1 + 1 - (i' + 1) + 0) (by omega) (i' + 1) (j' - 1) m0 h2 _ (by omega) (by omega) (by omega) ((c.of_chg c1 (by simp)).of_chg c2 (by simp)) d2 (s.step i' j' (by have := p2.1; omega) (by have := p2.1; omega)) (p2.sw (by omega) l1 l2)
theorem par_l2 {x8 x9 : Value} {h : St} {f : Nat → Int} (hN : N ≤ 255) (hb : b ≤ N) (ha : a < N) (d : Dat q N f h) {i : Nat}
    (H : ∀ j, PInv f a b i j → (i ≤ j → f j < f a) → slices_partitionOrdered_j3 (tabC tabS1) idG nn (vS q N) (.int .i64 a) x8 x9 (.int .i64 i) (.int .i64 j) h k) :
    ∀ (dd j m1 : Nat), j < i + dd → dd < m1 → PInv f a b i j → slices_partitionOrdered_l2 (tabC tabS1) idG nn m1 (vS q N) (.int .i64 a) x8 x9 (.int .i64 i) (.int .i64 j) h k := by
  intro dd
  induction dd with
  | zero =>
    intro j m1 hd hm p
    obtain ⟨m1, rfl⟩ : ∃ m, m1 = m + 1 := ⟨m1 - 1, by omega⟩
    rw [slices_partitionOrdered_l2_eq]
    have e : ¬ (i : Int) ≤ j := by omega
    simp only [binV_leq, bindV_some, groupK_eq, guardK_bool, e, decide_false, Bool.false_eq_true, if_false, idG_eq, pickV_bool, condK_bool]
    exact H j p (fun h => by omega)
  | succ dd ih =>
    intro j m1 hd hm p
    obtain ⟨m1, rfl⟩ : ∃ m, m1 = m + 1 := ⟨m1 - 1, by omega⟩
    rw [slices_partitionOrdered_l2_eq]
    by_cases e : i ≤ j
    · have e' : (i : Int) ≤ j := by omega
      have jN : j < N := by have := p.2.2.1; omega
      simp only [binV_leq, bindV_some, groupK_eq, guardK_bool, e', decide_true, if_true, Dat.idx q jN, d.load jN, Dat.idx q ha, d.load ha, true_and]
      refine cLess ?_
      simp only [true_and, and_self, unV_not, bindV_some, idG_eq, e', decide_true, pickV_bool, if_true, getT, condK_bool]
      by_cases l : f j < f a
      · simp only [l, decide_true, Bool.not_true, Bool.false_eq_true, if_false]
        exact H j p (fun _ => l)
      · simp only [l, decide_false, Bool.not_false, if_true, binNil_int, binV_sub, bindV_some, i64_dn (show 0 < j by have := p.1; omega) (show j ≤ 1000000 by omega), idG_eq]
        exact ih (j - 1) m1 (by have := p.1; omega) (by omega) (p.dn e l)
    · have e' : ¬ (i : Int) ≤ j := by omega
      simp only [binV_leq, bindV_some, groupK_eq, guardK_bool, e', decide_false, Bool.false_eq_true, if_false, idG_eq, pickV_bool, condK_bool]
      exact H j p (fun h => by omega)
theorem par_l0 {x8 x9 : Value} {h : St} {f : Nat → Int} (hN : N ≤ 255) (hb : b ≤ N) (ha : a < N) (d : Dat q N f h) {j : Nat}
    (H : ∀ i, PInv f a b i j → (i ≤ j → ¬ f i < f a) → slices_partitionOrdered_j1 (tabC tabS1) idG nn (vS q N) (.int .i64 a) x8 x9 (.int .i64 i) (.int .i64 j) h k) :
    ∀ (dd i m1 : Nat), j < i + dd → dd < m1 → PInv f a b i j → slices_partitionOrdered_l0 (tabC tabS1) idG nn m1 (vS q N) (.int .i64 a) x8 x9 (.int .i64 i) (.int .i64 j) h k := by
  intro dd
  induction dd with
  | zero =>
    intro i m1 hd hm p
    obtain ⟨m1, rfl⟩ : ∃ m, m1 = m + 1 := ⟨m1 - 1, by omega⟩
    rw [slices_partitionOrdered_l0_eq]
    have e : ¬ (i : Int) ≤ j := by omega
    simp only [binV_leq, bindV_some, groupK_eq, guardK_bool, e, decide_false, Bool.false_eq_true, if_false, idG_eq, pickV_bool, condK_bool]
    exact H i p (fun h => by omega)
  | succ dd ih =>
    intro i m1 hd hm p
    obtain ⟨m1, rfl⟩ : ∃ m, m1 = m + 1 := ⟨m1 - 1, by omega⟩
    rw [slices_partitionOrdered_l0_eq]
    by_cases e : i ≤ j
    · have e' : (i : Int) ≤ j := by omega
      have iN : i < N := by have := p.2.2.1; omega
      simp only [binV_leq, bindV_some, groupK_eq, guardK_bool, e', decide_true, if_true, Dat.idx q iN, d.load iN, Dat.idx q ha, d.load ha, true_and]
      refine cLess ?_
      simp only [true_and, and_self, bindV_some, idG_eq, e', decide_true, pickV_bool, if_true, getT, condK_bool]
      by_cases l : f i < f a
      · simp only [l, decide_true, if_true, binNil_int, binV_add, bindV_some, i64_up (show i ≤ 1000000 by omega), idG_eq]
        exact ih (i + 1) m1 (by omega) (by omega) (p.up e l)
      · simp only [l, decide_false, Bool.false_eq_true, if_false]
        exact H i p (fun _ => l)
    · have e' : ¬ (i : Int) ≤ j := by omega
      simp only [binV_leq, bindV_some, groupK_eq, guardK_bool, e', decide_false, Bool.false_eq_true, if_false, idG_eq, pickV_bool, condK_bool]
      exact H i p (fun h => by omega)
end
def parO : Abs.Spec := fun args h k => ∃ (q N a b p : Nat) (f : Nat → Int), args = [vS q N, .int .i64 a, .int .i64 b, .int .i64 p] ∧ N ≤ 255 ∧ a + 1 < b ∧ b ≤ N ∧ a ≤ p ∧ p < b ∧ Dat q N f h ∧
  ∀ h' f' m bb, Chg h h' [q] → Dat q N f' h' → SwS a b f f' → Parted f' a b m → k (.tuple #[.int .i64 (m : Nat), .bool bb]) h'
theorem parO_good : SpecGood Try.prog (68, parO) := by
  refine spec_good mixed Try.func68 (by kernel_rfl) (by kernel_rfl) (tab := tabS1) tabS1_good (keep := slices_partitionOrdered_keep) ?_
  rintro args h k ⟨q, N, a, b, p, f, rfl, hN, hab, hb, hp1, hp2, d, H⟩
  refine ⟨2 * b + 2, ?_⟩
  show slices_partitionOrdered (tabC tabS1) idG _ (vS q N) (.int .i64 a) (.int .i64 b) (.int .i64 p) h _
  rw [slices_partitionOrdered_eq]
  have ha : a < N := by omega
  have pN : p < N := by omega
  simp only [Dat.idx q ha, Dat.idx q pN, bindV_some, d.load ha, d.load pN, true_and]
  refine d.store ha fun h1 c1 n1 d1 => ?_
  simp only [true_and, and_self, Dat.idx q pN, bindV_some]
  refine d1.store pN fun h2 c2 n2 d2 => ?_
  simp only [true_and, and_self, binNil_int, binV_add, binV_sub, bindV_some, i64_up (show a ≤ 1000000 by omega), i64_dn (show 0 < b by omega) (show b ≤ 1000000 by omega), idG_eq]
  have d3 : Dat q N (Sw f a p) h2 := d2
  have s3 : SwS a b f (Sw f a p) := SwS.one f (by omega) (by omega)
  have c3 : Chg h h2 [q] := c1.of_chg c2 (by simp)
  refine par_l0 hN hb ha d3 (fun i pi le1 => ?_) (b + 1) (a + 1) _ (by omega) (by omega) ⟨by omega, by omega, by omega, fun k k1 k2 => by omega, fun k k1 k2 => by omega⟩
  rw [slices_partitionOrdered_j1_eq]
  simp only [idG_eq]
  refine par_l2 hN hb ha d3 (fun j pj le2 => ?_) (b + 1) (b - 1) _ (by have := pi.1; omega) (by omega) pi
  rw [slices_partitionOrdered_j3_eq]
  simp only [binV_gtr, bindV_some, condK_bool]
  have p2j := pj.2.2.1
  have jN : j < N := by omega
  have fin := fun h' f' m bb c d s p => (⟨h', St.le.refl _, H h' f' m bb c d s p⟩ : ∃ h2, St.le h2 h' ∧ k (.tuple #[.int .i64 (m : Nat), .bool bb]) h2)
  by_cases e : i > j
  · have e' : (i : Int) > j := by omega
    simp only [e', decide_true, if_true, Dat.idx q ha, Dat.idx q jN, bindV_some, d3.load ha, d3.load jN, true_and]
    refine d3.store jN fun h4 c4 n4 d4 => ?_
    simp only [true_and, and_self, Dat.idx q ha, bindV_some]
    refine d4.store ha fun h5 c5 n5 d5 => ?_
    simp only [true_and, and_self]
    exact fin h5 _ j _ ((c3.of_chg c4 (by simp)).of_chg c5 (by simp)) d5 (s3.step j a (by have := pj.1; have := pj.2.1; omega) (by omega)) (pj.done e)
  · have e' : ¬ (i : Int) > j := by omega
    have iN : i < N := by omega
    have j0 : 0 < j := by have := pj.1; omega
    have l1 : ¬ (Sw f a p) i < (Sw f a p) a := le1 (by omega)
    simp only [e', decide_false, Bool.false_eq_true, if_false, idG_eq, Dat.idx q iN, Dat.idx q jN, bindV_some, d3.load iN, d3.load jN, true_and]
    refine d3.store iN fun h4 c4 n4 d4 => ?_
    simp only [true_and, and_self, Dat.idx q jN, bindV_some]
    refine d4.store jN fun h5 c5 n5 d5 => ?_
    simp only [true_and, and_self, binNil_int, binV_add, binV_sub, bindV_some, i64_up (show i ≤ 1000000 by omega), i64_dn j0 (show j ≤ 1000000 by omega), idG_eq]
    exact par_l4 hN (by omega) hb fin (b + 1) (i + 1) (j - 1) _ h5 _ (by omega) (by omega) (by omega) ((c3.of_chg c4 (by simp)).of_chg c5 (by simp)) d5 (s3.step i j (by have := pj.1; omega) (by have := pj.1; omega)) (pj.sw (by omega) l1 (le2 (by omega)))
end Go.Proofs.Ytnelcpabjpchnaa
