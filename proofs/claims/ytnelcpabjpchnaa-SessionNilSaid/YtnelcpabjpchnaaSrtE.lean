/- The library's sort: those that are equal ahead; a few exchanged; patterns broken. -/
import Derived.Test.YtnelcpabjpchnaaSrtD
set_option linter.unusedSimpArgs false
set_option linter.unusedVariables false
set_option maxHeartbeats 4000000
namespace Go.Proofs.Ytnelcpabjpchnaa
open Go.Abs Go.IntWalk
attribute [local congr] bindV_weak condK_weak guardK_weak groupK_weak allocE_weak boxE_weak storeE_weak storeM_weak tabC_weak ite_weak idG_weak appendE_weak buildSliceE_weak mapUpdateE_weak deleteE_weak makeMapE_weak copyE_weak clearE_weak callE_weak

def EInv (f : Nat → Int) (a b i j : Nat) : Prop := a < i ∧ i ≤ j + 1 ∧ j < b ∧ (∀ k, a < k → k < i → f k ≤ f a) ∧ ∀ k, j < k → k < b → f a < f k
theorem EInv.up {f : Nat → Int} {a b i j : Nat} (h : EInv f a b i j) (hij : i ≤ j) (l : ¬ f a < f i) : EInv f a b (i + 1) j := by
  obtain ⟨h1, h2, h3, h4, h5⟩ := h
  refine ⟨by omega, by omega, h3, fun k k1 k2 => ?_, h5⟩
  by_cases e : k = i
  · subst e; omega
  · exact h4 k k1 (by omega)
theorem EInv.dn {f : Nat → Int} {a b i j : Nat} (h : EInv f a b i j) (hij : i ≤ j) (l : f a < f j) : EInv f a b i (j - 1) := by
  obtain ⟨h1, h2, h3, h4, h5⟩ := h
  refine ⟨h1, by omega, by omega, h4, fun k k1 k2 => ?_⟩
  by_cases e : k = j
  · subst e; exact l
  · exact h5 k (by omega) k2
theorem EInv.sw {f : Nat → Int} {a b i j : Nat} (h : EInv f a b i j) (hij : i ≤ j) (l1 : f a < f i) (l2 : ¬ f a < f j) : EInv (Sw f i j) a b (i + 1) (j - 1) := by
  obtain ⟨h1, h2, h3, h4, h5⟩ := h
  have ne : i ≠ j := fun e => by subst e; exact l2 l1
  have fa : Sw f i j a = f a := sw_o f (by omega) (by omega)
  refine ⟨by omega, by omega, by omega, fun k k1 k2 => ?_, fun k k1 k2 => ?_⟩
  · rw [fa]
    by_cases e : k = i
    · subst e; rw [sw_l]; omega
    · rw [sw_o f e (by omega)]; exact h4 k k1 (by omega)
  · rw [fa]
    by_cases e : k = j
    · subst e; rw [sw_r]; exact l1
    · rw [sw_o f (by omega) e]; exact h5 k (by omega) k2
/-- No greater than the first up to m, greater from m on. -/
def EqP (f : Nat → Int) (a b m : Nat) : Prop := a < m ∧ m ≤ b ∧ (∀ k, a ≤ k → k < m → f k ≤ f a) ∧ ∀ k, m ≤ k → k < b → f a < f k
theorem EInv.done {f : Nat → Int} {a b i j : Nat} (h : EInv f a b i j) (hij : j < i) : EqP f a b i := by
  obtain ⟨h1, h2, h3, h4, h5⟩ := h
  refine ⟨h1, by omega, fun k k1 k2 => ?_, fun k k1 k2 => h5 k (by omega) k2⟩
  by_cases e : k = a
  · subst e; exact Int.le_refl _
  · exact h4 k (by omega) k2
section
variable {q N a b nn : Nat} {k : Cont} {h0 : St} {f0 : Nat → Int}
theorem peq_l3 {m0 : Nat} {x8 : Value} {h : St} {f : Nat → Int} (hN : N ≤ 255) (hb : b ≤ N) (ha : a < N) (d : Dat q N f h) {i : Nat}
    (H : ∀ j, EInv f a b i j → (i ≤ j → ¬ f a < f j) → slices_partitionEqualOrdered_j4 (tabC tabS1) idG nn m0 (vS q N) (.int .i64 a) x8 (.int .i64 i) (.int .i64 j) h k) :
    ∀ (dd j m1 : Nat), j < i + dd → dd < m1 → EInv f a b i j → slices_partitionEqualOrdered_l3 (tabC tabS1) idG nn m0 m1 (vS q N) (.int .i64 a) x8 (.int .i64 i) (.int .i64 j) h k := by
  intro dd
  induction dd with
  | zero =>
    intro j m1 hd hm p
    obtain ⟨m1, rfl⟩ : ∃ m, m1 = m + 1 := ⟨m1 - 1, by omega⟩
    rw [slices_partitionEqualOrdered_l3_eq]
    have e : ¬ (i : Int) ≤ j := by omega
    simp only [binV_leq, bindV_some, groupK_eq, guardK_bool, e, decide_false, Bool.false_eq_true, if_false, idG_eq, pickV_bool, condK_bool]
    exact H j p (fun h => by omega)
  | succ dd ih =>
    intro j m1 hd hm p
    obtain ⟨m1, rfl⟩ : ∃ m, m1 = m + 1 := ⟨m1 - 1, by omega⟩
    rw [slices_partitionEqualOrdered_l3_eq]
    by_cases e : i ≤ j
    · have e' : (i : Int) ≤ j := by omega
      have jN : j < N := by have := p.2.2.1; omega
      simp only [binV_leq, bindV_some, groupK_eq, guardK_bool, e', decide_true, if_true, Dat.idx q jN, d.load jN, Dat.idx q ha, d.load ha, true_and]
      refine cLess ?_
      simp only [true_and, and_self, bindV_some, idG_eq, e', decide_true, pickV_bool, if_true, getT, condK_bool]
      by_cases l : f a < f j
      · simp only [l, decide_true, if_true, binNil_int, binV_sub, bindV_some, i64_dn (show 0 < j by have := p.1; omega) (show j ≤ 1000000 by omega), idG_eq]
        exact ih (j - 1) m1 (by have := p.1; omega) (by omega) (p.dn e l)
      · simp only [l, decide_false, Bool.false_eq_true, if_false]
        exact H j p (fun _ => l)
    · have e' : ¬ (i : Int) ≤ j := by omega
      simp only [binV_leq, bindV_some, groupK_eq, guardK_bool, e', decide_false, Bool.false_eq_true, if_false, idG_eq, pickV_bool, condK_bool]
      exact H j p (fun h => by omega)
theorem peq_l1 {m0 : Nat} {x8 : Value} {h : St} {f : Nat → Int} (hN : N ≤ 255) (hb : b ≤ N) (ha : a < N) (d : Dat q N f h) {j : Nat}
    (H : ∀ i, EInv f a b i j → (i ≤ j → f a < f i) → slices_partitionEqualOrdered_j2 (tabC tabS1) idG nn m0 (vS q N) (.int .i64 a) x8 (.int .i64 i) (.int .i64 j) h k) :
    ∀ (dd i m1 : Nat), j < i + dd → dd < m1 → EInv f a b i j → slices_partitionEqualOrdered_l1 (tabC tabS1) idG nn m0 m1 (vS q N) (.int .i64 a) x8 (.int .i64 i) (.int .i64 j) h k := by
  intro dd
  induction dd with
  | zero =>
    intro i m1 hd hm p
    obtain ⟨m1, rfl⟩ : ∃ m, m1 = m + 1 := ⟨m1 - 1, by omega⟩
    rw [slices_partitionEqualOrdered_l1_eq]
    have e : ¬ (i : Int) ≤ j := by omega
    simp only [binV_leq, bindV_some, groupK_eq, guardK_bool, e, decide_false, Bool.false_eq_true, if_false, idG_eq, pickV_bool, condK_bool]
    exact H i p (fun h => by omega)
  | succ dd ih =>
    intro i m1 hd hm p
    obtain ⟨m1, rfl⟩ : ∃ m, m1 = m + 1 := ⟨m1 - 1, by omega⟩
    rw [slices_partitionEqualOrdered_l1_eq]
    by_cases e : i ≤ j
    · have e' : (i : Int) ≤ j := by omega
      have iN : i < N := by have := p.2.2.1; omega
      simp only [binV_leq, bindV_some, groupK_eq, guardK_bool, e', decide_true, if_true, Dat.idx q iN, d.load iN, Dat.idx q ha, d.load ha, true_and]
      refine cLess ?_
      simp only [true_and, and_self, unV_not, bindV_some, idG_eq, e', decide_true, pickV_bool, if_true, getT, condK_bool]
      by_cases l : f a < f i
      · simp only [l, decide_true, Bool.not_true, Bool.false_eq_true, if_false]
        exact H i p (fun _ => l)
      · simp only [l, decide_false, Bool.not_false, if_true, binNil_int, binV_add, bindV_some, i64_up (show i ≤ 1000000 by omega), idG_eq]
        exact ih (i + 1) m1 (by omega) (by omega) (p.up e l)
    · have e' : ¬ (i : Int) ≤ j := by omega
      simp only [binV_leq, bindV_some, groupK_eq, guardK_bool, e', decide_false, Bool.false_eq_true, if_false, idG_eq, pickV_bool, condK_bool]
      exact H i p (fun h => by omega)
theorem peq_l0 {x8 : Value} (hN : N ≤ 255) (hab : a < b) (hb : b ≤ N)
    (H : ∀ h' f' m, Chg h0 h' [q] → Dat q N f' h' → SwS a b f0 f' → f' a = f0 a → EqP f' a b m → k (.int .i64 (m : Nat)) h') :
    ∀ (dd i j m0 : Nat) (h : St) (f : Nat → Int), j < i + dd → 2 * b < m0 + i → dd < m0 → Chg h0 h [q] → Dat q N f h → SwS a b f0 f → f a = f0 a → EInv f a b i j →
      slices_partitionEqualOrdered_l0 (tabC tabS1) idG nn m0 (vS q N) (.int .i64 a) x8 (.int .i64 i) (.int .i64 j) h k := by
  intro dd
  induction dd using Nat.strongRecOn with
  | ind dd ih =>
    intro i j m0 h f hd hm2 hm c d s fa p
    obtain ⟨m0, rfl⟩ : ∃ m, m0 = m + 1 := ⟨m0 - 1, by omega⟩
    rw [slices_partitionEqualOrdered_l0_eq]
    have ha : a < N := by omega
    have pj := p.2.2.1
    have pi := p.2.1
    simp only [idG_eq]
    refine peq_l1 hN hb ha d (fun i' p' le' => ?_) (j + 1 - i) i m0 (by omega) (by have := p.1; omega) p
    rw [slices_partitionEqualOrdered_j2_eq]
    simp only [idG_eq]
    refine peq_l3 hN hb ha d (fun j' p2 le2 => ?_) (j + 1 - i') j m0 (by have := p'.2.1; omega) (by have := p'.1; omega) p'
    rw [slices_partitionEqualOrdered_j4_eq]
    simp only [binV_gtr, bindV_some, condK_bool]
    have p2j := p2.2.2.1
    have jN : j' < N := by omega
    by_cases e : i' > j'
    · have e' : (i' : Int) > j' := by omega
      simp only [e', decide_true, if_true, idG_eq]
      rw [slices_partitionEqualOrdered_j5_eq]
      exact H h f i' c d s fa (p2.done e)
    · have e' : ¬ (i' : Int) > j' := by omega
      have iN : i' < N := by omega
      have l2 := le2 (by omega)
      have jj : j' ≤ j := by
        rcases Nat.lt_or_ge j j' with h | h
        · have hh := p'.2.2.2.2 j' h p2j
          exact absurd hh l2
        · exact h
      have l1 := le' (by omega)
      have ii : i ≤ i' := by
        rcases Nat.lt_or_ge i' i with h | h
        · have := p.2.2.2.1 i' (by have := p'.1; omega) h
          omega
        · exact h
      simp only [e', decide_false, Bool.false_eq_true, if_false, idG_eq, Dat.idx q iN, Dat.idx q jN, bindV_some, d.load iN, d.load jN, true_and]
      refine d.store iN fun h1 c1 n1 d1 => ?_
      simp only [true_and, and_self, Dat.idx q jN, bindV_some]
      refine d1.store jN fun h2 c2 n2 d2 => ?_
      have j0 : 0 < j' := by have := p2.1; omega
      simp only [true_and, and_self, binNil_int, binV_add, binV_sub, bindV_some, i64_up (show i' ≤ 1000000 by omega), i64_dn j0 (show j' ≤ 1000000 by omega), idG_eq]
      exact ih (j' - 1 + 1 - (i' + 1) + 0) (by omega) (i' + 1) (j' - 1) m0 h2 _ (by omega) (by omega) (by omega) ((c.of_chg c1 (by simp)).of_chg c2 (by simp)) d2 (s.step i' j' (by have := p2.1; omega) (by have := p2.1; omega)) (by rw [← fa]; exact sw_o f (by have := p2.1; omega) (by have := p2.1; omega)) (p2.sw (by omega) l1 l2)
end
def peqO : Abs.Spec := fun args h k => ∃ (q N a b p : Nat) (f : Nat → Int), args = [vS q N, .int .i64 a, .int .i64 b, .int .i64 p] ∧ N ≤ 255 ∧ a + 1 < b ∧ b ≤ N ∧ a ≤ p ∧ p < b ∧ Dat q N f h ∧
  ∀ h' f' m, Chg h h' [q] → Dat q N f' h' → SwS a b f f' → f' a = f p → EqP f' a b m → k (.int .i64 (m : Nat)) h'
theorem peqO_good : SpecGood Try.prog (67, peqO) := by
  refine spec_good mixed Try.func67 (by kernel_rfl) (by kernel_rfl) (tab := tabS1) tabS1_good (keep := slices_partitionEqualOrdered_keep) ?_
  rintro args h k ⟨q, N, a, b, p, f, rfl, hN, hab, hb, hp1, hp2, d, H⟩
  refine ⟨2 * b + 2, ?_⟩
  show slices_partitionEqualOrdered (tabC tabS1) idG _ (vS q N) (.int .i64 a) (.int .i64 b) (.int .i64 p) h _
  rw [slices_partitionEqualOrdered_eq]
  have ha : a < N := by omega
  have pN : p < N := by omega
  simp only [Dat.idx q ha, Dat.idx q pN, bindV_some, d.load ha, d.load pN, true_and]
  refine d.store ha fun h1 c1 n1 d1 => ?_
  simp only [true_and, and_self, Dat.idx q pN, bindV_some]
  refine d1.store pN fun h2 c2 n2 d2 => ?_
  simp only [true_and, and_self, binNil_int, binV_add, binV_sub, bindV_some, i64_up (show a ≤ 1000000 by omega), i64_dn (show 0 < b by omega) (show b ≤ 1000000 by omega), idG_eq]
  have d3 : Dat q N (Sw f a p) h2 := d2
  have s3 : SwS a b f (Sw f a p) := SwS.one f (by omega) (by omega)
  refine peq_l0 (h0 := h2) (f0 := Sw f a p) hN (by omega) hb (fun h' f' m c d s fa e => ⟨h', St.le.refl _, H h' f' m ((c1.of_chg c2 (by simp)).of_chg c (by simp)) d (s3.trans s) (by rw [fa, sw_l]) e⟩) (b + 1) (a + 1) (b - 1) _ h2 _ (by omega) (by omega) (by omega) (Chg.refl _ _) d3 (.refl _) rfl ⟨by omega, by omega, by omega, fun k k1 k2 => by omega, fun k k1 k2 => by omega⟩
/-! ### a few exchanged -/
theorem srt_up {f : Nat → Int} {a i : Nat} (h : Srt f a i) (ai : a < i) (l : f (i - 1) ≤ f i) : Srt f a (i + 1) := fun p q p1 p2 p3 => by
  by_cases e : q = i
  · subst e
    by_cases e2 : p = q - 1
    · subst e2; exact l
    · exact Int.le_trans (h p (q - 1) p1 (by omega) (by omega)) l
  · exact h p q p1 p2 (by omega)
theorem srt_out {f g : Nat → Int} {a i b : Nat} (h : Srt f a i) (s : SwS i b f g) : Srt g a i := fun p q p1 p2 p3 => by
  rw [s.out (.inl (by omega)), s.out (.inl p3)]
  exact h p q p1 p2 p3
section
variable {q N a b nn : Nat} {k : Cont} {h0 : St} {f0 : Nat → Int}
theorem pin_l6 {m0 i : Nat} {x6 x8 x9 : Value} (hN : N ≤ 255) (hb : b ≤ N)
    (H : ∀ h' f' x10, Chg h0 h' [q] → Dat q N f' h' → SwS i b f0 f' → slices_partialInsertionSortOrdered_j7 (tabC tabS1) idG nn m0 (vS q N) (.int .i64 a) (.int .i64 b) x6 (.int .i64 i) x8 x9 x10 h' k) :
    ∀ (dd j m1 : Nat) (h : St) (f : Nat → Int), b ≤ j + dd → dd < m1 → i < j → Chg h0 h [q] → Dat q N f h → SwS i b f0 f →
      slices_partialInsertionSortOrdered_l6 (tabC tabS1) idG nn m0 m1 (vS q N) (.int .i64 a) (.int .i64 b) x6 (.int .i64 i) x8 x9 (.int .i64 j) h k := by
  intro dd
  induction dd with
  | zero =>
    intro j m1 h f hd hm hij c d s
    obtain ⟨m1, rfl⟩ : ∃ m, m1 = m + 1 := ⟨m1 - 1, by omega⟩
    rw [slices_partialInsertionSortOrdered_l6_eq]
    have e : ¬ (j : Int) < b := by omega
    simp only [binV_lss, bindV_some, condK_bool, e, decide_false, Bool.false_eq_true, if_false, idG_eq]
    exact H h f _ c d s
  | succ dd ih =>
    intro j m1 h f hd hm hij c d s
    obtain ⟨m1, rfl⟩ : ∃ m, m1 = m + 1 := ⟨m1 - 1, by omega⟩
    rw [slices_partialInsertionSortOrdered_l6_eq]
    by_cases e : j < b
    · have e' : (j : Int) < b := by omega
      have jN : j < N := by omega
      have j1N : j - 1 < N := by omega
      simp only [binV_lss, bindV_some, condK_bool, e', decide_true, if_true, idG_eq, Dat.idx q jN, d.load jN, true_and, binNil_int, binV_sub, i64_dn (show 0 < j by omega) (show j ≤ 1000000 by omega), Dat.idx q j1N, d.load j1N]
      refine cLess ?_
      simp only [true_and, and_self, unV_not, bindV_some, condK_bool]
      by_cases l : f j < f (j - 1)
      · simp only [l, decide_true, Bool.not_true, Bool.false_eq_true, if_false, idG_eq, Dat.idx q jN, d.load jN, bindV_some, true_and, binNil_int, binV_sub, i64_dn (show 0 < j by omega) (show j ≤ 1000000 by omega), Dat.idx q j1N, d.load j1N]
        refine d.store jN fun h1 c1 n1 d1 => ?_
        simp only [true_and, and_self, Dat.idx q j1N, bindV_some]
        refine d1.store j1N fun h2 c2 n2 d2 => ?_
        simp only [true_and, and_self, idG_eq, binNil_int, binV_add, bindV_some, i64_up (show j ≤ 1000000 by omega)]
        exact ih (j + 1) m1 h2 _ (by omega) (by omega) (by omega) ((c.of_chg c1 (by simp)).of_chg c2 (by simp)) d2 (s.step j (j - 1) (by omega) (by omega))
      · simp only [l, decide_false, Bool.not_false, if_true, idG_eq]
        exact H h f _ c d s
    · have e' : ¬ (j : Int) < b := by omega
      simp only [binV_lss, bindV_some, condK_bool, e', decide_false, Bool.false_eq_true, if_false, idG_eq]
      exact H h f _ c d s
theorem pin_l4 {m0 i : Nat} {x6 x8 x10 : Value} (hN : N ≤ 255) (hb : b ≤ N) (hai : a < i) (hib : i ≤ b)
    (H : ∀ h' f' x9, Chg h0 h' [q] → Dat q N f' h' → SwS a b f0 f' → Srt f' a i → slices_partialInsertionSortOrdered_j5 (tabC tabS1) idG nn m0 (vS q N) (.int .i64 a) (.int .i64 b) x6 (.int .i64 i) x8 x9 x10 h' k) :
    ∀ (j m1 : Nat) (h : St) (f : Nat → Int), j < m1 → Chg h0 h [q] → Dat q N f h → SwS a b f0 f → LB f a b → Ins f a (i - 1) j →
      slices_partialInsertionSortOrdered_l4 (tabC tabS1) idG nn m0 m1 (vS q N) (.int .i64 a) (.int .i64 b) x6 (.int .i64 i) x8 (.int .i64 j) x10 h k := by
  intro j
  induction j with
  | zero =>
    intro m1 h f hm c d s lb ins
    obtain ⟨m1, rfl⟩ : ∃ m, m1 = m + 1 := ⟨m1 - 1, by omega⟩
    rw [slices_partialInsertionSortOrdered_l4_eq]
    have e : ¬ ((0 : Nat) : Int) ≥ 1 := by omega
    simp only [binNil_int, binV_geq, bindV_some, condK_bool, e, decide_false, Bool.false_eq_true, if_false, idG_eq]
    have := ins_end ins (.inl (by have := ins.1; omega))
    rw [show i - 1 + 1 = i by omega] at this
    exact H h f _ c d s this
  | succ j ih =>
    intro m1 h f hm c d s lb ins
    obtain ⟨m1, rfl⟩ : ∃ m, m1 = m + 1 := ⟨m1 - 1, by omega⟩
    rw [slices_partialInsertionSortOrdered_l4_eq]
    have e : ((j + 1 : Nat) : Int) ≥ 1 := by omega
    have jN : j + 1 < N := by have := ins.2.1; omega
    have j1N : j < N := by omega
    have dn : IntKind.i64.wrap (((j + 1 : Nat) : Int) - 1) = (j : Int) := by rw [i64_in _ (by omega)]; omega
    simp only [binNil_int, binV_geq, bindV_some, condK_bool, e, decide_true, if_true, idG_eq, Dat.idx q jN, d.load jN, true_and, binV_sub, dn, Dat.idx q j1N, d.load j1N]
    refine cLess ?_
    simp only [true_and, and_self, unV_not, bindV_some, condK_bool]
    by_cases l : f (j + 1) < f j
    · have aj : a < j + 1 := by
        rcases Nat.lt_or_ge a (j + 1) with h | h
        · exact h
        · have ea : a = j + 1 := by have := ins.1; omega
          have := lb (by omega) a (Nat.le_refl _) (by omega)
          rw [show a - 1 = j by omega, ea] at this
          omega
      simp only [l, decide_true, Bool.not_true, Bool.false_eq_true, if_false, idG_eq, Dat.idx q jN, d.load jN, bindV_some, true_and, binNil_int, binV_sub, dn, Dat.idx q j1N, d.load j1N]
      refine d.store jN fun h1 c1 n1 d1 => ?_
      simp only [true_and, and_self, Dat.idx q j1N, bindV_some]
      refine d1.store j1N fun h2 c2 n2 d2 => ?_
      simp only [true_and, and_self, idG_eq, binNil_int, binV_sub, bindV_some, dn]
      have es : upd (upd f (j + 1) (f j)) j (f (j + 1)) = Sw f j (j + 1) := by rw [sw_comm]; rfl
      rw [es] at d2
      have ji := ins.2.1
      have st : SwS a b f (Sw f j (j + 1)) := SwS.one f ⟨by omega, by omega⟩ ⟨by omega, by omega⟩
      exact ih m1 h2 _ (by omega) ((c.of_chg c1 (by simp)).of_chg c2 (by simp)) d2 (s.trans st) (lb.perm st) (ins_step ins aj l)
    · simp only [l, decide_false, Bool.not_false, if_true, idG_eq]
      have := ins_end ins (.inr (by show f j ≤ f (j + 1); omega))
      rw [show i - 1 + 1 = i by omega] at this
      exact H h f _ c d s this
theorem pin_l1 {m0 : Nat} {x6 x8 x9 x10 : Value} {h : St} {f : Nat → Int} (hN : N ≤ 255) (hb : b ≤ N) (d : Dat q N f h)
    (H : ∀ i, a < i → i ≤ b → Srt f a i → (i < b → f i < f (i - 1)) → slices_partialInsertionSortOrdered_j3 (tabC tabS1) idG nn m0 (vS q N) (.int .i64 a) (.int .i64 b) x6 (.int .i64 i) x8 x9 x10 h k) :
    ∀ (dd i m1 : Nat), b ≤ i + dd → dd < m1 → a < i → i ≤ b → Srt f a i →
      slices_partialInsertionSortOrdered_l1 (tabC tabS1) idG nn m0 m1 (vS q N) (.int .i64 a) (.int .i64 b) x6 (.int .i64 i) x8 x9 x10 h k := by
  intro dd
  induction dd with
  | zero =>
    intro i m1 hd hm hai hib s
    obtain ⟨m1, rfl⟩ : ∃ m, m1 = m + 1 := ⟨m1 - 1, by omega⟩
    rw [slices_partialInsertionSortOrdered_l1_eq]
    have e : ¬ (i : Int) < b := by omega
    simp only [binV_lss, bindV_some, groupK_eq, guardK_bool, e, decide_false, Bool.false_eq_true, if_false, idG_eq, pickV_bool, condK_bool]
    exact H i hai hib s (fun h => by omega)
  | succ dd ih =>
    intro i m1 hd hm hai hib s
    obtain ⟨m1, rfl⟩ : ∃ m, m1 = m + 1 := ⟨m1 - 1, by omega⟩
    rw [slices_partialInsertionSortOrdered_l1_eq]
    by_cases e : i < b
    · have e' : (i : Int) < b := by omega
      have iN : i < N := by omega
      have i1N : i - 1 < N := by omega
      simp only [binV_lss, bindV_some, groupK_eq, guardK_bool, e', decide_true, if_true, Dat.idx q iN, d.load iN, true_and, binNil_int, binV_sub, i64_dn (show 0 < i by omega) (show i ≤ 1000000 by omega), Dat.idx q i1N, d.load i1N]
      refine cLess ?_
      simp only [true_and, and_self, unV_not, bindV_some, idG_eq, e', decide_true, pickV_bool, if_true, getT, condK_bool]
      by_cases l : f i < f (i - 1)
      · simp only [l, decide_true, Bool.not_true, Bool.false_eq_true, if_false]
        exact H i hai hib s (fun _ => l)
      · simp only [l, decide_false, Bool.not_false, if_true, binNil_int, binV_add, bindV_some, i64_up (show i ≤ 1000000 by omega), idG_eq]
        exact ih (i + 1) m1 (by omega) (by omega) (by omega) (by omega) (srt_up s hai (by omega))
    · have e' : ¬ (i : Int) < b := by omega
      simp only [binV_lss, bindV_some, groupK_eq, guardK_bool, e', decide_false, Bool.false_eq_true, if_false, idG_eq, pickV_bool, condK_bool]
      exact H i hai hib s (fun h => by omega)
theorem pin_l0 {x6 : Value} (hN : N ≤ 255) (hab : a < b) (hb : b ≤ N)
    (H : ∀ bb h' f', Chg h0 h' [q] → Dat q N f' h' → SwS a b f0 f' → (bb = true → Srt f' a b) → k (.bool bb) h') :
    ∀ (dd t i m0 : Nat) (h : St) (f : Nat → Int) (x9 x10 : Value), 5 ≤ t + dd → t ≤ 5 → 300 + dd < m0 → a < i → i ≤ b → Chg h0 h [q] → Dat q N f h → SwS a b f0 f → LB f a b → Srt f a i →
      slices_partialInsertionSortOrdered_l0 (tabC tabS1) idG nn m0 (vS q N) (.int .i64 a) (.int .i64 b) x6 (.int .i64 i) (.int .i64 t) x9 x10 h k := by
  intro dd
  induction dd with
  | zero =>
    intro t i m0 h f x9 x10 hd ht hm hai hib c d s lb srt
    obtain ⟨m0, rfl⟩ : ∃ m, m0 = m + 1 := ⟨m0 - 1, by omega⟩
    rw [slices_partialInsertionSortOrdered_l0_eq]
    have e : ¬ (t : Int) < 5 := by omega
    simp only [binNil_int, binV_lss, bindV_some, condK_bool, e, decide_false, Bool.false_eq_true, if_false, idG_eq]
    rw [slices_partialInsertionSortOrdered_j2_eq]
    exact H false h f c d s (fun h => by cases h)
  | succ dd ih =>
    intro t i m0 h f x9 x10 hd ht hm hai hib c d s lb srt
    obtain ⟨m0, rfl⟩ : ∃ m, m0 = m + 1 := ⟨m0 - 1, by omega⟩
    rw [slices_partialInsertionSortOrdered_l0_eq]
    by_cases e : t < 5
    · have e' : (t : Int) < 5 := by omega
      simp only [binNil_int, binV_lss, bindV_some, condK_bool, e', decide_true, if_true, idG_eq]
      refine pin_l1 hN hb d (fun i hai hib srt less => ?_) (b - i) i m0 (by omega) (by omega) hai hib srt
      rw [slices_partialInsertionSortOrdered_j3_eq]
      simp only [binV_eql, bindV_some, condK_bool]
      by_cases eb : i = b
      · subst eb
        simp only [decide_true, if_true]
        exact H true h f c d s (fun _ => srt)
      · have eb' : ¬ (i : Int) = b := by omega
        simp only [eb', decide_false, Bool.false_eq_true, if_false, idG_eq, binV_sub, i64_dif (show a ≤ b by omega) (show b ≤ 1000000 by omega), bindV_some, binNil_int, binV_lss, condK_bool]
        by_cases g : ((b - a : Nat) : Int) < 50
        · simp only [g, decide_true, if_true]
          exact H false h f c d s (fun h => by cases h)
        · have ib : i < b := by omega
          have l := less ib
          have iN : i < N := by omega
          have i1N : i - 1 < N := by omega
          simp only [g, decide_false, Bool.false_eq_true, if_false, idG_eq, Dat.idx q iN, d.load iN, bindV_some, true_and, binNil_int, binV_sub, i64_dn (show 0 < i by omega) (show i ≤ 1000000 by omega), Dat.idx q i1N, d.load i1N]
          refine d.store iN fun h1 c1 n1 d1 => ?_
          simp only [true_and, and_self, Dat.idx q i1N, bindV_some]
          refine d1.store i1N fun h2 c2 n2 d2 => ?_
          have d3 : Dat q N (Sw f i (i - 1)) h2 := d2
          have st : SwS a b f (Sw f i (i - 1)) := SwS.one f (by omega) (by omega)
          have c3 := (c.of_chg c1 (by simp)).of_chg c2 (by simp)
          -- behind both shifts
          have j5 : ∀ h3 f3 x9, Chg h0 h3 [q] → Dat q N f3 h3 → SwS a b f0 f3 → Srt f3 a i → slices_partialInsertionSortOrdered_j5 (tabC tabS1) idG nn m0 (vS q N) (.int .i64 a) (.int .i64 b) x6 (.int .i64 i) (.int .i64 t) x9 x10 h3 k := by
            intro h3 f3 x9 c3 d3 s3 srt3
            have j7 : ∀ h4 f4 x10, Chg h3 h4 [q] → Dat q N f4 h4 → SwS i b f3 f4 → slices_partialInsertionSortOrdered_j7 (tabC tabS1) idG nn m0 (vS q N) (.int .i64 a) (.int .i64 b) x6 (.int .i64 i) (.int .i64 t) x9 x10 h4 k := by
              intro h4 f4 x10 c4 d4 s4
              rw [slices_partialInsertionSortOrdered_j7_eq]
              simp only [binNil_int, binV_add, bindV_some, i64_up (show t ≤ 1000000 by omega), idG_eq]
              have st4 : SwS a b f3 f4 := s4.mono (by omega) (Nat.le_refl _)
              have lb0 : LB f0 a b → LB f4 a b := fun l => l.perm (s3.trans st4)
              have lbi : LB f a b → LB f4 a b := fun l h0 k k1 k2 => by
                have o1 : f4 (a - 1) = f (a - 1) := by rw [(s3.trans st4).out (.inl (by omega)), s.out (.inl (by omega))]
                rw [o1]
                obtain ⟨j, j1, j2, e⟩ := (s3.trans st4).from k1 k2
                rw [e]
                -- f0's values are f's
                have : ∃ j', a ≤ j' ∧ j' < b ∧ f0 j = f j' := by
                  have hp : ∀ (g : Nat → Int), SwS a b f0 g → ∀ k, a ≤ k → k < b → ∃ j', a ≤ j' ∧ j' < b ∧ f0 k = g j' := by
                    intro g hg
                    induction hg with
                    | refl => exact fun k k1 k2 => ⟨k, k1, k2, rfl⟩
                    | @step g _ x y hx hy ih =>
                      intro k k1 k2
                      obtain ⟨j', a1, a2, a3⟩ := ih k k1 k2
                      by_cases e1 : j' = x
                      · subst e1; exact ⟨y, hy.1, hy.2, by rw [sw_r]; exact a3⟩
                      · by_cases e2 : j' = y
                        · subst e2; exact ⟨x, hx.1, hx.2, by rw [sw_l]; exact a3⟩
                        · exact ⟨j', a1, a2, by rw [sw_o g e1 e2]; exact a3⟩
                  exact hp f s j j1 j2
                obtain ⟨j', a1, a2, a3⟩ := this
                rw [a3]
                exact l h0 j' a1 a2
              exact ih (t + 1) i m0 h4 f4 _ _ (by omega) (by omega) (by omega) hai (by omega) (c3.of_chg c4 (by simp)) d4 (s3.trans st4) (lbi lb) (srt_out srt3 s4)
            rw [slices_partialInsertionSortOrdered_j5_eq]
            simp only [binV_sub, i64_dif (show i ≤ b by omega) (show b ≤ 1000000 by omega), bindV_some, binNil_int, binV_geq, condK_bool]
            by_cases g2 : ((b - i : Nat) : Int) ≥ 2
            · simp only [g2, decide_true, if_true, binNil_int, binV_add, bindV_some, i64_up (show i ≤ 1000000 by omega), idG_eq]
              exact pin_l6 hN hb j7 b (i + 1) m0 h3 f3 (by omega) (by omega) (by omega) (Chg.refl _ _) d3 (.refl _)
            · simp only [g2, decide_false, Bool.false_eq_true, if_false, idG_eq]
              exact j7 h3 f3 _ (Chg.refl _ _) d3 (.refl _)
          simp only [true_and, and_self, binV_sub, i64_dif (show a ≤ i by omega) (show i ≤ 1000000 by omega), bindV_some, binNil_int, binV_geq, condK_bool]
          by_cases g2 : ((i - a : Nat) : Int) ≥ 2
          · simp only [g2, decide_true, if_true, binNil_int, binV_sub, bindV_some, i64_dn (show 0 < i by omega) (show i ≤ 1000000 by omega), idG_eq]
            refine pin_l4 hN hb hai hib j5 (i - 1) m0 h2 _ (by omega) c3 d3 (s.trans st) (lb.perm st) ⟨by omega, Nat.le_refl _, fun p q' p1 p2 p3 p4 => ?_⟩
            rw [sw_o f (by omega) (by omega), sw_o f (by omega) p4]
            exact srt p q' p1 p2 (by omega)
          · simp only [g2, decide_false, Bool.false_eq_true, if_false, idG_eq]
            exact j5 h2 _ _ c3 d3 (s.trans st) (fun p q' p1 p2 p3 => by omega)
    · have e' : ¬ (t : Int) < 5 := by omega
      simp only [binNil_int, binV_lss, bindV_some, condK_bool, e', decide_false, Bool.false_eq_true, if_false, idG_eq]
      rw [slices_partialInsertionSortOrdered_j2_eq]
      exact H false h f c d s (fun h => by cases h)
end
def pinO : Abs.Spec := fun args h k => ∃ (q N a b : Nat) (f : Nat → Int), args = [vS q N, .int .i64 a, .int .i64 b] ∧ N ≤ 255 ∧ a < b ∧ b ≤ N ∧ Dat q N f h ∧ LB f a b ∧
  ∀ bb h' f', Chg h h' [q] → Dat q N f' h' → SwS a b f f' → (bb = true → Srt f' a b) → k (.bool bb) h'
theorem pinO_good : SpecGood Try.prog (65, pinO) := by
  refine spec_good mixed Try.func65 (by kernel_rfl) (by kernel_rfl) (tab := tabS1) tabS1_good (keep := slices_partialInsertionSortOrdered_keep) ?_
  rintro args h k ⟨q, N, a, b, f, rfl, hN, hab, hb, d, lb, H⟩
  refine ⟨400, ?_⟩
  show slices_partialInsertionSortOrdered (tabC tabS1) idG _ (vS q N) (.int .i64 a) (.int .i64 b) h _
  rw [slices_partialInsertionSortOrdered_eq]
  simp only [binNil_int, binV_add, bindV_some, i64_up (show a ≤ 1000000 by omega), idG_eq]
  exact pin_l0 hN hab hb (fun bb h' f' c' d' s' t' => ⟨h', St.le.refl _, H bb h' f' c' d' s' t'⟩) 5 0 (a + 1) _ h f _ _ (by omega) (by omega) (by omega) (by omega) (by omega) (Chg.refl _ _) d (.refl _) lb (fun p q' p1 p2 p3 => by omega)
end Go.Proofs.Ytnelcpabjpchnaa
