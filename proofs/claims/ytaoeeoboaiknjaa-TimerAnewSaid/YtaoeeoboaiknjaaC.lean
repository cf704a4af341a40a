/- The library's heap: up and down. -/
import Derived.Test.YtaoeeoboaiknjaaB
set_option linter.unusedSimpArgs false
set_option linter.unusedVariables false
set_option maxHeartbeats 4000000
namespace Go.Proofs.Ytaoeeoboaiknjaa
open Go.Abs Go.IntWalk
attribute [local congr] bindV_weak condK_weak guardK_weak groupK_weak allocE_weak boxE_weak storeE_weak storeM_weak tabC_weak ite_weak idG_weak appendE_weak buildSliceE_weak invokeE_weak

/-- What stands in a row. -/
def Mem (f : Nat → It) (n : Nat) (x : It) : Prop := ∃ k, k < n ∧ f k = x
theorem mem_swap {f : Nat → It} {n i j : Nat} (hi : i < n) (hj : j < n) (x : It) : Mem (swapF f i j) n x ↔ Mem f n x := by
  constructor
  · rintro ⟨k, hk, e⟩
    by_cases ki : k = i
    · subst ki; rw [swap_l] at e; exact ⟨j, hj, e⟩
    · by_cases kj : k = j
      · subst kj; rw [swap_r] at e; exact ⟨i, hi, e⟩
      · rw [swap_o f ki kj] at e; exact ⟨k, hk, e⟩
  · rintro ⟨k, hk, e⟩
    by_cases ki : k = i
    · subst ki; exact ⟨j, hj, by rw [swap_r]; exact e⟩
    · by_cases kj : k = j
      · subst kj; exact ⟨i, hi, by rw [swap_l]; exact e⟩
      · exact ⟨k, hk, by rw [swap_o f ki kj]; exact e⟩
theorem half (j : Nat) (hj : j ≤ 1000000) : binV .quo .other (.int .i64 ((j : Int) - 1)) (.int .i64 2) = some (.int .i64 ((par j : Nat) : Int)) := by
  have e : ((j : Int) - 1).tdiv 2 = ((par j : Nat) : Int) := by
    cases j with
    | zero => rfl
    | succ j =>
      rw [Int.tdiv_eq_ediv_of_nonneg (by omega)]
      unfold par
      omega
  have hp : par j ≤ j := by unfold par; omega
  simp only [binV, isShift, intV, if_true, e]
  rw [if_neg (by decide), i64_in _ (by omega)]
theorem HS.load {D : Nat → Prop} {h : St} {Q : Nat} {sv mv sq : Value} {f : Nat → It} {n : Nat} (s : HS D h Q sv mv sq f n) : loadV false 1 (ptr Q) h = some sv := by
  obtain ⟨_, _, o, _⟩ := s
  simp [ptr, o]
def tabH : List (FuncId × Abs.Spec) := [(45, lessS), (46, swapS)]
theorem tabH_good : ∀ p ∈ tabH, SpecGood Try.prog p := by simp [tabH, lessS_good, swapS_good]

theorem up_l0 {D : Nat → Prop} {Q N n nn : Nat} {sv mv sq : Value} {k : Cont} (hn : n ≤ N) (hN : N ≤ 1000000) : ∀ (j m0 : Nat) (h : St) (f : Nat → It) (x4 : Value), j < m0 → j < n → HS D h Q sv mv sq f N → UpI f n j →
    (∀ h' f', ChgP D h h' → HS D h' Q sv mv sq f' N → HeapF f' n → (∀ x, Mem f' n x ↔ Mem f n x) → (∀ i, n ≤ i → f' i = f i) → k (.tuple #[]) h') →
    heap_up_l0 (tabC tabH) idG nn m0 (.iface 68 (ptr Q)) (.int .i64 j) x4 h (fun v h1 => ∃ h2, St.le h2 h1 ∧ k v h2) := by
  intro j
  induction j using Nat.strongRecOn with
  | ind j ih =>
    intro m0 h f x4 hm hj hs u H
    obtain ⟨m0, rfl⟩ : ∃ m, m0 = m + 1 := ⟨m0 - 1, by omega⟩
    rw [heap_up_l0_eq]
    have hp : par j ≤ j := by unfold par; omega
    simp only [binNil_int, binV_sub, bindV_some, i64_in ((j : Int) - 1) (by omega), half j (by omega), binV_eql, groupK_eq, guardK_bool, idG_eq]
    by_cases j0 : j = 0
    · have e : ((par j : Nat) : Int) = (j : Int) := by subst j0; rfl
      simp only [e, decide_true, Bool.true_eq_false, if_false, pickV_bool, if_true, bindV_some, condK_bool]
      exact ⟨h, St.le.refl _, H h f (ChgP.refl _ _) hs (up_end u (.inl j0)) (fun _ => Iff.rfl) (fun _ _ => rfl)⟩
    · have hp' : par j < j := by unfold par; omega
      have e : ¬ ((par j : Nat) : Int) = (j : Int) := by omega
      simp only [e, decide_false, if_true, inv_less, hs.load, bindV_some]
      refine .inl ⟨rfl, D, Q, sv, mv, sq, f, N, j, par j, rfl, by omega, by omega, hs, ?_⟩
      simp only [unV_not, bindV_some, pickV_bool, Bool.false_eq_true, if_false, getT, condK_bool, e, decide_false, idG_eq]
      by_cases l : ltT (f j) (f (par j))
      · simp only [l, decide_true, Bool.not_true, Bool.false_eq_true, if_false, inv_swap, hs.load, bindV_some]
        refine .inr (.inl ⟨rfl, D, Q, sv, mv, sq, f, N, par j, j, rfl, by omega, by omega, by omega, hs, fun h' c hs' => ?_⟩)
        refine ih (par j) hp' m0 h' _ _ (by omega) (by omega) hs' (up_step u hj (by omega) l) fun h2 f' c2 hs2 hf2 m2 g2 => ?_
        refine H h2 f' (c.step c2) hs2 hf2 (fun x => (m2 x).trans (mem_swap (by omega) hj x)) fun i hi => ?_
        rw [g2 i hi, swap_o f (by omega) (by omega)]
      · simp only [l, decide_false, Bool.not_false, if_true]
        exact ⟨h, St.le.refl _, H h f (ChgP.refl _ _) hs (up_end u (.inr l)) (fun _ => Iff.rfl) (fun _ _ => rfl)⟩
def upS : Abs.Spec := fun args h k => ∃ (D : Nat → Prop) (Q : Nat) (sv mv sq : Value) (f : Nat → It) (N n j : Nat), args = [.iface 68 (ptr Q), .int .i64 j] ∧ j < n ∧ n ≤ N ∧ N ≤ 1000000 ∧ HS D h Q sv mv sq f N ∧ UpI f n j ∧
  ∀ h' f', ChgP D h h' → HS D h' Q sv mv sq f' N → HeapF f' n → (∀ x, Mem f' n x ↔ Mem f n x) → (∀ i, n ≤ i → f' i = f i) → k (.tuple #[]) h'
theorem upS_good : SpecGood Try.prog (26, upS) := by
  refine spec_good mixed Try.func26 (by kernel_rfl) (by kernel_rfl) (tab := tabH) tabH_good (keep := heap_up_keep) ?_
  rintro args h k ⟨D, Q, sv, mv, sq, f, N, n, j, rfl, hj, hn, hN, hs, u, H⟩
  refine ⟨j + 1, ?_⟩
  show heap_up (tabC tabH) idG (j + 1) (.iface 68 (ptr Q)) (.int .i64 j) h _
  rw [heap_up_eq]
  simp only [idG_eq]
  exact up_l0 hn hN j (j + 1) h f _ (by omega) hj hs u H

theorem down_l0 {D : Nat → Prop} {Q N n nn i0 : Nat} {sv mv sq : Value} {k : Cont} {h0 : St} {f0 : Nat → It} (hn : n ≤ N) (hN : N ≤ 1000000)
    (H : ∀ b h' f', ChgP D h0 h' → HS D h' Q sv mv sq f' N → (b = true → HeapF f' n) → (b = false → f' = f0 ∧ Kids f0 n i0) → (∀ x, Mem f' n x ↔ Mem f0 n x) → (∀ i, n ≤ i → f' i = f0 i) → k (.bool b) h') :
    ∀ (d i m0 : Nat) (h : St) (f : Nat → It) (x8 x9 : Value), n ≤ i + d → d < m0 → i < n → ChgP D h0 h → HS D h Q sv mv sq f N → Hole f n i → (i = i0 ∧ f = f0 ∨ i0 < i ∧ leT (f (par i)) (f i)) → (∀ x, Mem f n x ↔ Mem f0 n x) → (∀ i, n ≤ i → f i = f0 i) →
    heap_down_l0 (tabC tabH) idG nn m0 (.iface 68 (ptr Q)) (.int .i64 i0) (.int .i64 n) (.bool false) (.int .i64 i) x8 x9 h (fun v h1 => ∃ h2, St.le h2 h1 ∧ k v h2) := by
  intro d
  induction d with
  | zero => intro i m0 h f x8 x9 hd hm hi; omega
  | succ d ih =>
    intro i m0 h f x8 x9 hd hm hi c hs u inv mm gg
    obtain ⟨m0, rfl⟩ : ∃ m, m0 = m + 1 := ⟨m0 - 1, by omega⟩
    have fin : ∀ x8 x9, Kids f n i → heap_down_j1 (tabC tabH) idG nn (.iface 68 (ptr Q)) (.int .i64 i0) (.int .i64 n) (.bool false) (.int .i64 i) x8 x9 h (fun v h1 => ∃ h2, St.le h2 h1 ∧ k v h2) := by
      intro x8 x9 kd
      rw [heap_down_j1_eq]
      simp only [binV_gtr, bindV_some]
      refine ⟨h, St.le.refl _, H _ h f c hs (fun hb => ?_) (fun hb => ?_) mm gg⟩
      · have hb : (i : Int) > i0 := by simpa using hb
        rcases inv with ⟨e, _⟩ | ⟨_, l⟩
        · omega
        · exact hole_heap u kd fun _ _ => l
      · have hb : ¬ (i : Int) > i0 := by simpa using hb
        rcases inv with ⟨rfl, rfl⟩ | ⟨_, l⟩
        · exact ⟨rfl, kd⟩
        · omega
    have nxt : ∀ (j : Nat) (x8 : Value), Least f n i j → heap_down_j2 (tabC tabH) idG nn m0 (.iface 68 (ptr Q)) (.int .i64 i0) (.int .i64 n) (.bool false) (.int .i64 i) x8 (.int .i64 j) h (fun v h1 => ∃ h2, St.le h2 h1 ∧ k v h2) := by
      intro j x8 lj
      have hj := lj.2.1
      have hij : i < j := by have := lj.2.2.1; have := lj.1; unfold par at *; omega
      rw [heap_down_j2_eq]
      simp only [inv_less, hs.load, bindV_some]
      refine .inl ⟨rfl, D, Q, sv, mv, sq, f, N, j, i, rfl, by omega, by omega, hs, ?_⟩
      simp only [unV_not, bindV_some, condK_bool, idG_eq]
      by_cases l : ltT (f j) (f i)
      · simp only [l, decide_true, Bool.not_true, Bool.false_eq_true, if_false, inv_swap, hs.load, bindV_some]
        refine .inr (.inl ⟨rfl, D, Q, sv, mv, sq, f, N, i, j, rfl, by omega, by omega, by omega, hs, fun h' c' hs' => ?_⟩)
        obtain ⟨u', l'⟩ := down_step u lj l
        refine ih j m0 h' _ _ _ (by omega) (by omega) hj (c.step c') hs' u' (.inr ⟨?_, l'⟩) (fun x => (mem_swap hi hj x).trans (mm x)) fun m hm => ?_
        · rcases inv with ⟨e, _⟩ | ⟨e, _⟩ <;> omega
        · rw [swap_o f (by omega) (by omega)]; exact gg m hm
      · simp only [l, decide_false, Bool.not_false, if_true]
        exact fin _ _ (kids_least lj l)
    rw [heap_down_l0_eq]
    have e1 : IntKind.i64.wrap (2 * (i : Int)) = ((2 * i : Nat) : Int) := by rw [i64_in _ (by omega)]; omega
    have e2 : IntKind.i64.wrap (((2 * i : Nat) : Int) + 1) = ((2 * i + 1 : Nat) : Int) := by rw [i64_in _ (by omega)]; omega
    have e3 : IntKind.i64.wrap (((2 * i + 1 : Nat) : Int) + 1) = ((2 * i + 2 : Nat) : Int) := by rw [i64_in _ (by omega)]; omega
    have e4 : ¬ ((2 * i + 1 : Nat) : Int) < 0 := by omega
    simp only [binNil_int, binV_mul, bindV_some, e1, binV_add, e2, binV_geq, groupK_eq, guardK_bool]
    by_cases g : 2 * i + 1 < n
    · have g' : ¬ ((2 * i + 1 : Nat) : Int) ≥ n := by omega
      simp only [g', decide_false, if_true, binNil_int, binV_lss, e4, getT, idG_eq, pickV_bool, Bool.false_eq_true, if_false, bindV_some, condK_bool, binV_add, e3, groupK_eq, guardK_bool]
      by_cases g2 : 2 * i + 2 < n
      · have g2' : ((2 * i + 2 : Nat) : Int) < n := by omega
        simp only [g2', decide_true, if_true, inv_less, hs.load, bindV_some]
        refine .inl ⟨rfl, D, Q, sv, mv, sq, f, N, 2 * i + 2, 2 * i + 1, rfl, by omega, by omega, hs, ?_⟩
        simp only [pickV_bool, if_true, bindV_some, condK_bool, idG_eq, g2', decide_true, getT]
        by_cases l : ltT (f (2 * i + 2)) (f (2 * i + 1))
        · simp only [l, decide_true, if_true]
          exact nxt _ _ (least_two g2 l)
        · simp only [l, decide_false, Bool.false_eq_true, if_false]
          exact nxt _ _ (least_one g fun _ => l)
      · have g2' : ¬ ((2 * i + 2 : Nat) : Int) < n := by omega
        simp only [g2', decide_false, Bool.false_eq_true, if_false, pickV_bool, bindV_some, condK_bool, idG_eq, getT]
        exact nxt _ _ (least_one g fun h => absurd h g2)
    · have g' : ((2 * i + 1 : Nat) : Int) ≥ n := by omega
      simp only [g', decide_true, Bool.true_eq_false, if_false, pickV_bool, if_true, bindV_some, condK_bool, idG_eq]
      exact fin _ _ (kids_none g)
def downS : Abs.Spec := fun args h k => ∃ (D : Nat → Prop) (Q : Nat) (sv mv sq : Value) (f : Nat → It) (N n i : Nat), args = [.iface 68 (ptr Q), .int .i64 i, .int .i64 n] ∧ i < n ∧ n ≤ N ∧ N ≤ 1000000 ∧ HS D h Q sv mv sq f N ∧ Hole f n i ∧
  ∀ b h' f', ChgP D h h' → HS D h' Q sv mv sq f' N → (b = true → HeapF f' n) → (b = false → f' = f ∧ Kids f n i) → (∀ x, Mem f' n x ↔ Mem f n x) → (∀ i, n ≤ i → f' i = f i) → k (.bool b) h'
theorem downS_good : SpecGood Try.prog (27, downS) := by
  refine spec_good mixed Try.func27 (by kernel_rfl) (by kernel_rfl) (tab := tabH) tabH_good (keep := heap_down_keep) ?_
  rintro args h k ⟨D, Q, sv, mv, sq, f, N, n, i, rfl, hi, hn, hN, hs, u, H⟩
  refine ⟨n + 1, ?_⟩
  show heap_down (tabC tabH) idG (n + 1) (.iface 68 (ptr Q)) (.int .i64 i) (.int .i64 n) h _
  rw [heap_down_eq]
  simp only [idG_eq]
  exact down_l0 hn hN H n i (n + 1) h f _ _ (by omega) (by omega) hi (ChgP.refl _ _) hs u (.inl ⟨rfl, rfl⟩) (fun _ => Iff.rfl) (fun _ _ => rfl)
end Go.Proofs.Ytaoeeoboaiknjaa
