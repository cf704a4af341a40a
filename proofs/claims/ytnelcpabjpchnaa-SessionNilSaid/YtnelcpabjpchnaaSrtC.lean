/- The library's sort: by a heap; parting at a pivot. -/
import Derived.Test.YtnelcpabjpchnaaSrtB
set_option linter.unusedSimpArgs false
set_option linter.unusedVariables false
set_option maxHeartbeats 4000000
namespace Go.Proofs.Ytnelcpabjpchnaa
open Go.Abs Go.IntWalk
attribute [local congr] bindV_weak condK_weak guardK_weak groupK_weak allocE_weak boxE_weak storeE_weak storeM_weak tabC_weak ite_weak idG_weak appendE_weak buildSliceE_weak mapUpdateE_weak deleteE_weak makeMapE_weak copyE_weak clearE_weak callE_weak

theorem i64_sum {a b : Nat} (h : a + b ≤ 1000000) : IntKind.i64.wrap ((a : Int) + (b : Int)) = ((a + b : Nat) : Int) := by rw [i64_in _ (by omega)]; omega
theorem i64_dif {a b : Nat} (h : b ≤ a) (ha : a ≤ 1000000) : IntKind.i64.wrap ((a : Int) - (b : Int)) = ((a - b : Nat) : Int) := by rw [i64_in _ (by omega)]; omega
theorem i64_two {a : Nat} (h : a ≤ 400000) : IntKind.i64.wrap (2 * (a : Int)) = ((2 * a : Nat) : Int) := by rw [i64_in _ (by omega)]; omega
theorem sift_l0 {q N z hi lo nn : Nat} {k : Cont} {h0 : St} {f0 : Nat → Int} (hN : N ≤ 255) (hz : z + hi ≤ N)
    (H : ∀ h' f', Chg h0 h' [q] → Dat q N f' h' → SwS z (z + hi) f0 f' → HpF f' z hi lo → k (.tuple #[]) h') :
    ∀ (d r m0 : Nat) (h : St) (f : Nat → Int) (x9 : Value), hi ≤ r + d → d < m0 → r ≤ 255 → lo ≤ r → Chg h0 h [q] → Dat q N f h → SwS z (z + hi) f0 f → HlF f z hi lo r →
      slices_siftDownOrdered_l0 (tabC tabS1) idG nn m0 (vS q N) (.int .i64 hi) (.int .i64 z) (.int .i64 r) x9 h k := by
  intro d
  induction d with
  | zero =>
    intro r m0 h f x9 hd hm hr hlo c dd s hl
    obtain ⟨m0, rfl⟩ : ∃ m, m0 = m + 1 := ⟨m0 - 1, by omega⟩
    rw [slices_siftDownOrdered_l0_eq]
    have g : ((2 * r + 1 : Nat) : Int) ≥ (hi : Int) := by omega
    simp only [binNil_int, binV_mul, bindV_some, i64_two (show r ≤ 400000 by omega), binV_add, i64_up (show 2 * r ≤ 1000000 by omega), binV_geq, g, decide_true, condK_bool, if_true]
    exact H h f c dd s (hl_end hl fun k k0 k1 k2 => by unfold parN at k2; omega)
  | succ d ih =>
    intro r m0 h f x9 hd hm hr hlo c dd s hl
    obtain ⟨m0, rfl⟩ : ∃ m, m0 = m + 1 := ⟨m0 - 1, by omega⟩
    rw [slices_siftDownOrdered_l0_eq]
    simp only [binNil_int, binV_mul, bindV_some, i64_two (show r ≤ 400000 by omega), binV_add, i64_up (show 2 * r ≤ 1000000 by omega), binV_geq, condK_bool]
    by_cases g : hi ≤ 2 * r + 1
    · have g' : ((2 * r + 1 : Nat) : Int) ≥ (hi : Int) := by omega
      simp only [g', decide_true, if_true]
      exact H h f c dd s (hl_end hl fun k k0 k1 k2 => by unfold parN at k2; omega)
    · have g' : ¬ ((2 * r + 1 : Nat) : Int) ≥ (hi : Int) := by omega
      -- the greater child
      have nxt : ∀ ch x8, 0 < ch → ch < hi → parN ch = r → (∀ k, 0 < k → k < hi → parN k = r → f (z + k) ≤ f (z + ch)) → x8 = Value.int .i64 (r : Int) → slices_siftDownOrdered_j1 (tabC tabS1) idG nn m0 (vS q N) (.int .i64 hi) (.int .i64 z) x8 (.int .i64 (ch : Int)) h k := by
        rintro ch x8 c0 c1 c2 big rfl
        have rc : r < ch := by rw [← c2]; unfold parN; omega
        have rN : z + r < N := by omega
        have cN : z + ch < N := by omega
        rw [slices_siftDownOrdered_j1_eq]
        simp only [binV_add, i64_sum (show z + r ≤ 1000000 by omega), i64_sum (show z + ch ≤ 1000000 by omega), Dat.idx q rN, Dat.idx q cN, bindV_some, dd.load rN, dd.load cN, true_and]
        refine cLess ?_
        simp only [true_and, and_self, unV_not, bindV_some, condK_bool]
        by_cases l : f (z + r) < f (z + ch)
        · simp only [l, decide_true, Bool.not_true, Bool.false_eq_true, if_false, idG_eq, binV_add, i64_sum (show z + r ≤ 1000000 by omega), i64_sum (show z + ch ≤ 1000000 by omega), Dat.idx q rN, Dat.idx q cN, bindV_some, dd.load rN, dd.load cN, true_and]
          refine dd.store rN fun h1 c1' n1 d1 => ?_
          simp only [true_and, and_self, Dat.idx q cN, bindV_some]
          refine d1.store cN fun h2 c2' n2 d2 => ?_
          simp only [true_and, and_self, idG_eq]
          exact ih ch m0 h2 _ _ (by omega) (by omega) (by omega) (by omega) ((c.of_chg c1' (by simp)).of_chg c2' (by simp)) d2 (s.step (z + r) (z + ch) (by omega) (by omega)) (hl_step hl hlo c0 c1 c2 big l)
        · simp only [l, decide_false, Bool.not_false, if_true]
          exact H h f c dd s (hl_end hl fun k k0 k1 k2 => Int.le_trans (big k k0 k1 k2) (by omega))
      have kids : ∀ k, 0 < k → parN k = r → k = 2 * r + 1 ∨ k = 2 * r + 2 := fun k k0 k1 => by unfold parN at k1; omega
      have p1 : parN (2 * r + 1) = r := by unfold parN; omega
      have p2 : parN (2 * r + 2) = r := by unfold parN; omega
      simp only [g', decide_false, Bool.false_eq_true, if_false, idG_eq, binNil_int, binV_add, i64_up (show 2 * r + 1 ≤ 1000000 by omega), bindV_some, binV_lss, groupK_eq, guardK_bool]
      by_cases g2 : 2 * r + 2 < hi
      · have g2' : ((2 * r + 1 + 1 : Nat) : Int) < (hi : Int) := by omega
        have aN : z + (2 * r + 1) < N := by omega
        have bN : z + (2 * r + 1) + 1 < N := by omega
        simp only [g2', decide_true, if_true, binV_add, i64_sum (show z + (2 * r + 1) ≤ 1000000 by omega), bindV_some, Dat.idx q aN, dd.load aN, true_and, binNil_int, i64_up (show z + (2 * r + 1) ≤ 1000000 by omega), Dat.idx q bN, dd.load bN]
        refine cLess ?_
        simp only [true_and, and_self, idG_eq, g2', decide_true, pickV_bool, if_true, bindV_some, getT, condK_bool]
        by_cases l : f (z + (2 * r + 1)) < f (z + (2 * r + 1) + 1)
        · simp only [l, decide_true, if_true, binNil_int, binV_add, i64_up (show 2 * r + 1 ≤ 1000000 by omega), bindV_some, idG_eq]
          refine nxt (2 * r + 1 + 1) _ (by omega) (by omega) p2 (fun k k0 k1 k2 => ?_) rfl
          rcases kids k k0 k2 with rfl | rfl
          · have : z + (2 * r + 1) + 1 = z + (2 * r + 1 + 1) := by omega
            rw [this] at l; omega
          · exact Int.le_refl _
        · simp only [l, decide_false, Bool.false_eq_true, if_false, idG_eq]
          refine nxt (2 * r + 1) _ (by omega) (by omega) p1 (fun k k0 k1 k2 => ?_) rfl
          rcases kids k k0 k2 with rfl | rfl
          · exact Int.le_refl _
          · have : z + (2 * r + 1) + 1 = z + (2 * r + 2) := by omega
            rw [this] at l; omega
      · have g2' : ¬ ((2 * r + 1 + 1 : Nat) : Int) < (hi : Int) := by omega
        simp only [g2', decide_false, Bool.false_eq_true, if_false, pickV_bool, bindV_some, condK_bool, idG_eq]
        refine nxt (2 * r + 1) _ (by omega) (by omega) p1 (fun k k0 k1 k2 => ?_) rfl
        rcases kids k k0 k2 with rfl | rfl
        · exact Int.le_refl _
        · omega
def siftO : Abs.Spec := fun args h k => ∃ (q N lo hi z : Nat) (f : Nat → Int), args = [vS q N, .int .i64 lo, .int .i64 hi, .int .i64 z] ∧ N ≤ 255 ∧ lo ≤ 255 ∧ z + hi ≤ N ∧ Dat q N f h ∧ HpF f z hi (lo + 1) ∧
  ∀ h' f', Chg h h' [q] → Dat q N f' h' → SwS z (z + hi) f f' → HpF f' z hi lo → k (.tuple #[]) h'
theorem siftO_good : SpecGood Try.prog (76, siftO) := by
  refine spec_good mixed Try.func76 (by kernel_rfl) (by kernel_rfl) (tab := tabS1) tabS1_good (keep := slices_siftDownOrdered_keep) ?_
  rintro args h k ⟨q, N, lo, hi, z, f, rfl, hN, hlo, hz, d, hp, H⟩
  refine ⟨hi + 1, ?_⟩
  show slices_siftDownOrdered (tabC tabS1) idG _ (vS q N) (.int .i64 lo) (.int .i64 hi) (.int .i64 z) h _
  rw [slices_siftDownOrdered_eq]
  simp only [idG_eq]
  exact sift_l0 hN hz (fun h' f' c' d' s' t' => ⟨h', St.le.refl _, H h' f' c' d' s' t'⟩) hi lo _ h f _ (by omega) (by omega) hlo (Nat.le_refl _) (Chg.refl _ _) d (.refl _) (hl_start hp)
def tabHp : List (FuncId × Abs.Spec) := [(76, siftO)]
theorem tabHp_good : ∀ p ∈ tabHp, SpecGood Try.prog p := by simp [tabHp, siftO_good]
theorem heap_l2 {q N a b nn : Nat} {x9 : Value} {k : Cont} {h0 : St} {f0 : Nat → Int} (hN : N ≤ 255) (hab : a < b) (hb : b ≤ N)
    (H : ∀ h' f', Chg h0 h' [q] → Dat q N f' h' → SwS a b f0 f' → Srt f' a b → k (.tuple #[]) h') :
    ∀ (i m0 : Nat) (h : St) (f : Nat → Int), i < m0 → a + i ≤ b → Chg h0 h [q] → Dat q N f h → SwS a b f0 f → HpF f a i 0 → Ord f a b a (a + i) →
      slices_heapSortOrdered_l2 (tabC tabHp) idG nn m0 (vS q N) (.int .i64 a) (.int .i64 0) (.int .i64 ((b - a : Nat) : Int)) x9 (.int .i64 ((i : Int) - 1)) h k := by
  intro i
  induction i with
  | zero =>
    intro m0 h f hm hib c d s hp od
    obtain ⟨m0, rfl⟩ : ∃ m, m0 = m + 1 := ⟨m0 - 1, by omega⟩
    rw [slices_heapSortOrdered_l2_eq]
    have g : ¬ (((0 : Nat) : Int) - 1) ≥ 0 := by omega
    simp only [binNil_int, binV_geq, bindV_some, condK_bool, g, decide_false, Bool.false_eq_true, if_false]
    exact H h f c d s (od.done fun p q' p1 p2 p3 => by omega)
  | succ i ih =>
    intro m0 h f hm hib c d s hp od
    obtain ⟨m0, rfl⟩ : ∃ m, m0 = m + 1 := ⟨m0 - 1, by omega⟩
    rw [slices_heapSortOrdered_l2_eq]
    have e1 : (((i + 1 : Nat) : Int) - 1) = (i : Int) := by omega
    have g : (i : Int) ≥ 0 := by omega
    have aN : a < N := by omega
    have iN : a + i < N := by omega
    rw [e1]
    simp only [binNil_int, binV_geq, bindV_some, condK_bool, g, decide_true, if_true, idG_eq, binV_add, i64_sum (show a + i ≤ 1000000 by omega), Dat.idx q aN, Dat.idx q iN, d.load aN, d.load iN, true_and]
    refine d.store aN fun h1 c1 n1 d1 => ?_
    simp only [true_and, and_self, Dat.idx q iN, bindV_some]
    refine d1.store iN fun h2 c2 n2 d2 => ?_
    simp only [true_and, and_self]
    have sw : SwS a (a + (i + 1)) f (Sw f a (a + i)) := SwS.one f (by omega) (by omega)
    have od2 : Ord (Sw f a (a + i)) a b a (a + i) := (od.perm sw).back (by omega) fun p q' p1 p2 p3 p4 => by
      have : q' = a + i := by omega
      subst this
      rw [sw_r]
      exact sw.all (P := fun x => x ≤ f a) (fun k k1 k2 => by
        have := hp_max hp (k - a) (by omega)
        rwa [show a + (k - a) = k by omega] at this) p p1 (by omega)
    have i0 : (0 : Int) = ((0 : Nat) : Int) := rfl
    refine .inl ⟨rfl, q, N, 0, i, a, Sw f a (a + i), rfl, hN, by omega, by omega, d2, hp_pop hp, fun h3 f3 c3 d3 s3 hp3 => ?_⟩
    simp only [idG_eq, binNil_int, binV_sub, bindV_some]
    have w : IntKind.i64.wrap ((i : Int) - 1) = (i : Int) - 1 := i64_in _ (by omega)
    rw [w]
    exact ih m0 h3 f3 (by omega) (by omega) (((c.of_chg c1 (by simp)).of_chg c2 (by simp)).of_chg c3 (by simp)) d3 ((s.trans (sw.mono (by omega) (by omega))).trans (s3.mono (by omega) (by omega))) hp3 (od2.perm s3)
theorem heap_l0' {q N a b nn : Nat} {x10 : Value} {k : Cont} {h0 : St} {f0 : Nat → Int} (hN : N ≤ 255) (hab : a < b) (hb : b ≤ N) (hnn : b < nn)
    (H : ∀ h' f', Chg h0 h' [q] → Dat q N f' h' → SwS a b f0 f' → Srt f' a b → k (.tuple #[]) h') :
    ∀ (i m0 : Nat) (h : St) (f : Nat → Int), i < m0 → i ≤ 255 → Chg h0 h [q] → Dat q N f h → SwS a b f0 f → HpF f a (b - a) i →
      slices_heapSortOrdered_l0 (tabC tabHp) idG nn m0 (vS q N) (.int .i64 a) (.int .i64 0) (.int .i64 ((b - a : Nat) : Int)) (.int .i64 ((i : Int) - 1)) x10 h k := by
  intro i
  induction i with
  | zero =>
    intro m0 h f hm hi c d s hp
    obtain ⟨m0, rfl⟩ : ∃ m, m0 = m + 1 := ⟨m0 - 1, by omega⟩
    rw [slices_heapSortOrdered_l0_eq]
    have g : ¬ (((0 : Nat) : Int) - 1) ≥ 0 := by omega
    simp only [binNil_int, binV_geq, bindV_some, condK_bool, g, decide_false, Bool.false_eq_true, if_false, idG_eq]
    rw [slices_heapSortOrdered_j1_eq]
    have w : IntKind.i64.wrap (((b - a : Nat) : Int) - 1) = ((b - a : Nat) : Int) - 1 := i64_in _ (by omega)
    simp only [binNil_int, binV_sub, bindV_some, w, idG_eq]
    refine heap_l2 hN hab hb H (b - a) nn h f (by omega) (by omega) c d s hp ?_
    rw [show a + (b - a) = b by omega]
    exact ord_start f (by omega)
  | succ i ih =>
    intro m0 h f hm hi c d s hp
    obtain ⟨m0, rfl⟩ : ∃ m, m0 = m + 1 := ⟨m0 - 1, by omega⟩
    rw [slices_heapSortOrdered_l0_eq]
    have e1 : (((i + 1 : Nat) : Int) - 1) = (i : Int) := by omega
    have g : (i : Int) ≥ 0 := by omega
    rw [e1]
    simp only [binNil_int, binV_geq, bindV_some, condK_bool, g, decide_true, if_true, idG_eq]
    refine .inl ⟨rfl, q, N, i, b - a, a, f, rfl, hN, by omega, by omega, d, hp, fun h3 f3 c3 d3 s3 hp3 => ?_⟩
    have w : IntKind.i64.wrap ((i : Int) - 1) = (i : Int) - 1 := i64_in _ (by omega)
    simp only [idG_eq, binNil_int, binV_sub, bindV_some, w]
    exact ih m0 h3 f3 (by omega) (by omega) (c.of_chg c3 (by simp)) d3 (s.trans (s3.mono (by omega) (by omega))) hp3
def heapO : Abs.Spec := fun args h k => ∃ (q N a b : Nat) (f : Nat → Int), args = [vS q N, .int .i64 a, .int .i64 b] ∧ N ≤ 255 ∧ a < b ∧ b ≤ N ∧ Dat q N f h ∧
  ∀ h' f', Chg h h' [q] → Dat q N f' h' → SwS a b f f' → Srt f' a b → k (.tuple #[]) h'
theorem heapO_good : SpecGood Try.prog (61, heapO) := by
  refine spec_good mixed Try.func61 (by kernel_rfl) (by kernel_rfl) (tab := tabHp) tabHp_good (keep := slices_heapSortOrdered_keep) ?_
  rintro args h k ⟨q, N, a, b, f, rfl, hN, hab, hb, d, H⟩
  refine ⟨b + 300, ?_⟩
  show slices_heapSortOrdered (tabC tabHp) idG _ (vS q N) (.int .i64 a) (.int .i64 b) h _
  rw [slices_heapSortOrdered_eq]
  obtain ⟨l, hl⟩ : ∃ l, l = (b - a - 1) / 2 := ⟨_, rfl⟩
  have q2 : binV .quo .other (.int .i64 ((b - a - 1 : Nat) : Int)) (.int .i64 2) = some (.int .i64 (((l + 1 : Nat) : Int) - 1)) := by
    rw [show (((l + 1 : Nat) : Int) - 1) = ((l : Nat) : Int) by omega, hl]
    exact quo_nat (b := 2) (by omega) (by omega)
  simp only [binV_sub, i64_dif (show a ≤ b by omega) (show b ≤ 1000000 by omega), bindV_some, binNil_int, i64_dn (show 0 < b - a by omega) (show b - a ≤ 1000000 by omega), q2, idG_eq]
  exact heap_l0' (nn := b + 300) hN hab hb (by omega) (fun h' f' c' d' s' t' => ⟨h', St.le.refl _, H h' f' c' d' s' t'⟩) (l + 1) _ h f (by omega) (by omega) (Chg.refl _ _) d (.refl _) (hp_none _ _ _ _ (by omega))
end Go.Proofs.Ytnelcpabjpchnaa
