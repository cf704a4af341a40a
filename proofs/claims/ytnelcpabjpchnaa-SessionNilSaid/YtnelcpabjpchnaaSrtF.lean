/- The library's sort: patterns broken; all of it. -/
import Derived.Test.YtnelcpabjpchnaaSrtE
set_option linter.unusedSimpArgs false
set_option linter.unusedVariables false
set_option maxHeartbeats 4000000
set_option maxRecDepth 100000
namespace Go.Proofs.Ytnelcpabjpchnaa
open Go.Abs Go.IntWalk
attribute [local congr] bindV_weak condK_weak guardK_weak groupK_weak allocE_weak boxE_weak storeE_weak storeM_weak tabC_weak ite_weak idG_weak appendE_weak buildSliceE_weak mapUpdateE_weak deleteE_weak makeMapE_weak copyE_weak clearE_weak callE_weak

/-! ### how many bits -/
def lenTab : ByteArray := ⟨#[0, 1, 2, 2, 3, 3, 3, 3, 4, 4, 4, 4, 4, 4, 4, 4, 5, 5, 5, 5, 5, 5, 5, 5, 5, 5, 5, 5, 5, 5, 5, 5, 6, 6, 6, 6, 6, 6, 6, 6, 6, 6, 6, 6, 6, 6, 6, 6, 6, 6, 6, 6, 6, 6, 6, 6, 6, 6, 6, 6, 6, 6, 6, 6, 7, 7, 7, 7, 7, 7, 7, 7, 7, 7, 7, 7, 7, 7, 7, 7, 7, 7, 7, 7, 7, 7, 7, 7, 7, 7, 7, 7, 7, 7, 7, 7, 7, 7, 7, 7, 7, 7, 7, 7, 7, 7, 7, 7, 7, 7, 7, 7, 7, 7, 7, 7, 7, 7, 7, 7, 7, 7, 7, 7, 7, 7, 7, 7, 8, 8, 8, 8, 8, 8, 8, 8, 8, 8, 8, 8, 8, 8, 8, 8, 8, 8, 8, 8, 8, 8, 8, 8, 8, 8, 8, 8, 8, 8, 8, 8, 8, 8, 8, 8, 8, 8, 8, 8, 8, 8, 8, 8, 8, 8, 8, 8, 8, 8, 8, 8, 8, 8, 8, 8, 8, 8, 8, 8, 8, 8, 8, 8, 8, 8, 8, 8, 8, 8, 8, 8, 8, 8, 8, 8, 8, 8, 8, 8, 8, 8, 8, 8, 8, 8, 8, 8, 8, 8, 8, 8, 8, 8, 8, 8, 8, 8, 8, 8, 8, 8, 8, 8, 8, 8, 8, 8, 8, 8, 8, 8, 8, 8, 8, 8, 8, 8, 8, 8, 8, 8, 8, 8, 8, 8, 8, 8]⟩
def lenOf (x : Nat) : Nat := (lenTab[x]?.getD 0).toNat
theorem lenOf_ok : ∀ x : Fin 256, lenOf x.val ≤ 8 ∧ (0 < x.val → 2 ^ lenOf x.val ≤ 2 * x.val) := by decide +kernel
theorem len_tab {x : Nat} (hx : x < 256) : idxT (.string lenTab) (.int .u8 (x : Int)) = some (.int .u8 (lenOf x : Nat)) := by
  have h256 : lenTab.size = 256 := by decide +kernel
  have hs : x < lenTab.size := by omega
  have e : lenTab[x]? = some lenTab[x] := getElem?_pos lenTab x hs
  simp [idxT, lenOf, e]
def len64O : Abs.Spec := fun args h k => ∃ x : Nat, args = [.int .u64 x] ∧ x < 256 ∧ k (.int .i64 (lenOf x : Nat)) h
theorem len64O_good : SpecGood Try.prog (70, len64O) := by
  refine spec_good mixed Try.func70 (by kernel_rfl) (by kernel_rfl) (tab := []) (by simp) (keep := bits_Len64_keep) ?_
  rintro args h k ⟨x, rfl, hx, H⟩
  refine ⟨0, ?_⟩
  show bits_Len64 (tabC []) idG _ (.int .u64 (x : Int)) h _
  rw [bits_Len64_eq]
  have g1 : ¬ (x : Int) ≥ 4294967296 := by omega
  have g2 : ¬ (x : Int) ≥ 65536 := by omega
  have g3 : ¬ (x : Int) ≥ 256 := by omega
  have w : IntKind.u8.wrap (x : Int) = (x : Int) := by simp [IntKind.wrap, IntKind.signed, IntKind.bits]; omega
  have l8 : lenOf x ≤ 8 := (lenOf_ok ⟨x, hx⟩).1
  have w2 : IntKind.i64.wrap (lenOf x : Int) = (lenOf x : Int) := i64_int (by omega)
  have w3 : IntKind.i64.wrap (0 + (lenOf x : Int)) = (lenOf x : Int) := by rw [Int.zero_add]; exact w2
  simp only [binNil_int, binV_geq, bindV_some, condK_bool, g1, decide_false, Bool.false_eq_true, if_false, idG_eq]
  rw [bits_Len64_j0_eq]
  simp only [binNil_int, binV_geq, bindV_some, condK_bool, g2, decide_false, Bool.false_eq_true, if_false, idG_eq]
  rw [bits_Len64_j1_eq]
  simp only [binNil_int, binV_geq, bindV_some, condK_bool, g3, decide_false, Bool.false_eq_true, if_false, idG_eq]
  rw [bits_Len64_j2_eq]
  simp only [wrapV_int, w, bindV_some]
  change bindV (idxT (.string lenTab) (.int .u8 (x : Int))) _
  simp only [len_tab hx, bindV_some, wrapV_int, w2, binV_add, w3]
  exact ⟨h, St.le.refl _, H⟩
def lenO : Abs.Spec := fun args h k => ∃ x : Nat, args = [.int .u64 x] ∧ x < 256 ∧ k (.int .i64 (lenOf x : Nat)) h
theorem lenO_good : SpecGood Try.prog (51, lenO) := by
  refine spec_good mixed Try.func51 (by kernel_rfl) (by kernel_rfl) (tab := [(70, len64O)]) (by simp [len64O_good]) (keep := bits_Len_keep) ?_
  rintro args h k ⟨x, rfl, hx, H⟩
  refine ⟨0, ?_⟩
  show bits_Len (tabC _) idG _ (.int .u64 (x : Int)) h _
  rw [bits_Len_eq]
  simp only [idG_eq]
  exact .inl ⟨rfl, x, rfl, hx, h, St.le.refl _, H⟩
theorem u64_of {x : Nat} (hx : x < 1000000) : IntKind.u64.wrap (x : Int) = (x : Int) := by simp [IntKind.wrap, IntKind.signed, IntKind.bits]; omega
def powO : Abs.Spec := fun args h k => ∃ x : Nat, args = [.int .i64 x] ∧ 0 < x ∧ x < 256 ∧ ∀ m : Nat, 0 < m → m ≤ 2 * x → m ≤ 256 → k (.int .u64 (m : Nat)) h
theorem powO_good : SpecGood Try.prog (77, powO) := by
  refine spec_good mixed Try.func77 (by kernel_rfl) (by kernel_rfl) (tab := [(51, lenO)]) (by simp [lenO_good]) (keep := slices_nextPowerOfTwo_keep) ?_
  rintro args h k ⟨x, rfl, h0, hx, H⟩
  refine ⟨0, ?_⟩
  show slices_nextPowerOfTwo (tabC _) idG _ (.int .i64 (x : Int)) h _
  rw [slices_nextPowerOfTwo_eq]
  simp only [wrapV_int, u64_of (show x < 1000000 by omega), bindV_some]
  refine .inl ⟨rfl, x, rfl, hx, ?_⟩
  obtain ⟨l1, l2⟩ := lenOf_ok ⟨x, hx⟩
  have l2 := l2 h0
  simp only at l1 l2
  have p8 : 2 ^ lenOf x ≤ 2 ^ 8 := Nat.pow_le_pow_right (by omega) l1
  have sh : binV .shl .other (.int .u64 1) (.int .i64 (lenOf x : Int)) = some (.int .u64 ((2 ^ lenOf x : Nat) : Int)) := by
    have n0 : ¬ (lenOf x : Int) < 0 := by omega
    have m1 : min (lenOf x) 64 = lenOf x := by omega
    simp only [binV, isShift, shiftV, n0, if_false, Int.toNat_natCast, IntKind.bits, m1, Int.one_mul]
    congr 2
    have : ((2 : Int) ^ lenOf x) = ((2 ^ lenOf x : Nat) : Int) := by simp
    rw [this]
    exact u64_of (by omega)
  have sh : binNil .shl .other (.int .u64 1) (.int .i64 (lenOf x : Int)) = some (.int .u64 ((2 ^ lenOf x : Nat) : Int)) := sh
  have p0 : 0 < 2 ^ lenOf x := Nat.pow_pos (by omega)
  generalize 2 ^ lenOf x = m at *
  simp only [sh, bindV_some]
  exact ⟨h, St.le.refl _, H m p0 l2 (by omega)⟩
/-! ### a number at random -/
theorem xor_some (s : Shp) (x y : Int) : ∃ z, binV .xor s (.int .u64 x) (.int .u64 y) = some (.int .u64 z) := by
  simp only [binV, isShift, intV, if_true]
  exact ⟨_, rfl⟩
theorem shl_some (s : Shp) (x : Int) (n : Nat) : ∃ z, binV .shl s (.int .u64 x) (.int .u64 (n : Int)) = some (.int .u64 z) := by
  have n0 : ¬ (n : Int) < 0 := by omega
  simp only [binV, isShift, shiftV, n0, if_false]
  exact ⟨_, rfl⟩
theorem shr_some (s : Shp) (x : Int) (n : Nat) : ∃ z, binV .shr s (.int .u64 x) (.int .u64 (n : Int)) = some (.int .u64 z) := by
  have n0 : ¬ (n : Int) < 0 := by omega
  simp only [binV, isShift, shiftV, n0, if_false]
  exact ⟨_, rfl⟩
def xorO : Abs.Spec := fun args h k => ∃ (p : Nat) (s : Int), args = [pS p 0] ∧ p < h.next ∧ h.objs p = some (.cells [.int .u64 s] true) ∧
  ∀ h' (s' : Int), Chg h h' [p] → h'.objs p = some (.cells [.int .u64 s'] true) → k (.int .u64 s') h'
theorem xorO_good : SpecGood Try.prog (78, xorO) := by
  refine spec_good mixed Try.func78 (by kernel_rfl) (by kernel_rfl) (tab := []) (by simp) (keep := slices_xorshift_Next_keep) ?_
  rintro args h k ⟨p, s, rfl, pn, op, H⟩
  refine ⟨0, ?_⟩
  show slices_xorshift_Next (tabC []) idG _ (pS p 0) h _
  rw [slices_xorshift_Next_eq]
  obtain ⟨a1, e1⟩ := shl_some .other s 13
  obtain ⟨b1, f1⟩ := xor_some .other s a1
  obtain ⟨a2, e2⟩ := shr_some .other b1 7
  obtain ⟨b2, f2⟩ := xor_some .other b1 a2
  obtain ⟨a3, e3⟩ := shl_some .other b2 17
  obtain ⟨b3, f3⟩ := xor_some .other b2 a3
  have e1 : binV .shl .other (.int .u64 s) (.int .u64 13) = some (.int .u64 a1) := e1
  have e2 : binV .shr .other (.int .u64 b1) (.int .u64 7) = some (.int .u64 a2) := e2
  have e3 : binV .shl .other (.int .u64 b2) (.int .u64 17) = some (.int .u64 a3) := e3
  simp only [pS, nilV_ptr, bindV_some, loadV_ptr, op, loadM_cells, partV_one, List.getElem?_cons_zero, true_and, binNil_int, e1, f1]
  refine storeE_all op rfl rfl rfl fun h1 c1 n1 o1 => ?_
  have o1 : h1.objs p = some (.cells [.int .u64 b1] true) := o1
  simp only [true_and, and_self, pS, nilV_ptr, bindV_some, loadV_ptr, o1, loadM_cells, partV_one, List.getElem?_cons_zero, binNil_int, e2, f2]
  refine storeE_all o1 rfl rfl rfl fun h2 c2 n2 o2 => ?_
  have o2 : h2.objs p = some (.cells [.int .u64 b2] true) := o2
  simp only [true_and, and_self, pS, nilV_ptr, bindV_some, loadV_ptr, o2, loadM_cells, partV_one, List.getElem?_cons_zero, binNil_int, e3, f3]
  refine storeE_all o2 rfl rfl rfl fun h3 c3 n3 o3 => ?_
  have o3 : h3.objs p = some (.cells [.int .u64 b3] true) := o3
  simp only [true_and, and_self, pS, nilV_ptr, bindV_some, loadV_ptr, o3, loadM_cells, partV_one, List.getElem?_cons_zero]
  exact ⟨h3, St.le.refl _, H h3 b3 ((c1.of_chg c2 (by simp)).of_chg c3 (by simp)) o3⟩
/-! ### patterns broken -/
theorem and_le (s : Shp) (x : Int) {m : Nat} (hm : m ≤ 256) : ∃ z : Nat, z ≤ m ∧ binV .and s (.int .u64 x) (.int .u64 (m : Int)) = some (.int .u64 (z : Int)) := by
  have hl : (BitVec.ofInt IntKind.u64.bits x &&& BitVec.ofInt IntKind.u64.bits (m : Int)).toNat ≤ m := by
    rw [BitVec.toNat_and]
    refine Nat.le_trans Nat.and_le_right ?_
    rw [BitVec.toNat_ofInt]
    show ((m : Int) % ((2 ^ 64 : Nat) : Int)).toNat ≤ m
    omega
  refine ⟨_, hl, ?_⟩
  simp only [binV, isShift, intV, if_true]
  rw [u64_of (by omega)]
def tabB : List (FuncId × Abs.Spec) := [(78, xorO), (77, powO)]
theorem tabB_good : ∀ p ∈ tabB, SpecGood Try.prog p := by simp [tabB, xorO_good, powO_good]
theorem brk_l0 {q N a b p m nn : Nat} {k : Cont} {h0 : St} {f0 : Nat → Int} (hN : N ≤ 255) (hab : a + 8 ≤ b) (hb : b ≤ N) (hm0 : 0 < m) (hm : m ≤ 2 * (b - a)) (hm6 : m ≤ 256) (hp : h0.next ≤ p) (hq : q < h0.next)
    (H : ∀ h' f', Chg h0 h' [q] → Dat q N f' h' → SwS a b f0 f' → k (.tuple #[]) h') :
    ∀ (dd i m0 : Nat) (h : St) (f : Nat → Int) (s : Int) (x10 : Value), a + (b - a) / 4 * 2 + 2 ≤ i + dd → dd < m0 → a ≤ i → Chg h0 h [q] → p < h.next → h.objs p = some (.cells [.int .u64 s] true) → Dat q N f h → SwS a b f0 f →
      slices_breakPatternsOrdered_l0 (tabC tabB) idG nn m0 (vS q N) (.int .i64 a) (.int .i64 ((b - a : Nat) : Int)) (pS p 0) (.int .u64 (m : Nat)) (.int .i64 i) x10 h k := by
  intro dd
  have q4 : binV .quo .other (.int .i64 ((b - a : Nat) : Int)) (.int .i64 4) = some (.int .i64 (((b - a) / 4 : Nat) : Int)) := quo_nat (b := 4) (by omega) (by omega)
  obtain ⟨l4, hl4⟩ : ∃ l4, l4 = (b - a) / 4 := ⟨_, rfl⟩
  rw [← hl4] at q4 ⊢
  have w2 : IntKind.i64.wrap ((l4 : Int) * 2) = ((l4 * 2 : Nat) : Int) := by rw [i64_in _ (by omega)]; omega
  have u2 : IntKind.i64.wrap ((a : Int) + ((l4 * 2 : Nat) : Int)) = ((a + l4 * 2 : Nat) : Int) := by rw [i64_in _ (by omega)]; omega
  induction dd with
  | zero =>
    intro i m0 h f s x10 hd hm1 hai c pn op d ss
    obtain ⟨m0, rfl⟩ : ∃ m, m0 = m + 1 := ⟨m0 - 1, by omega⟩
    rw [slices_breakPatternsOrdered_l0_eq]
    have e : ¬ (i : Int) ≤ ((a + l4 * 2 + 1 : Nat) : Int) := by omega
    simp only [binNil_int, q4, bindV_some, binV_mul, w2, binV_add, u2, i64_up (show a + l4 * 2 ≤ 1000000 by omega), binV_leq, condK_bool, e, decide_false, Bool.false_eq_true, if_false]
    exact H h f c d ss
  | succ dd ih =>
    intro i m0 h f s x10 hd hm1 hai c pn op d ss
    obtain ⟨m0, rfl⟩ : ∃ m, m0 = m + 1 := ⟨m0 - 1, by omega⟩
    rw [slices_breakPatternsOrdered_l0_eq]
    simp only [binNil_int, q4, bindV_some, binV_mul, w2, binV_add, u2, i64_up (show a + l4 * 2 ≤ 1000000 by omega), binV_leq, condK_bool]
    by_cases e : i ≤ a + l4 * 2 + 1
    · have e' : (i : Int) ≤ ((a + l4 * 2 + 1 : Nat) : Int) := by omega
      simp only [e', decide_true, if_true, idG_eq]
      refine .inl ⟨rfl, p, s, rfl, pn, op, fun h1 s1 c1 o1 => ?_⟩
      have m1 := c1.1
      have pq : p ≠ q := by omega
      have d1 := d.chg c1 (by simpa using Ne.symm pq)
      have dn : IntKind.u64.wrap ((m : Int) - 1) = ((m - 1 : Nat) : Int) := by
        rw [show (m : Int) - 1 = ((m - 1 : Nat) : Int) by omega]; exact u64_of (by omega)
      obtain ⟨z, hz, ez⟩ := and_le .other s1 (m := m - 1) (by omega)
      simp only [binNil_int, binV_sub, bindV_some, dn, ez, wrapV_int, i64_int (show z ≤ 1000000 by omega), binV_geq, condK_bool]
      have c01 : Chg h0 h1 [q] := c.of_chg c1 (by simp; exact .inr hp)
      -- the exchange
      have nxt : ∀ o : Nat, o < b - a → slices_breakPatternsOrdered_j1 (tabC tabB) idG nn m0 (vS q N) (.int .i64 a) (.int .i64 ((b - a : Nat) : Int)) (pS p 0) (.int .u64 (m : Nat)) (.int .i64 i) (.int .i64 (o : Nat)) h1 k := by
        intro o ho
        rw [slices_breakPatternsOrdered_j1_eq]
        have iN : i < N := by omega
        have oN : a + o < N := by omega
        simp only [binV_add, i64_sum (show a + o ≤ 1000000 by omega), bindV_some, Dat.idx q iN, Dat.idx q oN, d1.load iN, d1.load oN, true_and]
        refine d1.store iN fun h2 c2 n2 d2 => ?_
        simp only [true_and, and_self, Dat.idx q oN, bindV_some]
        refine d2.store oN fun h3 c3 n3 d3 => ?_
        simp only [true_and, and_self, idG_eq]
        rw [slices_breakPatternsOrdered_j2_eq]
        simp only [binNil_int, binV_add, bindV_some, i64_up (show i ≤ 1000000 by omega), idG_eq]
        have o3 := c3.at1 (by omega) pq (c2.at1 (by omega) pq o1)
        exact ih (i + 1) m0 h3 _ s1 _ (by omega) (by omega) (by omega) ((c01.of_chg c2 (by simp)).of_chg c3 (by simp)) (by omega) o3 d3 (ss.step i (a + o) (by omega) (by omega))
      by_cases g : (z : Int) ≥ ((b - a : Nat) : Int)
      · simp only [g, decide_true, if_true, binV_sub, i64_dif (show b - a ≤ z by omega) (show z ≤ 1000000 by omega), bindV_some, idG_eq]
        exact nxt _ (by omega)
      · simp only [g, decide_false, Bool.false_eq_true, if_false, idG_eq]
        exact nxt _ (by omega)
    · have e' : ¬ (i : Int) ≤ ((a + l4 * 2 + 1 : Nat) : Int) := by omega
      simp only [e', decide_false, Bool.false_eq_true, if_false]
      exact H h f c d ss
def brkO : Abs.Spec := fun args h k => ∃ (q N a b : Nat) (f : Nat → Int), args = [vS q N, .int .i64 a, .int .i64 b] ∧ N ≤ 255 ∧ a + 8 ≤ b ∧ b ≤ N ∧ Dat q N f h ∧
  ∀ h' f', Chg h h' [q] → Dat q N f' h' → SwS a b f f' → k (.tuple #[]) h'
theorem brkO_good : SpecGood Try.prog (62, brkO) := by
  refine spec_good mixed Try.func62 (by kernel_rfl) (by kernel_rfl) (tab := tabB) tabB_good (keep := slices_breakPatternsOrdered_keep) ?_
  rintro args h k ⟨q, N, a, b, f, rfl, hN, hab, hb, d, H⟩
  refine ⟨10, ?_⟩
  show slices_breakPatternsOrdered (tabC tabB) idG _ (vS q N) (.int .i64 a) (.int .i64 b) h _
  rw [slices_breakPatternsOrdered_eq]
  have g8 : ((b - a : Nat) : Int) ≥ 8 := by omega
  have q4 : binV .quo .other (.int .i64 ((b - a : Nat) : Int)) (.int .i64 4) = some (.int .i64 (((b - a) / 4 : Nat) : Int)) := quo_nat (b := 4) (by omega) (by omega)
  obtain ⟨l4, hl4⟩ : ∃ l4, l4 = (b - a) / 4 := ⟨_, rfl⟩
  rw [← hl4] at q4
  have w2 : IntKind.i64.wrap ((l4 : Int) * 2) = ((l4 * 2 : Nat) : Int) := by rw [i64_in _ (by omega)]; omega
  have u2 : IntKind.i64.wrap ((a : Int) + ((l4 * 2 : Nat) : Int)) = ((a + l4 * 2 : Nat) : Int) := by rw [i64_in _ (by omega)]; omega
  simp only [binV_sub, i64_dif (show a ≤ b by omega) (show b ≤ 1000000 by omega), bindV_some, binNil_int, binV_geq, g8, decide_true, condK_bool, if_true, wrapV_int, u64_of (show b - a < 1000000 by omega)]
  refine allocE_in fun h1 c1 n1 o1 => ?_
  refine storeE_all o1 rfl rfl rfl fun h2 c2 n2 o2 => ?_
  have o2 : h2.objs h.next = some (.cells [.int .u64 ((b - a : Nat) : Int)] true) := o2
  have c02 : Chg h h2 [] := c1.new c2 (Nat.le_refl _)
  refine .inr (.inl ⟨rfl, b - a, rfl, by omega, by omega, fun m m1 m2 m3 => ?_⟩)
  simp only [binNil_int, q4, bindV_some, binV_mul, w2, binV_add, u2, binV_sub, i64_dn (show 0 < a + l4 * 2 by omega) (show a + l4 * 2 ≤ 1000000 by omega), idG_eq]
  exact brk_l0 hN hab hb m1 m2 m3 (Nat.le_refl _) d.1 (fun h' f' c' d' s' => ⟨h', St.le.refl _, H h' f' c' d' s'⟩) 3 (a + l4 * 2 - 1) 10 h2 f _ _ (by omega) (by omega) (by omega) (c02.mono (by simp)) (by omega) o2 (d.chg c02 (by simp)) (.refl _)
/-! ### all of it -/
def pdqO (n : Nat) : Abs.Spec := fun args h k => ∃ (q N a b l : Nat) (f : Nat → Int), args = [vS q N, .int .i64 a, .int .i64 b, .int .i64 l] ∧ N ≤ 255 ∧ l ≤ 255 ∧ a ≤ b ∧ b ≤ N ∧ b - a < n ∧ Dat q N f h ∧ LB f a b ∧
  ∀ h' f', Chg h h' [q] → Dat q N f' h' → SwS a b f f' → Srt f' a b → k (.tuple #[]) h'
end Go.Proofs.Ytnelcpabjpchnaa
