/- The library's sort: a row as it lies; less; the sort by insertion; the pivot's choice; a range turned round. -/
import Derived.Test.YtnelcpabjpchnaaSrtA
import Derived.Test.YtnelcpabjpchnaaAbsLv
import Derived.Test.YtnelcpabjpchnaaGenS
set_option linter.unusedSimpArgs false
set_option linter.unusedVariables false
set_option maxHeartbeats 4000000
namespace Go.Proofs.Ytnelcpabjpchnaa
open Go.Abs Go.IntWalk
theorem appendE_weak {dd : Prop} {size bytes : Nat} {s s' x x' : Value} {h h' : St} {k : Cont} (e : s = s') (ex : x = x') (eh : h = h') (_t : ((0 : Nat) = 0) = dd) : appendE size bytes s x h k = appendE size bytes s' x' h' k := by rw [e, ex, eh]
theorem buildSliceE_weak {dd : Prop} {size len : Nat} {z : List Value} {p p' : List (Nat × Nat × Value)} {h h' : St} {k : Cont} (ex : p = p') (eh : h = h') (_t : ((0 : Nat) = 0) = dd) : buildSliceE size len z p h k = buildSliceE size len z p' h' k := by rw [ex, eh]
theorem mapUpdateE_weak {dd : Prop} {key : KeyMode} {m m' q q' x x' : Value} {h h' : St} {k : Cont} (em : m = m') (eq : q = q') (ex : x = x') (eh : h = h') (_t : ((0 : Nat) = 0) = dd) : mapUpdateE key m q x h k = mapUpdateE key m' q' x' h' k := by rw [em, eq, ex, eh]
theorem deleteE_weak {dd : Prop} {key : KeyMode} {m m' q q' : Value} {h h' : St} {k : Cont} (em : m = m') (eq : q = q') (eh : h = h') (_t : ((0 : Nat) = 0) = dd) : deleteE key m q h k = deleteE key m' q' h' k := by rw [em, eq, eh]
theorem makeMapE_weak {dd : Prop} {h h' : St} {k : Cont} (eh : h = h') (_t : ((0 : Nat) = 0) = dd) : makeMapE h k = makeMapE h' k := by rw [eh]
theorem copyE_weak {dd : Prop} {size : Nat} {s s' x x' : Value} {h h' : St} {k : Cont} (e : s = s') (ex : x = x') (eh : h = h') (_t : ((0 : Nat) = 0) = dd) : copyE size s x h k = copyE size s' x' h' k := by rw [e, ex, eh]
theorem clearE_weak {dd : Prop} {size : Nat} {z : List Value} {x x' : Value} {h h' : St} {k : Cont} (ex : x = x') (eh : h = h') (_t : ((0 : Nat) = 0) = dd) : clearE size z x h k = clearE size z x' h' k := by rw [ex, eh]
theorem callE_weak {dd : Prop} {C : Oracle} {f f' : Value} {a a' : List Value} {h h' : St} {k : Cont} (ef : f = f') (ea : a = a') (eh : h = h') (_t : ((0 : Nat) = 0) = dd) : callE C f a h k = callE C f' a' h' k := by rw [ef, ea, eh]
attribute [local congr] bindV_weak condK_weak guardK_weak groupK_weak allocE_weak boxE_weak storeE_weak storeM_weak tabC_weak ite_weak idG_weak appendE_weak buildSliceE_weak mapUpdateE_weak deleteE_weak makeMapE_weak copyE_weak clearE_weak callE_weak

theorem mixed : Try.prog.follows .mixedOrders = true := by kernel_rfl
theorem cK {f : FuncId} {S : Abs.Spec} {args : List Value} {h : St} {k : Cont} : ∀ {tab : List (FuncId × Abs.Spec)}, (f, S) ∈ tab → S args h k → tabC tab f args h k
  | (g, R) :: tab, hm, H => by
    rcases List.mem_cons.1 hm with e | hm
    · cases e; exact .inl ⟨rfl, H⟩
    · exact .inr (cK hm H)
theorem guardK_undef (w : Bool) (y n : Prop) : guardK undef w y n = n := propext Iff.rfl
/-! ### a row -/
def vS (q N : Nat) : Value := .slice (some ⟨q, 0, some 1⟩) N 0
def pS (q i : Nat) : Value := .pointer (some ⟨q, i, none⟩)
def cellsS (f : Nat → Int) (n : Nat) : List Value := (List.range n).map fun i => .int .u32 (f i)
def Dat (q N : Nat) (f : Nat → Int) (h : St) : Prop := q < h.next ∧ h.objs q = some (.cells (cellsS f N) true)
theorem Dat.idx (q : Nat) {N i : Nat} (hi : i < N) : idxS 1 (vS q N) (.int .i64 (i : Int)) = some (pS q i) := by
  have : (i : Int) < N := by omega
  simp [vS, pS, idxS, this, hi]
theorem Dat.load {q N : Nat} {f : Nat → Int} {h : St} (d : Dat q N f h) {i : Nat} (hi : i < N) : loadV false 1 (pS q i) h = some (.int .u32 (f i)) := by
  simp [pS, d.2, cellsS, hi]
theorem Dat.chg {q N : Nat} {f : Nat → Int} {h h' : St} (d : Dat q N f h) {S : List Nat} (c : Chg h h' S) (hq : q ∉ S) : Dat q N f h' := ⟨Nat.lt_of_lt_of_le d.1 c.1, c.at d.1 hq d.2⟩
theorem cellsS_upd (f : Nat → Int) (n i : Nat) (x : Int) (hi : i < n) : cellsS (upd f i x) n = (cellsS f n).set i (.int .u32 x) := by
  apply List.ext_getElem?
  intro j
  rw [List.getElem?_set]
  by_cases e : i = j
  · subst e; simp [cellsS, hi, upd]
  · simp only [if_neg e, cellsS, List.getElem?_map]
    by_cases hj : j < n
    · simp [hj, upd, Ne.symm e]
    · simp [hj]
theorem Dat.store {q N : Nat} {f : Nat → Int} {h : St} (d : Dat q N f h) {i : Nat} (hi : i < N) {x : Int} {k : Cont} (K : ∀ h', Chg h h' [q] → h'.next = h.next → Dat q N (upd f i x) h' → k undef h') : storeE 1 (pS q i) (.int .u32 x) h k := by
  refine storeE_in d.2 (cellsS (upd f i x) N) rfl (by simp [cellsS]; omega) rfl ?_ fun h' c n o => K h' c n ⟨by have := d.1; omega, o⟩
  rw [cellsS_upd f N i x hi, List.set_eq_take_append_cons_drop, if_pos (by simp [cellsS]; exact hi)]
  simp
theorem i64_dn {j : Nat} (h0 : 0 < j) (h : j ≤ 1000000) : IntKind.i64.wrap ((j : Int) - 1) = ((j - 1 : Nat) : Int) := by rw [i64_in _ (by omega)]; omega
theorem i64_up {j : Nat} (h : j ≤ 1000000) : IntKind.i64.wrap ((j : Int) + 1) = ((j + 1 : Nat) : Int) := by rw [i64_in _ (by omega)]; omega
theorem quo_nat {s : Shp} {a b : Nat} (hb : b ≠ 0) (ha : a ≤ 1000000) : binV .quo s (.int .i64 a) (.int .i64 b) = some (.int .i64 ((a / b : Nat) : Int)) := by
  have hz : ¬ (b : Int) = 0 := by omega
  have : a / b ≤ a := Nat.div_le_self _ _
  simp only [binV, isShift, intV, hz, if_false, if_true]
  rw [Int.tdiv_eq_ediv_of_nonneg (by omega), ← Int.natCast_ediv]
  generalize a / b = c at *
  rw [i64_in _ (by omega)]
/-! ### less -/
def nanS : Abs.Spec := fun args h k => ∃ x : Int, args = [.int .u32 x] ∧ k (.bool false) h
theorem nanS_good : SpecGood Try.prog (74, nanS) := by
  refine spec_good mixed Try.func74 (by kernel_rfl) (by kernel_rfl) (tab := []) (by simp) (keep := cmp_isNaN_keep) ?_
  rintro args h k ⟨x, rfl, H⟩
  refine ⟨0, ?_⟩
  show cmp_isNaN (tabC []) idG 0 (.int .u32 x) h _
  rw [cmp_isNaN_eq]
  simp only [binV_neq, ne_eq, not_true_eq_false, decide_false, bindV_some]
  exact ⟨h, St.le.refl _, H⟩
def lessO : Abs.Spec := fun args h k => ∃ x y : Int, args = [.int .u32 x, .int .u32 y] ∧ k (.bool (decide (x < y))) h
theorem lessO_good : SpecGood Try.prog (66, lessO) := by
  refine spec_good mixed Try.func66 (by kernel_rfl) (by kernel_rfl) (tab := [(74, nanS)]) (by simp [nanS_good]) (keep := cmp_Less_keep) ?_
  rintro args h k ⟨x, y, rfl, H⟩
  refine ⟨0, ?_⟩
  show cmp_Less (tabC _) idG 0 (.int .u32 x) (.int .u32 y) h _
  rw [cmp_Less_eq]
  refine .inl ⟨rfl, x, rfl, ?_⟩
  simp only [groupK_eq, guardK_bool, Bool.false_eq_true, if_false, idG_eq, pickV_bool, bindV_some, if_true, binV_lss, getT]
  exact ⟨h, St.le.refl _, H⟩
def tabS1 : List (FuncId × Abs.Spec) := [(66, lessO)]
theorem tabS1_good : ∀ p ∈ tabS1, SpecGood Try.prog p := by simp [tabS1, lessO_good]
theorem cLess {x y : Int} {h : St} {k : Cont} (H : k (.bool (decide (x < y))) h) : tabC tabS1 66 [.int .u32 x, .int .u32 y] h k := .inl ⟨rfl, x, y, rfl, H⟩
/-! ### by insertion -/
theorem ins_l1 {q N a b nn : Nat} {k : Cont} {h0 : St} {f0 : Nat → Int} (hN : N ≤ 1000000) (hb : b ≤ N) {i : Nat} (hib : i < b) {m0 : Nat}
    (H : ∀ h' f', Chg h0 h' [q] → Dat q N f' h' → SwS a b f0 f' → Srt f' a (i + 1) → ∀ x7, slices_insertionSortOrdered_j2 (tabC tabS1) idG nn m0 (vS q N) (.int .i64 a) (.int .i64 b) (.int .i64 i) x7 h' k) :
    ∀ (j m1 : Nat) (h : St) (f : Nat → Int), j < m1 → Chg h0 h [q] → Dat q N f h → SwS a b f0 f → Ins f a i j →
      slices_insertionSortOrdered_l1 (tabC tabS1) idG nn m0 m1 (vS q N) (.int .i64 a) (.int .i64 b) (.int .i64 i) (.int .i64 j) h k := by
  intro j
  induction j using Nat.strongRecOn with
  | ind j ih =>
    intro m1 h f hm c d s ins
    obtain ⟨m1, rfl⟩ : ∃ m, m1 = m + 1 := ⟨m1 - 1, by omega⟩
    rw [slices_insertionSortOrdered_l1_eq]
    have ji : j ≤ i := ins.2.1
    have aj : a ≤ j := ins.1
    simp only [binV_gtr, bindV_some, groupK_eq, guardK_bool]
    by_cases e : j = a
    · have e' : ¬ (j : Int) > a := by omega
      simp only [e', decide_false, Bool.false_eq_true, if_false, idG_eq, pickV_bool, bindV_some, condK_bool]
      exact H h f c d s (ins_end ins (.inl e)) _
    · have e' : (j : Int) > a := by omega
      simp only [e', decide_true, if_true, Dat.idx q (show j < N by omega), bindV_some, d.load (show j < N by omega), true_and, binNil_int, binV_sub, i64_dn (show 0 < j by omega) (by omega), Dat.idx q (show j - 1 < N by omega), d.load (show j - 1 < N by omega)]
      refine cLess ?_
      simp only [true_and, and_self, idG_eq, e', decide_true, pickV_bool, if_true, bindV_some, getT, condK_bool]
      by_cases l : f j < f (j - 1)
      · simp only [l, decide_true, if_true, idG_eq, Dat.idx q (show j < N by omega), bindV_some, d.load (show j < N by omega), true_and, binNil_int, binV_sub, i64_dn (show 0 < j by omega) (by omega), Dat.idx q (show j - 1 < N by omega), d.load (show j - 1 < N by omega)]
        refine d.store (by omega) fun h1 c1 n1 d1 => ?_
        simp only [true_and, and_self, Dat.idx q (show j - 1 < N by omega), bindV_some]
        refine d1.store (by omega) fun h2 c2 n2 d2 => ?_
        simp only [true_and, and_self, idG_eq, binNil_int, binV_sub, i64_dn (show 0 < j by omega) (by omega), bindV_some]
        have es : upd (upd f j (f (j - 1))) (j - 1) (f j) = Sw f (j - 1) j := by rw [sw_comm]; rfl
        rw [es] at d2
        exact ih (j - 1) (by omega) m1 h2 _ (by omega) ((c.of_chg c1 (by simp)).of_chg c2 (by simp)) d2 (s.step (j - 1) j (by omega) (by omega)) (ins_step ins (by omega) l)
      · simp only [l, decide_false, Bool.false_eq_true, if_false, idG_eq]
        exact H h f c d s (ins_end ins (.inr (by omega))) _
theorem ins_l0 {q N a b nn : Nat} {k : Cont} {h0 : St} {f0 : Nat → Int} {x7 : Value} (hN : N ≤ 1000000) (hb : b ≤ N) (hn : b < nn)
    (H : ∀ h' f', Chg h0 h' [q] → Dat q N f' h' → SwS a b f0 f' → Srt f' a b → k (.tuple #[]) h') :
    ∀ (d i m0 : Nat) (h : St) (f : Nat → Int) (x7 : Value), b ≤ i + d → d < m0 → 2 * b < m0 + i → a ≤ i → i ≤ b + 1 → Chg h0 h [q] → Dat q N f h → SwS a b f0 f → Srt f a i →
      slices_insertionSortOrdered_l0 (tabC tabS1) idG nn m0 (vS q N) (.int .i64 a) (.int .i64 b) (.int .i64 i) x7 h k := by
  intro d
  induction d with
  | zero =>
    intro i m0 h f x7 hd hm hm2 hai hib c dd s srt
    obtain ⟨m0, rfl⟩ : ∃ m, m0 = m + 1 := ⟨m0 - 1, by omega⟩
    rw [slices_insertionSortOrdered_l0_eq]
    have e : ¬ (i : Int) < b := by omega
    simp only [binV_lss, bindV_some, condK_bool, e, decide_false, Bool.false_eq_true, if_false]
    exact H h f c dd s fun p q p1 p2 p3 => srt p q p1 p2 (by omega)
  | succ d ih =>
    intro i m0 h f x7 hd hm hm2 hai hib c dd s srt
    obtain ⟨m0, rfl⟩ : ∃ m, m0 = m + 1 := ⟨m0 - 1, by omega⟩
    rw [slices_insertionSortOrdered_l0_eq]
    by_cases e : i < b
    · have e' : (i : Int) < b := by omega
      simp only [binV_lss, bindV_some, condK_bool, e', decide_true, if_true, idG_eq]
      refine ins_l1 hN hb e (fun h' f' c' d' s' srt' x7' => ?_) i m0 h f (by omega) c dd s (ins_start srt hai)
      rw [slices_insertionSortOrdered_j2_eq]
      simp only [binNil_int, binV_add, bindV_some, i64_up (show i ≤ 1000000 by omega), idG_eq]
      exact ih (i + 1) m0 h' f' x7' (by omega) (by omega) (by omega) (by omega) (by omega) c' d' s' srt'
    · have e' : ¬ (i : Int) < b := by omega
      simp only [binV_lss, bindV_some, condK_bool, e', decide_false, Bool.false_eq_true, if_false]
      exact H h f c dd s fun p q p1 p2 p3 => srt p q p1 p2 (by omega)
def insO : Abs.Spec := fun args h k => ∃ (q N a b : Nat) (f : Nat → Int), args = [vS q N, .int .i64 a, .int .i64 b] ∧ N ≤ 255 ∧ a ≤ b ∧ b ≤ N ∧ Dat q N f h ∧
  ∀ h' f', Chg h h' [q] → Dat q N f' h' → SwS a b f f' → Srt f' a b → k (.tuple #[]) h'
theorem insO_good : SpecGood Try.prog (60, insO) := by
  refine spec_good mixed Try.func60 (by kernel_rfl) (by kernel_rfl) (tab := tabS1) tabS1_good (keep := slices_insertionSortOrdered_keep) ?_
  rintro args h k ⟨q, N, a, b, f, rfl, hN, hab, hb, d, H⟩
  refine ⟨2 * b + 2, ?_⟩
  show slices_insertionSortOrdered (tabC tabS1) idG _ (vS q N) (.int .i64 a) (.int .i64 b) h _
  rw [slices_insertionSortOrdered_eq]
  simp only [binNil_int, binV_add, bindV_some, i64_up (show a ≤ 1000000 by omega), idG_eq]
  exact ins_l0 (nn := 2 * b + 2) (x7 := undef) (by omega) hb (by omega) (fun h' f' c' d' s' t' => ⟨h', St.le.refl _, H h' f' c' d' s' t'⟩) b (a + 1) _ h f _ (by omega) (by omega) (by omega) (by omega) (by omega) (Chg.refl _ _) d (.refl _) (fun p q p1 p2 p3 => by omega)
/-! ### a range turned round -/
theorem rev_l0 {q N a b nn : Nat} {k : Cont} {h0 : St} {f0 : Nat → Int} (hN : N ≤ 1000000) (hb : b ≤ N)
    (H : ∀ h' f', Chg h0 h' [q] → Dat q N f' h' → SwS a b f0 f' → k (.tuple #[]) h') :
    ∀ (d i j m0 : Nat) (h : St) (f : Nat → Int), j ≤ i + d → d < m0 → a ≤ i → j < b → Chg h0 h [q] → Dat q N f h → SwS a b f0 f →
      slices_reverseRangeOrdered_l0 (tabC []) idG nn m0 (vS q N) (.int .i64 i) (.int .i64 j) h k := by
  intro d
  induction d with
  | zero =>
    intro i j m0 h f hd hm hai hjb c dd s
    obtain ⟨m0, rfl⟩ : ∃ m, m0 = m + 1 := ⟨m0 - 1, by omega⟩
    rw [slices_reverseRangeOrdered_l0_eq]
    have e : ¬ (i : Int) < j := by omega
    simp only [binV_lss, bindV_some, condK_bool, e, decide_false, Bool.false_eq_true, if_false]
    exact H h f c dd s
  | succ d ih =>
    intro i j m0 h f hd hm hai hjb c dd s
    obtain ⟨m0, rfl⟩ : ∃ m, m0 = m + 1 := ⟨m0 - 1, by omega⟩
    rw [slices_reverseRangeOrdered_l0_eq]
    by_cases e : i < j
    · have e' : (i : Int) < j := by omega
      have iN : i < N := by omega
      have jN : j < N := by omega
      simp only [binV_lss, bindV_some, condK_bool, e', decide_true, if_true, idG_eq, Dat.idx q iN, Dat.idx q jN, dd.load iN, dd.load jN, true_and]
      refine dd.store iN fun h1 c1 n1 d1 => ?_
      simp only [true_and, and_self, Dat.idx q jN, bindV_some]
      refine d1.store jN fun h2 c2 n2 d2 => ?_
      simp only [true_and, and_self, binNil_int, binV_add, binV_sub, bindV_some, i64_up (show i ≤ 1000000 by omega), i64_dn (show 0 < j by omega) (by omega), idG_eq]
      exact ih (i + 1) (j - 1) m0 h2 _ (by omega) (by omega) (by omega) (by omega) ((c.of_chg c1 (by simp)).of_chg c2 (by simp)) d2 (s.step i j (by omega) (by omega))
    · have e' : ¬ (i : Int) < j := by omega
      simp only [binV_lss, bindV_some, condK_bool, e', decide_false, Bool.false_eq_true, if_false]
      exact H h f c dd s
def revO : Abs.Spec := fun args h k => ∃ (q N a b : Nat) (f : Nat → Int), args = [vS q N, .int .i64 a, .int .i64 b] ∧ N ≤ 255 ∧ a < b ∧ b ≤ N ∧ Dat q N f h ∧
  ∀ h' f', Chg h h' [q] → Dat q N f' h' → SwS a b f f' → k (.tuple #[]) h'
theorem revO_good : SpecGood Try.prog (64, revO) := by
  refine spec_good mixed Try.func64 (by kernel_rfl) (by kernel_rfl) (tab := []) (by simp) (keep := slices_reverseRangeOrdered_keep) ?_
  rintro args h k ⟨q, N, a, b, f, rfl, hN, hab, hb, d, H⟩
  refine ⟨b + 2, ?_⟩
  show slices_reverseRangeOrdered (tabC []) idG _ (vS q N) (.int .i64 a) (.int .i64 b) h _
  rw [slices_reverseRangeOrdered_eq]
  simp only [binNil_int, binV_sub, bindV_some, i64_dn (show 0 < b by omega) (show b ≤ 1000000 by omega), idG_eq]
  exact rev_l0 (by omega) hb (fun h' f' c' d' s' => ⟨h', St.le.refl _, H h' f' c' d' s'⟩) b a (b - 1) _ h f (by omega) (by omega) (by omega) (by omega) (Chg.refl _ _) d (.refl _)
/-! ### the pivot's choice -/
def ord2O : Abs.Spec := fun args h k => ∃ (q N a b p : Nat) (f : Nat → Int) (s : Int), args = [vS q N, .int .i64 a, .int .i64 b, pS p 0] ∧ a < N ∧ b < N ∧ Dat q N f h ∧ p ≠ q ∧ p < h.next ∧ h.objs p = some (.cells [.int .i64 s] true) ∧
  ∀ h' (s' : Int) (c d : Nat), Chg h h' [p] → h'.objs p = some (.cells [.int .i64 s'] true) → (c = a ∧ d = b ∨ c = b ∧ d = a) → k (.tuple #[.int .i64 c, .int .i64 d]) h'
theorem ord2O_good : SpecGood Try.prog (82, ord2O) := by
  refine spec_good mixed Try.func82 (by kernel_rfl) (by kernel_rfl) (tab := tabS1) tabS1_good (keep := slices_order2Ordered_keep) ?_
  rintro args h k ⟨q, N, a, b, p, f, s, rfl, ha, hb, d, pq, pn, op, H⟩
  refine ⟨0, ?_⟩
  show slices_order2Ordered (tabC tabS1) idG _ (vS q N) (.int .i64 a) (.int .i64 b) (pS p 0) h _
  rw [slices_order2Ordered_eq]
  simp only [Dat.idx q ha, Dat.idx q hb, bindV_some, d.load ha, d.load hb, true_and]
  refine cLess ?_
  simp only [true_and, and_self, condK_bool]
  by_cases l : f b < f a
  · simp only [l, decide_true, if_true, pS, nilV_ptr, bindV_some, loadV_ptr, op, loadM_cells, partV_one, List.getElem?_cons_zero, binNil_int, binV_add]
    refine storeE_all op rfl rfl rfl fun h1 c1 n1 o1 => ?_
    exact ⟨h1, St.le.refl _, H h1 _ b a c1 o1 (.inr ⟨rfl, rfl⟩)⟩
  · simp only [l, decide_false, Bool.false_eq_true, if_false, idG_eq]
    exact ⟨h, St.le.refl _, H h s a b (Chg.refl _ _) op (.inl ⟨rfl, rfl⟩)⟩
def medO : Abs.Spec := fun args h k => ∃ (q N a b c p : Nat) (f : Nat → Int) (s : Int), args = [vS q N, .int .i64 a, .int .i64 b, .int .i64 c, pS p 0] ∧ a < N ∧ b < N ∧ c < N ∧ Dat q N f h ∧ p ≠ q ∧ p < h.next ∧ h.objs p = some (.cells [.int .i64 s] true) ∧
  ∀ h' (s' : Int) (m : Nat), Chg h h' [p] → h'.objs p = some (.cells [.int .i64 s'] true) → (m = a ∨ m = b ∨ m = c) → k (.int .i64 m) h'
theorem medO_good : SpecGood Try.prog (80, medO) := by
  refine spec_good mixed Try.func80 (by kernel_rfl) (by kernel_rfl) (tab := [(82, ord2O)]) (by simp [ord2O_good]) (keep := slices_medianOrdered_keep) ?_
  rintro args h k ⟨q, N, a, b, c, p, f, s, rfl, ha, hb, hc, d, pq, pn, op, H⟩
  refine ⟨0, ?_⟩
  show slices_medianOrdered (tabC _) idG _ (vS q N) (.int .i64 a) (.int .i64 b) (.int .i64 c) (pS p 0) h _
  rw [slices_medianOrdered_eq]
  refine .inl ⟨rfl, q, N, a, b, p, f, s, rfl, ha, hb, d, pq, pn, op, fun h1 s1 a1 b1 c1 o1 e1 => ?_⟩
  have d1 := d.chg c1 (by simpa using Ne.symm pq)
  have m1 := c1.1
  simp only [extV_two0, extV_two1, bindV_some]
  refine .inl ⟨rfl, q, N, b1, c, p, f, s1, rfl, by omega, hc, d1, pq, by omega, o1, fun h2 s2 b2 c2 ch2 o2 e2 => ?_⟩
  have d2 := d1.chg ch2 (by simpa using Ne.symm pq)
  have m2 := ch2.1
  simp only [extV_two0, extV_two1, bindV_some]
  refine .inl ⟨rfl, q, N, a1, b2, p, f, s2, rfl, by omega, by omega, d2, pq, by omega, o2, fun h3 s3 a3 b3 ch3 o3 e3 => ?_⟩
  simp only [extV_two0, extV_two1, bindV_some]
  exact ⟨h3, St.le.refl _, H h3 s3 b3 ((c1.of_chg ch2 (by simp)).of_chg ch3 (by simp)) o3 (by omega)⟩
def medAO : Abs.Spec := fun args h k => ∃ (q N a p : Nat) (f : Nat → Int) (s : Int), args = [vS q N, .int .i64 a, pS p 0] ∧ N ≤ 255 ∧ 0 < a ∧ a + 1 < N ∧ Dat q N f h ∧ p ≠ q ∧ p < h.next ∧ h.objs p = some (.cells [.int .i64 s] true) ∧
  ∀ h' (s' : Int) (m : Nat), Chg h h' [p] → h'.objs p = some (.cells [.int .i64 s'] true) → a - 1 ≤ m → m ≤ a + 1 → k (.int .i64 m) h'
theorem medAO_good : SpecGood Try.prog (79, medAO) := by
  refine spec_good mixed Try.func79 (by kernel_rfl) (by kernel_rfl) (tab := [(80, medO)]) (by simp [medO_good]) (keep := slices_medianAdjacentOrdered_keep) ?_
  rintro args h k ⟨q, N, a, p, f, s, rfl, hN, ha, hb, d, pq, pn, op, H⟩
  refine ⟨0, ?_⟩
  show slices_medianAdjacentOrdered (tabC _) idG _ (vS q N) (.int .i64 a) (pS p 0) h _
  rw [slices_medianAdjacentOrdered_eq]
  simp only [binNil_int, binV_sub, binV_add, bindV_some, i64_dn ha (show a ≤ 1000000 by omega), i64_up (show a ≤ 1000000 by omega)]
  refine .inl ⟨rfl, q, N, a - 1, a, a + 1, p, f, s, rfl, by omega, by omega, by omega, d, pq, pn, op, fun h1 s1 m c1 o1 e1 => ?_⟩
  exact ⟨h1, St.le.refl _, H h1 s1 m c1 o1 (by omega) (by omega)⟩
def tabV : List (FuncId × Abs.Spec) := [(80, medO), (79, medAO)]
theorem tabV_good : ∀ p ∈ tabV, SpecGood Try.prog p := by simp [tabV, medO_good, medAO_good]
def pivO : Abs.Spec := fun args h k => ∃ (q N a b : Nat) (f : Nat → Int), args = [vS q N, .int .i64 a, .int .i64 b] ∧ N ≤ 255 ∧ a + 12 < b ∧ b ≤ N ∧ Dat q N f h ∧
  ∀ h' (m : Nat) (hint : Int), Chg h h' [] → a ≤ m → m < b → k (.tuple #[.int .i64 m, .int .i64 hint]) h'
theorem pivO_good : SpecGood Try.prog (63, pivO) := by
  refine spec_good mixed Try.func63 (by kernel_rfl) (by kernel_rfl) (tab := tabV) tabV_good (keep := slices_choosePivotOrdered_keep) ?_
  rintro args h k ⟨q, N, a, b, f, rfl, hN, hab, hb, d, H⟩
  refine ⟨0, ?_⟩
  show slices_choosePivotOrdered (tabC tabV) idG _ (vS q N) (.int .i64 a) (.int .i64 b) h _
  rw [slices_choosePivotOrdered_eq]
  obtain ⟨l, hl⟩ : ∃ l, l = b - a := ⟨_, rfl⟩
  obtain ⟨l4, hl4⟩ : ∃ l4, l4 = l / 4 := ⟨_, rfl⟩
  have w0 : IntKind.i64.wrap ((b : Int) - (a : Int)) = (l : Int) := by rw [i64_in _ (by omega)]; omega
  have q4 : binV .quo .other (.int .i64 (l : Int)) (.int .i64 4) = some (.int .i64 (l4 : Int)) := by rw [hl4]; exact quo_nat (b := 4) (by omega) (by omega)
  have w1 : IntKind.i64.wrap ((l4 : Int) * 1) = (l4 : Int) := by rw [i64_in _ (by omega)]; omega
  have w2 : IntKind.i64.wrap ((l4 : Int) * 2) = ((l4 * 2 : Nat) : Int) := by rw [i64_in _ (by omega)]; omega
  have w3 : IntKind.i64.wrap ((l4 : Int) * 3) = ((l4 * 3 : Nat) : Int) := by rw [i64_in _ (by omega)]; omega
  have u1 : IntKind.i64.wrap ((a : Int) + (l4 : Int)) = ((a + l4 : Nat) : Int) := by rw [i64_in _ (by omega)]; omega
  have u2 : IntKind.i64.wrap ((a : Int) + ((l4 * 2 : Nat) : Int)) = ((a + l4 * 2 : Nat) : Int) := by rw [i64_in _ (by omega)]; omega
  have u3 : IntKind.i64.wrap ((a : Int) + ((l4 * 3 : Nat) : Int)) = ((a + l4 * 3 : Nat) : Int) := by rw [i64_in _ (by omega)]; omega
  have g8 : (l : Int) ≥ 8 := by omega
  simp only [binV_sub, w0, bindV_some]
  refine allocE_in fun h1 c1 n1 o1 => ?_
  have d1 := d.chg c1 (by simp)
  have pq : h.next ≠ q := by have := d.1; omega
  simp only [binNil_int, q4, bindV_some, binV_mul, w1, w2, w3, binV_add, u1, u2, u3, binV_geq, g8, decide_true, condK_bool, if_true]
  -- the end
  have fin : ∀ (h' : St) (s : Int) (m : Nat) (x10 x12 : Value), Chg h h' [] → h'.objs h.next = some (.cells [.int .i64 s] true) → a ≤ m → m < b → slices_choosePivotOrdered_j1 (tabC tabV) idG 0 (vS q N) (.int .i64 0) (.int .i64 0) (.pointer (some ⟨h.next, 0, none⟩)) x10 (.int .i64 (m : Int)) x12 h' fun v h1 => ∃ h2, St.le h2 h1 ∧ k v h2 := by
    intro h' s m x10 x12 c' o' m1 m2
    rw [slices_choosePivotOrdered_j1_eq]
    simp only [loadV_ptr, o', loadM_cells, partV_one, List.getElem?_cons_zero, bindV_some, binNil_int, binV_eql, condK_bool]
    split
    · exact ⟨h', St.le.refl _, H h' m 1 c' m1 m2⟩
    · simp only [binNil_int, binV_eql, bindV_some, condK_bool]
      split
      · exact ⟨h', St.le.refl _, H h' m 2 c' m1 m2⟩
      · exact ⟨h', St.le.refl _, H h' m 0 c' m1 m2⟩
  have med : ∀ (h' : St) (s : Int) (m1 m2 m3 : Nat), Chg h h' [] → h.next < h'.next → h'.objs h.next = some (.cells [.int .i64 s] true) → a ≤ m1 ∧ m1 < b → a ≤ m2 ∧ m2 < b → a ≤ m3 ∧ m3 < b → slices_choosePivotOrdered_j0 (tabC tabV) idG 0 (vS q N) (.int .i64 0) (.int .i64 0) (.pointer (some ⟨h.next, 0, none⟩)) (.int .i64 (m1 : Int)) (.int .i64 (m2 : Int)) (.int .i64 (m3 : Int)) h' fun v h1 => ∃ h2, St.le h2 h1 ∧ k v h2 := by
    intro h' s m1 m2 m3 c' l' o' b1 b2 b3
    rw [slices_choosePivotOrdered_j0_eq]
    refine cK (S := medO) (by simp [tabV]) ⟨q, N, m1, m2, m3, h.next, f, s, rfl, by omega, by omega, by omega, d.chg c' (by simp), pq, l', o', fun h2 s2 m c2 o2 e => ?_⟩
    simp only [idG_eq]
    exact fin h2 s2 m _ _ (c'.new c2 (Nat.le_refl _)) o2 (by omega) (by omega)
  by_cases g50 : (l : Int) ≥ 50
  · simp only [g50, decide_true, if_true]
    refine cK (S := medAO) (by simp [tabV]) ⟨q, N, a + l4, h.next, f, 0, rfl, hN, by omega, by omega, d1, pq, by omega, o1, fun h2 s2 m1 c2 o2 b1 b1' => ?_⟩
    have n2 := c2.1
    refine cK (S := medAO) (by simp [tabV]) ⟨q, N, a + l4 * 2, h.next, f, s2, rfl, hN, by omega, by omega, d1.chg c2 (by simpa using Ne.symm pq), pq, by omega, o2, fun h3 s3 m2 c3 o3 b2 b2' => ?_⟩
    have n3 := c3.1
    refine cK (S := medAO) (by simp [tabV]) ⟨q, N, a + l4 * 3, h.next, f, s3, rfl, hN, by omega, by omega, (d1.chg c2 (by simpa using Ne.symm pq)).chg c3 (by simpa using Ne.symm pq), pq, by omega, o3, fun h4 s4 m3 c4 o4 b3 b3' => ?_⟩
    have n4 := c4.1
    simp only [idG_eq]
    exact med h4 s4 m1 m2 m3 (((c1.new c2 (Nat.le_refl _)).new c3 (Nat.le_refl _)).new c4 (Nat.le_refl _)) (by omega) o4 (by omega) (by omega) (by omega)
  · simp only [g50, decide_false, Bool.false_eq_true, if_false, idG_eq]
    exact med h1 0 _ _ _ c1 (by omega) o1 (by omega) (by omega) (by omega)
end Go.Proofs.Ytnelcpabjpchnaa
