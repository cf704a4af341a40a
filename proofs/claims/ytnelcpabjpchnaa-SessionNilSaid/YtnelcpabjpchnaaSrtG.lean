/- The library's sort: all of it. -/
import Derived.Test.YtnelcpabjpchnaaSrtF
set_option linter.unusedSimpArgs false
set_option linter.unusedVariables false
set_option maxHeartbeats 4000000
namespace Go.Proofs.Ytnelcpabjpchnaa
open Go.Abs Go.IntWalk
attribute [local congr] bindV_weak condK_weak guardK_weak groupK_weak allocE_weak boxE_weak storeE_weak storeM_weak tabC_weak ite_weak idG_weak appendE_weak buildSliceE_weak mapUpdateE_weak deleteE_weak makeMapE_weak copyE_weak clearE_weak callE_weak

def tabQ (n : Nat) : List (FuncId × Abs.Spec) := [(60, insO), (61, heapO), (62, brkO), (63, pivO), (64, revO), (65, pinO), (66, lessO), (67, peqO), (68, parO), (50, pdqO n)]
theorem ord_left {f g : Nat → Int} {A B a b m : Nat} (od : Ord f A B a b) (p : Parted f a b m) (s : SwS a m f g) (srt : Srt g a m) : Ord g A B (m + 1) b := by
  obtain ⟨p1, p2, p3, p4⟩ := p
  refine (od.perm (s.mono (Nat.le_refl _) (by omega))).front ⟨by omega, by omega⟩ fun x y x1 xy yb xm => ?_
  have lo : ∀ z, a ≤ z → z < m → g z ≤ f m := s.all (P := fun v => v ≤ f m) p3
  have hi : ∀ z, m ≤ z → g z = f z := fun z hz => s.out (.inr hz)
  by_cases e : x < m
  · by_cases e2 : y < m
    · exact srt x y x1 xy e2
    · rw [hi y (by omega)]
      by_cases e3 : y = m
      · subst e3; exact lo x x1 e
      · exact Int.le_trans (lo x x1 e) (p4 y (by omega) yb)
  · have : x = m := by omega
    subst this
    rw [hi x (by omega), hi y (by omega)]
    exact p4 y (by omega) yb
theorem ord_right {f g : Nat → Int} {A B a b m : Nat} (od : Ord f A B a b) (p : Parted f a b m) (s : SwS (m + 1) b f g) (srt : Srt g (m + 1) b) : Ord g A B a m := by
  obtain ⟨p1, p2, p3, p4⟩ := p
  refine (od.perm (s.mono (by omega) (Nat.le_refl _))).back ⟨by omega, by omega⟩ fun x y x1 xy yb xm => ?_
  have hi : ∀ z, m + 1 ≤ z → z < b → f m ≤ g z := s.all (P := fun v => f m ≤ v) (fun z z1 z2 => p4 z (by omega) z2)
  have lo : ∀ z, z ≤ m → g z = f z := fun z hz => s.out (.inl (by omega))
  by_cases e : m < x
  · exact srt x y (by omega) xy yb
  · rw [lo x (by omega)]
    have fx : f x ≤ f m := by
      by_cases e3 : x = m
      · subst e3; exact Int.le_refl _
      · exact p3 x x1 (by omega)
    by_cases e2 : y = m
    · subst e2; rw [lo y (by omega)]; exact fx
    · exact Int.le_trans fx (hi y (by omega) yb)
theorem ord_eq {f g : Nat → Int} {A B a b m : Nat} (od : Ord g A B a b) (lb : LB g a b) (h0 : 0 < a) (le : g a ≤ g (a - 1)) (e : EqP g a b m) : Ord g A B m b := by
  obtain ⟨e1, e2, e3, e4⟩ := e
  refine od.front ⟨by omega, e2⟩ fun x y x1 xy yb xm => ?_
  exact Int.le_trans (Int.le_trans (e3 x x1 xm) le) (lb h0 y (by omega) yb)
section
variable {q N A B n nn : Nat} {k : Cont} {h0 : St} {f0 : Nat → Int}
theorem pdq_l0 (hN : N ≤ 255) (hB : B ≤ N) (hn : B - A ≤ n)
    (H : ∀ h' f', Chg h0 h' [q] → Dat q N f' h' → SwS A B f0 f' → Srt f' A B → k (.tuple #[]) h') :
    ∀ (d a b l m0 : Nat) (h : St) (f : Nat → Int) (wb wp : Bool) (x10 x11 x12 : Value), b - a ≤ d → d < m0 → l ≤ 255 → Chg h0 h [q] → Dat q N f h → SwS A B f0 f → Ord f A B a b → LB f A B →
      slices_pdqsortOrdered_l0 (tabC (tabQ n)) idG nn m0 (vS q N) (.int .i64 a) (.int .i64 b) (.int .i64 l) (.bool wb) (.bool wp) x10 x11 x12 h k := by
  intro d
  induction d using Nat.strongRecOn with
  | ind d ih =>
    intro a b l m0 h f wb wp x10 x11 x12 hd hm hl c dt s od lb
    obtain ⟨m0, rfl⟩ : ∃ m, m0 = m + 1 := ⟨m0 - 1, by omega⟩
    rw [slices_pdqsortOrdered_l0_eq]
    have ab := od.2.1
    have Aa := od.1
    have bB := od.2.2.1
    -- a part sorted at the end
    have fin : ∀ h1 f1, Chg h0 h1 [q] → Dat q N f1 h1 → SwS A B f0 f1 → Ord f1 A B a b → Srt f1 a b → k (.tuple #[]) h1 := fun h1 f1 c1 d1 s1 o1 t1 => H h1 f1 c1 d1 s1 (o1.done t1)
    simp only [binV_sub, i64_dif ab (show b ≤ 1000000 by omega), bindV_some, binNil_int, binV_leq, condK_bool]
    by_cases g : ((b - a : Nat) : Int) ≤ 12
    · simp only [g, decide_true, if_true]
      refine cK (S := insO) (by simp [tabQ]) ⟨q, N, a, b, f, rfl, hN, ab, by omega, dt, fun h1 f1 c1 d1 s1 t1 => ?_⟩
      exact fin h1 f1 (c.of_chg c1 (by simp)) d1 (s.trans (s1.mono Aa bB)) (od.perm s1) t1
    · simp only [g, decide_false, Bool.false_eq_true, if_false, idG_eq, binNil_int, binV_eql, bindV_some, condK_bool]
      by_cases l0 : (l : Int) = 0
      · simp only [l0, decide_true, if_true]
        refine cK (S := heapO) (by simp [tabQ]) ⟨q, N, a, b, f, rfl, hN, by omega, by omega, dt, fun h1 f1 c1 d1 s1 t1 => ?_⟩
        exact fin h1 f1 (c.of_chg c1 (by simp)) d1 (s.trans (s1.mono Aa bB)) (od.perm s1) t1
      · -- behind the choice
        have j3 : ∀ (h : St) (f : Nat → Int) (l p : Nat) (x12 : Value), l ≤ 255 → Chg h0 h [q] → Dat q N f h → SwS A B f0 f → Ord f A B a b → LB f A B → a ≤ p → p < b →
            slices_pdqsortOrdered_j3 (tabC (tabQ n)) idG nn m0 (vS q N) (.int .i64 a) (.int .i64 b) (.int .i64 l) (.bool wb) (.bool wp) (.int .i64 ((b - a : Nat) : Int)) (.int .i64 p) x12 h k := by
          intro h f l p x12 hl c dt s od lb p1 p2
          rw [slices_pdqsortOrdered_j3_eq]
          have pN : p < N := by omega
          have par : tabC (tabQ n) 68 [vS q N, .int .i64 a, .int .i64 b, .int .i64 p] h fun v99 h18 => bindV (extV 0 v99) fun v100 => bindV (extV 1 v99) fun v101 => bindV (binV .sub .other v100 (.int .i64 (a : Int))) fun v105 => bindV (binV .sub .other (.int .i64 (b : Int)) v100) fun v108 => bindV (binNil .quo .other (.int .i64 ((b - a : Nat) : Int)) (.int .i64 8)) fun v110 => bindV (binV .lss .other v105 v108) fun v113 => condK v113 (bindV (binV .geq .other v105 v110) fun v116 => tabC (tabQ n) 50 [vS q N, .int .i64 a, v100, .int .i64 l] h18 fun _ h19 => bindV (binNil .add .other v100 (.int .i64 1)) fun v123 => idG (slices_pdqsortOrdered_l0 (tabC (tabQ n)) idG nn m0 (vS q N) v123 (.int .i64 b) (.int .i64 l) v116 v101 (.int .i64 ((b - a : Nat) : Int)) (.int .i64 p) x12 h19 k)) (bindV (binV .geq .other v108 v110) fun v126 => bindV (binNil .add .other v100 (.int .i64 1)) fun v129 => tabC (tabQ n) 50 [vS q N, v129, .int .i64 b, .int .i64 l] h18 fun _ h20 => idG (slices_pdqsortOrdered_l0 (tabC (tabQ n)) idG nn m0 (vS q N) (.int .i64 a) v100 (.int .i64 l) v126 v101 (.int .i64 ((b - a : Nat) : Int)) (.int .i64 p) x12 h20 k)) := by
            refine cK (S := parO) (by simp [tabQ]) ⟨q, N, a, b, p, f, rfl, hN, by omega, by omega, p1, p2, dt, fun h1 f1 m bb c1 d1 s1 pt => ?_⟩
            have od1 := od.perm s1
            have st1 : SwS A B f f1 := s1.mono Aa bB
            have lb1 := lb.perm st1
            have c01 := c.of_chg c1 (by simp)
            have pt0 := pt
            obtain ⟨m1, m2, m3, m4⟩ := pt
            have q8 : binV .quo .other (.int .i64 ((b - a : Nat) : Int)) (.int .i64 8) = some (.int .i64 (((b - a) / 8 : Nat) : Int)) := quo_nat (b := 8) (by omega) (by omega)
            simp only [extV_two0, extV_two1, bindV_some, binV_sub, i64_dif m1 (show m ≤ 1000000 by omega), i64_dif (show m ≤ b by omega) (show b ≤ 1000000 by omega), binNil_int, q8, binV_lss, condK_bool, binV_geq]
            by_cases lr : ((m - a : Nat) : Int) < ((b - m : Nat) : Int)
            · simp only [lr, decide_true, if_true, binV_geq, bindV_some]
              refine cK (S := pdqO n) (by simp [tabQ]) ⟨q, N, a, m, l, f1, rfl, hN, hl, m1, by omega, by omega, d1, fun h0 z z1 z2 => (od1.lb lb1) h0 z z1 (by omega), fun h2 f2 c2 d2 s2 t2 => ?_⟩
              simp only [binNil_int, binV_add, bindV_some, i64_up (show m ≤ 1000000 by omega), idG_eq]
              have st2 : SwS A B f1 f2 := s2.mono Aa (by omega)
              exact ih (b - (m + 1)) (by omega) (m + 1) b l m0 h2 f2 _ _ _ _ _ (Nat.le_refl _) (by omega) hl (c01.of_chg c2 (by simp)) d2 ((s.trans st1).trans st2) (ord_left od1 pt0 s2 t2) (lb1.perm st2)
            · simp only [lr, decide_false, Bool.false_eq_true, if_false, binV_geq, bindV_some, binNil_int, binV_add, i64_up (show m ≤ 1000000 by omega)]
              refine cK (S := pdqO n) (by simp [tabQ]) ⟨q, N, m + 1, b, l, f1, rfl, hN, hl, by omega, by omega, by omega, d1, fun h0 z z1 z2 => m4 z (by omega) z2, fun h2 f2 c2 d2 s2 t2 => ?_⟩
              simp only [idG_eq]
              have st2 : SwS A B f1 f2 := s2.mono (by omega) bB
              exact ih (m - a) (by omega) a m l m0 h2 f2 _ _ _ _ _ (Nat.le_refl _) (by omega) hl (c01.of_chg c2 (by simp)) d2 ((s.trans st1).trans st2) (ord_right od1 pt0 s2 t2) (lb1.perm st2)
          simp only [binNil_int, binV_gtr, bindV_some, groupK_eq, guardK_bool]
          by_cases a0 : (a : Int) > 0
          · have aN : a - 1 < N := by omega
            simp only [a0, decide_true, if_true, binNil_int, binV_sub, i64_dn (show 0 < a by omega) (show a ≤ 1000000 by omega), bindV_some, Dat.idx q aN, dt.load aN, true_and, Dat.idx q pN, dt.load pN]
            refine cK (S := lessO) (by simp [tabQ]) ⟨_, _, rfl, ?_⟩
            simp only [true_and, and_self, unV_not, bindV_some, idG_eq, a0, decide_true, pickV_bool, if_true, getT, condK_bool]
            by_cases le : f (a - 1) < f p
            · simp only [le, decide_true, Bool.not_true, Bool.false_eq_true, if_false]
              exact par
            · simp only [le, decide_false, Bool.not_false, if_true]
              refine cK (S := peqO) (by simp [tabQ]) ⟨q, N, a, b, p, f, rfl, hN, by omega, by omega, p1, p2, dt, fun h1 f1 m c1 d1 s1 fa ep => ?_⟩
              simp only [idG_eq]
              have st1 : SwS A B f f1 := s1.mono Aa bB
              have od1 := od.perm s1
              have lb1 := lb.perm st1
              have am := ep.1
              have mb := ep.2.1
              exact ih (b - m) (by omega) m b l m0 h1 f1 _ _ _ _ _ (Nat.le_refl _) (by omega) hl (c.of_chg c1 (by simp)) d1 (s.trans st1) (ord_eq (f := f) od1 (od1.lb lb1) (by omega) (by rw [fa, s1.out (.inl (by omega))]; omega) ep) lb1
          · simp only [a0, decide_false, Bool.false_eq_true, if_false, idG_eq, pickV_bool, bindV_some, condK_bool]
            exact par
        have j2 : ∀ (h : St) (f : Nat → Int) (l p : Nat) (hint : Int), l ≤ 255 → Chg h0 h [q] → Dat q N f h → SwS A B f0 f → Ord f A B a b → LB f A B → a ≤ p → p < b →
            slices_pdqsortOrdered_j2 (tabC (tabQ n)) idG nn m0 (vS q N) (.int .i64 a) (.int .i64 b) (.int .i64 l) (.bool wb) (.bool wp) (.int .i64 ((b - a : Nat) : Int)) (.int .i64 p) (.int .i64 hint) h k := by
          intro h f l p hint hl c dt s od lb p1 p2
          rw [slices_pdqsortOrdered_j2_eq]
          have pins : tabC (tabQ n) 65 [vS q N, .int .i64 a, .int .i64 b] h fun v72 h12 => condK v72 (k (.tuple #[]) h12) (idG (slices_pdqsortOrdered_j3 (tabC (tabQ n)) idG nn m0 (vS q N) (.int .i64 a) (.int .i64 b) (.int .i64 l) (.bool wb) (.bool wp) (.int .i64 ((b - a : Nat) : Int)) (.int .i64 p) (.int .i64 hint) h12 k)) := by
            refine cK (S := pinO) (by simp [tabQ]) ⟨q, N, a, b, f, rfl, hN, by omega, by omega, dt, od.lb lb, fun bb h1 f1 c1 d1 s1 t1 => ?_⟩
            have st1 : SwS A B f f1 := s1.mono Aa bB
            cases bb with
            | true =>
              simp only [condK_bool, if_true]
              exact fin h1 f1 (c.of_chg c1 (by simp)) d1 (s.trans st1) (od.perm s1) (t1 rfl)
            | false =>
              simp only [condK_bool, Bool.false_eq_true, if_false, idG_eq]
              exact j3 h1 f1 l p _ hl (c.of_chg c1 (by simp)) d1 (s.trans st1) (od.perm s1) (lb.perm st1) p1 p2
          have non := j3 h f l p (.int .i64 hint) hl c dt s od lb p1 p2
          cases wb with
          | false =>
            simp only [groupK_eq, guardK_bool, Bool.false_eq_true, if_false, idG_eq, pickV_bool, bindV_some, condK_bool]
            exact non
          | true =>
            cases wp with
            | false =>
              simp only [groupK_eq, guardK_bool, if_true, Bool.false_eq_true, if_false, idG_eq, pickV_bool, bindV_some, getT, condK_bool]
              exact non
            | true =>
              simp only [groupK_eq, guardK_bool, if_true, binNil_int, binV_eql, idG_eq, pickV_bool, bindV_some, getT, condK_bool]
              by_cases hh : hint = 1
              · simp only [hh, decide_true, if_true]
                exact pins
              · simp only [hh, decide_false, Bool.false_eq_true, if_false]
                exact non
        have j1 : ∀ (h : St) (f : Nat → Int) (l : Nat) (x11 x12 : Value), l ≤ 255 → Chg h0 h [q] → Dat q N f h → SwS A B f0 f → Ord f A B a b → LB f A B →
            slices_pdqsortOrdered_j1 (tabC (tabQ n)) idG nn m0 (vS q N) (.int .i64 a) (.int .i64 b) (.int .i64 l) (.bool wb) (.bool wp) (.int .i64 ((b - a : Nat) : Int)) x11 x12 h k := by
          intro h f l x11 x12 hl c dt s od lb
          rw [slices_pdqsortOrdered_j1_eq]
          refine cK (S := pivO) (by simp [tabQ]) ⟨q, N, a, b, f, rfl, hN, by omega, by omega, dt, fun h1 m hint c1 m1 m2 => ?_⟩
          have d1 := dt.chg c1 (by simp)
          have c01 : Chg h0 h1 [q] := c.of_chg c1 (by simp)
          simp only [extV_two0, extV_two1, bindV_some, binNil_int, binV_eql, condK_bool]
          by_cases hh : hint = 2
          · simp only [hh, decide_true, if_true]
            refine cK (S := revO) (by simp [tabQ]) ⟨q, N, a, b, f, rfl, hN, by omega, by omega, d1, fun h2 f2 c2 d2 s2 => ?_⟩
            have st2 : SwS A B f f2 := s2.mono Aa bB
            simp only [binNil_int, binV_sub, bindV_some, i64_dn (show 0 < b by omega) (show b ≤ 1000000 by omega), i64_dif m1 (show m ≤ 1000000 by omega), i64_dif (show m - a ≤ b - 1 by omega) (show b - 1 ≤ 1000000 by omega), idG_eq]
            exact j2 h2 f2 l _ 1 hl (c01.of_chg c2 (by simp)) d2 (s.trans st2) (od.perm s2) (lb.perm st2) (by omega) (by omega)
          · simp only [hh, decide_false, Bool.false_eq_true, if_false, idG_eq]
            exact j2 h1 f l m hint hl c01 d1 s od lb m1 m2
        simp only [l0, decide_false, Bool.false_eq_true, if_false, idG_eq, unV_not, bindV_some, condK_bool]
        cases wb with
        | false =>
          simp only [Bool.not_false, if_true]
          refine cK (S := brkO) (by simp [tabQ]) ⟨q, N, a, b, f, rfl, hN, by omega, by omega, dt, fun h1 f1 c1 d1 s1 => ?_⟩
          have st1 : SwS A B f f1 := s1.mono Aa bB
          simp only [binNil_int, binV_sub, bindV_some, i64_dn (show 0 < l by omega) (show l ≤ 1000000 by omega), idG_eq]
          exact j1 h1 f1 (l - 1) _ _ (by omega) (c.of_chg c1 (by simp)) d1 (s.trans st1) (od.perm s1) (lb.perm st1)
        | true =>
          simp only [Bool.not_true, Bool.false_eq_true, if_false]
          exact j1 h f l _ _ hl c dt s od lb
end
theorem pdqO_good : ∀ n, SpecGood Try.prog (50, pdqO n)
  | 0 => ⟨fun args h k ⟨q, N, a, b, l, f, _, _, _, _, _, hn, _⟩ => absurd hn (by omega), fun args h k ⟨q, N, a, b, l, f, _, _, _, _, _, hn, _⟩ => absurd hn (by omega)⟩
  | n + 1 => by
    have tg : ∀ p ∈ tabQ n, SpecGood Try.prog p := by simp [tabQ, insO_good, heapO_good, brkO_good, pivO_good, revO_good, pinO_good, lessO_good, peqO_good, parO_good, pdqO_good n]
    refine spec_good mixed Try.func50 (by kernel_rfl) (by kernel_rfl) (tab := tabQ n) tg (keep := slices_pdqsortOrdered_keep) ?_
    rintro args h k ⟨q, N, a, b, l, f, rfl, hN, hl, hab, hb, hn, d, lb, H⟩
    refine ⟨b + 2, ?_⟩
    show slices_pdqsortOrdered (tabC (tabQ n)) idG _ (vS q N) (.int .i64 a) (.int .i64 b) (.int .i64 l) h _
    rw [slices_pdqsortOrdered_eq]
    simp only [idG_eq]
    exact pdq_l0 hN hb (by omega) (fun h' f' c' d' s' t' => ⟨h', St.le.refl _, H h' f' c' d' s' t'⟩) (b - a) a b l _ h f true true _ _ _ (Nat.le_refl _) (by omega) hl (Chg.refl _ _) d (.refl _) (ord_start f hab) lb
/-! ### nothing to sort -/
def insN : Abs.Spec := fun args h k => args = [.slice none 0 0, .int .i64 0, .int .i64 0] ∧ k (.tuple #[]) h
theorem insN_good : SpecGood Try.prog (60, insN) := by
  refine spec_good mixed Try.func60 (by kernel_rfl) (by kernel_rfl) (tab := []) (by simp) (keep := slices_insertionSortOrdered_keep) ?_
  rintro args h k ⟨rfl, H⟩
  refine ⟨1, ?_⟩
  show slices_insertionSortOrdered (tabC []) idG _ (.slice none 0 0) (.int .i64 0) (.int .i64 0) h _
  rw [slices_insertionSortOrdered_eq]
  have w : IntKind.i64.wrap ((0 : Int) + 1) = 1 := i64_in _ (by omega)
  have e : ¬ (1 : Int) < 0 := by omega
  simp only [binNil_int, binV_add, bindV_some, w, idG_eq]
  rw [slices_insertionSortOrdered_l0_eq]
  simp only [binV_lss, bindV_some, condK_bool, e, decide_false, Bool.false_eq_true, if_false]
  exact ⟨h, St.le.refl _, H⟩
def pdqN : Abs.Spec := fun args h k => ∃ l : Int, args = [.slice none 0 0, .int .i64 0, .int .i64 0, .int .i64 l] ∧ k (.tuple #[]) h
theorem pdqN_good : SpecGood Try.prog (50, pdqN) := by
  refine spec_good mixed Try.func50 (by kernel_rfl) (by kernel_rfl) (tab := [(60, insN)]) (by simp [insN_good]) (keep := slices_pdqsortOrdered_keep) ?_
  rintro args h k ⟨l, rfl, H⟩
  refine ⟨1, ?_⟩
  show slices_pdqsortOrdered (tabC _) idG _ (.slice none 0 0) (.int .i64 0) (.int .i64 0) (.int .i64 l) h _
  rw [slices_pdqsortOrdered_eq]
  have w : IntKind.i64.wrap ((0 : Int) - 0) = 0 := i64_in _ (by omega)
  have e : (0 : Int) ≤ 12 := by omega
  simp only [idG_eq]
  rw [slices_pdqsortOrdered_l0_eq]
  simp only [binV_sub, bindV_some, w, binNil_int, binV_leq, condK_bool, e, decide_true, if_true]
  exact .inl ⟨rfl, rfl, h, St.le.refl _, H⟩
/-- A row of one's own is sorted. -/
def sortO : Abs.Spec := fun args h k => ∃ (B : Nat → Prop) (v : Value) (L : List Int), args = [v] ∧ L.length ≤ 255 ∧ OwnS B h v 1 (L.map (.int .u32)) L.length ∧
  ∀ h' (L' : List Int), ChgP B h h' → OwnS B h' v 1 (L'.map (.int .u32)) L'.length → L'.Perm L → L'.Pairwise (· ≤ ·) → k (.tuple #[]) h'
theorem cells_list (L : List Int) : L.map (Value.int .u32) = cellsS (fun i => L[i]?.getD 0) L.length := by
  apply List.ext_getElem?
  intro i
  by_cases hi : i < L.length
  · simp [cellsS, hi]
  · simp [cellsS, hi]
theorem sortO_good : SpecGood Try.prog (37, sortO) := by
  have tg : ∀ p ∈ [(51, lenO), (50, pdqO 256), (50, pdqN)], SpecGood Try.prog p := by simp [lenO_good, pdqO_good, pdqN_good]
  refine spec_good mixed Try.func37 (by kernel_rfl) (by kernel_rfl) (tab := [(51, lenO), (50, pdqO 256), (50, pdqN)]) tg (keep := slices_Sort_keep) ?_
  rintro args h k ⟨B, v, L, rfl, hl, s, H⟩
  refine ⟨0, ?_⟩
  show slices_Sort (tabC _) idG _ v h _
  rw [slices_Sort_eq]
  simp only [s.len, bindV_some, wrapV_int, u64_of (show L.length < 1000000 by omega)]
  refine .inl ⟨rfl, L.length, rfl, by omega, ?_⟩
  have l8 : lenOf L.length ≤ 8 := (lenOf_ok ⟨L.length, by omega⟩).1
  rcases s with ⟨rfl, h0, _⟩ | ⟨q, rfl, g2, g3, g4, g5⟩
  · -- nothing to sort
    have : L = [] := List.length_eq_zero_iff.1 h0
    subst this
    exact .inr (.inr (.inl ⟨rfl, _, rfl, h, St.le.refl _, H h [] (ChgP.refl _ _) (.inl ⟨rfl, rfl, rfl⟩) (.refl _) .nil⟩))
  · have d : Dat q L.length (fun i => L[i]?.getD 0) h := ⟨g3, by rw [g4, cells_list]⟩
    refine .inr (.inl ⟨rfl, q, L.length, 0, L.length, lenOf L.length, _, rfl, hl, by omega, by omega, by omega, by omega, d, fun h0 => absurd h0 (by omega), fun h' f' c' d' s' t' => ?_⟩)
    obtain ⟨L', hL'⟩ : ∃ L', L' = (List.range L.length).map f' := ⟨_, rfl⟩
    have len : L'.length = L.length := by rw [hL']; simp
    have hp : (List.range L.length).map (fun i => L[i]?.getD 0) = L := by
      apply List.ext_getElem?
      intro i
      by_cases hi : i < L.length
      · simp [hi]
      · simp [hi]
    have pm := s'.perm (Nat.le_refl L.length)
    rw [hp, ← hL'] at pm
    have cl : L'.map (Value.int .u32) = cellsS f' L.length := by rw [hL']; simp [cellsS, Function.comp_def]
    refine ⟨h', St.le.refl _, H h' L' (c'.toP (by simpa using g2)) (.inr ⟨q, by rw [len], g2, d'.1, by rw [d'.2, cl], by simp⟩) pm (by rw [hL']; exact t'.list)⟩
end Go.Proofs.Ytnelcpabjpchnaa
