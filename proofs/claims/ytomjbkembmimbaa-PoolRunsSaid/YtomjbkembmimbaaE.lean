/- Who is late; 'PoolLate', walked. -/
import Derived.Test.YtomjbkembmimbaaD
import Derived.Test.YtomjbkembmimbaaGenL
set_option linter.unusedSimpArgs false
set_option linter.unusedVariables false
set_option maxHeartbeats 4000000
namespace Go.Proofs.Ytomjbkembmimbaa
open Go.Abs Go.IntWalk

def In64 (x : Int) : Prop := -9223372036854775808 ≤ x ∧ x ≤ 9223372036854775807
def addZ (a b : Int) : Int := if b ≤ 0 then a else if a > 9223372036854775807 - b then 9223372036854775807 else a + b
def addS : Abs.Spec := fun args h k => ∃ a b : Int, args = [.int .i64 a, .int .i64 b] ∧ In64 a ∧ In64 b ∧ k (.int .i64 (addZ a b)) h
theorem addS_good : SpecGood Try.prog (32, addS) := by
  refine spec_good mixed Try.func32 (by kernel_rfl) (by kernel_rfl) (tab := []) (by simp) (keep := timer_Add_keep) ?_
  rintro args h k ⟨a, b, rfl, ⟨ha, ha'⟩, ⟨hb, hb'⟩, H⟩
  refine ⟨0, ?_⟩
  show timer_Add (tabC []) idG 0 (.int .i64 a) (.int .i64 b) h _
  rw [timer_Add_eq]
  unfold addZ at H
  by_cases h0 : b ≤ 0
  · have m : ¬ b > 0 := by omega
    have w1 : IntKind.i64.wrap (9223372036854775807 - 0) = 9223372036854775807 := by decide
    have c : ¬ a > 9223372036854775807 := by omega
    have w2 : IntKind.i64.wrap (a + 0) = a := by rw [i64_in _ (by omega)]; omega
    rw [if_pos h0] at H
    simp only [maxV, if_true, m, if_false, bindV_some, binNil_int, binV_sub, w1, binV_gtr, c, decide_false, condK_bool, Bool.false_eq_true, idG_eq, binV_add, w2]
    exact ⟨_, St.le.refl _, H⟩
  · have m : b > 0 := by omega
    have w1 : IntKind.i64.wrap (9223372036854775807 - b) = 9223372036854775807 - b := i64_in _ (by omega)
    rw [if_neg h0] at H
    by_cases c : a > 9223372036854775807 - b
    · rw [if_pos c] at H
      simp only [maxV, if_true, m, bindV_some, binNil_int, binV_sub, w1, binV_gtr, c, decide_true, condK_bool]
      exact ⟨_, St.le.refl _, H⟩
    · rw [if_neg c] at H
      have w2 : IntKind.i64.wrap (a + b) = a + b := i64_in _ (by omega)
      simp only [maxV, if_true, m, bindV_some, binNil_int, binV_sub, w1, binV_gtr, c, decide_false, condK_bool, Bool.false_eq_true, if_false, idG_eq, binV_add, w2]
      exact ⟨_, St.le.refl _, H⟩
theorem refAddS_good : SpecGood Try.prog (14, addS) := by
  refine spec_good mixed Try.func14 (by kernel_rfl) (by kernel_rfl) (tab := []) (by simp) (keep := tiltyardref08_Add_keep) ?_
  rintro args h k ⟨a, b, rfl, ⟨ha, ha'⟩, ⟨hb, hb'⟩, H⟩
  refine ⟨0, ?_⟩
  show tiltyardref08_Add (tabC []) idG 0 (.int .i64 a) (.int .i64 b) h _
  rw [tiltyardref08_Add_eq]
  unfold addZ at H
  by_cases h0 : b ≤ 0
  · rw [if_pos h0] at H
    simp only [binNil_int, binV_leq, bindV_some, h0, decide_true, condK_bool, if_true]
    exact ⟨_, St.le.refl _, H⟩
  · rw [if_neg h0] at H
    by_cases c1 : a > 0
    · have w1 : IntKind.i64.wrap (9223372036854775807 - a) = 9223372036854775807 - a := i64_in _ (by omega)
      by_cases c : a > 9223372036854775807 - b
      · rw [if_pos c] at H
        have c' : b > 9223372036854775807 - a := by omega
        simp only [binNil_int, binV_leq, bindV_some, h0, decide_false, condK_bool, Bool.false_eq_true, if_false, idG_eq, binV_gtr, c1, decide_true, groupK_eq, guardK_bool, if_true, binV_sub, w1, c', getT, pickV_bool]
        exact ⟨_, St.le.refl _, H⟩
      · rw [if_neg c] at H
        have c' : ¬ b > 9223372036854775807 - a := by omega
        have w2 : IntKind.i64.wrap (a + b) = a + b := i64_in _ (by omega)
        simp only [binNil_int, binV_leq, bindV_some, h0, decide_false, condK_bool, Bool.false_eq_true, if_false, idG_eq, binV_gtr, c1, decide_true, groupK_eq, guardK_bool, if_true, binV_sub, w1, c', getT, pickV_bool, binV_add, w2]
        exact ⟨_, St.le.refl _, H⟩
    · have c : ¬ a > 9223372036854775807 - b := by omega
      rw [if_neg c] at H
      have w2 : IntKind.i64.wrap (a + b) = a + b := i64_in _ (by omega)
      simp [h0, c1, groupK_eq, getT, w2]
      exact ⟨_, St.le.refl _, H⟩

def isLate (beat now : Int) (x : Inst) : Bool := decide (x.st ≠ 0) && decide (now ≥ addZ x.last beat)
def lateL (beat now : Int) : List Inst → Nat → List Nat
  | [], _ => []
  | x :: A, i => if isLate beat now x = true then (i + 1) :: lateL beat now A (i + 1) else lateL beat now A (i + 1)
def uc (n : Nat) : Value := .int .u32 n
def lateS : Abs.Spec := fun args h k => ∃ (v : Value) (q : Nat) (A : List Inst) (beat now : Int), args = [v, .int .i64 now] ∧ PAt h v q (some (A, beat)) ∧ In64 beat ∧ (∀ x ∈ A, In64 x.last) ∧
  ∀ h' v', Chg h h' [] → OwnS (h.next ≤ ·) h' v' 1 ((lateL beat now A 0).map uc) (lateL beat now A 0).length → k v' h'
def tabL : List (FuncId × Abs.Spec) := [(22, manyS), (32, addS)]
theorem late_l0 {p q nn : Nat} {x4 : Value} {A : List Inst} {beat now : Int} {h0 : St} {K : Cont} (hA : A.length ≤ 16) (hp : p < h0.next) (hq : q < h0.next) (hpo : h0.objs p = some (.cells [.slice (some ⟨q, 0, some 3⟩) A.length 0, .int .i64 beat] true)) (ho : h0.objs q = some (.cells (flat A) true)) (hb : In64 beat) (hl : ∀ x ∈ A, In64 x.last) :
    ∀ (d i m0 : Nat) (h : St) (x5 : Value) (l : List Nat), i + d = A.length → d < m0 → l.length ≤ i → Chg h0 h [] → OwnS (h0.next ≤ ·) h x5 1 (l.map uc) l.length → (∀ h' v', Chg h0 h' [] → OwnS (h0.next ≤ ·) h' v' 1 ((l ++ lateL beat now (A.drop i) i).map uc) (l ++ lateL beat now (A.drop i) i).length → K v' h') →
      pool_Pool_Late_l0 (tabC tabL) idG nn m0 (.pointer (some ⟨p, 0, none⟩)) (.int .i64 now) x4 x5 (.int .i64 A.length) (.int .i64 i) h K := by
  intro d
  induction d with
  | zero =>
    intro i m0 h x5 l hi hm hll c o H
    obtain ⟨m0, rfl⟩ : ∃ m, m0 = m + 1 := ⟨m0 - 1, by omega⟩
    rw [pool_Pool_Late_l0_eq]
    have e : i = A.length := by omega
    subst e
    rw [List.drop_length] at H
    simp only [lateL, List.append_nil] at H
    simp only [bindV_some, binV_lss, condK_bool, Int.lt_irrefl, decide_false, Bool.false_eq_true, if_false, idG_eq]
    rw [pool_Pool_Late_j2_eq]
    exact H h x5 c o
  | succ d ih =>
    intro i m0 h x5 l hi hm hll c o H
    obtain ⟨m0, rfl⟩ : ∃ m, m0 = m + 1 := ⟨m0 - 1, by omega⟩
    rw [pool_Pool_Late_l0_eq]
    have hlt : (i : Int) < A.length := by omega
    have hi' : i < A.length := by omega
    have hd : A.drop i = A[i] :: A.drop (i + 1) := List.drop_eq_getElem_cons hi'
    rw [hd] at H
    simp only [lateL] at H
    have f := flat_take (A := A) (i := i) (x := A[i]) (List.getElem?_eq_getElem hi')
    have o1 := c.at hp (by simp) hpo
    have o2 := c.at hq (by simp) ho
    have r1 := c.1
    have hx : idxS 3 (.slice (some ⟨q, 0, some 3⟩) A.length 0) (.int .i64 (i : Int)) = some (.pointer (some ⟨q, i * 3, none⟩)) := by simp [idxS, hi']
    obtain ⟨g, hg⟩ : ∃ g, g = (h.push (.cells [.int .i64 0, .int .u32 0, .int .i64 0] true)).set h.next (.cells (cellsI A[i]) true) := ⟨_, rfl⟩
    have cg : Chg h g [] := by rw [hg]; exact Chg.of_set (Chg.push _ []) (.inr (Nat.le_refl _))
    have b1 : g.objs h.next = some (.cells [.int .i64 A[i].st, .int .u32 A[i].m, .int .i64 A[i].last] true) := by rw [hg]; exact set_at _ _ _
    have hg' : (h.push (.cells [.int .i64 0, .int .u32 0, .int .i64 0] true)).set h.next (.cells ([] ++ (cellsI A[i]).toArray.toList ++ List.drop (0 + 3) [.int .i64 0, .int .u32 0, .int .i64 0]) true) = g := by rw [hg]; rfl
    have b2 := cg.at (by omega) (by simp) o1
    have cc : Chg h0 g [] := c.of_chg cg (by simp)
    have og := o.chg cg (by simp)
    have inc : IntKind.i64.wrap ((i : Int) + 1) = ((i + 1 : Nat) : Int) := by rw [i64_in _ (by omega)]; omega
    have w1 : IntKind.u32.wrap (i : Int) = i := u32_in _ (by omega)
    have w2 : IntKind.u32.wrap ((i : Int) + 1) = ((i + 1 : Nat) : Int) := by rw [u32_in _ (by omega)]; omega
    have nx : ∀ (h' : St) (v' : Value) (l' : List Nat), Chg h0 h' [] → OwnS (h0.next ≤ ·) h' v' 1 (l'.map uc) l'.length → l'.length ≤ i + 1 → l' ++ lateL beat now (A.drop (i + 1)) (i + 1) = l ++ (if isLate beat now A[i] = true then (i + 1) :: lateL beat now (A.drop (i + 1)) (i + 1) else lateL beat now (A.drop (i + 1)) (i + 1)) →
        pool_Pool_Late_j1 (tabC tabL) idG nn m0 (.pointer (some ⟨p, 0, none⟩)) (.int .i64 now) x4 v' (.int .i64 A.length) (.int .i64 i) h' K := by
      intro h' v' l' q1 q2 q3 q4
      rw [pool_Pool_Late_j1_eq]
      simp only [binNil_int, binV_add, bindV_some, inc, idG_eq]
      exact ih (i + 1) m0 h' v' l' (by omega) (by omega) q3 q1 q2 (by rw [q4]; exact H)
    simp only [bindV_some, binV_lss, condK_bool, hlt, decide_true, if_true, idG_eq, nilV_ptr, offV_ptr, Nat.add_zero, loadV_ptr, o1, loadM_cells, partV_one, List.getElem?_cons_zero, hx, o2, partV_agg, f, Option.map_some, allocE_some, storeE_ptr, push_at, storeM_cells, cells_agg, List.take_zero]
    refine ⟨⟨rfl, by simp, rfl⟩, ?_⟩
    rw [hg']
    have hla := hl A[i] (List.getElem_mem _)
    simp only [b1, loadM_cells, partV_one, Nat.zero_add, List.getElem?_cons_succ, List.getElem?_cons_zero, bindV_some, true_and, binNil_int, binV_neq, groupK_eq, guardK_bool]
    by_cases hs : A[i].st = 0
    · have il : isLate beat now A[i] = false := by simp [isLate, hs]
      simp only [hs, ne_eq, not_true_eq_false, decide_false, Bool.false_eq_true, if_false, getT, pickV_bool, bindV_some]
      exact nx g x5 l cc og (by omega) (by rw [il]; simp)
    · simp only [hs, ne_eq, not_false_eq_true, decide_true, if_true, b2, loadM_cells, partV_one, Nat.zero_add, List.getElem?_cons_succ, List.getElem?_cons_zero, bindV_some, true_and]
      refine .inr (.inl ⟨rfl, _, _, rfl, hla, hb, ?_⟩)
      by_cases ht : now ≥ addZ A[i].last beat
      · have il : isLate beat now A[i] = true := by simp [isLate, hs]; exact ht
        have wu : IntKind.u32.wrap (i : Int) = i := w1
        simp only [binV_geq, bindV_some, ge_iff_le, ge_iff_le.1 ht, decide_true, true_and, getT, pickV_bool, if_true, wrapV_int, w1, binNil_int, binV_add, w2]
        simp [buildSliceE, fillL, repL, allOne_eq]
        have s5 := og.chgP (D := fun _ => False) ((ChgP.refl _ g).of_push (o := .cells [.int .u32 ((i : Int) + 1)] true)) (fun _ h => h.elim)
        refine append_own' (B := (h0.next ≤ ·)) (new := [.int .u32 ((i : Int) + 1)]) (m := 1) (by simp; exact Nat.le_trans cc.1 (Nat.le_succ _)) s5 (by simp [newCells]) rfl rfl (by omega) (by omega) fun h7 v7 c7 o7 => ?_
        have c07 : Chg h0 h7 [] := (((cc.of_push (o := .cells [.int .u32 ((i : Int) + 1)] true)).toP (D := fun i => h0.next ≤ i) (by simp)).step c7).list (by intro i hi hh; omega)
        have e1 : l.map uc ++ [.int .u32 ((i : Int) + 1)] = (l ++ [i + 1]).map uc := by simp [uc]
        have e2 : l.length + 1 = (l ++ [i + 1]).length := by simp
        rw [e1, e2] at o7
        exact nx h7 v7 (l ++ [i + 1]) c07 o7 (by simp; omega) (by rw [il]; simp)
      · have il : isLate beat now A[i] = false := by simp [isLate, hs]; omega
        have ht' : ¬ addZ A[i].last beat ≤ now := ht
        simp only [binV_geq, bindV_some, ge_iff_le, ht', decide_false, true_and, getT, pickV_bool, Bool.false_eq_true, if_false, if_true]
        exact nx g x5 l cc og (by omega) (by rw [il]; simp)
theorem lateS_good : SpecGood Try.prog (15, lateS) := by
  refine spec_good mixed Try.func15 (by kernel_rfl) (by kernel_rfl) (tab := tabL) (by simp [tabL, manyS_good, addS_good]) (keep := pool_Pool_Late_keep) ?_
  rintro args h k ⟨v, q, A, beat, now, rfl, p, hb, hl, H⟩
  refine ⟨20, ?_⟩
  show pool_Pool_Late (tabC tabL) idG 20 v (.int .i64 now) h _
  rw [pool_Pool_Late_eq]
  refine .inl ⟨rfl, v, q, _, rfl, p, ?_⟩
  obtain ⟨pp, h1, h2, h3, h4, h5, h6, h7⟩ := p
  subst h1
  simp only [manyZ, idG_eq]
  exact late_l0 h5 h2 h3 h6 h7 hb hl A.length 0 20 h _ [] (by omega) (by omega) (by simp) (Chg.refl _ _) (.inl ⟨rfl, rfl, rfl⟩) fun h' v' c o => ⟨_, St.le.refl _, H h' v' c (by simpa using o)⟩
end Go.Proofs.Ytomjbkembmimbaa
