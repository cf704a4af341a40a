/- The document's pool, walked: who is late, an act. -/
import Derived.Test.YtomjbkembmimbaaJ
set_option linter.unusedSimpArgs false
set_option linter.unusedVariables false
set_option maxHeartbeats 4000000
namespace Go.Proofs.Ytomjbkembmimbaa
open Go.Abs Go.IntWalk
attribute [local congr] bindV_weak condK_weak guardK_weak groupK_weak allocE_weak boxE_weak storeE_weak storeM_weak tabC_weak ite_weak idG_weak

/-! ### Late -/
def refLateS : Abs.Spec := fun args h k => ∃ (B : Nat → Prop) (s : Value) (A : List Inst) (beat now : Int), args = [encR s beat, .int .i64 now] ∧ A.length ≤ 16 ∧ SliceAt B h s A.length 3 (rowI A) ∧ In64 beat ∧ (∀ x ∈ A, In64 x.last) ∧
  ∀ h' v', Chg h h' [] → OwnS (h.next ≤ ·) h' v' 1 ((lateL beat now A 0).map uc) (lateL beat now A 0).length → k v' h'
theorem refLate_l0 {B : Nat → Prop} {s x4 : Value} {A : List Inst} {beat now : Int} {p nn : Nat} {h0 : St} {K : Cont} (hA : A.length ≤ 16) (hp : p < h0.next) (o0 : h0.objs p = some (.cells [s, .int .i64 beat] true)) (sl : SliceAt B h0 s A.length 3 (rowI A)) (hb : In64 beat) (hl : ∀ x ∈ A, In64 x.last) :
    ∀ (d i m0 : Nat) (h : St) (x5 : Value) (l : List Nat), i + d = A.length → d < m0 → l.length ≤ i → Chg h0 h [] → OwnS (h0.next ≤ ·) h x5 1 (l.map uc) l.length → (∀ h' v', Chg h0 h' [] → OwnS (h0.next ≤ ·) h' v' 1 ((l ++ lateL beat now (A.drop i) i).map uc) (l ++ lateL beat now (A.drop i) i).length → K v' h') →
      tiltyardref21_Late_l0 (tabC [(14, addS)]) idG nn m0 (.int .i64 now) (ptr p) x4 x5 (.int .i64 i) h K := by
  intro d
  induction d with
  | zero =>
    intro i m0 h x5 l hi hm hll c o H
    obtain ⟨m0, rfl⟩ : ∃ m, m0 = m + 1 := ⟨m0 - 1, by omega⟩
    rw [tiltyardref21_Late_l0_eq]
    have e : i = A.length := by omega
    subst e
    rw [List.drop_length] at H
    simp only [lateL, List.append_nil] at H
    have o2 := c.at hp (by simp) o0
    simp [ptr, o2, sl.len]
    rw [tiltyardref21_Late_j2_eq]
    exact H h x5 c o
  | succ d ih =>
    intro i m0 h x5 l hi hm hll c o H
    obtain ⟨m0, rfl⟩ : ∃ m, m0 = m + 1 := ⟨m0 - 1, by omega⟩
    rw [tiltyardref21_Late_l0_eq]
    have hlt : (i : Int) < A.length := by omega
    have hi' : i < A.length := by omega
    have hd : A.drop i = A[i] :: A.drop (i + 1) := List.drop_eq_getElem_cons hi'
    rw [hd] at H
    simp only [lateL] at H
    have o2 := c.at hp (by simp) o0
    have slh := sl.chg c (by simp)
    obtain ⟨b, o', g1, g2, g3, cs', own, g4, g5⟩ := slh.idx (Int.natCast_nonneg i) hlt .i64
    rw [Int.toNat_natCast, rowI_at hi'] at g5
    have g6 := takeN_get g5 (j := 0) (by omega)
    have g7 := takeN_get g5 (j := 2) (by omega)
    simp only [cellsI, List.getElem?_cons_zero, List.getElem?_cons_succ, Nat.add_zero] at g6 g7
    have w1 : IntKind.u32.wrap (i : Int) = i := u32_in _ (by omega)
    have w2 : IntKind.u32.wrap ((i : Int) + 1) = ((i + 1 : Nat) : Int) := by rw [u32_in _ (by omega)]; omega
    have inc : IntKind.i64.wrap ((i : Int) + 1) = ((i + 1 : Nat) : Int) := by rw [i64_in _ (by omega)]; omega
    have r1 := c.1
    have nx : ∀ (h' : St) (v' : Value) (l' : List Nat), Chg h0 h' [] → OwnS (h0.next ≤ ·) h' v' 1 (l'.map uc) l'.length → l'.length ≤ i + 1 → l' ++ lateL beat now (A.drop (i + 1)) (i + 1) = l ++ (if isLate beat now A[i] = true then (i + 1) :: lateL beat now (A.drop (i + 1)) (i + 1) else lateL beat now (A.drop (i + 1)) (i + 1)) →
        tiltyardref21_Late_j1 (tabC [(14, addS)]) idG nn m0 (.int .i64 now) (ptr p) x4 v' (.int .i64 i) h' K := by
      intro h' v' l' q1 q2 q3 q4
      rw [tiltyardref21_Late_j1_eq]
      simp only [binNil_int, binV_add, bindV_some, inc, idG_eq]
      exact ih (i + 1) m0 h' v' l' (by omega) (by omega) q3 q1 q2 (by rw [q4]; exact H)
    have hla := hl A[i] (List.getElem_mem _)
    simp only [ptr, offV_ptr, bindV_some, loadV_ptr, o2, loadM_cells, partV_one, Nat.add_zero, Nat.zero_add, List.getElem?_cons_zero, List.getElem?_cons_succ, sl.len, binV_lss, hlt, decide_true, condK_bool, if_true, idG_eq, true_and, g1, g4, g6, g7, binNil_int, binV_neq, groupK_eq, guardK_bool]
    by_cases hs : A[i].st = 0
    · have il : isLate beat now A[i] = false := by simp [isLate, hs]
      simp only [hs, ne_eq, not_true_eq_false, decide_false, Bool.false_eq_true, if_false, getT, pickV_bool, bindV_some, condK_bool, idG_eq]
      exact nx h x5 l c o (by omega) (by rw [il]; simp)
    · simp only [hs, ne_eq, not_false_eq_true, decide_true, if_true]
      refine .inl ⟨rfl, _, _, rfl, hla, hb, ?_⟩
      by_cases ht : addZ A[i].last beat ≤ now
      · have il : isLate beat now A[i] = true := by simp [isLate, hs]; exact ht
        simp only [true_and, binV_leq, bindV_some, ht, decide_true, getT, List.getElem?_cons_zero, List.getElem?_cons_succ, pickV_bool, if_true, condK_bool, idG_eq, wrapV_int, w1, binNil_int, binV_add, w2]
        simp [buildSliceE, fillL, repL, allOne_eq]
        have s5 := o.chg (Chg.push (h := h) (.cells [.int .u32 ((i : Int) + 1)] true) []) (by simp)
        refine append_own' (B := (h0.next ≤ ·)) (new := [.int .u32 ((i : Int) + 1)]) (m := 1) (by simp; omega) s5 (by simp [newCells]) rfl rfl (by omega) (by omega) fun h7 v7 c7 o7 => ?_
        have c07 : Chg h0 h7 [] := (((c.of_push (o := .cells [.int .u32 ((i : Int) + 1)] true)).toP (D := fun i => h0.next ≤ i) (by simp)).step c7).list (by intro i hi hh; omega)
        have e1 : l.map uc ++ [.int .u32 ((i : Int) + 1)] = (l ++ [i + 1]).map uc := by simp [uc]
        have e2 : l.length + 1 = (l ++ [i + 1]).length := by simp
        rw [e1, e2] at o7
        exact nx h7 v7 (l ++ [i + 1]) c07 o7 (by simp; omega) (by rw [il]; simp)
      · have il : isLate beat now A[i] = false := by simp [isLate, hs]; omega
        simp only [true_and, binV_leq, bindV_some, ht, decide_false, getT, List.getElem?_cons_zero, List.getElem?_cons_succ, pickV_bool, if_true, condK_bool, idG_eq, Bool.false_eq_true, if_false]
        exact nx h x5 l c o (by omega) (by rw [il]; simp)
theorem refLateS_good : SpecGood Try.prog (38, refLateS) := by
  refine spec_good mixed Try.func38 (by kernel_rfl) (by kernel_rfl) (tab := [(14, addS)]) (by simp [refAddS_good]) (keep := tiltyardref21_Late_keep) ?_
  rintro args h k ⟨B, s, A, beat, now, rfl, hA, sl, hb, hl, H⟩
  refine ⟨20, ?_⟩
  show tiltyardref21_Late (tabC [(14, addS)]) idG 20 (encR s beat) (.int .i64 now) h _
  rw [tiltyardref21_Late_eq]
  have c1 := Chg.push (h := h) (.cells [s, .int .i64 beat] true) []
  simp [encR, sl.one]
  exact refLate_l0 (beat := beat) (h0 := h.push (.cells [s, .int .i64 beat] true)) hA (by simp) (push_at _ _) (sl.chg c1 (by simp)) hb hl A.length 0 20 _ _ [] (by omega) (by omega) (by simp) (Chg.refl _ _) (.inl ⟨rfl, rfl, rfl⟩)
    fun h' v' c o => ⟨_, St.le.refl _, H h' v' (c1.of_chg c (by simp)) (by simpa using o.imp (B' := (h.next ≤ ·)) fun i _ (hh : h.next + 1 ≤ i) => by omega)⟩

/-! ### an act on the document's pool -/
def doR (A : List Inst) (beat : Int) (a : Act) : List Inst × Int × Int :=
  match atZ (some (A, beat)) a.id with
  | none => (A, 0, 12)
  | some i => (A.set i (doI (getA (some (A, beat)) i) a).2.2, (doI (getA (some (A, beat)) i) a).1, (doI (getA (some (A, beat)) i) a).2.1)
theorem doR_doZ {A : List Inst} {beat : Int} {a : Act} (h : ∀ x ∈ A, okI x) : doZ (some (A, beat)) a = ((doR A beat a).2.1, (doR A beat a).2.2, some ((doR A beat a).1, beat)) := by
  unfold doR
  cases ha : atZ (some (A, beat)) a.id with
  | none => rw [do_miss ha]
  | some i =>
    obtain ⟨A', b', e, hi, _, hx⟩ := at_some ha
    cases e
    have ok := h _ (List.mem_of_getElem? hx)
    rw [do_some ha ok.1]
    rfl
theorem doR_ok {A : List Inst} {beat : Int} {a : Act} (h : ∀ x ∈ A, okI x) : ∀ x ∈ (doR A beat a).1, okI x := by
  unfold doR
  cases ha : atZ (some (A, beat)) a.id with
  | none => exact h
  | some i =>
    obtain ⟨A', b', e, hi, _, hx⟩ := at_some ha
    cases e
    intro x hm
    rcases List.mem_or_eq_of_mem_set hm with hm | rfl
    · exact h x hm
    · exact doI_ok (h _ (List.mem_of_getElem? hx))
theorem doI_last {x : Inst} {a : Act} (h : In64 x.last) (ha : In64 a.now) : In64 (doI x a).2.2.last := by
  unfold doI
  repeat' split
  all_goals first | exact h | exact ha | (split <;> first | exact h | exact ha)
theorem doR_last {A : List Inst} {beat : Int} {a : Act} (ha : In64 a.now) (h : ∀ x ∈ A, In64 x.last) : ∀ x ∈ (doR A beat a).1, In64 x.last := by
  unfold doR
  cases hat : atZ (some (A, beat)) a.id with
  | none => exact h
  | some i =>
    obtain ⟨A', b', e, hi, _, hx⟩ := at_some hat
    cases e
    intro x hm
    rcases List.mem_or_eq_of_mem_set hm with hm | rfl
    · exact h x hm
    · exact doI_last (h _ (List.mem_of_getElem? hx)) ha
theorem doR_len {A : List Inst} {beat : Int} {a : Act} : (doR A beat a).1.length = A.length := by
  unfold doR
  split <;> simp
end Go.Proofs.Ytomjbkembmimbaa
