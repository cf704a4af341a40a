/- A rack: Put, Add, Drop, Ids. -/
import Derived.Test.YtnelcpabjpchnaaRackC
set_option linter.unusedSimpArgs false
set_option linter.unusedVariables false
set_option maxHeartbeats 4000000
namespace Go.Proofs.Ytnelcpabjpchnaa
open Go.Abs Go.IntWalk
attribute [local congr] bindV_weak condK_weak guardK_weak groupK_weak allocE_weak boxE_weak storeE_weak storeM_weak tabC_weak ite_weak idG_weak appendE_weak buildSliceE_weak mapUpdateE_weak deleteE_weak makeMapE_weak copyE_weak clearE_weak callE_weak

/-- A row put into nothing. -/
def rinsN : Abs.Spec := fun args h k => ∃ (p : Nat) (row : List Value), args = [.slice none 0 0, .int .i64 0, .slice (some ⟨p, 0, some 3⟩) 1 0] ∧ h.objs p = some (.cells row true) ∧ row.length = 3 ∧ allOne row = true ∧
  ∀ h' q', Chg h h' [] → h.next ≤ q' → q' < h'.next → h'.objs q' = some (.cells row true) → k (.slice (some ⟨q', 0, some 3⟩) 1 0) h'
theorem rinsN_good : SpecGood Try.prog (48, rinsN) := by
  refine spec_good mixed Try.func48 (by kernel_rfl) (by kernel_rfl) (tab := []) (by simp) (keep := rack_Insert_keep) ?_
  rintro args h k ⟨p, row, rfl, op, lp, ap, H⟩
  refine ⟨0, ?_⟩
  show rack_Insert (tabC []) idG 0 (.slice none 0 0) (.int .i64 0) (.slice (some ⟨p, 0, some 3⟩) 1 0) h _
  rw [rack_Insert_eq]
  have z1 : ¬ ((1 : Nat) : Int) = 0 := by omega
  have c0 : cutS 3 (.slice none 0 0) (some (.int .i64 0)) none = some (.slice none 0 0) := by simp [cutS, loHi]
  have nr : newCells 3 (.slice (some ⟨p, 0, some 3⟩) 1 0) h = some (row, 1) := by
    rw [new_slice op (by omega)]
    rw [List.drop_zero, Nat.one_mul, ← lp, List.take_length]
  simp only [c0, bindV_some, lenS_slice, binNil_int, binV_eql, z1, decide_false, condK_bool, Bool.false_eq_true, if_false, idG_eq]
  simp only [Int.natCast_zero, Int.cast_ofNat_Int, binV_eql, decide_true, bindV_some, condK_bool, if_true]
  unfold appendE
  rw [nr]
  refine ⟨⟨by rw [allOne_eq]; exact ap, by omega, by omega⟩, ?_⟩
  exact ⟨_, St.le.refl _, H _ h.next (Chg.push _ _) (Nat.le_refl _) (by simp) (push_at _ _)⟩
/-! ### Put -/
def rkAns (L : List Rk) (most id : Nat) : Nat := if rightId id = true then (if (rkGet L id).isSome = true ∨ L.length < most then 0 else 10) else 14
def rkNext (L : List Rk) (most id : Nat) (c : List Value) : List Rk := if rkAns L most id = 0 then rkPut L id c else L
theorem flat_split {A B : List Rk} {x : Rk} : (A ++ x :: B).flatMap rowC = A.flatMap rowC ++ rowC x ++ B.flatMap rowC := by simp
def putO : Abs.Spec := fun args h k => ∃ (D : Nat → Prop) (v : Value) (most : Nat) (L : List Rk) (id : Nat) (c : List Value), args = [v, .int .u32 id, .agg c.toArray] ∧ (∀ i, h.next ≤ i → D i) ∧ RkS D h v most L ∧ c.length = 2 ∧ allOne c = true ∧
  ∀ h', ChgP D h h' → RkS D h' v most (rkNext L most id c) → k (.int .i64 (rkAns L most id)) h'
def tabPt : List (FuncId × Abs.Spec) := [(33, rightO), (47, atO), (48, rinsO), (48, rinsN)]
theorem tabPt_good : ∀ p ∈ tabPt, SpecGood Try.prog p := by simp [tabPt, rightO_good, atO_good, rinsO_good, rinsN_good]
theorem put_j0 {nn : Nat} {x0 x1 x5 : Value} {h : St} {k : Cont} (H : k (.int .i64 0) h) : rack_Put_j0 (tabC tabPt) idG nn x0 x1 x5 (.int .i64 0) h (fun v h1 => ∃ h2, St.le h2 h1 ∧ k v h2) := by
  rw [rack_Put_j0_eq]
  exact ⟨h, St.le.refl _, H⟩
theorem putO_good : SpecGood Try.prog (31, putO) := by
  refine spec_good mixed Try.func31 (by kernel_rfl) (by kernel_rfl) (tab := tabPt) tabPt_good (keep := rack_Put_keep) ?_
  rintro args h k ⟨D, v, most, L, id, c, rfl, hD, s, lc, oc, H⟩
  have s' := s
  obtain ⟨p, sv, rfl, dp, pn, op, os, r, few, mm⟩ := s'
  refine ⟨0, ?_⟩
  show rack_Put (tabC _) idG 0 (.pointer (some ⟨p, 0, none⟩)) (.int .u32 (id : Int)) (.agg c.toArray) h _
  rw [rack_Put_eq]
  refine boxE_in (by simpa [Value.cells] using oc) fun h1 c1 n1 o1 => ?_
  have o1 : h1.objs h.next = some (.cells c true) := o1
  have cnil : ∀ {h' : St}, Chg h h' [] → ChgP D h h' := fun c => c.nil D
  simp only [binNil_ptr_eql, Option.isNone_some, bindV_some, condK_bool, Bool.false_eq_true, if_false, idG_eq]
  refine .inl ⟨rfl, id, rfl, ?_⟩
  simp only [unV_not, bindV_some, condK_bool]
  cases hr : rightId id with
  | false =>
    have e : rkAns L most id = 14 := by unfold rkAns; rw [hr]; rfl
    simp only [Bool.not_false, if_true]
    have := H h1 (cnil c1)
    rw [rkNext, e, if_neg (by omega)] at this
    exact ⟨h1, St.le.refl _, this (s.chg0 c1)⟩
  | true =>
    have rid : 1 ≤ id ∧ id ≤ 2147483647 := by simpa [rightId] using hr
    simp only [Bool.not_true, Bool.false_eq_true, if_false, idG_eq]
    refine .inr (.inl ⟨rfl, D, _, most, L, id, rfl, s.chg0 c1, fun h2 A B c2 st => ?_⟩)
    have f := st.found r
    have cc := c1.seq c2
    have op2 := cc.at0 pn op
    have o2 := c2.at0 (by omega) o1
    have fl := flat_len r st
    have tk : takeN c 0 2 = some c := by unfold takeN; rw [if_pos (by omega), List.drop_zero, ← lc, List.take_length]
    simp only [extV_two0, extV_two1, bindV_some, condK_bool]
    cases hh : headId B id with
    | true =>
      obtain ⟨c', B', eB, hg⟩ := f.1 hh
      have e : rkAns L most id = 0 := by unfold rkAns; rw [hr, hg]; rfl
      have eL : L = A ++ (id, c') :: B' := by rw [st.eq, eB]
      have hA : A.length < L.length := by rw [eL]; simp
      have eN : rkNext L most id c = A ++ (id, c) :: B' := by rw [rkNext, if_pos e, st.put, eB, rkPut_in]
      rcases os with ⟨_, h0, _⟩ | ⟨q, rfl, q2, q3, q4, q5⟩
      · omega
      have q42 := cc.at0 q3 q4
      have m2 := cc.1
      have hA' : ((A.length : Nat) : Int) < (L.length : Nat) := by omega
      simp only [if_true, nilV, bindV_some, offV_ptr, loadV_ptr, op2, loadM_cells, partV_one, List.getElem?_cons_zero, Nat.zero_add]
      refine ⟨trivial, ?_⟩
      simp only [loadV_ptr, o2, loadM_cells, partV_agg, tk, Option.map_some, bindV_some]
      refine ⟨trivial, ?_⟩
      simp only [idxS, Int.natCast_nonneg, hA', and_self, if_true, bindV_some, offV_ptr, Int.toNat_natCast, Nat.zero_add]
      have lr : (rowC (id, c')).length = 3 := r.row _ (by rw [eL]; simp)
      have lf : (L.flatMap rowC).length = L.length * 3 := q5
      have le1 : (A.length + 1) * 3 ≤ L.length * 3 := Nat.mul_le_mul_right _ hA
      rw [Nat.add_mul] at le1
      have ecs : (L.flatMap rowC).take (A.length * 3 + 1) ++ c ++ (L.flatMap rowC).drop (A.length * 3 + 1 + 2) = (A ++ (id, c) :: B').flatMap rowC := by
        rw [flat_split, eL, flat_split, ← fl]
        have t1 : (A.flatMap rowC ++ rowC (id, c') ++ B'.flatMap rowC).take ((A.flatMap rowC).length + 1) = A.flatMap rowC ++ [.int .u32 (id : Int)] := by
          rw [List.append_assoc, List.take_append, Nat.add_sub_cancel_left, List.take_of_length_le (by omega)]
          rfl
        have t2 : (A.flatMap rowC ++ rowC (id, c') ++ B'.flatMap rowC).drop ((A.flatMap rowC).length + 1 + 2) = B'.flatMap rowC := by
          rw [List.drop_append, List.drop_of_length_le (by rw [List.length_append, lr]; omega), List.nil_append, List.length_append, lr]
          have : (A.flatMap rowC).length + 1 + 2 - ((A.flatMap rowC).length + 3) = 0 := by omega
          rw [this, List.drop_zero]
        rw [t1, t2]
        simp [rowC]
      refine storeE_in q42 _ (by simpa [Value.cells] using lc) (by rw [lf]; omega) (by simpa [Value.cells] using oc) (by simpa [Value.cells] using ecs) fun h5 c5 n5 o5 => ?_
      refine ⟨⟨trivial, trivial, trivial⟩, ?_⟩
      refine put_j0 ?_
      have := H h5 ((cnil cc).new c5 (.inl q2.1))
      rw [eN, e] at this
      refine this ⟨p, _, rfl, dp, by omega, c5.at1 (by omega) (fun e => q2.2 e.symm) op2, ?_, ?_, ?_, mm⟩
      · refine .inr ⟨q, ?_, q2, by omega, by simpa using o5, ?_⟩
        · rw [eL]; simp
        · rw [← ecs]
          simp only [List.length_append, List.length_take, List.length_drop, lf, lc, List.length_cons]
          rw [eL] at le1 ⊢
          simp only [List.length_append, List.length_cons] at le1 ⊢
          omega
      · have := r.put (c := c) rid.1 rid.2 lc oc (by rw [st.put, eB, rkPut_in]; rw [eL] at few; simp at few ⊢; omega)
        rw [st.put, eB, rkPut_in] at this
        exact this
      · rw [eL] at few; simpa using few
    | false =>
      obtain ⟨hg, hB⟩ := f.2 hh
      have put_out : rkPut L id c = A ++ (id, c) :: B := by rw [st.put, rkPut_out hB]
      simp only [Bool.false_eq_true, if_false, nilV, bindV_some, offV_ptr, loadV_ptr, op2, loadM_cells, partV_one, List.getElem?_cons_zero, Nat.zero_add]
      refine ⟨trivial, ?_⟩
      have ln : lenS sv = some (.int .i64 L.length) := os.len
      simp only [ln, nilV, bindV_some, offV_ptr, loadV_ptr, op2, loadM_cells, partV_one, List.getElem?_cons_succ, List.getElem?_cons_zero, Nat.zero_add]
      refine ⟨trivial, ?_⟩
      simp only [binV_geq, bindV_some, condK_bool, decide_eq_true_eq]
      by_cases hm : most ≤ L.length
      · have hm' : ((L.length : Nat) : Int) ≥ (most : Int) := by omega
        have e : rkAns L most id = 10 := by unfold rkAns; rw [hr, hg, if_pos rfl, if_neg (by simp; omega)]
        rw [if_pos hm']
        have := H h2 (cnil cc)
        rw [rkNext, e, if_neg (by omega)] at this
        exact ⟨h2, St.le.refl _, this (s.chg0 cc)⟩
      · have hm' : ¬ ((L.length : Nat) : Int) ≥ (most : Int) := by omega
        have e : rkAns L most id = 0 := by unfold rkAns; rw [hr, hg, if_pos rfl, if_pos (by simp; omega)]
        have eN : rkNext L most id c = A ++ (id, c) :: B := by rw [rkNext, if_pos e, put_out]
        have rn := r.put (c := c) rid.1 rid.2 lc oc (by rw [put_out, List.length_append, List.length_cons]; have := congrArg List.length st.eq; rw [List.length_append] at this; omega)
        rw [put_out] at rn
        have lN : (A ++ (id, c) :: B).length = L.length + 1 := by rw [st.eq]; simp; omega
        rw [if_neg hm']
        simp only [nilV, bindV_some, offV_ptr, loadV_ptr, op2, loadM_cells, partV_one, List.getElem?_cons_zero, Nat.zero_add]
        refine ⟨trivial, ?_⟩
        simp only [loadV_ptr, o2, loadM_cells, partV_agg, tk, Option.map_some, bindV_some]
        refine ⟨trivial, ?_⟩
        have bv : buildV [.int .u32 0, .int .u32 0, .int .i64 0] (some [(0, 1, .int .u32 (id : Int)), (1, 2, .agg c.toArray)]) = some (.agg (rowC (id, c)).toArray) := by
          have : c.toArray.size = 2 := by simpa using lc
          simp [buildV, fillL, isUnk, Value.cells, lc, rowC]
        simp only [bv, bindV_some]
        refine buildSliceE_in (rowC (id, c)) ?_ ?_ ?_ fun h3 c3 n3 o3 => ?_
        · have : (rowC (id, c)).length = 3 := by simp [rowC, lc]
          simp only [fillL, repL, List.append_nil, Nat.zero_mul, Nat.zero_add, Value.cells]
          rw [if_pos ⟨by simpa using this, by simp⟩]
          simp
        · simp only [rowC, allOne, oc, one, Bool.and_true]
        · simp [isUnk]
        have cc3 := cc.seq c3
        have op3 := cc3.at0 pn op
        refine ⟨⟨trivial, by simp only [loadV_ptr, op3, loadM_cells, partV_one, List.getElem?_cons_zero], trivial⟩, ?_⟩
        have rl : (rowC (id, c)).length = 3 := by simp [rowC, lc]
        have r1 : allOne (rowC (id, c)) = true := by simp only [rowC, allOne, oc, one, Bool.and_true]
        -- what the row becomes
        have fin : ∀ h4 q', ChgP D h h4 → h4.objs p = some (.cells [sv, .int .i64 (most : Int)] true) → D q' → q' ≠ p → q' < h4.next → h4.objs q' = some (.cells ((A ++ (id, c) :: B).flatMap rowC) true) →
            (True ∧ True ∧ True) ∧ bindV (nilV (.pointer (some ⟨p, 0, none⟩))) fun v31 => bindV (offV 0 v31) fun v32 => storeE 1 v32 (.slice (some ⟨q', 0, some 3⟩) (L.length + 1) 0) h4 fun _ h9 => (True ∧ True ∧ True) ∧ idG (rack_Put_j0 (tabC tabPt) idG 0 (.pointer (some ⟨p, 0, none⟩)) (.int .u32 (id : Int)) (.pointer (some ⟨h.next, 0, none⟩)) (.int .i64 0) h9 (fun v h1 => ∃ h2, St.le h2 h1 ∧ k v h2)) := by
          intro h4 q' c4 op4 dq qp qn oq
          refine ⟨⟨trivial, trivial, trivial⟩, ?_⟩
          have pn4 : p < h4.next := Nat.lt_of_lt_of_le pn c4.1
          simp only [nilV, bindV_some, offV_ptr, Nat.zero_add]
          refine storeE_in op4 [.slice (some ⟨q', 0, some 3⟩) (L.length + 1) 0, .int .i64 (most : Int)] rfl (by simp) rfl rfl fun h9 c9 n9 o9 => ?_
          refine ⟨⟨trivial, trivial, trivial⟩, ?_⟩
          simp only [idG_eq]
          refine put_j0 ?_
          have := H h9 (c4.of_chg c9 (by simp; exact .inl dp))
          rw [eN, e] at this
          refine this ⟨p, _, rfl, dp, by omega, o9, .inr ⟨q', by rw [lN], ⟨dq, qp⟩, by omega, c9.at1 qn qp oq, ?_⟩, rn, by omega, mm⟩
          have : ∀ x ∈ A ++ (id, c) :: B, (rowC x).length = 3 := rn.row
          exact flat_len (L := A ++ (id, c) :: B) (A := A ++ (id, c) :: B) (B := []) (id := 4294967296) rn ⟨by simp, fun x hx => by have := (rn.ids x hx).2; omega, by simp⟩
        have eflat : (L.flatMap rowC).take (A.length * 3) ++ rowC (id, c) ++ (L.flatMap rowC).drop (A.length * 3) = (A ++ (id, c) :: B).flatMap rowC := by
          rw [flat_split, st.eq, List.flatMap_append, ← fl, List.take_left, List.drop_left]
        have lA : A.length ≤ L.length := by rw [st.eq]; simp
        rcases os with ⟨rfl, h0, _⟩ | ⟨q, rfl, q2, q3, q4, q5⟩
        · have hL : L = [] := List.length_eq_zero_iff.1 h0
          have hA0 : A = [] ∧ B = [] := by have := st.eq; rw [hL] at this; simpa using this.symm
          obtain ⟨rfl, rfl⟩ := hA0
          refine .inr (.inr (.inr (.inl ⟨rfl, h2.next, rowC (id, c), rfl, o3, rl, r1, fun h4 q' c4 qn1 qn2 oq => ?_⟩)))
          subst hL
          have m3 := cc3.1
          refine fin h4 q' (cnil (cc3.seq c4)) ((cc3.seq c4).at0 pn op) (hD _ (by omega)) (by omega) qn2 ?_
          rw [oq]; simp
        · have m3 := cc3.1
          have m2 := cc.1
          refine .inr (.inr (.inl ⟨rfl, q, L.length, A.length, h2.next, L.flatMap rowC, rowC (id, c), rfl, by omega, lA, by omega, cc3.at0 q3 q4, q5, r.flat1, by omega, by omega, o3, rl, r1, fun h4 q' c4 qor qn2 oq => ?_⟩))
          rw [eflat] at oq
          have qp : q' ≠ p := by
            rcases qor with rfl | hq
            · exact q2.2
            · omega
          refine fin h4 q' ((cnil cc3).of_chg c4 (by simp; exact .inl q2.1)) (c4.at1 (by omega) (fun e => q2.2 e.symm) op3) ?_ qp qn2 oq
          rcases qor with rfl | hq
          · exact q2.1
          · exact hD _ (by omega)
def putN : Abs.Spec := fun args h k => ∃ (x : Value) (c : List Value), args = [.pointer none, x, .agg c.toArray] ∧ allOne c = true ∧ ∀ h', Chg h h' [] → k (.int .i64 10) h'
theorem putN_good : SpecGood Try.prog (31, putN) := by
  refine spec_good mixed Try.func31 (by kernel_rfl) (by kernel_rfl) (tab := []) (by simp) (keep := rack_Put_keep) ?_
  rintro args h k ⟨x, c, rfl, oc, H⟩
  refine ⟨0, ?_⟩
  show rack_Put (tabC _) idG 0 (.pointer none) x (.agg c.toArray) h _
  rw [rack_Put_eq]
  refine boxE_in (by simpa [Value.cells] using oc) fun h1 c1 n1 o1 => ?_
  simp only [binNil_ptr_eql, Option.isNone_none, bindV_some, condK_bool, if_true]
  exact ⟨h1, St.le.refl _, H h1 c1⟩
end Go.Proofs.Ytnelcpabjpchnaa
