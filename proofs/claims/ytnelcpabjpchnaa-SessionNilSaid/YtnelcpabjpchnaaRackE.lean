/- A rack: Add, Drop, Ids. -/
import Derived.Test.YtnelcpabjpchnaaRackD
set_option linter.unusedSimpArgs false
set_option linter.unusedVariables false
set_option maxHeartbeats 4000000
namespace Go.Proofs.Ytnelcpabjpchnaa
open Go.Abs Go.IntWalk
attribute [local congr] bindV_weak condK_weak guardK_weak groupK_weak allocE_weak boxE_weak storeE_weak storeM_weak tabC_weak ite_weak idG_weak appendE_weak buildSliceE_weak mapUpdateE_weak deleteE_weak makeMapE_weak copyE_weak clearE_weak callE_weak

theorem get_len {L : List Rk} (r : RkL L) (id : Nat) : ((rkGet L id).getD zeroC).length = 2 ∧ allOne ((rkGet L id).getD zeroC) = true := by
  have : ∀ M : List Rk, (∀ x ∈ M, x ∈ L) → ((rkGet M id).getD zeroC).length = 2 ∧ allOne ((rkGet M id).getD zeroC) = true := by
    intro M
    induction M with
    | nil => intro _; exact ⟨rfl, rfl⟩
    | cons x M ih =>
      intro hM
      rw [rkGet]
      split
      · exact ⟨r.len x (hM x (List.mem_cons_self ..)), r.one x (hM x (List.mem_cons_self ..))⟩
      · exact ih fun y hy => hM y (List.mem_cons_of_mem _ hy)
  exact this L fun _ h => h
/-! ### Add -/
def rkAddAns (L : List Rk) (most id : Nat) : Nat := if (rkGet L id).isSome = true then 11 else rkAns L most id
def rkAddNext (L : List Rk) (most id : Nat) (c : List Value) : List Rk := if rkAddAns L most id = 0 then rkPut L id c else L
def addO : Abs.Spec := fun args h k => ∃ (D : Nat → Prop) (v : Value) (most : Nat) (L : List Rk) (id : Nat) (c : List Value), args = [v, .int .u32 id, .agg c.toArray] ∧ (∀ i, h.next ≤ i → D i) ∧ RkS D h v most L ∧ c.length = 2 ∧ allOne c = true ∧
  ∀ h', ChgP D h h' → RkS D h' v most (rkAddNext L most id c) → k (.int .i64 (rkAddAns L most id)) h'
theorem addO_good : SpecGood Try.prog (26, addO) := by
  refine spec_good mixed Try.func26 (by kernel_rfl) (by kernel_rfl) (tab := [(46, getO), (31, putO)]) (by simp [getO_good, putO_good]) (keep := rack_Add_keep) ?_
  rintro args h k ⟨D, v, most, L, id, c, rfl, hD, s, lc, oc, H⟩
  refine ⟨0, ?_⟩
  show rack_Add (tabC _) idG 0 v (.int .u32 (id : Int)) (.agg c.toArray) h _
  rw [rack_Add_eq]
  refine boxE_in (by simpa [Value.cells] using oc) fun h1 c1 n1 o1 => ?_
  have o1 : h1.objs h.next = some (.cells c true) := o1
  refine .inl ⟨rfl, D, v, most, L, id, rfl, s.chg0 c1, fun h2 c2 => ?_⟩
  have cc := c1.seq c2
  have gl := get_len s.rows id
  simp only [ansC, extV_two0, extV_two1, bindV_some]
  refine allocE_in fun h3 c3 n3 o3 => ?_
  refine storeE_all o3 (by simpa [Value.cells] using gl.1) rfl (by simpa [Value.cells] using gl.2) fun h4 c4 n4 o4 => ?_
  have cc4 := (cc.seq c3).new c4 (by have := cc.1; omega)
  have s4 := s.chg0 cc4
  simp only [condK_bool]
  cases hg : (rkGet L id).isSome with
  | true =>
    have e : rkAddAns L most id = 11 := by rw [rkAddAns, if_pos hg]
    rw [if_pos rfl]
    have := H h4 (cc4.nil D)
    rw [rkAddNext, e, if_neg (by omega)] at this
    exact ⟨h4, St.le.refl _, this s4⟩
  | false =>
    have e : rkAddAns L most id = rkAns L most id := by rw [rkAddAns, if_neg (by rw [hg]; simp)]
    have tk : takeN c 0 2 = some c := by unfold takeN; rw [if_pos (by omega), List.drop_zero, ← lc, List.take_length]
    have n2 := c2.1
    have oo : h4.objs h.next = some (.cells c true) := c4.at1 (by omega) (by omega) (c3.at0 (by omega) (c2.at0 (by omega) o1))
    simp only [Bool.false_eq_true, if_false, idG_eq, loadV_ptr, oo, loadM_cells, partV_agg, tk, Option.map_some, bindV_some]
    refine .inr (.inl ⟨rfl, D, v, most, L, id, c, rfl, fun i hi => hD i (Nat.le_trans cc4.1 hi), s4, lc, oc, fun h' c' s' => ?_⟩)
    have := H h' ((cc4.nil D).step c')
    rw [rkAddNext, e] at this
    exact ⟨h', St.le.refl _, this s'⟩
def addN : Abs.Spec := fun args h k => ∃ (x : Value) (c : List Value), args = [.pointer none, x, .agg c.toArray] ∧ c.length = 2 ∧ allOne c = true ∧ ∀ h', Chg h h' [] → k (.int .i64 10) h'
theorem addN_good : SpecGood Try.prog (26, addN) := by
  refine spec_good mixed Try.func26 (by kernel_rfl) (by kernel_rfl) (tab := [(46, getN), (31, putN)]) (by simp [getN_good, putN_good]) (keep := rack_Add_keep) ?_
  rintro args h k ⟨x, c, rfl, lc, oc, H⟩
  refine ⟨0, ?_⟩
  show rack_Add (tabC _) idG 0 (.pointer none) x (.agg c.toArray) h _
  rw [rack_Add_eq]
  refine boxE_in (by simpa [Value.cells] using oc) fun h1 c1 n1 o1 => ?_
  have o1 : h1.objs h.next = some (.cells c true) := o1
  refine .inl ⟨rfl, x, rfl, fun h2 c2 => ?_⟩
  simp only [ansC, extV_two0, extV_two1, bindV_some]
  refine allocE_in fun h3 c3 n3 o3 => ?_
  refine storeE_all o3 rfl rfl rfl fun h4 c4 n4 o4 => ?_
  have n2 := c2.1
  have oo : h4.objs h.next = some (.cells c true) := c4.at1 (by omega) (by omega) (c3.at0 (by omega) (c2.at0 (by omega) o1))
  have tk : takeN c 0 2 = some c := by unfold takeN; rw [if_pos (by omega), List.drop_zero, ← lc, List.take_length]
  simp only [Option.isSome_none, condK_bool, Bool.false_eq_true, if_false, idG_eq, loadV_ptr, oo, loadM_cells, partV_agg, tk, Option.map_some, bindV_some]
  refine .inr (.inl ⟨rfl, x, c, rfl, oc, fun h' c' => ?_⟩)
  exact ⟨h', St.le.refl _, H h' ((((c1.seq c2).seq c3).new c4 (by omega)).seq c')⟩
/-! ### Drop -/
def dropO : Abs.Spec := fun args h k => ∃ (D : Nat → Prop) (v : Value) (most : Nat) (L : List Rk) (id : Nat), args = [v, .int .u32 id] ∧ (∀ i, h.next ≤ i → D i) ∧ RkS D h v most L ∧
  ∀ h', ChgP D h h' → RkS D h' v most (rkDrop L id) → k (ansC (rkGet L id)) h'
def tabDr : List (FuncId × Abs.Spec) := [(46, getO), (47, atO), (49, rdelO)]
theorem drop_j0 {nn b6 b4 : Nat} {x5 : Value} {cs z : List Value} {is : Bool} {h : St} {k : Cont} (o6 : h.objs b6 = some (.cells cs true)) (o4 : h.objs b4 = some (.cells z true)) (lc : cs.length = 2) (lz : z.length = 2) (oc : allOne cs = true)
    (H : ∀ h', Chg h h' [b4] → k (.tuple #[.agg cs.toArray, .bool is]) h') : rack_Drop_j0 (tabC tabDr) idG nn (.pointer (some ⟨b4, 0, none⟩)) x5 (.pointer (some ⟨b6, 0, none⟩)) (.bool is) h (fun v h1 => ∃ h2, St.le h2 h1 ∧ k v h2) := by
  rw [rack_Drop_j0_eq]
  have tk : takeN cs 0 2 = some cs := by unfold takeN; rw [if_pos (by omega), List.drop_zero, ← lc, List.take_length]
  simp only [loadV_ptr, o6, loadM_cells, partV_agg, tk, Option.map_some, bindV_some]
  refine storeE_all o4 (by simpa [Value.cells] using lc) lz (by simpa [Value.cells] using oc) fun h5 c5 n5 o5 => ?_
  have o5 : h5.objs b4 = some (.cells cs true) := o5
  simp only [loadV_ptr, o5, loadM_cells, partV_agg, tk, Option.map_some, bindV_some]
  exact ⟨_, St.le.refl _, H _ c5⟩
theorem rkDrop_none : ∀ {L : List Rk} {id : Nat}, rkGet L id = none → rkDrop L id = L
  | [], _, _ => rfl
  | x :: L, id, h => by
    rw [rkGet] at h
    split at h
    · cases h
    · rename_i hn
      rw [rkDrop, if_neg hn, rkDrop_none h]
theorem dropO_good : SpecGood Try.prog (34, dropO) := by
  refine spec_good mixed Try.func34 (by kernel_rfl) (by kernel_rfl) (tab := tabDr) (by simp [tabDr, getO_good, atO_good, rdelO_good]) (keep := rack_Drop_keep) ?_
  rintro args h k ⟨D, v, most, L, id, rfl, hD, s, H⟩
  have s' := s
  obtain ⟨p, sv, rfl, dp, pn, op, os, r, few, mm⟩ := s'
  refine ⟨0, ?_⟩
  show rack_Drop (tabC _) idG 0 (.pointer (some ⟨p, 0, none⟩)) (.int .u32 (id : Int)) h _
  rw [rack_Drop_eq]
  refine allocE_in fun h1 c1 n1 o1 => ?_
  refine .inl ⟨rfl, D, _, most, L, id, rfl, s.chg0 c1, fun h2 c2 => ?_⟩
  have gl := get_len r id
  have n2 := c2.1
  simp only [ansC, extV_two0, extV_two1, bindV_some]
  refine allocE_in fun h3 c3 n3 o3 => ?_
  refine storeE_all o3 (by simpa [Value.cells] using gl.1) rfl (by simpa [Value.cells] using gl.2) fun h4 c4 n4 o4 => ?_
  have o4 : h4.objs h2.next = some (.cells ((rkGet L id).getD zeroC) true) := o4
  have cc : Chg h h4 [] := ((c1.seq c2).seq c3).new c4 (by omega)
  have o14 : h4.objs h.next = some (.cells [.int .u32 0, .int .i64 0] true) := c4.at1 (by omega) (by omega) (c3.at0 (by omega) (c2.at0 (by omega) o1))
  simp only [condK_bool]
  cases hg : rkGet L id with
  | none =>
    rw [hg] at o4 gl
    simp only [Option.isSome_none, Bool.false_eq_true, if_false, idG_eq]
    refine drop_j0 o4 o14 gl.1 rfl gl.2 fun h' c' => ?_
    have := H h' ((cc.nil D).of_chg c' (by simp))
    rw [hg, rkDrop_none hg] at this
    exact this (s.chg0 (cc.new c' (Nat.le_refl _)))
  | some cv =>
    rw [hg] at o4 gl
    simp only [Option.isSome_some, if_true]
    refine .inr (.inl ⟨rfl, D, _, most, L, id, rfl, s.chg0 cc, fun h5 A B c5 st => ?_⟩)
    have f := st.found r
    have hh : headId B id = true := by
      cases hb : headId B id with
      | true => rfl
      | false => have := (f.2 hb).1; rw [hg] at this; cases this
    obtain ⟨c', B', eB, _⟩ := f.1 hh
    have eL : L = A ++ (id, c') :: B' := by rw [st.eq, eB]
    have hA : A.length < L.length := by rw [eL]; simp
    have cc5 := cc.seq c5
    have op5 := cc5.at0 pn op
    have n5 := c5.1
    have o45 := c5.at0 (by omega) o4
    have o15 := c5.at0 (by omega) o14
    have mm5 := cc5.1
    rcases os with ⟨_, h0, _⟩ | ⟨q, rfl, q2, q3, q4, q5⟩
    · omega
    have w : IntKind.i64.wrap ((A.length : Int) + 1) = ((A.length + 1 : Nat) : Int) := by rw [i64_in _ (by omega)]; omega
    simp only [extV_two0, extV_two1, bindV_some, nilV, offV_ptr, loadV_ptr, op5, loadM_cells, partV_one, List.getElem?_cons_zero, Nat.zero_add, binNil_int, binV_add, w]
    refine .inr (.inr (.inl ⟨rfl, q, L.length, A.length, _, rfl, by omega, hA, by omega, cc5.at0 q3 q4, q5, r.flat1, fun h6 c6 o6 => ?_⟩))
    have fl := flat_len r st
    have lr : (rowC (id, c')).length = 3 := r.row _ (by rw [eL]; simp)
    have ecs : (L.flatMap rowC).take (A.length * 3) ++ (L.flatMap rowC).drop ((A.length + 1) * 3) = (A ++ B').flatMap rowC := by
      rw [eL, flat_split, List.flatMap_append, Nat.add_mul, Nat.one_mul, ← fl]
      congr 1
      · rw [List.append_assoc, List.take_left]
      · rw [← lr, ← List.length_append, List.drop_left]
    rw [ecs] at o6
    have op6 := c6.at1 (by omega) (fun e => q2.2 e.symm) op5
    have o46 := c6.at1 (by omega) (by omega) o45
    have o16 := c6.at1 (by omega) (by omega) o15
    have n6 := c6.1
    simp only [nilV, bindV_some, offV_ptr, Nat.zero_add]
    refine storeE_in op6 [.slice (some ⟨q, 0, some 3⟩) (L.length - 1) 0, .int .i64 (most : Int)] rfl (by simp) rfl rfl fun h7 c7 n7 o7 => ?_
    simp only [idG_eq]
    refine drop_j0 (c7.at1 (by omega) (by omega) o46) (c7.at1 (by omega) (by omega) o16) gl.1 rfl gl.2 fun h8 c8 => ?_
    have e8 : rkDrop L id = A ++ B' := by rw [st.drop, eB, rkDrop_in]
    have ch : ChgP D h h8 := (((cc5.nil D).of_chg c6 (by simp; exact .inl q2.1)).of_chg c7 (by simp; exact .inl dp)).of_chg c8 (by simp)
    have := H h8 ch
    rw [hg, e8] at this
    have sub : (A ++ B').Sublist L := by rw [← e8]; exact rkDrop_sub L id
    have ll : (A ++ B').length = L.length - 1 := by rw [eL]; simp
    have n8 := c8.1
    refine this ⟨p, _, rfl, dp, by omega, c8.at1 (by omega) (by omega) o7, .inr ⟨q, by rw [ll], q2, by omega, c8.at1 (by omega) (by omega) (c7.at1 (by omega) (fun e => q2.2 e) o6), ?_⟩, r.sub sub, by omega, mm⟩
    have rs := r.sub sub
    exact flat_len (L := A ++ B') (A := A ++ B') (B := []) (id := 4294967296) rs ⟨by simp, fun x hx => by have := (rs.ids x hx).2; omega, by simp⟩
/-! ### Ids -/
def idC (x : Rk) : Value := .int .u32 (x.1 : Int)
def idsO : Abs.Spec := fun args h k => ∃ (D : Nat → Prop) (v : Value) (most : Nat) (L : List Rk), args = [v] ∧ RkS D h v most L ∧
  ∀ h' sv, Chg h h' [] → OwnS (fun i => h.next ≤ i) h' sv 1 (L.map idC) L.length → k sv h'
theorem ids_l0 {nn : Nat} {x2 sv : Value} {D : Nat → Prop} {L : List Rk} {h0 : St} {k : Cont} (r : RkL L) (os : OwnS D h0 sv 3 (L.flatMap rowC) L.length)
    (H : ∀ h' out, Chg h0 h' [] → OwnS (fun i => h0.next ≤ i) h' out 1 (L.map idC) L.length → k out h') :
    ∀ (d i m0 : Nat) (h : St) (out : Value), i + d = L.length → d < m0 → Chg h0 h [] → OwnS (fun i => h0.next ≤ i) h out 1 ((L.take i).map idC) i →
      rack_Ids_l0 (tabC []) idG nn m0 x2 out sv (.int .i64 (L.length : Int)) (.int .i64 (i : Int)) h (fun v h1 => ∃ h2, St.le h2 h1 ∧ k v h2) := by
  intro d
  induction d with
  | zero =>
    intro i m0 h out hi hm c o
    obtain ⟨m0, rfl⟩ : ∃ m, m0 = m + 1 := ⟨m0 - 1, by omega⟩
    rw [rack_Ids_l0_eq]
    have e' : i = L.length := by omega
    subst e'
    rw [List.take_length] at o
    simp only [bindV_some, binV_lss, condK_bool, Int.lt_irrefl, decide_false, Bool.false_eq_true, if_false, idG_eq]
    rw [rack_Ids_j1_eq]
    exact ⟨h, St.le.refl _, H h out c o⟩
  | succ d ih =>
    intro i m0 h out hi hm c o
    obtain ⟨m0, rfl⟩ : ∃ m, m0 = m + 1 := ⟨m0 - 1, by omega⟩
    rw [rack_Ids_l0_eq]
    have hlt : (i : Int) < L.length := by omega
    have few := r.few
    have inc : IntKind.i64.wrap ((i : Int) + 1) = ((i + 1 : Nat) : Int) := by rw [i64_in _ (by omega)]; omega
    obtain ⟨b, oo, g1, g2, g3, cs, g4, g5⟩ := row_at r os c (show i < L.length by omega) .i64
    have rl : (rowC L[i]).length = 3 := r.row _ (List.getElem_mem _)
    have r1 : allOne (rowC L[i]) = true := by simp only [rowC, allOne, r.one _ (List.getElem_mem _), one, Bool.and_true]
    simp only [bindV_some, binV_lss, condK_bool, hlt, decide_true, if_true, idG_eq, g1, loadV_ptr, g4, loadM_cells, partV_agg, g5, Option.map_some]
    refine allocE_in fun h1 c1 n1 o1 => ?_
    refine storeE_all o1 (by simpa [Value.cells] using rl) rfl (by simpa [Value.cells] using r1) fun h2 c2 n2 o2 => ?_
    have o2 : h2.objs h.next = some (.cells (rowC L[i]) true) := o2
    have c02 : Chg h h2 [] := c1.new c2 (Nat.le_refl _)
    have cc : Chg h0 h2 [] := c.seq c02
    have out2 : OwnS (fun i => h0.next ≤ i) h2 out 1 ((L.take i).map idC) i := o.chg c02 (by simp)
    have nn0 := cc.1
    simp only [offV_ptr, bindV_some, loadV_ptr, o2, loadM_cells, partV_one, rowC, List.getElem?_cons_zero, Nat.zero_add]
    refine append_row (B := fun i => h0.next ≤ i) (fun j hj => by omega) out2 rfl rfl rfl rfl (by omega) (by omega) fun h3 out3 c3 s3 => ?_
    have cc3 : Chg h0 h3 [] := ((cc.nil (fun i => h0.next ≤ i)).step c3).list fun j h1 h2 => by omega
    have ext : (L.take i).map idC ++ [.int .u32 (L[i].1 : Int)] = (L.take (i + 1)).map idC := by
      rw [List.take_succ_eq_append_getElem (by omega), List.map_append]; rfl
    have s3 : OwnS (fun i => h0.next ≤ i) h3 out3 1 ((L.take (i + 1)).map idC) (i + 1) := by rw [← ext]; exact s3
    simp only [idG_eq, binNil_int, binV_add, bindV_some, inc]
    exact ih (i + 1) m0 h3 out3 (by omega) (by omega) cc3 s3
theorem idsO_good : SpecGood Try.prog (38, idsO) := by
  refine spec_good mixed Try.func38 (by kernel_rfl) (by kernel_rfl) (tab := []) (by simp) (keep := rack_Ids_keep) ?_
  rintro args h k ⟨D, v, most, L, rfl, ⟨p, sv, rfl, dp, pn, op, os, r, _⟩, H⟩
  refine ⟨L.length + 1, ?_⟩
  show rack_Ids (tabC _) idG _ (.pointer (some ⟨p, 0, none⟩)) h _
  rw [rack_Ids_eq]
  have ln : lenS sv = some (.int .i64 L.length) := os.len
  simp only [binNil_ptr_neq, Option.isNone_some, Bool.not_false, bindV_some, condK_bool, if_true, nilV, offV_ptr, loadV_ptr, op, loadM_cells, partV_one, List.getElem?_cons_zero, Nat.zero_add, ln, idG_eq]
  exact ids_l0 r os H L.length 0 _ h _ (by omega) (by omega) (Chg.refl _ _) (.inl ⟨rfl, rfl, rfl⟩)
def idsN : Abs.Spec := fun args h k => args = [.pointer none] ∧ k (.slice none 0 0) h
theorem idsN_good : SpecGood Try.prog (38, idsN) := by
  refine spec_good mixed Try.func38 (by kernel_rfl) (by kernel_rfl) (tab := []) (by simp) (keep := rack_Ids_keep) ?_
  rintro args h k ⟨rfl, H⟩
  refine ⟨0, ?_⟩
  show rack_Ids (tabC _) idG _ (.pointer none) h _
  rw [rack_Ids_eq]
  simp only [binNil_ptr_neq, Option.isNone_none, Bool.not_true, bindV_some, condK_bool, Bool.false_eq_true, if_false, idG_eq]
  rw [rack_Ids_j1_eq]
  exact ⟨h, St.le.refl _, H⟩
end Go.Proofs.Ytnelcpabjpchnaa
