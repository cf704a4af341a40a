/- A rack: its functions. -/
import Derived.Test.YtnelcpabjpchnaaRackB
set_option linter.unusedSimpArgs false
set_option linter.unusedVariables false
set_option maxHeartbeats 4000000
namespace Go.Proofs.Ytnelcpabjpchnaa
open Go.Abs Go.IntWalk
attribute [local congr] bindV_weak condK_weak guardK_weak groupK_weak allocE_weak boxE_weak storeE_weak storeM_weak tabC_weak ite_weak idG_weak appendE_weak buildSliceE_weak mapUpdateE_weak deleteE_weak makeMapE_weak copyE_weak clearE_weak callE_weak

/-- A rack in memory. -/
def RkS (D : Nat → Prop) (h : St) (v : Value) (most : Nat) (L : List Rk) : Prop :=
  ∃ p sv, v = .pointer (some ⟨p, 0, none⟩) ∧ D p ∧ p < h.next ∧ h.objs p = some (.cells [sv, .int .i64 (most : Int)] true) ∧ OwnS (fun i => D i ∧ i ≠ p) h sv 3 (L.flatMap rowC) L.length ∧ RkL L ∧ L.length ≤ most ∧ most ≤ 90000
theorem RkS.rows {D : Nat → Prop} {h : St} {v : Value} {most : Nat} {L : List Rk} (s : RkS D h v most L) : RkL L := by
  obtain ⟨_, _, _, _, _, _, _, r, _⟩ := s; exact r
theorem RkS.few {D : Nat → Prop} {h : St} {v : Value} {most : Nat} {L : List Rk} (s : RkS D h v most L) : L.length ≤ most ∧ most ≤ 90000 := by
  obtain ⟨_, _, _, _, _, _, _, _, r⟩ := s; exact r
theorem RkS.chgP {D E : Nat → Prop} {h h' : St} {v : Value} {most : Nat} {L : List Rk} (s : RkS D h v most L) (c : ChgP E h h') (hE : ∀ i, E i → ¬ D i) : RkS D h' v most L := by
  obtain ⟨p, sv, e, dp, pn, op, os, r⟩ := s
  exact ⟨p, sv, e, dp, Nat.lt_of_lt_of_le pn c.1, c.at pn (fun hh => hE _ hh dp) op, os.chgP c (fun i hi hh => hE i hi hh.1), r⟩
theorem RkS.chg {D : Nat → Prop} {h h' : St} {v : Value} {most : Nat} {L : List Rk} {S : List Nat} (s : RkS D h v most L) (c : Chg h h' S) (hS : ∀ i ∈ S, ¬ D i) : RkS D h' v most L :=
  s.chgP (E := (· ∈ S)) (c.toP fun _ h => h) hS
theorem RkS.chg0 {D : Nat → Prop} {h h' : St} {v : Value} {most : Nat} {L : List Rk} (s : RkS D h v most L) (c : Chg h h' []) : RkS D h' v most L := s.chg c (by simp)
theorem RkS.imp {D D' : Nat → Prop} {h : St} {v : Value} {most : Nat} {L : List Rk} (s : RkS D h v most L) (hD : ∀ i, i < h.next → D i → D' i) : RkS D' h v most L := by
  obtain ⟨p, sv, e, dp, pn, op, os, r⟩ := s
  exact ⟨p, sv, e, hD p pn dp, pn, op, os.imp fun i hi hh => ⟨hD i hi hh.1, hh.2⟩, r⟩
/-! ### Right, New, at -/
def rightId (id : Nat) : Bool := decide (1 ≤ id) && decide (id ≤ 2147483647)
def rightO : Abs.Spec := fun args h k => ∃ id : Nat, args = [.int .u32 id] ∧ k (.bool (rightId id)) h
theorem rightO_good : SpecGood Try.prog (33, rightO) := by
  refine spec_good mixed Try.func33 (by kernel_rfl) (by kernel_rfl) (tab := []) (by simp) (keep := rack_Right_keep) ?_
  rintro args h k ⟨id, rfl, H⟩
  refine ⟨0, ?_⟩
  show rack_Right (tabC _) idG 0 (.int .u32 (id : Int)) h _
  rw [rack_Right_eq]
  simp only [binNil_int, binV_geq, binV_leq, bindV_some, groupK_eq, guardK_bool, decide_eq_true_eq]
  unfold rightId at H
  by_cases h1 : 1 ≤ id
  · have e : (id : Int) ≥ 1 := by omega
    rw [if_pos e]
    simp only [e, bindV_some, binNil_int, binV_leq, idG_eq, decide_true, pickV_bool, if_true, getT]
    have e2 : decide ((id : Int) ≤ 2147483647) = decide (id ≤ 2147483647) := decide_eq_decide.2 (by omega)
    rw [decide_eq_true h1, Bool.true_and] at H
    rw [e2]
    exact ⟨h, St.le.refl _, H⟩
  · have e : ¬ (id : Int) ≥ 1 := by omega
    rw [if_neg e]
    simp only [e, bindV_some, idG_eq, decide_false, pickV_bool, Bool.false_eq_true, if_false]
    rw [decide_eq_false h1, Bool.false_and] at H
    exact ⟨h, St.le.refl _, H⟩
def newO : Abs.Spec := fun args h k => ∃ n : Int, args = [.int .i64 n] ∧ n ≤ 90000 ∧ ∀ h' v, Chg h h' [] → RkS (fun i => h.next ≤ i) h' v n.toNat [] → k v h'
theorem newO_good : SpecGood Try.prog (25, newO) := by
  refine spec_good mixed Try.func25 (by kernel_rfl) (by kernel_rfl) (tab := []) (by simp) (keep := rack_New_keep) ?_
  rintro args h k ⟨n, rfl, hn, H⟩
  refine ⟨0, ?_⟩
  show rack_New (tabC _) idG 0 (.int .i64 n) h _
  rw [rack_New_eq]
  have e : (if n > 0 then n else 0) = ((n.toNat : Nat) : Int) := by split <;> omega
  have b : buildV [.slice none 0 0, .int .i64 0] (some [(1, 1, .int .i64 ((n.toNat : Nat) : Int))]) = some (.agg #[.slice none 0 0, .int .i64 ((n.toNat : Nat) : Int)]) := rfl
  simp only [maxV, if_true, bindV_some, e, b]
  refine boxE_in (by rfl) fun h1 c1 n1 o1 => ?_
  exact ⟨h1, St.le.refl _, H h1 _ c1 ⟨h.next, _, rfl, Nat.le_refl _, by omega, o1, .inl ⟨rfl, rfl, rfl⟩, ⟨by simp, by simp, .nil, by simp, by simp⟩, by simp, by omega⟩⟩
def atO : Abs.Spec := fun args h k => ∃ (D : Nat → Prop) (v : Value) (most : Nat) (L : List Rk) (id : Nat), args = [v, .int .u32 id] ∧ RkS D h v most L ∧
  ∀ h' A B, Chg h h' [] → Stand L id A B → k (.tuple #[.int .i64 A.length, .bool (headId B id)]) h'
theorem atO_good : SpecGood Try.prog (47, atO) := by
  refine spec_good mixed Try.func47 (by kernel_rfl) (by kernel_rfl) (tab := [(55, seekO)]) (by simp [seekO_good]) (keep := rack_at_keep) ?_
  rintro args h k ⟨D, v, most, L, id, rfl, ⟨p, sv, rfl, dp, pn, op, os, r, _⟩, H⟩
  refine ⟨0, ?_⟩
  show rack_at (tabC _) idG 0 (.pointer (some ⟨p, 0, none⟩)) (.int .u32 (id : Int)) h _
  rw [rack_at_eq]
  simp only [nilV, bindV_some, offV_ptr, loadV_ptr, op, loadM_cells, partV_one, List.getElem?_cons_zero, Nat.zero_add]
  refine .inl ⟨rfl, _, sv, L, id, rfl, r, os, fun h' A B c st => ?_⟩
  simp only [extV_two0, extV_two1, bindV_some]
  exact ⟨h', St.le.refl _, H h' A B c st⟩
/-! ### Get -/
def zeroC : List Value := [.int .u32 0, .int .i64 0]
def ansC (o : Option (List Value)) : Value := .tuple #[.agg (o.getD zeroC).toArray, .bool o.isSome]
theorem flat_len {L A B : List Rk} {id : Nat} (r : RkL L) (st : Stand L id A B) : (A.flatMap rowC).length = A.length * 3 := by
  have : ∀ x ∈ A, (rowC x).length = 3 := fun x hx => r.row x (by rw [st.eq]; exact List.mem_append_left _ hx)
  clear r st
  induction A with
  | nil => rfl
  | cons a A ih =>
    rw [List.flatMap_cons, List.length_append, this a (List.mem_cons_self ..), ih (fun x hx => this x (List.mem_cons_of_mem _ hx)), List.length_cons]
    omega
def getO : Abs.Spec := fun args h k => ∃ (D : Nat → Prop) (v : Value) (most : Nat) (L : List Rk) (id : Nat), args = [v, .int .u32 id] ∧ RkS D h v most L ∧ ∀ h', Chg h h' [] → k (ansC (rkGet L id)) h'
theorem get_j0 {nn : Nat} {x0 x1 : Value} {b : Nat} {cs : List Value} {is : Bool} {h0 h : St} {k : Cont} (ob : h.objs b = some (.cells cs true)) (lb : cs.length = 2) (h1 : allOne cs = true) (c : Chg h0 h []) (hb : h0.next ≤ b)
    (H : ∀ h', Chg h0 h' [] → k (.tuple #[.agg cs.toArray, .bool is]) h') : rack_Get_j0 (tabC [(47, atO)]) idG nn x0 x1 (.pointer (some ⟨b, 0, none⟩)) (.bool is) h (fun v h1 => ∃ h2, St.le h2 h1 ∧ k v h2) := by
  rw [rack_Get_j0_eq]
  have tk : takeN cs 0 2 = some cs := by unfold takeN; rw [if_pos (by omega), List.drop_zero, ← lb, List.take_length]
  simp only [loadV_ptr, ob, loadM_cells, partV_agg, tk, Option.map_some, bindV_some]
  refine storeE_all ob (by simpa [Value.cells] using lb) lb (by simpa [Value.cells] using h1) fun h5 c5 n5 o5 => ?_
  have o5 : h5.objs b = some (.cells cs true) := o5
  simp only [loadV_ptr, o5, loadM_cells, partV_agg, tk, Option.map_some, bindV_some]
  exact ⟨_, St.le.refl _, H _ (c.new c5 hb)⟩
theorem getO_good : SpecGood Try.prog (46, getO) := by
  refine spec_good mixed Try.func46 (by kernel_rfl) (by kernel_rfl) (tab := [(47, atO)]) (by simp [atO_good]) (keep := rack_Get_keep) ?_
  rintro args h k ⟨D, v, most, L, id, rfl, s, H⟩
  have s' := s
  obtain ⟨p, sv, rfl, dp, pn, op, os, r, _⟩ := s'
  refine ⟨0, ?_⟩
  show rack_Get (tabC _) idG 0 (.pointer (some ⟨p, 0, none⟩)) (.int .u32 (id : Int)) h _
  rw [rack_Get_eq]
  refine allocE_in fun h1 c1 n1 o1 => ?_
  simp only [binNil_ptr_eql, Option.isNone_some, bindV_some, condK_bool, Bool.false_eq_true, if_false, idG_eq]
  refine .inl ⟨rfl, D, _, most, L, id, rfl, s.chg0 c1, fun h2 A B c2 st => ?_⟩
  have o2 := c2.at0 (by omega) o1
  have op2 := (c1.seq c2).at0 pn op
  have f := st.found r
  simp only [extV_two0, extV_two1, bindV_some, condK_bool]
  cases hh : headId B id with
  | false =>
    simp only [Bool.false_eq_true, if_false, idG_eq]
    rw [(f.2 hh).1] at H
    exact get_j0 o2 rfl rfl (c1.seq c2) (Nat.le_refl _) H
  | true =>
    obtain ⟨c, B', eB, hg⟩ := f.1 hh
    rw [hg] at H
    have hA : A.length < L.length := by rw [st.eq, eB]; simp
    have hLA : L[A.length] = (id, c) := by simp [st.eq, eB]
    have hm : (id, c) ∈ L := by rw [st.eq, eB]; simp
    obtain ⟨b, o, g1, g2, g3, cs, g4, g5⟩ := row_at r os (c1.seq c2) hA .i64
    rw [hLA] at g5
    have t2 : takeN cs (o + 1) 2 = some c := by
      rw [takeN_sub (o' := 1) (m := 2) g5 (by omega)]
      simp only [rowC, List.drop_succ_cons, List.drop_zero]
      rw [← r.len _ hm, List.take_length]
    simp only [if_true, nilV, bindV_some, offV_ptr, loadV_ptr, op2, loadM_cells, partV_one, List.getElem?_cons_zero, Nat.zero_add, g1, g4, partV_agg, t2, Option.map_some]
    refine storeE_all o2 (by simpa [Value.cells] using r.len _ hm) rfl (by simpa [Value.cells] using r.one _ hm) fun h5 c5 n5 o5 => ?_
    simp only [idG_eq]
    exact get_j0 o5 (r.len _ hm) (r.one _ hm) ((c1.seq c2).new c5 (Nat.le_refl _)) (Nat.le_refl _) H
def getN : Abs.Spec := fun args h k => ∃ x : Value, args = [.pointer none, x] ∧ ∀ h', Chg h h' [] → k (ansC none) h'
theorem getN_good : SpecGood Try.prog (46, getN) := by
  refine spec_good mixed Try.func46 (by kernel_rfl) (by kernel_rfl) (tab := []) (by simp) (keep := rack_Get_keep) ?_
  rintro args h k ⟨x, rfl, H⟩
  refine ⟨0, ?_⟩
  show rack_Get (tabC _) idG 0 (.pointer none) x h _
  rw [rack_Get_eq]
  refine allocE_in fun h1 c1 n1 o1 => ?_
  have tk : takeN [.int .u32 0, .int .i64 0] 0 2 = some [.int .u32 0, .int .i64 0] := rfl
  simp only [binNil_ptr_eql, Option.isNone_none, bindV_some, condK_bool, if_true, loadV_ptr, o1, loadM_cells, partV_agg, tk, Option.map_some]
  refine storeE_all o1 rfl rfl rfl fun h5 c5 n5 o5 => ?_
  simp only [loadV_ptr, o5, loadM_cells, partV_agg]
  exact ⟨_, St.le.refl _, H _ (c1.new c5 (Nat.le_refl _))⟩
end Go.Proofs.Ytnelcpabjpchnaa
