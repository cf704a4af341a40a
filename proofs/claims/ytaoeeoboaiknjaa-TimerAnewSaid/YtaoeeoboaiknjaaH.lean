/- The document's timers: a list of them. -/
import Derived.Test.YtaoeeoboaiknjaaG
set_option linter.unusedSimpArgs false
set_option linter.unusedVariables false
set_option maxHeartbeats 4000000
namespace Go.Proofs.Ytaoeeoboaiknjaa
open Go.Abs Go.IntWalk
attribute [local congr] bindV_weak condK_weak guardK_weak groupK_weak allocE_weak boxE_weak storeE_weak storeM_weak tabC_weak ite_weak idG_weak appendE_weak buildSliceE_weak invokeE_weak mapUpdateE_weak deleteE_weak makeMapE_weak

def hit (kd id : Int) (t : Tm) : Bool := decide (t.kind = kd) && decide (t.id = id)
def outTm (T : List Tm) (kd id : Int) : List Tm := T.filter fun t => !hit kd id t
theorem out_map (L : List It) (kd id : Int) : (outT L kd id).map tm = outTm (L.map tm) kd id := by
  unfold outT outTm
  rw [List.filter_map]
  congr 1
  apply List.filter_congr
  intro x _
  simp only [isT, hit, tm, Function.comp, eq_comm]
/-- The document's list of timers. -/
def RL (E : Nat → Prop) (h : St) (v : Value) (T : List Tm) : Prop := OwnS E h v 3 (T.flatMap cellsT) T.length
theorem RL.chgP {E D : Nat → Prop} {h h' : St} {v : Value} {T : List Tm} (r : RL E h v T) (c : ChgP D h h') (hD : ∀ i, D i → ¬ E i) : RL E h' v T := OwnS.chgP r c hD
theorem RL.chg0 {E : Nat → Prop} {h h' : St} {v : Value} {T : List Tm} (r : RL E h v T) (c : Chg h h' []) : RL E h' v T := OwnS.chg r c (by simp)
theorem RL.imp {E E' : Nat → Prop} {h : St} {v : Value} {T : List Tm} (r : RL E h v T) (hE : ∀ i, i < h.next → E i → E' i) : RL E' h v T := OwnS.imp r hE
theorem len_T : ∀ t : Tm, (cellsT t).length = 3 := fun _ => rfl
theorem RL.push {E : Nat → Prop} {h : St} {v : Value} {T : List Tm} {t : Tm} (r : OwnS E h v 3 (T.flatMap cellsT ++ (encT t).cells.toList) (T.length + 1)) : RL E h v (T ++ [t]) := by
  unfold RL
  simpa [encT, cellsT] using r

/-! ### one taken away -/
theorem rclear_l0 {nn : Nat} {h0 : St} {E : Nat → Prop} {v : Value} {T : List Tm} {kd id : Int} {x6 x7 : Value} {k : Cont} (r0 : RL E h0 v T) (hE : ∀ i, E i → i < h0.next) (hT : T.length ≤ 1000000)
    (H : ∀ h' v', Chg h0 h' [] → RL (fun i => h0.next ≤ i ∧ i < h'.next) h' v' (outTm T kd id) → k (.tuple #[v', .bool (decide ((outTm T kd id).length ≠ T.length))]) h') :
    ∀ (d i m0 : Nat) (h : St) (x8 : Value), i + d = T.length → d < m0 → Chg h0 h [] → RL (h0.next ≤ ·) h x8 (outTm (T.take i) kd id) →
      tiltyardref08_Clear_l0 (tabC []) idG nn m0 v (.int .i64 kd) (.int .u32 id) x6 x7 x8 (.int .i64 i) h (fun v h1 => ∃ h2, St.le h2 h1 ∧ k v h2) := by
  intro d
  induction d with
  | zero =>
    intro i m0 h x8 hi hm c r
    obtain ⟨m0, rfl⟩ : ∃ m, m0 = m + 1 := ⟨m0 - 1, by omega⟩
    rw [tiltyardref08_Clear_l0_eq]
    have e : i = T.length := by omega
    subst e
    rw [List.take_length] at r
    simp only [OwnS.len r0, bindV_some, binV_lss, condK_bool, Int.lt_irrefl, decide_false, Bool.false_eq_true, if_false, idG_eq]
    rw [tiltyardref08_Clear_j2_eq]
    simp only [OwnS.len r0, OwnS.len r, bindV_some, binV_neq]
    have e : ((outTm T kd id).length ≠ T.length) ↔ (((outTm T kd id).length : Nat) : Int) ≠ ((T.length : Nat) : Int) := by omega
    have := H h x8 c (OwnS.fresh r)
    simp only [e] at this
    exact ⟨h, St.le.refl _, this⟩
  | succ d ih =>
    intro i m0 h x8 hi hm c r
    obtain ⟨m0, rfl⟩ : ∃ m, m0 = m + 1 := ⟨m0 - 1, by omega⟩
    rw [tiltyardref08_Clear_l0_eq]
    have hlt : (i : Int) < T.length := by omega
    have ht : T[i]? = some T[i] := List.getElem?_eq_getElem (by omega)
    obtain ⟨t, e⟩ : ∃ t, t = T[i] := ⟨_, rfl⟩
    rw [← e] at ht
    have tk : outTm (T.take (i + 1)) kd id = outTm (T.take i) kd id ++ (if hit kd id t = true then [] else [t]) := by
      rw [List.take_add_one, ht]
      simp only [outTm, Option.toList, List.filter_append, List.filter_cons, List.filter_nil]
      cases hit kd id t <;> rfl
    have lo : (outTm (T.take i) kd id).length ≤ i := Nat.le_trans (List.length_filter_le _ _) (by simp; omega)
    have inc : IntKind.i64.wrap ((i : Int) + 1) = ((i + 1 : Nat) : Int) := by rw [i64_in _ (by omega)]; omega
    obtain ⟨b, o, g1, g2, g3, cs, g4, g5⟩ := (r0.chg0 c).row (fun y _ => len_T y) ht .i64
    have k0 := row_cell g5 0 (by omega)
    have k1 := row_cell g5 1 (by omega)
    have nx : ∀ h' x8', Chg h0 h' [] → RL (h0.next ≤ ·) h' x8' (outTm (T.take (i + 1)) kd id) → tiltyardref08_Clear_j1 (tabC []) idG nn m0 v (.int .i64 kd) (.int .u32 id) x6 x7 x8' (.int .i64 i) h' (fun v h1 => ∃ h2, St.le h2 h1 ∧ k v h2) := by
      intro h' x8' c' r'
      rw [tiltyardref08_Clear_j1_eq]
      simp only [binNil_int, binV_add, bindV_some, inc, idG_eq]
      exact ih (i + 1) m0 h' x8' (by omega) (by omega) c' r'
    have keep : hit kd id t = false → bindV (idxS 3 v (.int .i64 (i : Int))) fun v35 => bindV (loadV true 3 v35 h) fun v36 => buildSliceE 3 1 [.int .i64 0, .int .u32 0, .int .i64 0] [(0 * 3, 3, v36)] h fun v37 h4 => appendE 3 24 x8 v37 h4 fun v38 h5 => idG (tiltyardref08_Clear_j1 (tabC []) idG nn m0 v (.int .i64 kd) (.int .u32 id) x6 x7 v38 (.int .i64 i) h5 (fun v h1 => ∃ h2, St.le h2 h1 ∧ k v h2)) := by
      intro hh
      rw [hh] at tk
      simp only [g1, bindV_some, loadV_ptr, g4, loadM_cells, partV_agg, g5, Option.map_some]
      refine append_row (x := encT t) (fun j hj => ?_) r rfl rfl rfl rfl (by omega) (by omega) fun h' v' c' r' => ?_
      · have := c.1; show h0.next ≤ j; omega
      · simp only [idG_eq]
        refine nx h' v' ⟨Nat.le_trans c.1 c'.1, fun j hj _ => ?_⟩ (by rw [tk]; exact RL.push r')
        rw [c'.2 j (Nat.lt_of_lt_of_le hj c.1) (by show ¬ h0.next ≤ j; omega)]
        exact c.2 j hj (by simp)
    simp only [OwnS.len r0, bindV_some, binV_lss, condK_bool, hlt, decide_true, if_true, idG_eq, g1, offV_ptr, loadV_ptr, g4, loadM_cells, partV_one, k0, cellsT, List.getElem?_cons_zero, List.getElem?_cons_succ, binV_neq, groupK_eq, guardK_bool]
    by_cases e1 : t.kind = kd
    · simp only [e1, ne_eq, not_true_eq_false, decide_false, if_true]
      simp only [g1, bindV_some, offV_ptr, loadV_ptr, g4, loadM_cells, partV_one, k1, cellsT, List.getElem?_cons_zero, List.getElem?_cons_succ, binV_neq, e1, ne_eq, not_true_eq_false, decide_false, pickV_bool, Bool.false_eq_true, if_false, getT, condK_bool, idG_eq]
      by_cases e2 : t.id = id
      · have hh : hit kd id t = true := by simp [hit, e1, e2]
        simp only [e2, ne_eq, not_true_eq_false, decide_false, Bool.false_eq_true, if_false]
        rw [hh] at tk
        exact nx h x8 c (by rw [tk]; simpa using r)
      · have hh : hit kd id t = false := by simp [hit, e2]
        simp only [e2, ne_eq, not_false_eq_true, decide_true, if_true]
        exact keep hh
    · have hh : hit kd id t = false := by simp [hit, e1]
      simp only [e1, ne_eq, not_false_eq_true, decide_true, Bool.true_eq_false, if_false, idG_eq, pickV_bool, if_true, bindV_some, condK_bool]
      exact keep hh
def rclearS : Abs.Spec := fun args h k => ∃ E v T kd id, args = [v, .int .i64 kd, .int .u32 id] ∧ T.length ≤ 1000000 ∧ (∀ i, E i → i < h.next) ∧ RL E h v T ∧
  ∀ h' v', Chg h h' [] → RL (fun i => h.next ≤ i ∧ i < h'.next) h' v' (outTm T kd id) → k (.tuple #[v', .bool (decide ((outTm T kd id).length ≠ T.length))]) h'
theorem rclearS_good : SpecGood Try.prog (17, rclearS) := by
  refine spec_good mixed Try.func17 (by kernel_rfl) (by kernel_rfl) (tab := []) (by simp) (keep := tiltyardref08_Clear_keep) ?_
  rintro args h k ⟨E, v, T, kd, id, rfl, hl, hE, r, H⟩
  refine ⟨T.length + 1, ?_⟩
  show tiltyardref08_Clear (tabC []) idG _ v (.int .i64 kd) (.int .u32 id) h _
  rw [tiltyardref08_Clear_eq]
  simp only [idG_eq]
  exact rclear_l0 r hE hl H T.length 0 (T.length + 1) h _ (by omega) (by omega) (Chg.refl _ _) (.inl ⟨rfl, rfl, rfl⟩)
/-! ### one set -/
def rsetS : Abs.Spec := fun args h k => ∃ E v T kd id at_, args = [v, .int .i64 kd, .int .u32 id, .int .i64 at_] ∧ T.length < 1000000 ∧ (∀ i, E i → i < h.next) ∧ RL E h v T ∧
  ∀ h' v', Chg h h' [] → RL (fun i => h.next ≤ i ∧ i < h'.next) h' v' (outTm T kd id ++ [⟨kd, id, at_⟩]) → k v' h'
theorem rsetS_good : SpecGood Try.prog (15, rsetS) := by
  refine spec_good mixed Try.func15 (by kernel_rfl) (by kernel_rfl) (tab := [(17, rclearS)]) (by simp [rclearS_good]) (keep := tiltyardref08_Set_keep) ?_
  rintro args h k ⟨E, v, T, kd, id, at_, rfl, hl, hE, r, H⟩
  refine ⟨0, ?_⟩
  show tiltyardref08_Set (tabC _) idG 0 v (.int .i64 kd) (.int .u32 id) (.int .i64 at_) h _
  rw [tiltyardref08_Set_eq]
  refine .inl ⟨rfl, E, v, T, kd, id, rfl, by omega, hE, r, fun h1 v1 c1 r1 => ?_⟩
  have hb1 : buildV [.int .i64 0, .int .u32 0, .int .i64 0] (some [(0, 1, .int .i64 kd), (1, 1, .int .u32 id), (2, 1, .int .i64 at_)]) = some (encT ⟨kd, id, at_⟩) := rfl
  simp only [extV_two0, extV_two1, bindV_some, hb1]
  have lo : (outTm T kd id).length ≤ T.length := List.length_filter_le _ _
  have m1 := c1.1
  refine append_row (x := encT ⟨kd, id, at_⟩) (B := (h.next ≤ ·)) (fun j hj => by show h.next ≤ j; omega) (RL.imp r1 fun _ _ h => h.1) rfl rfl rfl rfl (by omega) (by omega) fun h' v' c' r' => ?_
  refine ⟨h', St.le.refl _, H h' v' ⟨Nat.le_trans c1.1 c'.1, fun j hj _ => ?_⟩ (OwnS.fresh (RL.push r'))⟩
  rw [c'.2 j (Nat.lt_of_lt_of_le hj c1.1) (by show ¬ h.next ≤ j; omega)]
  exact c1.2 j hj (by simp)
/-! ### when is it due -/
theorem rfind_l0 {nn : Nat} {h : St} {E : Nat → Prop} {v : Value} {T : List Tm} {kd id : Int} {x6 x7 : Value} {k : Cont} (r : RL E h v T) (hT : T.length ≤ 1000000)
    (H : k (.tuple #[.int .i64 ((T.find? fun t => decide (kd = t.kind) && decide (id = t.id)).elim 0 Tm.at_), .bool (T.find? fun t => decide (kd = t.kind) && decide (id = t.id)).isSome]) h) :
    ∀ (d i m0 : Nat), i + d = T.length → d < m0 → T.find? (fun t => decide (kd = t.kind) && decide (id = t.id)) = (T.drop i).find? (fun t => decide (kd = t.kind) && decide (id = t.id)) →
      tiltyardref08_Find_l0 (tabC []) idG nn m0 v (.int .i64 kd) (.int .u32 id) x6 x7 (.int .i64 i) h (fun v h1 => ∃ h2, St.le h2 h1 ∧ k v h2) := by
  intro d
  induction d with
  | zero =>
    intro i m0 hi hm e
    obtain ⟨m0, rfl⟩ : ∃ m, m0 = m + 1 := ⟨m0 - 1, by omega⟩
    rw [tiltyardref08_Find_l0_eq]
    have e' : i = T.length := by omega
    subst e'
    rw [List.drop_length] at e
    rw [e] at H
    simp only [OwnS.len r, bindV_some, binV_lss, condK_bool, Int.lt_irrefl, decide_false, Bool.false_eq_true, if_false, idG_eq]
    rw [tiltyardref08_Find_j1_eq]
    exact ⟨h, St.le.refl _, H⟩
  | succ d ih =>
    intro i m0 hi hm e
    obtain ⟨m0, rfl⟩ : ∃ m, m0 = m + 1 := ⟨m0 - 1, by omega⟩
    rw [tiltyardref08_Find_l0_eq]
    have hlt : (i : Int) < T.length := by omega
    have ht : T[i]? = some T[i] := List.getElem?_eq_getElem (by omega)
    have dr : T.drop i = T[i] :: T.drop (i + 1) := List.drop_eq_getElem_cons (by omega)
    obtain ⟨t, et⟩ : ∃ t, t = T[i] := ⟨_, rfl⟩
    rw [← et] at ht dr
    have inc : IntKind.i64.wrap ((i : Int) + 1) = ((i + 1 : Nat) : Int) := by rw [i64_in _ (by omega)]; omega
    obtain ⟨b, o, g1, g2, g3, cs, g4, g5⟩ := OwnS.row r (fun y _ => len_T y) ht .i64
    have k0 := row_cell g5 0 (by omega)
    have k1 := row_cell g5 1 (by omega)
    have k2 := row_cell g5 2 (by omega)
    rw [dr] at e
    have nx : (decide (kd = t.kind) && decide (id = t.id)) = false → tiltyardref08_Find_l0 (tabC []) idG nn m0 v (.int .i64 kd) (.int .u32 id) x6 x7 (.int .i64 ((i + 1 : Nat) : Int)) h (fun v h1 => ∃ h2, St.le h2 h1 ∧ k v h2) := fun hf => ih (i + 1) m0 (by omega) (by omega) (by rw [e, List.find?_cons_of_neg (by rw [hf]; decide)])
    simp only [OwnS.len r, bindV_some, binV_lss, condK_bool, hlt, decide_true, if_true, idG_eq, g1, offV_ptr, loadV_ptr, g4, loadM_cells, partV_one, k0, cellsT, List.getElem?_cons_zero, List.getElem?_cons_succ, binV_eql, groupK_eq, guardK_bool]
    by_cases e1 : t.kind = kd
    · simp only [e1, decide_true, if_true]
      simp only [g1, bindV_some, offV_ptr, loadV_ptr, g4, loadM_cells, partV_one, k1, cellsT, List.getElem?_cons_zero, List.getElem?_cons_succ, binV_eql, e1, decide_true, pickV_bool, if_true, getT, condK_bool, idG_eq]
      by_cases e2 : t.id = id
      · rw [e, List.find?_cons_of_pos (by simp [e1, e2])] at H
        simp only [e2, decide_true, if_true, g1, bindV_some, offV_ptr, loadV_ptr, g4, loadM_cells, partV_one, k2, cellsT, List.getElem?_cons_zero, List.getElem?_cons_succ]
        exact ⟨h, St.le.refl _, H⟩
      · simp only [e2, decide_false, Bool.false_eq_true, if_false, binNil_int, binV_add, bindV_some, inc, idG_eq]
        exact nx (by simp [Ne.symm e2])
    · simp only [e1, decide_false, Bool.false_eq_true, if_false, idG_eq, pickV_bool, bindV_some, condK_bool, binNil_int, binV_add, inc]
      exact nx (by simp [Ne.symm e1])
def rfindS : Abs.Spec := fun args h k => ∃ E v T kd id, args = [v, .int .i64 kd, .int .u32 id] ∧ T.length ≤ 1000000 ∧ RL E h v T ∧
  k (.tuple #[.int .i64 ((T.find? fun t => decide (kd = t.kind) && decide (id = t.id)).elim 0 Tm.at_), .bool (T.find? fun t => decide (kd = t.kind) && decide (id = t.id)).isSome]) h
theorem rfindS_good : SpecGood Try.prog (21, rfindS) := by
  refine spec_good mixed Try.func21 (by kernel_rfl) (by kernel_rfl) (tab := []) (by simp) (keep := tiltyardref08_Find_keep) ?_
  rintro args h k ⟨E, v, T, kd, id, rfl, hl, r, H⟩
  refine ⟨T.length + 1, ?_⟩
  show tiltyardref08_Find (tabC []) idG _ v (.int .i64 kd) (.int .u32 id) h _
  rw [tiltyardref08_Find_eq]
  simp only [idG_eq]
  exact rfind_l0 r hl H T.length 0 (T.length + 1) (by omega) (by omega) rfl
end Go.Proofs.Ytaoeeoboaiknjaa
