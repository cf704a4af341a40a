/- The document's friends: without, Unblock, what is done. -/
import Derived.Test.YtnndflbpcemecaaFrG
set_option linter.unusedSimpArgs false
set_option linter.unusedVariables false
set_option maxHeartbeats 4000000
namespace Go.Proofs.Ytnndflbpcemecaa
open Go.Abs Go.IntWalk
attribute [local congr] bindV_weak condK_weak guardK_weak groupK_weak allocE_weak boxE_weak storeE_weak storeM_weak tabC_weak ite_weak idG_weak appendE_weak buildSliceE_weak mapUpdateE_weak deleteE_weak makeMapE_weak copyE_weak clearE_weak callE_weak mapEntryE_weak entryStoreE_weak rangeE_weak nextE_weak

theorem own_cells {B : Nat → Prop} {h : St} {v : Value} {sz n : Nat} {cs : List Value} (s : OwnS B h v sz cs n) : newCells sz v h = some (cs, n) ∧ cs.length = n * sz := by
  rcases s with ⟨rfl, rfl, rfl⟩ | ⟨q, rfl, g2, g3, g4, g5⟩
  · exact ⟨rfl, by simp⟩
  · refine ⟨?_, g5⟩
    cases n with
    | zero =>
      have : cs = [] := List.eq_nil_of_length_eq_zero (by omega)
      subst this; rfl
    | succ n =>
      unfold newCells
      simp only [g4]
      unfold takeN
      rw [if_pos (by omega), List.drop_zero, ← g5, List.take_length]; rfl
def vR (r : Rw) : Value := .agg (cellsR r).toArray
theorem flat_R (A : List Rw) (y : Rw) : (A ++ [y]).flatMap cellsR = A.flatMap cellsR ++ cellsR y := by simp
theorem one_R : ∀ R : List Rw, allOne (R.flatMap cellsR) = true
  | [] => rfl
  | r :: R => by rw [List.flatMap_cons, allOne_append, one_R R]; rfl
theorem push_r {n0 : Nat} {h : St} {v : Value} {R : List Rw} {r : Rw} {k : Cont} (hn : n0 ≤ h.next) (s : DtS (fun i => n0 ≤ i) h v R) (few : R.length ≤ 100000)
    (hk : ∀ h' v', ChgP (fun i => n0 ≤ i) h h' → DtS (fun i => n0 ≤ i) h' v' (R ++ [r]) → k v' h') : buildSliceE 3 1 [.int .i64 0, .int .u32 0, .int .u32 0] [(0 * 3, 3, vR r)] h fun v2 h2 => appendE 3 16 v v2 h2 k := by
  refine append_row (B := fun i => n0 ≤ i) (fun j hj => by omega) s rfl rfl rfl rfl (by omega) (by omega) fun h5 out5 c5 s5 => hk h5 out5 c5 ?_
  unfold DtS; rw [flat_R, List.length_append]; exact s5
/-! ### without -/
def keepW (a b : Nat) (r : Rw) : Bool := decide (r.1 = 3) || !((decide (r.2.1 = a) && decide (r.2.2 = b)) || (decide (r.2.1 = b) && decide (r.2.2 = a)))
def whR (R : List Rw) (a b : Nat) : List Rw := R.filter (keepW a b)
theorem filt_take {α : Type} {p : α → Bool} {R : List α} {i : Nat} (hi : i < R.length) : (R.take (i + 1)).filter p = (R.take i).filter p ++ if p R[i] = true then [R[i]] else [] := by
  rw [List.take_succ_eq_append_getElem hi, List.filter_append]
  by_cases h : p R[i] = true
  · simp [h]
  · simp [h]
def dwithO : Abs.Spec := fun args h k => ∃ (E : Nat → Prop) (lv : Value) (R : List Rw) (a b : Nat), args = [lv, .int .u32 (a : Int), .int .u32 (b : Int)] ∧ R.length ≤ 10000 ∧ DtS E h lv R ∧
  ∀ h' lv', Chg h h' [] → DtS (fun i => h.next ≤ i) h' lv' (whR R a b) → k lv' h'
theorem dwith_l0 {nn : Nat} {lv x6 : Value} {E : Nat → Prop} {R : List Rw} {a b : Nat} {h0 : St} {k : Cont} (few : R.length ≤ 10000) (s : DtS E h0 lv R)
    (H : ∀ h' lv', Chg h0 h' [] → DtS (fun i => h0.next ≤ i) h' lv' (whR R a b) → k lv' h') :
    ∀ (d i m0 : Nat) (h : St) (out : Value), i + d = R.length → d < m0 → Chg h0 h [] → DtS (fun i => h0.next ≤ i) h out (whR (R.take i) a b) →
      d_without_l0 (tabC []) idG nn m0 lv (.int .u32 (a : Int)) (.int .u32 (b : Int)) x6 out (.int .i64 (i : Int)) h (fun v h1 => ∃ h2, St.le h2 h1 ∧ k v h2) := by
  intro d
  induction d with
  | zero =>
    intro i m0 h out hi hm c o
    obtain ⟨m0, rfl⟩ : ∃ m, m0 = m + 1 := ⟨m0 - 1, by omega⟩
    rw [d_without_l0_eq]
    have e' : i = R.length := by omega
    subst e'
    rw [List.take_length] at o
    simp only [OwnS.len s, bindV_some, binV_lss, condK_bool, Int.lt_irrefl, decide_false, Bool.false_eq_true, if_false, idG_eq]
    rw [d_without_j2_eq]
    exact ⟨h, St.le.refl _, H h out c o⟩
  | succ d ih =>
    intro i m0 h out hi hm c o
    obtain ⟨m0, rfl⟩ : ∃ m, m0 = m + 1 := ⟨m0 - 1, by omega⟩
    rw [d_without_l0_eq]
    have hlt : (i : Int) < R.length := by omega
    have inc : IntKind.i64.wrap ((i : Int) + 1) = ((i + 1 : Nat) : Int) := by rw [i64_in _ (by omega)]; omega
    obtain ⟨b', oo, g1, g2⟩ := s.at (show i < R.length by omega) .i64
    obtain ⟨_, _, _, f3⟩ := g2 h c
    have tak : whR (R.take (i + 1)) a b = whR (R.take i) a b ++ if keepW a b R[i] = true then [R[i]] else [] := filt_take (by omega)
    have tl : (whR (R.take i) a b).length ≤ i := Nat.le_trans (List.length_filter_le ..) (by rw [List.length_take]; omega)
    obtain ⟨x, ex⟩ : ∃ x, x = R[i] := ⟨_, rfl⟩
    rw [← ex] at f3 tak
    obtain ⟨w0, a0, b0⟩ := x
    have next : ∀ h1 out1, Chg h0 h1 [] → DtS (fun i => h0.next ≤ i) h1 out1 (whR (R.take (i + 1)) a b) → d_without_j1 (tabC []) idG nn m0 lv (.int .u32 (a : Int)) (.int .u32 (b : Int)) x6 out1 (.int .i64 (i : Int)) h1 (fun v h1 => ∃ h2, St.le h2 h1 ∧ k v h2) := fun h1 out1 c1 o1 => by
      rw [d_without_j1_eq]
      simp only [binNil_int, binV_add, bindV_some, inc, idG_eq]
      exact ih (i + 1) m0 h1 out1 (by omega) (by omega) c1 o1
    have mc := c.1
    simp only [OwnS.len s, bindV_some, binV_lss, condK_bool, hlt, decide_true, if_true, idG_eq, g1, f3]
    refine allocE_in fun h1 c1 n1 o1 => ?_
    refine storeE_all o1 rfl rfl rfl fun h2 c2 n2 o2 => ?_
    have o2 : h2.objs h.next = some (.cells [.int .i64 (w0 : Int), .int .u32 (a0 : Int), .int .u32 (b0 : Int)] true) := o2
    have c02 : Chg h0 h2 [] := c.seq (c1.new c2 (Nat.le_refl _))
    have ot : DtS (fun i => h0.next ≤ i) h2 out (whR (R.take i) a b) := by
      refine (((OwnS.imp o fun j hj hh => (⟨hh, by omega⟩ : h0.next ≤ j ∧ j ≠ h.next)).chg c1 (by simp)).chg c2 (by simp)).imp fun j _ hj => hj.1
    have tk : takeN [Value.int .i64 (w0 : Int), .int .u32 (a0 : Int), .int .u32 (b0 : Int)] 0 3 = some (cellsR (w0, a0, b0)) := rfl
    -- with what is kept known
    have yes : keepW a b (w0, a0, b0) = true → bindV (loadV true 3 (.pointer (some ⟨h.next, 0, none⟩)) h2) fun v51 => buildSliceE 3 1 [.int .i64 0, .int .u32 0, .int .u32 0] [(0 * 3, 3, v51)] h2 fun v52 h19 => appendE 3 16 out v52 h19 fun v53 h20 => idG (d_without_j1 (tabC []) idG nn m0 lv (.int .u32 (a : Int)) (.int .u32 (b : Int)) x6 v53 (.int .i64 (i : Int)) h20 (fun v h1 => ∃ h2, St.le h2 h1 ∧ k v h2)) := fun e => by
      simp only [loadV_ptr, o2, loadM_cells, partV_agg, tk, Option.map_some, bindV_some]
      refine push_r (r := (w0, a0, b0)) (by omega) ot (by omega) fun h5 out5 c5 o5 => ?_
      simp only [idG_eq]
      refine next h5 out5 (fresh_out c02 c5) ?_
      rw [tak, if_pos e]; exact o5
    have no : keepW a b (w0, a0, b0) = false → d_without_j1 (tabC []) idG nn m0 lv (.int .u32 (a : Int)) (.int .u32 (b : Int)) x6 out (.int .i64 (i : Int)) h2 (fun v h1 => ∃ h2, St.le h2 h1 ∧ k v h2) := fun e => by
      refine next h2 out c02 ?_
      rw [tak, if_neg (by rw [e]; simp), List.append_nil]; exact ot
    have q0 : binNil .eql .other (.int .i64 (w0 : Int)) (.int .i64 3) = some (.bool (decide (w0 = 3))) := eqN .i64 w0 3
    unfold keepW at yes no
    simp only at yes no
    have l0 : loadV false 1 (.pointer (some ⟨h.next, 0, none⟩)) h2 = some (.int .i64 (w0 : Int)) := by simp only [loadV_ptr, o2, loadM_cells, partV_one, List.getElem?_cons_zero]
    have l1 : loadV false 1 (.pointer (some ⟨h.next, 1, none⟩)) h2 = some (.int .u32 (a0 : Int)) := by simp only [loadV_ptr, o2, loadM_cells, partV_one, List.getElem?_cons_zero, List.getElem?_cons_succ]
    have l2 : loadV false 1 (.pointer (some ⟨h.next, 2, none⟩)) h2 = some (.int .u32 (b0 : Int)) := by simp only [loadV_ptr, o2, loadM_cells, partV_one, List.getElem?_cons_zero, List.getElem?_cons_succ]
    simp only [offV_ptr, bindV_some, Nat.zero_add, l1, eqN]
    cases e1 : decide (a0 = a) <;> cases e2 : decide (b0 = b) <;> cases e3 : decide (a0 = b) <;> cases e4 : decide (b0 = a) <;> cases e5 : decide (w0 = 3) <;> rw [e1, e2, e3, e4, e5] at yes no <;>
      simp only [groupK_eq, guardK_bool, guardK_undef, Bool.false_eq_true, Bool.true_eq_false, if_true, if_false, idG_eq, offV_ptr, bindV_some, Nat.zero_add, l0, l1, l2, eqN, q0, e1, e2, e3, e4, e5, pickV_bool, getT, unV_not, Bool.not_true, Bool.not_false, condK_bool] <;>
      first | exact yes rfl | exact no rfl
theorem dwithO_good : SpecGood Try.prog (37, dwithO) := by
  refine spec_good mixed Try.func37 (by kernel_rfl) (by kernel_rfl) (tab := []) (by simp) (keep := d_without_keep) ?_
  rintro args h k ⟨E, lv, R, a, b, rfl, few, s, H⟩
  refine ⟨R.length + 1, ?_⟩
  show d_without (tabC _) idG _ lv (.int .u32 (a : Int)) (.int .u32 (b : Int)) h _
  rw [d_without_eq]
  simp only [idG_eq]
  exact dwith_l0 few s H R.length 0 _ h _ (by omega) (by omega) (Chg.refl _ _) (.inl ⟨rfl, rfl, rfl⟩)
/-! ### Unblock -/
def unK (a b : Nat) (r : Rw) : Bool := !decide (r.1 = 3) || !decide (r.2.1 = a) || !decide (r.2.2 = b)
def unR (R : List Rw) (a b : Nat) : List Rw := R.filter (unK a b)
theorem dun_l0 {nn : Nat} {lv x6 x7 : Value} {E : Nat → Prop} {R : List Rw} {a b : Nat} {h0 : St} {k : Cont} (few : R.length ≤ 10000) (s : DtS E h0 lv R)
    (H : ∀ h' lv', Chg h0 h' [] → DtS (fun i => h0.next ≤ i) h' lv' (unR R a b) → k (.tuple #[lv', .int .i64 0]) h') :
    ∀ (d i m0 : Nat) (h : St) (out : Value), i + d = R.length → d < m0 → Chg h0 h [] → DtS (fun i => h0.next ≤ i) h out (unR (R.take i) a b) →
      d_Unblock_l0 (tabC [(44, dis 3)]) idG nn m0 lv (.int .u32 (a : Int)) (.int .u32 (b : Int)) x6 x7 out (.int .i64 (i : Int)) h (fun v h1 => ∃ h2, St.le h2 h1 ∧ k v h2) := by
  intro d
  induction d with
  | zero =>
    intro i m0 h out hi hm c o
    obtain ⟨m0, rfl⟩ : ∃ m, m0 = m + 1 := ⟨m0 - 1, by omega⟩
    rw [d_Unblock_l0_eq]
    have e' : i = R.length := by omega
    subst e'
    rw [List.take_length] at o
    simp only [OwnS.len s, bindV_some, binV_lss, condK_bool, Int.lt_irrefl, decide_false, Bool.false_eq_true, if_false, idG_eq]
    rw [d_Unblock_j2_eq]
    exact ⟨h, St.le.refl _, H h out c o⟩
  | succ d ih =>
    intro i m0 h out hi hm c o
    obtain ⟨m0, rfl⟩ : ∃ m, m0 = m + 1 := ⟨m0 - 1, by omega⟩
    rw [d_Unblock_l0_eq]
    have hlt : (i : Int) < R.length := by omega
    have inc : IntKind.i64.wrap ((i : Int) + 1) = ((i + 1 : Nat) : Int) := by rw [i64_in _ (by omega)]; omega
    obtain ⟨b', oo, g1, g2⟩ := s.at (show i < R.length by omega) .i64
    obtain ⟨f0, f1, f2, f3⟩ := g2 h c
    have tak : unR (R.take (i + 1)) a b = unR (R.take i) a b ++ if unK a b R[i] = true then [R[i]] else [] := filt_take (by omega)
    have tl : (unR (R.take i) a b).length ≤ i := Nat.le_trans (List.length_filter_le ..) (by rw [List.length_take]; omega)
    obtain ⟨x, ex⟩ : ∃ x, x = R[i] := ⟨_, rfl⟩
    rw [← ex] at f0 f1 f2 f3 tak
    obtain ⟨w0, a0, b0⟩ := x
    have next : ∀ h1 out1, Chg h0 h1 [] → DtS (fun i => h0.next ≤ i) h1 out1 (unR (R.take (i + 1)) a b) → d_Unblock_j1 (tabC [(44, dis 3)]) idG nn m0 lv (.int .u32 (a : Int)) (.int .u32 (b : Int)) x6 x7 out1 (.int .i64 (i : Int)) h1 (fun v h1 => ∃ h2, St.le h2 h1 ∧ k v h2) := fun h1 out1 c1 o1 => by
      rw [d_Unblock_j1_eq]
      simp only [binNil_int, binV_add, bindV_some, inc, idG_eq]
      exact ih (i + 1) m0 h1 out1 (by omega) (by omega) c1 o1
    have mc := c.1
    have yes : unK a b (w0, a0, b0) = true → buildSliceE 3 1 [.int .i64 0, .int .u32 0, .int .u32 0] [(0 * 3, 3, .agg (cellsR (w0, a0, b0)).toArray)] h fun v52 h19 => appendE 3 16 out v52 h19 fun v53 h20 => idG (d_Unblock_j1 (tabC [(44, dis 3)]) idG nn m0 lv (.int .u32 (a : Int)) (.int .u32 (b : Int)) x6 x7 v53 (.int .i64 (i : Int)) h20 (fun v h1 => ∃ h2, St.le h2 h1 ∧ k v h2)) := fun e => by
      refine push_r (r := (w0, a0, b0)) (by omega) o (by omega) fun h5 out5 c5 o5 => ?_
      simp only [idG_eq]
      refine next h5 out5 (fresh_out c c5) ?_
      rw [tak, if_pos e]; exact o5
    have no : unK a b (w0, a0, b0) = false → d_Unblock_j1 (tabC [(44, dis 3)]) idG nn m0 lv (.int .u32 (a : Int)) (.int .u32 (b : Int)) x6 x7 out (.int .i64 (i : Int)) h (fun v h1 => ∃ h2, St.le h2 h1 ∧ k v h2) := fun e => by
      refine next h out c ?_
      rw [tak, if_neg (by rw [e]; simp), List.append_nil]; exact o
    have q0 : binNil .neq .other (.int .i64 (w0 : Int)) (.int .i64 3) = some (.bool (!decide (w0 = 3))) := neN .i64 w0 3
    unfold unK at yes no
    simp only at yes no
    simp only [OwnS.len s, bindV_some, binV_lss, condK_bool, hlt, decide_true, if_true, idG_eq, g1, offV_ptr, Nat.add_zero, f0, q0]
    cases e1 : decide (a0 = a) <;> cases e2 : decide (b0 = b) <;> cases e5 : decide (w0 = 3) <;> rw [e1, e2, e5] at yes no <;>
      simp only [groupK_eq, guardK_bool, guardK_undef, Bool.false_eq_true, Bool.true_eq_false, if_true, if_false, idG_eq, g1, offV_ptr, bindV_some, Nat.add_zero, f0, f1, f2, f3, neN, q0, e1, e2, e5, pickV_bool, getT, Bool.not_true, Bool.not_false, condK_bool] <;>
      first | exact yes rfl | exact no rfl
/-! ### what is done -/
noncomputable def dAskF (R : List Rw) (a b : Nat) : List Rw × Bool × Nat :=
  if wrongN a b ≠ 0 then (R, false, wrongN a b)
  else if (3, a, b) ∈ R ∨ (3, b, a) ∈ R then (R, false, 17)
  else if frd R a b = true ∨ (1, a, b) ∈ R then (R, false, 11)
  else if (1, b, a) ∈ R then (whR R a b ++ [(2, a, b)], true, 0)
  else if 16 ≤ dcnt R a ∨ 16 ≤ dcnt R b then (R, false, 10)
  else (R ++ [(1, a, b)], false, 0)
def dAcceptF (R : List Rw) (a b : Nat) : List Rw × Nat := if (1, b, a) ∈ R then (whR R a b ++ [(2, a, b)], 0) else (R, 12)
def dRefuseF (R : List Rw) (a b : Nat) : List Rw × Nat := if (1, b, a) ∈ R then (whR R a b, 0) else (R, 12)
def dRemoveF (R : List Rw) (a b : Nat) : List Rw × Nat := if frd R a b = true then (whR R a b, 0) else (R, 12)
noncomputable def dBlockF (R : List Rw) (a b : Nat) : List Rw × Bool × Nat :=
  if wrongN a b ≠ 0 then (R, false, wrongN a b)
  else if (3, a, b) ∈ R then (R, false, 11)
  else if 16 ≤ (dto R 3 a).length then (R, false, 10)
  else (whR R a b ++ [(3, a, b)], frd R a b, 0)
def dUnblockF (R : List Rw) (a b : Nat) : List Rw × Nat := if (3, a, b) ∈ R then (unR R a b, 0) else (R, 12)
def dactO (f : List Rw → Nat → Nat → List Rw × Nat) : Abs.Spec := fun args h k => ∃ (E : Nat → Prop) (lv : Value) (R : List Rw) (a b : Nat), args = [lv, .int .u32 (a : Int), .int .u32 (b : Int)] ∧ R.length ≤ 900 ∧ RidR R ∧ DtS E h lv R ∧
  ∀ h' lv', Chg h h' [] → DtS (fun i => E i ∨ h.next ≤ i) h' lv' (f R a b).1 → k (.tuple #[lv', .int .i64 ((f R a b).2 : Int)]) h'
def dact2O (f : List Rw → Nat → Nat → List Rw × Bool × Nat) : Abs.Spec := fun args h k => ∃ (E : Nat → Prop) (lv : Value) (R : List Rw) (a b : Nat), args = [lv, .int .u32 (a : Int), .int .u32 (b : Int)] ∧ R.length ≤ 900 ∧ RidR R ∧ DtS E h lv R ∧
  ∀ h' lv', Chg h h' [] → DtS (fun i => E i ∨ h.next ≤ i) h' lv' (f R a b).1 → k (.tuple #[lv', .bool (f R a b).2.1, .int .i64 ((f R a b).2.2 : Int)]) h'
theorem DtS.was {E : Nat → Prop} {h h' : St} {lv : Value} {R : List Rw} (s : DtS E h lv R) (c : Chg h h' []) : DtS (fun i => E i ∨ h.next ≤ i) h' lv R := (s.chg0 c).imp fun _ _ h => .inl h
theorem DtS.neu {E : Nat → Prop} {h h' : St} {lv : Value} {R : List Rw} (s : DtS (fun i => h.next ≤ i) h' lv R) : DtS (fun i => E i ∨ h.next ≤ i) h' lv R := s.imp fun _ _ h => .inr h
theorem wh_len {R : List Rw} {a b : Nat} : (whR R a b).length ≤ R.length := List.length_filter_le ..
theorem bvR (w a b : Nat) : buildV [.int .i64 0, .int .u32 0, .int .u32 0] (some [(0, 1, .int .i64 (w : Int)), (1, 1, .int .u32 (a : Int)), (2, 1, .int .u32 (b : Int))]) = some (vR (w, a, b)) := rfl
def tabDa : List (FuncId × Abs.Spec) := [(45, dis 1), (37, dwithO), (11, dareO), (44, dis 3)]
theorem tabDa_good : ∀ p ∈ tabDa, SpecGood Try.prog p := by simp [tabDa, dasksO_good, dwithO_good, dareO_good, dblocksO_good]
theorem dacceptO_good : SpecGood Try.prog (24, dactO dAcceptF) := by
  refine spec_good mixed Try.func24 (by kernel_rfl) (by kernel_rfl) (tab := tabDa) tabDa_good (keep := d_Accept_keep) ?_
  rintro args h k ⟨E, lv, R, a, b, rfl, few, rr, s, H⟩
  refine ⟨0, ?_⟩
  show d_Accept (tabC _) idG _ lv (.int .u32 (a : Int)) (.int .u32 (b : Int)) h _
  rw [d_Accept_eq]
  refine cK (S := dis 1) (by simp [tabDa]) ⟨E, lv, R, b, a, rfl, by omega, s, ?_⟩
  unfold dAcceptF at H
  by_cases e : (1, b, a) ∈ R
  · rw [if_pos e] at H
    rw [decide_eq_true e]
    simp only [unV_not, Bool.not_true, bindV_some, condK_bool, Bool.false_eq_true, if_false, idG_eq]
    refine cK (S := dwithO) (by simp [tabDa]) ⟨E, lv, R, a, b, rfl, by omega, s, fun h1 lv1 c1 s1 => ?_⟩
    have bv := bvR 2 a b
    have bv : buildV [.int .i64 0, .int .u32 0, .int .u32 0] (some [(0, 1, .int .i64 2), (1, 1, .int .u32 (a : Int)), (2, 1, .int .u32 (b : Int))]) = some (vR (2, a, b)) := bv
    have wl := wh_len (R := R) (a := a) (b := b)
    simp only [bv, bindV_some]
    refine push_r c1.1 s1 (by omega) fun h2 lv2 c2 s2 => ?_
    exact ⟨h2, St.le.refl _, H h2 lv2 (fresh_out c1 c2) s2.neu⟩
  · rw [if_neg e] at H
    rw [decide_eq_false e]
    simp only [unV_not, Bool.not_false, bindV_some, condK_bool, if_true]
    exact ⟨h, St.le.refl _, H h lv (Chg.refl _ _) (s.was (Chg.refl _ _))⟩
theorem drefuseO_good : SpecGood Try.prog (25, dactO dRefuseF) := by
  refine spec_good mixed Try.func25 (by kernel_rfl) (by kernel_rfl) (tab := tabDa) tabDa_good (keep := d_Refuse_keep) ?_
  rintro args h k ⟨E, lv, R, a, b, rfl, few, rr, s, H⟩
  refine ⟨0, ?_⟩
  show d_Refuse (tabC _) idG _ lv (.int .u32 (a : Int)) (.int .u32 (b : Int)) h _
  rw [d_Refuse_eq]
  refine cK (S := dis 1) (by simp [tabDa]) ⟨E, lv, R, b, a, rfl, by omega, s, ?_⟩
  unfold dRefuseF at H
  by_cases e : (1, b, a) ∈ R
  · rw [if_pos e] at H
    rw [decide_eq_true e]
    simp only [unV_not, Bool.not_true, bindV_some, condK_bool, Bool.false_eq_true, if_false, idG_eq]
    refine cK (S := dwithO) (by simp [tabDa]) ⟨E, lv, R, a, b, rfl, by omega, s, fun h1 lv1 c1 s1 => ?_⟩
    exact ⟨h1, St.le.refl _, H h1 lv1 c1 s1.neu⟩
  · rw [if_neg e] at H
    rw [decide_eq_false e]
    simp only [unV_not, Bool.not_false, bindV_some, condK_bool, if_true]
    exact ⟨h, St.le.refl _, H h lv (Chg.refl _ _) (s.was (Chg.refl _ _))⟩
theorem dremoveO_good : SpecGood Try.prog (15, dactO dRemoveF) := by
  refine spec_good mixed Try.func15 (by kernel_rfl) (by kernel_rfl) (tab := tabDa) tabDa_good (keep := d_Remove_keep) ?_
  rintro args h k ⟨E, lv, R, a, b, rfl, few, rr, s, H⟩
  refine ⟨0, ?_⟩
  show d_Remove (tabC _) idG _ lv (.int .u32 (a : Int)) (.int .u32 (b : Int)) h _
  rw [d_Remove_eq]
  refine cK (S := dareO) (by simp [tabDa]) ⟨E, lv, R, a, b, rfl, by omega, s, ?_⟩
  unfold dRemoveF at H
  cases e : frd R a b with
  | true =>
    rw [e, if_pos rfl] at H
    simp only [unV_not, Bool.not_true, bindV_some, condK_bool, Bool.false_eq_true, if_false, idG_eq]
    refine cK (S := dwithO) (by simp [tabDa]) ⟨E, lv, R, a, b, rfl, by omega, s, fun h1 lv1 c1 s1 => ?_⟩
    exact ⟨h1, St.le.refl _, H h1 lv1 c1 s1.neu⟩
  | false =>
    rw [e, if_neg (by simp)] at H
    simp only [unV_not, Bool.not_false, bindV_some, condK_bool, if_true]
    exact ⟨h, St.le.refl _, H h lv (Chg.refl _ _) (s.was (Chg.refl _ _))⟩
theorem dunblockO_good : SpecGood Try.prog (27, dactO dUnblockF) := by
  refine spec_good mixed Try.func27 (by kernel_rfl) (by kernel_rfl) (tab := [(44, dis 3)]) (by simp [dblocksO_good]) (keep := d_Unblock_keep) ?_
  rintro args h k ⟨E, lv, R, a, b, rfl, few, rr, s, H⟩
  refine ⟨R.length + 1, ?_⟩
  show d_Unblock (tabC _) idG _ lv (.int .u32 (a : Int)) (.int .u32 (b : Int)) h _
  rw [d_Unblock_eq]
  refine cK (S := dis 3) (by simp) ⟨E, lv, R, a, b, rfl, by omega, s, ?_⟩
  unfold dUnblockF at H
  by_cases e : (3, a, b) ∈ R
  · rw [if_pos e] at H
    rw [decide_eq_true e]
    simp only [unV_not, Bool.not_true, bindV_some, condK_bool, Bool.false_eq_true, if_false, idG_eq]
    exact dun_l0 (by omega) s (fun h' lv' c s' => H h' lv' c s'.neu) R.length 0 _ h _ (by omega) (by omega) (Chg.refl _ _) (.inl ⟨rfl, rfl, rfl⟩)
  · rw [if_neg e] at H
    rw [decide_eq_false e]
    simp only [unV_not, Bool.not_false, bindV_some, condK_bool, if_true]
    exact ⟨h, St.le.refl _, H h lv (Chg.refl _ _) (s.was (Chg.refl _ _))⟩
def tabDk : List (FuncId × Abs.Spec) := [(43, fwrongO), (44, dis 3), (11, dareO), (45, dis 1), (37, dwithO), (46, dfullO), (29, dtoO)]
theorem tabDk_good : ∀ p ∈ tabDk, SpecGood Try.prog p := by simp [tabDk, dwrongO_good, dblocksO_good, dareO_good, dasksO_good, dwithO_good, dfullO_good, dtoO_good]
theorem dblockO_good : SpecGood Try.prog (26, dact2O dBlockF) := by
  refine spec_good mixed Try.func26 (by kernel_rfl) (by kernel_rfl) (tab := tabDk) tabDk_good (keep := d_Block_keep) ?_
  rintro args h k ⟨E, lv, R, a, b, rfl, few, rr, s, H⟩
  refine ⟨0, ?_⟩
  show d_Block (tabC _) idG _ lv (.int .u32 (a : Int)) (.int .u32 (b : Int)) h _
  rw [d_Block_eq]
  refine cK (S := fwrongO) (by simp [tabDk]) ⟨a, b, rfl, ?_⟩
  unfold dBlockF at H
  by_cases w : wrongN a b ≠ 0
  · rw [if_pos w] at H
    have w' : decide ((wrongN a b : Int) ≠ 0) = true := decide_eq_true (by omega)
    simp only [binNil_int, binV_neq, bindV_some, w', condK_bool, if_true]
    exact ⟨h, St.le.refl _, H h lv (Chg.refl _ _) (s.was (Chg.refl _ _))⟩
  rw [if_neg w] at H
  have w' : decide ((wrongN a b : Int) ≠ 0) = false := decide_eq_false (by omega)
  simp only [binNil_int, binV_neq, bindV_some, w', condK_bool, Bool.false_eq_true, if_false, idG_eq]
  refine cK (S := dis 3) (by simp [tabDk]) ⟨E, lv, R, a, b, rfl, by omega, s, ?_⟩
  by_cases e1 : (3, a, b) ∈ R
  · rw [if_pos e1] at H
    rw [decide_eq_true e1]
    simp only [condK_bool, if_true]
    exact ⟨h, St.le.refl _, H h lv (Chg.refl _ _) (s.was (Chg.refl _ _))⟩
  rw [if_neg e1] at H
  rw [decide_eq_false e1]
  simp only [condK_bool, Bool.false_eq_true, if_false, idG_eq]
  refine cK (S := dtoO) (by simp [tabDk]) ⟨E, lv, R, 3, a, rfl, by omega, rr, s, fun h1 sv c1 o1 => ?_⟩
  simp only [OwnS.len o1, bindV_some, binNil_int, binV_geq, condK_bool, decide_eq_true_eq]
  by_cases f1 : 16 ≤ (dto R 3 a).length
  · rw [if_pos f1] at H
    rw [if_pos (by omega)]
    exact ⟨h1, St.le.refl _, H h1 lv c1 (s.was c1)⟩
  rw [if_neg f1] at H
  rw [if_neg (by omega)]
  simp only [idG_eq]
  refine cK (S := dwithO) (by simp [tabDk]) ⟨E, lv, R, a, b, rfl, by omega, s.chg0 c1, fun h2 lv2 c2 s2 => ?_⟩
  have bv : buildV [.int .i64 0, .int .u32 0, .int .u32 0] (some [(0, 1, .int .i64 3), (1, 1, .int .u32 (a : Int)), (2, 1, .int .u32 (b : Int))]) = some (vR (3, a, b)) := bvR 3 a b
  have wl := wh_len (R := R) (a := a) (b := b)
  simp only [bv, bindV_some]
  refine push_r c2.1 s2 (by omega) fun h3 lv3 c3 s3 => ?_
  have c03 : Chg h h3 [] := c1.seq (fresh_out c2 c3)
  refine cK (S := dareO) (by simp [tabDk]) ⟨E, lv, R, a, b, rfl, by omega, s.chg0 c03, ?_⟩
  exact ⟨h3, St.le.refl _, H h3 lv3 c03 (s3.imp fun j _ hj => .inr (Nat.le_trans c1.1 hj))⟩
theorem daskO_good : SpecGood Try.prog (23, dact2O dAskF) := by
  refine spec_good mixed Try.func23 (by kernel_rfl) (by kernel_rfl) (tab := tabDk) tabDk_good (keep := d_Ask_keep) ?_
  rintro args h k ⟨E, lv, R, a, b, rfl, few, rr, s, H⟩
  refine ⟨0, ?_⟩
  show d_Ask (tabC _) idG _ lv (.int .u32 (a : Int)) (.int .u32 (b : Int)) h _
  rw [d_Ask_eq]
  refine cK (S := fwrongO) (by simp [tabDk]) ⟨a, b, rfl, ?_⟩
  unfold dAskF at H
  have st : ∀ h1, Chg h h1 [] → DtS (fun i => E i ∨ h.next ≤ i) h1 lv R := fun h1 c => s.was c
  by_cases w : wrongN a b ≠ 0
  · rw [if_pos w] at H
    have w' : decide ((wrongN a b : Int) ≠ 0) = true := decide_eq_true (by omega)
    simp only [binNil_int, binV_neq, bindV_some, w', condK_bool, if_true]
    exact ⟨h, St.le.refl _, H h lv (Chg.refl _ _) (st h (Chg.refl _ _))⟩
  rw [if_neg w] at H
  have w' : decide ((wrongN a b : Int) ≠ 0) = false := decide_eq_false (by omega)
  simp only [binNil_int, binV_neq, bindV_some, w', condK_bool, Bool.false_eq_true, if_false, idG_eq]
  refine cK (S := dis 3) (by simp [tabDk]) ⟨E, lv, R, a, b, rfl, by omega, s, ?_⟩
  by_cases e1 : (3, a, b) ∈ R
  · rw [if_pos (.inl e1)] at H
    rw [decide_eq_true e1]
    simp only [bindV_some, groupK_eq, guardK_bool, if_true, Bool.true_eq_false, if_false, idG_eq, pickV_bool, condK_bool]
    exact ⟨h, St.le.refl _, H h lv (Chg.refl _ _) (st h (Chg.refl _ _))⟩
  rw [decide_eq_false e1]
  simp only [bindV_some, groupK_eq, guardK_bool, if_true, Bool.false_eq_true, if_false, idG_eq, pickV_bool, condK_bool]
  refine cK (S := dis 3) (by simp [tabDk]) ⟨E, lv, R, b, a, rfl, by omega, s, ?_⟩
  by_cases e2 : (3, b, a) ∈ R
  · rw [if_pos (.inr e2)] at H
    rw [decide_eq_true e2]
    simp only [getT, bindV_some, groupK_eq, guardK_bool, if_true, Bool.false_eq_true, if_false, idG_eq, pickV_bool, condK_bool]
    exact ⟨h, St.le.refl _, H h lv (Chg.refl _ _) (st h (Chg.refl _ _))⟩
  rw [if_neg (by simp [e1, e2])] at H
  rw [decide_eq_false e2]
  simp only [getT, bindV_some, groupK_eq, guardK_bool, if_true, Bool.false_eq_true, if_false, idG_eq, pickV_bool, condK_bool]
  refine cK (S := dareO) (by simp [tabDk]) ⟨E, lv, R, a, b, rfl, by omega, s, ?_⟩
  cases e3 : frd R a b with
  | true =>
    rw [e3, if_pos (.inl rfl)] at H
    simp only [bindV_some, groupK_eq, guardK_bool, if_true, Bool.true_eq_false, if_false, idG_eq, pickV_bool, condK_bool]
    exact ⟨h, St.le.refl _, H h lv (Chg.refl _ _) (st h (Chg.refl _ _))⟩
  | false =>
  simp only [bindV_some, groupK_eq, guardK_bool, if_true, Bool.false_eq_true, if_false, idG_eq, pickV_bool, condK_bool]
  refine cK (S := dis 1) (by simp [tabDk]) ⟨E, lv, R, a, b, rfl, by omega, s, ?_⟩
  by_cases e4 : (1, a, b) ∈ R
  · rw [if_pos (.inr e4)] at H
    rw [decide_eq_true e4]
    simp only [getT, bindV_some, groupK_eq, guardK_bool, if_true, Bool.false_eq_true, if_false, idG_eq, pickV_bool, condK_bool]
    exact ⟨h, St.le.refl _, H h lv (Chg.refl _ _) (st h (Chg.refl _ _))⟩
  rw [if_neg (by simp [e3, e4])] at H
  rw [decide_eq_false e4]
  simp only [getT, bindV_some, groupK_eq, guardK_bool, if_true, Bool.false_eq_true, if_false, idG_eq, pickV_bool, condK_bool]
  refine cK (S := dis 1) (by simp [tabDk]) ⟨E, lv, R, b, a, rfl, by omega, s, ?_⟩
  have wl := wh_len (R := R) (a := a) (b := b)
  by_cases e5 : (1, b, a) ∈ R
  · rw [if_pos e5] at H
    rw [decide_eq_true e5]
    simp only [condK_bool, if_true]
    refine cK (S := dwithO) (by simp [tabDk]) ⟨E, lv, R, a, b, rfl, by omega, s, fun h1 lv1 c1 s1 => ?_⟩
    have bv : buildV [.int .i64 0, .int .u32 0, .int .u32 0] (some [(0, 1, .int .i64 2), (1, 1, .int .u32 (a : Int)), (2, 1, .int .u32 (b : Int))]) = some (vR (2, a, b)) := bvR 2 a b
    simp only [bv, bindV_some]
    refine push_r c1.1 s1 (by omega) fun h2 lv2 c2 s2 => ?_
    exact ⟨h2, St.le.refl _, H h2 lv2 (fresh_out c1 c2) s2.neu⟩
  rw [if_neg e5] at H
  rw [decide_eq_false e5]
  simp only [condK_bool, Bool.false_eq_true, if_false, idG_eq]
  refine cK (S := dfullO) (by simp [tabDk]) ⟨E, lv, R, a, rfl, by omega, rr, s, fun h1 c1 => ?_⟩
  by_cases f1 : 16 ≤ dcnt R a
  · rw [if_pos (.inl f1)] at H
    rw [decide_eq_true f1]
    simp only [groupK_eq, guardK_bool, Bool.true_eq_false, if_false, idG_eq, pickV_bool, if_true, bindV_some, condK_bool]
    exact ⟨h1, St.le.refl _, H h1 lv c1 (st h1 c1)⟩
  rw [decide_eq_false f1]
  simp only [groupK_eq, guardK_bool, if_true, idG_eq, pickV_bool, Bool.false_eq_true, if_false, bindV_some, condK_bool]
  refine cK (S := dfullO) (by simp [tabDk]) ⟨E, lv, R, b, rfl, by omega, rr, s.chg0 c1, fun h2 c2 => ?_⟩
  have c02 := c1.seq c2
  by_cases f2 : 16 ≤ dcnt R b
  · rw [if_pos (.inr f2)] at H
    rw [decide_eq_true f2]
    simp only [getT, pickV_bool, Bool.false_eq_true, if_false, if_true, bindV_some, condK_bool]
    exact ⟨h2, St.le.refl _, H h2 lv c02 (st h2 c02)⟩
  rw [if_neg (by omega)] at H
  rw [decide_eq_false f2]
  simp only [getT, pickV_bool, Bool.false_eq_true, if_false, bindV_some, condK_bool, idG_eq]
  refine buildSliceE_in [] rfl rfl rfl fun h3 c3 n3 o3 => ?_
  obtain ⟨nc, nl⟩ := own_cells (s.chg0 (c02.seq c3))
  have e0 : OwnS (fun i => h2.next ≤ i) h3 (.slice (some ⟨h2.next, 0, some 3⟩) 0 0) 3 [] 0 := .inr ⟨h2.next, rfl, Nat.le_refl _, by omega, o3, rfl⟩
  refine append_own' (B := fun i => h2.next ≤ i) (by omega) e0 nc nl (one_R R) (by omega) (by omega) fun h4 lv4 c4 s4 => ?_
  have bv : buildV [.int .i64 0, .int .u32 0, .int .u32 0] (some [(0, 1, .int .i64 1), (1, 1, .int .u32 (a : Int)), (2, 1, .int .u32 (b : Int))]) = some (vR (1, a, b)) := bvR 1 a b
  simp only [bv, bindV_some]
  have s4 : DtS (fun i => h2.next ≤ i) h4 lv4 R := by
    have : (0 + R.length) = R.length := Nat.zero_add _
    rw [this, List.nil_append] at s4
    exact s4
  have c24 : Chg h2 h4 [] := fresh_out c3 c4
  refine push_r c24.1 s4 (by omega) fun h5 lv5 c5 s5 => ?_
  exact ⟨h5, St.le.refl _, H h5 lv5 (c02.seq (fresh_out c24 c5)) (s5.imp fun j _ hj => .inr (Nat.le_trans c02.1 hj))⟩
end Go.Proofs.Ytnndflbpcemecaa
