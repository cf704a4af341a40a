/- Friends: has, put, end, befriend, New, wrong. -/
import Derived.Test.YtlohiobliagaoaaFrA
set_option linter.unusedSimpArgs false
set_option linter.unusedVariables false
set_option maxHeartbeats 4000000
namespace Go.Proofs.Ytlohiobliagaoaa
open Go.Abs Go.IntWalk
attribute [local congr] bindV_weak condK_weak guardK_weak groupK_weak allocE_weak boxE_weak storeE_weak storeM_weak tabC_weak ite_weak idG_weak appendE_weak buildSliceE_weak mapUpdateE_weak deleteE_weak makeMapE_weak copyE_weak clearE_weak callE_weak mapEntryE_weak entryStoreE_weak rangeE_weak nextE_weak

theorem buildKey (a b : Nat) : buildV [.int .u32 0, .int .u32 0] (some [(0, 1, .int .u32 (a : Int)), (1, 1, .int .u32 (b : Int))]) = some (keyE a b) := rfl
theorem bit_int (w k : Nat) : decide (((w &&& k : Nat) : Int) ≠ 0) = bit w k := decide_eq_decide.2 (by omega)
def grV (v : Value) : Prop := ∃ g, v = .pointer (some ⟨g, 0, none⟩)
/-! ### has -/
def fhasO : Abs.Spec := fun args h k => ∃ (D : Nat → Prop) (v : Value) (N : Nat) (F : Fn) (a b w : Nat), args = [v, .int .u32 (a : Int), .int .u32 (b : Int), .int .i64 (w : Int)] ∧ w < 8 ∧ GrS D h v N F ∧ k (.bool (bit (F a b) w)) h
theorem fhasO_good : SpecGood Try.prog (32, fhasO) := by
  refine spec_good mixed Try.func32 (by kernel_rfl) (by kernel_rfl) (tab := []) (by simp) (keep := fr_has_keep) ?_
  rintro args h k ⟨D, v, N, F, a, b, w, rfl, hw, ⟨g, m, rfl, dg, gm, gn, og, f, L, ma, i, l⟩, H⟩
  refine ⟨0, ?_⟩
  show fr_has (tabC _) idG 0 (.pointer (some ⟨g, 0, none⟩)) (.int .u32 (a : Int)) (.int .u32 (b : Int)) (.int .i64 (w : Int)) h _
  rw [fr_has_eq]
  have e1 : binNil .neq .ptr (.pointer (some ⟨g, 0, none⟩)) (.pointer none) = some (.bool true) := rfl
  rw [e1]
  simp only [bindV_some, groupK_eq, guardK_bool, if_true, nilV, offV_ptr, loadV_ptr, og, loadM_cells, partV_one, List.getElem?_cons_zero, Nat.zero_add, buildKey, lookE ma i, bv_and (f.lt a b) hw, binNil_int, binV_neq, idG_eq, getT, pickV_bool, bit_int]
  exact ⟨h, St.le.refl _, H⟩
def fhasN : Abs.Spec := fun args h k => ∃ (a b w : Value), args = [.pointer none, a, b, w] ∧ k (.bool false) h
theorem fhasN_good : SpecGood Try.prog (32, fhasN) := by
  refine spec_good mixed Try.func32 (by kernel_rfl) (by kernel_rfl) (tab := []) (by simp) (keep := fr_has_keep) ?_
  rintro args h k ⟨a, b, w, rfl, H⟩
  refine ⟨0, ?_⟩
  show fr_has (tabC _) idG 0 (.pointer none) a b w h _
  rw [fr_has_eq]
  have e1 : binNil .neq .ptr (.pointer none) (.pointer none) = some (.bool false) := rfl
  rw [e1]
  simp only [bindV_some, groupK_eq, guardK_bool, Bool.false_eq_true, if_false, idG_eq, pickV_bool]
  exact ⟨h, St.le.refl _, H⟩
/-! ### put -/
def fputO : Abs.Spec := fun args h k => ∃ (D : Nat → Prop) (v : Value) (N : Nat) (F : Fn) (a b w : Nat), args = [v, .int .u32 (a : Int), .int .u32 (b : Int), .int .i64 (w : Int)] ∧ w < 8 ∧ rid a ∧ rid b ∧ GrS D h v N F ∧
  ∀ h', ChgP D h h' → GrS D h' v (N + 1) (updF F a b (F a b ||| w)) → k (.tuple #[]) h'
theorem fputO_good : SpecGood Try.prog (35, fputO) := by
  refine spec_good mixed Try.func35 (by kernel_rfl) (by kernel_rfl) (tab := []) (by simp) (keep := fr_put_keep) ?_
  rintro args h k ⟨D, v, N, F, a, b, w, rfl, hw, ra, rb, ⟨g, m, rfl, dg, gm, gn, og, f, L, ma, i, l⟩, H⟩
  refine ⟨0, ?_⟩
  show fr_put (tabC _) idG 0 (.pointer (some ⟨g, 0, none⟩)) (.int .u32 (a : Int)) (.int .u32 (b : Int)) (.int .i64 (w : Int)) h _
  rw [fr_put_eq]
  simp only [nilV, offV_ptr, bindV_some, loadV_ptr, og, loadM_cells, partV_one, List.getElem?_cons_zero, Nat.zero_add]
  refine ⟨trivial, ?_⟩
  simp only [buildKey, bindV_some, lookE ma i]
  refine ⟨trivial, ?_⟩
  simp only [bv_or (f.lt a b) hw, bindV_some]
  have dm := ma.1
  have fin : ∀ L' h', L'.length ≤ N + 1 → Is L' (updF F a b (F a b ||| w)) → Chg h h' [m] → MapB D ekE evE h' m L' → ∃ h2, St.le h2 h' ∧ k (.tuple #[]) h2 := fun L' h' hl is c ma' =>
    ⟨h', St.le.refl _, H h' (c.toP (by simp [dm])) ⟨g, m, rfl, dg, gm, Nat.lt_of_lt_of_le gn c.1, c.at1 gn gm og, f.upd (or_lt _ (f.lt a b) _ hw) (fun _ => ⟨ra, rb⟩), L', ma', is, hl⟩⟩
  refine MapB.edit ma (p := pk a b) (a, b, 0) (a, b, F a b ||| w) (find_nilE a b) (cmp_E a b) (fun x hx => key_E hx) rfl rfl rfl (by simp [pk]) ⟨trivial, trivial, trivial⟩ (fun h1 e1 c1 n1 => ⟨?_, trivial, trivial⟩) (fun A x C h' e1 e2 e3 c' n' ma' => ?_) fun e1 h' c' n' ma' => ?_
  · exact e1.trans (lookE ma i a b)
  · exact fin _ h' (by rw [e1] at l; simp at l ⊢; omega) (i.set e1 e2) c' ma'
  · exact fin _ h' (by simp; omega) (i.push e1) c' ma'
/-! ### end -/
def fendO : Abs.Spec := fun args h k => ∃ (D : Nat → Prop) (v : Value) (N : Nat) (F : Fn) (a b w : Nat), args = [v, .int .u32 (a : Int), .int .u32 (b : Int), .int .i64 (w : Int)] ∧ w < 8 ∧ GrS D h v N F ∧
  ∀ h', ChgP (fun i => D i ∨ h.next ≤ i) h h' → GrS D h' v N (updF F a b (clr (F a b) w)) → k (.tuple #[]) h'
theorem clr_rid {F : Fn} (f : FOk F) {a b w : Nat} (hw : w < 8) : clr (F a b) w ≠ 0 → rid a ∧ rid b := fun h => f.rd a b fun e => h (by rw [e]; exact Nat.zero_and _)
theorem fendO_good : SpecGood Try.prog (44, fendO) := by
  refine spec_good mixed Try.func44 (by kernel_rfl) (by kernel_rfl) (tab := []) (by simp) (keep := fr_end_keep) ?_
  rintro args h k ⟨D, v, N, F, a, b, w, rfl, hw, ⟨g, m, rfl, dg, gm, gn, og, f, L, ma, i, l⟩, H⟩
  refine ⟨0, ?_⟩
  show fr_end (tabC _) idG 0 (.pointer (some ⟨g, 0, none⟩)) (.int .u32 (a : Int)) (.int .u32 (b : Int)) (.int .i64 (w : Int)) h _
  rw [fr_end_eq]
  simp only [buildKey, bindV_some]
  refine allocE_in fun h1 c1 n1 o1 => ?_
  refine storeE_all o1 rfl rfl rfl fun h2 c2 n2 o2 => ?_
  have o2 : h2.objs h.next = some (.cells [.int .u32 (a : Int), .int .u32 (b : Int)] true) := o2
  have cc : Chg h h2 [] := c1.new c2 (by omega)
  have og2 := cc.at0 gn og
  have ma2 : MapB D ekE evE h2 m L := ma.chg cc (by simp)
  have tk : takeN [Value.int .u32 (a : Int), .int .u32 (b : Int)] 0 2 = some [.int .u32 (a : Int), .int .u32 (b : Int)] := rfl
  have key : (Value.agg [Value.int .u32 (a : Int), .int .u32 (b : Int)].toArray) = keyE a b := rfl
  simp only [nilV, offV_ptr, bindV_some, loadV_ptr, og2, loadM_cells, partV_one, List.getElem?_cons_zero, Nat.zero_add]
  refine ⟨trivial, ?_⟩
  simp only [loadV_ptr, o2, loadM_cells, partV_agg, tk, Option.map_some, bindV_some, key]
  refine ⟨trivial, ?_⟩
  simp only [lookE ma2 i, bindV_some]
  refine ⟨trivial, ?_⟩
  simp only [bv_not (f.lt a b) hw, bindV_some]
  have dm := ma.1
  have mn := ma.2.1
  have cl := clr_lt _ (f.lt a b) _ hw
  have f' := f.upd (a := a) (b := b) cl (clr_rid f hw)
  have fin : ∀ L' h', L'.length ≤ N → Is L' (updF F a b (clr (F a b) w)) → Chg h h' [m] → MapB D ekE evE h' m L' → ∃ h2, St.le h2 h' ∧ k (.tuple #[]) h2 := fun L' h' hl is c ma' =>
    ⟨h', St.le.refl _, H h' (c.toP (by simp [dm])) ⟨g, m, rfl, dg, gm, Nat.lt_of_lt_of_le gn c.1, c.at1 gn gm og, f', L', ma', is, hl⟩⟩
  -- behind the store
  have rest : ∀ L' h', (∃ x ∈ L', pk a b x = true) → (clr (F a b) w ≠ 0 → L'.length ≤ N) → L'.length ≤ N + 1 → Is L' (updF F a b (clr (F a b) w)) → Chg h2 h' [m] → MapB D ekE evE h' m L' →
      bindV (nilV (.pointer (some ⟨g, 0, none⟩))) fun v23 => bindV (offV 0 v23) fun v24 => bindV (loadV false 1 v24 h') fun v25 => (True) ∧ bindV (loadV true 2 (.pointer (some ⟨h.next, 0, none⟩)) h') fun v26 => (True) ∧ bindV (lookV (.flat [.i, .i]) (.int .i64 0) false v25 v26 h') fun v27 => (True) ∧ bindV (binNil .eql .other v27 (.int .i64 0)) fun v28 => condK v28 (bindV (nilV (.pointer (some ⟨g, 0, none⟩))) fun v30 => bindV (offV 0 v30) fun v31 => bindV (loadV false 1 v31 h') fun v32 => (True) ∧ bindV (loadV true 2 (.pointer (some ⟨h.next, 0, none⟩)) h') fun v33 => (True) ∧ deleteE (.flat [.i, .i]) v32 v33 h' fun _ h8 => (True ∧ True ∧ True) ∧ (∃ h2, St.le h2 h8 ∧ k (.tuple #[]) h2)) (∃ h2, St.le h2 h' ∧ k (.tuple #[]) h2) := by
    intro L' h' hx hl1 hl2 is c' ma'
    have n2' : h.next < h2.next := by omega
    have og' := c'.at1 (by have := cc.1; omega) gm og2
    have o2' := c'.at1 n2' (by omega) o2
    have ch : Chg h h' [m] := Chg.trans cc c' (by simp) (by simp)
    simp only [nilV, offV_ptr, bindV_some, loadV_ptr, og', loadM_cells, partV_one, List.getElem?_cons_zero, Nat.zero_add]
    refine ⟨trivial, ?_⟩
    simp only [loadV_ptr, o2', loadM_cells, partV_agg, tk, Option.map_some, bindV_some, key]
    refine ⟨trivial, ?_⟩
    have ev : updF F a b (clr (F a b) w) a b = clr (F a b) w := by unfold updF; rw [if_pos ⟨rfl, rfl⟩]
    simp only [lookE ma' is, bindV_some, ev]
    refine ⟨trivial, ?_⟩
    simp only [binNil_int, binV_eql, bindV_some, condK_bool, decide_eq_true_eq]
    by_cases z : clr (F a b) w = 0
    · rw [if_pos (by omega)]
      simp only [nilV, offV_ptr, bindV_some, loadV_ptr, og', loadM_cells, partV_one, List.getElem?_cons_zero, Nat.zero_add]
      refine ⟨trivial, ?_⟩
      simp only [loadV_ptr, o2', loadM_cells, partV_agg, tk, Option.map_some, bindV_some, key]
      refine ⟨trivial, ?_⟩
      refine MapB.del ma' (p := pk a b) (find_nilE a b) (cmp_E a b) (fun A x C h8 e1 e2 e3 c8 n8 ma8 => ⟨⟨trivial, trivial, trivial⟩, ?_⟩) fun e1 => ⟨⟨trivial, trivial, trivial⟩, ?_⟩
      · refine fin (A ++ C) h8 (by rw [e1] at hl2; simp at hl2 ⊢; omega) ?_ (ch.trans c8 (by simp) (by simp)) ma8
        have := is.del e1 e2
        rw [updF_updF] at this
        rw [z]; exact this
      · obtain ⟨x, hx, px⟩ := hx
        rw [e1 x hx] at px; cases px
    · rw [if_neg (by omega)]
      exact fin L' h' (hl1 z) is ch ma'
  refine MapB.edit ma2 (p := pk a b) (a, b, 0) (a, b, clr (F a b) w) (find_nilE a b) (cmp_E a b) (fun x hx => key_E hx) rfl rfl rfl (by simp [pk]) ⟨trivial, trivial, trivial, trivial⟩ (fun h1 e1 c1 n1 => ⟨?_, trivial, trivial, trivial⟩) (fun A x C h' e1 e2 e3 c' n' ma' => ?_) fun e1 h' c' n' ma' => ?_
  · exact e1.trans (lookE ma2 i a b)
  · exact rest _ h' ⟨(a, b, clr (F a b) w), by simp, by simp [pk]⟩ (fun _ => by rw [e1] at l; simp at l ⊢; omega) (by rw [e1] at l; simp at l ⊢; omega) (i.set e1 e2) c' ma'
  · refine rest _ h' ⟨(a, b, clr (F a b) w), by simp, by simp [pk]⟩ (fun hz => absurd ?_ hz) (by simp; omega) (i.push e1) c' ma'
    rw [i.miss e1]; exact Nat.zero_and _
/-! ### befriend, New, wrong -/
def befF (F : Fn) (a b : Nat) : Fn :=
  let F1 := updF F a b (clr (F a b) 1)
  let F2 := updF F1 b a (clr (F1 b a) 1)
  let F3 := updF F2 a b (F2 a b ||| 2)
  updF F3 b a (F3 b a ||| 2)
def befO : Abs.Spec := fun args h k => ∃ (D : Nat → Prop) (v : Value) (N : Nat) (F : Fn) (a b : Nat), args = [v, .int .u32 (a : Int), .int .u32 (b : Int)] ∧ rid a ∧ rid b ∧ GrS D h v N F ∧
  ∀ h', ChgP (fun i => D i ∨ h.next ≤ i) h h' → GrS D h' v (N + 2) (befF F a b) → k (.tuple #[]) h'
theorem befO_good : SpecGood Try.prog (33, befO) := by
  refine spec_good mixed Try.func33 (by kernel_rfl) (by kernel_rfl) (tab := [(44, fendO), (35, fputO)]) (by simp [fendO_good, fputO_good]) (keep := fr_befriend_keep) ?_
  rintro args h k ⟨D, v, N, F, a, b, rfl, ra, rb, s, H⟩
  refine ⟨0, ?_⟩
  show fr_befriend (tabC _) idG 0 v (.int .u32 (a : Int)) (.int .u32 (b : Int)) h _
  rw [fr_befriend_eq]
  refine cK (S := fendO) (by simp) ⟨D, v, N, F, a, b, 1, rfl, by omega, s, fun h1 c1 s1 => ?_⟩
  refine cK (S := fendO) (by simp) ⟨D, v, N, _, b, a, 1, rfl, by omega, s1, fun h2 c2 s2 => ?_⟩
  refine cK (S := fputO) (by simp) ⟨D, v, N, _, a, b, 2, rfl, by omega, ra, rb, s2, fun h3 c3 s3 => ?_⟩
  refine cK (S := fputO) (by simp) ⟨D, v, N + 1, _, b, a, 2, rfl, by omega, rb, ra, s3, fun h4 c4 s4 => ?_⟩
  exact ⟨h4, St.le.refl _, H h4 (((c1.out c2).out c3.outw).out c4.outw) s4⟩
def fnewO : Abs.Spec := fun args h k => args = [] ∧ ∀ h' v, Chg h h' [] → grV v → GrS (fun i => h.next ≤ i) h' v 0 (fun _ _ => 0) → k v h'
theorem fnewO_good : SpecGood Try.prog (18, fnewO) := by
  refine spec_good mixed Try.func18 (by kernel_rfl) (by kernel_rfl) (tab := []) (by simp) (keep := fr_New_keep) ?_
  rintro args h k ⟨rfl, H⟩
  refine ⟨0, ?_⟩
  show fr_New (tabC _) idG 0 h _
  rw [fr_New_eq, makeMapE_eq]
  have c1 : Chg h (h.push (.map [] 0)) [] := Chg.push _ _
  have o1 : (h.push (.map [] 0)).objs h.next = some (.map [] 0) := push_at _ _
  have n1 : (h.push (.map [] 0)).next = h.next + 1 := rfl
  have b : buildV [.map none] (some [(0, 1, .map (some h.next))]) = some (.agg #[.map (some h.next)]) := rfl
  simp only [b, bindV_some]
  refine boxE_in (by rfl) fun h2 c2 n2 o2 => ?_
  refine ⟨h2, St.le.refl _, H h2 _ (c1.seq c2) ⟨_, rfl⟩ ⟨_, h.next, rfl, by omega, by omega, by omega, o2, FOk.none, [], ⟨Nat.le_refl _, by omega, [], 0, c2.at0 (by omega) o1, rfl, by simp, by simp⟩, Is.nil, Nat.le_refl _⟩⟩
/-- What is wrong with two players. -/
def wrongN (a b : Nat) : Nat := if rightId a = true ∧ rightId b = true then (if a = b then 16 else 0) else 14
def fwrongO : Abs.Spec := fun args h k => ∃ a b : Nat, args = [.int .u32 (a : Int), .int .u32 (b : Int)] ∧ k (.int .i64 (wrongN a b : Int)) h
theorem fwrongO_good : SpecGood Try.prog (31, fwrongO) := by
  refine spec_good mixed Try.func31 (by kernel_rfl) (by kernel_rfl) (tab := [(28, rightO)]) (by simp [rightO_good]) (keep := fr_wrong_keep) ?_
  rintro args h k ⟨a, b, rfl, H⟩
  refine ⟨0, ?_⟩
  show fr_wrong (tabC _) idG 0 (.int .u32 (a : Int)) (.int .u32 (b : Int)) h _
  rw [fr_wrong_eq]
  refine cK (S := rightO) (by simp) ⟨a, rfl, ?_⟩
  unfold wrongN at H
  cases ha : rightId a with
  | false =>
    rw [ha, if_neg (by simp)] at H
    simp only [unV_not, Bool.not_false, bindV_some, groupK_eq, guardK_bool, if_true, Bool.true_eq_false, if_false, idG_eq, pickV_bool, condK_bool]
    exact ⟨h, St.le.refl _, H⟩
  | true =>
    simp only [unV_not, Bool.not_true, bindV_some, groupK_eq, guardK_bool, if_true, Bool.false_eq_true, if_false, idG_eq, pickV_bool, condK_bool]
    refine cK (S := rightO) (by simp) ⟨b, rfl, ?_⟩
    cases hb : rightId b with
    | false =>
      rw [ha, hb, if_neg (by simp)] at H
      simp only [unV_not, Bool.not_false, bindV_some, groupK_eq, guardK_bool, if_true, Bool.true_eq_false, if_false, idG_eq, pickV_bool, condK_bool, getT, Bool.false_eq_true]
      exact ⟨h, St.le.refl _, H⟩
    | true =>
      rw [ha, hb, if_pos ⟨rfl, rfl⟩] at H
      simp only [unV_not, Bool.not_true, bindV_some, groupK_eq, guardK_bool, if_true, Bool.false_eq_true, if_false, idG_eq, pickV_bool, condK_bool, getT, binV_eql, decide_eq_true_eq]
      by_cases e : a = b
      · rw [if_pos e] at H
        rw [if_pos (by omega)]
        exact ⟨h, St.le.refl _, H⟩
      · rw [if_neg e] at H
        rw [if_neg (by omega)]
        simp only [idG_eq]
        exact ⟨h, St.le.refl _, H⟩
end Go.Proofs.Ytlohiobliagaoaa
