/- Without a queue; what the examples say; 'TimerAdds' and 'TimerNil', walked. -/
import Derived.Test.YtaoeeoboaiknjaaI
import Derived.Test.YtaoeeoboaiknjaaGenL
set_option linter.unusedSimpArgs false
set_option linter.unusedVariables false
set_option maxHeartbeats 4000000
namespace Go.Proofs.Ytaoeeoboaiknjaa
open Go.Abs Go.IntWalk
attribute [local congr] bindV_weak condK_weak guardK_weak groupK_weak allocE_weak boxE_weak storeE_weak storeM_weak tabC_weak ite_weak idG_weak appendE_weak buildSliceE_weak invokeE_weak mapUpdateE_weak deleteE_weak makeMapE_weak

def nil0 : Value := .pointer none
def setN : Abs.Spec := fun args h k => ∃ a b c, args = [nil0, a, b, c] ∧ k (.tuple #[]) h
theorem setN_good : SpecGood Try.prog (12, setN) := by
  refine spec_good mixed Try.func12 (by kernel_rfl) (by kernel_rfl) (tab := []) (by simp) (keep := timer_Queue_Set_keep) ?_
  rintro args h k ⟨a, b, c, rfl, H⟩
  refine ⟨0, ?_⟩
  show timer_Queue_Set (tabC []) idG 0 nil0 a b c h _
  rw [timer_Queue_Set_eq]
  simp only [nil0, binNil_ptr_eql, bindV_some, Option.isNone, condK_bool, if_true]
  exact ⟨h, St.le.refl _, H⟩
def clearN : Abs.Spec := fun args h k => ∃ a b, args = [nil0, a, b] ∧ k (.bool false) h
theorem clearN_good : SpecGood Try.prog (16, clearN) := by
  refine spec_good mixed Try.func16 (by kernel_rfl) (by kernel_rfl) (tab := []) (by simp) (keep := timer_Queue_Clear_keep) ?_
  rintro args h k ⟨a, b, rfl, H⟩
  refine ⟨0, ?_⟩
  show timer_Queue_Clear (tabC []) idG 0 nil0 a b h _
  rw [timer_Queue_Clear_eq]
  simp only [nil0, binNil_ptr_eql, bindV_some, Option.isNone, condK_bool, if_true]
  exact ⟨h, St.le.refl _, H⟩
def findN : Abs.Spec := fun args h k => ∃ a b, args = [nil0, a, b] ∧ k (.tuple #[.int .i64 0, .bool false]) h
theorem findN_good : SpecGood Try.prog (20, findN) := by
  refine spec_good mixed Try.func20 (by kernel_rfl) (by kernel_rfl) (tab := []) (by simp) (keep := timer_Queue_Find_keep) ?_
  rintro args h k ⟨a, b, rfl, H⟩
  refine ⟨0, ?_⟩
  show timer_Queue_Find (tabC []) idG 0 nil0 a b h _
  rw [timer_Queue_Find_eq]
  simp only [nil0, binNil_ptr_eql, bindV_some, Option.isNone, condK_bool, if_true]
  exact ⟨h, St.le.refl _, H⟩
def lenN : Abs.Spec := fun args h k => args = [nil0] ∧ k (.int .i64 0) h
theorem lenN_good : SpecGood Try.prog (14, lenN) := by
  refine spec_good mixed Try.func14 (by kernel_rfl) (by kernel_rfl) (tab := []) (by simp) (keep := timer_Queue_Len_keep) ?_
  rintro args h k ⟨rfl, H⟩
  refine ⟨0, ?_⟩
  show timer_Queue_Len (tabC []) idG 0 nil0 h _
  rw [timer_Queue_Len_eq]
  simp only [nil0, binNil_ptr_eql, bindV_some, Option.isNone, condK_bool, if_true]
  exact ⟨h, St.le.refl _, H⟩
def nextN : Abs.Spec := fun args h k => args = [nil0] ∧ ∀ h', Chg h h' [] → k (.tuple #[encT .zero, .bool false]) h'
theorem nextN_good : SpecGood Try.prog (22, nextN) := by
  refine spec_good mixed Try.func22 (by kernel_rfl) (by kernel_rfl) (tab := [(14, lenN)]) (by simp [lenN_good]) (keep := timer_Queue_Next_keep) ?_
  rintro args h k ⟨rfl, H⟩
  refine ⟨0, ?_⟩
  show timer_Queue_Next (tabC _) idG 0 nil0 h _
  rw [timer_Queue_Next_eq]
  refine allocE_in fun h1 c1 n1 o1 => ?_
  refine .inl ⟨rfl, rfl, ?_⟩
  have hb : buildV [.int .i64 0, .int .u32 0, .int .i64 0] (some []) = some (encT .zero) := rfl
  simp only [binNil_int, binV_eql, bindV_some, condK_bool, decide_true, if_true, hb]
  refine storeE_all o1 rfl rfl rfl fun h5 c5 n5 o5 => ?_
  simp only [loadV_ptr, o5, loadM_cells, partV_agg]
  exact ⟨_, St.le.refl _, H _ (c1.new c5 (Nat.le_refl _))⟩
def dueN : Abs.Spec := fun args h k => ∃ a, args = [nil0, a] ∧ ∀ h', Chg h h' [] → k (.tuple #[encT .zero, .bool false]) h'
theorem dueN_good : SpecGood Try.prog (13, dueN) := by
  refine spec_good mixed Try.func13 (by kernel_rfl) (by kernel_rfl) (tab := [(22, nextN)]) (by simp [nextN_good]) (keep := timer_Queue_Due_keep) ?_
  rintro args h k ⟨a, rfl, H⟩
  refine ⟨0, ?_⟩
  show timer_Queue_Due (tabC _) idG 0 nil0 a h _
  rw [timer_Queue_Due_eq]
  refine allocE_in fun h1 c1 n1 o1 => ?_
  refine .inl ⟨rfl, rfl, fun h2 c2 => ?_⟩
  have o2 := c2.at0 (by omega) o1
  have m2 := c2.1
  simp only [extV_two0, extV_two1, bindV_some]
  refine allocE_in fun h3 c3 n3 o3 => ?_
  refine storeE_all o3 rfl rfl rfl fun h4 c4 n4 o4 => ?_
  have o2' := c4.at1 (by omega) (by omega) (c3.at0 (by omega) o2)
  have hb : buildV [.int .i64 0, .int .u32 0, .int .i64 0] (some []) = some (encT .zero) := rfl
  simp only [unV_not, bindV_some, groupK_eq, guardK_bool, Bool.not_false, Bool.true_eq_false, if_false, idG_eq, pickV_bool, if_true, condK_bool, hb]
  refine storeE_all o2' rfl rfl rfl fun h5 c5 n5 o5 => ?_
  simp only [loadV_ptr, o5, loadM_cells, partV_agg]
  exact ⟨_, St.le.refl _, H _ ((((c1.seq c2).seq c3).new c4 (by omega)).new c5 (Nat.le_refl _))⟩

/-! ### what the examples say -/
theorem eqT (a b : Tm) : binV .eql (.flat [.i, .i, .i]) (encT a) (encT b) = some (.bool (decide (a = b))) := by
  have : eqAll [.i, .i, .i] (cellsT a) (cellsT b) = some (decide (a = b)) := by
    obtain ⟨a1, a2, a3⟩ := a
    obtain ⟨b1, b2, b3⟩ := b
    simp only [cellsT, eqAll, eqCk, if_true, Tm.mk.injEq]
    by_cases h1 : a1 = b1
    · by_cases h2 : a2 = b2
      · by_cases h3 : a3 = b3
        · simp [h1, h2, h3]
        · have : (a3 == b3) = false := by simpa using h3
          simp [h1, h2, h3, this]
      · have : (a2 == b2) = false := by simpa using h2
        simp [h1, h2, this]
    · have : (a1 == b1) = false := by simpa using h1
      simp [h1, this]
  have e : eqV (.flat [.i, .i, .i]) (encT a) (encT b) = eqAll [.i, .i, .i] (cellsT a) (cellsT b) := rfl
  simp only [binV, encT] at *
  rw [e, this]
  rfl
theorem neT (a b : Tm) : binV .neq (.flat [.i, .i, .i]) (encT a) (encT b) = some (.bool (decide (a ≠ b))) := by
  have h := eqT a b
  simp only [binV, encT] at h ⊢
  obtain ⟨z, hz⟩ : ∃ z, z = eqV (.flat [.i, .i, .i]) (.agg #[.int .i64 a.kind, .int .u32 a.id, .int .i64 a.at_]) (.agg #[.int .i64 b.kind, .int .u32 b.id, .int .i64 b.at_]) := ⟨_, rfl⟩
  rw [← hz] at h ⊢
  cases z with
  | none => cases h
  | some z =>
    simp only [Option.map_some, Option.some.injEq, Value.bool.injEq] at h ⊢
    rw [h]
    by_cases e : a = b <;> simp [e]
def tabW : List (FuncId × Abs.Spec) := [(11, newS), (12, setS), (13, dueS), (8, addS)]
theorem tabW_good : ∀ p ∈ tabW, SpecGood Try.prog p := by simp [tabW, newS_good, setS_good, dueS_good, addS_good]
def awakeS : Abs.Spec := fun args h k => args = [] ∧ ∀ h', Chg h h' [] → k (.bool true) h'
theorem awakeS_good : SpecGood Try.prog (10, awakeS) := by
  refine spec_good mixed Try.func10 (by kernel_rfl) (by kernel_rfl) (tab := tabW) tabW_good (keep := tiltyardlaw08_awake_keep) ?_
  rintro args h k ⟨rfl, H⟩
  refine ⟨0, ?_⟩
  show tiltyardlaw08_awake (tabC tabW) idG 0 h _
  rw [tiltyardlaw08_awake_eq]
  refine .inl ⟨rfl, rfl, fun h1 Q c1 hQ q1 => ?_⟩
  have m1 := c1.1
  refine .inr (.inl ⟨rfl, _, Q, [], 0, 1, 7, 5, rfl, by simp, by omega, by omega, fun i hi => hi.2, q1, fun x1 h2 k1 i1 a1 s1 c2 q2 => ?_⟩)
  have m2 := c2.1
  refine .inr (.inl ⟨rfl, _, Q, _, _, 2, 7, 5, rfl, by simp [outT], by omega, by omega, fun i hi => by omega, q2, fun x2 h3 k2 i2 a2 s2 c3 q3 => ?_⟩)
  have m3 := c3.1
  refine .inr (.inl ⟨rfl, _, Q, _, _, 1, 7, 5, rfl, by simp [outT, isT, k1, i1], by omega, by omega, fun i hi => by omega, q3, fun x3 h4 k3 i3 a3 s3 c4 q4 => ?_⟩)
  have m4 := c4.1
  have eL : outT (outT (outT [] 1 7 ++ [x1]) 2 7 ++ [x2]) 1 7 ++ [x3] = [x2, x3] := by simp [outT, isT, k1, i1, k2, i2]
  rw [eL] at q4
  obtain ⟨D, hD⟩ : ∃ D : Nat → Prop, D = fun i => ((fun i => ((fun i => (h.next ≤ i ∧ i < h1.next) ∨ h1.next ≤ i ∧ i < h2.next) i) ∨ h2.next ≤ i ∧ i < h3.next) i) ∨ h3.next ≤ i ∧ i < h4.next := ⟨_, rfl⟩
  rw [← hD] at q4
  have lD : ∀ i, D i → h.next ≤ i ∧ i < h4.next := fun i hi => by rw [hD] at hi; omega
  have c14 : Chg h h4 [] := ⟨by omega, fun i hi _ => by
    rw [c4.2 i (by omega) (by omega), c3.2 i (by omega) (by omega), c2.2 i (by omega) (by omega)]
    exact c1.2 i hi (by simp)⟩
  have d1 : dueI [x2, x3] 5 = some x2 := by simp [dueI, firstI, bestI, a2, a3, Option.filter]
  have d2 : dueI [x3] 5 = some x3 := by simp [dueI, firstI, bestI, a3, Option.filter]
  refine .inr (.inr (.inl ⟨rfl, D, Q, [x2, x3], _, 5, rfl, by simp, fun i hi => (lD i hi).2, q4, fun x h5 hx c5 q5 => ?_, fun h' hn => by rw [d1] at hn; cases hn⟩))
  rw [d1] at hx
  cases hx
  have m5 := c5.1
  have o1 : outT [x2, x3] x2.kind x2.id = [x3] := by simp [outT, isT, k2, i2, k3, i3]
  rw [o1] at q5
  simp only [extV_two0, extV_two1, bindV_some]
  refine allocE_in fun h6 c6 n6 o6 => ?_
  refine storeE_all o6 rfl rfl rfl fun h7 c7 n7 o7 => ?_
  have o7 : h7.objs h5.next = some (.cells (cellsT (tm x2)) true) := o7
  have c57 : Chg h5 h7 [] := c6.new c7 (by omega)
  have q7 := q5.chgP (c57.nil fun _ => False) (by simp)
  refine .inr (.inr (.inl ⟨rfl, D, Q, [x3], _, 5, rfl, by simp, fun i hi => by have := lD i hi; omega, q7, fun x h8 hx c8 q8 => ?_, fun h' hn => by rw [d2] at hn; cases hn⟩))
  rw [d2] at hx
  cases hx
  have m8 := c8.1
  have o8 := c8.at (i := h5.next) (by omega) (fun hd => by have := lD _ hd; omega) o7
  simp only [extV_two0, extV_two1, bindV_some]
  refine allocE_in fun h9 c9 n9 o9 => ?_
  refine storeE_all o9 rfl rfl rfl fun ha ca na oa => ?_
  have oa : ha.objs h8.next = some (.cells (cellsT (tm x3)) true) := oa
  have o8 := ca.at1 (by omega) (by omega) (c9.at0 (by omega) o8)
  have t2 : (.agg (cellsT (tm x2)).toArray : Value) = encT ⟨2, 7, 5⟩ := by simp [tm, k2, i2, a2, cellsT, encT]
  have t3 : (.agg (cellsT (tm x3)).toArray : Value) = encT ⟨1, 7, 5⟩ := by simp [tm, k3, i3, a3, cellsT, encT]
  have b2 : buildV [.int .i64 0, .int .u32 0, .int .i64 0] (some [(0, 1, (.int .i64 2)), (1, 1, (.int .u32 7)), (2, 1, (.int .i64 5))]) = some (encT ⟨2, 7, 5⟩) := rfl
  have b3 : buildV [.int .i64 0, .int .u32 0, .int .i64 0] (some [(0, 1, (.int .i64 1)), (1, 1, (.int .u32 7)), (2, 1, (.int .i64 5))]) = some (encT ⟨1, 7, 5⟩) := rfl
  have fin : Chg h ha [] := ⟨by omega, fun i hi _ => by
    rw [ca.2 i (by omega) (by simp; omega), c9.2 i (by omega) (by simp), c8.2 i (by omega) (fun hd => by have := lD _ hd; omega), c57.2 i (by omega) (by simp), c5.2 i (by omega) (fun hd => by have := lD _ hd; omega)]
    exact c14.2 i hi (by simp)⟩
  refine .inr (.inr (.inr (.inl ⟨rfl, _, _, rfl, by unfold In64; omega, by unfold In64; omega, ?_⟩)))
  have ad : addI 9223372036854775805 9 = 9223372036854775807 := by decide
  simp only [ad, binNil_int, binV_eql, bindV_some, decide_true, groupK_eq, guardK_bool, if_true, idG_eq, getT, pickV_bool]
  simp only [loadV_ptr, o8, oa, loadM_cells, partV_agg, takeT, Option.map_some, bindV_some, t2, t3, b2, b3, eqT, decide_true, idG_eq, getT, pickV_bool, if_true, groupK_eq, guardK_bool]
  exact ⟨ha, St.le.refl _, H ha fin⟩

/-! ### the laws -/
theorem add_same {now some : Int} (h1 : In64 now) (h2 : In64 some) : addI now some = addR now some ∧ addI now some ≥ now ∧ addI now 0 = now := by
  unfold addI addR In64 at *
  have m : max 0 some = if 0 ≤ some then some else 0 := Int.max_def 0 some
  have m0 : max 0 (0 : Int) = 0 := rfl
  rw [m, m0]
  refine ⟨?_, ?_, ?_⟩
  · split <;> split <;> (try split) <;> omega
  · split <;> split <;> omega
  · split <;> omega
def addsLawS : Abs.Spec := fun args h k => ∃ now some, args = [.int .i64 now, .int .i64 some] ∧ In64 now ∧ In64 some ∧ ∀ h', k (.bool true) h'
def tabA : List (FuncId × Abs.Spec) := [(8, addS), (9, raddS), (10, awakeS)]
theorem tabA_good : ∀ p ∈ tabA, SpecGood Try.prog p := by simp [tabA, addS_good, raddS_good, awakeS_good]
theorem addsLawS_good : SpecGood Try.prog (3, addsLawS) := by
  refine spec_good mixed Try.func3 (by kernel_rfl) (by kernel_rfl) (tab := tabA) tabA_good (keep := tiltyardlaw08_TimerAdds_keep) ?_
  rintro args h k ⟨now, some, rfl, h1, h2, H⟩
  refine ⟨0, ?_⟩
  show tiltyardlaw08_TimerAdds (tabC tabA) idG 0 (.int .i64 now) (.int .i64 some) h _
  rw [tiltyardlaw08_TimerAdds_eq]
  obtain ⟨e1, e2, e3⟩ := add_same h1 h2
  refine .inl ⟨rfl, now, some, rfl, h1, h2, ?_⟩
  refine .inr (.inl ⟨rfl, now, some, rfl, h1, h2, ?_⟩)
  simp only [e1, binV_eql, bindV_some, decide_true, groupK_eq, guardK_bool, if_true]
  refine .inl ⟨rfl, now, some, rfl, h1, h2, ?_⟩
  simp only [e1, binV_geq, bindV_some, idG_eq, pickV_bool, if_true, getT, groupK_eq, guardK_bool]
  have g : addR now some ≥ now := e1 ▸ e2
  simp only [g, decide_true, if_true]
  refine .inl ⟨rfl, now, 0, rfl, h1, by unfold In64; omega, ?_⟩
  simp only [e3, binV_eql, decide_true, bindV_some, idG_eq, pickV_bool, if_true, getT, groupK_eq, guardK_bool, g]
  refine .inr (.inr (.inl ⟨rfl, rfl, fun h' _ => ?_⟩))
  simp only [bindV_some, idG_eq, pickV_bool, if_true, getT, g, decide_true]
  exact ⟨h', St.le.refl _, H h'⟩
def tabZ : List (FuncId × Abs.Spec) := [(12, setN), (20, findN), (22, nextN), (13, dueN), (16, clearN), (14, lenN), (10, awakeS)]
theorem tabZ_good : ∀ p ∈ tabZ, SpecGood Try.prog p := by simp [tabZ, setN_good, findN_good, nextN_good, dueN_good, clearN_good, lenN_good, awakeS_good]
def nilLawS : Abs.Spec := fun args h k => ∃ a b c, args = [a, b, c] ∧ ∀ h', k (.bool true) h'
theorem nilLawS_good : SpecGood Try.prog (7, nilLawS) := by
  refine spec_good mixed Try.func7 (by kernel_rfl) (by kernel_rfl) (tab := tabZ) tabZ_good (keep := tiltyardlaw08_TimerNil_keep) ?_
  rintro args h k ⟨a, b, c, rfl, H⟩
  refine ⟨0, ?_⟩
  show tiltyardlaw08_TimerNil (tabC tabZ) idG 0 a b c h _
  rw [tiltyardlaw08_TimerNil_eq]
  refine .inl ⟨rfl, a, b, c, rfl, ?_⟩
  refine .inr (.inl ⟨rfl, a, b, rfl, ?_⟩)
  simp only [extV_two0, extV_two1, bindV_some]
  refine .inr (.inr (.inl ⟨rfl, rfl, fun h1 c1 => ?_⟩))
  simp only [extV_two0, extV_two1, bindV_some]
  refine allocE_in fun h2 c2 n2 o2 => ?_
  refine storeE_all o2 rfl rfl rfl fun h3 c3 n3 o3 => ?_
  refine .inr (.inr (.inr (.inl ⟨rfl, c, rfl, fun h4 c4 => ?_⟩)))
  have o4 := c4.at0 (by omega) o3
  have m4 := c4.1
  simp only [extV_two0, extV_two1, bindV_some]
  refine allocE_in fun h5 c5 n5 o5 => ?_
  refine storeE_all o5 rfl rfl rfl fun h6 c6 n6 o6 => ?_
  have o4 : h6.objs h1.next = some (.cells (cellsT .zero) true) := c6.at1 (by omega) (by omega) (c5.at0 (by omega) o4)
  have o6 : h6.objs h4.next = some (.cells (cellsT .zero) true) := o6
  have hb : buildV [.int .i64 0, .int .u32 0, .int .i64 0] (some []) = some (encT .zero) := rfl
  have ez : (.agg (cellsT .zero).toArray : Value) = encT .zero := rfl
  refine .inr (.inr (.inr (.inr (.inl ⟨rfl, a, b, rfl, ?_⟩))))
  simp only [unV_not, binNil_int, binV_eql, bindV_some, decide_true, Bool.not_false, groupK_eq, guardK_bool, if_true, idG_eq, getT, pickV_bool]
  simp only [loadV_ptr, o4, o6, loadM_cells, partV_agg, takeT, Option.map_some, bindV_some, ez, hb, eqT, decide_true, idG_eq, getT, pickV_bool, if_true, groupK_eq, guardK_bool, unV_not, Bool.not_false]
  simp only [loadV_ptr, o4, o6, loadM_cells, partV_agg, takeT, Option.map_some, bindV_some, ez, hb, eqT, decide_true, idG_eq, getT, pickV_bool, if_true, groupK_eq, guardK_bool, unV_not, Bool.not_false]
  refine .inr (.inr (.inr (.inr (.inr (.inl ⟨rfl, rfl, ?_⟩)))))
  simp only [binNil_int, binV_eql, bindV_some, decide_true, idG_eq, getT, pickV_bool, if_true, groupK_eq, guardK_bool]
  refine .inr (.inr (.inr (.inr (.inr (.inr (.inl ⟨rfl, rfl, fun h' _ => ?_⟩))))))
  simp only [bindV_some, idG_eq, pickV_bool, if_true, getT, decide_true]
  exact ⟨h', St.le.refl _, H h'⟩
end Go.Proofs.Ytaoeeoboaiknjaa
