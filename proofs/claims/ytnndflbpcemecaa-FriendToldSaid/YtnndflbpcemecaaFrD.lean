/- Friends: what players do. -/
import Derived.Test.YtnndflbpcemecaaFrC
set_option linter.unusedSimpArgs false
set_option linter.unusedVariables false
set_option maxHeartbeats 4000000
namespace Go.Proofs.Ytnndflbpcemecaa
open Go.Abs Go.IntWalk
attribute [local congr] bindV_weak condK_weak guardK_weak groupK_weak allocE_weak boxE_weak storeE_weak storeM_weak tabC_weak ite_weak idG_weak appendE_weak buildSliceE_weak mapUpdateE_weak deleteE_weak makeMapE_weak copyE_weak clearE_weak callE_weak mapEntryE_weak entryStoreE_weak rangeE_weak nextE_weak

noncomputable def fAsk (F : Fn) (a b : Nat) : Fn × Bool × Nat :=
  if wrongN a b ≠ 0 then (F, false, wrongN a b)
  else if bit (F a b) 4 = true ∨ bit (F b a) 4 = true then (F, false, 17)
  else if bit (F a b) 3 = true then (F, false, 11)
  else if bit (F b a) 1 = true then (befF F a b, true, 0)
  else if 16 ≤ cnt F a ∨ 16 ≤ cnt F b then (F, false, 10)
  else (updF F a b (F a b ||| 1), false, 0)
def fAccept (F : Fn) (a b : Nat) : Fn × Nat := if bit (F b a) 1 = true then (befF F a b, 0) else (F, 12)
def fRefuse (F : Fn) (a b : Nat) : Fn × Nat := if bit (F b a) 1 = true then (updF F b a (clr (F b a) 1), 0) else (F, 12)
def endF2 (F : Fn) (a b w : Nat) : Fn :=
  let F1 := updF F a b (clr (F a b) w)
  updF F1 b a (clr (F1 b a) w)
def fRemove (F : Fn) (a b : Nat) : Fn × Nat := if bit (F a b) 2 = true then (endF2 F a b 2, 0) else (F, 12)
noncomputable def fBlock (F : Fn) (a b : Nat) : Fn × Bool × Nat :=
  if wrongN a b ≠ 0 then (F, false, wrongN a b)
  else if bit (F a b) 4 = true then (F, false, 11)
  else if 16 ≤ (tos F 4 a).length then (F, false, 10)
  else (updF (endF2 F a b 3) a b (endF2 F a b 3 a b ||| 4), bit (F a b) 2, 0)
def fUnblock (F : Fn) (a b : Nat) : Fn × Nat := if bit (F a b) 4 = true then (updF F a b (clr (F a b) 4), 0) else (F, 12)
theorem bit_rid {F : Fn} (f : FOk F) {a b w : Nat} (h : bit (F a b) w = true) : rid a ∧ rid b := f.rd a b fun e => by rw [e, bit_zero] at h; cases h
theorem wrong_rid {a b : Nat} (h : wrongN a b = 0) : rid a ∧ rid b ∧ a ≠ b := by
  unfold wrongN at h
  split at h
  · rename_i hr
    rw [rightId_iff, rightId_iff] at hr
    split at h
    · cases h
    · exact ⟨hr.1, hr.2, by assumption⟩
  · cases h
theorem endF2_S {F : Fn} (a b w : Nat) : endF2 F a b w = updF (updF F a b (clr (F a b) w)) b a (clr (updF F a b (clr (F a b) w) b a) w) := rfl
/-- What is done by way of an answer of one number. -/
def actO (f : Fn → Nat → Nat → Fn × Nat) : Abs.Spec := fun args h k => ∃ (D : Nat → Prop) (v : Value) (N : Nat) (F : Fn) (a b : Nat), args = [v, .int .u32 (a : Int), .int .u32 (b : Int)] ∧ GrS D h v N F ∧
  ∀ h', ChgP (fun i => D i ∨ h.next ≤ i) h h' → GrS D h' v (N + 2) (f F a b).1 → k (.int .i64 ((f F a b).2 : Int)) h'
def actN : Abs.Spec := fun args h k => ∃ (a b : Value), args = [.pointer none, a, b] ∧ k (.int .i64 12) h
def tabAct : List (FuncId × Abs.Spec) := [(31, fhasO), (40, befO), (38, fendO), (42, fputO), (31, fhasN)]
theorem tabAct_good : ∀ p ∈ tabAct, SpecGood Try.prog p := by simp [tabAct, fhasO_good, befO_good, fendO_good, fputO_good, fhasN_good]
theorem acceptO_good : SpecGood Try.prog (20, actO fAccept) := by
  refine spec_good mixed Try.func20 (by kernel_rfl) (by kernel_rfl) (tab := tabAct) tabAct_good (keep := fr_Accept_keep) ?_
  rintro args h k ⟨D, v, N, F, a, b, rfl, s, H⟩
  refine ⟨0, ?_⟩
  show fr_Accept (tabC _) idG 0 v (.int .u32 (a : Int)) (.int .u32 (b : Int)) h _
  rw [fr_Accept_eq]
  refine cK (S := fhasO) (by simp [tabAct]) ⟨D, v, N, F, b, a, 1, rfl, by omega, s, ?_⟩
  unfold fAccept at H
  cases e : bit (F b a) 1 with
  | false =>
    rw [e, if_neg (by simp)] at H
    simp only [unV_not, Bool.not_false, bindV_some, condK_bool, if_true]
    exact ⟨h, St.le.refl _, H h (ChgP.refl _ _) (s.more (by omega))⟩
  | true =>
    rw [e, if_pos rfl] at H
    simp only [unV_not, Bool.not_true, bindV_some, condK_bool, Bool.false_eq_true, if_false, idG_eq]
    obtain ⟨rb, ra⟩ := bit_rid s.ok e
    refine cK (S := befO) (by simp [tabAct]) ⟨D, v, N, F, a, b, rfl, ra, rb, s, fun h1 c1 s1 => ?_⟩
    exact ⟨h1, St.le.refl _, H h1 c1 s1⟩
theorem acceptN_good : SpecGood Try.prog (20, actN) := by
  refine spec_good mixed Try.func20 (by kernel_rfl) (by kernel_rfl) (tab := tabAct) tabAct_good (keep := fr_Accept_keep) ?_
  rintro args h k ⟨a, b, rfl, H⟩
  refine ⟨0, ?_⟩
  show fr_Accept (tabC _) idG 0 (.pointer none) a b h _
  rw [fr_Accept_eq]
  refine cK (S := fhasN) (by simp [tabAct]) ⟨b, a, _, rfl, ?_⟩
  simp only [unV_not, Bool.not_false, bindV_some, condK_bool, if_true]
  exact ⟨h, St.le.refl _, H⟩
theorem refuseO_good : SpecGood Try.prog (21, actO fRefuse) := by
  refine spec_good mixed Try.func21 (by kernel_rfl) (by kernel_rfl) (tab := tabAct) tabAct_good (keep := fr_Refuse_keep) ?_
  rintro args h k ⟨D, v, N, F, a, b, rfl, s, H⟩
  refine ⟨0, ?_⟩
  show fr_Refuse (tabC _) idG 0 v (.int .u32 (a : Int)) (.int .u32 (b : Int)) h _
  rw [fr_Refuse_eq]
  refine cK (S := fhasO) (by simp [tabAct]) ⟨D, v, N, F, b, a, 1, rfl, by omega, s, ?_⟩
  unfold fRefuse at H
  cases e : bit (F b a) 1 with
  | false =>
    rw [e, if_neg (by simp)] at H
    simp only [unV_not, Bool.not_false, bindV_some, condK_bool, if_true]
    exact ⟨h, St.le.refl _, H h (ChgP.refl _ _) (s.more (by omega))⟩
  | true =>
    rw [e, if_pos rfl] at H
    simp only [unV_not, Bool.not_true, bindV_some, condK_bool, Bool.false_eq_true, if_false, idG_eq]
    refine cK (S := fendO) (by simp [tabAct]) ⟨D, v, N, F, b, a, 1, rfl, by omega, s, fun h1 c1 s1 => ?_⟩
    exact ⟨h1, St.le.refl _, H h1 c1 (s1.more (by omega))⟩
theorem refuseN_good : SpecGood Try.prog (21, actN) := by
  refine spec_good mixed Try.func21 (by kernel_rfl) (by kernel_rfl) (tab := tabAct) tabAct_good (keep := fr_Refuse_keep) ?_
  rintro args h k ⟨a, b, rfl, H⟩
  refine ⟨0, ?_⟩
  show fr_Refuse (tabC _) idG 0 (.pointer none) a b h _
  rw [fr_Refuse_eq]
  refine cK (S := fhasN) (by simp [tabAct]) ⟨b, a, _, rfl, ?_⟩
  simp only [unV_not, Bool.not_false, bindV_some, condK_bool, if_true]
  exact ⟨h, St.le.refl _, H⟩
theorem removeO_good : SpecGood Try.prog (16, actO fRemove) := by
  refine spec_good mixed Try.func16 (by kernel_rfl) (by kernel_rfl) (tab := tabAct) tabAct_good (keep := fr_Remove_keep) ?_
  rintro args h k ⟨D, v, N, F, a, b, rfl, s, H⟩
  refine ⟨0, ?_⟩
  show fr_Remove (tabC _) idG 0 v (.int .u32 (a : Int)) (.int .u32 (b : Int)) h _
  rw [fr_Remove_eq]
  refine cK (S := fhasO) (by simp [tabAct]) ⟨D, v, N, F, a, b, 2, rfl, by omega, s, ?_⟩
  unfold fRemove at H
  cases e : bit (F a b) 2 with
  | false =>
    rw [e, if_neg (by simp)] at H
    simp only [unV_not, Bool.not_false, bindV_some, condK_bool, if_true]
    exact ⟨h, St.le.refl _, H h (ChgP.refl _ _) (s.more (by omega))⟩
  | true =>
    rw [e, if_pos rfl] at H
    simp only [unV_not, Bool.not_true, bindV_some, condK_bool, Bool.false_eq_true, if_false, idG_eq]
    refine cK (S := fendO) (by simp [tabAct]) ⟨D, v, N, F, a, b, 2, rfl, by omega, s, fun h1 c1 s1 => ?_⟩
    refine cK (S := fendO) (by simp [tabAct]) ⟨D, v, N, _, b, a, 2, rfl, by omega, s1, fun h2 c2 s2 => ?_⟩
    exact ⟨h2, St.le.refl _, H h2 (c1.out c2) (s2.more (by omega))⟩
theorem removeN_good : SpecGood Try.prog (16, actN) := by
  refine spec_good mixed Try.func16 (by kernel_rfl) (by kernel_rfl) (tab := tabAct) tabAct_good (keep := fr_Remove_keep) ?_
  rintro args h k ⟨a, b, rfl, H⟩
  refine ⟨0, ?_⟩
  show fr_Remove (tabC _) idG 0 (.pointer none) a b h _
  rw [fr_Remove_eq]
  refine cK (S := fhasN) (by simp [tabAct]) ⟨a, b, _, rfl, ?_⟩
  simp only [unV_not, Bool.not_false, bindV_some, condK_bool, if_true]
  exact ⟨h, St.le.refl _, H⟩
theorem unblockO_good : SpecGood Try.prog (22, actO fUnblock) := by
  refine spec_good mixed Try.func22 (by kernel_rfl) (by kernel_rfl) (tab := tabAct) tabAct_good (keep := fr_Unblock_keep) ?_
  rintro args h k ⟨D, v, N, F, a, b, rfl, s, H⟩
  refine ⟨0, ?_⟩
  show fr_Unblock (tabC _) idG 0 v (.int .u32 (a : Int)) (.int .u32 (b : Int)) h _
  rw [fr_Unblock_eq]
  refine cK (S := fhasO) (by simp [tabAct]) ⟨D, v, N, F, a, b, 4, rfl, by omega, s, ?_⟩
  unfold fUnblock at H
  cases e : bit (F a b) 4 with
  | false =>
    rw [e, if_neg (by simp)] at H
    simp only [unV_not, Bool.not_false, bindV_some, condK_bool, if_true]
    exact ⟨h, St.le.refl _, H h (ChgP.refl _ _) (s.more (by omega))⟩
  | true =>
    rw [e, if_pos rfl] at H
    simp only [unV_not, Bool.not_true, bindV_some, condK_bool, Bool.false_eq_true, if_false, idG_eq]
    refine cK (S := fendO) (by simp [tabAct]) ⟨D, v, N, F, a, b, 4, rfl, by omega, s, fun h1 c1 s1 => ?_⟩
    exact ⟨h1, St.le.refl _, H h1 c1 (s1.more (by omega))⟩
theorem unblockN_good : SpecGood Try.prog (22, actN) := by
  refine spec_good mixed Try.func22 (by kernel_rfl) (by kernel_rfl) (tab := tabAct) tabAct_good (keep := fr_Unblock_keep) ?_
  rintro args h k ⟨a, b, rfl, H⟩
  refine ⟨0, ?_⟩
  show fr_Unblock (tabC _) idG 0 (.pointer none) a b h _
  rw [fr_Unblock_eq]
  refine cK (S := fhasN) (by simp [tabAct]) ⟨a, b, _, rfl, ?_⟩
  simp only [unV_not, Bool.not_false, bindV_some, condK_bool, if_true]
  exact ⟨h, St.le.refl _, H⟩
/-! ### Are -/
def areO : Abs.Spec := fun args h k => ∃ (D : Nat → Prop) (v : Value) (N : Nat) (F : Fn) (a b : Nat), args = [v, .int .u32 (a : Int), .int .u32 (b : Int)] ∧ GrV D h v N F ∧ k (.bool (bit (F a b) 2)) h
theorem areO_good : SpecGood Try.prog (10, areO) := by
  refine spec_good mixed Try.func10 (by kernel_rfl) (by kernel_rfl) (tab := tabAct) tabAct_good (keep := fr_Are_keep) ?_
  rintro args h k ⟨D, v, N, F, a, b, rfl, s, H⟩
  refine ⟨0, ?_⟩
  show fr_Are (tabC _) idG 0 v (.int .u32 (a : Int)) (.int .u32 (b : Int)) h _
  rw [fr_Are_eq]
  rcases s with s | ⟨rfl, rfl⟩
  · exact cK (S := fhasO) (by simp [tabAct]) ⟨D, v, N, F, a, b, 2, rfl, by omega, s, h, St.le.refl _, H⟩
  · rw [bit_zero] at H
    exact cK (S := fhasN) (by simp [tabAct]) ⟨_, _, _, rfl, h, St.le.refl _, H⟩
/-! ### Ask, Block -/
def act2O (f : Fn → Nat → Nat → Fn × Bool × Nat) : Abs.Spec := fun args h k => ∃ (D : Nat → Prop) (v : Value) (N : Nat) (F : Fn) (a b : Nat), args = [v, .int .u32 (a : Int), .int .u32 (b : Int)] ∧ N ≤ 255 ∧ GrS D h v N F ∧
  ∀ h', ChgP (fun i => D i ∨ h.next ≤ i) h h' → GrS D h' v (N + 2) (f F a b).1 → k (.tuple #[.bool (f F a b).2.1, .int .i64 ((f F a b).2.2 : Int)]) h'
def act2N : Abs.Spec := fun args h k => ∃ (a b : Value), args = [.pointer none, a, b] ∧ k (.tuple #[.bool false, .int .i64 12]) h
def tabAsk : List (FuncId × Abs.Spec) := [(31, fhasO), (40, befO), (38, fendO), (42, fputO), (39, fwrongO), (41, ffullO), (13, flinksO)]
theorem tabAsk_good : ∀ p ∈ tabAsk, SpecGood Try.prog p := by simp [tabAsk, fhasO_good, befO_good, fendO_good, fputO_good, fwrongO_good, ffullO_good, flinksO_good]
theorem isNil_no {v : Value} (g : grV v) : binNil .eql .ptr v (.pointer none) = some (.bool false) := by
  obtain ⟨g, rfl⟩ := g; rfl
theorem GrS.ptr {D : Nat → Prop} {h : St} {v : Value} {N : Nat} {F : Fn} (s : GrS D h v N F) : grV v := by
  obtain ⟨g, m, e, _⟩ := s; exact ⟨g, e⟩
theorem askN_good : SpecGood Try.prog (18, act2N) := by
  refine spec_good mixed Try.func18 (by kernel_rfl) (by kernel_rfl) (tab := []) (by simp) (keep := fr_Ask_keep) ?_
  rintro args h k ⟨a, b, rfl, H⟩
  refine ⟨0, ?_⟩
  show fr_Ask (tabC _) idG 0 (.pointer none) a b h _
  rw [fr_Ask_eq]
  have e1 : binNil .eql .ptr (.pointer none) (.pointer none) = some (.bool true) := rfl
  rw [e1]
  simp only [bindV_some, condK_bool, if_true]
  exact ⟨h, St.le.refl _, H⟩
theorem blockN_good : SpecGood Try.prog (19, act2N) := by
  refine spec_good mixed Try.func19 (by kernel_rfl) (by kernel_rfl) (tab := []) (by simp) (keep := fr_Block_keep) ?_
  rintro args h k ⟨a, b, rfl, H⟩
  refine ⟨0, ?_⟩
  show fr_Block (tabC _) idG 0 (.pointer none) a b h _
  rw [fr_Block_eq]
  have e1 : binNil .eql .ptr (.pointer none) (.pointer none) = some (.bool true) := rfl
  rw [e1]
  simp only [bindV_some, condK_bool, if_true]
  exact ⟨h, St.le.refl _, H⟩
theorem askO_good : SpecGood Try.prog (18, act2O fAsk) := by
  refine spec_good mixed Try.func18 (by kernel_rfl) (by kernel_rfl) (tab := tabAsk) tabAsk_good (keep := fr_Ask_keep) ?_
  rintro args h k ⟨D, v, N, F, a, b, rfl, hN, s, H⟩
  refine ⟨0, ?_⟩
  show fr_Ask (tabC _) idG 0 v (.int .u32 (a : Int)) (.int .u32 (b : Int)) h _
  rw [fr_Ask_eq, isNil_no s.ptr]
  simp only [bindV_some, condK_bool, Bool.false_eq_true, if_false, idG_eq]
  refine cK (S := fwrongO) (by simp [tabAsk]) ⟨a, b, rfl, ?_⟩
  have st : ∀ h1, Chg h h1 [] → GrS D h1 v (N + 2) F := fun h1 c => (s.chg0 c).more (by omega)
  have ch : ∀ h1, Chg h h1 [] → ChgP (fun i => D i ∨ h.next ≤ i) h h1 := fun h1 c => c.nil _
  unfold fAsk at H
  by_cases w : wrongN a b ≠ 0
  · rw [if_pos w] at H
    have w' : decide ((wrongN a b : Int) ≠ 0) = true := decide_eq_true (by omega)
    simp only [binNil_int, binV_neq, bindV_some, w', condK_bool, if_true]
    exact ⟨h, St.le.refl _, H h (ChgP.refl _ _) (st h (Chg.refl _ _))⟩
  rw [if_neg w] at H
  have w' : decide ((wrongN a b : Int) ≠ 0) = false := decide_eq_false (by omega)
  simp only [binNil_int, binV_neq, bindV_some, w', condK_bool, Bool.false_eq_true, if_false, idG_eq]
  obtain ⟨ra, rb, ab⟩ := wrong_rid (show wrongN a b = 0 by omega)
  refine cK (S := fhasO) (by simp [tabAsk]) ⟨D, v, N, F, a, b, 4, rfl, by omega, s, ?_⟩
  have blk : ∀ x : Value, bit (F a b) 4 = true ∨ bit (F b a) 4 = true → ∃ h2, St.le h2 h ∧ k (.tuple #[.bool false, .int .i64 17]) h2 := fun x e => by
    rw [if_pos e] at H
    exact ⟨h, St.le.refl _, H h (ChgP.refl _ _) (st h (Chg.refl _ _))⟩
  cases e1 : bit (F a b) 4 with
  | true =>
    simp only [bindV_some, groupK_eq, guardK_bool, if_true, Bool.true_eq_false, if_false, idG_eq, pickV_bool, condK_bool]
    exact blk undef (.inl e1)
  | false =>
  simp only [bindV_some, groupK_eq, guardK_bool, if_true, Bool.false_eq_true, if_false, idG_eq, pickV_bool, condK_bool]
  refine cK (S := fhasO) (by simp [tabAsk]) ⟨D, v, N, F, b, a, 4, rfl, by omega, s, ?_⟩
  cases e2 : bit (F b a) 4 with
  | true =>
    simp only [getT, bindV_some, groupK_eq, guardK_bool, if_true, Bool.false_eq_true, if_false, idG_eq, pickV_bool, condK_bool]
    exact blk undef (.inr e2)
  | false =>
  rw [e1, e2, if_neg (by simp)] at H
  simp only [getT, bindV_some, groupK_eq, guardK_bool, if_true, Bool.false_eq_true, if_false, idG_eq, pickV_bool, condK_bool]
  refine cK (S := fhasO) (by simp [tabAsk]) ⟨D, v, N, F, a, b, 3, rfl, by omega, s, ?_⟩
  cases e3 : bit (F a b) 3 with
  | true =>
    rw [e3, if_pos rfl] at H
    simp only [condK_bool, if_true]
    exact ⟨h, St.le.refl _, H h (ChgP.refl _ _) (st h (Chg.refl _ _))⟩
  | false =>
  rw [e3, if_neg (by simp)] at H
  simp only [condK_bool, Bool.false_eq_true, if_false]
  refine cK (S := fhasO) (by simp [tabAsk]) ⟨D, v, N, F, b, a, 1, rfl, by omega, s, ?_⟩
  cases e4 : bit (F b a) 1 with
  | true =>
    rw [e4, if_pos rfl] at H
    simp only [condK_bool, if_true]
    refine cK (S := befO) (by simp [tabAsk]) ⟨D, v, N, F, a, b, rfl, ra, rb, s, fun h1 c1 s1 => ?_⟩
    exact ⟨h1, St.le.refl _, H h1 c1 s1⟩
  | false =>
  rw [e4, if_neg (by simp)] at H
  simp only [condK_bool, Bool.false_eq_true, if_false]
  refine cK (S := ffullO) (by simp [tabAsk]) ⟨D, v, N, F, a, rfl, hN, .inl s, fun h1 c1 => ?_⟩
  by_cases f1 : 16 ≤ cnt F a
  · rw [if_pos (.inl f1)] at H
    simp only [decide_eq_true f1, groupK_eq, guardK_bool, Bool.true_eq_false, if_false, idG_eq, pickV_bool, if_true, bindV_some, condK_bool]
    exact ⟨h1, St.le.refl _, H h1 (ch h1 c1) (st h1 c1)⟩
  simp only [decide_eq_false f1, groupK_eq, guardK_bool, if_true, idG_eq, pickV_bool, Bool.false_eq_true, if_false, bindV_some, condK_bool]
  refine cK (S := ffullO) (by simp [tabAsk]) ⟨D, v, N, F, b, rfl, hN, .inl (s.chg0 c1), fun h2 c2 => ?_⟩
  have c02 := c1.seq c2
  by_cases f2 : 16 ≤ cnt F b
  · rw [if_pos (.inr f2)] at H
    simp only [decide_eq_true f2, decide_eq_false f1, getT, pickV_bool, Bool.false_eq_true, if_false, if_true, bindV_some, condK_bool]
    exact ⟨h2, St.le.refl _, H h2 (ch h2 c02) (st h2 c02)⟩
  rw [if_neg (by omega)] at H
  simp only [decide_eq_false f2, decide_eq_false f1, getT, pickV_bool, Bool.false_eq_true, if_false, bindV_some, condK_bool, idG_eq]
  refine cK (S := fputO) (by simp [tabAsk]) ⟨D, v, N, F, a, b, 1, rfl, by omega, ra, rb, s.chg0 c02, fun h3 c3 s3 => ?_⟩
  refine ⟨h3, St.le.refl _, H h3 ((ch h2 c02).out c3.outw) (s3.more (by omega))⟩
theorem field3 {s1 s2 s3 s4 : Value} (h : s4.cells = #[s4]) : fieldV 3 1 false (agg4 s1 s2 s3 s4) = some s4 := rfl
theorem blockO_good : SpecGood Try.prog (19, act2O fBlock) := by
  refine spec_good mixed Try.func19 (by kernel_rfl) (by kernel_rfl) (tab := tabAsk) tabAsk_good (keep := fr_Block_keep) ?_
  rintro args h k ⟨D, v, N, F, a, b, rfl, hN, s, H⟩
  refine ⟨0, ?_⟩
  show fr_Block (tabC _) idG 0 v (.int .u32 (a : Int)) (.int .u32 (b : Int)) h _
  rw [fr_Block_eq, isNil_no s.ptr]
  simp only [bindV_some, condK_bool, Bool.false_eq_true, if_false, idG_eq]
  refine cK (S := fwrongO) (by simp [tabAsk]) ⟨a, b, rfl, ?_⟩
  have st : ∀ h1, Chg h h1 [] → GrS D h1 v (N + 2) F := fun h1 c => (s.chg0 c).more (by omega)
  have ch : ∀ h1, Chg h h1 [] → ChgP (fun i => D i ∨ h.next ≤ i) h h1 := fun h1 c => c.nil _
  unfold fBlock at H
  by_cases w : wrongN a b ≠ 0
  · rw [if_pos w] at H
    have w' : decide ((wrongN a b : Int) ≠ 0) = true := decide_eq_true (by omega)
    simp only [binNil_int, binV_neq, bindV_some, w', condK_bool, if_true]
    exact ⟨h, St.le.refl _, H h (ChgP.refl _ _) (st h (Chg.refl _ _))⟩
  rw [if_neg w] at H
  have w' : decide ((wrongN a b : Int) ≠ 0) = false := decide_eq_false (by omega)
  simp only [binNil_int, binV_neq, bindV_some, w', condK_bool, Bool.false_eq_true, if_false, idG_eq]
  obtain ⟨ra, rb, ab⟩ := wrong_rid (show wrongN a b = 0 by omega)
  refine cK (S := fhasO) (by simp [tabAsk]) ⟨D, v, N, F, a, b, 4, rfl, by omega, s, ?_⟩
  cases e1 : bit (F a b) 4 with
  | true =>
    rw [e1, if_pos rfl] at H
    simp only [condK_bool, if_true]
    exact ⟨h, St.le.refl _, H h (ChgP.refl _ _) (st h (Chg.refl _ _))⟩
  | false =>
  rw [e1, if_neg (by simp)] at H
  simp only [condK_bool, Bool.false_eq_true, if_false]
  refine cK (S := flinksO) (by simp [tabAsk]) ⟨D, v, N, F, a, rfl, hN, .inl s, fun h1 s1 s2 s3 s4 c1 ⟨n1, nn, q1, q2, q3, q4, l1, l2, l3, l4⟩ => ?_⟩
  simp only [field3 (OwnS.cells1 q4), bindV_some, OwnS.len q4, binNil_int, binV_geq, condK_bool, decide_eq_true_eq]
  by_cases f1 : 16 ≤ (tos F 4 a).length
  · rw [if_pos f1] at H
    rw [if_pos (by omega)]
    exact ⟨h1, St.le.refl _, H h1 (ch h1 c1) (st h1 c1)⟩
  rw [if_neg f1] at H
  rw [if_neg (by omega)]
  simp only [idG_eq]
  refine cK (S := fhasO) (by simp [tabAsk]) ⟨D, v, N, F, a, b, 2, rfl, by omega, s.chg0 c1, ?_⟩
  refine cK (S := fendO) (by simp [tabAsk]) ⟨D, v, N, F, a, b, 3, rfl, by omega, s.chg0 c1, fun h2 c2 s2 => ?_⟩
  refine cK (S := fendO) (by simp [tabAsk]) ⟨D, v, N, _, b, a, 3, rfl, by omega, s2, fun h3 c3 s3 => ?_⟩
  refine cK (S := fputO) (by simp [tabAsk]) ⟨D, v, N, _, a, b, 4, rfl, by omega, ra, rb, s3, fun h4 c4 s4 => ?_⟩
  exact ⟨h4, St.le.refl _, H h4 ((((ch h1 c1).out c2).out c3).out c4.outw) (s4.more (by omega))⟩
end Go.Proofs.Ytnndflbpcemecaa
