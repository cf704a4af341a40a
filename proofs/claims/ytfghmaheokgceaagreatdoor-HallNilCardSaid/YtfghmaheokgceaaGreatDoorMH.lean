/- What the chapter's example says: the machine runs it, leaning on its pieces. | Without a hall: what the hall's methods answer. | Without a hall: the methods that look, and those that do. | A message of the document, as the program's: whatever order its copies are made in. | Without a hall: whatever event it is, nothing comes of it. | Without a hall: what an event comes to. | Without a hall nothing happens: the law. | An event that comes in; the variables, as they were laid. -/
import Derived.Test.YtfghmaheokgceaaGreatDoorMQ0
import Derived.Test.YtfghmaheokgceaaGreatDoorMQ1
import Derived.Test.YtfghmaheokgceaaGreatDoorMQ2
import Derived.Test.YtfghmaheokgceaaGreatDoorMQ3
import Derived.Test.YtfghmaheokgceaaGreatDoorMQ4
import Derived.Test.YtfghmaheokgceaaGreatDoorMQ5
import Derived.Test.YtfghmaheokgceaaGreatDoorME
import Derived.Test.YtfghmaheokgceaaGreatDoorMG
import Derived.Test.YtfghmaheokgceaaGreatDoorMD
import Derived.Lib.SmallJoins
import Derived.Deep.Strs
import Derived.LaidMore
import Derived.LaidLaws
import Derived.LaidHandle
import Derived.OpenShut
section
set_option linter.unusedSimpArgs false
set_option linter.unusedVariables false
set_option maxRecDepth 100000
namespace Go.Proofs.YtfghmaheokgceaaGreatDoor
open Go.Abs
def allE : FuncId → Option XSpec := orE2 (snapE hs0) (orE2 (snapE hs1) (orE2 (snapE hs2) (orE2 (snapE hs3) (orE2 (snapE hs4) (orE2 (snapE hs5) (baseE))))))
theorem allE_ok : ExtOk Tryz.prog allE := orE2_ok hs0_ok (orE2_ok hs1_ok (orE2_ok hs2_ok (orE2_ok hs3_ok (orE2_ok hs4_ok (orE2_ok hs5_ok (baseE_ok))))))
theorem awake_run : withG (shaG ++ tabG) .e (fun tr => callX Tryz.prog allE 5000 80 13 [] (heap0 Tryz.prog tr) isTrue) = true := by kernel_rfl
theorem awake_good : SpecGood Tryz.prog (13, RunsTrue (shaG ++ tabG)) := runs_goodG mixedH allE_ok tabOk awake_run
end Go.Proofs.YtfghmaheokgceaaGreatDoor
end

section
set_option linter.unusedSimpArgs false
set_option linter.unusedVariables false
set_option maxHeartbeats 4000000
namespace Go.Proofs.YtfghmaheokgceaaGreatDoor
open Go.Abs
attribute [local congr] bindV_weak condK_weak guardK_weak groupK_weak allocE_weak boxE_weak storeE_weak storeM_weak tabC_weak ite_weak idG_weak appendE_weak buildSliceE_weak mapUpdateE_weak deleteE_weak makeMapE_weak copyE_weak clearE_weak callE_weak

/-- A method at no hall: whatever else is handed, it answers V. -/
def nilO (n : Nat) (V : Value) : Abs.Spec := fun args h k => ∃ r, args = .pointer none :: r ∧ r.length = n ∧ ∀ h', Chg h h' [] → k V h'
theorem nilEq : binNil .eql .ptr (.pointer none) (.pointer none) = some (.bool true) := by rfl
theorem nilNeq : binNil .neq .ptr (.pointer none) (.pointer none) = some (.bool false) := by rfl
def seenZ : List Value := [.int .u32 0, .int .u32 0, .int .i64 0, .int .i64 0, .int .u32 0, .int .u32 0, .int .u32 0, .int .u32 0, .int .i64 0, .int .i64 0, .int .i64 0]
def matchZ : List Value := [.int .u32 0, .int .i64 0, .int .u32 0, .slice none 0 0, .slice none 0 0]
def instZ : List Value := [.int .i64 0, .int .u32 0, .int .i64 0]
theorem nowO_good : SpecGood Tryz.prog (8, nilO 0 (.int .i64 0)) := by
  refine spec_good mixedH Tryz.func8 (by kernel_rfl) (by kernel_rfl) (tab := []) (by simp) (keep := h_Now_keep) ?_
  rintro args h k ⟨r, rfl, hl, H⟩
  obtain rfl : r = [] := List.eq_nil_of_length_eq_zero hl
  refine ⟨0, ?_⟩
  show h_Now (tabC _) idG _ _ h _
  rw [h_Now_eq]
  simp only [nilEq, bindV_some, condK_bool, if_true]
  exact ⟨h, St.le.refl _, H h (Chg.refl _ _)⟩
theorem knownO_good : SpecGood Tryz.prog (9, nilO 0 (.slice none 0 0)) := by
  refine spec_good mixedH Tryz.func9 (by kernel_rfl) (by kernel_rfl) (tab := []) (by simp) (keep := h_Known_keep) ?_
  rintro args h k ⟨r, rfl, hl, H⟩
  obtain rfl : r = [] := List.eq_nil_of_length_eq_zero hl
  refine ⟨0, ?_⟩
  show h_Known (tabC _) idG _ _ h _
  rw [h_Known_eq]
  simp only [nilEq, bindV_some, condK_bool, if_true]
  exact ⟨h, St.le.refl _, H h (Chg.refl _ _)⟩
theorem connsO_good : SpecGood Tryz.prog (10, nilO 0 (.slice none 0 0)) := by
  refine spec_good mixedH Tryz.func10 (by kernel_rfl) (by kernel_rfl) (tab := []) (by simp) (keep := h_Conns_keep) ?_
  rintro args h k ⟨r, rfl, hl, H⟩
  obtain rfl : r = [] := List.eq_nil_of_length_eq_zero hl
  refine ⟨0, ?_⟩
  show h_Conns (tabC _) idG _ _ h _
  rw [h_Conns_eq]
  simp only [nilEq, bindV_some, condK_bool, if_true]
  exact ⟨h, St.le.refl _, H h (Chg.refl _ _)⟩
theorem matchesO_good : SpecGood Tryz.prog (11, nilO 0 (.slice none 0 0)) := by
  refine spec_good mixedH Tryz.func11 (by kernel_rfl) (by kernel_rfl) (tab := []) (by simp) (keep := h_Matches_keep) ?_
  rintro args h k ⟨r, rfl, hl, H⟩
  obtain rfl : r = [] := List.eq_nil_of_length_eq_zero hl
  refine ⟨0, ?_⟩
  show h_Matches (tabC _) idG _ _ h _
  rw [h_Matches_eq]
  simp only [nilEq, bindV_some, condK_bool, if_true]
  exact ⟨h, St.le.refl _, H h (Chg.refl _ _)⟩
theorem one_of {r : List Value} (h : r.length = 1) : ∃ a, r = [a] := match r, h with | [a], _ => ⟨a, rfl⟩
theorem two_of {r : List Value} (h : r.length = 2) : ∃ a b, r = [a, b] := match r, h with | [a, b], _ => ⟨a, b, rfl⟩
theorem queueO_good : SpecGood Tryz.prog (12, nilO 1 (.slice none 0 0)) := by
  refine spec_good mixedH Tryz.func12 (by kernel_rfl) (by kernel_rfl) (tab := []) (by simp) (keep := h_Queue_keep) ?_
  rintro args h k ⟨r, rfl, hl, H⟩
  obtain ⟨a, rfl⟩ := one_of hl
  refine ⟨0, ?_⟩
  show h_Queue (tabC _) idG _ _ _ h _
  rw [h_Queue_eq]
  simp only [nilEq, bindV_some, condK_bool, if_true]
  exact ⟨h, St.le.refl _, H h (Chg.refl _ _)⟩
theorem openO_good : SpecGood Tryz.prog (16, nilO 1 (.int .i64 12)) := by
  refine spec_good mixedH Tryz.func16 (by kernel_rfl) (by kernel_rfl) (tab := []) (by simp) (keep := h_Open_keep) ?_
  rintro args h k ⟨r, rfl, hl, H⟩
  obtain ⟨a, rfl⟩ := one_of hl
  refine ⟨0, ?_⟩
  show h_Open (tabC _) idG _ _ _ h _
  rw [h_Open_eq]
  simp only [nilEq, bindV_some, condK_bool, if_true]
  exact ⟨h, St.le.refl _, H h (Chg.refl _ _)⟩
theorem drawO_good : SpecGood Tryz.prog (15, nilO 1 (.tuple #[])) := by
  refine spec_good mixedH Tryz.func15 (by kernel_rfl) (by kernel_rfl) (tab := []) (by simp) (keep := h_Draw_keep) ?_
  rintro args h k ⟨r, rfl, hl, H⟩
  obtain ⟨a, rfl⟩ := one_of hl
  refine ⟨0, ?_⟩
  show h_Draw (tabC _) idG _ _ _ h _
  rw [h_Draw_eq]
  simp only [nilNeq, bindV_some, condK_bool, Bool.false_eq_true, if_false]
  exact ⟨h, St.le.refl _, H h (Chg.refl _ _)⟩
theorem issueO_good : SpecGood Tryz.prog (14, nilO 2 (.tuple #[.string ⟨#[]⟩, .int .i64 12])) := by
  refine spec_good mixedH Tryz.func14 (by kernel_rfl) (by kernel_rfl) (tab := []) (by simp) (keep := h_Issue_keep) ?_
  rintro args h k ⟨r, rfl, hl, H⟩
  obtain ⟨a, b, rfl⟩ := two_of hl
  refine ⟨0, ?_⟩
  show h_Issue (tabC _) idG _ _ _ _ h _
  rw [h_Issue_eq]
  simp only [nilEq, bindV_some, condK_bool, if_true]
  exact ⟨h, St.le.refl _, H h (Chg.refl _ _)⟩
/-- What is done by 'call', at no hall: the deed is not done. -/
def callO : Abs.Spec := fun args h k => ∃ f, args = [.pointer none, f] ∧ ∀ h', Chg h h' [] → k (.slice none 0 0) h'
theorem callO_good : SpecGood Tryz.prog (50, callO) := by
  refine spec_good mixedH Tryz.func50 (by kernel_rfl) (by kernel_rfl) (tab := []) (by simp) (keep := h_call_keep) ?_
  rintro args h k ⟨f, rfl, H⟩
  refine ⟨0, ?_⟩
  show h_call (tabC _) idG _ _ _ h _
  rw [h_call_eq]
  simp only [nilEq, bindV_some, condK_bool, if_true]
  exact ⟨h, St.le.refl _, H h (Chg.refl _ _)⟩
end Go.Proofs.YtfghmaheokgceaaGreatDoor
end

section
set_option linter.unusedSimpArgs false
set_option linter.unusedVariables false
set_option maxHeartbeats 4000000
namespace Go.Proofs.YtfghmaheokgceaaGreatDoor
open Go.Abs
attribute [local congr] bindV_weak condK_weak guardK_weak groupK_weak allocE_weak boxE_weak storeE_weak storeM_weak tabC_weak ite_weak idG_weak appendE_weak buildSliceE_weak mapUpdateE_weak deleteE_weak makeMapE_weak copyE_weak clearE_weak callE_weak

theorem seeO_good : SpecGood Tryz.prog (5, nilO 1 (.tuple #[.agg seenZ.toArray, .bool false])) := by
  refine spec_good mixedH Tryz.func5 (by kernel_rfl) (by kernel_rfl) (tab := []) (by simp) (keep := h_See_keep) ?_
  rintro args h k ⟨r, rfl, hl, H⟩
  obtain ⟨a, rfl⟩ := one_of hl
  refine ⟨0, ?_⟩
  show h_See (tabC _) idG _ _ _ h _
  rw [h_See_eq]
  refine allocE_in fun h1 c1 n1 o1 => ?_
  simp only [nilEq, bindV_some, condK_bool, if_true]
  have e : buildV seenZ (some []) = some (.agg seenZ.toArray) := by rfl
  rw [show buildV [.int .u32 0, .int .u32 0, .int .i64 0, .int .i64 0, .int .u32 0, .int .u32 0, .int .u32 0, .int .u32 0, .int .i64 0, .int .i64 0, .int .i64 0] (some []) = some (.agg seenZ.toArray) from e, bindV_some]
  refine storeE_all o1 rfl rfl rfl fun h2 c2 n2 o2 => ?_
  have l : loadV true 11 (.pointer (some ⟨h.next, 0, none⟩)) h2 = some (.agg seenZ.toArray) := by
    rw [loadV_ptr, o2]
    rfl
  rw [l, bindV_some]
  exact ⟨h2, St.le.refl _, H h2 (c1.new c2 (Nat.le_refl _))⟩
theorem matchO_good : SpecGood Tryz.prog (6, nilO 1 (.tuple #[.agg matchZ.toArray, .bool false])) := by
  refine spec_good mixedH Tryz.func6 (by kernel_rfl) (by kernel_rfl) (tab := []) (by simp) (keep := h_Match_keep) ?_
  rintro args h k ⟨r, rfl, hl, H⟩
  obtain ⟨a, rfl⟩ := one_of hl
  refine ⟨0, ?_⟩
  show h_Match (tabC _) idG _ _ _ h _
  rw [h_Match_eq]
  refine allocE_in fun h1 c1 n1 o1 => ?_
  simp only [nilEq, bindV_some, condK_bool, if_true]
  rw [show buildV [.int .u32 0, .int .i64 0, .int .u32 0, .slice none 0 0, .slice none 0 0] (some []) = some (.agg matchZ.toArray) from rfl, bindV_some]
  refine storeE_all o1 rfl rfl rfl fun h2 c2 n2 o2 => ?_
  have l : loadV true 5 (.pointer (some ⟨h.next, 0, none⟩)) h2 = some (.agg matchZ.toArray) := by
    rw [loadV_ptr, o2]
    rfl
  rw [l, bindV_some]
  exact ⟨h2, St.le.refl _, H h2 (c1.new c2 (Nat.le_refl _))⟩
theorem instO_good : SpecGood Tryz.prog (7, nilO 1 (.tuple #[.agg instZ.toArray, .bool false])) := by
  refine spec_good mixedH Tryz.func7 (by kernel_rfl) (by kernel_rfl) (tab := []) (by simp) (keep := h_Instance_keep) ?_
  rintro args h k ⟨r, rfl, hl, H⟩
  obtain ⟨a, rfl⟩ := one_of hl
  refine ⟨0, ?_⟩
  show h_Instance (tabC _) idG _ _ _ h _
  rw [h_Instance_eq]
  refine allocE_in fun h1 c1 n1 o1 => ?_
  simp only [nilEq, bindV_some, condK_bool, if_true]
  rw [show buildV [.int .i64 0, .int .u32 0, .int .i64 0] (some []) = some (.agg instZ.toArray) from rfl, bindV_some]
  refine storeE_all o1 rfl rfl rfl fun h2 c2 n2 o2 => ?_
  have l : loadV true 3 (.pointer (some ⟨h.next, 0, none⟩)) h2 = some (.agg instZ.toArray) := by
    rw [loadV_ptr, o2]
    rfl
  rw [l, bindV_some]
  exact ⟨h2, St.le.refl _, H h2 (c1.new c2 (Nat.le_refl _))⟩
/-- A method that does something by 'call', at no hall. -/
def doO (n : Nat) : Abs.Spec := fun args h k => ∃ r, args = .pointer none :: r ∧ r.length = n ∧ (∀ v ∈ r, allOne v.cells.toList = true) ∧ ∀ h', Chg h h' [] → k (.slice none 0 0) h'
def tabCall : List (FuncId × Abs.Spec) := [(50, callO)]
theorem tabCall_good : ∀ p ∈ tabCall, SpecGood Tryz.prog p := by simp [tabCall, callO_good]
theorem ptr0 {h h' : St} {i : Nat} (o : h'.objs i = some (.cells (Value.pointer none).cells.toList true)) : loadV false 1 (.pointer (some ⟨i, 0, none⟩)) h' = some (.pointer none) := by
  rw [loadV_ptr, o]
  rfl
theorem closeO_good : SpecGood Tryz.prog (17, doO 1) := by
  refine spec_good mixedH Tryz.func17 (by kernel_rfl) (by kernel_rfl) (tab := tabCall) tabCall_good (keep := h_Close_keep) ?_
  rintro args h k ⟨r, rfl, hl, h1, H⟩
  obtain ⟨a, rfl⟩ := one_of hl
  refine ⟨0, ?_⟩
  show h_Close (tabC _) idG _ _ _ h _
  rw [h_Close_eq]
  refine boxE_in rfl fun g1 c1 n1 o1 => ?_
  refine boxE_in (h1 a (by simp)) fun g2 c2 n2 o2 => ?_
  rw [ptr0 (h := h) (c2.at0 (by omega) o1), bindV_some]
  exact cK (S := callO) (by simp [tabCall]) ⟨_, rfl, fun g3 c3 => ⟨g3, St.le.refl _, H g3 ((c1.seq c2).seq c3)⟩⟩
theorem tickO_good : SpecGood Tryz.prog (23, doO 1) := by
  refine spec_good mixedH Tryz.func23 (by kernel_rfl) (by kernel_rfl) (tab := tabCall) tabCall_good (keep := h_Tick_keep) ?_
  rintro args h k ⟨r, rfl, hl, h1, H⟩
  obtain ⟨a, rfl⟩ := one_of hl
  refine ⟨0, ?_⟩
  show h_Tick (tabC _) idG _ _ _ h _
  rw [h_Tick_eq]
  refine boxE_in rfl fun g1 c1 n1 o1 => ?_
  refine boxE_in (h1 a (by simp)) fun g2 c2 n2 o2 => ?_
  rw [ptr0 (h := h) (c2.at0 (by omega) o1), bindV_some]
  exact cK (S := callO) (by simp [tabCall]) ⟨_, rfl, fun g3 c3 => ⟨g3, St.le.refl _, H g3 ((c1.seq c2).seq c3)⟩⟩
theorem requestO_good : SpecGood Tryz.prog (18, doO 2) := by
  refine spec_good mixedH Tryz.func18 (by kernel_rfl) (by kernel_rfl) (tab := tabCall) tabCall_good (keep := h_Request_keep) ?_
  rintro args h k ⟨r, rfl, hl, h1, H⟩
  obtain ⟨a, b, rfl⟩ := two_of hl
  refine ⟨0, ?_⟩
  show h_Request (tabC _) idG _ _ _ _ h _
  rw [h_Request_eq]
  refine boxE_in rfl fun g1 c1 n1 o1 => ?_
  refine boxE_in (h1 a (by simp)) fun g2 c2 n2 o2 => ?_
  refine boxE_in (h1 b (by simp)) fun g3 c3 n3 o3 => ?_
  rw [ptr0 (h := h) ((c2.seq c3).at0 (by omega) o1), bindV_some]
  exact cK (S := callO) (by simp [tabCall]) ⟨_, rfl, fun g4 c4 => ⟨g4, St.le.refl _, H g4 (((c1.seq c2).seq c3).seq c4)⟩⟩
theorem reportO_good : SpecGood Tryz.prog (22, doO 2) := by
  refine spec_good mixedH Tryz.func22 (by kernel_rfl) (by kernel_rfl) (tab := tabCall) tabCall_good (keep := h_Report_keep) ?_
  rintro args h k ⟨r, rfl, hl, h1, H⟩
  obtain ⟨a, b, rfl⟩ := two_of hl
  refine ⟨0, ?_⟩
  show h_Report (tabC _) idG _ _ _ _ h _
  rw [h_Report_eq]
  refine boxE_in rfl fun g1 c1 n1 o1 => ?_
  refine boxE_in (h1 a (by simp)) fun g2 c2 n2 o2 => ?_
  refine boxE_in (h1 b (by simp)) fun g3 c3 n3 o3 => ?_
  rw [ptr0 (h := h) ((c2.seq c3).at0 (by omega) o1), bindV_some]
  exact cK (S := callO) (by simp [tabCall]) ⟨_, rfl, fun g4 c4 => ⟨g4, St.le.refl _, H g4 (((c1.seq c2).seq c3).seq c4)⟩⟩
end Go.Proofs.YtfghmaheokgceaaGreatDoor
end

section
set_option linter.unusedSimpArgs false
set_option linter.unusedVariables false
set_option maxHeartbeats 8000000
set_option maxRecDepth 100000
namespace Go.Proofs.YtfghmaheokgceaaGreatDoor
open Go.Abs

/-- Few cells, that may be appended. -/
def NC (h0 : St) (x : Value) : Prop := ∀ h, Chg h0 h [] → ∃ cs n, newCells 1 x h = some (cs, n) ∧ cs.length = n ∧ allOne cs = true ∧ n ≤ 1000
theorem NC.nil (h0 : St) : NC h0 (.slice none 0 0) := fun h _ => ⟨[], 0, rfl, rfl, rfl, by omega⟩
theorem NC.later {h0 h1 : St} {x : Value} (a : NC h0 x) (c : Chg h0 h1 []) : NC h1 x := fun h d => a h (c.seq d)
/-- On the way: the message's cells, the result's place, the copies that are still empty. -/
def Lv (q1 q2 : Nat) (C1 : List Value) (hB h0 h : St) (S : List Nat) : Prop :=
  Chg h0 h [] ∧ Chg hB h0 [] ∧ hB.next ≤ q2 ∧ q1 < h0.next ∧ q2 < h0.next ∧ h0.objs q1 = some (.cells C1 true) ∧ (∃ zs, zs.length = 4 ∧ h0.objs q2 = some (.cells zs true)) ∧ S.Nodup ∧ ∀ i ∈ S, h0.next ≤ i ∧ i < h.next ∧ h.objs i = some (.cells [] true)
section
variable {q1 q2 : Nat} {C1 : List Value} {hB h0 h : St} {S : List Nat}
theorem Lv.ld (L : Lv q1 q2 C1 hB h0 h S) {j : Nat} {v : Value} (hv : C1[j]? = some v) : loadV false 1 (.pointer (some ⟨q1, j, none⟩)) h = some v := by
  rw [loadV_ptr, L.1.at0 L.2.2.2.1 L.2.2.2.2.2.1, loadM_cells, partV_one, hv]
theorem lv_build (L : Lv q1 q2 C1 hB h0 h S) {z : List Value} {k : Cont} (K : ∀ h', Lv q1 q2 C1 hB h0 h' (h.next :: S) → k (.slice (some ⟨h.next, 0, some 1⟩) 0 0) h') : buildSliceE 1 0 z [] h k := by
  refine buildSliceE_in [] rfl rfl rfl fun h' c n o => K h' ?_
  obtain ⟨a1, a2, a3, a4, a5, a6, a7, a8, a9⟩ := L
  refine ⟨a1.seq c, a2, a3, a4, a5, a6, a7, List.nodup_cons.2 ⟨fun hm => by have := (a9 _ hm).2.1; omega, a8⟩, fun i hi => ?_⟩
  rcases List.mem_cons.1 hi with rfl | hi
  · exact ⟨a1.1, by omega, o⟩
  · obtain ⟨b1, b2, b3⟩ := a9 i hi
    exact ⟨b1, by omega, c.at0 b2 b3⟩
theorem lv_app {x : Value} {bytes i : Nat} {S' : List Nat} {k : Cont} (L : Lv q1 q2 C1 hB h0 h S) (hi : i ∈ S) (hs : ∀ j ∈ S', j ∈ S ∧ j ≠ i) (hn : S'.Nodup) (nc : NC h0 x) (hb : bytes ≤ 1000)
    (K : ∀ h' q n, Lv q1 q2 C1 hB h0 h' S' → k (.slice (some ⟨q, 0, some 1⟩) n 0) h') : appendE 1 bytes (.slice (some ⟨i, 0, some 1⟩) 0 0) x h k := by
  obtain ⟨a1, a2, a3, a4, a5, a6, a7, a8, a9⟩ := L
  obtain ⟨b1, b2, b3⟩ := a9 i hi
  obtain ⟨cs, n, e1, e2, e3, e4⟩ := nc h a1
  have hm : n * bytes ≤ 1000 * 1000 := Nat.mul_le_mul e4 hb
  unfold appendE appendE0
  simp only [e1, b3]
  refine ⟨⟨by rw [allOne_eq]; exact e3, trivial, trivial, by simp, by rw [Nat.zero_add]; omega, by omega⟩, K _ h.next (0 + n) ?_⟩
  refine ⟨?_, a2, a3, a4, a5, a6, a7, hn, fun j hj => ?_⟩
  · exact Chg.of_push (Chg.of_kill a1 (.inr b1))
  · obtain ⟨s1, s2⟩ := hs j hj
    obtain ⟨d1, d2, d3⟩ := a9 j s1
    refine ⟨d1, Nat.lt_succ_of_lt d2, ?_⟩
    rw [push_ne (by exact d2), kill_ne s2]
    exact d3
theorem lv_app1 {x : Value} {bytes i : Nat} {r : List Nat} {k : Cont} (L : Lv q1 q2 C1 hB h0 h (i :: r)) (nc : NC h0 x) (hb : bytes ≤ 1000)
    (K : ∀ h' q n, Lv q1 q2 C1 hB h0 h' r → k (.slice (some ⟨q, 0, some 1⟩) n 0) h') : appendE 1 bytes (.slice (some ⟨i, 0, some 1⟩) 0 0) x h k := by
  have nd := List.nodup_cons.1 L.2.2.2.2.2.2.2.1
  exact lv_app L (by simp) (fun j hj => ⟨by simp [hj], fun e => nd.1 (e ▸ hj)⟩) nd.2 nc hb K
theorem lv_app2 {x : Value} {bytes a i : Nat} {r : List Nat} {k : Cont} (L : Lv q1 q2 C1 hB h0 h (a :: i :: r)) (nc : NC h0 x) (hb : bytes ≤ 1000)
    (K : ∀ h' q n, Lv q1 q2 C1 hB h0 h' (a :: r) → k (.slice (some ⟨q, 0, some 1⟩) n 0) h') : appendE 1 bytes (.slice (some ⟨i, 0, some 1⟩) 0 0) x h k := by
  have nd := L.2.2.2.2.2.2.2.1
  simp only [List.nodup_cons, List.mem_cons, not_or] at nd
  obtain ⟨⟨n1, n2⟩, n3, n4⟩ := nd
  refine lv_app L (by simp) (fun j hj => ?_) (List.nodup_cons.2 ⟨n2, n4⟩) nc hb K
  rcases List.mem_cons.1 hj with rfl | hj
  · exact ⟨by simp, n1⟩
  · exact ⟨by simp [hj], fun e => n3 (e ▸ hj)⟩
theorem lv_app3 {x : Value} {bytes a b i : Nat} {r : List Nat} {k : Cont} (L : Lv q1 q2 C1 hB h0 h (a :: b :: i :: r)) (nc : NC h0 x) (hb : bytes ≤ 1000)
    (K : ∀ h' q n, Lv q1 q2 C1 hB h0 h' (a :: b :: r) → k (.slice (some ⟨q, 0, some 1⟩) n 0) h') : appendE 1 bytes (.slice (some ⟨i, 0, some 1⟩) 0 0) x h k := by
  have nd := L.2.2.2.2.2.2.2.1
  simp only [List.nodup_cons, List.mem_cons, not_or] at nd
  obtain ⟨⟨n1, n2, n3⟩, ⟨n4, n5⟩, n6, n7⟩ := nd
  refine lv_app L (by simp) (fun j hj => ?_) (List.nodup_cons.2 ⟨by simp [n1, n3], List.nodup_cons.2 ⟨n5, n7⟩⟩) nc hb K
  rcases List.mem_cons.1 hj with rfl | hj
  · exact ⟨by simp, n2⟩
  · rcases List.mem_cons.1 hj with rfl | hj
    · exact ⟨by simp, n4⟩
    · exact ⟨by simp [hj], fun e => n6 (e ▸ hj)⟩
theorem build3 (a b c : Option Addr) (l m n : Nat) : buildV [.slice none 0 0, .slice none 0 0, .slice none 0 0] (some [(0, 1, .slice a l 0), (1, 1, .slice b m 0), (2, 1, .slice c n 0)]) = some (.agg #[.slice a l 0, .slice b m 0, .slice c n 0]) := by rfl
theorem build4 (kd : Int) (a b c : Option Addr) (l m n : Nat) : buildV [.int .i64 0, .slice none 0 0, .slice none 0 0, .slice none 0 0] (some [(0, 1, .int .i64 kd), (1, 3, .agg #[.slice a l 0, .slice b m 0, .slice c n 0])]) = some (.agg #[.int .i64 kd, .slice a l 0, .slice b m 0, .slice c n 0]) := by rfl
theorem lv_fin (L : Lv q1 q2 C1 hB h0 h S) {kd : Int} {a b c : Option Addr} {l m n : Nat} {k : Cont}
    (K : ∀ h', Chg hB h' [] → h'.objs q2 = some (.cells [.int .i64 kd, .slice a l 0, .slice b m 0, .slice c n 0] true) → k undef h') : storeE 4 (.pointer (some ⟨q2, 0, none⟩)) (.agg #[.int .i64 kd, .slice a l 0, .slice b m 0, .slice c n 0]) h k := by
  obtain ⟨a1, a2, a3, a4, a5, a6, ⟨zs, z1, z2⟩, _⟩ := L
  exact storeE_all (a1.at0 a5 z2) rfl z1 rfl fun h' c' n' o' => K h' ((a2.seq a1).new c' a3) o'
end
theorem all_nil {α : Type} {Q : α → Prop} : ∀ p ∈ ([] : List α), Q p := fun p hp => by simp at hp
theorem all_cons {α : Type} {Q : α → Prop} {a : α} {l : List α} (h : Q a) (k : ∀ p ∈ l, Q p) : ∀ p ∈ a :: l, Q p := fun p hp => by
  rcases List.mem_cons.1 hp with rfl | hp
  · exact h
  · exact k p hp

def ownO : Abs.Spec := fun args h k => ∃ (kd : Int) (nv sv : Value), args = [.agg #[.int .i64 kd, nv, sv, .slice none 0 0]] ∧ one nv = true ∧ one sv = true ∧ NC h nv ∧ NC h sv ∧ ∀ h' v, Chg h h' [] → allOne v.cells.toList = true → k v h'
theorem ownO_good : SpecGood Tryz.prog (19, ownO) := by
  refine spec_good mixedH Tryz.func19 (by kernel_rfl) (by kernel_rfl) (tab := []) (by simp) (keep := n_Own_keep) ?_
  rintro args h k ⟨kd, nv, sv, rfl, on, os, hn, hs, H⟩
  refine ⟨0, ?_⟩
  show n_Own (tabC _) idG _ _ h _
  rw [n_Own_eq]
  refine boxE_in (by simp [on, os]) fun h1 c1 n1 o1 => ?_
  refine allocE_in fun h2 c2 n2 o2 => ?_
  have L0 : Lv h.next h1.next [.int .i64 kd, nv, sv, .slice none 0 0] h h2 h2 [] := ⟨Chg.refl _ _, c1.seq c2, by omega, by omega, by omega, c2.at0 (by omega) o1, ⟨_, rfl, o2⟩, List.nodup_nil, by simp⟩
  have hn2 := hn.later (c1.seq c2)
  have hs2 := hs.later (c1.seq c2)
  have l0 : ∀ {g : St} {S : List Nat}, Lv h.next h1.next [.int .i64 kd, nv, sv, .slice none 0 0] h h2 g S → loadV false 1 (.pointer (some ⟨h.next, 0, none⟩)) g = some (.int .i64 kd) := fun L => L.ld rfl
  have l1 : ∀ {g : St} {S : List Nat}, Lv h.next h1.next [.int .i64 kd, nv, sv, .slice none 0 0] h h2 g S → loadV false 1 (.pointer (some ⟨h.next, 1, none⟩)) g = some nv := fun L => L.ld rfl
  have l2 : ∀ {g : St} {S : List Nat}, Lv h.next h1.next [.int .i64 kd, nv, sv, .slice none 0 0] h h2 g S → loadV false 1 (.pointer (some ⟨h.next, 2, none⟩)) g = some sv := fun L => L.ld rfl
  have l3 : ∀ {g : St} {S : List Nat}, Lv h.next h1.next [.int .i64 kd, nv, sv, .slice none 0 0] h h2 g S → loadV false 1 (.pointer (some ⟨h.next, 3, none⟩)) g = some (.slice none 0 0) := fun L => L.ld rfl
  have fin : ∀ (y0 y1 y3 y4 y5 y6 y7 y8 y9 y10 y11 y12 y13 y14 y15 y16 y17 y18 y19 y20 y21 : Value) (h' : St) (a b c : Option Addr) (l m n : Nat), Chg h h' [] → h'.objs h1.next = some (.cells [.int .i64 kd, .slice a l 0, .slice b m 0, .slice c n 0] true) →
      n_Own_d0 (tabC []) idG 0 [y0, y1, .pointer (some ⟨h1.next, 0, none⟩), y3, y4, y5, y6, y7, y8, y9, y10, y11, y12, y13, y14, y15, y16, y17, y18, y19, y20, y21] h' (fun v h1 => ∃ h2, St.le h2 h1 ∧ k v h2) := by
    intro y0 y1 y3 y4 y5 y6 y7 y8 y9 y10 y11 y12 y13 y14 y15 y16 y17 y18 y19 y20 y21 h' a b c l m n c' o'
    rw [n_Own_d0_eq, loadV_ptr, o']
    simp only [loadM_cells, partV_agg, takeN_lit4, Option.map_some, bindV_some]
    exact ⟨h', St.le.refl _, H h' _ c' rfl⟩
  simp only [idG_eq]
  refine ords_of n_Own_d0_ords (all_cons ?_ (all_cons ?_ (all_cons ?_ (all_cons ?_ (all_cons ?_ (all_cons ?_ (all_cons ?_ (all_cons ?_ (all_cons ?_ (all_cons ?_ (all_cons ?_ (all_cons ?_ (all_cons ?_ (all_cons ?_ (all_cons ?_ all_nil)))))))))))))))
  all_goals
    first
      | rw [n_Own_d0_o0]
      | rw [n_Own_d0_o1]
      | rw [n_Own_d0_o2]
      | rw [n_Own_d0_o3]
      | rw [n_Own_d0_o4]
      | rw [n_Own_d0_o5]
      | rw [n_Own_d0_o6]
      | rw [n_Own_d0_o7]
      | rw [n_Own_d0_o8]
      | rw [n_Own_d0_o9]
      | rw [n_Own_d0_o10]
      | rw [n_Own_d0_o11]
      | rw [n_Own_d0_o12]
      | rw [n_Own_d0_o13]
      | rw [n_Own_d0_o14]
  all_goals
    repeat' first
      | exact trivial
      | exact l0 (by assumption)
      | exact l1 (by assumption)
      | exact l2 (by assumption)
      | exact l3 (by assumption)
      | (with_reducible refine And.intro ?_ ?_)
      | (rw [l0 (by assumption), bindV_some])
      | (rw [l1 (by assumption), bindV_some])
      | (rw [l2 (by assumption), bindV_some])
      | (rw [l3 (by assumption), bindV_some])
      | (refine lv_build (by assumption) fun h' L' => ?_)
      | (refine lv_app1 (by assumption) (by first | exact hn2 | exact hs2 | exact NC.nil _) (by omega) fun h' q n L' => ?_)
      | (refine lv_app2 (by assumption) (by first | exact hn2 | exact hs2 | exact NC.nil _) (by omega) fun h' q n L' => ?_)
      | (refine lv_app3 (by assumption) (by first | exact hn2 | exact hs2 | exact NC.nil _) (by omega) fun h' q n L' => ?_)
      | (simp only [offV_ptr, Nat.zero_add, Nat.reduceAdd, bindV_some])
      | (rw [build3, bindV_some, build4, bindV_some])
      | (refine lv_fin (by assumption) fun h' c' o' => ?_)
      | exact fin _ _ _ _ _ _ _ _ _ _ _ _ _ _ _ _ _ _ _ _ _ _ _ _ _ _ _ _ c' o'
end Go.Proofs.YtfghmaheokgceaaGreatDoor
end

section
set_option linter.unusedSimpArgs false
set_option linter.unusedVariables false
set_option maxHeartbeats 8000000
set_option maxRecDepth 100000
namespace Go.Proofs.YtfghmaheokgceaaGreatDoor
open Go.Abs

/-- An event's cells. -/
def evC (d id n kd : Int) (nv : Value) (t : ByteArray) (u : Int) : List Value := [.int .u8 d, .int .u32 id, .int .u64 n, .int .i64 kd, nv, .string t, .int .u16 u]
def evV (d id n kd : Int) (nv : Value) (t : ByteArray) (u : Int) : Value := .agg (evC d id n kd nv t u).toArray
theorem one_cells {v : Value} (h : one v = true) : v.cells = #[v] := by cases v <;> first | rfl | (simp [one] at h)
section
variable {d id n kd u : Int} {nv : Value} {t : ByteArray} {q : Nat} {h : St}
theorem ev_ld {own : Bool} (o : h.objs q = some (.cells (evC d id n kd nv t u) own)) (j : Nat) {v : Value} (hv : (evC d id n kd nv t u)[j]? = some v) : loadV false 1 (.pointer (some ⟨q, j, none⟩)) h = some v := by
  rw [loadV_ptr, o, loadM_cells, partV_one, hv]
theorem ev_all {own : Bool} (o : h.objs q = some (.cells (evC d id n kd nv t u) own)) : loadV true 7 (.pointer (some ⟨q, 0, none⟩)) h = some (evV d id n kd nv t u) := by
  rw [loadV_ptr, o, loadM_cells, partV_agg]
  rfl
theorem ev_one (hn : one nv = true) : allOne (evV d id n kd nv t u).cells.toList = true := by
  simp [evV, evC, hn]
theorem ev_cells : (evV d id n kd nv t u).cells.toList = evC d id n kd nv t u := by simp [evV]
end
/-- The text, where nothing was told. -/
def textO : Abs.Spec := fun args h k => ∃ (d id n kd : Int) (nv : Value) (t : ByteArray) (u : Int), args = [evV d id n kd nv t u, .slice none 0 0] ∧ one nv = true ∧ ∀ h', Chg h h' [] → k (.string t) h'
theorem textO_good : SpecGood Tryz.prog (21, textO) := by
  refine spec_good mixedH Tryz.func21 (by kernel_rfl) (by kernel_rfl) (tab := []) (by simp) (keep := n_Text_keep) ?_
  rintro args h k ⟨d, id, n, kd, nv, t, u, rfl, on, H⟩
  refine ⟨0, ?_⟩
  show n_Text (tabC _) idG _ _ _ h _
  rw [n_Text_eq]
  refine boxE_in (ev_one on) fun h1 c1 n1 o1 => ?_
  rw [ev_cells] at o1
  simp only [offV_ptr, Nat.zero_add, bindV_some, ev_ld o1 6 rfl, binNil_int, binV_gtr, groupK_eq, guardK_bool, lenS_slice, idG_eq]
  have z : decide (((0 : Nat) : Int) > 0) = false := rfl
  by_cases hu : u > 0
  · simp only [hu, decide_true, if_true, getT, pickV_bool, bindV_some, binV_gtr, condK_bool, ev_ld o1 5 rfl, z, Bool.false_eq_true, if_false, offV_ptr, Nat.zero_add]
    exact ⟨h1, St.le.refl _, H h1 c1⟩
  · simp only [hu, decide_false, Bool.false_eq_true, if_false, pickV_bool, bindV_some, condK_bool, ev_ld o1 5 rfl, offV_ptr, Nat.zero_add]
    exact ⟨h1, St.le.refl _, H h1 c1⟩
/-- The message's texts: none, or the one. -/
def SV (h h' : St) (sv : Value) (t : ByteArray) : Prop := sv = .slice none 0 0 ∨ ∃ q, sv = .slice (some ⟨q, 0, some 1⟩) 1 0 ∧ h.next ≤ q ∧ q < h'.next ∧ h'.objs q = some (.cells [.string t] true)
theorem SV.one {h h' : St} {sv : Value} {t : ByteArray} (s : SV h h' sv t) : one sv = true := by
  rcases s with rfl | ⟨q, rfl, _⟩ <;> rfl
theorem SV.nc {h h' : St} {sv : Value} {t : ByteArray} (s : SV h h' sv t) : NC h' sv := by
  rcases s with rfl | ⟨q, rfl, _, s1, s2⟩
  · exact NC.nil _
  · intro g c
    refine ⟨[.string t], 1, ?_, rfl, rfl, by omega⟩
    simp only [newCells, c.at0 s1 s2]
    rfl
def msgO : Abs.Spec := fun args h k => ∃ (d id n kd : Int) (nv : Value) (t : ByteArray) (u : Int) (s : ByteArray), args = [evV d id n kd nv t u, .string s] ∧ one nv = true ∧ isUnk nv = false ∧
  ∀ h' sv, Chg h h' [] → SV h h' sv s → k (.agg #[.int .i64 kd, nv, sv, .slice none 0 0]) h'
theorem msgO_good : SpecGood Tryz.prog (20, msgO) := by
  refine spec_good mixedH Tryz.func20 (by kernel_rfl) (by kernel_rfl) (tab := []) (by simp) (keep := n_Msg_keep) ?_
  rintro args h k ⟨d, id, n, kd, nv, t, u, s, rfl, on, un, H⟩
  refine ⟨0, ?_⟩
  show n_Msg (tabC _) idG _ _ _ h _
  rw [n_Msg_eq]
  refine boxE_in (ev_one on) fun h1 c1 n1 o1 => ?_
  rw [ev_cells] at o1
  refine allocE_in fun h2 c2 n2 o2 => ?_
  have o12 := c2.at0 (by omega) o1
  have b3 : buildV [.slice none 0 0, .slice none 0 0, .slice none 0 0] (some [(0, 1, nv)]) = some (.agg #[nv, .slice none 0 0, .slice none 0 0]) := by
    unfold buildV
    simp [un, fillL, one_cells on]
  have b4 : buildV [.int .i64 0, .slice none 0 0, .slice none 0 0, .slice none 0 0] (some [(0, 1, .int .i64 kd), (1, 3, .agg #[nv, .slice none 0 0, .slice none 0 0])]) = some (.agg #[.int .i64 kd, nv, .slice none 0 0, .slice none 0 0]) := by rfl
  simp only [offV_ptr, Nat.zero_add, bindV_some, ev_ld o12 3 rfl, ev_ld o12 4 rfl, b3, b4]
  refine allocE_in fun h3 c3 n3 o3 => ?_
  refine storeE_all o3 rfl rfl (by simp [on]) fun h4 c4 n4 o4 => ?_
  have o14 := c4.at1 (by omega) (by omega) (c3.at0 (by omega) o12)
  have o24 := c4.at1 (by omega) (by omega) (c3.at0 (by omega) o2)
  have c04 : Chg h h4 [] := ((c1.seq c2).seq c3).new c4 (by omega)
  simp only [offV_ptr, Nat.zero_add, bindV_some, ev_ld o14 3 rfl, binNil_int, binV_eql, groupK_eq, guardK_bool, idG_eq]
  have fin : ∀ (g : St) (sv : Value) (own : Bool), Chg h g [] → g.objs h1.next = some (.cells [.int .i64 0, .slice none 0 0, .slice none 0 0, .slice none 0 0] true) → h1.next < g.next → h2.next < g.next → g.objs h2.next = some (.cells [.int .i64 kd, nv, sv, .slice none 0 0] true) → SV h g sv s →
      n_Msg_j0 (tabC []) idG 0 (.pointer (some ⟨h1.next, 0, none⟩)) (.pointer (some ⟨h2.next, 0, none⟩)) g (fun v h1 => ∃ h2, St.le h2 h1 ∧ k v h2) := by
    intro g sv own c oa la lb ob hs
    rw [n_Msg_j0_eq]
    have os := hs.one
    have l4 : loadV true 4 (.pointer (some ⟨h2.next, 0, none⟩)) g = some (.agg #[.int .i64 kd, nv, sv, .slice none 0 0]) := by
      rw [loadV_ptr, ob]; rfl
    rw [l4, bindV_some]
    refine storeE_all oa rfl rfl (by simp [on, os]) fun g' c' n' o' => ?_
    have l5 : loadV true 4 (.pointer (some ⟨h1.next, 0, none⟩)) g' = some (.agg #[.int .i64 kd, nv, sv, .slice none 0 0]) := by
      rw [loadV_ptr, o']; rfl
    rw [l5, bindV_some]
    refine ⟨g', St.le.refl _, H g' sv (c.new c' (by omega)) ?_⟩
    rcases hs with rfl | ⟨q, rfl, q1, q2, q3⟩
    · exact .inl rfl
    · refine .inr ⟨q, rfl, q1, by omega, c'.at1 q2 (fun e => ?_) q3⟩
      rw [e, oa] at q3
      cases q3
  have put : ∀ {k' : Cont}, (∀ g sv, Chg h g [] → g.objs h1.next = some (.cells [.int .i64 0, .slice none 0 0, .slice none 0 0, .slice none 0 0] true) → h1.next < g.next → h2.next < g.next → g.objs h2.next = some (.cells [.int .i64 kd, nv, sv, .slice none 0 0] true) → SV h g sv s → k' undef g) →
      buildSliceE 1 1 [.string ByteArray.empty] [(0 * 1, 1, .string s)] h4 fun v21 h9 => storeE 1 (.pointer (some ⟨h2.next, 2, none⟩)) v21 h9 k' := by
    intro k' K
    refine buildSliceE_in [.string s] rfl rfl rfl fun h5 c5 n5 o5 => ?_
    refine storeE_in (c5.at0 (by omega) o4) [.int .i64 kd, nv, .slice (some ⟨h4.next, 0, some 1⟩) 1 0, .slice none 0 0] rfl (by simp) rfl (by simp) fun h6 c6 n6 o6 => ?_
    refine K h6 _ ((c04.seq c5).new c6 (by omega)) (c6.at1 (by omega) (by omega) (c5.at0 (by omega) o24)) (by omega) (by omega) o6 (.inr ⟨h4.next, rfl, by have := c04.1; omega, by omega, c6.at1 (by omega) (by omega) o5⟩)
  by_cases e1 : kd = 1
  · subst e1
    simp only [decide_true, Bool.true_eq_false, if_false, pickV_bool, if_true, bindV_some, condK_bool, offV_ptr, Nat.zero_add, Nat.reduceAdd]
    exact put fun g sv c oa la lb ob hs => fin g sv true c oa la lb ob hs
  · simp only [e1, decide_false, if_true, ev_ld o14 3 rfl, bindV_some, binNil_int, binV_eql, getT, pickV_bool, Bool.false_eq_true, if_false, condK_bool, offV_ptr, Nat.zero_add, Nat.reduceAdd]
    by_cases e2 : kd = 195
    · subst e2
      simp only [decide_true, if_true]
      exact put fun g sv c oa la lb ob hs => fin g sv true c oa la lb ob hs
    · simp only [e2, decide_false, Bool.false_eq_true, if_false]
      exact fin h4 _ true c04 o24 (by omega) (by omega) o4 (.inl rfl)
end Go.Proofs.YtfghmaheokgceaaGreatDoor
end

section
set_option linter.unusedSimpArgs false
set_option linter.unusedVariables false
set_option maxHeartbeats 8000000
set_option maxRecDepth 100000
namespace Go.Proofs.YtfghmaheokgceaaGreatDoor
open Go.Abs

def tabDo : List (FuncId × Abs.Spec) := [(14, nilO 2 (.tuple #[.string ⟨#[]⟩, .int .i64 12])), (15, nilO 1 (.tuple #[])), (16, nilO 1 (.int .i64 12)), (17, doO 1), (21, textO), (20, msgO), (19, ownO), (18, doO 2), (22, doO 2), (23, doO 1)]
theorem tabDo_good : ∀ p ∈ tabDo, SpecGood Tryz.prog p := by
  simp [tabDo, issueO_good, drawO_good, openO_good, closeO_good, textO_good, msgO_good, ownO_good, requestO_good, reportO_good, tickO_good]
/-- The error of an event. -/
def errOf (d : Int) : Int := if d = 0 ∨ d = 2 then 12 else 0
def evDoO : Abs.Spec := fun args h k => ∃ (d id n kd : Int) (nv : Value) (t : ByteArray) (u : Int), args = [.pointer none, evV d id n kd nv t u, .slice none 0 0] ∧ one nv = true ∧ isUnk nv = false ∧ NC h nv ∧
  ∀ h', Chg h h' [] → k (.tuple #[.slice none 0 0, .string ⟨#[]⟩, .int .i64 (errOf d)]) h'
theorem evDoO_good : SpecGood Tryz.prog (4, evDoO) := by
  refine spec_good mixedH Tryz.func4 (by kernel_rfl) (by kernel_rfl) (tab := tabDo) tabDo_good (keep := n_Do_keep) ?_
  rintro args h k ⟨d, id, n, kd, nv, t, u, rfl, on, un, nc, H⟩
  refine ⟨0, ?_⟩
  show n_Do (tabC _) idG _ _ _ _ h _
  rw [n_Do_eq]
  refine boxE_in (ev_one on) fun h1 c1 n1 o1 => ?_
  rw [ev_cells] at o1
  have l0 := ev_ld o1 0 rfl
  have l1 := ev_ld o1 1 rfl
  have l2 := ev_ld o1 2 rfl
  have fin : ∀ g, Chg h g [] → errOf d = 0 → n_Do_j0 (tabC tabDo) idG 0 (.slice none 0 0) (.string ⟨#[]⟩) (.int .i64 0) g (fun v h1 => ∃ h2, St.le h2 h1 ∧ k v h2) := by
    intro g c e
    rw [n_Do_j0_eq]
    have := H g c
    rw [e] at this
    exact ⟨g, St.le.refl _, this⟩
  have sent : ∀ {f : FuncId} {k' : Cont}, (f, doO 2) ∈ tabDo → (∀ g, Chg h g [] → k' (.slice none 0 0) g) →
      ((True) ∧ bindV (loadV true 7 (.pointer (some ⟨h.next, 0, none⟩)) h1) fun v49 => (True) ∧ bindV (loadV true 7 (.pointer (some ⟨h.next, 0, none⟩)) h1) fun v50 => (True) ∧ tabC tabDo 21 [v50, .slice none 0 0] h1 fun v52 h6 =>
        (True ∧ (loadV true 7 (.pointer (some ⟨h.next, 0, none⟩)) h6 = some v49) ∧ (loadV false 1 (.pointer (some ⟨h.next, 1, none⟩)) h6 = some (.int .u32 id)) ∧ True) ∧ tabC tabDo 20 [v49, v52] h6 fun v53 h7 =>
        (True ∧ True ∧ (loadV false 1 (.pointer (some ⟨h.next, 1, none⟩)) h7 = some (.int .u32 id)) ∧ True) ∧ tabC tabDo 19 [v53] h7 fun v54 h8 =>
        (True ∧ True ∧ (loadV false 1 (.pointer (some ⟨h.next, 1, none⟩)) h8 = some (.int .u32 id)) ∧ True) ∧ tabC tabDo f [.pointer none, .int .u32 id, v54] h8 fun v55 h9 => (True ∧ True ∧ True ∧ True) ∧ k' v55 h9) := by
    intro f k' hf K
    rw [ev_all o1]
    refine ⟨trivial, ?_⟩
    rw [bindV_some]
    refine ⟨trivial, ?_⟩
    rw [bindV_some]
    refine ⟨trivial, ?_⟩
    refine cK (S := textO) (by simp [tabDo]) ⟨d, id, n, kd, nv, t, u, rfl, on, fun h6 c6 => ?_⟩
    have o6 := c6.at0 (by omega) o1
    refine ⟨⟨trivial, ev_all o6, ev_ld o6 1 rfl, trivial⟩, ?_⟩
    refine cK (S := msgO) (by simp [tabDo]) ⟨d, id, n, kd, nv, t, u, t, rfl, on, un, fun h7 sv c7 s7 => ?_⟩
    have c16 := c6.1
    have o7 := c7.at0 (by omega) o6
    refine ⟨⟨trivial, trivial, ev_ld o7 1 rfl, trivial⟩, ?_⟩
    have c07 : Chg h h7 [] := (c1.seq c6).seq c7
    refine cK (S := ownO) (by simp [tabDo]) ⟨kd, nv, sv, rfl, on, s7.one, nc.later c07, s7.nc, fun h8 v c8 a8 => ?_⟩
    have c67 := c7.1
    have o8 := c8.at0 (by omega) o7
    refine ⟨⟨trivial, trivial, ev_ld o8 1 rfl, trivial⟩, ?_⟩
    refine cK (S := doO 2) hf ⟨_, rfl, rfl, fun w hw => ?_, fun h9 c9 => ⟨⟨trivial, trivial, trivial, trivial⟩, K h9 ((c07.seq c8).seq c9)⟩⟩
    rcases List.mem_cons.1 hw with rfl | hw
    · rfl
    · rcases List.mem_cons.1 hw with rfl | hw
      · exact a8
      · cases hw
  simp only [offV_ptr, Nat.zero_add, bindV_some, l0, binNil_int, binV_eql, condK_bool, idG_eq, decide_eq_true_eq]
  split
  · rename_i e
    subst e
    simp only [l1, l2, bindV_some]
    refine cK (S := nilO 2 (.tuple #[.string ⟨#[]⟩, .int .i64 12])) (by simp [tabDo]) ⟨_, rfl, rfl, fun g c => ?_⟩
    simp only [extV_two0, extV_two1, bindV_some]
    exact ⟨g, St.le.refl _, H g (c1.seq c)⟩
  rename_i e0
  split
  · rename_i e
    subst e
    simp only [l2, bindV_some]
    exact cK (S := nilO 1 (.tuple #[])) (by simp [tabDo]) ⟨_, rfl, rfl, fun g c => fin g (c1.seq c) rfl⟩
  rename_i e1
  split
  · rename_i e
    subst e
    simp only [l1, bindV_some]
    exact cK (S := nilO 1 (.int .i64 12)) (by simp [tabDo]) ⟨_, rfl, rfl, fun g c => ⟨g, St.le.refl _, H g (c1.seq c)⟩⟩
  rename_i e2
  have err : errOf d = 0 := by unfold errOf; rw [if_neg (by omega)]
  have H' : ∀ g, Chg h g [] → k (.tuple #[.slice none 0 0, .string ⟨#[]⟩, .int .i64 0]) g := fun g c => by
    have := H g c
    rwa [err] at this
  split
  · simp only [l1, bindV_some]
    refine cK (S := doO 1) (by simp [tabDo]) ⟨_, rfl, rfl, fun w hw => ?_, fun g c => ⟨g, St.le.refl _, H' g (c1.seq c)⟩⟩
    rcases List.mem_cons.1 hw with rfl | hw
    · rfl
    · cases hw
  split
  · simp only [l1, bindV_some]
    exact sent (by simp [tabDo]) fun g c => ⟨g, St.le.refl _, H' g c⟩
  split
  · simp only [l1, bindV_some]
    exact sent (by simp [tabDo]) fun g c => ⟨g, St.le.refl _, H' g c⟩
  split
  · simp only [l2, wrapV_int, bindV_some]
    refine cK (S := doO 1) (by simp [tabDo]) ⟨_, rfl, rfl, fun w hw => ?_, fun g c => ⟨g, St.le.refl _, H' g (c1.seq c)⟩⟩
    rcases List.mem_cons.1 hw with rfl | hw
    · rfl
    · cases hw
  · exact fin h1 c1 err
end Go.Proofs.YtfghmaheokgceaaGreatDoor
end

section
set_option linter.unusedSimpArgs false
set_option linter.unusedVariables false
set_option maxHeartbeats 8000000
set_option maxRecDepth 100000
namespace Go.Proofs.YtfghmaheokgceaaGreatDoor
open Go.Abs

def tabLaw : List (FuncId × Abs.Spec) := [(4, evDoO), (5, nilO 1 (.tuple #[.agg seenZ.toArray, .bool false])), (6, nilO 1 (.tuple #[.agg matchZ.toArray, .bool false])), (7, nilO 1 (.tuple #[.agg instZ.toArray, .bool false])), (8, nilO 0 (.int .i64 0)), (9, nilO 0 (.slice none 0 0)), (10, nilO 0 (.slice none 0 0)), (11, nilO 0 (.slice none 0 0)), (12, nilO 1 (.slice none 0 0)), (13, RunsTrue (shaG ++ tabG))]
theorem tabLaw_good : ∀ p ∈ tabLaw, SpecGood Tryz.prog p := by
  simp [tabLaw, evDoO_good, seeO_good, matchO_good, instO_good, nowO_good, knownO_good, connsO_good, matchesO_good, queueO_good, awake_good]
theorem or_case {b : Bool} {body : (List Value → St → Prop) → Prop} {F : List Value → St → Prop} {h : St} {l0 : List Value} (l1 : List Value) (hb : F l1 h → body F) (H : ∀ xs, (b = true ∧ xs = l0 ∨ b = false ∧ xs = l1) → F xs h) : groupK (.bool b) false l0 h body F := by
  rw [groupK_eq, guardK_bool]
  cases b
  · rw [if_pos rfl]; exact hb (H _ (.inr ⟨rfl, rfl⟩))
  · rw [if_neg (by simp)]; exact H _ (.inl ⟨rfl, rfl⟩)
theorem and_case {body : (List Value → St → Prop) → Prop} {F : List Value → St → Prop} {h : St} {l0 : List Value} (hb : body F) : groupK (.bool true) true l0 h body F := by
  rw [groupK_eq, guardK_bool, if_pos rfl]; exact hb
def nilLawO : Abs.Spec := fun args h k => ∃ (d id n kd : Int) (nv : Value) (t : ByteArray) (u m : Int), args = [evV d id n kd nv t u] ∧ one nv = true ∧ isUnk nv = false ∧ lenS nv = some (.int .i64 m) ∧ (m ≤ 12 → NC h nv) ∧
  GlobsIn (shaG ++ tabG) h ∧ (∀ p ∈ shaG ++ tabG, p.1 < h.next) ∧ ∀ h', k (.bool true) h'
theorem nilLawO_good : SpecGood Tryz.prog (3, nilLawO) := by
  refine spec_good mixedH Tryz.func3 (by kernel_rfl) (by kernel_rfl) (tab := tabLaw) tabLaw_good (keep := n_HallNil_keep) ?_
  rintro args h k ⟨d, id, n, kd, nv, t, u, m, rfl, on, un, ln, nc, gl, glt, H⟩
  refine ⟨0, ?_⟩
  show n_HallNil (tabC _) idG _ _ h _
  rw [n_HallNil_eq]
  refine boxE_in (ev_one on) fun h1 c1 n1 o1 => ?_
  rw [ev_cells] at o1
  have yes : ∀ g, ∃ h2, St.le h2 g ∧ k (.bool true) h2 := fun g => ⟨g, St.le.refl _, H g⟩
  simp only [offV_ptr, Nat.zero_add, bindV_some, ev_ld o1 4 rfl, ln, binNil_int, binV_gtr]
  refine or_case [.pointer (some ⟨h.next, 5, none⟩), .string t, .int .i64 t.size, .bool (decide ((t.size : Int) > 300))] (fun q => ?_) fun xs hx => ?_
  · simp only [offV_ptr, Nat.zero_add, bindV_some, ev_ld o1 5 rfl, lenT_string, binNil_int, binV_gtr]
    exact q
  obtain ⟨b, hb, hm⟩ : ∃ b, pickV (.bool (decide (m > 12))) (.bool true) (getT xs 3) = some (.bool b) ∧ (b = false → m ≤ 12) := by
    rcases hx with ⟨e, rfl⟩ | ⟨e, rfl⟩
    · rw [e, pickV_bool]; exact ⟨true, rfl, fun h => by cases h⟩
    · rw [e, pickV_bool]; exact ⟨_, rfl, fun _ => by have := of_decide_eq_false e; omega⟩
  simp only [idG_eq]
  rw [hb, bindV_some, condK_bool]
  cases b with
  | true => rw [if_pos rfl]; exact yes h1
  | false =>
    have nc := nc (hm rfl)
    rw [if_neg (by simp)]
    rw [ev_all o1, bindV_some]
    refine cK (S := evDoO) (by simp [tabLaw]) ⟨d, id, n, kd, nv, t, u, rfl, on, un, nc.later c1, fun h2 c2 => ?_⟩
    have o2 := c2.at0 (by omega) o1
    have m2 := c2.1
    simp only [extV_three0, extV_three1, extV_three2, bindV_some, offV_ptr, Nat.zero_add, ev_ld o2 1 rfl]
    refine cK (S := nilO 1 (.tuple #[.agg seenZ.toArray, .bool false])) (by simp [tabLaw]) ⟨_, rfl, rfl, fun h3 c3 => ?_⟩
    have o3 := c3.at0 (by omega) o2
    have m3 := c3.1
    simp only [extV_two0, extV_two1, bindV_some]
    refine allocE_in fun h4 c4 n4 p4 => ?_
    refine storeE_all p4 rfl rfl rfl fun h5 c5 n5 p5 => ?_
    have o5 := c5.at1 (by omega) (by omega) (c4.at0 (by omega) o3)
    simp only [bindV_some, offV_ptr, Nat.zero_add, ev_ld o5 1 rfl]
    refine cK (S := nilO 1 (.tuple #[.agg matchZ.toArray, .bool false])) (by simp [tabLaw]) ⟨_, rfl, rfl, fun h6 c6 => ?_⟩
    have m6 := c6.1
    have o6 := c6.at0 (by omega) o5
    have p6 := c6.at0 (by omega) p5
    simp only [extV_two0, extV_two1, bindV_some]
    refine allocE_in fun h7 c7 n7 p7 => ?_
    refine storeE_all p7 rfl rfl rfl fun h8 c8 n8 q8 => ?_
    have o8 := c8.at1 (by omega) (by omega) (c7.at0 (by omega) o6)
    have p8 := c8.at1 (by omega) (by omega) (c7.at0 (by omega) p6)
    simp only [bindV_some, offV_ptr, Nat.zero_add, ev_ld o8 1 rfl]
    refine cK (S := nilO 1 (.tuple #[.agg instZ.toArray, .bool false])) (by simp [tabLaw]) ⟨_, rfl, rfl, fun h9 c9 => ?_⟩
    have m9 := c9.1
    have o9 := c9.at0 (by omega) o8
    have p9 := c9.at0 (by omega) p8
    have q9 := c9.at0 (by omega) q8
    simp only [extV_two0, extV_two1, bindV_some]
    refine allocE_in fun h10 c10 n10 r10 => ?_
    refine storeE_all r10 rfl rfl rfl fun h11 c11 n11 r11 => ?_
    have o11 := c11.at1 (by omega) (by omega) (c10.at0 (by omega) o9)
    have p11 := c11.at1 (by omega) (by omega) (c10.at0 (by omega) p9)
    have q11 := c11.at1 (by omega) (by omega) (c10.at0 (by omega) q9)
    have c0 : Chg h h11 [] := (((((((((c1.seq c2).seq c3).seq c4).new c5 (by omega)).seq c6).seq c7).new c8 (by omega)).seq c9).seq c10).new c11 (by omega)
    have es : binNil .eql .other (.string ⟨#[]⟩) (.string ⟨#[]⟩) = some (.bool true) := by rw [binNil_string]; simp [binV, isShift, textV]
    simp only [lenS_slice, bindV_some, binNil_int, binV_eql, show decide (((0 : Nat) : Int) = 0) = true from rfl]
    refine and_case ?_
    simp only [es, bindV_some, idG_eq, getT, pickV_bool, if_true]
    refine and_case ?_
    simp only [offV_ptr, Nat.zero_add, binNil_int, binV_eql, bindV_some, ev_ld o11 0 rfl, idG_eq, getT]
    refine or_case [.pointer (some ⟨h.next, 0, none⟩), .int .u8 d, .bool (decide (d = 2))] (fun q => ?_) fun xs hx => ?_
    · simp only [offV_ptr, Nat.zero_add, bindV_some, ev_ld o11 0 rfl, binNil_int, binV_eql]
      exact q
    have pk : pickV (.bool (decide (d = 0))) (.bool true) (getT xs 2) = some (.bool (decide (errOf d = 12))) := by
      rcases hx with ⟨e, rfl⟩ | ⟨e, rfl⟩
      · have e := of_decide_eq_true e
        rw [pickV_bool, if_pos (by simpa using e), e]
        rfl
      · have e := of_decide_eq_false e
        rw [pickV_bool, if_neg (by simpa using e)]
        by_cases e2 : d = 2
        · subst e2; rfl
        · have : errOf d = 0 := by unfold errOf; rw [if_neg (by omega)]
          rw [this, show getT [Value.pointer (some ⟨h.next, 0, none⟩), .int .u8 d, .bool (decide (d = 2))] 2 = .bool (decide (d = 2)) from rfl, decide_eq_false e2]
          rfl
    rw [n_HallNil_c0_eq]
    refine and_case ?_
    simp only [pk, bindV_some, binV_bool_eql, BEq.rfl, getT, pickV_bool, if_true, idG_eq]
    refine and_case ?_
    refine cK (S := nilO 0 (.int .i64 0)) (by simp [tabLaw]) ⟨_, rfl, rfl, fun h12 c12 => ?_⟩
    simp only [binNil_int, binV_eql, bindV_some, decide_true, getT, pickV_bool, if_true, idG_eq]
    refine and_case ?_
    refine cK (S := nilO 0 (.slice none 0 0)) (by simp [tabLaw]) ⟨_, rfl, rfl, fun h13 c13 => ?_⟩
    simp only [lenS_slice, bindV_some]
    refine cK (S := nilO 0 (.slice none 0 0)) (by simp [tabLaw]) ⟨_, rfl, rfl, fun h14 c14 => ?_⟩
    simp only [lenS_slice, bindV_some, binV_add]
    refine cK (S := nilO 0 (.slice none 0 0)) (by simp [tabLaw]) ⟨_, rfl, rfl, fun h15 c15 => ?_⟩
    simp only [lenS_slice, bindV_some, binV_add]
    refine cK (S := nilO 1 (.slice none 0 0)) (by simp [tabLaw]) ⟨_, rfl, rfl, fun h16 c16 => ?_⟩
    have cc : Chg h11 h16 [] := (((c12.seq c13).seq c14).seq c15).seq c16
    have p16 := cc.at0 (by omega) p11
    have q16 := cc.at0 (by omega) q11
    have z : binNil .eql .other (.int .i64 (IntKind.i64.wrap (IntKind.i64.wrap (IntKind.i64.wrap ((0 : Nat) + (0 : Nat)) + (0 : Nat)) + (0 : Nat)))) (.int .i64 0) = some (.bool true) := by rfl
    simp only [lenS_slice, bindV_some, binV_add, z, getT, pickV_bool, if_true, idG_eq]
    rw [n_HallNil_c1_eq]
    simp only [getT, pickV_bool, if_true, bindV_some]
    refine and_case ?_
    simp only [unV_not, Bool.not_false, getT, pickV_bool, if_true, bindV_some, idG_eq]
    refine and_case ?_
    have l11 : loadV true 11 (.pointer (some ⟨h3.next, 0, none⟩)) h16 = some (.agg seenZ.toArray) := by rw [loadV_ptr, p16]; rfl
    have b0 : buildV [.int .u32 0, .int .u32 0, .int .i64 0, .int .i64 0, .int .u32 0, .int .u32 0, .int .u32 0, .int .u32 0, .int .i64 0, .int .i64 0, .int .i64 0] (some []) = some (.agg seenZ.toArray) := by rfl
    have e0 : binV .eql (.flat [.i, .i, .i, .i, .i, .i, .i, .i, .i, .i, .i]) (.agg seenZ.toArray) (.agg seenZ.toArray) = some (.bool true) := by rfl
    rw [l11, bindV_some, b0, bindV_some, e0, bindV_some]
    simp only [getT, pickV_bool, if_true, bindV_some, idG_eq]
    refine and_case ?_
    simp only [unV_not, Bool.not_false, bindV_some, idG_eq]
    rw [n_HallNil_c2_eq]
    simp only [getT, pickV_bool, if_true, bindV_some]
    refine and_case ?_
    have lm : loadV false 1 (.pointer (some ⟨h6.next, 0, none⟩)) h16 = some (.int .u32 0) := by rw [loadV_ptr, q16]; rfl
    simp only [offV_ptr, Nat.zero_add, lm, bindV_some, binNil_int, binV_eql, decide_true, getT, pickV_bool, if_true, idG_eq]
    refine and_case ?_
    simp only [unV_not, Bool.not_false, bindV_some, getT, pickV_bool, if_true, idG_eq]
    refine and_case ?_
    refine cK (S := RunsTrue (shaG ++ tabG)) (by simp [tabLaw]) ⟨rfl, fun p hp => (c0.seq cc).at0 (glt p hp) (gl p hp), fun h17 => ?_⟩
    simp only [getT, idG_eq]
    rw [n_HallNil_c3_eq]
    simp only [getT, pickV_bool, if_true, bindV_some]
    exact yes h17
end Go.Proofs.YtfghmaheokgceaaGreatDoor
end

section
set_option linter.unusedSimpArgs false
set_option linter.unusedVariables false
set_option maxHeartbeats 4000000
set_option maxRecDepth 100000
namespace Go.Proofs.YtfghmaheokgceaaGreatDoor
open Go.Abs Go.IntWalk Go.Deep Go.ChangeShapes Go.WideShapes

/-! ### variables -/
def ofLit {H : Type} : DataW H → Option Value
  | .lit (.int k n) => some (.int k n)
  | .lit (.string l) => some (.string ⟨l.toArray⟩)
  | _ => none
def litE (P : Program) (e : TypeId) : Bool := match P.underlying e with
  | some (.int _) => true
  | some .string => true
  | _ => false
section
variable {H : Type} {enc : TypeId × Value → H} {P : Program} {w : World} {base : Nat} {spare : Nat → Bool} {held : Bool} {fuel : Nat}
theorem elem_lit {e : TypeId} (he : litE P e = true) {cs : List Value} {x : DataW H × List MemPlace} (h : DataW.trod enc P w base spare held fuel e cs = some x) : ∃ v, cs = [v] ∧ ofLit x.1 = some v ∧ lit1 v = true := by
  unfold litE at he
  split at he
  · rename_i k hk
    obtain ⟨n, h1, h2, _⟩ := DataW.trod_int hk h
    subst h2
    exact ⟨_, h1, rfl, rfl⟩
  · rename_i hk
    obtain ⟨s, h1, h2, _⟩ := DataW.trod_string hk h
    subst h2
    exact ⟨_, h1, by cases s; simp [ofLit], rfl⟩
  · cases he
theorem arr_lits {t e : TypeId} {n : Nat} (ht : P.underlying t = some (.array n e)) (hm : P.cellsOf t = n) (hc : P.cellsOf e = 1) (he : litE P e = true) {cs : List Value} {ds : List (DataW H)} {ps : List MemPlace}
    (h : DataW.trod enc P w base spare held fuel t cs = some (.agg ds, ps)) : ds.map ofLit = cs.map some ∧ cs.all lit1 = true := by
  obtain ⟨xs, m, rfl, hx, hlen, hl, hf⟩ := DataW.trod_array ht h
  simp only [Prod.mk.injEq, DataW.agg.injEq] at hx
  obtain ⟨rfl, _⟩ := hx
  rw [hm] at hlen
  have key : ∀ i, i < n → ∃ v, cs[i]? = some v ∧ (xs[i]?).map (fun x => ofLit x.1) = some (some v) ∧ lit1 v = true := fun i hi => by
    have g := hf i hi
    rw [hc, Nat.mul_one, List.getElem?_eq_getElem (by omega)] at g
    obtain ⟨v, e1, e2, e3⟩ := elem_lit he g
    refine ⟨v, ?_, ?_, e3⟩
    · have : ((cs.drop i).take 1)[0]? = some v := by rw [e1]; rfl
      simpa [List.getElem?_take] using this
    · rw [List.getElem?_eq_getElem (by omega), Option.map_some, e2]
  constructor
  · apply List.ext_getElem?
    intro i
    by_cases hi : i < n
    · obtain ⟨v, h1, h2, _⟩ := key i hi
      simp only [List.getElem?_map, Option.map_map, h1, Option.map_some]
      exact h2
    · rw [List.getElem?_eq_none (by simp; omega), List.getElem?_eq_none (by simp; omega)]
  · rw [List.all_eq_true]
    intro v hv
    obtain ⟨i, hi, e⟩ := List.getElem_of_mem hv
    obtain ⟨v', h1, _, h3⟩ := key i (by omega)
    rw [List.getElem?_eq_getElem hi, e] at h1
    cases h1
    exact h3
end
theorem laidVars_at {P : Program} {W : World} : ∀ {L : List (String × DataW Unit)} {ps : List MemPlace}, DataW.LaidVars P W L ps → ∀ {i : Nat} {n : String} {d : DataW Unit}, L[i]? = some (n, d) →
    ∃ g t cs fuel p, P.globalNamed n = some g ∧ (P.globals[g]?).map (·.type) = some t ∧ W.var? P n = some cs ∧ DataW.trod (fun _ => ()) P W 0 (fun _ => true) false fuel t cs.toList = some (d, p)
  | [], _, _, i, n, d, hi => by simp at hi
  | (n', d') :: r, _, ⟨g, t, cs, fuel, p, q, h1, h2, h3, h4, h5, _⟩, 0, n, d, hi => by
    simp only [List.getElem?_cons_zero, Option.some.injEq, Prod.mk.injEq] at hi
    obtain ⟨rfl, rfl⟩ := hi
    exact ⟨g, t, cs, fuel, p, h1, h2, h3, h4⟩
  | _ :: r, _, ⟨_, _, _, _, _, _, _, _, _, _, h5, _⟩, i + 1, n, d, hi => laidVars_at h5 (by simpa using hi)
theorem san_lits (B : Nat) {l : List Value} (h : l.all lit1 = true) : l.map (san B) = l := by
  rw [List.map_congr_left (g := id) (fun v hv => ?_), List.map_id]
  rw [List.all_eq_true] at h
  have := h v hv
  cases v <;> simp_all [san, lit1]
theorem map_some_inj : ∀ {a b : List Value}, a.map some = b.map some → a = b
  | [], [], _ => rfl
  | [], _ :: _, h => by simp at h
  | _ :: _, [], h => by simp at h
  | x :: a, y :: b, h => by
    simp only [List.map_cons, List.cons.injEq, Option.some.injEq] at h
    rw [h.1, map_some_inj h.2]
theorem glob_at {P : Program} {W : World} {L : List (String × DataW Unit)} (h : laidMetH P L W) (hp : (L.all fun x => x.2.handleName?.isNone) = true) {i g m : Nat} {n : String} {t e : TypeId} {ds : List (DataW Unit)} {cs : List Value} (hi : L[i]? = some (n, .agg ds))
    (hg : P.globalNamed n = some g) (ht : (P.globals[g]?).map (·.type) = some t) (hu : P.underlying t = some (.array m e)) (hm : P.cellsOf t = m) (hc : P.cellsOf e = 1) (he : litE P e = true) (hd : ds.map ofLit = cs.map some) :
    g < W.heap.size ∧ (st0 W).objs g = some (.cells cs false) := by
  rw [MakeChecks.laidMetH_plain _ _ _ hp] at h
  obtain ⟨ps, hl, _⟩ := h
  obtain ⟨g', t', arr, fuel, p, h1, h2, h3, h4⟩ := laidVars_at hl hi
  obtain rfl := Option.some.inj (h1.symm.trans hg)
  obtain rfl := Option.some.inj (h2.symm.trans ht)
  obtain ⟨e1, e2⟩ := arr_lits hu hm hc he h4
  have e3 : arr.toList = cs := by
    have := e1.symm.trans hd
    exact map_some_inj this
  simp only [World.var?, hg, Option.bind_some] at h3
  cases hh : W.heap[g']? with
  | none => rw [hh] at h3; cases h3
  | some o =>
    rw [hh] at h3
    cases o with
    | cells a ty f =>
      simp only [Option.some.injEq] at h3
      subst h3
      refine ⟨(Array.getElem?_eq_some_iff.1 hh).1, ?_⟩
      rw [e3] at e2
      simp only [st0, hh, e3, san_lits _ e2]
    | _ => cases h3
/-- The variables that a run leans on stand in the heap. -/
def Glob (h : St) : Prop := GlobsIn (shaG ++ tabG) h ∧ ∀ p ∈ shaG ++ tabG, p.1 < h.next

/-! ### an event -/
theorem nc_of {B : Nat → Prop} {h : St} {v : Value} {n : Nat} {row : Nat → List Value} (s : SliceAt B h v n 1 row) (hn : n ≤ 1000) (h1 : ∀ i, i < n → allOne (row i) = true) : NC h v := by
  intro g c
  rcases s with ⟨rfl, rfl⟩ | ⟨b, off, sp, cc, rfl, _, hs⟩
  · exact ⟨[], 0, rfl, rfl, rfl, by omega⟩
  · cases n with
    | zero => exact ⟨[], 0, rfl, rfl, rfl, by omega⟩
    | succ n =>
      obtain ⟨_, g2, cs, own, g3, g4⟩ := hs (by omega)
      have q3 := c.at0 g2 g3
      have hlen : off + (n + 1) ≤ cs.length := by
        have := (takeN_some (g4 n (by omega))).1
        omega
      have ht : takeN cs off ((n + 1) * 1) = some ((cs.drop off).take (n + 1)) := by
        unfold takeN
        rw [Nat.mul_one, if_pos hlen]
      have hl : ((cs.drop off).take (n + 1)).length = n + 1 := by rw [List.length_take, List.length_drop]; omega
      refine ⟨(cs.drop off).take (n + 1), n + 1, ?_, hl, ?_, hn⟩
      · simp only [newCells, q3, ht, Option.map_some]
      · rw [← allOne_eq, List.all_eq_true]
        intro x hx
        obtain ⟨i, hi, e⟩ := List.getElem_of_mem hx
        have hi' : i < n + 1 := by omega
        have t1 := takeN_get (g4 i hi') (j := 0) (by omega)
        have r1 := h1 i hi'
        have e' : ((cs.drop off).take (n + 1))[i]? = some x := by rw [List.getElem?_eq_getElem hi, e]
        rw [List.getElem?_take, if_pos hi', List.getElem?_drop] at e'
        rw [Nat.mul_one, Nat.add_zero, e'] at t1
        cases hr : row i with
        | nil => rw [hr] at t1; simp at t1
        | cons y l =>
          rw [hr] at t1 r1
          simp at t1
          rw [t1]
          simp at r1
          exact r1.1
def CameF (W : World) (c : Array Value) : Prop :=
  ∃ (d id n kd : Int) (v : Value) (t : ByteArray) (u m : Int), c = ⟨evC d id n kd v t u⟩ ∧ one (san W.heap.size v) = true ∧ isUnk (san W.heap.size v) = false ∧ lenS (san W.heap.size v) = some (.int .i64 m) ∧ (m ≤ 12 → NC (st0 W) (san W.heap.size v))
theorem fields_came {H : Type} {enc : TypeId × Value → H} {W : World} {held : Bool} {fuel : Nat} {c : Array Value} {x : DataW H × List MemPlace} (h : DataW.trod enc Tryz.prog W 0 (fun _ => true) held fuel 27 c.toList = some x) : CameF W c := by
  obtain ⟨xs, n, _, _, hl, hlen, hf⟩ := DataW.trod_struct Tryz.underlying27 h
  have cl : Tryz.prog.cellsOf 27 = 7 := by kernel_rfl
  have c0 : Tryz.prog.cellsOf 5 = 1 := by kernel_rfl
  have c1 : Tryz.prog.cellsOf 22 = 1 := by kernel_rfl
  have c2 : Tryz.prog.cellsOf 23 = 1 := by kernel_rfl
  have c3 : Tryz.prog.cellsOf 3 = 1 := by kernel_rfl
  have c4 : Tryz.prog.cellsOf 24 = 1 := by kernel_rfl
  have c5 : Tryz.prog.cellsOf 9 = 1 := by kernel_rfl
  have c6 : Tryz.prog.cellsOf 25 = 1 := by kernel_rfl
  rw [cl] at hl
  have hlen : xs.length = 7 := hlen
  match c, hl, xs, hlen with
  | ⟨[v0, v1, v2, v3, v4, v5, v6]⟩, _, [y0, y1, y2, y3, y4, y5, y6], _ =>
    have g0 : DataW.trod enc Tryz.prog W 0 (fun _ => true) held n 5 [v0] = some y0 := by simpa [c0] using hf 0 _ rfl
    have g1 : DataW.trod enc Tryz.prog W 0 (fun _ => true) held n 22 [v1] = some y1 := by simpa [c1] using hf 1 _ rfl
    have g2 : DataW.trod enc Tryz.prog W 0 (fun _ => true) held n 23 [v2] = some y2 := by simpa [c2] using hf 2 _ rfl
    have g3 : DataW.trod enc Tryz.prog W 0 (fun _ => true) held n 3 [v3] = some y3 := by simpa [c3] using hf 3 _ rfl
    have g4 : DataW.trod enc Tryz.prog W 0 (fun _ => true) held n 24 [v4] = some y4 := by simpa [c4] using hf 4 _ rfl
    have g5 : DataW.trod enc Tryz.prog W 0 (fun _ => true) held n 9 [v5] = some y5 := by simpa [c5] using hf 5 _ rfl
    have g6 : DataW.trod enc Tryz.prog W 0 (fun _ => true) held n 25 [v6] = some y6 := by simpa [c6] using hf 6 _ rfl
    obtain ⟨d, e0, _, _⟩ := DataW.trod_int Tryz.underlying5 g0
    obtain ⟨id, e1, _, _⟩ := DataW.trod_int Tryz.underlying22 g1
    obtain ⟨nn, e2, _, _⟩ := DataW.trod_int Tryz.underlying23 g2
    obtain ⟨kd, e3, _, _⟩ := DataW.trod_int Tryz.underlying3 g3
    obtain ⟨t, e5, _, _⟩ := DataW.trod_string Tryz.underlying9 g5
    obtain ⟨u, e6, _, _⟩ := DataW.trod_int Tryz.underlying25 g6
    have e0 : v0 = .int .u8 d := by simpa using e0
    have e1 : v1 = .int .u32 id := by simpa using e1
    have e2 : v2 = .int .u64 nn := by simpa using e2
    have e3 : v3 = .int .i64 kd := by simpa using e3
    have e5 : v5 = .string t := by simpa using e5
    have e6 : v6 = .int .u16 u := by simpa using e6
    subst e0 e1 e2 e3 e5 e6
    obtain ⟨m, rows, _, s, hr⟩ := slice_san (c := 1) Tryz.underlying24 c2 (by omega) g4
    refine ⟨d, id, nn, kd, v4, t, u, m, rfl, s.one, s.isUnk, s.len, fun hm => nc_of s (by omega) fun i hi => ?_⟩
    obtain ⟨_, fu, y, hy⟩ := hr i hi
    obtain ⟨q, eq, _, _⟩ := DataW.trod_int Tryz.underlying23 hy
    rw [eq]
    rfl
/-- The law, of an event that came in. -/
theorem nil_calls {c : Array Value} {W : World} (hg : Tryz.prog.globals.size ≤ W.heap.size) (gl : Glob (st0 W)) (w : CameF W c) :
    Calls Tryz.prog 3 #[.agg c] W fun e w' => e = .returned (.bool true) ∧ Go.RowKit.Below W.heap.size W w' := by
  obtain ⟨d, id, n, kd, v, t, u, m, rfl, h1, h2, h3, h4⟩ := w
  refine Abs.law_calls hg Tryz.func3 (by kernel_rfl) (by kernel_rfl) nilLawO_good.1 (args := [evV d id n kd (san W.heap.size v) t u]) (.cons ?_ .nil) ⟨d, id, n, kd, _, t, u, m, rfl, h1, h2, h3, h4, gl.1, gl.2, fun _ => rfl⟩
  refine .agg _ _ rfl fun i a b => ?_
  have a : i < 7 := a
  match i, a with
  | 0, _ => exact .lit _ rfl
  | 1, _ => exact .lit _ rfl
  | 2, _ => exact .lit _ rfl
  | 3, _ => exact .lit _ rfl
  | 4, _ => exact san_rel _ _
  | 5, _ => exact .lit _ rfl
  | 6, _ => exact .lit _ rfl
end Go.Proofs.YtfghmaheokgceaaGreatDoor
end
