/- Friends: an act on both, what is alike, what the example says. -/
import Derived.Test.YtnndflbpcemecaaFrJ
import Derived.Test.YtnndflbpcemecaaGenW
set_option linter.unusedSimpArgs false
set_option linter.unusedVariables false
set_option maxHeartbeats 4000000
namespace Go.Proofs.Ytnndflbpcemecaa
open Go.Abs Go.IntWalk
attribute [local congr] bindV_weak condK_weak guardK_weak groupK_weak allocE_weak boxE_weak storeE_weak storeM_weak tabC_weak ite_weak idG_weak appendE_weak buildSliceE_weak mapUpdateE_weak deleteE_weak makeMapE_weak copyE_weak clearE_weak callE_weak mapEntryE_weak entryStoreE_weak rangeE_weak nextE_weak

abbrev OutD (D : Nat → Prop) (h : St) : Nat → Prop := fun i => D i ∨ h.next ≤ i
theorem out_to {D : Nat → Prop} {h h' : St} (c : ChgP (OutD D h) h h') {E : Nat → Prop} {lv : Value} {R : List Rw} (s : DtS E h lv R) (dj : ∀ i, E i → ¬ D i) : DtS E h' lv R := by
  have := (OwnS.imp s fun j hj he => (⟨he, hj⟩ : E j ∧ j < h.next)).chgP c fun j hj he => by
    rcases hj with hj | hj
    · exact dj j he.1 hj
    · omega
  exact this.imp fun _ _ h => h.1
theorem out_gr {D : Nat → Prop} {h h' : St} (c : Chg h h' []) {v : Value} {N : Nat} {F : Fn} (s : GrS D h v N F) : GrS D h' v N F := s.chg0 c
/-! ### an act -/
def actV (t a b : Nat) : Value := .agg #[.int .u8 (t : Int), .int .u32 (a : Int), .int .u32 (b : Int)]
def sameA (x y : Bool × Nat) : Bool := decide (x.2 = y.2) && (x.1 == y.1)
def doO : Abs.Spec := fun args h k => ∃ (D E : Nat → Prop) (v lv : Value) (N : Nat) (F : Fn) (R : List Rw) (t a b : Nat), args = [v, lv, actV t a b] ∧ N ≤ 255 ∧ R.length ≤ 900 ∧ RidR R ∧ (∀ i, D i → i < h.next) ∧ (∀ i, E i → ¬ D i) ∧ GrS D h v N F ∧ DtS E h lv R ∧
  ∀ h' lv', ChgP (OutD D h) h h' → GrS D h' v (N + 2) (stF t F a b).1 → DtS (fun i => E i ∨ h.next ≤ i) h' lv' (stR t R a b).1 → k (.tuple #[lv', .bool (sameA (stF t F a b).2 (stR t R a b).2)]) h'
theorem eqB (a b : Bool) : binV .eql .bool (.bool a) (.bool b) = some (.bool (a == b)) := by cases a <;> cases b <;> rfl
def tabDo : List (FuncId × Abs.Spec) := [(18, act2O fAsk), (20, actO fAccept), (21, actO fRefuse), (16, actO fRemove), (19, act2O fBlock), (22, actO fUnblock),
  (23, dact2O dAskF), (24, dactO dAcceptF), (25, dactO dRefuseF), (15, dactO dRemoveF), (26, dact2O dBlockF), (27, dactO dUnblockF)]
theorem tabDo_good : ∀ p ∈ tabDo, SpecGood Try.prog p := by
  simp [tabDo, askO_good, acceptO_good, refuseO_good, removeO_good, blockO_good, unblockO_good, daskO_good, dacceptO_good, drefuseO_good, dremoveO_good, dblockO_good, dunblockO_good]
theorem do_j0 {nn : Nat} {x6 x7 lv' : Value} {e n : Nat} {x y : Bool} {h : St} {k : Cont} (H : k (.tuple #[lv', .bool (sameA (x, e) (y, n))]) h) :
    w_do_j0 (tabC tabDo) idG nn lv' x6 x7 (.int .i64 (e : Int)) (.int .i64 (n : Int)) (.bool x) (.bool y) h (fun v h1 => ∃ h2, St.le h2 h1 ∧ k v h2) := by
  rw [w_do_j0_eq]
  unfold sameA at H
  simp only [eqN, bindV_some]
  cases c : decide (e = n) with
  | false =>
    rw [c, Bool.false_and] at H
    simp only [groupK_eq, guardK_bool, Bool.false_eq_true, if_false, idG_eq, pickV_bool, bindV_some]
    exact ⟨h, St.le.refl _, H⟩
  | true =>
    rw [c, Bool.true_and] at H
    simp only [groupK_eq, guardK_bool, if_true, eqB, bindV_some, idG_eq, pickV_bool, getT]
    exact ⟨h, St.le.refl _, H⟩
theorem doO_good : SpecGood Try.prog (8, doO) := by
  refine spec_good mixed Try.func8 (by kernel_rfl) (by kernel_rfl) (tab := tabDo) tabDo_good (keep := w_do_keep) ?_
  rintro args h k ⟨D, E, v, lv, N, F, R, t, a, b, rfl, hN, few, rr, db, dj, s, d, H⟩
  refine ⟨0, ?_⟩
  show w_do (tabC _) idG 0 v lv (actV t a b) h _
  rw [w_do_eq]
  refine boxE_in rfl fun h1 c1 n1 o1 => ?_
  have o1 : h1.objs h.next = some (.cells [.int .u8 (t : Int), .int .u32 (a : Int), .int .u32 (b : Int)] true) := o1
  have l0 : ∀ h', h'.objs h.next = some (.cells [.int .u8 (t : Int), .int .u32 (a : Int), .int .u32 (b : Int)] true) → loadV false 1 (.pointer (some ⟨h.next, 0, none⟩)) h' = some (.int .u8 (t : Int)) ∧ loadV false 1 (.pointer (some ⟨h.next, 1, none⟩)) h' = some (.int .u32 (a : Int)) ∧ loadV false 1 (.pointer (some ⟨h.next, 2, none⟩)) h' = some (.int .u32 (b : Int)) := fun h' o =>
    ⟨by simp only [loadV_ptr, o, loadM_cells, partV_one, List.getElem?_cons_zero], by simp only [loadV_ptr, o, loadM_cells, partV_one, List.getElem?_cons_zero, List.getElem?_cons_succ], by simp only [loadV_ptr, o, loadM_cells, partV_one, List.getElem?_cons_zero, List.getElem?_cons_succ]⟩
  obtain ⟨f0, f1, f2⟩ := l0 h1 o1
  have s1 := s.chg0 c1
  -- the heap behind the graph's answer
  have up : ∀ h2, ChgP (OutD D h1) h1 h2 → h2.objs h.next = some (.cells [.int .u8 (t : Int), .int .u32 (a : Int), .int .u32 (b : Int)] true) ∧ ChgP (OutD D h) h h2 ∧ DtS E h2 lv R := fun h2 c2 => by
    have cc : ChgP (OutD D h) h h2 := ChgP.out (c1.nil _) c2
    refine ⟨c2.at (by omega) (fun hh => ?_) o1, cc, out_to cc d dj⟩
    rcases hh with hh | hh
    · have := db _ hh; omega
    · omega
  have fin : ∀ (h2 h3 : St) (lv' : Value) (x y : Bool × Nat) (R' : List Rw) (F' : Fn), ChgP (OutD D h) h h2 → Chg h2 h3 [] → GrS D h2 v (N + 2) F' → DtS (fun i => E i ∨ h2.next ≤ i) h3 lv' R' → stF t F a b = (F', x) → stR t R a b = (R', y) → k (.tuple #[lv', .bool (sameA x y)]) h3 := fun h2 h3 lv' x y R' F' c2 c3 g2 d3 e1 e2 => by
    have := H h3 lv' (c2.of_chg c3 (by simp)) (by rw [e1]; exact g2.chg0 c3) (by rw [e2]; exact d3.imp fun j _ hj => hj.imp id fun hj => by have := c2.1; omega)
    rw [e1, e2] at this
    exact this
  have q : ∀ c : Nat, binNil .eql .other (.int .u8 (t : Int)) (.int .u8 (c : Int)) = some (.bool (decide (t = c))) := fun c => eqN .u8 t c
  have q0 : binNil .eql .other (.int .u8 (t : Int)) (.int .u8 0) = some (.bool (decide (t = 0))) := q 0
  have q1 : binNil .eql .other (.int .u8 (t : Int)) (.int .u8 1) = some (.bool (decide (t = 1))) := q 1
  have q2 : binNil .eql .other (.int .u8 (t : Int)) (.int .u8 2) = some (.bool (decide (t = 2))) := q 2
  have q3 : binNil .eql .other (.int .u8 (t : Int)) (.int .u8 3) = some (.bool (decide (t = 3))) := q 3
  have q4 : binNil .eql .other (.int .u8 (t : Int)) (.int .u8 4) = some (.bool (decide (t = 4))) := q 4
  have q5 : binNil .eql .other (.int .u8 (t : Int)) (.int .u8 5) = some (.bool (decide (t = 5))) := q 5
  have z : (0 : Int) = ((0 : Nat) : Int) := rfl
  simp only [offV_ptr, bindV_some, Nat.zero_add, f0, q0, condK_bool]
  by_cases t0 : t = 0
  · subst t0
    simp only [decide_true, if_true, offV_ptr, bindV_some, Nat.zero_add, f1, f2]
    refine cK (S := act2O fAsk) (by simp [tabDo]) ⟨D, v, N, F, a, b, rfl, hN, s1, fun h2 c2 g2 => ?_⟩
    obtain ⟨o2, cc, d2⟩ := up h2 c2
    obtain ⟨_, e1, e2⟩ := l0 h2 o2
    simp only [extV_two0, extV_two1, bindV_some, offV_ptr, Nat.zero_add, e1, e2]
    refine cK (S := dact2O dAskF) (by simp [tabDo]) ⟨E, lv, R, a, b, rfl, few, rr, d2, fun h3 lv3 c3 d3 => ?_⟩
    simp only [extV_three0, extV_three1, extV_three2, bindV_some, idG_eq]
    exact do_j0 (fin h2 h3 lv3 _ _ _ _ cc c3 g2 d3 rfl rfl)
  simp only [decide_eq_false t0, Bool.false_eq_true, if_false, q1, bindV_some, condK_bool]
  by_cases t1 : t = 1
  · subst t1
    simp only [decide_true, if_true, offV_ptr, bindV_some, Nat.zero_add, f1, f2]
    refine cK (S := actO fAccept) (by simp [tabDo]) ⟨D, v, N, F, a, b, rfl, s1, fun h2 c2 g2 => ?_⟩
    obtain ⟨o2, cc, d2⟩ := up h2 c2
    obtain ⟨_, e1, e2⟩ := l0 h2 o2
    simp only [bindV_some, offV_ptr, Nat.zero_add, e1, e2]
    refine cK (S := dactO dAcceptF) (by simp [tabDo]) ⟨E, lv, R, a, b, rfl, few, rr, d2, fun h3 lv3 c3 d3 => ?_⟩
    simp only [extV_two0, extV_two1, bindV_some, idG_eq]
    exact do_j0 (fin h2 h3 lv3 _ _ _ _ cc c3 g2 d3 rfl rfl)
  simp only [decide_eq_false t1, Bool.false_eq_true, if_false, q2, bindV_some, condK_bool]
  by_cases t2 : t = 2
  · subst t2
    simp only [decide_true, if_true, offV_ptr, bindV_some, Nat.zero_add, f1, f2]
    refine cK (S := actO fRefuse) (by simp [tabDo]) ⟨D, v, N, F, a, b, rfl, s1, fun h2 c2 g2 => ?_⟩
    obtain ⟨o2, cc, d2⟩ := up h2 c2
    obtain ⟨_, e1, e2⟩ := l0 h2 o2
    simp only [bindV_some, offV_ptr, Nat.zero_add, e1, e2]
    refine cK (S := dactO dRefuseF) (by simp [tabDo]) ⟨E, lv, R, a, b, rfl, few, rr, d2, fun h3 lv3 c3 d3 => ?_⟩
    simp only [extV_two0, extV_two1, bindV_some, idG_eq]
    exact do_j0 (fin h2 h3 lv3 _ _ _ _ cc c3 g2 d3 rfl rfl)
  simp only [decide_eq_false t2, Bool.false_eq_true, if_false, q3, bindV_some, condK_bool]
  by_cases t3 : t = 3
  · subst t3
    simp only [decide_true, if_true, offV_ptr, bindV_some, Nat.zero_add, f1, f2]
    refine cK (S := actO fRemove) (by simp [tabDo]) ⟨D, v, N, F, a, b, rfl, s1, fun h2 c2 g2 => ?_⟩
    obtain ⟨o2, cc, d2⟩ := up h2 c2
    obtain ⟨_, e1, e2⟩ := l0 h2 o2
    simp only [bindV_some, offV_ptr, Nat.zero_add, e1, e2]
    refine cK (S := dactO dRemoveF) (by simp [tabDo]) ⟨E, lv, R, a, b, rfl, few, rr, d2, fun h3 lv3 c3 d3 => ?_⟩
    simp only [extV_two0, extV_two1, bindV_some, idG_eq]
    exact do_j0 (fin h2 h3 lv3 _ _ _ _ cc c3 g2 d3 rfl rfl)
  simp only [decide_eq_false t3, Bool.false_eq_true, if_false, q4, bindV_some, condK_bool]
  by_cases t4 : t = 4
  · subst t4
    simp only [decide_true, if_true, offV_ptr, bindV_some, Nat.zero_add, f1, f2]
    refine cK (S := act2O fBlock) (by simp [tabDo]) ⟨D, v, N, F, a, b, rfl, hN, s1, fun h2 c2 g2 => ?_⟩
    obtain ⟨o2, cc, d2⟩ := up h2 c2
    obtain ⟨_, e1, e2⟩ := l0 h2 o2
    simp only [extV_two0, extV_two1, bindV_some, offV_ptr, Nat.zero_add, e1, e2]
    refine cK (S := dact2O dBlockF) (by simp [tabDo]) ⟨E, lv, R, a, b, rfl, few, rr, d2, fun h3 lv3 c3 d3 => ?_⟩
    simp only [extV_three0, extV_three1, extV_three2, bindV_some, idG_eq]
    exact do_j0 (fin h2 h3 lv3 _ _ _ _ cc c3 g2 d3 rfl rfl)
  simp only [decide_eq_false t4, Bool.false_eq_true, if_false, q5, bindV_some, condK_bool]
  by_cases t5 : t = 5
  · subst t5
    simp only [decide_true, if_true, offV_ptr, bindV_some, Nat.zero_add, f1, f2]
    refine cK (S := actO fUnblock) (by simp [tabDo]) ⟨D, v, N, F, a, b, rfl, s1, fun h2 c2 g2 => ?_⟩
    obtain ⟨o2, cc, d2⟩ := up h2 c2
    obtain ⟨_, e1, e2⟩ := l0 h2 o2
    simp only [bindV_some, offV_ptr, Nat.zero_add, e1, e2]
    refine cK (S := dactO dUnblockF) (by simp [tabDo]) ⟨E, lv, R, a, b, rfl, few, rr, d2, fun h3 lv3 c3 d3 => ?_⟩
    simp only [extV_two0, extV_two1, bindV_some, idG_eq]
    exact do_j0 (fin h2 h3 lv3 _ _ _ _ cc c3 g2 d3 rfl rfl)
  simp only [decide_eq_false t5, Bool.false_eq_true, if_false, idG_eq]
  have e1 : stF t F a b = (F, false, 0) := by
    obtain ⟨n, rfl⟩ : ∃ n, t = n + 6 := ⟨t - 6, by omega⟩
    rfl
  have e2 : stR t R a b = (R, false, 0) := by
    obtain ⟨n, rfl⟩ : ∃ n, t = n + 6 := ⟨t - 6, by omega⟩
    rfl
  exact do_j0 (e := 0) (n := 0) (fin h1 h1 lv _ _ _ _ (c1.nil _) (Chg.refl _ _) (s1.more (by omega)) ((d.chg0 c1).imp fun _ _ h => .inl h) e1 e2)
/-! ### alike -/
theorem same_q {D E : Nat → Prop} {h : St} {v w : Value} {L : List Nat} {k : Cont} (few : L.length ≤ 1000000) (s : OwnQ D h v L) (t : OwnQ E h w L) (H : k (.bool true) h) : sameO [v, w] h k := by
  have e1 : L.map idq = (L.map fun n : Nat => (n : Int)).map (Value.int .u32) := by rw [List.map_map]; rfl
  have e2 : (L.map fun n : Nat => (n : Int)).length = L.length := List.length_map ..
  refine ⟨D, E, v, w, L.map fun n : Nat => (n : Int), L.map fun n : Nat => (n : Int), rfl, by rw [e2]; exact few, by rw [e2, ← e1]; exact s, by rw [e2, ← e1]; exact t, ?_⟩
  rw [decide_eq_true rfl]; exact H
def likeO : Abs.Spec := fun args h k => ∃ (D E : Nat → Prop) (v lv : Value) (N : Nat) (F : Fn) (R : List Rw) (a : Nat), args = [v, lv, .int .u32 (a : Int)] ∧ N ≤ 255 ∧ R.length ≤ 900 ∧ RidR R ∧ Rel F R ∧ GrV D h v N F ∧ DtS E h lv R ∧ ∀ h', Chg h h' [] → k (.bool true) h'
def tabLi : List (FuncId × Abs.Spec) := [(13, flinksO), (28, dfrO), (29, dtoO), (30, dbyO), (17, sameO)]
theorem tabLi_good : ∀ p ∈ tabLi, SpecGood Try.prog p := by simp [tabLi, flinksO_good, dfrO_good, dtoO_good, dbyO_good, sameO_good]
theorem likeO_good : SpecGood Try.prog (9, likeO) := by
  refine spec_good mixed Try.func9 (by kernel_rfl) (by kernel_rfl) (tab := tabLi) tabLi_good (keep := w_like_keep) ?_
  rintro args h k ⟨D, E, v, lv, N, F, R, a, rfl, hN, few, rr, rel, s, d, H⟩
  refine ⟨0, ?_⟩
  show w_like (tabC _) idG 0 v lv (.int .u32 (a : Int)) h _
  rw [w_like_eq]
  refine cK (S := flinksO) (by simp [tabLi]) ⟨D, v, N, F, a, rfl, hN, s, fun h1 s1 s2 s3 s4 c1 ⟨n1, nn, q1, q2, q3, q4, l1, l2, l3, l4⟩ => ?_⟩
  have z1 := q1.one
  have z2 := q2.one
  have z3 := q3.one
  have z4 := q4.one
  refine allocE_in fun h2 c2 n2 o2 => ?_
  refine storeE_all o2 rfl rfl (by show allOne [s1, s2, s3, s4] = true; simp [allOne, z1, z2, z3, z4]) fun h3 c3 n3 o3 => ?_
  have o3 : h3.objs h1.next = some (.cells [s1, s2, s3, s4] true) := o3
  have c13 : Chg h1 h3 [] := c2.new c3 (Nat.le_refl _)
  have c03 := c1.seq c13
  have bx : ∀ h', Chg h3 h' [] → loadV false 1 (.pointer (some ⟨h1.next, 0, none⟩)) h' = some s1 ∧ loadV false 1 (.pointer (some ⟨h1.next, 1, none⟩)) h' = some s2 ∧ loadV false 1 (.pointer (some ⟨h1.next, 2, none⟩)) h' = some s3 ∧ loadV false 1 (.pointer (some ⟨h1.next, 3, none⟩)) h' = some s4 := fun h' c => by
    have o := c.at0 (by omega) o3
    refine ⟨?_, ?_, ?_, ?_⟩ <;> simp only [loadV_ptr, o, loadM_cells, partV_one, List.getElem?_cons_zero, List.getElem?_cons_succ]
  rw [rel.t2] at q1 l1
  rw [rel.t1] at q2 l2
  rw [rel.tb] at q3 l3
  rw [rel.t4] at q4 l4
  simp only [offV_ptr, bindV_some, Nat.zero_add, (bx h3 (Chg.refl _ _)).1]
  refine ⟨trivial, ?_⟩
  refine cK (S := dfrO) (by simp [tabLi]) ⟨E, lv, R, a, rfl, by omega, rr, d.chg0 c03, fun h4 t1 c4 p1 => ⟨⟨(bx h4 c4).1, trivial⟩, ?_⟩⟩
  refine cK (S := sameO) (by simp [tabLi]) (same_q (by omega) (q1.chg (c13.seq c4) (by simp)) p1 ⟨⟨trivial, trivial⟩, ?_⟩)
  simp only [groupK_eq, guardK_bool, if_true, offV_ptr, bindV_some, Nat.zero_add, (bx h4 c4).2.1]
  refine ⟨⟨trivial, trivial, trivial⟩, ?_⟩
  refine cK (S := dtoO) (by simp [tabLi]) ⟨E, lv, R, 1, a, rfl, by omega, rr, d.chg0 (c03.seq c4), fun h5 t2 c5 p2 => ⟨⟨(bx h5 (c4.seq c5)).2.1, trivial, trivial⟩, ?_⟩⟩
  have c45 := c4.seq c5
  refine cK (S := sameO) (by simp [tabLi]) (same_q (by omega) (q2.chg (c13.seq c45) (by simp)) p2 ⟨⟨trivial, trivial, trivial⟩, ?_⟩)
  simp only [idG_eq, pickV_bool, if_true, getT, groupK_eq, guardK_bool, offV_ptr, bindV_some, Nat.zero_add, (bx h5 c45).2.2.1]
  refine ⟨⟨trivial, trivial, trivial, trivial, trivial⟩, ?_⟩
  refine cK (S := dbyO) (by simp [tabLi]) ⟨E, lv, R, a, rfl, by omega, rr, d.chg0 (c03.seq c45), fun h6 t3 c6 p3 => ⟨⟨(bx h6 (c45.seq c6)).2.2.1, trivial, trivial, trivial⟩, ?_⟩⟩
  have c46 := c45.seq c6
  refine cK (S := sameO) (by simp [tabLi]) (same_q (by omega) (q3.chg (c13.seq c46) (by simp)) p3 ⟨⟨trivial, trivial, trivial, trivial⟩, ?_⟩)
  simp only [idG_eq, pickV_bool, if_true, getT, groupK_eq, guardK_bool, offV_ptr, bindV_some, Nat.zero_add, (bx h6 c46).2.2.2]
  refine ⟨⟨trivial, trivial, trivial, trivial, trivial, trivial, trivial⟩, ?_⟩
  refine cK (S := dtoO) (by simp [tabLi]) ⟨E, lv, R, 3, a, rfl, by omega, rr, d.chg0 (c03.seq c46), fun h7 t4 c7 p4 => ⟨⟨(bx h7 (c46.seq c7)).2.2.2, trivial, trivial, trivial, trivial⟩, ?_⟩⟩
  have c47 := c46.seq c7
  refine cK (S := sameO) (by simp [tabLi]) (same_q (by omega) (OwnS.chg q4 (c13.seq c47) (by simp)) p4 ⟨⟨trivial, trivial, trivial, trivial, trivial⟩, ?_⟩)
  simp only [idG_eq, pickV_bool, if_true, getT, bindV_some]
  exact ⟨h7, St.le.refl _, H h7 (c03.seq c47)⟩
/-! ### what the example says -/
noncomputable def aw0 : Fn := fun _ _ => 0
noncomputable def aw1 : Fn := updF aw0 1 2 1
noncomputable def aw2 : Fn := befF aw1 2 1
noncomputable def aw3 : Fn := updF (endF2 aw2 1 2 3) 1 2 (endF2 aw2 1 2 3 1 2 ||| 4)
theorem aw_1 : fAsk aw0 1 2 = (aw1, false, 0) := by
  have c0 : ∀ a, cnt aw0 a ≤ 16 := fun a => inv0.few a
  have e : ∀ w a, tos aw0 w a = [] := fun w a => by unfold tos; rw [show (fun y : Nat => bit (aw0 a y) w) = fun _ => false from funext fun _ => bit_zero w]; exact ups_none
  have e2 : ∀ a, bys aw0 a = [] := fun a => by unfold bys; rw [show (fun y : Nat => bit (aw0 y a) 1) = fun _ => false from funext fun _ => bit_zero 1]; exact ups_none
  have c : ∀ a, cnt aw0 a = 0 := fun a => by unfold cnt; rw [e, e, e2]; rfl
  unfold fAsk
  rw [if_neg (by decide), if_neg (by decide), if_neg (by decide), if_neg (by decide), c, c, if_neg (by decide)]
  rfl
theorem aw_2 : fAsk aw1 2 1 = (aw2, true, 0) := by
  unfold fAsk
  rw [if_neg (by decide), if_neg (by decide), if_neg (by decide), if_pos (by decide)]
  rfl
theorem aw_3 : fBlock aw2 1 2 = (aw3, true, 0) := by
  have e : tos aw2 4 1 = [] := by
    unfold tos
    rw [show (fun y : Nat => bit (aw2 1 y) 4) = fun _ => false from funext fun y => ?_]
    · exact ups_none
    · unfold aw2
      rw [bef_up (by decide)]
      unfold up2
      by_cases h : y = 2
      · subst h; decide
      · rw [if_neg (by omega), if_neg (by omega)]
        unfold aw1 updF
        rw [if_neg (by omega)]; exact bit_zero 4
  unfold fBlock
  rw [if_neg (by decide), if_neg (by decide), e, if_neg (by decide)]
  rfl
theorem aw_4 : fAsk aw3 2 1 = (aw3, false, 17) := by
  unfold fAsk
  rw [if_neg (by decide), if_pos (by decide)]
theorem aw_5 : bit (aw3 1 2) 2 = false := by decide
def awakeO : Abs.Spec := fun args h k => args = [] ∧ ∀ h', Chg h h' [] → k (.bool true) h'
def tabAw : List (FuncId × Abs.Spec) := [(7, fnewO), (18, act2O fAsk), (19, act2O fBlock), (10, areO)]
theorem tabAw_good : ∀ p ∈ tabAw, SpecGood Try.prog p := by simp [tabAw, fnewO_good, askO_good, blockO_good, areO_good]
theorem awakeO_good : SpecGood Try.prog (12, awakeO) := by
  refine spec_good mixed Try.func12 (by kernel_rfl) (by kernel_rfl) (tab := tabAw) tabAw_good (keep := w_awake_keep) ?_
  rintro args h k ⟨rfl, H⟩
  refine ⟨0, ?_⟩
  show w_awake (tabC _) idG 0 h _
  rw [w_awake_eq]
  refine cK (S := fnewO) (by simp [tabAw]) ⟨rfl, fun h1 v c1 gv s1 => ?_⟩
  have s1 : GrS (fun i => h.next ≤ i) h1 v 0 aw0 := s1
  have up : ∀ {h2 h3 : St}, Chg h h2 [] → ChgP (OutD (fun i => h.next ≤ i) h2) h2 h3 → Chg h h3 [] := fun c d =>
    ((c.nil (fun i => h.next ≤ i)).step (d.mono fun i _ hi => by have := c.1; omega)).list fun j h1 h2 => by omega
  refine cK (S := act2O fAsk) (by simp [tabAw]) ⟨_, v, 0, aw0, 1, 2, rfl, by omega, s1, fun h2 c2 s2 => ?_⟩
  rw [aw_1] at s2 ⊢
  have d2 := up c1 c2
  simp only [extV_two0, extV_two1, bindV_some]
  refine cK (S := act2O fAsk) (by simp [tabAw]) ⟨_, v, 2, aw1, 2, 1, rfl, by omega, s2, fun h3 c3 s3 => ?_⟩
  rw [aw_2] at s3 ⊢
  have d3 := up d2 c3
  simp only [extV_two0, extV_two1, bindV_some]
  refine cK (S := act2O fBlock) (by simp [tabAw]) ⟨_, v, 4, aw2, 1, 2, rfl, by omega, s3, fun h4 c4 s4 => ?_⟩
  rw [aw_3] at s4 ⊢
  have d4 := up d3 c4
  simp only [extV_two0, extV_two1, bindV_some]
  refine cK (S := act2O fAsk) (by simp [tabAw]) ⟨_, v, 6, aw3, 2, 1, rfl, by omega, s4, fun h5 c5 s5 => ?_⟩
  rw [aw_4] at s5 ⊢
  have d5 := up d4 c5
  have z0 : binNil .eql .other (.int .i64 ((0 : Nat) : Int)) (.int .i64 0) = some (.bool true) := rfl
  have z17 : binNil .eql .other (.int .i64 ((17 : Nat) : Int)) (.int .i64 17) = some (.bool true) := rfl
  simp only [extV_two0, extV_two1, bindV_some, unV_not, Bool.not_false, groupK_eq, guardK_bool, if_true, z0, z17, idG_eq, getT, pickV_bool]
  refine cK (S := areO) (by simp [tabAw]) ⟨_, v, 8, aw3, 1, 2, rfl, .inl s5, ?_⟩
  rw [aw_5]
  simp only [unV_not, Bool.not_false, bindV_some, getT, pickV_bool, if_true]
  exact ⟨h5, St.le.refl _, H h5 d5⟩
end Go.Proofs.Ytnndflbpcemecaa
