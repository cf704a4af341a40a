/- Friends: 'FriendRuns', walked. -/
import Derived.Test.YtnndflbpcemecaaFrK
set_option linter.unusedSimpArgs false
set_option linter.unusedVariables false
set_option maxHeartbeats 4000000
namespace Go.Proofs.Ytnndflbpcemecaa
open Go.Abs Go.IntWalk
attribute [local congr] bindV_weak condK_weak guardK_weak groupK_weak allocE_weak boxE_weak storeE_weak storeM_weak tabC_weak ite_weak idG_weak appendE_weak buildSliceE_weak mapUpdateE_weak deleteE_weak makeMapE_weak copyE_weak clearE_weak callE_weak mapEntryE_weak entryStoreE_weak rangeE_weak nextE_weak

abbrev FAct := Nat × Nat × Nat
def cellsF (x : FAct) : List Value := [.int .u8 (x.1 : Int), .int .u32 (x.2.1 : Int), .int .u32 (x.2.2 : Int)]
def rowF (l : List FAct) (i : Nat) : List Value := cellsF (l[i]?.getD (0, 0, 0))
def Acts (h : St) (v : Value) (l : List FAct) : Prop := SliceAt (· < h.next) h v l.length 3 (rowF l)
theorem act_at {h0 : St} {v : Value} {l : List FAct} (s : Acts h0 v l) {i : Nat} (hi : i < l.length) :
    ∃ p, idxS 3 v (.int .i64 (i : Int)) = some p ∧ ∀ h, Chg h0 h [] → loadV true 3 p h = some (actV l[i].1 l[i].2.1 l[i].2.2) := by
  obtain ⟨b, o, g1, g2, g3, cs, own, g4, g5⟩ := s.idx (i := (i : Int)) (by omega) (by omega) .i64
  refine ⟨_, g1, fun h c => ?_⟩
  have e : rowF l (i : Int).toNat = cellsF l[i] := by simp [rowF, hi]
  rw [e] at g5
  simp only [loadV_ptr, c.at0 g3 g4, loadM_cells, partV_agg, g5, Option.map_some]
  rfl
/-- The graph and the rows, behind so many acts. -/
structure Sta (n0 n1 : Nat) (h : St) (v lv : Value) (i : Nat) (F : Fn) (R : List Rw) : Prop where
  g : GrS (fun j => n0 ≤ j ∧ j < n1) h v (2 * i) F
  d : DtS (fun j => n1 ≤ j) h lv R
  l : R.length ≤ i
  n : n1 ≤ h.next
  m : n0 ≤ n1
  inv : Inv F
  rel : Rel F R
  rr : RidR R
theorem Sta.chg0 {n0 n1 : Nat} {h h' : St} {v lv : Value} {i : Nat} {F : Fn} {R : List Rw} (s : Sta n0 n1 h v lv i F R) (c : Chg h h' []) : Sta n0 n1 h' v lv i F R :=
  ⟨s.g.chg0 c, s.d.chg0 c, s.l, Nat.le_trans s.n c.1, s.m, s.inv, s.rel, s.rr⟩
theorem same_self (x : Bool × Nat) : sameA x x = true := by simp [sameA]
theorem do_step {T : List (FuncId × Abs.Spec)} (hm : (8, doO) ∈ T) {n0 n1 : Nat} {h : St} {v lv : Value} {i : Nat} {F : Fn} {R : List Rw} {t a b : Nat} (s : Sta n0 n1 h v lv i F R) (few : i ≤ 125) {k : Cont}
    (H : ∀ h' lv' F' R', ChgP (fun j => n0 ≤ j) h h' → Sta n0 n1 h' v lv' (i + 1) F' R' → k (.tuple #[lv', .bool true]) h') : tabC T 8 [v, lv, actV t a b] h k := by
  have sn := s.n
  have sl := s.l
  have sm := s.m
  refine cK hm ⟨fun j => n0 ≤ j ∧ j < n1, fun j => n1 ≤ j, v, lv, 2 * i, F, R, t, a, b, rfl, by omega, by omega, s.rr, fun j hj => by omega, fun j h1 h2 => by omega, s.g, s.d, fun h' lv' c g d => ?_⟩
  obtain ⟨o1, o2, o3, o4⟩ := st_ok s.inv s.g.ok s.rel s.rr t a b
  have m := c.1
  rw [o3, same_self]
  exact H h' lv' _ _ (c.mono fun j _ hj => by rcases hj with hj | hj <;> omega) ⟨g, d.imp fun j _ hj => by rcases hj with hj | hj <;> omega, by omega, by omega, sm, inv_st s.inv s.g.ok t a b, o1, o2⟩
theorem sta_new {h0 h1 : St} {v : Value} (c : Chg h0 h1 []) (s : GrS (fun i => h0.next ≤ i) h1 v 0 fun _ _ => 0) : Sta h0.next h1.next h1 v (.slice none 0 0) 0 (fun _ _ => 0) [] :=
  ⟨s.imp fun i h1 h2 => ⟨h2, h1⟩, .inl ⟨rfl, rfl, rfl⟩, Nat.le_refl _, Nat.le_refl _, c.1, inv0, rel0, fun r hr => by cases hr⟩
theorem GrS.inl {D : Nat → Prop} {h : St} {v : Value} {N : Nat} {F : Fn} (s : GrS D h v N F) : GrV D h v N F := .inl s
def tabRu : List (FuncId × Abs.Spec) := [(7, fnewO), (8, doO), (9, likeO), (10, areO), (11, dareO), (12, awakeO)]
theorem tabRu_good : ∀ p ∈ tabRu, SpecGood Try.prog p := by simp [tabRu, fnewO_good, doO_good, likeO_good, areO_good, dareO_good, awakeO_good]
theorem neB (a : Bool) : binV .neq .bool (.bool a) (.bool a) = some (.bool false) := by cases a <;> rfl
theorem runs_l0 {nn n1 : Nat} {vs x2 v : Value} {l : List FAct} {h0 : St} {k : Cont} (few : l.length ≤ 120) (s : Acts h0 vs l) (H : ∀ h', k (.bool true) h') :
    ∀ (d i m0 : Nat) (h : St) (lv x7 : Value) (F : Fn) (R : List Rw), i + d = l.length → d < m0 → Chg h0 h [] → Sta h0.next n1 h v lv i F R →
      w_Runs_l0 (tabC tabRu) idG nn m0 vs x2 v lv (.int .i64 (i : Int)) x7 h (fun v h1 => ∃ h2, St.le h2 h1 ∧ k v h2) := by
  intro d
  induction d with
  | zero =>
    intro i m0 h lv x7 F R hi hm c st
    obtain ⟨m0, rfl⟩ : ∃ m, m0 = m + 1 := ⟨m0 - 1, by omega⟩
    rw [w_Runs_l0_eq]
    have e' : i = l.length := by omega
    subst e'
    simp only [s.len, bindV_some, binV_lss, condK_bool, Int.lt_irrefl, decide_false, Bool.false_eq_true, if_false, idG_eq]
    rw [w_Runs_j1_eq]
    exact cK (S := awakeO) (by simp [tabRu]) ⟨rfl, fun h' c' => ⟨h', St.le.refl _, H h'⟩⟩
  | succ d ih =>
    intro i m0 h lv x7 F R hi hm c st
    obtain ⟨m0, rfl⟩ : ∃ m, m0 = m + 1 := ⟨m0 - 1, by omega⟩
    rw [w_Runs_l0_eq]
    have hlt : (i : Int) < l.length := by omega
    have inc : IntKind.i64.wrap ((i : Int) + 1) = ((i + 1 : Nat) : Int) := by rw [i64_in _ (by omega)]; omega
    obtain ⟨p, g1, g2⟩ := act_at s (show i < l.length by omega)
    obtain ⟨⟨t, a, b⟩, ex⟩ : ∃ x, x = l[i]'(by omega) := ⟨_, rfl⟩
    rw [← ex] at g2
    have sn := st.n
    simp only [s.len, bindV_some, binV_lss, condK_bool, hlt, decide_true, if_true, idG_eq, g1, g2 h c]
    refine allocE_in fun h2 c2 n2 o2 => ?_
    refine storeE_all o2 rfl rfl rfl fun h3 c3 n3 o3 => ?_
    have o3 : h3.objs h.next = some (.cells [.int .u8 (t : Int), .int .u32 (a : Int), .int .u32 (b : Int)] true) := o3
    have tk : takeN [Value.int .u8 (t : Int), .int .u32 (a : Int), .int .u32 (b : Int)] 0 3 = some [.int .u8 (t : Int), .int .u32 (a : Int), .int .u32 (b : Int)] := rfl
    have ag : (Value.agg [Value.int .u8 (t : Int), .int .u32 (a : Int), .int .u32 (b : Int)].toArray) = actV t a b := rfl
    have c13 : Chg h h3 [] := c2.new c3 (Nat.le_refl _)
    simp only [loadV_ptr, o3, loadM_cells, partV_agg, tk, Option.map_some, bindV_some, ag]
    refine cK (S := doO) (by simp [tabRu]) ?_
    have sl := st.l
    have sm := st.m
    refine ⟨fun j => h0.next ≤ j ∧ j < n1, fun j => n1 ≤ j, v, lv, 2 * i, F, R, t, a, b, rfl, by omega, by omega, st.rr, fun j hj => by omega, fun j h1 h2 => by omega, st.g.chg0 c13, st.d.chg0 c13, fun h4 lv4 c4 g4 d4 => ?_⟩
    obtain ⟨r1, r2, r3, r4⟩ := st_ok st.inv st.g.ok st.rel st.rr t a b
    have m4 := c4.1
    rw [r3, same_self]
    obtain ⟨F', hF⟩ : ∃ F', F' = (stF t F a b).1 := ⟨_, rfl⟩
    obtain ⟨R', hR⟩ : ∃ R', R' = (stR t R a b).1 := ⟨_, rfl⟩
    have iv := inv_st st.inv st.g.ok t a b
    rw [← hF] at g4 r1 iv
    rw [← hR] at d4 r1 r2 r4
    have st4 : Sta h0.next n1 h4 v lv4 (i + 1) F' R' := ⟨g4, d4.imp fun j _ hj => by rcases hj with hj | hj <;> omega, by omega, by omega, sm, iv, r1, r2⟩
    have c04 : Chg h0 h4 [] := (((c.seq c13).nil (fun j => h0.next ≤ j)).step (c4.mono fun j _ hj => by have := c.1; rcases hj with hj | hj <;> omega)).list fun j h1 h2 => by omega
    have o4 := c4.at (by omega) (fun hh => by rcases hh with hh | hh <;> omega) o3
    have bx : ∀ h', Chg h4 h' [] → loadV false 1 (.pointer (some ⟨h.next, 1, none⟩)) h' = some (.int .u32 (a : Int)) ∧ loadV false 1 (.pointer (some ⟨h.next, 2, none⟩)) h' = some (.int .u32 (b : Int)) := fun h' c => by
      have o := c.at0 (by omega) o4
      refine ⟨?_, ?_⟩ <;> simp only [loadV_ptr, o, loadM_cells, partV_one, List.getElem?_cons_zero, List.getElem?_cons_succ]
    have gv := fun h' (c : Chg h4 h' []) => (g4.chg0 c).inl
    have ll := st4.l
    simp only [extV_two0, extV_two1, bindV_some, unV_not, Bool.not_true, groupK_eq, guardK_bool, if_true, offV_ptr, Nat.zero_add, (bx h4 (Chg.refl _ _)).1]
    refine ⟨trivial, ?_⟩
    refine cK (S := likeO) (by simp [tabRu]) ⟨_, _, v, lv4, _, F', R', a, rfl, by omega, by omega, r2, r1, gv h4 (Chg.refl _ _), d4, fun h5 c5 => ⟨⟨trivial, trivial⟩, ?_⟩⟩
    simp only [unV_not, Bool.not_true, bindV_some, idG_eq, pickV_bool, Bool.false_eq_true, if_false, getT, groupK_eq, guardK_bool, if_true, offV_ptr, Nat.zero_add, (bx h5 c5).2]
    refine ⟨⟨trivial, trivial⟩, ?_⟩
    refine cK (S := likeO) (by simp [tabRu]) ⟨_, _, v, lv4, _, F', R', b, rfl, by omega, by omega, r2, r1, gv h5 c5, d4.chg0 c5, fun h6 c6 => ⟨⟨trivial, trivial, trivial⟩, ?_⟩⟩
    have c46 := c5.seq c6
    obtain ⟨y1, y2⟩ := bx h6 c46
    simp only [unV_not, Bool.not_true, bindV_some, idG_eq, pickV_bool, Bool.false_eq_true, if_false, getT, groupK_eq, guardK_bool, if_true, offV_ptr, Nat.zero_add, y1]
    refine ⟨⟨trivial, trivial, trivial⟩, ?_⟩
    simp only [offV_ptr, bindV_some, Nat.zero_add, y2]
    refine ⟨⟨trivial, trivial, trivial⟩, ?_⟩
    refine cK (S := areO) (by simp [tabRu]) ⟨_, v, _, F', a, b, rfl, gv h6 c46, ⟨trivial, trivial, trivial, trivial, trivial⟩, ?_⟩
    simp only [offV_ptr, bindV_some, Nat.zero_add, y1]
    refine ⟨⟨trivial, trivial, trivial, trivial⟩, ?_⟩
    simp only [offV_ptr, bindV_some, Nat.zero_add, y2]
    refine ⟨⟨trivial, trivial, trivial, trivial⟩, ?_⟩
    refine cK (S := dareO) (by simp [tabRu]) ⟨_, lv4, R', a, b, rfl, by omega, d4.chg0 c46, ⟨trivial, trivial, trivial, trivial, trivial, trivial, trivial⟩, ?_⟩
    rw [r1.b2]
    simp only [neB, bindV_some, idG_eq, getT, pickV_bool, Bool.false_eq_true, if_false, condK_bool, binNil_int, binV_add, inc]
    exact ih (i + 1) m0 h6 lv4 lv4 F' R' (by omega) (by omega) (c04.seq c46) (st4.chg0 c46)
def runsLawO : Abs.Spec := fun args h k => ∃ (v : Value) (l : List FAct), args = [v] ∧ Acts h v l ∧ ∀ h', k (.bool true) h'
theorem runsLawO_good : SpecGood Try.prog (3, runsLawO) := by
  refine spec_good mixed Try.func3 (by kernel_rfl) (by kernel_rfl) (tab := tabRu) tabRu_good (keep := w_Runs_keep) ?_
  rintro args h k ⟨v, l, rfl, s, H⟩
  refine ⟨l.length + 1, ?_⟩
  show w_Runs (tabC _) idG _ v h _
  rw [w_Runs_eq]
  simp only [s.len, bindV_some, binNil_int, binV_gtr, condK_bool, decide_eq_true_eq]
  by_cases few : l.length ≤ 120
  · rw [if_neg (by omega)]
    simp only [idG_eq]
    refine cK (S := fnewO) (by simp [tabRu]) ⟨rfl, fun h1 g c1 gv s1 => ?_⟩
    simp only [isNil_no gv, bindV_some, condK_bool, Bool.false_eq_true, if_false, idG_eq]
    have s' : Acts h v l := s
    exact runs_l0 few s' H l.length 0 _ h1 _ _ _ _ (by omega) (by omega) c1 (sta_new c1 s1)
  · rw [if_pos (by omega)]
    exact ⟨h, St.le.refl _, H h⟩
end Go.Proofs.Ytnndflbpcemecaa
