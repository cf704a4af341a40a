/- 'BoardKnows', 'BoardRuns', walked to the end. -/
import Derived.Test.YtlohiobliagaoaaBdF
set_option linter.unusedSimpArgs false
set_option linter.unusedVariables false
set_option maxHeartbeats 4000000
namespace Go.Proofs.Ytlohiobliagaoaa
open Go.Abs Go.IntWalk
attribute [local congr] bindV_weak condK_weak guardK_weak groupK_weak allocE_weak boxE_weak storeE_weak storeM_weak tabC_weak ite_weak idG_weak appendE_weak buildSliceE_weak mapUpdateE_weak deleteE_weak makeMapE_weak copyE_weak clearE_weak callE_weak

theorem knows_l0 {nn n1 p : Nat} {vs x4 x8 x9 v : Value} {l : List BAct} {h0 : St} {k : Cont} (few : l.length ≤ 80) (s : BActs h0 vs l) (H : ∀ h', k (.bool true) h') :
    ∀ (d i m0 : Nat) (h : St) (M : Md) (x8 x9 : Value), i + d = l.length → d + 256 < m0 → Chg h0 h [] → BSt h0.next n1 h v i M →
      w_Knows_l0 (tabC tabKn) idG nn m0 vs (.int .u32 (p : Int)) x4 v (.int .i64 ((M p).2 : Int)) (.int .i64 (i : Int)) x8 x9 h (fun v h1 => ∃ h2, St.le h2 h1 ∧ k v h2) := by
  intro d
  induction d with
  | zero =>
    intro i m0 h M x8 x9 hi hm c st
    obtain ⟨m0, rfl⟩ : ∃ m, m0 = m + 1 := ⟨m0 - 1, by omega⟩
    rw [w_Knows_l0_eq]
    have e' : i = l.length := by omega
    subst e'
    simp only [s.len, bindV_some, binV_lss, condK_bool, Int.lt_irrefl, decide_false, Bool.false_eq_true, if_false, idG_eq]
    rw [w_Knows_j3_eq]
    exact cK (S := awakeO) (by simp [tabKn]) ⟨rfl, fun h' c' => ⟨h', St.le.refl _, H h'⟩⟩
  | succ d ih =>
    intro i m0 h M x8 x9 hi hm c st
    obtain ⟨m0, rfl⟩ : ∃ m, m0 = m + 1 := ⟨m0 - 1, by omega⟩
    rw [w_Knows_l0_eq]
    have iL : i < l.length := by omega
    have hlt : (i : Int) < l.length := by omega
    have inc : IntKind.i64.wrap ((i : Int) + 1) = ((i + 1 : Nat) : Int) := by rw [i64_in _ (by omega)]; omega
    obtain ⟨b, o, g1, g2⟩ := bact_at s iL
    obtain ⟨_, f0, f1, f2⟩ := g2 h c
    have next : ∀ h1 (M1 : Md) x8 x9, Chg h0 h1 [] → BSt h0.next n1 h1 v (i + 1) M1 → w_Knows_j1 (tabC tabKn) idG nn m0 vs (.int .u32 (p : Int)) x4 v (.int .i64 ((M1 p).2 : Int)) (.int .i64 (i : Int)) x8 x9 h1 (fun v h1 => ∃ h2, St.le h2 h1 ∧ k v h2) := fun h1 M1 x8 x9 c1 s1 => by
      rw [w_Knows_j1_eq]
      simp only [binNil_int, binV_add, bindV_some, inc, idG_eq]
      exact ih (i + 1) m0 h1 M1 x8 x9 (by omega) (by omega) c1 s1
    obtain ⟨⟨fl, q, t⟩, ex⟩ : ∃ x, x = l[i] := ⟨_, rfl⟩
    rw [← ex] at f0 f1 f2
    have f0 : loadV false 1 (.pointer (some ⟨b, o, none⟩)) h = some (.bool fl) := f0
    have f1 : loadV false 1 (.pointer (some ⟨b, o + 1, none⟩)) h = some (.int .u32 (q : Int)) := f1
    have f2 : loadV false 1 (.pointer (some ⟨b, o + 2, none⟩)) h = some (.int .i64 t) := f2
    simp only [s.len, bindV_some, binV_lss, condK_bool, hlt, decide_true, if_true, idG_eq, g1, offV_ptr, Nat.add_zero, f0, unV_not]
    cases fl with
    | false =>
      simp only [Bool.not_false, if_true, g1, bindV_some, offV_ptr, f1]
      refine ⟨trivial, ?_⟩
      simp only [g1, bindV_some, offV_ptr, f2]
      refine ⟨trivial, ?_⟩
      refine set_step (by simp [tabKn]) st fun h1 c1 s1 => ⟨⟨trivial, trivial, trivial⟩, ?_⟩
      simp only [idG_eq]
      have := next h1 (setB M q t) x8 x9 (out_b rfl st c c1) s1
      rw [told_set] at this
      exact this
    | true =>
      simp only [Bool.not_true, Bool.false_eq_true, if_false, idG_eq]
      refine flush_step (by simp [tabKn]) st (by omega) fun h1 sv c1 s1 o1 l1 => ?_
      have c01 := out_b rfl st c c1
      simp only [idG_eq]
      refine knows_l2 l1 (fun q hq => st.b.rd hq) o1 (fun x9 => ?_) _ 0 _ (M p).2 (Nat.zero_add _) (by omega) (by simp)
      rw [w_Knows_j5_eq]
      refine cK (S := bstatO) (by simp [tabKn]) ⟨_, v, i, flM M, p, rfl, s1.b, ?_⟩
      refine cK (S := bseenO) (by simp [tabKn]) ⟨_, rfl, ?_⟩
      have n0 : binV .neq .other (.int .i64 (seenN ((M p).1 : Int) : Int)) (.int .i64 (seenN (((flM M) p).1 : Int) : Int)) = some (.bool false) := by rw [neN]; simp [flM]
      simp only [n0, bindV_some, groupK_eq, guardK_bool, if_true]
      refine flush_step (by simp [tabKn]) s1 (by omega) fun h2 sv2 c2 s2 o2 l2 => ?_
      rw [chs_flM] at o2
      have z0 : binNil .neq .other (.int .i64 (([] : List Nat).length : Int)) (.int .i64 0) = some (.bool false) := rfl
      simp only [OwnS.len o2, z0, bindV_some, idG_eq, getT, pickV_bool, Bool.false_eq_true, if_false, condK_bool]
      rw [flM_flM] at s2
      exact next h2 (flM M) _ _ (out_b rfl s1 c01 c2) (s2.more (by omega))
def knowsLawO : Abs.Spec := fun args h k => ∃ (v : Value) (l : List BAct) (p : Nat), args = [v, .int .u32 (p : Int)] ∧ BActs h v l ∧ ∀ h', k (.bool true) h'
theorem knowsLawO_good : SpecGood Try.prog (4, knowsLawO) := by
  refine spec_good mixed Try.func4 (by kernel_rfl) (by kernel_rfl) (tab := tabKn) tabKn_good (keep := w_Knows_keep) ?_
  rintro args h k ⟨v, l, p, rfl, s, H⟩
  refine ⟨l.length + 257, ?_⟩
  show w_Knows (tabC _) idG _ v (.int .u32 (p : Int)) h _
  rw [w_Knows_eq]
  simp only [s.len, bindV_some, binNil_int, binV_gtr, condK_bool, decide_eq_true_eq]
  by_cases few : l.length ≤ 80
  · rw [if_neg (by omega)]
    simp only [idG_eq]
    refine cK (S := bnewO) (by simp [tabKn]) ⟨rfl, fun h1 g c1 gv s1 => ?_⟩
    simp only [idG_eq]
    have s' : BActs h v l := s
    exact knows_l0 (x8 := undef) (x9 := undef) few s' H l.length 0 _ h1 (fun _ => (0, 0)) _ _ (by omega) (by omega) c1 (bst_new c1 s1)
  · rw [if_pos (by omega)]
    exact ⟨h, St.le.refl _, H h⟩
/-! ### whatever statuses are set -/
def tabRu : List (FuncId × Abs.Spec) := [(7, bnewO), (11, bsetO), (10, bflO), (15, bseenO), (13, bstatO), (12, esetO), (8, eflO), (16, eseenO), (14, estatO), (9, blikeO), (17, awakeO)]
theorem tabRu_good : ∀ p ∈ tabRu, SpecGood Try.prog p := by simp [tabRu, bnewO_good, bsetO_good, bflO_good, bseenO_good, bstatO_good, esetO_good, eflO_good, eseenO_good, estatO_good, blikeO_good, awakeO_good]
/-- The board and the document's rows. -/
structure RSt (n0 n1 : Nat) (h : St) (v lv : Value) (i : Nat) (R : List Em) : Prop where
  b : BSt n0 n1 h v i (MR R)
  e : EtS (fun j => n1 ≤ j) h lv R
  l : R.length ≤ i
  nd : NdR R
  ok : OkR R
theorem RSt.chg0 {n0 n1 : Nat} {h h' : St} {v lv : Value} {i : Nat} {R : List Em} (s : RSt n0 n1 h v lv i R) (c : Chg h h' []) : RSt n0 n1 h' v lv i R := ⟨s.b.chg0 c, s.e.chg0 c, s.l, s.nd, s.ok⟩
theorem OkR.fl {R : List Em} (ok : OkR R) : OkR (R.map flr) := fun r hr => by
  obtain ⟨x, hx, rfl⟩ := List.mem_map.1 hr
  have := ok x hx
  exact ⟨this.1, this.2.1, seen_le _⟩
theorem bruns_l0 {nn n1 : Nat} {vs x2 v : Value} {l : List BAct} {h0 : St} {k : Cont} (few : l.length ≤ 80) (s : BActs h0 vs l) (H : ∀ h', k (.bool true) h') :
    ∀ (d i m0 : Nat) (h : St) (lv x6 x9 : Value) (R : List Em), i + d = l.length → d < m0 → Chg h0 h [] → RSt h0.next n1 h v lv i R →
      w_Runs_l0 (tabC tabRu) idG nn m0 vs x2 v lv (.int .i64 (i : Int)) x6 x9 h (fun v h1 => ∃ h2, St.le h2 h1 ∧ k v h2) := by
  intro d
  induction d with
  | zero =>
    intro i m0 h lv x6 x9 R hi hm c st
    obtain ⟨m0, rfl⟩ : ∃ m, m0 = m + 1 := ⟨m0 - 1, by omega⟩
    rw [w_Runs_l0_eq]
    have e' : i = l.length := by omega
    subst e'
    simp only [s.len, bindV_some, binV_lss, condK_bool, Int.lt_irrefl, decide_false, Bool.false_eq_true, if_false, idG_eq]
    rw [w_Runs_j2_eq]
    exact cK (S := awakeO) (by simp [tabRu]) ⟨rfl, fun h' c' => ⟨h', St.le.refl _, H h'⟩⟩
  | succ d ih =>
    intro i m0 h lv x6 x9 R hi hm c st
    obtain ⟨m0, rfl⟩ : ∃ m, m0 = m + 1 := ⟨m0 - 1, by omega⟩
    rw [w_Runs_l0_eq]
    have iL : i < l.length := by omega
    have hlt : (i : Int) < l.length := by omega
    have inc : IntKind.i64.wrap ((i : Int) + 1) = ((i + 1 : Nat) : Int) := by rw [i64_in _ (by omega)]; omega
    obtain ⟨b, o, g1, g2⟩ := bact_at s iL
    obtain ⟨f3, _⟩ := g2 h c
    obtain ⟨⟨fl, q, t⟩, ex⟩ : ∃ x, x = l[i] := ⟨_, rfl⟩
    rw [← ex] at f3
    have f3 : loadV true 3 (.pointer (some ⟨b, o, none⟩)) h = some (.agg #[.bool fl, .int .u32 (q : Int), .int .i64 t]) := f3
    have sn := st.b.n
    have sm := st.b.m
    simp only [s.len, bindV_some, binV_lss, condK_bool, hlt, decide_true, if_true, idG_eq, g1, f3]
    refine allocE_in fun h2 c2 n2 o2 => ?_
    refine storeE_all o2 rfl rfl rfl fun h3 c3 n3 o3 => ?_
    have o3 : h3.objs h.next = some (.cells [.bool fl, .int .u32 (q : Int), .int .i64 t] true) := o3
    have c13 : Chg h h3 [] := c2.new c3 (Nat.le_refl _)
    have c03 := c.seq c13
    have st3 := st.chg0 c13
    have ld : ∀ h', h'.objs h.next = some (.cells [.bool fl, .int .u32 (q : Int), .int .i64 t] true) → loadV false 1 (.pointer (some ⟨h.next, 1, none⟩)) h' = some (.int .u32 (q : Int)) ∧ loadV false 1 (.pointer (some ⟨h.next, 2, none⟩)) h' = some (.int .i64 t) := fun h' o => by
      refine ⟨?_, ?_⟩ <;> simp only [loadV_ptr, o, loadM_cells, partV_one, List.getElem?_cons_zero, List.getElem?_cons_succ]
    -- behind the act
    have next : ∀ h4 lv4 x9 (R4 : List Em), Chg h0 h4 [] → h4.objs h.next = some (.cells [.bool fl, .int .u32 (q : Int), .int .i64 t] true) → h.next < h4.next → RSt h0.next n1 h4 v lv4 (i + 1) R4 →
        w_Runs_j1 (tabC tabRu) idG nn m0 vs x2 v lv4 (.int .i64 (i : Int)) (.pointer (some ⟨h.next, 0, none⟩)) x9 h4 (fun v h1 => ∃ h2, St.le h2 h1 ∧ k v h2) := fun h4 lv4 x9 R4 c4 o4 hn4 s4 => by
      rw [w_Runs_j1_eq]
      obtain ⟨y1, y2⟩ := ld h4 o4
      have e0 : ∀ (a : Nat), binV .neq .other (.int .i64 (a : Int)) (.int .i64 (a : Int)) = some (.bool false) := fun a => by rw [neN]; simp
      have l4 := s4.l
      simp only [offV_ptr, bindV_some, Nat.zero_add, y1]
      refine ⟨trivial, ?_⟩
      refine cK (S := bstatO) (by simp [tabRu]) ⟨_, v, _, MR R4, q, rfl, s4.b.b, ⟨trivial, trivial⟩, ?_⟩
      simp only [offV_ptr, bindV_some, Nat.zero_add, y1]
      refine ⟨⟨trivial, trivial⟩, ?_⟩
      refine cK (S := estatO) (by simp [tabRu]) ⟨_, lv4, R4, q, rfl, by omega, s4.nd, s4.e, ⟨trivial, trivial, trivial⟩, ?_⟩
      simp only [e0, bindV_some, groupK_eq, guardK_bool, if_true, offV_ptr, Nat.zero_add, y2]
      refine ⟨⟨trivial, trivial, trivial⟩, ?_⟩
      refine cK (S := bseenO) (by simp [tabRu]) ⟨t, rfl, ⟨trivial, trivial, trivial, trivial⟩, ?_⟩
      simp only [offV_ptr, bindV_some, Nat.zero_add, y2]
      refine ⟨⟨trivial, trivial, trivial, trivial⟩, ?_⟩
      refine cK (S := eseenO) (by simp [tabRu]) ⟨t, rfl, fun h5 c5 => ⟨⟨trivial, trivial, trivial, trivial, trivial⟩, ?_⟩⟩
      simp only [e0, bindV_some, idG_eq, getT, pickV_bool, Bool.false_eq_true, if_false, condK_bool]
      rw [w_Runs_j3_eq]
      simp only [binNil_int, binV_add, bindV_some, inc, idG_eq]
      exact ih (i + 1) m0 h5 lv4 _ _ R4 (by omega) (by omega) (c4.seq c5) (s4.chg0 c5)
    have sl := st.l
    have tk0 : loadV false 1 (.pointer (some ⟨h.next, 0, none⟩)) h3 = some (.bool fl) := by simp only [loadV_ptr, o3, loadM_cells, partV_one, List.getElem?_cons_zero]
    simp only [offV_ptr, bindV_some, Nat.zero_add, tk0, condK_bool]
    cases fl with
    | true =>
      rw [if_pos rfl]
      refine cK (S := eflO) (by simp [tabRu]) ⟨_, lv, R, rfl, by omega, st.nd, st.ok, st3.e, fun h4 iv sv ov c4 q4 s4 e4 => ?_⟩
      simp only [extV_three0, extV_three1, extV_three2, bindV_some]
      have st4 := st3.chg0 c4
      have m4 := c4.1
      refine flush_step (by simp [tabRu]) st4.b (by omega) fun h5 lc c5 s5 o5 l5 => ?_
      have ap : ∀ {B : Nat → Prop} {x : Value} {sz n : Nat} {cs : List Value}, (∀ j, B j → h3.next ≤ j) → OwnS B h4 x sz cs n → OwnS B h5 x sz cs n := fun hB s => keep_b (fun j hj hh => by have := hB j hj; omega) s c5
      refine cK (S := blikeO) (by simp [tabRu]) ⟨_, _, _, lc, iv, sv, MR R, chs (MR R), rfl, by omega, o5, ap (fun j hj => hj) q4, ap (fun j hj => hj) s4, ?_⟩
      simp only [unV_not, Bool.not_true, bindV_some, condK_bool, Bool.false_eq_true, if_false, idG_eq]
      have c05 := out_b rfl st4.b (c03.seq c4) c5
      have fe : flM (MR R) = MR (R.map flr) := funext fun p => (MR_fl R p).symm
      rw [fe] at s5
      refine next h5 ov _ (R.map flr) c05 (c5.at (by omega) (fun hh => by rcases hh with hh | hh <;> omega) (c4.at0 (by omega) o3)) (by have := c5.1; omega) ⟨s5.more (by omega), (ap (fun j hj => hj) e4).imp fun j _ hj => by omega, by rw [List.length_map]; omega, Nd_fl st.nd, st.ok.fl⟩
    | false =>
      rw [if_neg (by simp)]
      obtain ⟨y1, y2⟩ := ld h3 o3
      simp only [offV_ptr, bindV_some, Nat.zero_add, y1, y2]
      refine set_step (by simp [tabRu]) st3.b fun h4 c4 s4 => ?_
      have c04 := out_b rfl st3.b c03 c4
      have m4 := c4.1
      have o4 := c4.at (by omega) (fun hh => by rcases hh with hh | hh <;> omega) o3
      obtain ⟨y1, y2⟩ := ld h4 o4
      simp only [offV_ptr, bindV_some, Nat.zero_add, y1, y2]
      have e4 : EtS (fun j => n1 ≤ j) h4 lv R := keep_b (fun j hj hh => by omega) st3.e c4
      refine cK (S := esetO) (by simp [tabRu]) ⟨_, lv, R, q, t, rfl, by omega, st.nd, st.ok, e4, fun h5 lv5 R5 c5 e5 nd5 ok5 l5 r5 => ?_⟩
      simp only [idG_eq]
      rw [← r5] at s4
      refine next h5 lv5 _ R5 (c04.seq c5) (c5.at0 (by omega) o4) (by have := c5.1; omega) ⟨s4.chg0 c5, e5.imp fun j _ hj => by rcases hj with hj | hj <;> omega, by omega, nd5, ok5⟩
def brunsLawO : Abs.Spec := fun args h k => ∃ (v : Value) (l : List BAct), args = [v] ∧ BActs h v l ∧ ∀ h', k (.bool true) h'
theorem brunsLawO_good : SpecGood Try.prog (3, brunsLawO) := by
  refine spec_good mixed Try.func3 (by kernel_rfl) (by kernel_rfl) (tab := tabRu) tabRu_good (keep := w_Runs_keep) ?_
  rintro args h k ⟨v, l, rfl, s, H⟩
  refine ⟨l.length + 1, ?_⟩
  show w_Runs (tabC _) idG _ v h _
  rw [w_Runs_eq]
  simp only [s.len, bindV_some, binNil_int, binV_gtr, condK_bool, decide_eq_true_eq]
  by_cases few : l.length ≤ 80
  · rw [if_neg (by omega)]
    simp only [idG_eq]
    refine cK (S := bnewO) (by simp [tabRu]) ⟨rfl, fun h1 g c1 gv s1 => ?_⟩
    simp only [isNil_no gv, bindV_some, condK_bool, Bool.false_eq_true, if_false, idG_eq]
    have s' : BActs h v l := s
    have e : (fun _ => ((0, 0) : Mk)) = MR [] := rfl
    rw [e] at s1
    exact bruns_l0 few s' H l.length 0 _ h1 _ _ _ [] (by omega) (by omega) c1 ⟨bst_new c1 s1, .inl ⟨rfl, rfl, rfl⟩, Nat.le_refl _, .nil, fun r hr => by cases hr⟩
  · rw [if_pos (by omega)]
    exact ⟨h, St.le.refl _, H h⟩
end Go.Proofs.Ytlohiobliagaoaa
