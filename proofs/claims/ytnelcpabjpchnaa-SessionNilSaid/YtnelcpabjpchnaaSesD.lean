/- Sessions: Same, what the example says, 'SessionNil' and 'SessionIdle', walked. -/
import Derived.Test.YtnelcpabjpchnaaSesC
import Derived.Test.YtnelcpabjpchnaaGenU
set_option linter.unusedSimpArgs false
set_option linter.unusedVariables false
set_option maxHeartbeats 4000000
namespace Go.Proofs.Ytnelcpabjpchnaa
open Go.Abs Go.IntWalk
attribute [local congr] bindV_weak condK_weak guardK_weak groupK_weak allocE_weak boxE_weak storeE_weak storeM_weak tabC_weak ite_weak idG_weak appendE_weak buildSliceE_weak mapUpdateE_weak deleteE_weak makeMapE_weak copyE_weak clearE_weak callE_weak

theorem own_rowI {D : Nat → Prop} {h : St} {v : Value} {L : List Int} (s : OwnS D h v 1 (L.map (.int .u32)) L.length) {i : Nat} (hi : i < L.length) (k : IntKind) :
    ∃ b o, idxS 1 v (.int k i) = some (.pointer (some ⟨b, o, none⟩)) ∧ ∃ cs, h.objs b = some (.cells cs true) ∧ cs[o]? = some (.int .u32 L[i]) := by
  have s' : OwnS D h v 1 (L.flatMap fun x => [Value.int .u32 x]) L.length := by
    have : (L.flatMap fun x => [Value.int .u32 x]) = L.map (.int .u32) := by
      clear s hi
      induction L with
      | nil => rfl
      | cons x L ih => rw [List.flatMap_cons, ih, List.map_cons]; rfl
    rw [this]; exact s
  obtain ⟨b, o, g1, g2, g3, cs, g4, g5⟩ := s'.row (by simp) (List.getElem?_eq_getElem hi) k
  exact ⟨b, o, g1, cs, g4, by have := row_cell g5 0 (by omega); simpa using this⟩
def sameO : Abs.Spec := fun args h k => ∃ (D E : Nat → Prop) (v w : Value) (A B : List Int), args = [v, w] ∧ A.length ≤ 1000000 ∧ OwnS D h v 1 (A.map (.int .u32)) A.length ∧ OwnS E h w 1 (B.map (.int .u32)) B.length ∧ k (.bool (decide (A = B))) h
theorem same_l0 {nn : Nat} {v w x4 : Value} {D E : Nat → Prop} {A B : List Int} {h : St} {k : Cont} (few : A.length ≤ 1000000) (ll : A.length = B.length) (s : OwnS D h v 1 (A.map (.int .u32)) A.length) (t : OwnS E h w 1 (B.map (.int .u32)) B.length) (H : k (.bool (decide (A = B))) h) :
    ∀ (d i m0 : Nat), i + d = A.length → d < m0 → A.take i = B.take i →
      tiltyardref07_Same_l0 (tabC []) idG nn m0 v w x4 (.int .i64 (i : Int)) h (fun v h1 => ∃ h2, St.le h2 h1 ∧ k v h2) := by
  intro d
  induction d with
  | zero =>
    intro i m0 hi hm e
    obtain ⟨m0, rfl⟩ : ∃ m, m0 = m + 1 := ⟨m0 - 1, by omega⟩
    rw [tiltyardref07_Same_l0_eq]
    have e' : i = A.length := by omega
    subst e'
    rw [List.take_length, ll, List.take_length] at e
    simp only [s.len, bindV_some, binV_lss, condK_bool, Int.lt_irrefl, decide_false, Bool.false_eq_true, if_false, idG_eq]
    rw [tiltyardref07_Same_j1_eq]
    rw [decide_eq_true e] at H
    exact ⟨h, St.le.refl _, H⟩
  | succ d ih =>
    intro i m0 hi hm e
    obtain ⟨m0, rfl⟩ : ∃ m, m0 = m + 1 := ⟨m0 - 1, by omega⟩
    rw [tiltyardref07_Same_l0_eq]
    have hlt : (i : Int) < A.length := by omega
    have inc : IntKind.i64.wrap ((i : Int) + 1) = ((i + 1 : Nat) : Int) := by rw [i64_in _ (by omega)]; omega
    obtain ⟨b, o, g1, cs, g4, g5⟩ := own_rowI s (show i < A.length by omega) .i64
    obtain ⟨b', o', g1', cs', g4', g5'⟩ := own_rowI t (show i < B.length by omega) .i64
    simp only [s.len, bindV_some, binV_lss, condK_bool, hlt, decide_true, if_true, idG_eq, g1, loadV_ptr, g4, loadM_cells, partV_one, g5]
    refine ⟨trivial, ?_⟩
    simp only [bindV_some, g1', loadV_ptr, g4', loadM_cells, partV_one, g5']
    refine ⟨trivial, ?_⟩
    simp only [binV_neq, bindV_some, condK_bool, decide_eq_true_eq]
    by_cases ne : A[i] = B[i]
    · rw [if_neg (by simpa using ne)]
      simp only [idG_eq, binNil_int, binV_add, bindV_some, inc]
      refine ih (i + 1) m0 (by omega) (by omega) ?_
      rw [List.take_succ_eq_append_getElem (by omega), List.take_succ_eq_append_getElem (by omega), e, ne]
    · rw [if_pos ne]
      have : ¬ A = B := fun e => ne (by subst e; rfl)
      rw [decide_eq_false this] at H
      exact ⟨h, St.le.refl _, H⟩
theorem sameO_good : SpecGood Try.prog (32, sameO) := by
  refine spec_good mixed Try.func32 (by kernel_rfl) (by kernel_rfl) (tab := []) (by simp) (keep := tiltyardref07_Same_keep) ?_
  rintro args h k ⟨D, E, v, w, A, B, rfl, few, s, t, H⟩
  refine ⟨A.length + 1, ?_⟩
  show tiltyardref07_Same (tabC _) idG _ v w h _
  rw [tiltyardref07_Same_eq]
  simp only [s.len, t.len, bindV_some, binV_neq, condK_bool, decide_eq_true_eq]
  by_cases ll : A.length = B.length
  · rw [if_neg (by omega)]
    simp only [idG_eq]
    exact same_l0 few ll s t H A.length 0 _ (by omega) (by omega) rfl
  · rw [if_pos (by omega)]
    have : ¬ A = B := fun e => ll (by subst e; rfl)
    rw [decide_eq_false this] at H
    exact ⟨h, St.le.refl _, H⟩
/-! ### what the example says -/
def awakeO : Abs.Spec := fun args h k => args = [] ∧ ∀ h', Chg h h' [] → k (.bool true) h'
def tabAw : List (FuncId × Abs.Spec) := [(7, snewO), (8, openO), (12, loginO), (18, connsO), (32, sameO), (13, sconnO)]
theorem tabAw_good : ∀ p ∈ tabAw, SpecGood Try.prog p := by simp [tabAw, snewO_good, openO_good, loginO_good, connsO_good, sameO_good, sconnO_good]
theorem awakeO_good : SpecGood Try.prog (11, awakeO) := by
  refine spec_good mixed Try.func11 (by kernel_rfl) (by kernel_rfl) (tab := tabAw) tabAw_good (keep := tiltyardlaw10_awake_keep) ?_
  rintro args h k ⟨rfl, H⟩
  refine ⟨0, ?_⟩
  show tiltyardlaw10_awake (tabC tabAw) idG 0 h _
  rw [tiltyardlaw10_awake_eq]
  refine cK (S := snewO) (by simp [tabAw]) ⟨4, 5, rfl, by omega, fun h1 v c1 s1 => ?_⟩
  have m1 := c1.1
  refine cK (S := openO) (by simp [tabAw]) ⟨_, v, _, 5, [], 1, 0, rfl, fun i hi => by omega, s1, fun h2 c2 s2 => ?_⟩
  have m2 := c2.1
  have e2 : openNext [] (4 : Int).toNat 1 0 = [⟨1, 0, 0⟩] := by rfl
  rw [e2] at s2
  refine cK (S := openO) (by simp [tabAw]) ⟨_, v, _, 5, _, 2, 0, rfl, fun i hi => by omega, s2, fun h3 c3 s3 => ?_⟩
  have m3 := c3.1
  have e3 : openNext [⟨1, 0, 0⟩] (4 : Int).toNat 2 0 = [⟨1, 0, 0⟩, ⟨2, 0, 0⟩] := by rfl
  rw [e3] at s3
  refine cK (S := loginO) (by simp [tabAw]) ⟨_, v, _, 5, _, 1, 7, 0, rfl, fun i hi => by omega, s3, fun h4 c4 s4 => ?_⟩
  have m4 := c4.1
  have e4 : loginNext [⟨1, 0, 0⟩, ⟨2, 0, 0⟩] (4 : Int).toNat 1 7 0 = [⟨1, 7, 0⟩, ⟨2, 0, 0⟩] := by rfl
  rw [e4] at s4
  have a2 : openAns [] (4 : Int).toNat 1 = 0 := by rfl
  have a3 : openAns [⟨1, 0, 0⟩] (4 : Int).toNat 2 = 0 := by rfl
  have a4 : loginAns [⟨1, 0, 0⟩, ⟨2, 0, 0⟩] (4 : Int).toNat 1 7 = (0, 0) := by rfl
  have a5 : loginAns [⟨1, 7, 0⟩, ⟨2, 0, 0⟩] (4 : Int).toNat 2 7 = (1, 0) := by rfl
  simp only [a4, two, extV_two0, extV_two1, bindV_some]
  refine cK (S := loginO) (by simp [tabAw]) ⟨_, v, _, 5, _, 2, 7, 0, rfl, fun i hi => by omega, s4, fun h5 c5 s5 => ?_⟩
  have m5 := c5.1
  have e5 : loginNext [⟨1, 7, 0⟩, ⟨2, 0, 0⟩] (4 : Int).toNat 2 7 0 = [⟨2, 7, 0⟩] := by rfl
  rw [e5] at s5
  have c15 : Chg h h5 [] := (((((c1.nil (fun i => h.next ≤ i)).step c2).step c3).step c4).step c5).list fun j h1 h2 => by omega
  simp only [a2, a3, a5, two, extV_two0, extV_two1, bindV_some, Int.natCast_zero, Int.cast_ofNat_Int, Int.natCast_one, binNil_int, binV_eql, decide_true, groupK_eq, guardK_bool, if_true, idG_eq, getT, pickV_bool]
  refine cK (S := connsO) (by simp [tabAw]) ⟨_, v, _, 5, _, rfl, s5, fun h6 sv c6 s6 => ?_⟩
  have m6 := c6.1
  refine buildSliceE_in [.int .u32 2] rfl rfl rfl fun h7 c7 n7 o7 => ?_
  refine cK (S := sameO) (by simp [tabAw]) ⟨_, fun i => h6.next ≤ i, sv, _, [2], [2], rfl, by simp, s6.chg c7 (by simp), .inr ⟨h6.next, rfl, Nat.le_refl _, by omega, o7, rfl⟩, ?_⟩
  simp only [decide_true, getT, pickV_bool, if_true, bindV_some, groupK_eq, guardK_bool, idG_eq]
  have c57 : Chg h5 h7 [] := c6.seq c7
  refine cK (S := sconnO) (by simp [tabAw]) ⟨_, v, _, 5, _, 7, rfl, s5.chg0 c57, fun h8 c8 => ?_⟩
  have e8 : connOf [⟨2, 7, 0⟩] 7 = 2 := by rfl
  simp only [e8, Int.cast_ofNat_Int, binNil_int, binV_eql, decide_true, bindV_some, getT, pickV_bool, if_true, idG_eq]
  exact ⟨h8, St.le.refl _, H h8 ((c15.seq c57).seq c8)⟩
/-! ### 'SessionNil' -/
def nilLawO : Abs.Spec := fun args h k => ∃ a b c d : Int, args = [.agg #[.int .u8 a, .int .u32 b, .int .u32 c, .int .i64 d]] ∧ ∀ h', k (.bool true) h'
def tabNl : List (FuncId × Abs.Spec) := [(12, loginN), (15, logoutN), (16, closeN), (8, openN), (10, touchN), (14, playerN), (13, sconnN), (9, sidleN), (18, connsN), (17, splayersN), (11, awakeO)]
theorem tabNl_good : ∀ p ∈ tabNl, SpecGood Try.prog p := by simp [tabNl, loginN_good, logoutN_good, closeN_good, openN_good, touchN_good, playerN_good, sconnN_good, sidleN_good, connsN_good, splayersN_good, awakeO_good]
theorem nilLawO_good : SpecGood Try.prog (6, nilLawO) := by
  refine spec_good mixed Try.func6 (by kernel_rfl) (by kernel_rfl) (tab := tabNl) tabNl_good (keep := tiltyardlaw10_SessionNil_keep) ?_
  rintro args h k ⟨a, b, c, d, rfl, H⟩
  refine ⟨0, ?_⟩
  show tiltyardlaw10_SessionNil (tabC tabNl) idG 0 (.agg #[.int .u8 a, .int .u32 b, .int .u32 c, .int .i64 d]) h _
  rw [tiltyardlaw10_SessionNil_eq]
  refine boxE_in rfl fun h1 c1 n1 o1 => ?_
  have o1 : h1.objs h.next = some (.cells [.int .u8 a, .int .u32 b, .int .u32 c, .int .i64 d] true) := o1
  simp only [offV_ptr, bindV_some, loadV_ptr, o1, loadM_cells, partV_one, List.getElem?_cons_zero, List.getElem?_cons_succ, Nat.zero_add]
  refine cK (S := loginN) (by simp [tabNl]) ⟨_, _, _, rfl, fun h2 c2 => ?_⟩
  have o2 := c2.at0 (by omega) o1
  have m2 := c2.1
  simp only [two, extV_two0, extV_two1, offV_ptr, bindV_some, loadV_ptr, o2, loadM_cells, partV_one, List.getElem?_cons_zero, List.getElem?_cons_succ, Nat.zero_add]
  refine cK (S := logoutN) (by simp [tabNl]) ⟨_, rfl, fun h3 c3 => ?_⟩
  have o3 := c3.at0 (by omega) o2
  have m3 := c3.1
  simp only [two, extV_two0, extV_two1, offV_ptr, bindV_some, loadV_ptr, o3, loadM_cells, partV_one, List.getElem?_cons_zero, List.getElem?_cons_succ, Nat.zero_add]
  refine cK (S := closeN) (by simp [tabNl]) ⟨_, rfl, fun h4 c4 => ?_⟩
  have o4 := c4.at0 (by omega) o3
  have m4 := c4.1
  simp only [two, extV_two0, extV_two1, offV_ptr, bindV_some, loadV_ptr, o4, loadM_cells, partV_one, List.getElem?_cons_zero, List.getElem?_cons_succ, Nat.zero_add]
  refine cK (S := openN) (by simp [tabNl]) ⟨_, _, rfl, ?_⟩
  simp only [Int.natCast_zero, Int.cast_ofNat_Int, binNil_int, binV_eql, decide_true, groupK_eq, guardK_bool, if_true, idG_eq, getT, pickV_bool, bindV_some, offV_ptr, loadV_ptr, o4, loadM_cells, partV_one, List.getElem?_cons_zero, List.getElem?_cons_succ, Nat.zero_add]
  refine cK (S := touchN) (by simp [tabNl]) ⟨_, _, rfl, fun h5 c5 => ?_⟩
  have o5 := c5.at0 (by omega) o4
  have m5 := c5.1
  have w0 : IntKind.u32.wrap ((0 : Int) + 0) = 0 := by decide
  have w1 : IntKind.i64.wrap ((0 : Int) + 0) = 0 := by decide
  simp only [Int.natCast_zero, Int.cast_ofNat_Int, binNil_int, binV_eql, decide_true, groupK_eq, guardK_bool, if_true, idG_eq, getT, pickV_bool, bindV_some, binV_add, w0, offV_ptr, loadV_ptr, o5, loadM_cells, partV_one, List.getElem?_cons_zero, List.getElem?_cons_succ, Nat.zero_add]
  refine cK (S := playerN) (by simp [tabNl]) ⟨_, rfl, fun h6 c6 => ?_⟩
  have o6 := c6.at0 (by omega) o5
  have m6 := c6.1
  simp only [Int.natCast_zero, Int.cast_ofNat_Int, binNil_int, binV_eql, decide_true, groupK_eq, guardK_bool, if_true, idG_eq, getT, pickV_bool, bindV_some, offV_ptr, loadV_ptr, o6, loadM_cells, partV_one, List.getElem?_cons_zero, List.getElem?_cons_succ, Nat.zero_add]
  refine cK (S := sconnN) (by simp [tabNl]) ⟨_, rfl, fun h7 c7 => ?_⟩
  have o7 := c7.at0 (by omega) o6
  have m7 := c7.1
  simp only [Int.natCast_zero, Int.cast_ofNat_Int, binNil_int, binV_eql, decide_true, groupK_eq, guardK_bool, if_true, idG_eq, getT, pickV_bool, bindV_some, offV_ptr, loadV_ptr, o7, loadM_cells, partV_one, List.getElem?_cons_zero, List.getElem?_cons_succ, Nat.zero_add]
  refine cK (S := sidleN) (by simp [tabNl]) ⟨_, rfl, fun h8 c8 => ?_⟩
  simp only [lenS_slice, bindV_some]
  refine cK (S := connsN) (by simp [tabNl]) ⟨rfl, ?_⟩
  simp only [lenS_slice, bindV_some, Int.natCast_zero, Int.cast_ofNat_Int, binV_add, w1]
  refine cK (S := splayersN) (by simp [tabNl]) ⟨rfl, fun h9 c9 => ?_⟩
  simp only [lenS_slice, bindV_some, Int.natCast_zero, Int.cast_ofNat_Int, binV_add, w1, binNil_int, binV_eql, decide_true, groupK_eq, guardK_bool, if_true, idG_eq, getT, pickV_bool]
  refine cK (S := awakeO) (by simp [tabNl]) ⟨rfl, fun h10 c10 => ?_⟩
  simp only [getT, pickV_bool, bindV_some, if_true, idG_eq]
  exact ⟨h10, St.le.refl _, H h10⟩
end Go.Proofs.Ytnelcpabjpchnaa
