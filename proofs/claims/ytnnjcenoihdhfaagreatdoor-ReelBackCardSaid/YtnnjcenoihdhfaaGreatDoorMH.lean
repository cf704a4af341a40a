/- 'ReelWrites', 'ReelReads', 'ReelBack', walked. | Rows with slices in them; a reel's answers: their bytes. | A reel's answers: their bytes, by the program and by the document. | A reel's answers: their bytes, by the document. | An answer of the document, as the program's; 'ReelTells', walked. | Events and answers that come in, as the abstract machine sees them. -/
import Derived.Test.YtnnjcenoihdhfaaGreatDoorMF
import Derived.Test.YtnnjcenoihdhfaaGreatDoorMG
import Derived.Test.YtnnjcenoihdhfaaGreatDoorME
import Derived.Lib.SmallJoins
import Derived.Deep.Strs
section
set_option linter.unusedSimpArgs false
set_option linter.unusedVariables false
set_option maxHeartbeats 4000000
namespace Go.Proofs.YtnnjcenoihdhfaaGreatDoor
open Go.Abs Go.IntWalk
attribute [local congr] bindV_weak condK_weak guardK_weak groupK_weak allocE_weak boxE_weak storeE_weak storeM_weak tabC_weak ite_weak idG_weak appendE_weak buildSliceE_weak mapUpdateE_weak deleteE_weak makeMapE_weak copyE_weak clearE_weak callE_weak

theorem flat_enc {l : List Ev} {c : Nat} (h : ∀ e ∈ l, e.b.length ≤ c) : (l.flatMap encE).length ≤ (15 + c) * l.length := by
  induction l with
  | nil => simp
  | cons e l ih =>
    have h1 := h e (by simp)
    have h2 := ih fun x hx => h x (by simp [hx])
    rw [List.flatMap_cons, List.length_append, enc_len, List.length_cons, Nat.mul_add]; omega
theorem cut_evs {B : Nat → Prop} {h : St} {v : Value} {P : List (Ev × Value)} (s : EvsAt B h v P) {i : Nat} (hi : i < P.length) :
    ∃ v', cutS 4 v (some (.int .i64 (i : Int))) (some (.int .i64 ((i + 1 : Nat) : Int))) = some v' ∧ EvsAt B h v' [P[i]] := by
  obtain ⟨v', g1, g2⟩ := SliceAt.cut s.1 (loHi_both (k := .i64) (k' := .i64) (show i ≤ i + 1 by omega) (show i + 1 ≤ P.length by omega)) (by omega) (by omega)
  refine ⟨v', g1, ?_, fun p hp => ?_⟩
  · rw [show i + 1 - i = 1 by omega] at g2
    exact g2.rows fun j hj => by
      have : j = 0 := by omega
      subst this
      simp [hi]
  · rw [List.mem_singleton] at hp
    subst hp
    exact s.2 _ (List.getElem_mem hi)
theorem gtN {a : Nat} (n : Nat) : binNil .gtr .other (.int .i64 (a : Int)) (.int .i64 (n : Int)) = some (.bool (decide (n < a))) := by
  rw [binNil_int, binV_gtr, show decide ((a : Int) > (n : Int)) = decide (n < a) from decide_eq_decide.2 (by omega)]
def tabWr : List (FuncId × Abs.Spec) := [(8, ownO), (7, rRightO), (9, qRightO), (10, encO), (11, encO), (12, awakeO)]
theorem tabWr_good : ∀ p ∈ tabWr, SpecGood Tryz.prog p := by simp [tabWr, ownO_good, rRightO_good, qRightO_good, rencO_good, qencO_good, awakeO_good]
theorem neB0 (b : Bool) : binV .neq .bool (.bool b) (.bool b) = some (.bool false) := by cases b <;> rfl
theorem writes_j1 {nn : Nat} {x2 x3 v : Value} {B : Nat → Prop} {P : List (Ev × Value)} {h0 h : St} {k : Cont} (few : P.length ≤ 40) (bl : ∀ e ∈ evs P, e.b.length ≤ 70000) (ine : ∀ e ∈ evs P, InE e) (s : EvsAt B h0 v P) (c : Chg h0 h []) (H : ∀ h', k (.bool true) h') :
    w_Writes_j1 (tabC tabWr) idG nn v x2 x3 h (fun v h1 => ∃ h2, St.le h2 h1 ∧ k v h2) := by
  rw [w_Writes_j1_eq]
  have el := evs_len P
  have tot := flat_enc bl
  have tot2 : ((evs P).flatMap encE).length ≤ 900000000 := Nat.le_trans tot (Nat.le_trans (Nat.mul_le_mul_left _ (show (evs P).length ≤ 40 by omega)) (by omega))
  have bl' : ∀ p ∈ P, p.1.b.length ≤ 1000000000 := fun p hp => Nat.le_trans (bl p.1 (List.mem_map_of_mem hp)) (by omega)
  refine cK (S := ownO) (by simp [tabWr]) ⟨B, v, P, rfl, by omega, bl', s.chg0 c, fun h1 w Q c1 o1 eq => ?_⟩
  have lQ : Q.length = P.length := by rw [← evs_len Q, eq, el]
  refine cK (S := encO) (by simp [tabWr]) ⟨_, w, Q, rfl, by omega, by rw [eq]; exact tot2, by rw [eq]; exact ine, o1.look, fun h2 sv c2 t2 => ?_⟩
  rw [eq] at t2 ⊢
  simp only [extV_two0, extV_two1, bindV_some]
  refine cK (S := encO) (by simp [tabWr]) ⟨B, v, P, rfl, by omega, tot2, ine, s.chg0 ((c.seq c1).seq c2), fun h3 sw c3 t3 => ?_⟩
  simp only [extV_two0, extV_two1, bindV_some, text_by (t2.chg0 c3), text_by t3, binV_text, groupK_eq, guardK_bool, if_true, eqI, idG_eq, getT, pickV_bool]
  refine cK (S := awakeO) (by simp [tabWr]) ⟨rfl, fun h' => ?_⟩
  simp only [idG_eq, getT, pickV_bool, if_true, bindV_some]
  exact ⟨h', St.le.refl _, H h'⟩
theorem writes_l0 {nn : Nat} {x2 v : Value} {B : Nat → Prop} {P : List (Ev × Value)} {h0 : St} {k : Cont} (few : P.length ≤ 40) (ine : ∀ e ∈ evs P, InE e) (s : EvsAt B h0 v P) (H : ∀ h', k (.bool true) h') :
    ∀ (d i m0 : Nat) (h : St), i + d = P.length → d < m0 → Chg h0 h [] → (∀ p ∈ P.take i, p.1.b.length ≤ 70000) →
      w_Writes_l0 (tabC tabWr) idG nn m0 v x2 (.int .i64 (i : Int)) h (fun v h1 => ∃ h2, St.le h2 h1 ∧ k v h2) := by
  intro d
  induction d with
  | zero =>
    intro i m0 h hi hm c bl
    obtain ⟨m0, rfl⟩ : ∃ m, m0 = m + 1 := ⟨m0 - 1, by omega⟩
    rw [w_Writes_l0_eq]
    have e' : i = P.length := by omega
    subst e'
    rw [List.take_length] at bl
    simp only [SliceAt.len s.1, bindV_some, binV_lss, condK_bool, Int.lt_irrefl, decide_false, Bool.false_eq_true, if_false, idG_eq]
    exact writes_j1 few (fun e he => by obtain ⟨p, hp, rfl⟩ := List.mem_map.1 he; exact bl p hp) ine s c H
  | succ d ih =>
    intro i m0 h hi hm c bl
    obtain ⟨m0, rfl⟩ : ∃ m, m0 = m + 1 := ⟨m0 - 1, by omega⟩
    rw [w_Writes_l0_eq]
    have hlt : (i : Int) < P.length := by omega
    have hi' : i < P.length := by omega
    obtain ⟨b, oo, g1, g2⟩ := evs_at s hi' .i64
    have tp := s.2 _ (List.getElem_mem hi')
    obtain ⟨vc, cu, sc⟩ := cut_evs (s.chg0 c) hi'
    have tak : P.take (i + 1) = P.take i ++ [P[i]] := List.take_succ_eq_append_getElem hi'
    obtain ⟨⟨e, sv⟩, ep⟩ : ∃ p, p = P[i]'hi' := ⟨_, rfl⟩
    rw [← ep] at g2 tp sc tak
    obtain ⟨_, _, _, f3, f4⟩ := g2 h c
    simp only at f3 f4 tp
    have g70 : binNil .gtr .other (.int .i64 (e.b.length : Int)) (.int .i64 70000) = some (.bool (decide (70000 < e.b.length))) := gtN 70000
    simp only [SliceAt.len s.1, bindV_some, binV_lss, condK_bool, hlt, decide_true, if_true, idG_eq, g1, offV_ptr, f3, SliceAt.len tp, g70, decide_eq_true_eq]
    by_cases big : 70000 < e.b.length
    · rw [if_pos big]
      exact ⟨h, St.le.refl _, H h⟩
    rw [if_neg big]
    simp only [idG_eq, binNil_int, binV_add, inc (show i ≤ 1000000000000 by omega), cu, bindV_some]
    refine cK (S := ownO) (by simp [tabWr]) ⟨B, vc, [(e, sv)], rfl, by simp, fun p hp => by rw [List.mem_singleton] at hp; subst hp; simp only; omega, sc, fun h1 w Q c1 o1 eq => ⟨trivial, ?_⟩⟩
    obtain ⟨⟨e', sw⟩, rfl⟩ : ∃ p, Q = [p] := by
      have : Q.length = 1 := by rw [← evs_len Q, eq]; rfl
      match Q, this with
      | [p], _ => exact ⟨p, rfl⟩
    have ee : e' = e := by
      have h := eq
      simp only [evs, List.map_cons, List.map_nil, List.cons.injEq, and_true] at h
      exact h
    subst ee
    obtain ⟨b1, o1', q1, q2⟩ := evs_at o1.look (i := 0) (by simp) .i64
    have q1 : idxS 4 w (.int .i64 0) = some (.pointer (some ⟨b1, o1', none⟩)) := q1
    have y4 := (q2 h1 (Chg.refl _ _)).2.2.2.2
    have ty := o1.look.2 _ (List.mem_singleton.2 rfl)
    simp only [List.getElem_cons_zero] at y4
    simp only [q1, y4, bindV_some]
    refine ⟨⟨trivial, trivial⟩, ?_⟩
    refine cK (S := rRightO) (by simp [tabWr]) ⟨_, e', sw, rfl, ty, fun h2 c2 => ⟨⟨trivial, trivial⟩, ?_⟩⟩
    have z1 := (g2 h1 (c.seq c1)).2.2.2.2
    have z2 := (g2 h2 ((c.seq c1).seq c2)).2.2.2.2
    simp only [g1, z2, bindV_some]
    refine ⟨⟨z1, f4, trivial⟩, ?_⟩
    refine cK (S := qRightO) (by simp [tabWr]) ⟨B, e', sv, rfl, tp.chg0 ((c.seq c1).seq c2), fun h3 c3 => ⟨⟨trivial, trivial, trivial⟩, ?_⟩⟩
    simp only [neB0, bindV_some, condK_bool, Bool.false_eq_true, if_false, binNil_int, binV_add, inc (show i ≤ 1000000000000 by omega), idG_eq]
    refine ih (i + 1) m0 h3 (by omega) (by omega) (((c.seq c1).seq c2).seq c3) fun p hp => ?_
    rw [tak] at hp
    rcases List.mem_append.1 hp with hp | hp
    · exact bl p hp
    · rw [List.mem_singleton] at hp
      subst hp; simp only; omega
def writesLawO : Abs.Spec := fun args h k => ∃ (B : Nat → Prop) (v : Value) (P : List (Ev × Value)), args = [v] ∧ (∀ e ∈ evs P, InE e) ∧ EvsAt B h v P ∧ ∀ h', k (.bool true) h'
theorem writesLawO_good : SpecGood Tryz.prog (3, writesLawO) := by
  refine spec_good mixed Tryz.func3 (by kernel_rfl) (by kernel_rfl) (tab := tabWr) tabWr_good (keep := w_Writes_keep) ?_
  rintro args h k ⟨B, v, P, rfl, ine, s, H⟩
  refine ⟨P.length + 1, ?_⟩
  show w_Writes (tabC _) idG _ v h _
  rw [w_Writes_eq]
  have g40 : binNil .gtr .other (.int .i64 (P.length : Int)) (.int .i64 40) = some (.bool (decide (40 < P.length))) := gtN 40
  simp only [SliceAt.len s.1, g40, bindV_some, condK_bool, decide_eq_true_eq]
  by_cases few : 40 < P.length
  · rw [if_pos few]
    exact ⟨h, St.le.refl _, H h⟩
  rw [if_neg few]
  simp only [idG_eq]
  exact writes_l0 (by omega) ine s H P.length 0 _ h (by omega) (by omega) (Chg.refl _ _) (by simp)
/-! ### what is read -/
def tabRd : List (FuncId × Abs.Spec) := [(13, decO), (14, decO), (15, sameO), (12, awakeO), (10, encO), (8, ownO)]
theorem tabRd_good : ∀ p ∈ tabRd, SpecGood Tryz.prog p := by simp [tabRd, rdecO_good, qdecO_good, sameO_good, awakeO_good, rencO_good, ownO_good]
theorem tri0 (a b c : Value) : extV 0 (.tuple #[a, b, c]) = some a := extV_three0 a b c
theorem tri1 (a b c : Value) : extV 1 (.tuple #[a, b, c]) = some b := extV_three1 a b c
theorem tri2 (a b c : Value) : extV 2 (.tuple #[a, b, c]) = some c := extV_three2 a b c
theorem decR_few : ∀ (f : Nat) (b : List Nat) (out : List Ev), b.length ≤ f → (decR f b out).1.length ≤ out.length + b.length
  | 0, b, out, _ => by simp [decR]
  | f + 1, b, out, hf => by
    unfold decR
    split
    · simp
    · split
      · simp
      · rename_i h1 h2
        have l15 : 15 ≤ lenE b := by unfold lenE; omega
        have := decR_few f (b.drop (lenE b)) (out ++ [decE b]) (by rw [List.length_drop]; omega)
        rw [List.length_append, List.length_drop] at this
        simp at this
        by_cases hb : lenE b ≤ b.length
        · omega
        · exfalso
          apply h2
          unfold stepE
          by_cases c1 : b.length < 15
          · rw [if_pos c1]; simp
          · rw [if_neg c1, if_pos (by omega)]; simp
theorem decL_few (b : List Nat) : (decL b).1.length ≤ b.length := by
  have := decR_few b.length b [] (Nat.le_refl _)
  simpa [decL] using this
def readsLawO : Abs.Spec := fun args h k => ∃ (B : Nat → Prop) (v : Value) (l : List Nat), args = [v] ∧ (∀ x ∈ l, x < 256) ∧ By B h v l ∧ ∀ h', k (.bool true) h'
theorem readsLawO_good : SpecGood Tryz.prog (4, readsLawO) := by
  refine spec_good mixed Tryz.func4 (by kernel_rfl) (by kernel_rfl) (tab := tabRd) tabRd_good (keep := w_Reads_keep) ?_
  rintro args h k ⟨B, v, l, rfl, lt, s, H⟩
  refine ⟨0, ?_⟩
  show w_Reads (tabC _) idG _ v h _
  rw [w_Reads_eq]
  have g5 : binNil .gtr .other (.int .i64 (l.length : Int)) (.int .i64 5000) = some (.bool (decide (5000 < l.length))) := gtN 5000
  simp only [SliceAt.len s, g5, bindV_some, condK_bool, decide_eq_true_eq]
  by_cases few : 5000 < l.length
  · rw [if_pos few]
    exact ⟨h, St.le.refl _, H h⟩
  rw [if_neg few]
  simp only [idG_eq]
  have lf := decL_few l
  refine cK (S := decO) (by simp [tabRd]) ⟨B, v, l, rfl, by omega, lt, s, fun h1 w P c1 o1 e1 => ?_⟩
  simp only [tri0, tri1, tri2, bindV_some]
  refine cK (S := decO) (by simp [tabRd]) ⟨B, v, l, rfl, by omega, lt, s.chg0 c1, fun h2 w' Q c2 o2 e2 => ?_⟩
  simp only [tri0, tri1, tri2, bindV_some]
  have lP : P.length ≤ 1000000 := by rw [← evs_len P, e1]; omega
  refine cK (S := sameO) (by simp [tabRd]) ⟨_, _, w, w', P, Q, rfl, lP, (o1.chg0 c2).look, o2.look, by rw [e1, e2], fun h3 c3 => ?_⟩
  simp only [groupK_eq, guardK_bool, if_true, eqI, bindV_some, idG_eq, getT, pickV_bool]
  refine cK (S := awakeO) (by simp [tabRd]) ⟨rfl, fun h' => ?_⟩
  simp only [idG_eq, getT, pickV_bool, if_true, bindV_some]
  exact ⟨h', St.le.refl _, H h'⟩
/-! ### back -/
theorem back_j2 {nn : Nat} {x0 x4 x5 x11 vb : Value} {C : Nat → Prop} {b : List Nat} {h0 h : St} {k : Cont} (fb : b.length ≤ 5000) (lt : ∀ x ∈ b, x < 256) (s : By C h0 vb b) (c : Chg h0 h []) (H : ∀ h', k (.bool true) h') :
    w_Back_j2 (tabC tabRd) idG nn x0 vb x4 x5 x11 h (fun v h1 => ∃ h2, St.le h2 h1 ∧ k v h2) := by
  rw [w_Back_j2_eq]
  have lf := decL_few b
  refine cK (S := decO) (by simp [tabRd]) ⟨C, vb, b, rfl, by omega, lt, s.chg0 c, fun h1 w P c1 o1 e1 => ?_⟩
  have lP : P.length ≤ 1000000 := by rw [← evs_len P, e1]; omega
  obtain ⟨T, eT⟩ : ∃ T, T = decL b := ⟨_, rfl⟩
  rw [← eT] at e1
  rw [← eT]
  simp only [tri0, tri1, tri2, bindV_some, len0, condK_bool, decide_eq_true_eq]
  by_cases ok : T.2.2 = 0
  · rw [if_pos ok]
    obtain ⟨r, r1, r2, r3, r4⟩ := decR_some b.length b [] T.1 T.2.1 lt (Nat.le_refl _) (by
      show decL b = _
      rw [← eT, ← ok])
    rw [List.nil_append] at r1
    rw [r1] at e1
    have en : encL (evs P) = (b, 0) := by unfold encL; rw [e1, if_pos r3, r2]
    refine cK (S := encO) (by simp [tabRd]) ⟨_, w, P, rfl, lP, by rw [e1, r2]; omega, by rw [e1]; exact r4, o1.look, fun h2 sv c2 t2 => ?_⟩
    rw [en] at t2 ⊢
    simp only [extV_two0, extV_two1, bindV_some, len0, decide_true, groupK_eq, guardK_bool, if_true, text_by t2, text_by (s.chg0 ((c.seq c1).seq c2)), binV_text, idG_eq, getT, pickV_bool]
    refine cK (S := awakeO) (by simp [tabRd]) ⟨rfl, fun h' => ?_⟩
    simp only [idG_eq, getT, pickV_bool, if_true, bindV_some]
    exact ⟨h', St.le.refl _, H h'⟩
  · rw [if_neg ok]
    have nil : T.1 = [] := decR_fail b.length b [] T.1 T.2.1 T.2.2 (by show decL b = _; rw [← eT]) ok
    rw [nil] at e1
    have lz : P.length = 0 := by rw [← evs_len P, e1]; rfl
    have lo := SliceAt.len o1.look.1
    rw [lz] at lo
    have z : binNil .eql .other (.int .i64 ((0 : Nat) : Int)) (.int .i64 0) = some (.bool true) := rfl
    simp only [lo, z, bindV_some, groupK_eq, guardK_bool, if_true, idG_eq]
    refine cK (S := awakeO) (by simp [tabRd]) ⟨rfl, fun h' => ?_⟩
    simp only [idG_eq, getT, pickV_bool, if_true, bindV_some]
    exact ⟨h', St.le.refl _, H h'⟩
theorem back_j1 {nn : Nat} {x4 x5 x11 v vb : Value} {B C : Nat → Prop} {P : List (Ev × Value)} {b : List Nat} {h0 h : St} {k : Cont} (few : P.length ≤ 40) (bl : ∀ e ∈ evs P, e.b.length ≤ 70000) (ine : ∀ e ∈ evs P, InE e) (s : EvsAt B h0 v P) (fb : b.length ≤ 5000) (lt : ∀ x ∈ b, x < 256) (sb : By C h0 vb b) (c : Chg h0 h []) (H : ∀ h', k (.bool true) h') :
    w_Back_j1 (tabC tabRd) idG nn v vb x4 x5 x11 h (fun v h1 => ∃ h2, St.le h2 h1 ∧ k v h2) := by
  rw [w_Back_j1_eq]
  have el := evs_len P
  have tot := flat_enc bl
  have tot2 : ((evs P).flatMap encE).length ≤ 900000000 := Nat.le_trans tot (Nat.le_trans (Nat.mul_le_mul_left _ (show (evs P).length ≤ 40 by omega)) (by omega))
  have bl' : ∀ p ∈ P, p.1.b.length ≤ 1000000000 := fun p hp => Nat.le_trans (bl p.1 (List.mem_map_of_mem hp)) (by omega)
  refine cK (S := ownO) (by simp [tabRd]) ⟨B, v, P, rfl, by omega, bl', s.chg0 c, fun h1 w Q c1 o1 eq => ?_⟩
  have lQ : Q.length = P.length := by rw [← evs_len Q, eq, el]
  refine cK (S := encO) (by simp [tabRd]) ⟨_, w, Q, rfl, by omega, by rw [eq]; exact tot2, by rw [eq]; exact ine, o1.look, fun h2 sv c2 t2 => ?_⟩
  rw [eq] at t2 ⊢
  have c02 := (c.seq c1).seq c2
  simp only [extV_two0, extV_two1, bindV_some, len0, condK_bool, decide_eq_true_eq]
  by_cases ok : (evs P).all okE = true
  · have en : encL (evs P) = ((evs P).flatMap encE, 0) := by unfold encL; rw [if_pos ok]
    rw [en] at t2 ⊢
    rw [if_pos rfl]
    have lt2 : ∀ x ∈ (evs P).flatMap encE, x < 256 := fun x hx => by
      obtain ⟨e, he, hx⟩ := List.mem_flatMap.1 hx
      have ie := ine e he
      unfold encE at hx
      simp only [List.mem_append] at hx
      rcases hx with hx | hx | hx | hx | hx
      · exact putB_lt _ _ x hx
      · exact putB_lt _ _ x hx
      · exact putB_lt _ _ x hx
      · exact putB_lt _ _ x hx
      · exact ie.2.2 x hx
    refine cK (S := decO) (by simp [tabRd]) ⟨_, sv, _, rfl, tot2, lt2, t2, fun h3 w3 R c3 o3 e3 => ?_⟩
    have de := dec_encL ok ine
    rw [de] at e3 ⊢
    have q0 : binNil .neq .other (.int .i64 ((0 : Nat) : Int)) (.int .i64 0) = some (.bool false) := rfl
    have e3 : evs R = evs P := e3
    have lR : R.length ≤ 1000000 := by rw [← evs_len R, e3]; omega
    simp only [tri0, tri1, tri2, bindV_some, q0, groupK_eq, guardK_bool, if_true]
    refine cK (S := sameO) (by simp [tabRd]) ⟨_, B, w3, v, R, P, rfl, lR, o3.look, s.chg0 (c02.seq c3), e3, fun h4 c4 => ?_⟩
    simp only [unV_not, Bool.not_true, bindV_some, idG_eq, getT, pickV_bool, Bool.false_eq_true, if_false, condK_bool]
    exact back_j2 fb lt sb ((c02.seq c3).seq c4) H
  · have en : encL (evs P) = ([], 2) := by unfold encL; rw [if_neg ok]
    rw [en, if_neg (by simp)]
    simp only [idG_eq]
    exact back_j2 fb lt sb c02 H
theorem back_l0 {nn : Nat} {x4 x11 v vb : Value} {B C : Nat → Prop} {P : List (Ev × Value)} {b : List Nat} {h0 h : St} {k : Cont} (few : P.length ≤ 40) (ine : ∀ e ∈ evs P, InE e) (s : EvsAt B h0 v P) (fb : b.length ≤ 5000) (lt : ∀ x ∈ b, x < 256) (sb : By C h0 vb b) (c : Chg h0 h []) (H : ∀ h', k (.bool true) h') :
    ∀ (d i m0 : Nat), i + d = P.length → d < m0 → (∀ p ∈ P.take i, p.1.b.length ≤ 70000) →
      w_Back_l0 (tabC tabRd) idG nn m0 v vb x4 (.int .i64 (i : Int)) x11 h (fun v h1 => ∃ h2, St.le h2 h1 ∧ k v h2) := by
  intro d
  induction d with
  | zero =>
    intro i m0 hi hm bl
    obtain ⟨m0, rfl⟩ : ∃ m, m0 = m + 1 := ⟨m0 - 1, by omega⟩
    rw [w_Back_l0_eq]
    have e' : i = P.length := by omega
    subst e'
    rw [List.take_length] at bl
    simp only [SliceAt.len s.1, bindV_some, binV_lss, condK_bool, Int.lt_irrefl, decide_false, Bool.false_eq_true, if_false, idG_eq]
    exact back_j1 few (fun e he => by obtain ⟨p, hp, rfl⟩ := List.mem_map.1 he; exact bl p hp) ine s fb lt sb c H
  | succ d ih =>
    intro i m0 hi hm bl
    obtain ⟨m0, rfl⟩ : ∃ m, m0 = m + 1 := ⟨m0 - 1, by omega⟩
    rw [w_Back_l0_eq]
    have hlt : (i : Int) < P.length := by omega
    have hi' : i < P.length := by omega
    obtain ⟨bb, oo, g1, g2⟩ := evs_at s hi' .i64
    have tp := s.2 _ (List.getElem_mem hi')
    have tak : P.take (i + 1) = P.take i ++ [P[i]] := List.take_succ_eq_append_getElem hi'
    obtain ⟨⟨e, sv⟩, ep⟩ : ∃ p, p = P[i]'hi' := ⟨_, rfl⟩
    rw [← ep] at g2 tp tak
    obtain ⟨_, _, _, f3, f4⟩ := g2 h c
    simp only at f3 f4 tp
    have g70 : binNil .gtr .other (.int .i64 (e.b.length : Int)) (.int .i64 70000) = some (.bool (decide (70000 < e.b.length))) := gtN 70000
    simp only [SliceAt.len s.1, bindV_some, binV_lss, condK_bool, hlt, decide_true, if_true, idG_eq, g1, offV_ptr, f3, SliceAt.len tp, g70, decide_eq_true_eq]
    by_cases big : 70000 < e.b.length
    · rw [if_pos big]
      exact ⟨h, St.le.refl _, H h⟩
    rw [if_neg big]
    simp only [idG_eq, binNil_int, binV_add, inc (show i ≤ 1000000000000 by omega), bindV_some]
    refine ih (i + 1) m0 (by omega) (by omega) fun p hp => ?_
    rw [tak] at hp
    rcases List.mem_append.1 hp with hp | hp
    · exact bl p hp
    · rw [List.mem_singleton] at hp
      subst hp; simp only; omega
def backLawO : Abs.Spec := fun args h k => ∃ (B C : Nat → Prop) (v vb : Value) (P : List (Ev × Value)) (b : List Nat), args = [v, vb] ∧ (∀ e ∈ evs P, InE e) ∧ EvsAt B h v P ∧ (∀ x ∈ b, x < 256) ∧ By C h vb b ∧ ∀ h', k (.bool true) h'
theorem backLawO_good : SpecGood Tryz.prog (6, backLawO) := by
  refine spec_good mixed Tryz.func6 (by kernel_rfl) (by kernel_rfl) (tab := tabRd) tabRd_good (keep := w_Back_keep) ?_
  rintro args h k ⟨B, C, v, vb, P, b, rfl, ine, s, lt, sb, H⟩
  refine ⟨P.length + 1, ?_⟩
  show w_Back (tabC _) idG _ v vb h _
  rw [w_Back_eq]
  have g40 : binNil .gtr .other (.int .i64 (P.length : Int)) (.int .i64 40) = some (.bool (decide (40 < P.length))) := gtN 40
  have g5 : binNil .gtr .other (.int .i64 (b.length : Int)) (.int .i64 5000) = some (.bool (decide (5000 < b.length))) := gtN 5000
  simp only [SliceAt.len s.1, g40, bindV_some]
  by_cases few : 40 < P.length
  · simp only [decide_eq_true few, groupK_eq, guardK_bool, Bool.true_eq_false, if_false, idG_eq, pickV_bool, if_true, bindV_some, condK_bool]
    exact ⟨h, St.le.refl _, H h⟩
  simp only [decide_eq_false few, groupK_eq, guardK_bool, if_true, SliceAt.len sb, g5, bindV_some, idG_eq, pickV_bool, getT, Bool.false_eq_true, if_false, condK_bool, decide_eq_true_eq]
  by_cases fb : 5000 < b.length
  · rw [if_pos fb]
    exact ⟨h, St.le.refl _, H h⟩
  rw [if_neg fb]
  exact back_l0 (by omega) ine s (by omega) lt sb (Chg.refl _ _) H P.length 0 _ (by omega) (by omega) (by simp)
end Go.Proofs.YtnnjcenoihdhfaaGreatDoor
end

section
set_option linter.unusedSimpArgs false
set_option linter.unusedVariables false
set_option maxHeartbeats 4000000
namespace Go.Proofs.YtnnjcenoihdhfaaGreatDoor
open Go.Abs Go.IntWalk
attribute [local congr] bindV_weak condK_weak guardK_weak groupK_weak allocE_weak boxE_weak storeE_weak storeM_weak tabC_weak ite_weak idG_weak appendE_weak buildSliceE_weak mapUpdateE_weak deleteE_weak makeMapE_weak copyE_weak clearE_weak callE_weak

/-! ### rows with something behind them -/
section
variable {α : Type}
structure Deep (sz : Nat) (cl : α → List Value) (dp : (Nat → Prop) → St → α → Prop) : Prop where
  len : ∀ a, (cl a).length = sz
  chg : ∀ {B D : Nat → Prop} {h h' : St} {a : α}, dp B h a → ChgP D h h' → (∀ j, D j → ¬ B j) → dp B h' a
  imp : ∀ {B B' : Nat → Prop} {h : St} {a : α}, dp B h a → (∀ j, j < h.next → B j → B' j) → dp B' h a
def rowD (cl : α → List Value) (L : List α) (i : Nat) : List Value := match L[i]? with | some a => cl a | none => []
def RowsAt (sz : Nat) (cl : α → List Value) (dp : (Nat → Prop) → St → α → Prop) (B : Nat → Prop) (h : St) (v : Value) (L : List α) : Prop := SliceAt B h v L.length sz (rowD cl L) ∧ ∀ a ∈ L, dp B h a
def RowsO (sz : Nat) (cl : α → List Value) (dp : (Nat → Prop) → St → α → Prop) (n0 : Nat) (h : St) (v : Value) (L : List α) : Prop :=
  (v = .slice none 0 0 ∧ L = []) ∨ ∃ q, v = .slice (some ⟨q, 0, some sz⟩) L.length 0 ∧ n0 ≤ q ∧ q < h.next ∧ h.objs q = some (.cells (L.flatMap cl) true) ∧ ∀ a ∈ L, dp (fun j => n0 ≤ j ∧ j ≠ q) h a
variable {sz : Nat} {cl : α → List Value} {dp : (Nat → Prop) → St → α → Prop}
theorem flatD (hd : Deep sz cl dp) (L : List α) : (L.flatMap cl).length = L.length * sz := by
  induction L with
  | nil => simp
  | cons a L ih => rw [List.flatMap_cons, List.length_append, ih, List.length_cons, hd.len, Nat.succ_mul]; omega
theorem RowsO.look (hd : Deep sz cl dp) {n0 : Nat} {h : St} {v : Value} {L : List α} (s : RowsO sz cl dp n0 h v L) : RowsAt sz cl dp (fun j => n0 ≤ j) h v L := by
  rcases s with ⟨rfl, rfl⟩ | ⟨q, rfl, h1, h2, h3, h4⟩
  · exact ⟨.inl ⟨rfl, rfl⟩, by simp⟩
  · have o : OwnS (fun j => n0 ≤ j) h (.slice (some ⟨q, 0, some sz⟩) L.length 0) sz (L.flatMap cl) L.length := .inr ⟨q, rfl, h1, h2, h3, flatD hd L⟩
    exact ⟨o.slice (fun y _ => hd.len y) (fun i x hx => by unfold rowD; rw [hx]), fun a ha => hd.imp (h4 a ha) fun _ _ h => h.1⟩
theorem RowsAt.chgP (hd : Deep sz cl dp) {B D : Nat → Prop} {h h' : St} {v : Value} {L : List α} (s : RowsAt sz cl dp B h v L) (c : ChgP D h h') (hD : ∀ j, D j → ¬ B j) : RowsAt sz cl dp B h' v L := ⟨SliceAt.chgP s.1 c hD, fun a ha => hd.chg (s.2 a ha) c hD⟩
theorem RowsAt.chg0 (hd : Deep sz cl dp) {B : Nat → Prop} {h h' : St} {v : Value} {L : List α} (s : RowsAt sz cl dp B h v L) (c : Chg h h' []) : RowsAt sz cl dp B h' v L := s.chgP hd (c.nil fun _ => False) fun _ h => h.elim
theorem RowsAt.imp (hd : Deep sz cl dp) {B B' : Nat → Prop} {h : St} {v : Value} {L : List α} (s : RowsAt sz cl dp B h v L) (hB : ∀ j, j < h.next → B j → B' j) : RowsAt sz cl dp B' h v L := ⟨SliceAt.imp s.1 hB, fun a ha => hd.imp (s.2 a ha) hB⟩
theorem RowsO.nil {n0 : Nat} {h : St} : RowsO sz cl dp n0 h (.slice none 0 0) [] := .inl ⟨rfl, rfl⟩
theorem RowsO.one {n0 : Nat} {h : St} {v : Value} {L : List α} (s : RowsO sz cl dp n0 h v L) : Abs.one v = true ∧ v.cells = #[v] ∧ isUnk v = false := by
  rcases s with ⟨rfl, rfl⟩ | ⟨q, rfl, _⟩ <;> exact ⟨rfl, rfl, rfl⟩
theorem RowsO.chgP (hd : Deep sz cl dp) {n0 : Nat} {D : Nat → Prop} {h h' : St} {v : Value} {L : List α} (s : RowsO sz cl dp n0 h v L) (c : ChgP D h h') (hD : ∀ j, D j → j < n0) : RowsO sz cl dp n0 h' v L := by
  rcases s with ⟨rfl, rfl⟩ | ⟨q, rfl, h1, h2, h3, h4⟩
  · exact .inl ⟨rfl, rfl⟩
  · exact .inr ⟨q, rfl, h1, Nat.lt_of_lt_of_le h2 c.1, c.at h2 (fun e => by have := hD _ e; omega) h3, fun a ha => hd.chg (h4 a ha) c fun j hj hb => by have := hD _ hj; omega⟩
theorem RowsO.chg0 (hd : Deep sz cl dp) {n0 : Nat} {h h' : St} {v : Value} {L : List α} (s : RowsO sz cl dp n0 h v L) (c : Chg h h' []) : RowsO sz cl dp n0 h' v L := s.chgP hd (c.nil fun _ => False) fun _ h => h.elim
theorem RowsO.opens (hd : Deep sz cl dp) {n0 : Nat} {h0 h : St} {v : Value} {L : List α} {a : α} (hn : n0 ≤ h0.next) (c : Chg h0 h []) (s : RowsO sz cl dp n0 h0 v L) (t : dp (fun j => h0.next ≤ j) h a) :
    ∃ B : Nat → Prop, (∀ i, h.next ≤ i → B i) ∧ OwnS B h v sz (L.flatMap cl) L.length ∧ ∀ h5 out5, ChgP B h h5 → OwnS B h5 out5 sz (L.flatMap cl ++ cl a) (L.length + 1) → ChgP (fun i => n0 ≤ i ∧ (i < h0.next ∨ h.next ≤ i)) h h5 ∧ RowsO sz cl dp n0 h5 out5 (L ++ [a]) := by
  have m := c.1
  have e2 : (L ++ [a]).flatMap cl = L.flatMap cl ++ cl a := by simp
  obtain ⟨B, hB, hB2, so, sb⟩ : ∃ B : Nat → Prop, (∀ i, h.next ≤ i → B i) ∧ (∀ i, B i → n0 ≤ i ∧ (i < h0.next ∨ h.next ≤ i)) ∧ OwnS B h v sz (L.flatMap cl) L.length ∧ ∀ p ∈ L, dp (fun j => n0 ≤ j ∧ ¬ B j) h p := by
    rcases s with ⟨rfl, rfl⟩ | ⟨q, rfl, h1, h2, h3, h4⟩
    · exact ⟨fun i => h.next ≤ i, fun _ h => h, fun i hi => ⟨by omega, .inr hi⟩, .inl ⟨rfl, rfl, rfl⟩, by simp⟩
    · refine ⟨fun i => i = q ∨ h.next ≤ i, fun _ h => .inr h, fun i hi => by rcases hi with rfl | hi <;> omega, .inr ⟨q, rfl, .inl rfl, by omega, c.at0 h2 h3, flatD hd L⟩, fun p hp => ?_⟩
      exact hd.imp (hd.chg (D := fun _ => False) (h4 p hp) (c.nil _) fun _ h => h.elim) fun j hj hb => ⟨hb.1, fun hh => by rcases hh with hh | hh; exact hb.2 hh; omega⟩
  refine ⟨B, hB, so, fun h5 out5 c5 s5 => ⟨c5.mono fun i _ hi => hB2 i hi, ?_⟩⟩
  have s5 : OwnS B h5 out5 sz ((L ++ [a]).flatMap cl) (L ++ [a]).length := by rw [e2, List.length_append]; exact s5
  have keep : ∀ {x : α}, dp (fun j => n0 ≤ j ∧ ¬ B j) h x → dp (fun j => n0 ≤ j ∧ ¬ B j ∧ j < h.next) h5 x := fun {x} y =>
    hd.chg (hd.imp y fun j hj hb => (⟨hb.1, hb.2, hj⟩ : n0 ≤ j ∧ ¬ B j ∧ j < h.next)) c5 fun j h1 h2 => h2.2.1 h1
  rcases s5 with ⟨_, h2, _⟩ | ⟨q, e5, bq, qn, oq, _⟩
  · rw [List.length_append] at h2; simp at h2
  · refine .inr ⟨q, e5, (hB2 q bq).1, qn, oq, fun p hp => ?_⟩
    have ne : ∀ j, ¬ B j → j ≠ q := fun j hj h => hj (h ▸ bq)
    rcases List.mem_append.1 hp with hp | hp
    · exact hd.imp (keep (sb p hp)) fun j _ hb => ⟨hb.1, ne j hb.2.1⟩
    · rw [List.mem_singleton] at hp
      subst hp
      have t' : dp (fun j => n0 ≤ j ∧ ¬ B j) h p := hd.imp t fun j hj hb => ⟨by omega, fun hh => by have := (hB2 j hh).2; omega⟩
      exact hd.imp (keep t') fun j _ hb => ⟨hb.1, ne j hb.2.1⟩
/-- A row put behind. -/
theorem push_row (hd : Deep sz cl dp) {n0 bytes : Nat} {h0 h : St} {v x : Value} {z : List Value} {L : List α} {a : α} {k : Cont} {Q R : St → Prop} (hn : n0 ≤ h0.next) (c : Chg h0 h []) (s : RowsO sz cl dp n0 h0 v L) (t : dp (fun j => h0.next ≤ j) h a) (hz : z.length = sz) (hx : x.cells.size = sz) (hxc : x.cells.toList = cl a) (h1 : allOne x.cells.toList = true) (hu : isUnk x = false)
    (hb : (L.length + 1) * bytes ≤ 140737488355328) (hb' : L.length + 1 ≤ 140737488355328) (hQ : ∀ h2, Chg h h2 [] → Q h2)
    (hk : ∀ h' v', ChgP (fun i => n0 ≤ i ∧ (i < h0.next ∨ h.next ≤ i)) h h' → RowsO sz cl dp n0 h' v' (L ++ [a]) → R h' ∧ k v' h') : buildSliceE sz 1 z [(0 * sz, sz, x)] h fun v2 h2 => Q h2 ∧ appendE sz bytes v v2 h2 fun v3 h3 => R h3 ∧ k v3 h3 := by
  obtain ⟨B, hB, so, fin⟩ := RowsO.opens hd hn c s t
  exact append_rowC (B := B) hB so hz hx h1 hu hb hb' hQ fun h5 out5 c5 s5 => hk h5 out5 (fin h5 out5 c5 (by rw [← hxc]; exact s5)).1 (fin h5 out5 c5 (by rw [← hxc]; exact s5)).2
theorem rows_at (hd : Deep sz cl dp) {B : Nat → Prop} {h0 : St} {v : Value} {L : List α} (s : RowsAt sz cl dp B h0 v L) {i : Nat} (hi : i < L.length) (k : IntKind) :
    ∃ b o, idxS sz v (.int k (i : Int)) = some (.pointer (some ⟨b, o, none⟩)) ∧ ∀ h, Chg h0 h [] → (∀ j, j < sz → loadV false 1 (.pointer (some ⟨b, o + j, none⟩)) h = (cl L[i])[j]?) ∧ loadV true sz (.pointer (some ⟨b, o, none⟩)) h = some (.agg (cl L[i]).toArray) := by
  obtain ⟨b, o, g1, g2, g3, cs, own, g4, g5⟩ := s.1.idx (i := (i : Int)) (by omega) (by omega) k
  have e : rowD cl L (i : Int).toNat = cl L[i] := by simp [rowD, hi]
  rw [e] at g5
  refine ⟨b, o, g1, fun h c => ⟨fun j hj => ?_, ?_⟩⟩
  · have g := c.at0 g3 g4
    simp only [loadV_ptr, g, loadM_cells, partV_one]
    exact row_cell g5 j hj
  · have g := c.at0 g3 g4
    simp only [loadV_ptr, g, loadM_cells, partV_agg, g5, Option.map_some]
end

/-! ### sends, answers -/
structure Sd where
  hs : Bool
  to : Nat
  cl : Bool
  b : List Nat
def cellsD (p : Sd × Value) : List Value := [.bool p.1.hs, .int .u32 (p.1.to : Int), p.2, .bool p.1.cl]
def dpS (B : Nat → Prop) (h : St) (p : Sd × Value) : Prop := By B h p.2 p.1.b
theorem deepS : Deep 4 cellsD dpS := ⟨fun _ => rfl, fun s c hD => SliceAt.chgP s c hD, fun s h => SliceAt.imp s h⟩
abbrev SdsAt := RowsAt 4 cellsD dpS
abbrev SdsO := RowsO 4 cellsD dpS
structure An where
  e : Int
  t : ByteArray
  v : Value
  P : List (Sd × Value)
def cellsA (a : An) : List Value := [.int .i64 a.e, .string a.t, a.v]
def dpA (B : Nat → Prop) (h : St) (a : An) : Prop := SdsAt B h a.v a.P
theorem deepA : Deep 3 cellsA dpA := ⟨fun _ => rfl, fun s c hD => RowsAt.chgP deepS s c hD, fun s h => RowsAt.imp deepS s h⟩
abbrev AnsAt := RowsAt 3 cellsA dpA
abbrev AnsO := RowsO 3 cellsA dpA
def sds (P : List (Sd × Value)) : List Sd := P.map (·.1)
theorem sds_len (P : List (Sd × Value)) : (sds P).length = P.length := List.length_map ..
def flagN (b : Bool) : Nat := if b = true then 1 else 0
def tb (t : ByteArray) : List Nat := t.data.toList.map UInt8.toNat
def tellS (s : Sd) : List Nat := putB (flagN s.hs) 1 ++ (putB s.to 4 ++ (putB (flagN s.cl) 1 ++ (putB s.b.length 4 ++ s.b)))
def cut255 (t : ByteArray) : List Nat := (tb t).take 255
def headA (e : Int) (t : ByteArray) (n : Nat) : List Nat := putB (e % 18446744073709551616).toNat 1 ++ (putB (cut255 t).length 1 ++ (cut255 t ++ putB n 2))
def tellA (a : An) : List Nat := headA a.e a.t a.P.length ++ (sds a.P).flatMap tellS
/-- What an answer is, without where it lies. -/
def coreA (a : An) : Int × ByteArray × List Sd := (a.e, a.t, sds a.P)
def tellC (c : Int × ByteArray × List Sd) : List Nat := headA c.1 c.2.1 c.2.2.length ++ c.2.2.flatMap tellS
theorem tell_core (a : An) : tellA a = tellC (coreA a) := by unfold tellA tellC coreA; simp only [sds_len]
theorem flag_lt (b : Bool) : flagN b < 256 := by unfold flagN; split <;> omega
theorem tb_size (t : ByteArray) : (tb t).length = t.size := by unfold tb; rw [List.length_map]; rfl
theorem cut_len (t : ByteArray) : (cut255 t).length = min 255 t.size := by unfold cut255; rw [List.length_take, tb_size]
theorem tellS_len (s : Sd) : (tellS s).length = 10 + s.b.length := by unfold tellS; simp only [List.length_append, putB_length]; omega
theorem tellA_len {a : An} (h1 : a.P.length ≤ 20) (h2 : ∀ p ∈ a.P, p.1.b.length ≤ 3000) : (tellA a).length ≤ 61000 := by
  have hs : ∀ (l : List Sd), (∀ s ∈ l, s.b.length ≤ 3000) → (l.flatMap tellS).length ≤ 3010 * l.length := by
    intro l
    induction l with
    | nil => intro _; simp
    | cons s l ih =>
      intro h
      have := h s (by simp)
      have := ih fun x hx => h x (by simp [hx])
      rw [List.flatMap_cons, List.length_append, tellS_len, List.length_cons]; omega
  have := hs (sds a.P) fun s hs => by obtain ⟨p, hp, rfl⟩ := List.mem_map.1 hs; exact h2 p hp
  rw [sds_len] at this
  unfold tellA headA
  simp only [List.length_append, putB_length, cut_len]; omega
/-! ### texts as bytes -/
theorem newCells_txt {s : ByteArray} {h : St} : newCells 1 (.string s) h = some ((tb s).map bc, (tb s).length) := by
  have e : (s.data.toList.map fun b => (Value.int .u8 b.toNat)) = (tb s).map bc := by unfold tb; rw [List.map_map]; rfl
  rw [tb_size, ← e]
  rfl
theorem append_txt {n0 : Nat} {h : St} {v : Value} {L : List Nat} {s : ByteArray} {k : Cont} (hn : n0 ≤ h.next) (o : ByO (fun i => n0 ≤ i) h v L) (few : L.length + s.size ≤ 1000000000000)
    (hk : ∀ h' v', ChgP (fun i => n0 ≤ i) h h' → ByO (fun i => n0 ≤ i) h' v' (L ++ tb s) → k v' h') : appendE 1 1 v (.string s) h k := by
  have ts := tb_size s
  refine append_own' (B := fun i => n0 ≤ i) hn o newCells_txt (by simp) (one_bc _) (by omega) (by omega) fun h' v' c o' => hk h' v' c ?_
  unfold ByO
  rw [List.map_append, List.length_append]; exact o'
theorem toBytes_in {s : ByteArray} {h : St} {k : Cont} (few : s.size ≤ 1000000000) (K : ∀ h' v', Chg h h' [] → By (fun j => h.next ≤ j) h' v' (tb s) → k v' h') : toBytesE (.string s) h k := by
  refine ⟨by omega, K _ _ (Chg.push _ _) ?_⟩
  have e : (s.data.toList.map fun b => (Value.int .u8 b.toNat)) = (tb s).map bc := by unfold tb; rw [List.map_map]; rfl
  refine .inr ⟨h.next, 0, none, 0, by rw [tb_size], .inl rfl, fun hn => ⟨Nat.le_refl _, by simp, _, false, push_at _ _, fun i hi => ?_⟩⟩
  rw [e]
  unfold takeN
  rw [if_pos (by rw [List.length_map]; omega), List.drop_eq_getElem_cons (by rw [List.length_map]; omega)]
  simp [rowC, hi]
theorem cut_txt (s : ByteArray) (n : Nat) (h : n ≤ s.size) : cutT (.string s) none (some (.int .i64 (n : Int))) = some (.string (s.extract 0 n)) := by
  have : loHi s.size s.size none (some (.int .i64 (n : Int))) = some (0, n) := by
    simp only [loHi]
    rw [if_pos (by omega)]
    simp
  simp only [cutT, this, Option.map_some]
theorem tb_cut (s : ByteArray) (n : Nat) (h : n ≤ s.size) : tb (s.extract 0 n) = (tb s).take n := by
  unfold tb
  rw [← List.map_take]
  congr 1
  have : (s.extract 0 n).data = s.data.extract 0 n := by simp [ByteArray.extract, ByteArray.copySlice]
  rw [this]
  simp [Array.toList_extract, List.extract_eq_take_drop]
/-! ### yes or no -/
def flagO : Abs.Spec := fun args h k => ∃ b : Bool, args = [.bool b] ∧ k (.int .u64 ((flagN b : Nat) : Int)) h
theorem flagO_good : SpecGood Tryz.prog (26, flagO) := by
  refine spec_good mixed Tryz.func26 (by kernel_rfl) (by kernel_rfl) (tab := []) (by simp) (keep := r_flag_keep) ?_
  rintro args h k ⟨b, rfl, H⟩
  refine ⟨0, ?_⟩
  show r_flag (tabC _) idG 0 (.bool b) h _
  rw [r_flag_eq]
  cases b
  · simp only [condK_bool, Bool.false_eq_true, if_false, idG_eq]; exact ⟨h, St.le.refl _, H⟩
  · simp only [condK_bool, if_true]; exact ⟨h, St.le.refl _, H⟩
def yesO : Abs.Spec := fun args h k => ∃ b : Bool, args = [.bool b] ∧ k (.int .u8 ((flagN b : Nat) : Int)) h
theorem yesO_good : SpecGood Tryz.prog (27, yesO) := by
  refine spec_good mixed Tryz.func27 (by kernel_rfl) (by kernel_rfl) (tab := []) (by simp) (keep := q_yes_keep) ?_
  rintro args h k ⟨b, rfl, H⟩
  refine ⟨0, ?_⟩
  show q_yes (tabC _) idG 0 (.bool b) h _
  rw [q_yes_eq]
  cases b
  · simp only [condK_bool, Bool.false_eq_true, if_false, idG_eq]; exact ⟨h, St.le.refl _, H⟩
  · simp only [condK_bool, if_true]; exact ⟨h, St.le.refl _, H⟩
/-- A box of one's own that holds a send. -/
def BxD (h : St) (b : Nat) (p : Sd × Value) : Prop := b < h.next ∧ h.objs b = some (.cells (cellsD p) true)
theorem BxD.chg0 {h h' : St} {b : Nat} {p : Sd × Value} (x : BxD h b p) (c : Chg h h' []) : BxD h' b p := ⟨Nat.lt_of_lt_of_le x.1 c.1, c.at0 x.1 x.2⟩
theorem BxD.ld {h : St} {b : Nat} {p : Sd × Value} (x : BxD h b p) : loadV false 1 (.pointer (some ⟨b, 0, none⟩)) h = some (.bool p.1.hs) ∧ loadV false 1 (.pointer (some ⟨b, 1, none⟩)) h = some (.int .u32 (p.1.to : Int)) ∧
    loadV false 1 (.pointer (some ⟨b, 2, none⟩)) h = some p.2 ∧ loadV false 1 (.pointer (some ⟨b, 3, none⟩)) h = some (.bool p.1.cl) := by
  obtain ⟨_, o⟩ := x
  refine ⟨?_, ?_, ?_, ?_⟩ <;> (simp only [loadV_ptr, o, loadM_cells, partV_one]; rfl)
theorem one_D {p : Sd × Value} (z : Abs.one p.2 = true) : allOne (cellsD p) = true := by simp [cellsD, allOne, z]
/-- A box of one's own that holds an answer. -/
def BxN (h : St) (b : Nat) (e : Int) (t : ByteArray) (v : Value) : Prop := b < h.next ∧ h.objs b = some (.cells [.int .i64 e, .string t, v] true)
theorem BxN.chg0 {h h' : St} {b : Nat} {e : Int} {t : ByteArray} {v : Value} (x : BxN h b e t v) (c : Chg h h' []) : BxN h' b e t v := ⟨Nat.lt_of_lt_of_le x.1 c.1, c.at0 x.1 x.2⟩
theorem BxN.chgP {D : Nat → Prop} {h h' : St} {b : Nat} {e : Int} {t : ByteArray} {v : Value} (x : BxN h b e t v) (c : ChgP D h h') (hD : ¬ D b) : BxN h' b e t v := ⟨Nat.lt_of_lt_of_le x.1 c.1, c.at x.1 hD x.2⟩
theorem BxN.ld {h : St} {b : Nat} {e : Int} {t : ByteArray} {v : Value} (x : BxN h b e t v) : loadV false 1 (.pointer (some ⟨b, 0, none⟩)) h = some (.int .i64 e) ∧ loadV false 1 (.pointer (some ⟨b, 1, none⟩)) h = some (.string t) ∧
    loadV false 1 (.pointer (some ⟨b, 2, none⟩)) h = some v ∧ loadV true 3 (.pointer (some ⟨b, 0, none⟩)) h = some (.agg #[.int .i64 e, .string t, v]) := by
  obtain ⟨_, o⟩ := x
  have tk : takeN [.int .i64 e, .string t, v] 0 3 = some [.int .i64 e, .string t, v] := rfl
  refine ⟨?_, ?_, ?_, ?_⟩
  · simp only [loadV_ptr, o, loadM_cells, partV_one]; rfl
  · simp only [loadV_ptr, o, loadM_cells, partV_one]; rfl
  · simp only [loadV_ptr, o, loadM_cells, partV_one]; rfl
  · simp only [loadV_ptr, o, loadM_cells, partV_agg, tk, Option.map_some]
theorem inR (h : St) : St.le h h := St.le.refl h
end Go.Proofs.YtnnjcenoihdhfaaGreatDoor
end

section
set_option linter.unusedSimpArgs false
set_option linter.unusedVariables false
set_option maxHeartbeats 4000000
namespace Go.Proofs.YtnnjcenoihdhfaaGreatDoor
open Go.Abs Go.IntWalk
attribute [local congr] bindV_weak condK_weak guardK_weak groupK_weak allocE_weak boxE_weak storeE_weak storeM_weak tabC_weak ite_weak idG_weak appendE_weak buildSliceE_weak mapUpdateE_weak deleteE_weak makeMapE_weak copyE_weak clearE_weak callE_weak

theorem take_tell {l : List Sd} {i : Nat} (hi : i < l.length) : (l.take (i + 1)).flatMap tellS = (l.take i).flatMap tellS ++ tellS l[i] := by
  rw [List.take_succ_eq_append_getElem hi, List.flatMap_append]; simp
theorem sds_at (P : List (Sd × Value)) {i : Nat} (hi : i < P.length) : (sds P)[i]'(by rw [sds_len]; exact hi) = P[i].1 := List.getElem_map (fun x : Sd × Value => x.1)
theorem pre_tell {l : List Sd} (h : ∀ s ∈ l, s.b.length ≤ 3000) (few : l.length ≤ 20) (i : Nat) : ((l.take i).flatMap tellS).length ≤ 60200 := by
  have hs : ∀ (l : List Sd), (∀ s ∈ l, s.b.length ≤ 3000) → (l.flatMap tellS).length ≤ 3010 * l.length := by
    intro l
    induction l with
    | nil => intro _; simp
    | cons s l ih =>
      intro h
      have := h s (by simp)
      have := ih fun x hx => h x (by simp [hx])
      rw [List.flatMap_cons, List.length_append, tellS_len, List.length_cons]; omega
  have := hs (l.take i) fun s hs => h s (List.mem_of_mem_take hs)
  rw [List.length_take] at this; omega
/-- What is asked of answers. -/
def FitP (P : List (Sd × Value)) : Prop := P.length ≤ 20 ∧ ∀ p ∈ P, p.1.b.length ≤ 3000 ∧ p.1.to < 4294967296
def tabTe : List (FuncId × Abs.Spec) := [(19, putO), (26, flagO)]
theorem tabTe_good : ∀ p ∈ tabTe, SpecGood Tryz.prog p := by simp [tabTe, putO_good, flagO_good]
theorem rsends {nn m0 : Nat} {x2 x10 x11 x12 sv : Value} {B : Nat → Prop} {P : List (Sd × Value)} {h0 : St} {K : Cont} {L0 : List Nat} (fit : FitP P) (l0 : L0.length ≤ 10000000) (s : SdsAt B h0 sv P)
    (go : ∀ h' out', Chg h0 h' [] → ByO (fun j => h0.next ≤ j) h' out' (L0 ++ (sds P).flatMap tellS) → r_Tell_j3 (tabC tabTe) idG nn m0 x2 out' x10 x11 x12 sv (.int .i64 (P.length : Int)) (.int .i64 (P.length : Int)) h' K) :
    ∀ (d i m1 : Nat) (h : St) (out : Value), i + d = P.length → d < m1 → Chg h0 h [] → ByO (fun j => h0.next ≤ j) h out (L0 ++ ((sds P).take i).flatMap tellS) →
      r_Tell_l1 (tabC tabTe) idG nn m0 m1 x2 out x10 x11 x12 sv (.int .i64 (P.length : Int)) (.int .i64 (i : Int)) h K := by
  have pl := pre_tell (l := sds P) (fun s hs => by obtain ⟨p, hp, rfl⟩ := List.mem_map.1 hs; exact (fit.2 p hp).1) (by rw [sds_len]; exact fit.1)
  have few := fit.1
  intro d
  induction d with
  | zero =>
    intro i m1 h out hi hm c o
    obtain ⟨m1, rfl⟩ : ∃ m, m1 = m + 1 := ⟨m1 - 1, by omega⟩
    rw [r_Tell_l1_eq]
    have e' : i = P.length := by omega
    subst e'
    rw [List.take_of_length_le (by rw [sds_len]; omega)] at o
    simp only [binV_lss, bindV_some, condK_bool, Int.lt_irrefl, decide_false, Bool.false_eq_true, if_false, idG_eq]
    exact go h out c o
  | succ d ih =>
    intro i m1 h out hi hm c o
    obtain ⟨m1, rfl⟩ : ∃ m, m1 = m + 1 := ⟨m1 - 1, by omega⟩
    rw [r_Tell_l1_eq]
    have hlt : (i : Int) < P.length := by omega
    have hi' : i < P.length := by omega
    obtain ⟨b, oo, g1, g2⟩ := rows_at deepS s hi' .i64
    have tp : By B h0 P[i].2 P[i].1.b := s.2 _ (List.getElem_mem hi')
    have ts := take_tell (l := sds P) (i := i) (by rw [sds_len]; exact hi')
    rw [sds_at P hi'] at ts
    have fp := fit.2 _ (List.getElem_mem hi')
    have p0 := pl i
    obtain ⟨p, ep⟩ : ∃ p, p = P[i]'hi' := ⟨_, rfl⟩
    rw [← ep] at g2 tp ts fp
    obtain ⟨sd, x⟩ := p
    simp only at tp ts fp
    obtain ⟨_, f4⟩ := g2 h c
    have z := SliceAt.one tp
    obtain ⟨L, eL⟩ : ∃ L, L = L0 ++ ((sds P).take i).flatMap tellS := ⟨_, rfl⟩
    rw [← eL] at o
    have lL : L.length ≤ 10060200 := by rw [eL, List.length_append]; omega
    simp only [bindV_some, binV_lss, condK_bool, hlt, decide_true, if_true, idG_eq, g1, f4]
    refine allocE_in fun h1 c1 n1 o1 => ?_
    refine storeE_all o1 rfl rfl (one_D (p := (sd, x)) z) fun h2 c2 n2 o2 => ?_
    have x2 : BxD h2 h.next (sd, x) := ⟨by omega, o2⟩
    have c02 : Chg h h2 [] := c1.new c2 (Nat.le_refl _)
    have w1 : wrapV .u64 (.int .u32 (sd.to : Int)) = some (.int .u64 (sd.to : Int)) := by rw [wrapV_int, u64_wrap _ (by omega)]
    have w3 : wrapV .u64 (.int .i64 (sd.b.length : Int)) = some (.int .u64 (sd.b.length : Int)) := by rw [wrapV_int, u64_wrap _ (by omega)]
    have q1 := putB_length (flagN sd.hs) 1
    have q2 := putB_length sd.to 4
    have q3 := putB_length (flagN sd.cl) 1
    have q4 := putB_length sd.b.length 4
    simp only [offV_ptr, Nat.zero_add, bindV_some, x2.ld.1]
    refine cK (S := flagO) (by simp [tabTe]) ⟨sd.hs, rfl, ?_⟩
    refine cK (S := putO) (by simp [tabTe]) ⟨_, out, L, flagN sd.hs, 1, rfl, by omega, by omega, own_bytes (OwnS.chg o c02 (by simp)), fun h3 v3 c3 o3 => ?_⟩
    have x3 := x2.chg0 c3
    simp only [offV_ptr, Nat.zero_add, bindV_some, x3.ld.2.1, w1]
    refine cK (S := putO) (by simp [tabTe]) ⟨_, v3, _, sd.to, 4, rfl, by omega, by simp only [List.length_append]; omega, own_bytes o3, fun h4 v4 c4 o4 => ?_⟩
    have x4 := x3.chg0 c4
    simp only [offV_ptr, Nat.zero_add, bindV_some, x4.ld.2.2.2]
    refine cK (S := flagO) (by simp [tabTe]) ⟨sd.cl, rfl, ?_⟩
    refine cK (S := putO) (by simp [tabTe]) ⟨_, v4, _, flagN sd.cl, 1, rfl, by omega, by simp only [List.length_append]; omega, own_bytes o4, fun h5 v5 c5 o5 => ?_⟩
    have x5 := x4.chg0 c5
    simp only [offV_ptr, Nat.zero_add, bindV_some, x5.ld.2.2.1, SliceAt.len tp, w3]
    refine cK (S := putO) (by simp [tabTe]) ⟨_, v5, _, sd.b.length, 4, rfl, by omega, by simp only [List.length_append]; omega, own_bytes o5, fun h6 v6 c6 o6 => ?_⟩
    have x6 := x5.chg0 c6
    have c26 : Chg h2 h6 [] := ((c3.seq c4).seq c5).seq c6
    have c06 : Chg h h6 [] := c02.seq c26
    have m6 : h0.next ≤ h5.next := by have := c.1; have := c02.1; have := c3.1; have := c4.1; have := c5.1; omega
    simp only [offV_ptr, Nat.zero_add, bindV_some, x6.ld.2.2.1]
    refine append_by (n0 := h0.next) (by have := c6.1; omega) (OwnS.imp o6 fun j _ hj => by omega) (tp.chg0 (c.seq c06)) (by simp only [List.length_append]; omega) fun h7 v7 c7 o7 => ?_
    simp only [idG_eq, binNil_int, binV_add, inc (show i ≤ 1000000000000 by omega), bindV_some]
    refine ih (i + 1) m1 h7 v7 (by omega) (by omega) (fresh_out (c.seq c06) c7) ?_
    rw [ts]
    have : L ++ putB (flagN sd.hs) 1 ++ putB sd.to 4 ++ putB (flagN sd.cl) 1 ++ putB sd.b.length 4 ++ sd.b = L0 ++ (((sds P).take i).flatMap tellS ++ tellS sd) := by rw [eL]; unfold tellS; simp only [List.append_assoc]
    rw [this] at o7
    exact o7
theorem u64_mod (e : Int) : IntKind.u64.wrap e = (((e % 18446744073709551616).toNat : Nat) : Int) := by
  have : IntKind.u64.wrap e = e % 18446744073709551616 := by simp [IntKind.wrap, IntKind.bits, IntKind.signed]
  rw [this]; omega
/-- What is asked of answers. -/
def FitA (A : List An) : Prop := A.length ≤ 20 ∧ ∀ a ∈ A, FitP a.P ∧ a.t.size ≤ 3000
theorem fit_len {A : List An} (h : FitA A) (i : Nat) : ((A.take i).flatMap tellA).length ≤ 1220000 := by
  have hs : ∀ (l : List An), (∀ a ∈ l, FitP a.P) → (l.flatMap tellA).length ≤ 61000 * l.length := by
    intro l
    induction l with
    | nil => intro _; simp
    | cons a l ih =>
      intro h
      have h1 := h a (by simp)
      have := tellA_len h1.1 fun p hp => (h1.2 p hp).1
      have := ih fun x hx => h x (by simp [hx])
      rw [List.flatMap_cons, List.length_append, List.length_cons]; omega
  have := hs (A.take i) fun a ha => (h.2 a (List.mem_of_mem_take ha)).1
  have := h.1
  rw [List.length_take] at *; omega
theorem take_tellA {l : List An} {i : Nat} (hi : i < l.length) : (l.take (i + 1)).flatMap tellA = (l.take i).flatMap tellA ++ tellA l[i] := by
  rw [List.take_succ_eq_append_getElem hi, List.flatMap_append]; simp
def tellO : Abs.Spec := fun args h k => ∃ (B : Nat → Prop) (v : Value) (A : List An), args = [v] ∧ FitA A ∧ AnsAt B h v A ∧ ∀ h' sv, Chg h h' [] → By (fun j => h.next ≤ j) h' sv (A.flatMap tellA) → k sv h'
theorem min_len {n m : Nat} (h : n ≤ m) : minV [.int .i64 (n : Int), .int .i64 (m : Int)] = some (.int .i64 (n : Int)) := by
  simp only [minV, if_true]
  rw [if_neg (by omega)]
theorem min255 (n : Nat) : minV [.int .i64 (n : Int), .int .i64 255] = some (.int .i64 ((min 255 n : Nat) : Int)) := by
  simp only [minV, if_true]
  congr 2
  split <;> omega
theorem cut_all {B : Nat → Prop} {h : St} {v : Value} {P : List (Sd × Value)} (s : SdsAt B h v P) : ∃ v', cutS 4 v none (some (.int .i64 (P.length : Int))) = some v' ∧ SdsAt B h v' P := by
  obtain ⟨v', g1, g2⟩ := SliceAt.cut s.1 (loHi_hi (k := .i64) (Nat.le_refl P.length)) (Nat.zero_le _) (Nat.le_refl _)
  refine ⟨v', g1, ?_, s.2⟩
  rw [Nat.sub_zero] at g2
  exact g2.rows fun i hi => by rw [Nat.zero_add]
theorem rtell_l0 {nn : Nat} {x2 v : Value} {B : Nat → Prop} {A : List An} {h0 : St} {k : Cont} (fit : FitA A) (nn20 : 20 < nn) (s : AnsAt B h0 v A) (H : ∀ h' sv, Chg h0 h' [] → By (fun j => h0.next ≤ j) h' sv (A.flatMap tellA) → k sv h') :
    ∀ (d i m0 : Nat) (h : St) (out x48 x49 x50 : Value), i + d = A.length → d + 20 < m0 → Chg h0 h [] → ByO (fun j => h0.next ≤ j) h out ((A.take i).flatMap tellA) →
      r_Tell_l0 (tabC tabTe) idG nn m0 x2 out v (.int .i64 (A.length : Int)) (.int .i64 (i : Int)) x48 x49 x50 h (fun v h1 => ∃ h2, St.le h2 h1 ∧ k v h2) := by
  intro d
  induction d with
  | zero =>
    intro i m0 h out x48 x49 x50 hi hm c o
    obtain ⟨m0, rfl⟩ : ∃ m, m0 = m + 1 := ⟨m0 - 1, by omega⟩
    rw [r_Tell_l0_eq]
    have e' : i = A.length := by omega
    subst e'
    rw [List.take_length] at o
    simp only [binV_lss, bindV_some, condK_bool, Int.lt_irrefl, decide_false, Bool.false_eq_true, if_false, idG_eq]
    rw [r_Tell_j2_eq]
    exact ⟨h, St.le.refl _, H h out c (own_bytes o)⟩
  | succ d ih =>
    intro i m0 h out x48 x49 x50 hi hm c o
    obtain ⟨m0, rfl⟩ : ∃ m, m0 = m + 1 := ⟨m0 - 1, by omega⟩
    rw [r_Tell_l0_eq]
    have hlt : (i : Int) < A.length := by omega
    have hi' : i < A.length := by omega
    obtain ⟨b, oo, g1, g2⟩ := rows_at deepA s hi' .i64
    have tp : SdsAt B h0 A[i].v A[i].P := s.2 _ (List.getElem_mem hi')
    have ts := take_tellA hi'
    have fp := fit.2 _ (List.getElem_mem hi')
    have p0 := fit_len fit i
    obtain ⟨a, ea⟩ : ∃ a, a = A[i]'hi' := ⟨_, rfl⟩
    rw [← ea] at g2 tp ts fp
    obtain ⟨e, t, x, P⟩ := a
    simp only at tp ts fp
    obtain ⟨_, f4⟩ := g2 h c
    obtain ⟨L, eL⟩ : ∃ L, L = (A.take i).flatMap tellA := ⟨_, rfl⟩
    rw [← eL] at o p0 ts
    have z := SliceAt.one tp.1
    have f4 : loadV true 3 (.pointer (some ⟨b, oo, none⟩)) h = some (.agg #[.int .i64 e, .string t, x]) := f4
    simp only [bindV_some, binV_lss, condK_bool, hlt, decide_true, if_true, idG_eq, g1, f4]
    refine allocE_in fun h1 c1 n1 o1 => ?_
    refine storeE_all o1 rfl rfl (by show allOne [_, _, x] = true; simp [allOne, z]) fun h2 c2 n2 o2 => ?_
    have x2 : BxN h2 h.next e t x := ⟨by omega, o2⟩
    have c02 : Chg h h2 [] := c1.new c2 (Nat.le_refl _)
    obtain ⟨f0, f1, f2, _⟩ := x2.ld
    obtain ⟨x', q1, q2⟩ := cut_all tp
    have P20 := fp.1.1
    have t3 := fp.2
    have mt : min 255 t.size ≤ t.size := by omega
    have ct := cut_txt t (min 255 t.size) mt
    have ce : tb (t.extract 0 (min 255 t.size)) = cut255 t := by
      rw [tb_cut t _ mt]
      unfold cut255
      have := tb_size t
      by_cases hh : t.size ≤ 255
      · rw [List.take_of_length_le (by omega), List.take_of_length_le (by omega)]
      · rw [show min 255 t.size = 255 by omega]
    have cl : (t.extract 0 (min 255 t.size)).size = (cut255 t).length := by rw [← ce, tb_size]
    have c255 := cut_len t
    have lP := min_len (n := P.length) (m := 65535) (by omega)
    have lP : minV [.int .i64 (P.length : Int), .int .i64 65535] = some (.int .i64 (P.length : Int)) := lP
    have w0 : wrapV .u64 (.int .i64 e) = some (.int .u64 (((e % 18446744073709551616).toNat : Nat) : Int)) := by rw [wrapV_int, u64_mod]
    have w1 : wrapV .u64 (.int .i64 ((cut255 t).length : Int)) = some (.int .u64 ((cut255 t).length : Int)) := by rw [wrapV_int, u64_wrap _ (by omega)]
    have w2 : wrapV .u64 (.int .i64 (P.length : Int)) = some (.int .u64 (P.length : Int)) := by rw [wrapV_int, u64_wrap _ (by omega)]
    have l0 := putB_length (e % 18446744073709551616).toNat 1
    have l1 := putB_length (cut255 t).length 1
    have l2 := putB_length P.length 2
    simp only [offV_ptr, Nat.zero_add, bindV_some, f0, f1, f2, lenT_string, min255, ct, SliceAt.len tp.1, lP, q1, w0]
    refine cK (S := putO) (by simp [tabTe]) ⟨_, out, L, (e % 18446744073709551616).toNat, 1, rfl, by omega, by omega, own_bytes (OwnS.chg o c02 (by simp)), fun h3 v3 c3 o3 => ?_⟩
    simp only [lenT_string, cl, w1, bindV_some]
    refine cK (S := putO) (by simp [tabTe]) ⟨_, v3, _, (cut255 t).length, 1, rfl, by omega, by simp only [List.length_append]; omega, own_bytes o3, fun h4 v4 c4 o4 => ?_⟩
    have c04 : Chg h h4 [] := (c02.seq c3).seq c4
    have m3 : h0.next ≤ h3.next := by have := c.1; have := c02.1; have := c3.1; omega
    refine append_txt (n0 := h0.next) (by have := c4.1; omega) (OwnS.imp o4 fun j _ hj => by omega) (by simp only [List.length_append]; omega) fun h5 v5 c5 o5 => ?_
    rw [ce] at o5
    have c05 : Chg h0 h5 [] := fresh_out (c.seq c04) c5
    simp only [SliceAt.len q2.1, w2, bindV_some]
    refine cK (S := putO) (by simp [tabTe]) ⟨_, v5, _, P.length, 2, rfl, by omega, by simp only [List.length_append]; omega, own_bytes o5, fun h6 v6 c6 o6 => ?_⟩
    simp only [SliceAt.len q2.1, bindV_some, idG_eq]
    have m5 := c05.1
    refine rsends (h0 := h0) (L0 := L ++ putB (e % 18446744073709551616).toNat 1 ++ putB (cut255 t).length 1 ++ cut255 t ++ putB P.length 2) fp.1 (by simp only [List.length_append]; omega) q2 (fun h7 out7 c7 o7 => ?_) P.length 0 m0 h6 v6 (by omega) (by omega) (c05.seq c6) ?_
    · rw [r_Tell_j3_eq]
      simp only [binNil_int, binV_add, inc (show i ≤ 1000000000000 by have := fit.1; omega), bindV_some, idG_eq]
      refine ih (i + 1) m0 h7 out7 _ _ _ (by omega) (by omega) c7 ?_
      rw [ts]
      have : L ++ putB (e % 18446744073709551616).toNat 1 ++ putB (cut255 t).length 1 ++ cut255 t ++ putB P.length 2 ++ (sds P).flatMap tellS = L ++ tellA ⟨e, t, x, P⟩ := by unfold tellA headA; simp only [List.append_assoc]
      rw [this] at o7
      exact o7
    · rw [List.take_zero, List.flatMap_nil, List.append_nil]
      exact OwnS.imp o6 fun j _ hj => by omega
theorem rtellO_good : SpecGood Tryz.prog (17, tellO) := by
  refine spec_good mixed Tryz.func17 (by kernel_rfl) (by kernel_rfl) (tab := tabTe) tabTe_good (keep := r_Tell_keep) ?_
  rintro args h k ⟨B, v, A, rfl, fit, s, H⟩
  refine ⟨A.length + 30, ?_⟩
  show r_Tell (tabC _) idG _ v h _
  rw [r_Tell_eq]
  simp only [SliceAt.len s.1, bindV_some, idG_eq]
  exact rtell_l0 fit (by omega) s H A.length 0 _ h _ _ _ _ (by omega) (by omega) (Chg.refl _ _) ByO.nil
end Go.Proofs.YtnnjcenoihdhfaaGreatDoor
end

section
set_option linter.unusedSimpArgs false
set_option linter.unusedVariables false
set_option maxHeartbeats 4000000
namespace Go.Proofs.YtnnjcenoihdhfaaGreatDoor
open Go.Abs Go.IntWalk
attribute [local congr] bindV_weak condK_weak guardK_weak groupK_weak allocE_weak boxE_weak storeE_weak storeM_weak tabC_weak ite_weak idG_weak appendE_weak buildSliceE_weak mapUpdateE_weak deleteE_weak makeMapE_weak copyE_weak clearE_weak callE_weak

def tabTq : List (FuncId × Abs.Spec) := [(20, refPutO), (27, yesO)]
theorem tabTq_good : ∀ p ∈ tabTq, SpecGood Tryz.prog p := by simp [tabTq, refPutO_good, yesO_good]
theorem asBy {hh : St} {n : Nat} {x : Value} {n' w : Nat} (q : OwnS (fun j => n ≤ j) hh x 1 ((putB n' w).map bc) w) : By (fun j => n ≤ j) hh x (putB n' w) := by
  have : OwnS (fun j => n ≤ j) hh x 1 ((putB n' w).map bc) (putB n' w).length := by rw [putB_length]; exact q
  exact own_bytes this
theorem putB_one (n : Nat) : putB n 1 = [n % 256] := by
  unfold putB putB
  rw [show (256 : Nat) ^ 0 = 1 from rfl, Nat.div_one]
theorem BxD.chgP {D : Nat → Prop} {h h' : St} {b : Nat} {p : Sd × Value} (x : BxD h b p) (c : ChgP D h h') (hD : ¬ D b) : BxD h' b p := ⟨Nat.lt_of_lt_of_le x.1 c.1, c.at x.1 hD x.2⟩
theorem lt_natQ (a b : Nat) : binV .lss .other (.int .i64 (a : Int)) (.int .i64 (b : Int)) = some (.bool (decide (a < b))) := by
  rw [binV_lss, show decide ((a : Int) < (b : Int)) = decide (a < b) from decide_eq_decide.2 (by omega)]
theorem gtQ {a : Nat} (n : Nat) : binNil .gtr .other (.int .i64 (a : Int)) (.int .i64 (n : Int)) = some (.bool (decide (n < a))) := by
  rw [binNil_int, binV_gtr, show decide ((a : Int) > (n : Int)) = decide (n < a) from decide_eq_decide.2 (by omega)]
theorem qsends {nn m0 b : Nat} {x0 x2 x4 x : Value} {B : Nat → Prop} {P : List (Sd × Value)} {e : Int} {t : ByteArray} {h0 : St} {K : Cont} {L0 : List Nat} (fit : FitP P) (l0 : L0.length ≤ 10000000) (s : SdsAt B h0 x P) (hb : h0.next ≤ b)
    (go : ∀ h' out', Chg h0 h' [] → BxN h' b e t x → ByO (fun j => h0.next ≤ j ∧ j ≠ b) h' out' (L0 ++ (sds P).flatMap tellS) → q_Tell_j5 (tabC tabTq) idG nn m0 x0 x2 out' x4 (.pointer (some ⟨b, 0, none⟩)) (.int .i64 (P.length : Int)) h' K) :
    ∀ (d i m1 : Nat) (h : St) (out : Value), i + d = P.length → d < m1 → Chg h0 h [] → BxN h b e t x → ByO (fun j => h0.next ≤ j ∧ j ≠ b) h out (L0 ++ ((sds P).take i).flatMap tellS) →
      q_Tell_l4 (tabC tabTq) idG nn m0 m1 x0 x2 out x4 (.pointer (some ⟨b, 0, none⟩)) (.int .i64 (i : Int)) h K := by
  have pl := pre_tell (l := sds P) (fun s hs => by obtain ⟨p, hp, rfl⟩ := List.mem_map.1 hs; exact (fit.2 p hp).1) (by rw [sds_len]; exact fit.1)
  have few := fit.1
  intro d
  induction d with
  | zero =>
    intro i m1 h out hi hm c xn o
    obtain ⟨m1, rfl⟩ : ∃ m, m1 = m + 1 := ⟨m1 - 1, by omega⟩
    rw [q_Tell_l4_eq]
    have e' : i = P.length := by omega
    subst e'
    rw [List.take_of_length_le (by rw [sds_len]; omega)] at o
    simp only [offV_ptr, Nat.zero_add, bindV_some, xn.ld.2.2.1, SliceAt.len s.1, binV_lss, condK_bool, Int.lt_irrefl, decide_false, Bool.false_eq_true, if_false, idG_eq]
    exact go h out c xn o
  | succ d ih =>
    intro i m1 h out hi hm c xn o
    obtain ⟨m1, rfl⟩ : ∃ m, m1 = m + 1 := ⟨m1 - 1, by omega⟩
    rw [q_Tell_l4_eq]
    have hlt : (i : Int) < P.length := by omega
    have hi' : i < P.length := by omega
    obtain ⟨rb, oo, g1, g2⟩ := rows_at deepS s hi' .i64
    have tp : By B h0 P[i].2 P[i].1.b := s.2 _ (List.getElem_mem hi')
    have ts := take_tell (l := sds P) (i := i) (by rw [sds_len]; exact hi')
    rw [sds_at P hi'] at ts
    have fp := fit.2 _ (List.getElem_mem hi')
    have p0 := pl i
    obtain ⟨p, ep⟩ : ∃ p, p = P[i]'hi' := ⟨_, rfl⟩
    rw [← ep] at g2 tp ts fp
    obtain ⟨sd, x'⟩ := p
    simp only at tp ts fp
    obtain ⟨_, f4⟩ := g2 h c
    have z := SliceAt.one tp
    obtain ⟨L, eL⟩ : ∃ L, L = L0 ++ ((sds P).take i).flatMap tellS := ⟨_, rfl⟩
    rw [← eL] at o
    have lL : L.length ≤ 10060200 := by rw [eL, List.length_append]; omega
    have w1 : wrapV .u64 (.int .u32 (sd.to : Int)) = some (.int .u64 (sd.to : Int)) := by rw [wrapV_int, u64_wrap _ (by omega)]
    have w3 : wrapV .u64 (.int .i64 (sd.b.length : Int)) = some (.int .u64 (sd.b.length : Int)) := by rw [wrapV_int, u64_wrap _ (by omega)]
    have q1 := putB_length sd.to 4
    have q4 := putB_length sd.b.length 4
    have hn := xn.1
    have mc := c.1
    simp only [offV_ptr, Nat.zero_add, bindV_some, xn.ld.2.2.1, SliceAt.len s.1, binV_lss, condK_bool, hlt, decide_true, if_true, idG_eq, g1, f4]
    refine allocE_in fun h1 c1 n1 o1 => ?_
    refine storeE_all o1 rfl rfl (one_D (p := (sd, x')) z) fun h2 c2 n2 o2 => ?_
    have x2 : BxD h2 h.next (sd, x') := ⟨by omega, o2⟩
    have c02 : Chg h h2 [] := c1.new c2 (Nat.le_refl _)
    have xn2 := xn.chg0 c02
    -- what may be written: what is neither box
    have outq : ∀ {ha hb : St}, Chg h0 ha [] → ChgP (fun j => (h0.next ≤ j ∧ j ≠ b) ∧ j ≠ h.next) ha hb → Chg h0 hb [] := fun {ha hb} ca cc => fresh_out ca (cc.mono fun _ _ h => h.1.1)
    have hB : ∀ {ha : St}, h.next < ha.next → ∀ i, ha.next ≤ i → (h0.next ≤ i ∧ i ≠ b) ∧ i ≠ h.next := fun {ha} hx i hi => by omega
    have s1 : ∀ {ha hb : St}, ChgP (fun j => (h0.next ≤ j ∧ j ≠ b) ∧ j ≠ h.next) ha hb → BxD ha h.next (sd, x') → BxD hb h.next (sd, x') := fun {ha hb} cc x => x.chgP cc fun hh => hh.2 rfl
    have s2 : ∀ {ha hb : St}, ChgP (fun j => (h0.next ≤ j ∧ j ≠ b) ∧ j ≠ h.next) ha hb → BxN ha b e t x → BxN hb b e t x := fun {ha hb} cc x => x.chgP cc fun hh => hh.1.2 rfl
    have oo2 : ByO (fun j => (h0.next ≤ j ∧ j ≠ b) ∧ j ≠ h.next) h2 out L := OwnS.chg (OwnS.imp o fun j hj hb => (⟨hb, by omega⟩ : (h0.next ≤ j ∧ j ≠ b) ∧ j ≠ h.next)) c02 (by simp)
    simp only [offV_ptr, Nat.zero_add, bindV_some, x2.ld.1]
    refine cK (S := yesO) (by simp [tabTq]) ⟨sd.hs, rfl, ?_⟩
    refine push_byB (B0 := fun j => (h0.next ≤ j ∧ j ≠ b) ∧ j ≠ h.next) (hB x2.1) oo2 (by omega) fun h3 v3 c3 o3 => ?_
    have x3 := s1 c3 x2
    have y3 := s2 c3 xn2
    have e3 := outq (c.seq c02) c3
    simp only [offV_ptr, Nat.zero_add, bindV_some, x3.ld.2.1, w1]
    refine cK (S := refPutO) (by simp [tabTq]) ⟨sd.to, 4, rfl, by omega, by omega, fun h4 p4 c4 r4 => ?_⟩
    have x4 := x3.chg0 c4
    have y4 := y3.chg0 c4
    refine append_byB (B0 := fun j => (h0.next ≤ j ∧ j ≠ b) ∧ j ≠ h.next) (hB x4.1) (OwnS.chg o3 c4 (by simp)) (asBy r4) (by simp only [List.length_append, List.length_cons, List.length_nil]; omega) fun h5 v5 c5 o5 => ?_
    have x5 := s1 c5 x4
    have y5 := s2 c5 y4
    have e5 := outq (e3.seq c4) c5
    simp only [offV_ptr, Nat.zero_add, bindV_some, x5.ld.2.2.2]
    refine cK (S := yesO) (by simp [tabTq]) ⟨sd.cl, rfl, ?_⟩
    refine push_byB (B0 := fun j => (h0.next ≤ j ∧ j ≠ b) ∧ j ≠ h.next) (hB x5.1) o5 (by simp only [List.length_append, List.length_cons, List.length_nil]; omega) fun h6 v6 c6 o6 => ?_
    have x6 := s1 c6 x5
    have y6 := s2 c6 y5
    have e6 := outq e5 c6
    simp only [offV_ptr, Nat.zero_add, bindV_some, x6.ld.2.2.1, SliceAt.len tp, w3]
    refine cK (S := refPutO) (by simp [tabTq]) ⟨sd.b.length, 4, rfl, by omega, by omega, fun h7 p7 c7 r7 => ?_⟩
    have x7 := x6.chg0 c7
    have y7 := y6.chg0 c7
    refine append_byB (B0 := fun j => (h0.next ≤ j ∧ j ≠ b) ∧ j ≠ h.next) (hB x7.1) (OwnS.chg o6 c7 (by simp)) (asBy r7) (by simp only [List.length_append, List.length_cons, List.length_nil]; omega) fun h8 v8 c8 o8 => ?_
    have x8 := s1 c8 x7
    have y8 := s2 c8 y7
    have e8 := outq (e6.seq c7) c8
    simp only [offV_ptr, Nat.zero_add, bindV_some, x8.ld.2.2.1]
    refine append_byB (B0 := fun j => (h0.next ≤ j ∧ j ≠ b) ∧ j ≠ h.next) (hB x8.1) o8 (tp.chg0 e8) (by simp only [List.length_append, List.length_cons, List.length_nil]; omega) fun h9 v9 c9 o9 => ?_
    simp only [idG_eq, binNil_int, binV_add, inc (show i ≤ 1000000000000 by omega), bindV_some]
    refine ih (i + 1) m1 h9 v9 (by omega) (by omega) (outq e8 c9) (s2 c9 y8) ?_
    rw [ts]
    have : L ++ [flagN sd.hs] ++ putB sd.to 4 ++ [flagN sd.cl] ++ putB sd.b.length 4 ++ sd.b = L0 ++ (((sds P).take i).flatMap tellS ++ tellS sd) := by
      rw [eL]; unfold tellS; rw [putB1 (flag_lt sd.hs), putB1 (flag_lt sd.cl)]; simp only [List.append_assoc]
    rw [this] at o9
    exact OwnS.imp o9 fun _ _ h => h.1
theorem cut_short {t : ByteArray} (h : t.size ≤ 255) : cut255 t = tb t := by unfold cut255; exact List.take_of_length_le (by rw [tb_size]; exact h)
theorem qtell_l0 {nn : Nat} {x2 v : Value} {B : Nat → Prop} {A : List An} {h0 : St} {k : Cont} (fit : FitA A) (s : AnsAt B h0 v A) (H : ∀ h' sv, Chg h0 h' [] → By (fun j => h0.next ≤ j) h' sv (A.flatMap tellA) → k sv h') :
    ∀ (d i m0 : Nat) (h : St) (out x5 x6 : Value), i + d = A.length → d + 20 < m0 → Chg h0 h [] → ByO (fun j => h0.next ≤ j) h out ((A.take i).flatMap tellA) →
      q_Tell_l0 (tabC tabTq) idG nn m0 v x2 out (.int .i64 (i : Int)) x5 x6 h (fun v h1 => ∃ h2, St.le h2 h1 ∧ k v h2) := by
  intro d
  induction d with
  | zero =>
    intro i m0 h out x5 x6 hi hm c o
    obtain ⟨m0, rfl⟩ : ∃ m, m0 = m + 1 := ⟨m0 - 1, by omega⟩
    rw [q_Tell_l0_eq]
    have e' : i = A.length := by omega
    subst e'
    rw [List.take_length] at o
    simp only [SliceAt.len s.1, binV_lss, bindV_some, condK_bool, Int.lt_irrefl, decide_false, Bool.false_eq_true, if_false, idG_eq]
    rw [q_Tell_j2_eq]
    exact ⟨h, St.le.refl _, H h out c (own_bytes o)⟩
  | succ d ih =>
    intro i m0 h out x5 x6 hi hm c o
    obtain ⟨m0, rfl⟩ : ∃ m, m0 = m + 1 := ⟨m0 - 1, by omega⟩
    rw [q_Tell_l0_eq]
    have hlt : (i : Int) < A.length := by omega
    have hi' : i < A.length := by omega
    obtain ⟨rb, oo, g1, g2⟩ := rows_at deepA s hi' .i64
    have tp : SdsAt B h0 A[i].v A[i].P := s.2 _ (List.getElem_mem hi')
    have ts := take_tellA hi'
    have fp := fit.2 _ (List.getElem_mem hi')
    have p0 := fit_len fit i
    obtain ⟨a, ea⟩ : ∃ a, a = A[i]'hi' := ⟨_, rfl⟩
    rw [← ea] at g2 tp ts fp
    obtain ⟨e, t, x, P⟩ := a
    simp only at tp ts fp
    obtain ⟨_, f4⟩ := g2 h c
    obtain ⟨L, eL⟩ : ∃ L, L = (A.take i).flatMap tellA := ⟨_, rfl⟩
    rw [← eL] at o p0 ts
    have z := SliceAt.one tp.1
    have f4 : loadV true 3 (.pointer (some ⟨rb, oo, none⟩)) h = some (.agg #[.int .i64 e, .string t, x]) := f4
    simp only [SliceAt.len s.1, bindV_some, binV_lss, condK_bool, hlt, decide_true, if_true, idG_eq, g1, f4]
    refine allocE_in fun h1 c1 n1 o1 => ?_
    refine storeE_all o1 rfl rfl (by show allOne [_, _, x] = true; simp [allOne, z]) fun h2 c2 n2 o2 => ?_
    have xb : BxN h2 h.next e t x := ⟨by omega, o2⟩
    have c02 : Chg h h2 [] := c1.new c2 (Nat.le_refl _)
    have P20 := fp.1.1
    have t3 := fp.2
    have mc := c.1
    have c255 := cut_len t
    have ts' := tb_size t
    have gP : binNil .gtr .other (.int .i64 (P.length : Int)) (.int .i64 65535) = some (.bool (decide (65535 < P.length))) := gtQ 65535
    have gt : ∀ n : Nat, binNil .gtr .other (.int .i64 (n : Int)) (.int .i64 255) = some (.bool (decide (255 < n))) := fun n => gtQ 255
    have w0 : wrapV .u8 (.int .i64 e) = some (.int .u8 (((e % 18446744073709551616).toNat % 256 : Nat) : Int)) := by
      have : IntKind.u8.wrap e = e % 256 := by simp [IntKind.wrap, IntKind.bits, IntKind.signed]
      rw [wrapV_int, this]; congr 2; omega
    have w2 : wrapV .u64 (.int .i64 (P.length : Int)) = some (.int .u64 (P.length : Int)) := by rw [wrapV_int, u64_wrap _ (by omega)]
    have l2 := putB_length P.length 2
    -- the text is cut: what comes then
    have rest : ∀ (t' : ByteArray) (hx : St), tb t' = cut255 t → Chg h hx [] → BxN hx h.next e t' x → q_Tell_j1 (tabC tabTq) idG nn m0 v x2 out (.int .i64 (i : Int)) (.pointer (some ⟨h.next, 0, none⟩)) x6 hx (fun v h1 => ∃ h2, St.le h2 h1 ∧ k v h2) := by
      intro t' hx et cx xx
      have st : t'.size = (cut255 t).length := by rw [← et, tb_size]
      obtain ⟨f0, f1, f2, _⟩ := xx.ld
      rw [q_Tell_j1_eq]
      simp only [offV_ptr, Nat.zero_add, bindV_some, f2, SliceAt.len tp.1, gP, decide_eq_false (show ¬ 65535 < P.length by omega), condK_bool, Bool.false_eq_true, if_false, idG_eq]
      rw [q_Tell_j3_eq]
      have w1 : wrapV .u8 (.int .i64 ((cut255 t).length : Int)) = some (.int .u8 (((cut255 t).length % 256 : Nat) : Int)) := by rw [wrapV_int, u8_wrap]
      simp only [offV_ptr, Nat.zero_add, bindV_some, f0, w0, f1, lenT_string, st, w1]
      have hB : ∀ {ha : St}, h.next < ha.next → ∀ i, ha.next ≤ i → h0.next ≤ i ∧ i ≠ h.next := fun {ha} hn i hi => ⟨by omega, by omega⟩
      have out1 : ∀ {ha hb : St}, Chg h0 ha [] → ChgP (fun j => h0.next ≤ j ∧ j ≠ h.next) ha hb → Chg h0 hb [] := fun {ha hb} ca cc => fresh_out ca (cc.mono fun _ _ h => h.1)
      have step : ∀ {ha hb : St}, ChgP (fun j => h0.next ≤ j ∧ j ≠ h.next) ha hb → BxN ha h.next e t' x → BxN hb h.next e t' x := fun {ha hb} cc x => x.chgP cc fun hh => hh.2 rfl
      refine buildSliceE_in [bc ((e % 18446744073709551616).toNat % 256), bc ((cut255 t).length % 256)] rfl rfl rfl fun h3 c3 n3 o3 => ?_
      have x3 := xx.chg0 c3
      have two : By (fun j => hx.next ≤ j) h3 (.slice (some ⟨hx.next, 0, some 1⟩) 2 0) [(e % 18446744073709551616).toNat % 256, (cut255 t).length % 256] :=
        own_bytes (l := [(e % 18446744073709551616).toNat % 256, (cut255 t).length % 256]) (.inr ⟨hx.next, rfl, Nat.le_refl _, by omega, o3, rfl⟩)
      have oo3 : ByO (fun j => h0.next ≤ j ∧ j ≠ h.next) h3 out L := OwnS.chg (OwnS.imp o fun j hj hb => (⟨hb, by omega⟩ : h0.next ≤ j ∧ j ≠ h.next)) (cx.seq c3) (by simp)
      refine append_byB (B0 := fun j => h0.next ≤ j ∧ j ≠ h.next) (hB x3.1) oo3 two (by simp only [List.length_cons, List.length_nil]; omega) fun h4 v4 c4 o4 => ?_
      have x4 := step c4 x3
      have e4 := out1 ((c.seq cx).seq c3) c4
      simp only [offV_ptr, Nat.zero_add, bindV_some, x4.ld.2.1]
      refine toBytes_in (by omega) fun h5 v5 c5 t5 => ?_
      rw [et] at t5
      have x5 := x4.chg0 c5
      refine append_byB (B0 := fun j => h0.next ≤ j ∧ j ≠ h.next) (hB x5.1) (OwnS.chg o4 c5 (by simp)) t5 (by simp only [List.length_append, List.length_cons, List.length_nil]; omega) fun h6 v6 c6 o6 => ?_
      have x6' := step c6 x5
      have e6 := out1 (e4.seq c5) c6
      simp only [offV_ptr, Nat.zero_add, bindV_some, x6'.ld.2.2.1, SliceAt.len tp.1, w2]
      refine cK (S := refPutO) (by simp [tabTq]) ⟨P.length, 2, rfl, by omega, by omega, fun h7 p7 c7 r7 => ?_⟩
      have x7 := x6'.chg0 c7
      refine append_byB (B0 := fun j => h0.next ≤ j ∧ j ≠ h.next) (hB x7.1) (OwnS.chg o6 c7 (by simp)) (asBy r7) (by simp only [List.length_append, List.length_cons, List.length_nil]; omega) fun h8 v8 c8 o8 => ?_
      have x8 := step c8 x7
      have e8 := out1 (e6.seq c7) c8
      simp only [idG_eq]
      refine qsends (h0 := h0) (L0 := L ++ [(e % 18446744073709551616).toNat % 256, (cut255 t).length % 256] ++ cut255 t ++ putB P.length 2) fp.1 (by simp only [List.length_append, List.length_cons, List.length_nil]; omega) tp (by omega) (fun h9 out9 c9 y9 o9 => ?_) P.length 0 m0 h8 v8 (by omega) (by omega) e8 x8 ?_
      · rw [q_Tell_j5_eq]
        simp only [binNil_int, binV_add, inc (show i ≤ 1000000000000 by have := fit.1; omega), bindV_some, idG_eq]
        refine ih (i + 1) m0 h9 out9 _ _ (by omega) (by omega) c9 ?_
        rw [ts]
        have : L ++ [(e % 18446744073709551616).toNat % 256, (cut255 t).length % 256] ++ cut255 t ++ putB P.length 2 ++ (sds P).flatMap tellS = L ++ tellA ⟨e, t, x, P⟩ := by
          unfold tellA headA; rw [putB_one, putB_one]; simp only [List.append_assoc, List.cons_append, List.nil_append]
        rw [this] at o9
        exact OwnS.imp o9 fun _ _ h => h.1
      · rw [List.take_zero, List.flatMap_nil, List.append_nil]
        exact o8
    simp only [offV_ptr, Nat.zero_add, bindV_some, xb.ld.2.1, lenT_string, gt, condK_bool, decide_eq_true_eq]
    by_cases big : 255 < t.size
    · rw [if_pos big]
      have ct := cut_txt t 255 (by omega)
      have ct : cutT (.string t) none (some (.int .i64 255)) = some (.string (t.extract 0 255)) := ct
      simp only [offV_ptr, Nat.zero_add, bindV_some, xb.ld.2.1, ct]
      refine storeE_in xb.2 [.int .i64 e, .string (t.extract 0 255), x] rfl (by simp) rfl rfl fun h3 c3 n3 o3 => ?_
      simp only [idG_eq]
      exact rest _ h3 (by rw [tb_cut t 255 (by omega)]; rfl) (c02.new c3 (Nat.le_refl _)) ⟨by have := xb.1; omega, o3⟩
    · rw [if_neg big]
      simp only [idG_eq]
      exact rest t h2 (cut_short (by omega)).symm c02 xb
theorem qtellO_good : SpecGood Tryz.prog (18, tellO) := by
  refine spec_good mixed Tryz.func18 (by kernel_rfl) (by kernel_rfl) (tab := tabTq) tabTq_good (keep := q_Tell_keep) ?_
  rintro args h k ⟨B, v, A, rfl, fit, s, H⟩
  refine ⟨A.length + 30, ?_⟩
  show q_Tell (tabC _) idG _ v h _
  rw [q_Tell_eq]
  simp only [idG_eq]
  exact qtell_l0 fit s H A.length 0 _ h _ _ _ (by omega) (by omega) (Chg.refl _ _) ByO.nil
end Go.Proofs.YtnnjcenoihdhfaaGreatDoor
end

section
set_option linter.unusedSimpArgs false
set_option linter.unusedVariables false
set_option maxHeartbeats 4000000
namespace Go.Proofs.YtnnjcenoihdhfaaGreatDoor
open Go.Abs Go.IntWalk
attribute [local congr] bindV_weak condK_weak guardK_weak groupK_weak allocE_weak boxE_weak storeE_weak storeM_weak tabC_weak ite_weak idG_weak appendE_weak buildSliceE_weak mapUpdateE_weak deleteE_weak makeMapE_weak copyE_weak clearE_weak callE_weak

theorem push_row0 {α : Type} {sz : Nat} {cl : α → List Value} {dp : (Nat → Prop) → St → α → Prop} (hd : Deep sz cl dp) {n0 bytes : Nat} {h0 h : St} {v x : Value} {z : List Value} {L : List α} {a : α} {k : Cont} (hn : n0 ≤ h0.next) (c : Chg h0 h []) (s : RowsO sz cl dp n0 h0 v L) (t : dp (fun j => h0.next ≤ j) h a) (hz : z.length = sz) (hx : x.cells.size = sz) (hxc : x.cells.toList = cl a) (h1 : allOne x.cells.toList = true) (hu : isUnk x = false)
    (hb : (L.length + 1) * bytes ≤ 140737488355328) (hb' : L.length + 1 ≤ 140737488355328)
    (hk : ∀ h' v', ChgP (fun i => n0 ≤ i ∧ (i < h0.next ∨ h.next ≤ i)) h h' → RowsO sz cl dp n0 h' v' (L ++ [a]) → k v' h') : buildSliceE sz 1 z [(0 * sz, sz, x)] h fun v2 h2 => appendE sz bytes v v2 h2 k := by
  obtain ⟨B, hB, so, fin⟩ := RowsO.opens hd hn c s t
  exact append_row (B := B) hB so hz hx h1 hu hb hb' fun h5 out5 c5 s5 => hk h5 out5 (fin h5 out5 c5 (by rw [← hxc]; exact s5)).1 (fin h5 out5 c5 (by rw [← hxc]; exact s5)).2
theorem build_sd {B : Nat → Prop} {h : St} {sv : Value} {sd : Sd} {l : List Nat} (t : By B h sv l) : buildV [.bool false, .int .u32 0, .slice none 0 0, .bool false] (some [(0, 1, .bool sd.hs), (1, 1, .int .u32 (sd.to : Int)), (2, 1, sv), (3, 1, .bool sd.cl)]) = some (.agg (cellsD (sd, sv)).toArray) := by
  have c1 := SliceAt.cells1 t
  have u1 := SliceAt.isUnk t
  simp [buildV, fillL, c1, u1, cellsD]
/-! ### an answer as the program's -/
def answerO : Abs.Spec := fun args h k => ∃ (B : Nat → Prop) (e : Int) (t : ByteArray) (x : Value) (P : List (Sd × Value)), args = [.agg #[.int .i64 e, .string t, x]] ∧ FitP P ∧ SdsAt B h x P ∧
  ∀ h' x' Q, Chg h h' [] → SdsAt (fun j => h.next ≤ j) h' x' Q → sds Q = sds P → k (.agg #[.int .i64 e, .string t, x']) h'
theorem ans_l0 {nn b1 b2 b3 : Nat} {x : Value} {e : Int} {t : ByteArray} {B : Nat → Prop} {P : List (Sd × Value)} {h0 : St} {k : Cont} (fit : FitP P) (s : SdsAt B h0 x P) (q1 : h0.next ≤ b1) (q2 : b1 < b2) (q3 : b2 < b3)
    (H : ∀ h' x' Q, Chg h0 h' [] → SdsAt (fun j => h0.next ≤ j) h' x' Q → sds Q = sds P → k (.agg #[.int .i64 e, .string t, x']) h') :
    ∀ (d i m0 : Nat) (h : St) (cur : Value) (Q : List (Sd × Value)), i + d = P.length → d < m0 → Chg h0 h [] → BxN h b1 e t x → (∃ zs, zs.length = 3 ∧ h.objs b2 = some (.cells zs true)) → BxN h b3 e t cur → SdsO (b3 + 1) h cur Q → sds Q = (sds P).take i →
      w_answer_l0 (tabC []) idG nn m0 (.pointer (some ⟨b1, 0, none⟩)) (.pointer (some ⟨b2, 0, none⟩)) (.pointer (some ⟨b3, 0, none⟩)) (.int .i64 (i : Int)) h (fun v h1 => ∃ h2, St.le h2 h1 ∧ k v h2) := by
  have few := fit.1
  intro d
  induction d with
  | zero =>
    intro i m0 h cur Q hi hm c y1 y2 y3 o eq
    obtain ⟨m0, rfl⟩ : ∃ m, m0 = m + 1 := ⟨m0 - 1, by omega⟩
    rw [w_answer_l0_eq]
    have e' : i = P.length := by omega
    subst e'
    rw [List.take_of_length_le (by rw [sds_len]; omega)] at eq
    simp only [offV_ptr, Nat.zero_add, bindV_some, y1.ld.2.2.1, SliceAt.len s.1, binV_lss, condK_bool, Int.lt_irrefl, decide_false, Bool.false_eq_true, if_false, idG_eq]
    rw [w_answer_j1_eq]
    obtain ⟨zs, zl, oz⟩ := y2
    obtain ⟨u1, u2, u3⟩ := o.one
    simp only [y3.ld.2.2.2, bindV_some]
    refine storeE_all oz rfl zl (by show allOne [_, _, cur] = true; simp [allOne, u1]) fun h2 c2 n2 o2 => ?_
    have yr : BxN h2 b2 e t cur := ⟨by have := y3.1; omega, o2⟩
    simp only [yr.ld.2.2.2, bindV_some]
    have so := RowsO.chgP deepS o (c2.toP (D := (· = b2)) (by simp)) fun j hj => by have : j = b2 := hj; omega
    exact ⟨h2, St.le.refl _, H h2 cur Q (c.new c2 (by omega)) (RowsAt.imp deepS (RowsO.look deepS so) fun j _ hj => by omega) eq⟩
  | succ d ih =>
    intro i m0 h cur Q hi hm c y1 y2 y3 o eq
    obtain ⟨m0, rfl⟩ : ∃ m, m0 = m + 1 := ⟨m0 - 1, by omega⟩
    rw [w_answer_l0_eq]
    have hlt : (i : Int) < P.length := by omega
    have hi' : i < P.length := by omega
    obtain ⟨rb, oo, g1, g2⟩ := rows_at deepS s hi' .i64
    have tp : By B h0 P[i].2 P[i].1.b := s.2 _ (List.getElem_mem hi')
    have fp := fit.2 _ (List.getElem_mem hi')
    have tk : (sds P).take (i + 1) = (sds P).take i ++ [P[i].1] := by
      rw [List.take_succ_eq_append_getElem (by rw [sds_len]; exact hi'), sds_at P hi']
    obtain ⟨p, ep⟩ : ∃ p, p = P[i]'hi' := ⟨_, rfl⟩
    rw [← ep] at g2 tp fp tk
    obtain ⟨sd, sv⟩ := p
    simp only at tp fp tk
    obtain ⟨_, f4⟩ := g2 h c
    have z := SliceAt.one tp
    have lQ : Q.length ≤ 20 := by
      have := congrArg List.length eq
      rw [sds_len, List.length_take, sds_len] at this; omega
    have mc := c.1
    have l3 := y3.1
    simp only [offV_ptr, Nat.zero_add, bindV_some, y1.ld.2.2.1, SliceAt.len s.1, binV_lss, condK_bool, hlt, decide_true, if_true, idG_eq, g1, f4]
    refine allocE_in fun h1 c1 n1 o1 => ?_
    refine storeE_all o1 rfl rfl (one_D (p := (sd, sv)) z) fun h2 c2 n2 o2 => ?_
    have x2 : BxD h2 h.next (sd, sv) := ⟨by omega, o2⟩
    have c02 : Chg h h2 [] := c1.new c2 (Nat.le_refl _)
    have y32 := y3.chg0 c02
    obtain ⟨f0, f1, f2, f3⟩ := x2.ld
    simp only [offV_ptr, Nat.zero_add, bindV_some, y32.ld.2.2.1]
    refine ⟨trivial, ?_⟩
    simp only [offV_ptr, Nat.zero_add, bindV_some, f0]
    refine ⟨trivial, ?_⟩
    simp only [offV_ptr, Nat.zero_add, bindV_some, f1]
    refine ⟨trivial, ?_⟩
    refine buildSliceE_in [] rfl rfl rfl fun h3 c3 n3 o3 => ?_
    have x3 := x2.chg0 c3
    have y33 := y32.chg0 c3
    obtain ⟨f0', f1', f2', f3'⟩ := x3.ld
    refine ⟨⟨f1', f0', y33.ld.2.2.1, trivial⟩, ?_⟩
    simp only [offV_ptr, Nat.zero_add, bindV_some, f2']
    refine ⟨⟨f2, trivial⟩, ?_⟩
    have c03 := c02.seq c3
    have so : ByO (fun j => h2.next ≤ j) h3 (.slice (some ⟨h2.next, 0, some 1⟩) 0 0) [] := .inr ⟨h2.next, rfl, Nat.le_refl _, by omega, o3, rfl⟩
    refine append_by (n0 := h2.next) (by omega) so (tp.chg0 (c.seq c03)) (by simp; omega) fun h4 sw c4 o4 => ?_
    rw [List.nil_append] at o4
    have x4 : BxD h4 h.next (sd, sv) := x3.chgP c4 (by omega)
    have y34 : BxN h4 b3 e t cur := y33.chgP c4 (by omega)
    obtain ⟨k0, k1, k2, k3⟩ := x4.ld
    refine ⟨⟨trivial, k1, k0, y34.ld.2.2.1, trivial⟩, ?_⟩
    have t4 : By (fun j => h.next ≤ j) h4 sw sd.b := SliceAt.imp (own_bytes o4) fun j _ hj => by omega
    have c04 : Chg h h4 [] := ((c03.nil (fun j => h.next ≤ j)).step (c4.mono fun j _ hj => by omega)).list fun j h1 h2 => by omega
    simp only [offV_ptr, Nat.zero_add, bindV_some, k3]
    refine ⟨⟨f3', f3, trivial⟩, ?_⟩
    simp only [build_sd (sd := sd) t4, bindV_some]
    refine push_row deepS (a := (sd, sw)) (by omega) c04 o t4 rfl rfl rfl (one_D (p := (sd, sw)) t4.one) rfl (by omega) (by omega) (fun h5 c5 => ⟨trivial, trivial, trivial, trivial, (y34.chg0 c5).ld.2.2.1, trivial⟩) fun h6 v6 c6 o6 => ⟨⟨trivial, trivial, trivial, trivial, trivial, trivial⟩, ?_⟩
    obtain ⟨u1, u2, u3⟩ := o6.one
    have y36 : BxN h6 b3 e t cur := y34.chgP c6 (by omega)
    have y16 : BxN h6 b1 e t x := (y1.chg0 c04).chgP c6 (by omega)
    obtain ⟨zs, zl, oz⟩ := y2
    have oz6 : h6.objs b2 = some (.cells zs true) := c6.at (by have := c04.1; omega) (by omega) (c04.at0 (by omega) oz)
    have c06 : Chg h0 h6 [] := fresh_out (c.seq c04) (c6.mono fun _ _ h => by omega)
    simp only [offV_ptr, Nat.zero_add, bindV_some]
    refine storeE_in y36.2 [.int .i64 e, .string t, v6] (by rw [u2]; rfl) (by simp) (by rw [u2]; simp [allOne, u1]) (by rw [u2]; rfl) fun h7 c7 n7 o7 => ⟨⟨trivial, trivial, trivial, trivial, trivial, trivial⟩, ?_⟩
    simp only [idG_eq, binNil_int, binV_add, inc (show i ≤ 1000000000000 by omega), bindV_some]
    refine ih (i + 1) m0 h7 v6 (Q ++ [(sd, sw)]) (by omega) (by omega) (c06.new c7 (by omega)) (y16.chgP (c7.toP (D := (· = b3)) (by simp)) (by omega)) ⟨zs, zl, c7.at1 (by have := c6.1; have := c04.1; omega) (by omega) oz6⟩ ⟨by have := y36.1; omega, o7⟩ (RowsO.chgP deepS o6 (c7.toP (D := (· = b3)) (by simp)) fun j hj => by have : j = b3 := hj; omega) ?_
    rw [tk, ← eq]
    unfold sds
    rw [List.map_append]; rfl
theorem answerO_good : SpecGood Tryz.prog (16, answerO) := by
  refine spec_good mixed Tryz.func16 (by kernel_rfl) (by kernel_rfl) (tab := []) (by simp) (keep := w_answer_keep) ?_
  rintro args h k ⟨B, e, t, x, P, rfl, fit, s, H⟩
  refine ⟨P.length + 1, ?_⟩
  show w_answer (tabC _) idG _ (.agg #[.int .i64 e, .string t, x]) h _
  rw [w_answer_eq]
  have z := SliceAt.one s.1
  refine boxE_in (by show allOne [_, _, x] = true; simp [allOne, z]) fun h1 c1 n1 o1 => ?_
  have y1 : BxN h1 h.next e t x := ⟨by omega, o1⟩
  refine allocE_in fun h2 c2 n2 o2 => ?_
  have y2 := y1.chg0 c2
  have bv : buildV [.int .i64 0, .string ByteArray.empty, .slice none 0 0] (some [(0, 1, .int .i64 e), (1, 1, .string t)]) = some (.agg #[.int .i64 e, .string t, .slice none 0 0]) := by simp [buildV, fillL]
  simp only [offV_ptr, Nat.zero_add, bindV_some, y2.ld.1, y2.ld.2.1, bv]
  refine allocE_in fun h3 c3 n3 o3 => ?_
  refine storeE_all o3 rfl rfl rfl fun h4 c4 n4 o4 => ?_
  have y4 : BxN h4 h2.next e t (.slice none 0 0) := ⟨by omega, o4⟩
  simp only [idG_eq]
  exact ans_l0 fit s (Nat.le_refl _) (by omega) (by omega) H P.length 0 _ h4 _ [] (by omega) (by omega) (((c1.seq c2).seq c3).new c4 (by omega)) ((y2.chg0 c3).chgP (c4.toP (D := (· = h2.next)) (by simp)) (by omega)) ⟨_, rfl, c4.at1 (by omega) (by omega) (c3.at0 (by omega) o2)⟩ y4 RowsO.nil rfl
/-! ### the law -/
def tabTl : List (FuncId × Abs.Spec) := [(16, answerO), (17, tellO), (18, tellO), (12, awakeO)]
theorem tabTl_good : ∀ p ∈ tabTl, SpecGood Tryz.prog p := by simp [tabTl, answerO_good, rtellO_good, qtellO_good, awakeO_good]
theorem flat_core (A : List An) : A.flatMap tellA = (A.map coreA).flatMap tellC := by
  induction A with
  | nil => rfl
  | cons a A ih => rw [List.flatMap_cons, List.map_cons, List.flatMap_cons, ih, tell_core]
theorem fit_of {P Q : List (Sd × Value)} (h : FitP P) (e : sds Q = sds P) : FitP Q := by
  have l : Q.length = P.length := by rw [← sds_len Q, e, sds_len]
  refine ⟨by rw [l]; exact h.1, fun p hp => ?_⟩
  have : p.1 ∈ sds P := by rw [← e]; exact List.mem_map_of_mem hp
  obtain ⟨q, hq, eq⟩ := List.mem_map.1 this
  rw [← eq]
  exact h.2 q hq
theorem fit_core {A C : List An} (h : FitA A) (e : C.map coreA = A.map coreA) : FitA C := by
  have l : C.length = A.length := by
    have := congrArg List.length e
    rwa [List.length_map, List.length_map] at this
  refine ⟨by rw [l]; exact h.1, fun a ha => ?_⟩
  have : coreA a ∈ A.map coreA := by rw [← e]; exact List.mem_map_of_mem ha
  obtain ⟨b, hb, eq⟩ := List.mem_map.1 this
  have := h.2 b hb
  simp only [coreA, Prod.mk.injEq] at eq
  exact ⟨fit_of this.1 eq.2.2.symm, by rw [← eq.2.1]; exact this.2⟩
theorem eqT (a : ByteArray) : binV .eql .other (.string a) (.string a) = some (.bool true) := by simp [binV, isShift, textV]
theorem tells_j2 {nn : Nat} {x2 x4 x5 v own : Value} {B : Nat → Prop} {A C : List An} {h0 h : St} {k : Cont} (fit : FitA A) (s : AnsAt B h0 v A) (c : Chg h0 h []) (o : AnsO h0.next h own C) (eq : C.map coreA = A.map coreA) (H : ∀ h', k (.bool true) h') :
    w_Tells_j2 (tabC tabTl) idG nn v x2 own x4 x5 h (fun v h1 => ∃ h2, St.le h2 h1 ∧ k v h2) := by
  rw [w_Tells_j2_eq]
  refine cK (S := tellO) (by simp [tabTl]) ⟨_, own, C, rfl, fit_core fit eq, RowsO.look deepA o, fun h1 t1 c1 b1 => ⟨trivial, ?_⟩⟩
  simp only [text_by b1, bindV_some]
  refine ⟨⟨trivial, trivial⟩, ?_⟩
  refine cK (S := tellO) (by simp [tabTl]) ⟨B, v, A, rfl, fit, RowsAt.chg0 deepA s (c.seq c1), fun h2 t2 c2 b2 => ⟨⟨text_by (b1.chg0 c2), trivial⟩, ?_⟩⟩
  simp only [text_by b2, bindV_some]
  refine ⟨⟨trivial, trivial, trivial⟩, ?_⟩
  rw [flat_core C, eq, ← flat_core A]
  simp only [eqT, bindV_some, groupK_eq, guardK_bool, if_true]
  refine cK (S := awakeO) (by simp [tabTl]) ⟨rfl, fun h' => ⟨⟨trivial, trivial, trivial⟩, ?_⟩⟩
  simp only [idG_eq, getT, pickV_bool, if_true, bindV_some]
  exact ⟨h', St.le.refl _, H h'⟩
/-- What is within an answer's kinds. -/
def InA (A : List An) : Prop := ∀ a ∈ A, ∀ p ∈ a.P, p.1.to < 4294967296
theorem tells_l1 {nn m0 i : Nat} {x2 v own : Value} {B : Nat → Prop} {A : List An} {h0 h : St} {k : Cont} (hi : i < A.length) (s : AnsAt B h0 v A) (c : Chg h0 h []) (H : ∀ h', k (.bool true) h')
    (go : (∀ p ∈ A[i].P, p.1.b.length ≤ 3000) → ∀ x5, w_Tells_j3 (tabC tabTl) idG nn m0 v x2 own (.int .i64 (i : Int)) x5 h (fun v h1 => ∃ h2, St.le h2 h1 ∧ k v h2)) :
    ∀ (d j m1 : Nat), j + d = A[i].P.length → d < m1 → A[i].P.length ≤ 20 → (∀ p ∈ A[i].P.take j, p.1.b.length ≤ 3000) →
      w_Tells_l1 (tabC tabTl) idG nn m0 m1 v x2 own (.int .i64 (i : Int)) (.int .i64 (j : Int)) h (fun v h1 => ∃ h2, St.le h2 h1 ∧ k v h2) := by
  obtain ⟨rb, oo, g1, g2⟩ := rows_at deepA s hi .i64
  have tp : SdsAt B h0 A[i].v A[i].P := s.2 _ (List.getElem_mem hi)
  obtain ⟨a, ea⟩ : ∃ a, a = A[i]'hi := ⟨_, rfl⟩
  rw [← ea] at g2 tp go ⊢
  obtain ⟨e, t, x, P⟩ := a
  simp only at tp go ⊢
  have f2 : loadV false 1 (.pointer (some ⟨rb, oo + 2, none⟩)) h = some x := (g2 h c).1 2 (by omega)
  intro d
  induction d with
  | zero =>
    intro j m1 hj hm p20 bl
    obtain ⟨m1, rfl⟩ : ∃ m, m1 = m + 1 := ⟨m1 - 1, by omega⟩
    rw [w_Tells_l1_eq]
    have e' : j = P.length := by omega
    subst e'
    rw [List.take_length] at bl
    simp only [g1, offV_ptr, bindV_some, f2, SliceAt.len tp.1, binV_lss, condK_bool, Int.lt_irrefl, decide_false, Bool.false_eq_true, if_false, idG_eq]
    exact go bl _
  | succ d ih =>
    intro j m1 hj hm p20 bl
    obtain ⟨m1, rfl⟩ : ∃ m, m1 = m + 1 := ⟨m1 - 1, by omega⟩
    rw [w_Tells_l1_eq]
    have hlt : (j : Int) < P.length := by omega
    have hj' : j < P.length := by omega
    obtain ⟨sb, so, q1, q2⟩ := rows_at deepS tp hj' .i64
    have ts : By B h0 P[j].2 P[j].1.b := tp.2 _ (List.getElem_mem hj')
    have tak : P.take (j + 1) = P.take j ++ [P[j]] := List.take_succ_eq_append_getElem hj'
    have f3 : loadV false 1 (.pointer (some ⟨sb, so + 2, none⟩)) h = some P[j].2 := (q2 h c).1 2 (by omega)
    have g3 : binNil .gtr .other (.int .i64 (P[j].1.b.length : Int)) (.int .i64 3000) = some (.bool (decide (3000 < P[j].1.b.length))) := gtQ 3000
    simp only [g1, offV_ptr, bindV_some, f2, SliceAt.len tp.1, binV_lss, condK_bool, hlt, decide_true, if_true, idG_eq, q1, f3, SliceAt.len ts, g3, decide_eq_true_eq]
    by_cases big : 3000 < P[j].1.b.length
    · rw [if_pos big]
      exact ⟨h, St.le.refl _, H h⟩
    rw [if_neg big]
    simp only [idG_eq, binNil_int, binV_add, inc (show j ≤ 1000000000000 by omega), bindV_some]
    refine ih (j + 1) m1 (by omega) (by omega) p20 fun p hp => ?_
    rw [tak] at hp
    rcases List.mem_append.1 hp with hp | hp
    · exact bl p hp
    · rw [List.mem_singleton] at hp
      subst hp; omega
theorem tells_l0 {nn : Nat} {x2 v : Value} {B : Nat → Prop} {A : List An} {h0 : St} {k : Cont} (few : A.length ≤ 20) (ina : InA A) (s : AnsAt B h0 v A) (H : ∀ h', k (.bool true) h') :
    ∀ (d i m0 : Nat) (h : St) (own x5 : Value) (C : List An), i + d = A.length → d + 30 < m0 → Chg h0 h [] → AnsO h0.next h own C → C.map coreA = (A.take i).map coreA → (∀ a ∈ A.take i, FitP a.P ∧ a.t.size ≤ 3000) →
      w_Tells_l0 (tabC tabTl) idG nn m0 v x2 own (.int .i64 (i : Int)) x5 h (fun v h1 => ∃ h2, St.le h2 h1 ∧ k v h2) := by
  intro d
  induction d with
  | zero =>
    intro i m0 h own x5 C hi hm c o eq fa
    obtain ⟨m0, rfl⟩ : ∃ m, m0 = m + 1 := ⟨m0 - 1, by omega⟩
    rw [w_Tells_l0_eq]
    have e' : i = A.length := by omega
    subst e'
    rw [List.take_length] at eq fa
    simp only [SliceAt.len s.1, binV_lss, bindV_some, condK_bool, Int.lt_irrefl, decide_false, Bool.false_eq_true, if_false, idG_eq]
    exact tells_j2 ⟨few, fa⟩ s c o eq H
  | succ d ih =>
    intro i m0 h own x5 C hi hm c o eq fa
    obtain ⟨m0, rfl⟩ : ∃ m, m0 = m + 1 := ⟨m0 - 1, by omega⟩
    rw [w_Tells_l0_eq]
    have hlt : (i : Int) < A.length := by omega
    have hi' : i < A.length := by omega
    obtain ⟨rb, oo, g1, g2⟩ := rows_at deepA s hi' .i64
    have tp : SdsAt B h0 A[i].v A[i].P := s.2 _ (List.getElem_mem hi')
    have tak : A.take (i + 1) = A.take i ++ [A[i]] := List.take_succ_eq_append_getElem hi'
    have f1 : loadV false 1 (.pointer (some ⟨rb, oo + 1, none⟩)) h = some (.string A[i].t) := (g2 h c).1 1 (by omega)
    have f2 : loadV false 1 (.pointer (some ⟨rb, oo + 2, none⟩)) h = some A[i].v := (g2 h c).1 2 (by omega)
    have g20 : binNil .gtr .other (.int .i64 (A[i].P.length : Int)) (.int .i64 20) = some (.bool (decide (20 < A[i].P.length))) := gtQ 20
    have g3 : binNil .gtr .other (.int .i64 (A[i].t.size : Int)) (.int .i64 3000) = some (.bool (decide (3000 < A[i].t.size))) := gtQ 3000
    simp only [SliceAt.len s.1, bindV_some, binV_lss, condK_bool, hlt, decide_true, if_true, idG_eq, g1, offV_ptr, f2, SliceAt.len tp.1, g20]
    by_cases b20 : 20 < A[i].P.length
    · simp only [decide_eq_true b20, groupK_eq, guardK_bool, Bool.true_eq_false, if_false, idG_eq, pickV_bool, if_true, bindV_some, condK_bool]
      exact ⟨h, St.le.refl _, H h⟩
    simp only [decide_eq_false b20, groupK_eq, guardK_bool, if_true, g1, offV_ptr, f1, lenT_string, g3, bindV_some, idG_eq, pickV_bool, getT, Bool.false_eq_true, if_false, condK_bool, decide_eq_true_eq]
    by_cases b3 : 3000 < A[i].t.size
    · rw [if_pos b3]
      exact ⟨h, St.le.refl _, H h⟩
    rw [if_neg b3]
    refine tells_l1 hi' s c H (fun bl y5 => ?_) A[i].P.length 0 m0 (by omega) (by omega) (by omega) (by simp)
    have fp : FitP A[i].P := ⟨by omega, fun p hp => ⟨bl p hp, ina _ (List.getElem_mem hi') p hp⟩⟩
    rw [w_Tells_j3_eq]
    have f4 : loadV true 3 (.pointer (some ⟨rb, oo, none⟩)) h = some (.agg #[.int .i64 A[i].e, .string A[i].t, A[i].v]) := (g2 h c).2
    simp only [g1, f4, bindV_some]
    refine cK (S := answerO) (by simp [tabTl]) ⟨B, A[i].e, A[i].t, A[i].v, A[i].P, rfl, fp, RowsAt.chg0 deepS tp c, fun h1 x' Q c1 t1 e1 => ?_⟩
    have lC : C.length ≤ 20 := by
      have := congrArg List.length eq
      rw [List.length_map, List.length_map, List.length_take] at this; omega
    have z := SliceAt.one t1.1
    refine push_row0 deepA (a := ⟨A[i].e, A[i].t, x', Q⟩) c.1 c1 o t1 rfl rfl rfl (by show allOne [_, _, x'] = true; simp [allOne, z]) rfl (by omega) (by omega) fun h2 v2 c2 o2 => ?_
    simp only [idG_eq]
    rw [w_Tells_j4_eq]
    simp only [binNil_int, binV_add, inc (show i ≤ 1000000000000 by omega), bindV_some, idG_eq]
    refine ih (i + 1) m0 h2 v2 _ (C ++ [⟨A[i].e, A[i].t, x', Q⟩]) (by omega) (by omega) (fresh_out (c.seq c1) (c2.mono fun _ _ h => h.1)) o2 ?_ fun a ha => ?_
    · rw [tak, List.map_append, List.map_append, eq]
      simp only [List.map_cons, List.map_nil, coreA, e1]
    · rw [tak] at ha
      rcases List.mem_append.1 ha with ha | ha
      · exact fa a ha
      · rw [List.mem_singleton] at ha
        subst ha
        exact ⟨fp, by omega⟩
def tellsLawO : Abs.Spec := fun args h k => ∃ (B : Nat → Prop) (v : Value) (A : List An), args = [v] ∧ InA A ∧ AnsAt B h v A ∧ ∀ h', k (.bool true) h'
theorem tellsLawO_good : SpecGood Tryz.prog (5, tellsLawO) := by
  refine spec_good mixed Tryz.func5 (by kernel_rfl) (by kernel_rfl) (tab := tabTl) tabTl_good (keep := w_Tells_keep) ?_
  rintro args h k ⟨B, v, A, rfl, ina, s, H⟩
  refine ⟨A.length + 40, ?_⟩
  show w_Tells (tabC _) idG _ v h _
  rw [w_Tells_eq]
  have g20 : binNil .gtr .other (.int .i64 (A.length : Int)) (.int .i64 20) = some (.bool (decide (20 < A.length))) := gtQ 20
  simp only [SliceAt.len s.1, g20, bindV_some, condK_bool, decide_eq_true_eq]
  by_cases few : 20 < A.length
  · rw [if_pos few]
    exact ⟨h, St.le.refl _, H h⟩
  rw [if_neg few]
  simp only [idG_eq]
  exact tells_l0 (by omega) ina s H A.length 0 _ h _ _ [] (by omega) (by omega) (Chg.refl _ _) RowsO.nil rfl (by simp)
end Go.Proofs.YtnnjcenoihdhfaaGreatDoor
end

section
set_option linter.unusedSimpArgs false
set_option linter.unusedVariables false
set_option maxHeartbeats 4000000
set_option maxRecDepth 100000
namespace Go.Proofs.YtnnjcenoihdhfaaGreatDoor
open Go.Abs Go.IntWalk Go.Deep Go.ChangeShapes Go.WideShapes

instance : Inhabited Ev := ⟨zEv⟩
instance : Inhabited Sd := ⟨⟨false, 0, false, []⟩⟩
instance : Inhabited An := ⟨⟨0, ByteArray.empty, .nilFunc, []⟩⟩
theorem wf_natL {k : IntKind} {x : Int} (hk : k.signed = false) (h : (Lit.int k x).wf = true) : ∃ n : Nat, x = n ∧ n < 2 ^ k.bits := by
  have := (Lit.wf_int_iff k x).1 h
  simp only [IntKind.min, IntKind.max, hk] at this
  have p : ((2 ^ k.bits : Nat) : Int) = 2 ^ k.bits := by norm_cast
  refine ⟨x.toNat, ?_, ?_⟩
  · simp at this; omega
  · simp at this; omega
section
variable {H : Type} {enc : TypeId × Value → H} {W : World} {held : Bool} {fuel : Nat} {x : DataW H × List MemPlace}
theorem by_came {v : Value} (h : DataW.trod enc Tryz.prog W 0 (fun _ => true) held fuel 25 [v] = some x) : ∃ l : List Nat, (∀ c ∈ l, c < 256) ∧ By (· < (st0 W).next) (st0 W) (san W.heap.size v) l := by
  obtain ⟨l, _, h2, h3⟩ := bytes_san Tryz.underlying25 Tryz.underlying5 (by kernel_rfl) h
  exact ⟨l, h2, h3⟩
theorem ev_came {cs : List Value} (h : DataW.trod enc Tryz.prog W 0 (fun _ => true) held fuel 27 cs = some x) : ∃ p : Ev × Value, cs.map (san W.heap.size) = cellsV p ∧ By (· < (st0 W).next) (st0 W) p.2 p.1.b ∧ InE p.1 := by
  obtain ⟨y0, y1, y2, y3, n, _, hl, g0, g1, g2, g3⟩ := Go.Joins.trod_struct4 Tryz.underlying27 h
  have cl : Tryz.prog.cellsOf 27 = 4 := by kernel_rfl
  have c0 : Tryz.prog.cellsOf 3 = 1 := by kernel_rfl
  have c1 : Tryz.prog.cellsOf 23 = 1 := by kernel_rfl
  have c2 : Tryz.prog.cellsOf 24 = 1 := by kernel_rfl
  have c3 : Tryz.prog.cellsOf 25 = 1 := by kernel_rfl
  rw [cl] at hl
  match cs, hl with
  | [v0, v1, v2, v3], _ =>
    have g0 : DataW.trod enc Tryz.prog W 0 (fun _ => true) held n 3 [v0] = some y0 := by simpa [c0] using g0
    have g1 : DataW.trod enc Tryz.prog W 0 (fun _ => true) held n 23 [v1] = some y1 := by simpa [c1] using g1
    have g2 : DataW.trod enc Tryz.prog W 0 (fun _ => true) held n 24 [v2] = some y2 := by simpa [c2] using g2
    have g3 : DataW.trod enc Tryz.prog W 0 (fun _ => true) held n 25 [v3] = some y3 := by simpa [c3] using g3
    obtain ⟨k, e0, _, _⟩ := DataW.trod_int Tryz.underlying3 g0
    obtain ⟨a, e1, _, w1⟩ := DataW.trod_int Tryz.underlying23 g1
    obtain ⟨b, e2, _, w2⟩ := DataW.trod_int Tryz.underlying24 g2
    obtain ⟨l, h1, h2⟩ := by_came g3
    have e0 : v0 = .int .i64 k := by simpa using e0
    have e1 : v1 = .int .u32 a := by simpa using e1
    have e2 : v2 = .int .u64 b := by simpa using e2
    subst e0 e1 e2
    obtain ⟨a, rfl, ha⟩ := wf_natL rfl w1
    obtain ⟨b, rfl, hb⟩ := wf_natL rfl w2
    exact ⟨(⟨k, a, b, l⟩, san W.heap.size v3), rfl, h2, ha, hb, h1⟩
theorem evs_came {v : Value} (h : DataW.trod enc Tryz.prog W 0 (fun _ => true) held fuel 22 [v] = some x) : ∃ P : List (Ev × Value), EvsAt (· < (st0 W).next) (st0 W) (san W.heap.size v) P ∧ ∀ e ∈ evs P, InE e := by
  obtain ⟨n, rows, _, h2, h3⟩ := slice_san (c := 4) Tryz.underlying22 (by kernel_rfl) (by omega) h
  obtain ⟨f, hf⟩ := choose_lt (n := n) (α := Ev × Value) (p := fun i p => (rows i).map (san W.heap.size) = cellsV p ∧ By (· < (st0 W).next) (st0 W) p.2 p.1.b ∧ InE p.1) (fun i hi => by
    obtain ⟨_, fu, y, hy⟩ := h3 i hi
    exact ev_came hy)
  have e : ((List.range n).map f).length = n := by simp
  refine ⟨(List.range n).map f, ⟨?_, fun p hp => ?_⟩, fun q hq => ?_⟩
  · rw [e]
    refine h2.rows fun i hi => ?_
    rw [(hf i hi).1]
    simp [hi]
  · obtain ⟨i, hi, rfl⟩ := List.mem_map.1 hp
    exact (hf i (by simpa using hi)).2.1
  · obtain ⟨p, hp, rfl⟩ := List.mem_map.1 hq
    obtain ⟨i, hi, rfl⟩ := List.mem_map.1 hp
    exact (hf i (by simpa using hi)).2.2
theorem sd_came {cs : List Value} (h : DataW.trod enc Tryz.prog W 0 (fun _ => true) held fuel 52 cs = some x) : ∃ p : Sd × Value, cs.map (san W.heap.size) = cellsD p ∧ By (· < (st0 W).next) (st0 W) p.2 p.1.b ∧ p.1.to < 4294967296 := by
  obtain ⟨y0, y1, y2, y3, n, _, hl, g0, g1, g2, g3⟩ := Go.Joins.trod_struct4 Tryz.underlying52 h
  have cl : Tryz.prog.cellsOf 52 = 4 := by kernel_rfl
  have c0 : Tryz.prog.cellsOf 4 = 1 := by kernel_rfl
  have c1 : Tryz.prog.cellsOf 23 = 1 := by kernel_rfl
  have c3 : Tryz.prog.cellsOf 25 = 1 := by kernel_rfl
  rw [cl] at hl
  match cs, hl with
  | [v0, v1, v2, v3], _ =>
    have g0 : DataW.trod enc Tryz.prog W 0 (fun _ => true) held n 4 [v0] = some y0 := by simpa [c0] using g0
    have g1 : DataW.trod enc Tryz.prog W 0 (fun _ => true) held n 23 [v1] = some y1 := by simpa [c1] using g1
    have g2 : DataW.trod enc Tryz.prog W 0 (fun _ => true) held n 25 [v2] = some y2 := by simpa [c3] using g2
    have g3 : DataW.trod enc Tryz.prog W 0 (fun _ => true) held n 4 [v3] = some y3 := by simpa [c0] using g3
    obtain ⟨k, e0, _⟩ := DataW.trod_bool Tryz.underlying4 g0
    obtain ⟨a, e1, _, w1⟩ := DataW.trod_int Tryz.underlying23 g1
    obtain ⟨l, h1, h2⟩ := by_came g2
    obtain ⟨b, e2, _⟩ := DataW.trod_bool Tryz.underlying4 g3
    have e0 : v0 = .bool k := by simpa using e0
    have e1 : v1 = .int .u32 a := by simpa using e1
    have e2 : v3 = .bool b := by simpa using e2
    subst e0 e1 e2
    obtain ⟨a, rfl, ha⟩ := wf_natL rfl w1
    exact ⟨(⟨k, a, b, l⟩, san W.heap.size v2), rfl, h2, ha⟩
theorem sds_came {v : Value} (h : DataW.trod enc Tryz.prog W 0 (fun _ => true) held fuel 48 [v] = some x) : ∃ P : List (Sd × Value), SdsAt (· < (st0 W).next) (st0 W) (san W.heap.size v) P ∧ ∀ p ∈ P, p.1.to < 4294967296 := by
  obtain ⟨n, rows, _, h2, h3⟩ := slice_san (c := 4) Tryz.underlying48 (by kernel_rfl) (by omega) h
  obtain ⟨f, hf⟩ := choose_lt (n := n) (α := Sd × Value) (p := fun i p => (rows i).map (san W.heap.size) = cellsD p ∧ By (· < (st0 W).next) (st0 W) p.2 p.1.b ∧ p.1.to < 4294967296) (fun i hi => by
    obtain ⟨_, fu, y, hy⟩ := h3 i hi
    exact sd_came hy)
  have e : ((List.range n).map f).length = n := by simp
  refine ⟨(List.range n).map f, ⟨?_, fun p hp => ?_⟩, fun p hp => ?_⟩
  · rw [e]
    refine h2.rows fun i hi => ?_
    rw [(hf i hi).1]
    simp [rowD, hi]
  · obtain ⟨i, hi, rfl⟩ := List.mem_map.1 hp
    exact (hf i (by simpa using hi)).2.1
  · obtain ⟨i, hi, rfl⟩ := List.mem_map.1 hp
    exact (hf i (by simpa using hi)).2.2
theorem an_came {cs : List Value} (h : DataW.trod enc Tryz.prog W 0 (fun _ => true) held fuel 50 cs = some x) : ∃ a : An, cs.map (san W.heap.size) = cellsA a ∧ SdsAt (· < (st0 W).next) (st0 W) a.v a.P ∧ ∀ p ∈ a.P, p.1.to < 4294967296 := by
  obtain ⟨y0, y1, y2, n, _, hl, g0, g1, g2⟩ := trod_struct3 Tryz.underlying50 h
  have cl : Tryz.prog.cellsOf 50 = 3 := by kernel_rfl
  have c0 : Tryz.prog.cellsOf 3 = 1 := by kernel_rfl
  have c1 : Tryz.prog.cellsOf 9 = 1 := by kernel_rfl
  have c2 : Tryz.prog.cellsOf 48 = 1 := by kernel_rfl
  rw [cl] at hl
  match cs, hl with
  | [v0, v1, v2], _ =>
    have g0 : DataW.trod enc Tryz.prog W 0 (fun _ => true) held n 3 [v0] = some y0 := by simpa [c0] using g0
    have g1 : DataW.trod enc Tryz.prog W 0 (fun _ => true) held n 9 [v1] = some y1 := by simpa [c1] using g1
    have g2 : DataW.trod enc Tryz.prog W 0 (fun _ => true) held n 48 [v2] = some y2 := by simpa [c2] using g2
    obtain ⟨k, e0, _, _⟩ := DataW.trod_int Tryz.underlying3 g0
    obtain ⟨t, e1, _, _⟩ := DataW.trod_string Tryz.underlying9 g1
    obtain ⟨P, h1, h2⟩ := sds_came g2
    have e0 : v0 = .int .i64 k := by simpa using e0
    have e1 : v1 = .string t := by simpa using e1
    subst e0 e1
    exact ⟨⟨k, t, san W.heap.size v2, P⟩, rfl, h1, h2⟩
theorem ans_came {v : Value} (h : DataW.trod enc Tryz.prog W 0 (fun _ => true) held fuel 46 [v] = some x) : ∃ A : List An, AnsAt (· < (st0 W).next) (st0 W) (san W.heap.size v) A ∧ InA A := by
  obtain ⟨n, rows, _, h2, h3⟩ := slice_san (c := 3) Tryz.underlying46 (by kernel_rfl) (by omega) h
  obtain ⟨f, hf⟩ := choose_lt (n := n) (α := An) (p := fun i a => (rows i).map (san W.heap.size) = cellsA a ∧ SdsAt (· < (st0 W).next) (st0 W) a.v a.P ∧ ∀ p ∈ a.P, p.1.to < 4294967296) (fun i hi => by
    obtain ⟨_, fu, y, hy⟩ := h3 i hi
    exact an_came hy)
  have e : ((List.range n).map f).length = n := by simp
  refine ⟨(List.range n).map f, ⟨?_, fun p hp => ?_⟩, fun p hp => ?_⟩
  · rw [e]
    refine h2.rows fun i hi => ?_
    rw [(hf i hi).1]
    simp [rowD, hi]
  · obtain ⟨i, hi, rfl⟩ := List.mem_map.1 hp
    exact (hf i (by simpa using hi)).2.1
  · obtain ⟨i, hi, rfl⟩ := List.mem_map.1 hp
    exact (hf i (by simpa using hi)).2.2
end
/-- What the walks are told of what came in. -/
def CameE (W : World) (v : Value) : Prop := ∃ P : List (Ev × Value), EvsAt (· < (st0 W).next) (st0 W) (san W.heap.size v) P ∧ ∀ e ∈ evs P, InE e
def CameA (W : World) (v : Value) : Prop := ∃ A : List An, AnsAt (· < (st0 W).next) (st0 W) (san W.heap.size v) A ∧ InA A
def CameB (W : World) (v : Value) : Prop := ∃ l : List Nat, (∀ c ∈ l, c < 256) ∧ By (· < (st0 W).next) (st0 W) (san W.heap.size v) l
end Go.Proofs.YtnnjcenoihdhfaaGreatDoor
end
