/- Friends: 'FriendRefuses' and 'FriendTold', walked. -/
import Derived.Test.YtnndflbpcemecaaFrM
set_option linter.unusedSimpArgs false
set_option linter.unusedVariables false
set_option maxHeartbeats 4000000
namespace Go.Proofs.Ytnndflbpcemecaa
open Go.Abs Go.IntWalk
attribute [local congr] bindV_weak condK_weak guardK_weak groupK_weak allocE_weak boxE_weak storeE_weak storeM_weak tabC_weak ite_weak idG_weak appendE_weak buildSliceE_weak mapUpdateE_weak deleteE_weak makeMapE_weak copyE_weak clearE_weak callE_weak mapEntryE_weak entryStoreE_weak rangeE_weak nextE_weak

theorem out0 {n0 : Nat} {h0 h h' : St} (e : n0 = h0.next) (c : Chg h0 h []) (d : ChgP (fun j => n0 ≤ j) h h') : Chg h0 h' [] :=
  ((c.nil (fun j => n0 ≤ j)).step d).list fun j h1 h2 => by omega
/-! ### what is refused -/
def tabRf : List (FuncId × Abs.Spec) := [(7, fnewO), (8, doO), (9, likeO), (10, areO), (13, flinksO), (17, sameO), (16, actO fRemove), (15, dactO dRemoveF), (12, awakeO)]
theorem tabRf_good : ∀ p ∈ tabRf, SpecGood Try.prog p := by simp [tabRf, fnewO_good, doO_good, likeO_good, areO_good, flinksO_good, sameO_good, removeO_good, dremoveO_good, awakeO_good]
theorem q_out {D : Nat → Prop} {h h' : St} {n0 : Nat} {B : Nat → Prop} {v : Value} {L : List Nat} (q : OwnQ B h v L) (hB : ∀ i, B i → n0 ≤ i) (hD : ∀ i, D i → i < n0) (c : ChgP (OutD D h) h h') : OwnQ B h' v L := by
  have := (OwnS.imp q fun j hj hb => (⟨hb, hj⟩ : B j ∧ j < h.next)).chgP c fun j hj hb => by
    have := hB j hb.1
    rcases hj with hj | hj
    · have := hD j hj; omega
    · omega
  exact this.imp fun _ _ h => h.1
def LastB (h : St) (p t a b : Nat) : Prop := p < h.next ∧ h.objs p = some (.cells [.int .u8 (t : Int), .int .u32 (a : Int), .int .u32 (b : Int)] true)
theorem LastB.chg0 {h h' : St} {p t a b : Nat} (l : LastB h p t a b) (c : Chg h h' []) : LastB h' p t a b := ⟨Nat.lt_of_lt_of_le l.1 c.1, c.at0 l.1 l.2⟩
theorem LastB.ld {h h' : St} {p t a b : Nat} (l : LastB h p t a b) (c : Chg h h' []) : loadV true 3 (.pointer (some ⟨p, 0, none⟩)) h' = some (actV t a b) ∧ loadV false 1 (.pointer (some ⟨p, 1, none⟩)) h' = some (.int .u32 (a : Int)) ∧ loadV false 1 (.pointer (some ⟨p, 2, none⟩)) h' = some (.int .u32 (b : Int)) := by
  have o := c.at0 l.1 l.2
  have tk : takeN [Value.int .u8 (t : Int), .int .u32 (a : Int), .int .u32 (b : Int)] 0 3 = some [.int .u8 (t : Int), .int .u32 (a : Int), .int .u32 (b : Int)] := rfl
  refine ⟨?_, ?_, ?_⟩
  · simp only [loadV_ptr, o, loadM_cells, partV_agg, tk, Option.map_some]; rfl
  · simp only [loadV_ptr, o, loadM_cells, partV_one, List.getElem?_cons_zero, List.getElem?_cons_succ]
  · simp only [loadV_ptr, o, loadM_cells, partV_one, List.getElem?_cons_zero, List.getElem?_cons_succ]
theorem refuses_j1 {nn n1 p t a b i : Nat} {x0 x4 x7 x8 v lv : Value} {F : Fn} {R : List Rw} {h0 h : St} {k : Cont} (few : i ≤ 120) (lb : LastB h0 p t a b) (c : Chg h0 h []) (st : Sta h0.next n1 h v lv i F R) (H : ∀ h', k (.bool true) h') :
    w_Refuses_j1 (tabC tabRf) idG nn x0 (.pointer (some ⟨p, 0, none⟩)) x4 v lv x7 x8 h (fun v h1 => ∃ h2, St.le h2 h1 ∧ k v h2) := by
  rw [w_Refuses_j1_eq]
  simp only [(lb.ld c).1, bindV_some]
  refine do_step (by simp [tabRf]) st (by omega) fun h1 lv1 F1 R1 c1 st1 => ?_
  have c01 := out0 rfl c c1
  obtain ⟨_, y1, y2⟩ := lb.ld c01
  have sl := st1.l
  have sn := st1.n
  have sm := st1.m
  simp only [extV_two0, extV_two1, bindV_some, unV_not, Bool.not_true, condK_bool, Bool.false_eq_true, if_false, idG_eq, offV_ptr, Nat.zero_add, y1, y2]
  refine cK (S := dactO dRemoveF) (by simp [tabRf]) ⟨_, lv1, R1, a, b, rfl, by omega, st1.rr, st1.d, fun h2 lv2 c2 d2 => ?_⟩
  have c02 := c01.seq c2
  have st2 := st1.chg0 c2
  obtain ⟨_, y1, y2⟩ := lb.ld c02
  simp only [extV_two0, extV_two1, bindV_some, offV_ptr, Nat.zero_add, y1]
  refine box_links (by simp [tabRf]) (by omega) st2.g.inl fun h3 p3 s1 s2 s3 s4 c3 hp b3 ln _ => ?_
  have c03 := c02.seq c3
  have st3 := st2.chg0 c3
  obtain ⟨_, y1, y2⟩ := lb.ld c03
  have e2 : bit (F1 a b) 2 = frd R1 a b := st1.rel.b2 a b
  unfold dRemoveF
  cases e : frd R1 a b with
  | true =>
    have z : binNil .neq .other (.int .i64 ((0 : Nat) : Int)) (.int .i64 0) = some (.bool false) := rfl
    rw [if_pos rfl]
    simp only [z, bindV_some, condK_bool, Bool.false_eq_true, if_false, idG_eq, offV_ptr, Nat.zero_add, y1, y2]
    refine cK (S := areO) (by simp [tabRf]) ⟨_, v, _, F1, b, a, rfl, st3.g.inl, ?_⟩
    have e3 : bit (F1 b a) 2 = true := by rw [st1.rel.b2, frd_symm]; exact e
    simp only [e3, groupK_eq, guardK_bool, if_true]
    refine cK (S := awakeO) (by simp [tabRf]) ⟨rfl, fun h' c' => ?_⟩
    simp only [e3, getT, idG_eq, pickV_bool, if_true, bindV_some]
    exact ⟨h', St.le.refl _, H h'⟩
  | false =>
    have z : binNil .neq .other (.int .i64 ((12 : Nat) : Int)) (.int .i64 0) = some (.bool true) := rfl
    rw [if_neg (by simp)]
    simp only [z, bindV_some, condK_bool, if_true, offV_ptr, Nat.zero_add, y1, y2]
    have fr : fRemove F1 a b = (F1, 12) := by unfold fRemove; rw [e2, e, if_neg (by simp)]
    refine cK (S := actO fRemove) (by simp [tabRf]) ⟨_, v, _, F1, a, b, rfl, st3.g, fun h4 c4 g4 => ?_⟩
    rw [fr] at g4 ⊢
    have m3 := c3.1
    have m2 := c2.1
    have m4 := c4.1
    have c4' : ChgP (fun j => h0.next ≤ j) h3 h4 := c4.mono fun j _ hj => by rcases hj with hj | hj <;> omega
    have c04 := out0 rfl c03 c4'
    obtain ⟨_, y1, y2⟩ := lb.ld c04
    have d3 : DtS (fun j => n1 ≤ j) h4 lv1 R1 := out_to c4 st3.d fun j h1 h2 => by omega
    simp only [offV_ptr, bindV_some, Nat.zero_add, y1]
    refine box_links (by simp [tabRf]) (by omega) g4.inl fun h5 p5 t1 t2 t3 t4 c5 hp5 b5 ln5 _ => ?_
    have c05 := c04.seq c5
    obtain ⟨na, nn', q1, q2, q3, q4, l1, l2, l3, l4⟩ := ln
    obtain ⟨nb, mm', r1, r2, r3, r4, k1, k2, k3, k4⟩ := ln5
    have q1' : OwnQ (fun i => h2.next ≤ i) h5 s1 (tos F1 2 a) := OwnS.chg (q_out (OwnS.imp q1 fun _ _ h => h.1) (n0 := n1) (fun i hi => by omega) (fun i hi => hi.2) c4) c5 (by simp)
    have q2' : OwnQ (fun i => h2.next ≤ i) h5 s2 (tos F1 1 a) := OwnS.chg (q_out q2 (n0 := n1) (fun i hi => by omega) (fun i hi => hi.2) c4) c5 (by simp)
    have q3' : OwnQ (fun i => h2.next ≤ i) h5 s3 (bys F1 a) := OwnS.chg (q_out q3 (n0 := n1) (fun i hi => by omega) (fun i hi => hi.2) c4) c5 (by simp)
    have b4 : Bx h4 p3 s1 s2 s3 s4 := ⟨Nat.lt_of_lt_of_le b3.1 m4, c4.at b3.1 (fun hh => by rcases hh with hh | hh; omega; have := b3.1; omega) b3.2⟩
    have z12 : binNil .eql .other (.int .i64 ((12 : Nat) : Int)) (.int .i64 12) = some (.bool true) := rfl
    obtain ⟨w1, w2, w3, w4⟩ := b4.ld c5
    obtain ⟨u1, u2, u3, u4⟩ := b5.ld (Chg.refl _ _)
    simp only [z12, bindV_some, groupK_eq, guardK_bool, if_true, offV_ptr, Nat.zero_add, w1, u1]
    refine cK (S := sameO) (by simp [tabRf]) (same_q (by omega) q1' r1 ?_)
    simp only [getT, idG_eq, pickV_bool, if_true, bindV_some, groupK_eq, guardK_bool, offV_ptr, Nat.zero_add, w2, u2]
    refine cK (S := sameO) (by simp [tabRf]) (same_q (by omega) q2' r2 ?_)
    simp only [getT, idG_eq, pickV_bool, if_true, bindV_some, groupK_eq, guardK_bool, offV_ptr, Nat.zero_add, w3, u3]
    refine cK (S := sameO) (by simp [tabRf]) (same_q (by omega) q3' r3 ?_)
    obtain ⟨_, y1, y2⟩ := lb.ld c05
    simp only [getT, idG_eq, pickV_bool, if_true, bindV_some, groupK_eq, guardK_bool, offV_ptr, Nat.zero_add, y2]
    refine cK (S := likeO) (by simp [tabRf]) ⟨_, _, v, lv1, _, F1, R1, b, rfl, by omega, by omega, st1.rr, st1.rel, (g4.chg0 c5).inl, d3.chg0 c5, fun h6 c6 => ?_⟩
    simp only [getT, idG_eq, pickV_bool, if_true, bindV_some, groupK_eq, guardK_bool]
    refine cK (S := awakeO) (by simp [tabRf]) ⟨rfl, fun h' c' => ?_⟩
    simp only [getT, idG_eq, pickV_bool, if_true, bindV_some]
    exact ⟨h', St.le.refl _, H h'⟩
theorem refuses_l0 {nn n1 p t a b : Nat} {vs x4 x8 v : Value} {l : List FAct} {h0 : St} {k : Cont} (few : l.length ≤ 80) (s : Acts h0 vs l) (lb : LastB h0 p t a b) (H : ∀ h', k (.bool true) h') :
    ∀ (d i m0 : Nat) (h : St) (lv : Value) (F : Fn) (R : List Rw), i + d = l.length → d < m0 → Chg h0 h [] → Sta h0.next n1 h v lv i F R →
      w_Refuses_l0 (tabC tabRf) idG nn m0 vs (.pointer (some ⟨p, 0, none⟩)) x4 v lv (.int .i64 (i : Int)) x8 h (fun v h1 => ∃ h2, St.le h2 h1 ∧ k v h2) := by
  intro d
  induction d with
  | zero =>
    intro i m0 h lv F R hi hm c st
    obtain ⟨m0, rfl⟩ : ∃ m, m0 = m + 1 := ⟨m0 - 1, by omega⟩
    rw [w_Refuses_l0_eq]
    have e' : i = l.length := by omega
    subst e'
    simp only [s.len, bindV_some, binV_lss, condK_bool, Int.lt_irrefl, decide_false, Bool.false_eq_true, if_false, idG_eq]
    exact refuses_j1 (by omega) lb c st H
  | succ d ih =>
    intro i m0 h lv F R hi hm c st
    obtain ⟨m0, rfl⟩ : ∃ m, m0 = m + 1 := ⟨m0 - 1, by omega⟩
    rw [w_Refuses_l0_eq]
    have hlt : (i : Int) < l.length := by omega
    have inc : IntKind.i64.wrap ((i : Int) + 1) = ((i + 1 : Nat) : Int) := by rw [i64_in _ (by omega)]; omega
    obtain ⟨q, g1, g2⟩ := act_at s (show i < l.length by omega)
    simp only [s.len, bindV_some, binV_lss, condK_bool, hlt, decide_true, if_true, idG_eq, g1, g2 h c]
    refine do_step (by simp [tabRf]) st (by omega) fun h1 lv1 F1 R1 c1 st1 => ?_
    simp only [extV_two0, extV_two1, bindV_some, idG_eq, binNil_int, binV_add, inc]
    exact ih (i + 1) m0 h1 lv1 F1 R1 (by omega) (by omega) (out0 rfl c c1) st1
def refusesLawO : Abs.Spec := fun args h k => ∃ (v : Value) (l : List FAct) (t a b : Nat), args = [v, actV t a b] ∧ Acts h v l ∧ ∀ h', k (.bool true) h'
theorem Acts.chg0 {h h' : St} {v : Value} {l : List FAct} (s : Acts h v l) (c : Chg h h' []) : Acts h' v l := (s.chg c (by simp)).imp fun i _ hi => Nat.lt_of_lt_of_le hi c.1
theorem refusesLawO_good : SpecGood Try.prog (5, refusesLawO) := by
  refine spec_good mixed Try.func5 (by kernel_rfl) (by kernel_rfl) (tab := tabRf) tabRf_good (keep := w_Refuses_keep) ?_
  rintro args h k ⟨v, l, t, a, b, rfl, s, H⟩
  refine ⟨l.length + 1, ?_⟩
  show w_Refuses (tabC _) idG _ v (actV t a b) h _
  rw [w_Refuses_eq]
  refine boxE_in rfl fun h0 c0 n0 o0 => ?_
  have lb : LastB h0 h.next t a b := ⟨by omega, o0⟩
  have s := s.chg0 c0
  simp only [s.len, bindV_some, binNil_int, binV_gtr, condK_bool, decide_eq_true_eq]
  by_cases few : l.length ≤ 80
  · rw [if_neg (by omega)]
    simp only [idG_eq]
    refine cK (S := fnewO) (by simp [tabRf]) ⟨rfl, fun h1 g c1 gv s1 => ?_⟩
    simp only [idG_eq]
    exact refuses_l0 few s lb H l.length 0 _ h1 _ _ _ (by omega) (by omega) c1 (sta_new c1 s1)
  · rw [if_pos (by omega)]
    exact ⟨h0, St.le.refl _, H h0⟩
/-! ### what is told -/
def IntS (B : Nat → Prop) (h : St) (v : Value) (n : Nat) : Prop := ∃ L : List Int, L.length = n ∧ OwnS B h v 1 (L.map (.int .u32)) n
theorem OwnQ.ints {B : Nat → Prop} {h : St} {v : Value} {L : List Nat} (s : OwnQ B h v L) : IntS B h v L.length := by
  refine ⟨L.map fun n : Nat => (n : Int), List.length_map .., ?_⟩
  have e1 : L.map idq = (L.map fun n : Nat => (n : Int)).map (Value.int .u32) := by rw [List.map_map]; rfl
  rw [← e1]; exact s
theorem ints_put {B : Nat → Prop} {h : St} {v : Value} {n : Nat} (s : IntS B h v n) {i : Nat} (hi : i < n) :
    ∃ p x, idxS 1 v (.int .i64 (i : Int)) = some p ∧ loadV false 1 p h = some (.int .u32 x) ∧ ∀ (y : Int) (k : Cont), (∀ h', ChgP B h h' → IntS B h' v n → k undef h') → storeE 1 p (.int .u32 y) h k := by
  obtain ⟨L, ll, s⟩ := s
  rcases s with ⟨rfl, g, _⟩ | ⟨q, rfl, g2, g3, g4, g5⟩
  · omega
  · have hi' : (i : Int) < n := by omega
    have hL : i < L.length := by omega
    refine ⟨.pointer (some ⟨q, i * 1, none⟩), L[i], by simp [idxS, hi', hi], ?_, fun y k H => ?_⟩
    · simp [g4, hL]
    · refine storeE_in g4 ((L.set i y).map (.int .u32)) rfl (by simp; omega) rfl ?_ fun h' c n' o' => H h' (c.toP (by simp [g2])) ⟨L.set i y, by simp [ll], .inr ⟨q, rfl, g2, by omega, o', by simp [ll]⟩⟩
      rw [List.set_eq_take_append_cons_drop, if_pos hL]
      simp
def tabTo : List (FuncId × Abs.Spec) := [(7, fnewO), (8, doO), (9, likeO), (10, areO), (13, flinksO), (18, act2N), (19, act2N), (20, actN), (21, actN), (16, actN), (22, actN), (12, awakeO)]
theorem tabTo_good : ∀ p ∈ tabTo, SpecGood Try.prog p := by simp [tabTo, fnewO_good, doO_good, likeO_good, areO_good, flinksO_good, askN_good, blockN_good, acceptN_good, refuseN_good, removeN_good, unblockN_good, awakeO_good]
theorem tos_none (w a : Nat) : tos (fun _ _ => 0) w a = [] := by
  unfold tos; rw [show (fun y : Nat => bit 0 w) = fun _ => false from funext fun _ => bit_zero w]; exact ups_none
theorem bys_none (a : Nat) : bys (fun _ _ => 0) a = [] := by
  unfold bys; rw [show (fun y : Nat => bit 0 1) = fun _ => false from funext fun _ => bit_zero 1]; exact ups_none
theorem told_j5 {nn a i : Nat} {x0 x4 x7 x8 x9 x10 v lv : Value} {D E : Nat → Prop} {N : Nat} {F : Fn} {R : List Rw} {h : St} {k : Cont} (hN : N ≤ 255) (few : R.length ≤ 900) (rr : RidR R) (rel : Rel F R) (g : GrS D h v N F) (d : DtS E h lv R) (H : ∀ h', k (.bool true) h') :
    w_Told_j5 (tabC tabTo) idG nn x0 (.int .u32 (a : Int)) x4 v lv x7 x8 x9 x10 h (fun v h1 => ∃ h2, St.le h2 h1 ∧ k v h2) := by
  rw [w_Told_j5_eq]
  refine box_links (D := D) (N := 0) (by simp [tabTo]) (by omega) (.inr ⟨rfl, rfl⟩) fun h1 p s1 s2 s3 s4 c1 hp b ln _ => ?_
  obtain ⟨n1, nn, q1, q2, q3, q4, l1, l2, l3, l4⟩ := ln
  rw [tos_none] at q1 q2 q4
  rw [bys_none] at q3
  refine cK (S := act2N) (by simp [tabTo]) ⟨_, _, rfl, ?_⟩
  simp only [extV_two0, extV_two1, bindV_some]
  refine cK (S := act2N) (by simp [tabTo]) ⟨_, _, rfl, ?_⟩
  simp only [extV_two0, extV_two1, bindV_some]
  refine cK (S := likeO) (by simp [tabTo]) ⟨_, _, v, lv, N, F, R, a, rfl, hN, few, rr, rel, (g.chg0 c1).inl, d.chg0 c1, fun h2 c2 => ?_⟩
  obtain ⟨y1, y2, y3, y4⟩ := b.ld c2
  have z : IntKind.i64.wrap ((([] : List Nat).length : Int) + (([] : List Nat).length : Int)) = 0 := by decide
  have z' : IntKind.i64.wrap ((0 : Int) + (([] : List Nat).length : Int)) = 0 := by decide
  have z12 : binNil .eql .other (.int .i64 12) (.int .i64 12) = some (.bool true) := rfl
  have z00 : binNil .eql .other (.int .i64 0) (.int .i64 0) = some (.bool true) := rfl
  simp only [groupK_eq, guardK_bool, if_true, offV_ptr, bindV_some, Nat.zero_add, y1, y2, y3, y4, OwnS.len q1, OwnS.len q2, OwnS.len q3, OwnS.len q4, binV_add, z, z', z00, z12, idG_eq, getT, pickV_bool]
  refine cK (S := actN) (by simp [tabTo]) ⟨_, _, rfl, ?_⟩
  simp only [groupK_eq, guardK_bool, if_true, bindV_some, z12, idG_eq, getT, pickV_bool]
  refine cK (S := actN) (by simp [tabTo]) ⟨_, _, rfl, ?_⟩
  simp only [groupK_eq, guardK_bool, if_true, bindV_some, z12, idG_eq, getT, pickV_bool]
  refine cK (S := actN) (by simp [tabTo]) ⟨_, _, rfl, ?_⟩
  simp only [groupK_eq, guardK_bool, if_true, bindV_some, z12, idG_eq, getT, pickV_bool]
  refine cK (S := actN) (by simp [tabTo]) ⟨_, _, rfl, ?_⟩
  simp only [groupK_eq, guardK_bool, if_true, bindV_some, z12, idG_eq, getT, pickV_bool]
  refine cK (S := areO) (by simp [tabTo]) ⟨D, _, 0, fun _ _ => 0, a, 1, rfl, .inr ⟨rfl, rfl⟩, ?_⟩
  simp only [bit_zero, unV_not, Bool.not_false, groupK_eq, guardK_bool, if_true, bindV_some, idG_eq, getT, pickV_bool]
  refine cK (S := awakeO) (by simp [tabTo]) ⟨rfl, fun h' c' => ?_⟩
  simp only [getT, idG_eq, pickV_bool, if_true, bindV_some]
  exact ⟨h', St.le.refl _, H h'⟩
/-- What stands still while one's own rows are written into. -/
theorem told_l4 {nn a p n nA nL : Nat} {x0 x4 x7 x9 v lv s1 s2 s3 s4 : Value} {D E : Nat → Prop} {N : Nat} {F : Fn} {R : List Rw} {k : Cont} (hN : N ≤ 255) (few : R.length ≤ 900) (rr : RidR R) (rel : Rel F R) (hn : n ≤ 1000) (dD : ∀ i, D i → i < nL) (dE : ∀ i, E i → i < nL) (pA : p < nL ∨ nA ≤ p) (H : ∀ h', k (.bool true) h') :
    ∀ (d i m0 : Nat) (h : St), i + d = n → d < m0 → Bx h p s1 s2 s3 s4 → IntS (fun j => nL ≤ j ∧ j < nA) h s4 n → GrS D h v N F → DtS E h lv R →
      w_Told_l4 (tabC tabTo) idG nn m0 x0 (.int .u32 (a : Int)) x4 v lv x7 (.pointer (some ⟨p, 0, none⟩)) x9 (.int .i64 (i : Int)) h (fun v h1 => ∃ h2, St.le h2 h1 ∧ k v h2) := by
  intro d
  induction d with
  | zero =>
    intro i m0 h hi hm b s g dd
    obtain ⟨m0, rfl⟩ : ∃ m, m0 = m + 1 := ⟨m0 - 1, by omega⟩
    rw [w_Told_l4_eq]
    have e' : i = n := by omega
    subst e'
    obtain ⟨L, ll, so⟩ := s
    simp only [offV_ptr, bindV_some, Nat.zero_add, (b.ld (Chg.refl _ _)).2.2.2, OwnS.len so, binV_lss, condK_bool, Int.lt_irrefl, decide_false, Bool.false_eq_true, if_false, idG_eq]
    exact told_j5 (i := 0) hN few rr rel g dd H
  | succ d ih =>
    intro i m0 h hi hm b s g dd
    obtain ⟨m0, rfl⟩ : ∃ m, m0 = m + 1 := ⟨m0 - 1, by omega⟩
    rw [w_Told_l4_eq]
    have hlt : (i : Int) < n := by omega
    have inc : IntKind.i64.wrap ((i : Int) + 1) = ((i + 1 : Nat) : Int) := by rw [i64_in _ (by omega)]; omega
    obtain ⟨q, x, g1, g2, g3⟩ := ints_put s (show i < n by omega)
    have so := s
    obtain ⟨L, ll, so⟩ := so
    simp only [offV_ptr, bindV_some, Nat.zero_add, (b.ld (Chg.refl _ _)).2.2.2, OwnS.len so, binV_lss, condK_bool, hlt, decide_true, if_true, idG_eq, g1, g2, binNil_int, binV_add]
    refine g3 _ _ fun h1 c1 s' => ?_
    simp only [idG_eq, binNil_int, binV_add, bindV_some, inc]
    refine ih (i + 1) m0 h1 (by omega) (by omega) ⟨Nat.lt_of_lt_of_le b.1 c1.1, c1.at b.1 (fun hh => by omega) b.2⟩ s' (g.chgP c1 fun j h1 h2 => ?_) (OwnS.chgP dd c1 fun j h1 h2 => ?_)
    · have := dD j h2; omega
    · have := dE j h2; omega
theorem told_l2 {nn a p n n4 nA nM nL : Nat} {x0 x4 x7 x10 v lv s1 s2 s3 s4 : Value} {D E : Nat → Prop} {N : Nat} {F : Fn} {R : List Rw} {k : Cont} (hN : N ≤ 255) (few : R.length ≤ 900) (rr : RidR R) (rel : Rel F R) (hn : n ≤ 1000) (hn4 : n4 < nn) (hn4' : n4 ≤ 1000) (lm : nL ≤ nM) (dD : ∀ i, D i → i < nL) (dE : ∀ i, E i → i < nL) (pA : p < nL ∨ nA ≤ p) (ma : nM ≤ nA) (H : ∀ h', k (.bool true) h') :
    ∀ (d i m0 : Nat) (h : St), i + d = n → d < m0 → Bx h p s1 s2 s3 s4 → IntS (fun j => nL ≤ j ∧ j < nM) h s1 n → IntS (fun j => nM ≤ j ∧ j < nA) h s4 n4 → GrS D h v N F → DtS E h lv R →
      w_Told_l2 (tabC tabTo) idG nn m0 x0 (.int .u32 (a : Int)) x4 v lv x7 (.pointer (some ⟨p, 0, none⟩)) (.int .i64 (i : Int)) x10 h (fun v h1 => ∃ h2, St.le h2 h1 ∧ k v h2) := by
  intro d
  induction d with
  | zero =>
    intro i m0 h hi hm b s t g dd
    obtain ⟨m0, rfl⟩ : ∃ m, m0 = m + 1 := ⟨m0 - 1, by omega⟩
    rw [w_Told_l2_eq]
    have e' : i = n := by omega
    subst e'
    obtain ⟨L, ll, so⟩ := s
    simp only [offV_ptr, bindV_some, Nat.zero_add, (b.ld (Chg.refl _ _)).1, OwnS.len so, binV_lss, condK_bool, Int.lt_irrefl, decide_false, Bool.false_eq_true, if_false, idG_eq]
    rw [w_Told_j3_eq]
    simp only [idG_eq]
    obtain ⟨L4, l4, t4⟩ := t
    exact told_l4 (nL := nL) (nA := nA) hN few rr rel hn4' dD dE pA H n4 0 _ h (by omega) (by omega) b ⟨L4, l4, t4.imp fun j _ hj => ⟨by omega, hj.2⟩⟩ g dd
  | succ d ih =>
    intro i m0 h hi hm b s t g dd
    obtain ⟨m0, rfl⟩ : ∃ m, m0 = m + 1 := ⟨m0 - 1, by omega⟩
    rw [w_Told_l2_eq]
    have hlt : (i : Int) < n := by omega
    have inc : IntKind.i64.wrap ((i : Int) + 1) = ((i + 1 : Nat) : Int) := by rw [i64_in _ (by omega)]; omega
    obtain ⟨q, x, g1, g2, g3⟩ := ints_put s (show i < n by omega)
    have so := s
    obtain ⟨L, ll, so⟩ := so
    simp only [offV_ptr, bindV_some, Nat.zero_add, (b.ld (Chg.refl _ _)).1, OwnS.len so, binV_lss, condK_bool, hlt, decide_true, if_true, idG_eq, g1, g2, binNil_int, binV_add]
    refine g3 _ _ fun h1 c1 s' => ?_
    simp only [idG_eq, binNil_int, binV_add, bindV_some, inc]
    obtain ⟨L4, l4, t4⟩ := t
    refine ih (i + 1) m0 h1 (by omega) (by omega) ⟨Nat.lt_of_lt_of_le b.1 c1.1, c1.at b.1 (fun hh => by omega) b.2⟩ s' ⟨L4, l4, t4.chgP c1 fun j h1 h2 => by omega⟩ (g.chgP c1 fun j h1 h2 => ?_) (OwnS.chgP dd c1 fun j h1 h2 => ?_)
    · have := dD j h2; omega
    · have := dE j h2; omega
theorem told_l0 {nn n1 a : Nat} {vs x4 x8 x9 x10 v : Value} {l : List FAct} {h0 : St} {k : Cont} (few : l.length ≤ 60) (hnn : 256 ≤ nn) (s : Acts h0 vs l) (H : ∀ h', k (.bool true) h') :
    ∀ (d i m0 : Nat) (h : St) (lv : Value) (F : Fn) (R : List Rw), i + d = l.length → d < m0 → Chg h0 h [] → Sta h0.next n1 h v lv i F R →
      w_Told_l0 (tabC tabTo) idG nn m0 vs (.int .u32 (a : Int)) x4 v lv (.int .i64 (i : Int)) x8 x9 x10 h (fun v h1 => ∃ h2, St.le h2 h1 ∧ k v h2) := by
  intro d
  induction d with
  | zero =>
    intro i m0 h lv F R hi hm c st
    obtain ⟨m0, rfl⟩ : ∃ m, m0 = m + 1 := ⟨m0 - 1, by omega⟩
    rw [w_Told_l0_eq]
    have e' : i = l.length := by omega
    subst e'
    simp only [s.len, bindV_some, binV_lss, condK_bool, Int.lt_irrefl, decide_false, Bool.false_eq_true, if_false, idG_eq]
    rw [w_Told_j1_eq]
    have sn := st.n
    have sl := st.l
    refine box_links (by simp [tabTo]) (by omega) st.g.inl fun h1 p s1 s2 s3 s4 c1 hp b1 _ ⟨ha, hap, ⟨nM, nm, q1, q2, q3, q4, l1, l2, l3, l4⟩, ca⟩ => ?_
    simp only [idG_eq]
    have q1' : OwnQ (fun i => h.next ≤ i ∧ i < min nM p) h1 s1 (tos F 2 a) := OwnS.chg (OwnS.imp q1 fun j hj hd => (⟨hd.1, by omega⟩ : h.next ≤ j ∧ j < min nM p)) ca (by simp)
    have q4' : OwnQ (fun i => min nM p ≤ i ∧ i < p) h1 s4 (tos F 4 a) := OwnS.chg (OwnS.imp q4 fun j hj hd => (⟨by omega, by omega⟩ : min nM p ≤ j ∧ j < p)) ca (by simp)
    exact told_l2 (nM := min nM p) (nL := h.next) (nA := p) (D := fun j => h0.next ≤ j ∧ j < n1) (E := fun j => n1 ≤ j ∧ j < h.next) (by omega) (by omega) st.rr st.rel (by omega) (show (tos F 4 a).length < nn by omega) (by omega) (by omega) (fun j hj => by omega) (fun j hj => hj.2) (.inr (Nat.le_refl _)) (by omega) H _ 0 _ h1 (Nat.zero_add _) (by omega) b1 q1'.ints q4'.ints (st.g.chg0 c1) ((OwnS.imp st.d fun j hj hd => (⟨hd, hj⟩ : n1 ≤ j ∧ j < h.next)).chg c1 (by simp))
  | succ d ih =>
    intro i m0 h lv F R hi hm c st
    obtain ⟨m0, rfl⟩ : ∃ m, m0 = m + 1 := ⟨m0 - 1, by omega⟩
    rw [w_Told_l0_eq]
    have hlt : (i : Int) < l.length := by omega
    have inc : IntKind.i64.wrap ((i : Int) + 1) = ((i + 1 : Nat) : Int) := by rw [i64_in _ (by omega)]; omega
    obtain ⟨q, g1, g2⟩ := act_at s (show i < l.length by omega)
    simp only [s.len, bindV_some, binV_lss, condK_bool, hlt, decide_true, if_true, idG_eq, g1, g2 h c]
    refine do_step (by simp [tabTo]) st (by omega) fun h1 lv1 F1 R1 c1 st1 => ?_
    simp only [extV_two0, extV_two1, bindV_some, idG_eq, binNil_int, binV_add, inc]
    exact ih (i + 1) m0 h1 lv1 F1 R1 (by omega) (by omega) (out0 rfl c c1) st1
def toldLawO : Abs.Spec := fun args h k => ∃ (v : Value) (l : List FAct) (a : Nat), args = [v, .int .u32 (a : Int)] ∧ Acts h v l ∧ ∀ h', k (.bool true) h'
theorem toldLawO_good : SpecGood Try.prog (6, toldLawO) := by
  refine spec_good mixed Try.func6 (by kernel_rfl) (by kernel_rfl) (tab := tabTo) tabTo_good (keep := w_Told_keep) ?_
  rintro args h k ⟨v, l, a, rfl, s, H⟩
  refine ⟨l.length + 256, ?_⟩
  show w_Told (tabC _) idG _ v (.int .u32 (a : Int)) h _
  rw [w_Told_eq]
  simp only [s.len, bindV_some, binNil_int, binV_gtr, condK_bool, decide_eq_true_eq]
  by_cases few : l.length ≤ 60
  · rw [if_neg (by omega)]
    simp only [idG_eq]
    refine cK (S := fnewO) (by simp [tabTo]) ⟨rfl, fun h1 g c1 gv s1 => ?_⟩
    simp only [idG_eq]
    have s' : Acts h v l := s
    exact told_l0 few (by omega) s' H l.length 0 _ h1 _ _ _ (by omega) (by omega) c1 (sta_new c1 s1)
  · rw [if_pos (by omega)]
    exact ⟨h, St.le.refl _, H h⟩
end Go.Proofs.Ytnndflbpcemecaa
