/- Friends: 'FriendBoth', walked. -/
import Derived.Test.YtnndflbpcemecaaFrL
set_option linter.unusedSimpArgs false
set_option linter.unusedVariables false
set_option maxHeartbeats 4000000
namespace Go.Proofs.Ytnndflbpcemecaa
open Go.Abs Go.IntWalk
attribute [local congr] bindV_weak condK_weak guardK_weak groupK_weak allocE_weak boxE_weak storeE_weak storeM_weak tabC_weak ite_weak idG_weak appendE_weak buildSliceE_weak mapUpdateE_weak deleteE_weak makeMapE_weak copyE_weak clearE_weak callE_weak mapEntryE_weak entryStoreE_weak rangeE_weak nextE_weak

/-! ### has -/
def lhasO : Abs.Spec := fun args h k => ∃ (E : Nat → Prop) (v : Value) (L : List Nat) (a : Nat), args = [v, .int .u32 (a : Int)] ∧ L.length ≤ 1000 ∧ OwnQ E h v L ∧ k (.bool (decide (a ∈ L))) h
theorem lhas_l0 {nn : Nat} {v x4 : Value} {E : Nat → Prop} {L : List Nat} {a : Nat} {h : St} {k : Cont} (few : L.length ≤ 1000) (s : OwnQ E h v L) (H : k (.bool (decide (a ∈ L))) h) :
    ∀ (d i m0 : Nat), i + d = L.length → d < m0 → a ∉ L.take i → w_has_l0 (tabC []) idG nn m0 v (.int .u32 (a : Int)) x4 (.int .i64 (i : Int)) h (fun v h1 => ∃ h2, St.le h2 h1 ∧ k v h2) := by
  intro d
  induction d with
  | zero =>
    intro i m0 hi hm no
    obtain ⟨m0, rfl⟩ : ∃ m, m0 = m + 1 := ⟨m0 - 1, by omega⟩
    rw [w_has_l0_eq]
    have e' : i = L.length := by omega
    subst e'
    rw [List.take_length] at no
    simp only [OwnS.len s, bindV_some, binV_lss, condK_bool, Int.lt_irrefl, decide_false, Bool.false_eq_true, if_false, idG_eq]
    rw [w_has_j1_eq]
    rw [decide_eq_false no] at H
    exact ⟨h, St.le.refl _, H⟩
  | succ d ih =>
    intro i m0 hi hm no
    obtain ⟨m0, rfl⟩ : ∃ m, m0 = m + 1 := ⟨m0 - 1, by omega⟩
    rw [w_has_l0_eq]
    have hlt : (i : Int) < L.length := by omega
    have inc : IntKind.i64.wrap ((i : Int) + 1) = ((i + 1 : Nat) : Int) := by rw [i64_in _ (by omega)]; omega
    obtain ⟨b, o, g1, g2⟩ := own_rowq s (show i < L.length by omega) .i64
    have hx : L[i] ∈ L := List.getElem_mem _
    have tak : L.take (i + 1) = L.take i ++ [L[i]] := List.take_succ_eq_append_getElem (by omega)
    obtain ⟨x, ex⟩ : ∃ x, x = L[i] := ⟨_, rfl⟩
    rw [← ex] at g2 hx tak
    simp only [OwnS.len s, bindV_some, binV_lss, condK_bool, hlt, decide_true, if_true, idG_eq, g1, g2 h (Chg.refl _ _), idq, eqN]
    cases e : decide (x = a) with
    | true =>
      simp only [decide_eq_true_eq] at e
      rw [if_pos rfl]
      rw [← e, decide_eq_true hx] at H
      exact ⟨h, St.le.refl _, H⟩
    | false =>
      simp only [Bool.false_eq_true, if_false, idG_eq, binNil_int, binV_add, bindV_some, inc]
      refine ih (i + 1) m0 (by omega) (by omega) ?_
      rw [tak]
      simp only [List.mem_append, List.mem_singleton]
      rintro (h | rfl)
      · exact no h
      · simp at e
theorem lhasO_good : SpecGood Try.prog (14, lhasO) := by
  refine spec_good mixed Try.func14 (by kernel_rfl) (by kernel_rfl) (tab := []) (by simp) (keep := w_has_keep) ?_
  rintro args h k ⟨E, v, L, a, rfl, few, s, H⟩
  refine ⟨L.length + 1, ?_⟩
  show w_has (tabC _) idG _ v (.int .u32 (a : Int)) h _
  rw [w_has_eq]
  simp only [idG_eq]
  exact lhas_l0 few s H L.length 0 _ (by omega) (by omega) (by simp)
/-! ### both -/
def tabBo : List (FuncId × Abs.Spec) := [(7, fnewO), (8, doO), (13, flinksO), (14, lhasO), (10, areO), (12, awakeO)]
theorem tabBo_good : ∀ p ∈ tabBo, SpecGood Try.prog p := by simp [tabBo, fnewO_good, doO_good, flinksO_good, lhasO_good, areO_good, awakeO_good]
/-- Four rows in a box. -/
def Bx (h : St) (p : Nat) (s1 s2 s3 s4 : Value) : Prop := p < h.next ∧ h.objs p = some (.cells [s1, s2, s3, s4] true)
theorem Bx.ld {h h' : St} {p : Nat} {s1 s2 s3 s4 : Value} (b : Bx h p s1 s2 s3 s4) (c : Chg h h' []) : loadV false 1 (.pointer (some ⟨p, 0, none⟩)) h' = some s1 ∧ loadV false 1 (.pointer (some ⟨p, 1, none⟩)) h' = some s2 ∧ loadV false 1 (.pointer (some ⟨p, 2, none⟩)) h' = some s3 ∧ loadV false 1 (.pointer (some ⟨p, 3, none⟩)) h' = some s4 := by
  have o := c.at0 b.1 b.2
  refine ⟨?_, ?_, ?_, ?_⟩ <;> simp only [loadV_ptr, o, loadM_cells, partV_one, List.getElem?_cons_zero, List.getElem?_cons_succ]
theorem Bx.chg0 {h h' : St} {p : Nat} {s1 s2 s3 s4 : Value} (b : Bx h p s1 s2 s3 s4) (c : Chg h h' []) : Bx h' p s1 s2 s3 s4 := ⟨Nat.lt_of_lt_of_le b.1 c.1, c.at0 b.1 b.2⟩
/-- The links of a player, laid into a box. -/
theorem box_links {T : List (FuncId × Abs.Spec)} (hm : (13, flinksO) ∈ T) {D : Nat → Prop} {h : St} {v : Value} {N : Nat} {F : Fn} {a : Nat} (hN : N ≤ 255) (s : GrV D h v N F) {K : Value → St → Prop}
    (H : ∀ h' p s1 s2 s3 s4, Chg h h' [] → h.next ≤ p → Bx h' p s1 s2 s3 s4 → Ln h.next h' s1 s2 s3 s4 F a → (∃ h1, h1.next = p ∧ Ln h.next h1 s1 s2 s3 s4 F a ∧ Chg h1 h' []) → K (.pointer (some ⟨p, 0, none⟩)) h') :
    tabC T 13 [v, .int .u32 (a : Int)] h fun v32 h3 => allocE (some [.slice none 0 0, .slice none 0 0, .slice none 0 0, .slice none 0 0]) h3 fun v8 h4 => storeE 4 v8 v32 h4 fun _ h6 => K v8 h6 := by
  refine cK hm ⟨D, v, N, F, a, rfl, hN, s, fun h1 s1 s2 s3 s4 c1 ln => ?_⟩
  have ln' := ln
  obtain ⟨n1, nn, q1, q2, q3, q4, l1, l2, l3, l4⟩ := ln'
  have z1 := q1.one
  have z2 := q2.one
  have z3 := q3.one
  have z4 := q4.one
  refine allocE_in fun h2 c2 n2 o2 => ?_
  refine storeE_all o2 rfl rfl (by show allOne [s1, s2, s3, s4] = true; simp [allOne, z1, z2, z3, z4]) fun h3 c3 n3 o3 => ?_
  have c13 : Chg h1 h3 [] := c2.new c3 (Nat.le_refl _)
  exact H h3 h1.next s1 s2 s3 s4 (c1.seq c13) c1.1 ⟨by omega, o3⟩ (ln.chg0 c13) ⟨h1, rfl, ln, c13⟩
section
variable {F : Fn}
theorem tos_mem {w a x : Nat} (f : FOk F) : x ∈ tos F w a ↔ bit (F a x) w = true := by
  unfold tos
  rw [ups_mem]
  refine ⟨fun h => h.2, fun h => ⟨?_, h⟩⟩
  have := (bit_rid f h).2.2
  rw [topId_eq]; omega
theorem bys_mem {a x : Nat} (f : FOk F) : x ∈ bys F a ↔ bit (F x a) 1 = true := by
  unfold bys
  rw [ups_mem]
  refine ⟨fun h => h.2, fun h => ⟨?_, h⟩⟩
  have := (bit_rid f h).1.2
  rw [topId_eq]; omega
theorem Inv.two (i : Inv F) {a x : Nat} (h : bit (F a x) 2 = true) : F a x = 2 ∧ F x a = 2 := by
  rcases i.pair a x with ⟨e1, e2⟩ | ⟨e1, e2⟩ | ⟨e1, e2⟩ | ⟨e1, e2⟩ | ⟨e1, e2⟩ | ⟨e1, e2⟩ | ⟨e1, e2⟩ <;> first | exact ⟨e1, e2⟩ | (exfalso; rw [e1] at h; revert h; decide)
theorem Inv.ask (i : Inv F) {a x : Nat} (h : bit (F a x) 1 = true) : F a x = 1 ∧ F x a = 0 := by
  rcases i.pair a x with ⟨e1, e2⟩ | ⟨e1, e2⟩ | ⟨e1, e2⟩ | ⟨e1, e2⟩ | ⟨e1, e2⟩ | ⟨e1, e2⟩ | ⟨e1, e2⟩ <;> first | exact ⟨e1, e2⟩ | (exfalso; rw [e1] at h; revert h; decide)
end
theorem notin (L : List Nat) {x : Nat} (h : ¬ x ∈ L) : decide (x ∈ L) = false := decide_eq_false h
theorem both_j5 {nn p a : Nat} {x0 x4 x6 x7 x9 x11 v s1 s2 s3 s4 : Value} {n0 : Nat} {F : Fn} {h0 h : St} {k : Cont} (iv : Inv F) (f : FOk F) (b : Bx h p s1 s2 s3 s4) (ln : Ln n0 h s1 s2 s3 s4 F a) (H : ∀ h', k (.bool true) h') :
    w_Both_j5 (tabC tabBo) idG nn x0 (.int .u32 (a : Int)) x4 v x6 x7 (.pointer (some ⟨p, 0, none⟩)) x9 x11 h (fun v h1 => ∃ h2, St.le h2 h1 ∧ k v h2) := by
  rw [w_Both_j5_eq]
  obtain ⟨n1, nn, q1, q2, q3, q4, l1, l2, l3, l4⟩ := ln
  obtain ⟨y1, y2, y3, y4⟩ := b.ld (Chg.refl _ _)
  have a1 : IntKind.i64.wrap (((tos F 2 a).length : Int) + ((tos F 1 a).length : Int)) = (((tos F 2 a).length + (tos F 1 a).length : Nat) : Int) := by rw [i64_in _ (by omega)]; omega
  have a2 : IntKind.i64.wrap ((((tos F 2 a).length + (tos F 1 a).length : Nat) : Int) + ((bys F a).length : Int)) = ((cnt F a : Nat) : Int) := by rw [i64_in _ (by omega)]; unfold cnt; omega
  have a3 : decide (((cnt F a : Nat) : Int) ≤ 16) = true := decide_eq_true (by have := iv.few a; omega)
  have a4 : decide ((((tos F 4 a).length : Nat) : Int) ≤ 16) = true := decide_eq_true (by have := iv.bks a; omega)
  simp only [offV_ptr, bindV_some, Nat.zero_add, y1, y2, y3, OwnS.len q1, OwnS.len q2, OwnS.len q3, binV_add, a1, a2, binNil_int, binV_leq, a3, groupK_eq, guardK_bool, if_true, y4, OwnS.len q4, a4, idG_eq, getT, pickV_bool]
  have m2 : ¬ a ∈ tos F 2 a := by rw [tos_mem f, iv.self, bit_zero]; simp
  have m4 : ¬ a ∈ tos F 4 a := by rw [tos_mem f, iv.self, bit_zero]; simp
  refine cK (S := lhasO) (by simp [tabBo]) ⟨_, s1, _, a, rfl, by omega, q1, ?_⟩
  simp only [notin _ m2, unV_not, Bool.not_false, bindV_some, idG_eq, getT, pickV_bool, if_true, groupK_eq, guardK_bool, offV_ptr, Nat.zero_add, y4]
  refine cK (S := lhasO) (by simp [tabBo]) ⟨_, s4, _, a, rfl, by omega, q4, ?_⟩
  simp only [notin _ m4, unV_not, Bool.not_false, bindV_some, idG_eq, getT, pickV_bool, if_true, groupK_eq, guardK_bool]
  refine cK (S := awakeO) (by simp [tabBo]) ⟨rfl, fun h' c' => ?_⟩
  simp only [idG_eq, getT, pickV_bool, if_true, bindV_some]
  exact ⟨h', St.le.refl _, H h'⟩
theorem both_l4 {nn p a N n0 : Nat} {D : Nat → Prop} {x0 x4 x6 x7 x9 v s1 s2 s3 s4 : Value} {F : Fn} {h0 : St} {k : Cont} (hN : N ≤ 255) (iv : Inv F) (g : GrS D h0 v N F) (b : Bx h0 p s1 s2 s3 s4) (ln : Ln n0 h0 s1 s2 s3 s4 F a) (H : ∀ h', k (.bool true) h') :
    ∀ (d i m0 : Nat) (h : St), i + d = (tos F 1 a).length → d < m0 → Chg h0 h [] →
      w_Both_l4 (tabC tabBo) idG nn m0 x0 (.int .u32 (a : Int)) x4 v x6 x7 (.pointer (some ⟨p, 0, none⟩)) x9 (.int .i64 (i : Int)) h (fun v h1 => ∃ h2, St.le h2 h1 ∧ k v h2) := by
  have f := g.ok
  have ln0 := ln
  obtain ⟨n1, nn, q1, q2, q3, q4, l1, l2, l3, l4⟩ := ln
  intro d
  induction d with
  | zero =>
    intro i m0 h hi hm c
    obtain ⟨m0, rfl⟩ : ∃ m, m0 = m + 1 := ⟨m0 - 1, by omega⟩
    rw [w_Both_l4_eq]
    have e' : i = (tos F 1 a).length := by omega
    subst e'
    simp only [offV_ptr, bindV_some, Nat.zero_add, (b.ld c).2.1, OwnS.len q2, binV_lss, condK_bool, Int.lt_irrefl, decide_false, Bool.false_eq_true, if_false, idG_eq]
    exact both_j5 (h0 := h0) iv f (b.chg0 c) (ln0.chg0 c) H
  | succ d ih =>
    intro i m0 h hi hm c
    obtain ⟨m0, rfl⟩ : ∃ m, m0 = m + 1 := ⟨m0 - 1, by omega⟩
    rw [w_Both_l4_eq]
    have hlt : (i : Int) < (tos F 1 a).length := by omega
    have inc : IntKind.i64.wrap ((i : Int) + 1) = ((i + 1 : Nat) : Int) := by rw [i64_in _ (by omega)]; omega
    obtain ⟨bb, oo, g1, g2⟩ := own_rowq q2 (show i < (tos F 1 a).length by omega) .i64
    have hx : (tos F 1 a)[i] ∈ tos F 1 a := List.getElem_mem _
    obtain ⟨x, ex⟩ : ∃ x, x = (tos F 1 a)[i] := ⟨_, rfl⟩
    rw [← ex] at g2 hx
    rw [tos_mem f] at hx
    obtain ⟨e1, e2⟩ := iv.ask hx
    simp only [offV_ptr, bindV_some, Nat.zero_add, (b.ld c).2.1, OwnS.len q2, binV_lss, condK_bool, hlt, decide_true, if_true, idG_eq, g1, g2 h c, idq]
    refine box_links (by simp [tabBo]) hN (g.chg0 c).inl fun h1 p1 t1 t2 t3 t4 c1 hp b1 ⟨_, _, r1, r2, r3, r4, k1, k2, k3, k4⟩ _ => ?_
    have c01 := c.seq c1
    obtain ⟨y1, y2, y3, y4⟩ := b1.ld (Chg.refl _ _)
    obtain ⟨w1, w2, w3, w4⟩ := b.ld c01
    have m1 : decide (a ∈ bys F x) = true := decide_eq_true ((bys_mem f).2 hx)
    have m2 : ¬ x ∈ bys F a := by rw [bys_mem f, e2]; decide
    have m3 : ¬ x ∈ tos F 4 a := by rw [tos_mem f, e1]; decide
    have m4 : ¬ a ∈ tos F 4 x := by rw [tos_mem f, e2]; decide
    simp only [offV_ptr, bindV_some, Nat.zero_add, y3]
    refine ⟨trivial, ?_⟩
    refine cK (S := lhasO) (by simp [tabBo]) ⟨_, t3, _, a, rfl, by omega, r3, ⟨trivial, trivial⟩, ?_⟩
    simp only [m1, unV_not, Bool.not_true, bindV_some, groupK_eq, guardK_bool, if_true, offV_ptr, Nat.zero_add, w3]
    refine ⟨⟨trivial, trivial⟩, ?_⟩
    simp only [offV_ptr, bindV_some, Nat.zero_add, w2]
    refine ⟨⟨trivial, trivial⟩, ?_⟩
    simp only [g1, g2 h1 c01, bindV_some, idq]
    refine ⟨⟨trivial, trivial⟩, ?_⟩
    refine cK (S := lhasO) (by simp [tabBo]) ⟨_, s3, _, x, rfl, by omega, q3.chg c01 (by simp), ⟨trivial, trivial, trivial, trivial, trivial⟩, ?_⟩
    simp only [notin _ m2, idG_eq, getT, pickV_bool, Bool.false_eq_true, if_false, bindV_some, groupK_eq, guardK_bool, if_true, offV_ptr, Nat.zero_add, w4]
    refine ⟨⟨trivial, trivial, trivial⟩, ?_⟩
    simp only [offV_ptr, bindV_some, Nat.zero_add, w2]
    refine ⟨⟨trivial, trivial, trivial⟩, ?_⟩
    simp only [g1, g2 h1 c01, bindV_some, idq]
    refine ⟨⟨trivial, trivial, trivial⟩, ?_⟩
    refine cK (S := lhasO) (by simp [tabBo]) ⟨_, s4, _, x, rfl, by omega, OwnS.chg q4 c01 (by simp), ⟨trivial, trivial, trivial, trivial, trivial, trivial, trivial, trivial⟩, ?_⟩
    simp only [notin _ m3, idG_eq, getT, pickV_bool, Bool.false_eq_true, if_false, bindV_some, groupK_eq, guardK_bool, if_true, offV_ptr, Nat.zero_add, y4]
    refine ⟨⟨trivial, trivial, trivial, trivial⟩, ?_⟩
    refine cK (S := lhasO) (by simp [tabBo]) ⟨_, t4, _, a, rfl, by omega, r4, ⟨trivial, trivial, trivial, trivial, trivial, trivial, trivial, trivial, trivial⟩, ?_⟩
    simp only [notin _ m4, idG_eq, getT, pickV_bool, Bool.false_eq_true, if_false, bindV_some, condK_bool, binNil_int, binV_add, inc]
    exact ih (i + 1) m0 h1 (by omega) (by omega) c01
theorem both_l2 {nn p a N n0 : Nat} {D : Nat → Prop} {x0 x4 x6 x7 x11 v s1 s2 s3 s4 : Value} {F : Fn} {h0 : St} {k : Cont} (hN : N ≤ 255) (hnn : 256 ≤ nn) (iv : Inv F) (g : GrS D h0 v N F) (b : Bx h0 p s1 s2 s3 s4) (ln : Ln n0 h0 s1 s2 s3 s4 F a) (H : ∀ h', k (.bool true) h') :
    ∀ (d i m0 : Nat) (h : St), i + d = (tos F 2 a).length → d < m0 → Chg h0 h [] →
      w_Both_l2 (tabC tabBo) idG nn m0 x0 (.int .u32 (a : Int)) x4 v x6 x7 (.pointer (some ⟨p, 0, none⟩)) (.int .i64 (i : Int)) x11 h (fun v h1 => ∃ h2, St.le h2 h1 ∧ k v h2) := by
  have f := g.ok
  have ln0 := ln
  obtain ⟨n1, nn', q1, q2, q3, q4, l1, l2, l3, l4⟩ := ln
  intro d
  induction d with
  | zero =>
    intro i m0 h hi hm c
    obtain ⟨m0, rfl⟩ : ∃ m, m0 = m + 1 := ⟨m0 - 1, by omega⟩
    rw [w_Both_l2_eq]
    have e' : i = (tos F 2 a).length := by omega
    subst e'
    simp only [offV_ptr, bindV_some, Nat.zero_add, (b.ld c).1, OwnS.len q1, binV_lss, condK_bool, Int.lt_irrefl, decide_false, Bool.false_eq_true, if_false, idG_eq]
    rw [w_Both_j3_eq]
    simp only [idG_eq]
    exact both_l4 hN iv (g.chg0 c) (b.chg0 c) (ln0.chg0 c) H _ 0 _ h (Nat.zero_add _) (by omega) (Chg.refl _ _)
  | succ d ih =>
    intro i m0 h hi hm c
    obtain ⟨m0, rfl⟩ : ∃ m, m0 = m + 1 := ⟨m0 - 1, by omega⟩
    rw [w_Both_l2_eq]
    have hlt : (i : Int) < (tos F 2 a).length := by omega
    have inc : IntKind.i64.wrap ((i : Int) + 1) = ((i + 1 : Nat) : Int) := by rw [i64_in _ (by omega)]; omega
    obtain ⟨bb, oo, g1, g2⟩ := own_rowq q1 (show i < (tos F 2 a).length by omega) .i64
    have hx : (tos F 2 a)[i] ∈ tos F 2 a := List.getElem_mem _
    obtain ⟨x, ex⟩ : ∃ x, x = (tos F 2 a)[i] := ⟨_, rfl⟩
    rw [← ex] at g2 hx
    rw [tos_mem f] at hx
    obtain ⟨e1, e2⟩ := iv.two hx
    simp only [offV_ptr, bindV_some, Nat.zero_add, (b.ld c).1, OwnS.len q1, binV_lss, condK_bool, hlt, decide_true, if_true, idG_eq, g1, g2 h c, idq]
    refine box_links (by simp [tabBo]) hN (g.chg0 c).inl fun h1 p1 t1 t2 t3 t4 c1 hp b1 ⟨_, _, r1, r2, r3, r4, k1, k2, k3, k4⟩ _ => ?_
    have c01 := c.seq c1
    obtain ⟨y1, y2, y3, y4⟩ := b1.ld (Chg.refl _ _)
    obtain ⟨w1, w2, w3, w4⟩ := b.ld c01
    have m1 : decide (a ∈ tos F 2 x) = true := decide_eq_true ((tos_mem f).2 (by rw [e2]; decide))
    have m2 : ¬ x ∈ tos F 1 a := by rw [tos_mem f, e1]; decide
    have m3 : ¬ x ∈ bys F a := by rw [bys_mem f, e2]; decide
    have m4 : ¬ x ∈ tos F 4 a := by rw [tos_mem f, e1]; decide
    have m5 : bit (F x a) 2 = true := by rw [e2]; decide
    simp only [offV_ptr, bindV_some, Nat.zero_add, y1]
    refine ⟨trivial, ?_⟩
    refine cK (S := lhasO) (by simp [tabBo]) ⟨_, t1, _, a, rfl, by omega, r1, ⟨trivial, trivial⟩, ?_⟩
    simp only [m1, unV_not, Bool.not_true, bindV_some, groupK_eq, guardK_bool, if_true, offV_ptr, Nat.zero_add, w2]
    refine ⟨⟨trivial, trivial⟩, ?_⟩
    simp only [offV_ptr, bindV_some, Nat.zero_add, w1]
    refine ⟨⟨trivial, trivial⟩, ?_⟩
    simp only [g1, g2 h1 c01, bindV_some, idq]
    refine ⟨⟨trivial, trivial⟩, ?_⟩
    refine cK (S := lhasO) (by simp [tabBo]) ⟨_, s2, _, x, rfl, by omega, q2.chg c01 (by simp), ⟨trivial, trivial, trivial, trivial, trivial⟩, ?_⟩
    simp only [notin _ m2, idG_eq, getT, pickV_bool, Bool.false_eq_true, if_false, bindV_some, groupK_eq, guardK_bool, if_true, offV_ptr, Nat.zero_add, w3]
    refine ⟨⟨trivial, trivial, trivial⟩, ?_⟩
    simp only [offV_ptr, bindV_some, Nat.zero_add, w1]
    refine ⟨⟨trivial, trivial, trivial⟩, ?_⟩
    simp only [g1, g2 h1 c01, bindV_some, idq]
    refine ⟨⟨trivial, trivial, trivial⟩, ?_⟩
    refine cK (S := lhasO) (by simp [tabBo]) ⟨_, s3, _, x, rfl, by omega, q3.chg c01 (by simp), ⟨trivial, trivial, trivial, trivial, trivial, trivial, trivial, trivial⟩, ?_⟩
    simp only [notin _ m3, idG_eq, getT, pickV_bool, Bool.false_eq_true, if_false, bindV_some, groupK_eq, guardK_bool, if_true, offV_ptr, Nat.zero_add, w4]
    refine ⟨⟨trivial, trivial, trivial, trivial⟩, ?_⟩
    simp only [offV_ptr, bindV_some, Nat.zero_add, w1]
    refine ⟨⟨trivial, trivial, trivial, trivial⟩, ?_⟩
    simp only [g1, g2 h1 c01, bindV_some, idq]
    refine ⟨⟨trivial, trivial, trivial, trivial⟩, ?_⟩
    refine cK (S := lhasO) (by simp [tabBo]) ⟨_, s4, _, x, rfl, by omega, OwnS.chg q4 c01 (by simp), ⟨trivial, trivial, trivial, trivial, trivial, trivial, trivial, trivial, trivial, trivial, trivial⟩, ?_⟩
    simp only [notin _ m4, idG_eq, getT, pickV_bool, Bool.false_eq_true, if_false, bindV_some, groupK_eq, guardK_bool, if_true, offV_ptr, Nat.zero_add, w1]
    refine ⟨⟨trivial, trivial, trivial, trivial, trivial⟩, ?_⟩
    simp only [g1, g2 h1 c01, bindV_some, idq]
    refine ⟨⟨trivial, trivial, trivial, trivial, trivial⟩, ?_⟩
    refine cK (S := areO) (by simp [tabBo]) ⟨_, v, _, F, x, a, rfl, (g.chg0 c01).inl, ⟨trivial, trivial, trivial, trivial, trivial, trivial, trivial, trivial, trivial, trivial, trivial, trivial, trivial⟩, ?_⟩
    simp only [m5, unV_not, Bool.not_true, idG_eq, getT, pickV_bool, Bool.false_eq_true, if_false, bindV_some, condK_bool, binNil_int, binV_add, inc]
    exact ih (i + 1) m0 h1 (by omega) (by omega) c01
theorem both_l0 {nn n1 a : Nat} {vs x4 x8 x9 x11 v : Value} {l : List FAct} {h0 : St} {k : Cont} (few : l.length ≤ 120) (hnn : 256 ≤ nn) (s : Acts h0 vs l) (H : ∀ h', k (.bool true) h') (n01 : h0.next ≤ n1) :
    ∀ (d i m0 : Nat) (h : St) (F : Fn), i + d = l.length → d < m0 → Chg h0 h [] → n1 ≤ h.next → GrS (fun j => h0.next ≤ j ∧ j < n1) h v (2 * i) F → Inv F →
      w_Both_l0 (tabC tabBo) idG nn m0 vs (.int .u32 (a : Int)) x4 v (.slice none 0 0) (.int .i64 (i : Int)) x8 x9 x11 h (fun v h1 => ∃ h2, St.le h2 h1 ∧ k v h2) := by
  intro d
  induction d with
  | zero =>
    intro i m0 h F hi hm c hn g iv
    obtain ⟨m0, rfl⟩ : ∃ m, m0 = m + 1 := ⟨m0 - 1, by omega⟩
    rw [w_Both_l0_eq]
    have e' : i = l.length := by omega
    subst e'
    simp only [s.len, bindV_some, binV_lss, condK_bool, Int.lt_irrefl, decide_false, Bool.false_eq_true, if_false, idG_eq]
    rw [w_Both_j1_eq]
    refine box_links (by simp [tabBo]) (by omega) g.inl fun h1 p1 s1 s2 s3 s4 c1 hp b1 ln _ => ?_
    simp only [idG_eq]
    have ln' := ln
    obtain ⟨_, _, _, _, _, _, l1, _⟩ := ln'
    exact both_l2 (by omega) hnn iv (g.chg0 c1) b1 ln H _ 0 _ h1 (Nat.zero_add _) (by omega) (Chg.refl _ _)
  | succ d ih =>
    intro i m0 h F hi hm c hn g iv
    obtain ⟨m0, rfl⟩ : ∃ m, m0 = m + 1 := ⟨m0 - 1, by omega⟩
    rw [w_Both_l0_eq]
    have hlt : (i : Int) < l.length := by omega
    have inc : IntKind.i64.wrap ((i : Int) + 1) = ((i + 1 : Nat) : Int) := by rw [i64_in _ (by omega)]; omega
    obtain ⟨p, g1, g2⟩ := act_at s (show i < l.length by omega)
    obtain ⟨⟨t, x, y⟩, ex⟩ : ∃ x, x = l[i]'(by omega) := ⟨_, rfl⟩
    rw [← ex] at g2
    simp only [s.len, bindV_some, binV_lss, condK_bool, hlt, decide_true, if_true, idG_eq, g1, g2 h c]
    refine cK (S := doO) (by simp [tabBo]) ⟨_, fun _ => False, v, .slice none 0 0, 2 * i, F, [], t, x, y, rfl, by omega, by simp, fun r hr => (by cases hr), fun j hj => by omega, fun j h1 => h1.elim, g, .inl ⟨rfl, rfl, rfl⟩, fun h4 lv4 c4 g4 d4 => ?_⟩
    simp only [idG_eq, binNil_int, binV_add, bindV_some, inc]
    have m4 := c4.1
    have c04 : Chg h0 h4 [] := ((c.nil (fun j => h0.next ≤ j)).step (c4.mono fun j _ hj => by have := c.1; rcases hj with hj | hj <;> omega)).list fun j h1 h2 => by omega
    exact ih (i + 1) m0 h4 _ (by omega) (by omega) c04 (by omega) g4 (inv_st iv g.ok t x y)
def bothLawO : Abs.Spec := fun args h k => ∃ (v : Value) (l : List FAct) (a : Nat), args = [v, .int .u32 (a : Int)] ∧ Acts h v l ∧ ∀ h', k (.bool true) h'
theorem bothLawO_good : SpecGood Try.prog (4, bothLawO) := by
  refine spec_good mixed Try.func4 (by kernel_rfl) (by kernel_rfl) (tab := tabBo) tabBo_good (keep := w_Both_keep) ?_
  rintro args h k ⟨v, l, a, rfl, s, H⟩
  refine ⟨l.length + 256, ?_⟩
  show w_Both (tabC _) idG _ v (.int .u32 (a : Int)) h _
  rw [w_Both_eq]
  simp only [s.len, bindV_some, binNil_int, binV_gtr, condK_bool, decide_eq_true_eq]
  by_cases few : l.length ≤ 120
  · rw [if_neg (by omega)]
    simp only [idG_eq]
    refine cK (S := fnewO) (by simp [tabBo]) ⟨rfl, fun h1 g c1 gv s1 => ?_⟩
    simp only [idG_eq]
    have s' : Acts h v l := s
    have st := sta_new c1 s1
    exact both_l0 few (by omega) s' H c1.1 l.length 0 _ h1 _ (by omega) (by omega) c1 (Nat.le_refl _) st.g inv0
  · rw [if_pos (by omega)]
    exact ⟨h, St.le.refl _, H h⟩
end Go.Proofs.Ytnndflbpcemecaa
