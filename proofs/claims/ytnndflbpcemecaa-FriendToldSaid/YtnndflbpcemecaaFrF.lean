/- The document's friends: has, without, rising, Friends, To, Asked, full, Unblock. -/
import Derived.Test.YtnndflbpcemecaaFrE
set_option linter.unusedSimpArgs false
set_option linter.unusedVariables false
set_option maxHeartbeats 4000000
namespace Go.Proofs.Ytnndflbpcemecaa
open Go.Abs Go.IntWalk
attribute [local congr] bindV_weak condK_weak guardK_weak groupK_weak allocE_weak boxE_weak storeE_weak storeM_weak tabC_weak ite_weak idG_weak appendE_weak buildSliceE_weak mapUpdateE_weak deleteE_weak makeMapE_weak copyE_weak clearE_weak callE_weak mapEntryE_weak entryStoreE_weak rangeE_weak nextE_weak

theorem eqN (k : IntKind) (a b : Nat) : binV .eql .other (.int k (a : Int)) (.int k (b : Int)) = some (.bool (decide (a = b))) := by
  rw [binV_eql, show decide ((a : Int) = (b : Int)) = decide (a = b) from decide_eq_decide.2 (by omega)]
theorem neN (k : IntKind) (a b : Nat) : binV .neq .other (.int k (a : Int)) (.int k (b : Int)) = some (.bool (!decide (a = b))) := by
  rw [binV_neq, show decide ((a : Int) ≠ (b : Int)) = !decide (a = b) by
    by_cases h : a = b
    · simp [h]
    · have : (a : Int) ≠ (b : Int) := by omega
      simp [h, this]]
/-! ### rising -/
theorem len_sub : ∀ {A B : List Nat}, A.Pairwise (· < ·) → (∀ x ∈ A, x ∈ B) → A.length ≤ B.length
  | [], _, _, _ => Nat.zero_le _
  | a :: A, B, p, h => by
    obtain ⟨p1, p2⟩ := List.pairwise_cons.1 p
    have m := h a (by simp)
    have := len_sub (B := B.erase a) p2 fun x hx => by
      have := p1 x hx
      exact (List.mem_erase_of_ne (by omega)).2 (h x (by simp [hx]))
    rw [List.length_erase_of_mem m] at this
    have : 0 < B.length := List.length_pos_of_mem m
    simp; omega
theorem ups_few {L : List Nat} : (ups fun x => decide (x ∈ L)).length ≤ L.length := len_sub (ups_rise _) fun x hx => by have := (ups_mem.1 hx).2; simpa using this
theorem own_rowq {D : Nat → Prop} {h0 : St} {v : Value} {L : List Nat} (s : OwnQ D h0 v L) {i : Nat} (hi : i < L.length) (k : IntKind) :
    ∃ b o, idxS 1 v (.int k i) = some (.pointer (some ⟨b, o, none⟩)) ∧ ∀ h, Chg h0 h [] → loadV false 1 (.pointer (some ⟨b, o, none⟩)) h = some (idq L[i]) := by
  have s' : OwnS D h0 v 1 (L.flatMap fun x => [idq x]) L.length := by
    have : (L.flatMap fun x => [idq x]) = L.map idq := by
      clear s hi
      induction L with
      | nil => rfl
      | cons x L ih => rw [List.flatMap_cons, ih, List.map_cons]; rfl
    rw [this]; exact s
  obtain ⟨b, o, g1, g2, g3, cs, g4, g5⟩ := s'.row (by simp) (List.getElem?_eq_getElem hi) k
  refine ⟨b, o, g1, fun h c => ?_⟩
  have := row_cell g5 0 (by omega)
  simp only [Nat.add_zero, List.getElem?_cons_zero] at this
  simp only [loadV_ptr, c.at0 g3 g4, loadM_cells, partV_one, this]
def risingO : Abs.Spec := fun args h k => ∃ (E : Nat → Prop) (v : Value) (L : List Nat), args = [v] ∧ L.length ≤ 10000 ∧ (∀ x ∈ L, rid x) ∧ OwnQ E h v L ∧
  ∀ h' sv, Chg h h' [] → OwnQ (fun i => h.next ≤ i) h' sv (ups fun x => decide (x ∈ L)) → k sv h'
theorem rising_l0 {nn r : Nat} {v x2 : Value} {E : Nat → Prop} {L : List Nat} {h0 : St} {k : Cont} (few : L.length ≤ 10000) (rd : ∀ x ∈ L, rid x) (s : OwnQ E h0 v L) (rn : h0.next ≤ r)
    (H : ∀ h' sv, Chg h0 h' [] → OwnQ (fun i => h0.next ≤ i) h' sv (ups fun x => decide (x ∈ L)) → k sv h') :
    ∀ (d i m0 : Nat) (h : St) (lv : Value) (R : List Nat), i + d = L.length → d < m0 → Chg h0 h [] → r < h.next → h.objs r = some (.cells [lv, .int .i64 (L.length : Int)] true) → JtS (fun i => h0.next ≤ i ∧ i ≠ r) h lv R → (∀ x, x ∈ R ↔ x ∈ L.take i) → R.length ≤ i →
      d_rising_l0 (tabC [(51, hputO), (52, hidsO)]) idG nn m0 v x2 (.pointer (some ⟨r, 0, none⟩)) (.int .i64 (i : Int)) h (fun v h1 => ∃ h2, St.le h2 h1 ∧ k v h2) := by
  intro d
  induction d with
  | zero =>
    intro i m0 h lv R hi hm c hr o j mem rl
    obtain ⟨m0, rfl⟩ : ∃ m, m0 = m + 1 := ⟨m0 - 1, by omega⟩
    rw [d_rising_l0_eq]
    have e' : i = L.length := by omega
    subst e'
    rw [List.take_length] at mem
    simp only [OwnS.len s, bindV_some, binV_lss, condK_bool, Int.lt_irrefl, decide_false, Bool.false_eq_true, if_false, idG_eq]
    rw [d_rising_j1_eq, boxJ_load j o]
    simp only [bindV_some]
    refine cK (S := hidsO) (by simp) ⟨_, lv, L.length, R, ups fun x => decide (x ∈ L), rfl, by omega, Nat.le_trans ups_few (by omega), ups_rise _, fun q => ?_, fun q hq => ?_, j, fun h' sv c' o' => ?_⟩
    · rw [ups_mem, mem]
      simp only [decide_eq_true_eq]
      refine ⟨fun h => h.2, fun h => ⟨?_, h⟩⟩
      have := (rd q h).2; rw [topId_eq]; omega
    · have := (ups_mem.1 hq).2
      simp only [decide_eq_true_eq] at this
      exact (rd q this).1
    · exact ⟨h', St.le.refl _, H h' sv (c.seq c') (o'.imp fun j _ hj => Nat.le_trans c.1 hj)⟩
  | succ d ih =>
    intro i m0 h lv R hi hm c hr o j mem rl
    obtain ⟨m0, rfl⟩ : ∃ m, m0 = m + 1 := ⟨m0 - 1, by omega⟩
    rw [d_rising_l0_eq]
    have hlt : (i : Int) < L.length := by omega
    have inc : IntKind.i64.wrap ((i : Int) + 1) = ((i + 1 : Nat) : Int) := by rw [i64_in _ (by omega)]; omega
    obtain ⟨b, oo, g1, g2⟩ := own_rowq s (show i < L.length by omega) .i64
    have hx : L[i] ∈ L := List.getElem_mem _
    have tak : L.take (i + 1) = L.take i ++ [L[i]] := List.take_succ_eq_append_getElem (by omega)
    obtain ⟨x, ex⟩ : ∃ x, x = L[i] := ⟨_, rfl⟩
    rw [← ex] at g2 hx tak
    simp only [OwnS.len s, bindV_some, binV_lss, condK_bool, hlt, decide_true, if_true, idG_eq]
    rw [boxJ_load j o]
    simp only [bindV_some]
    refine ⟨trivial, ?_⟩
    simp only [g1, g2 h c, bindV_some]
    refine ⟨trivial, ?_⟩
    refine cK (S := hputO) (by simp) ⟨_, lv, L.length, R, x, rfl, rightId_iff.2 (rd x hx), by omega, by omega, j, fun h1 lv1 c1 j1 => ⟨⟨trivial, trivial, trivial⟩, ?_⟩⟩
    simp only [extV_two0, extV_two1, bindV_some]
    have m1 := c1.1
    have m0' := c.1
    have z1 := j1.one
    refine storeE_all (c1.at0 hr o) rfl rfl (by show allOne [lv1, _] = true; simp only [allOne, z1, Bool.true_and]; rfl) fun h2 c2 n2 o2 => ⟨⟨trivial, trivial, trivial⟩, ?_⟩
    simp only [binNil_int, binV_add, bindV_some, inc, idG_eq]
    refine ih (i + 1) m0 h2 lv1 (dropR R x ++ [x]) (by omega) (by omega) ((c.seq c1).new c2 rn) (by omega) o2 ?_ (fun y => ?_) ?_
    · exact OwnS.imp (OwnS.chg j1 c2 (by simp; omega)) fun q _ hq => ⟨by omega, by omega⟩
    · rw [tak, List.mem_append, List.mem_append, ← mem]
      unfold dropR
      rw [List.mem_filter]
      simp only [List.mem_singleton, decide_eq_true_eq]
      by_cases e : y = x
      · simp [e]
      · simp [e]
    · have : (dropR R x).length ≤ R.length := List.length_filter_le ..
      simp; omega
theorem risingO_good : SpecGood Try.prog (47, risingO) := by
  refine spec_good mixed Try.func47 (by kernel_rfl) (by kernel_rfl) (tab := [(51, hputO), (52, hidsO)]) (by simp [hputO_good, hidsO_good]) (keep := d_rising_keep) ?_
  rintro args h k ⟨E, v, L, rfl, few, rd, s, H⟩
  refine ⟨L.length + 1, ?_⟩
  show d_rising (tabC _) idG _ v h _
  rw [d_rising_eq]
  simp only [OwnS.len s, bindV_some, encJ_build]
  refine allocE_in fun h1 c1 n1 o1 => ?_
  refine storeE_all o1 rfl rfl rfl fun h2 c2 n2 o2 => ?_
  have o2 : h2.objs h.next = some (.cells [.slice none 0 0, .int .i64 (L.length : Int)] true) := o2
  simp only [idG_eq]
  exact rising_l0 few rd s (Nat.le_refl _) H L.length 0 _ h2 _ [] (by omega) (by omega) (c1.new c2 (Nat.le_refl _)) (by omega) o2 (.inl ⟨rfl, rfl, rfl⟩) (by simp) (by simp)
/-! ### rows -/
abbrev Rw := Nat × Nat × Nat
def cellsR (r : Rw) : List Value := [.int .i64 (r.1 : Int), .int .u32 (r.2.1 : Int), .int .u32 (r.2.2 : Int)]
theorem len_R (r : Rw) : (cellsR r).length = 3 := rfl
def DtS (E : Nat → Prop) (h : St) (lv : Value) (R : List Rw) : Prop := OwnS E h lv 3 (R.flatMap cellsR) R.length
theorem DtS.chg0 {E : Nat → Prop} {h h' : St} {lv : Value} {R : List Rw} (s : DtS E h lv R) (c : Chg h h' []) : DtS E h' lv R := OwnS.chg s c (by simp)
theorem DtS.at {E : Nat → Prop} {h0 : St} {lv : Value} {R : List Rw} (s : DtS E h0 lv R) {i : Nat} (hi : i < R.length) (k : IntKind) :
    ∃ b o, idxS 3 lv (.int k i) = some (.pointer (some ⟨b, o, none⟩)) ∧ ∀ h, Chg h0 h [] → loadV false 1 (.pointer (some ⟨b, o, none⟩)) h = some (.int .i64 (R[i].1 : Int)) ∧ loadV false 1 (.pointer (some ⟨b, o + 1, none⟩)) h = some (.int .u32 (R[i].2.1 : Int)) ∧
      loadV false 1 (.pointer (some ⟨b, o + 2, none⟩)) h = some (.int .u32 (R[i].2.2 : Int)) ∧ loadV true 3 (.pointer (some ⟨b, o, none⟩)) h = some (.agg (cellsR R[i]).toArray) := by
  obtain ⟨b, o, g1, g2, g3, cs, g4, g5⟩ := OwnS.row s (fun y _ => len_R y) (List.getElem?_eq_getElem hi) k
  refine ⟨b, o, g1, fun h c => ?_⟩
  have e0 : cs[o]? = some (.int .i64 (R[i].1 : Int)) := row_cell g5 0 (by omega)
  have e1 : cs[o + 1]? = some (.int .u32 (R[i].2.1 : Int)) := row_cell g5 1 (by omega)
  have e2 : cs[o + 2]? = some (.int .u32 (R[i].2.2 : Int)) := row_cell g5 2 (by omega)
  have g := c.at0 g3 g4
  refine ⟨?_, ?_, ?_, ?_⟩
  · simp only [loadV_ptr, g, loadM_cells, partV_one, e0]
  · simp only [loadV_ptr, g, loadM_cells, partV_one, e1]
  · simp only [loadV_ptr, g, loadM_cells, partV_one, e2]
  · simp only [loadV_ptr, g, loadM_cells, partV_agg, g5, Option.map_some]
/-! ### has -/
def dhasO : Abs.Spec := fun args h k => ∃ (E : Nat → Prop) (lv : Value) (R : List Rw) (w a b : Nat), args = [lv, .int .i64 (w : Int), .int .u32 (a : Int), .int .u32 (b : Int)] ∧ R.length ≤ 10000 ∧ DtS E h lv R ∧ k (.bool (decide ((w, a, b) ∈ R))) h
theorem dhas_l0 {nn : Nat} {lv x8 : Value} {E : Nat → Prop} {R : List Rw} {w a b : Nat} {h : St} {k : Cont} (few : R.length ≤ 10000) (s : DtS E h lv R) (H : k (.bool (decide ((w, a, b) ∈ R))) h) :
    ∀ (d i m0 : Nat), i + d = R.length → d < m0 → (w, a, b) ∉ R.take i →
      d_has_l0 (tabC []) idG nn m0 lv (.int .i64 (w : Int)) (.int .u32 (a : Int)) (.int .u32 (b : Int)) x8 (.int .i64 (i : Int)) h (fun v h1 => ∃ h2, St.le h2 h1 ∧ k v h2) := by
  intro d
  induction d with
  | zero =>
    intro i m0 hi hm no
    obtain ⟨m0, rfl⟩ : ∃ m, m0 = m + 1 := ⟨m0 - 1, by omega⟩
    rw [d_has_l0_eq]
    have e' : i = R.length := by omega
    subst e'
    rw [List.take_length] at no
    simp only [OwnS.len s, bindV_some, binV_lss, condK_bool, Int.lt_irrefl, decide_false, Bool.false_eq_true, if_false, idG_eq]
    rw [d_has_j1_eq]
    rw [decide_eq_false no] at H
    exact ⟨h, St.le.refl _, H⟩
  | succ d ih =>
    intro i m0 hi hm no
    obtain ⟨m0, rfl⟩ : ∃ m, m0 = m + 1 := ⟨m0 - 1, by omega⟩
    rw [d_has_l0_eq]
    have hlt : (i : Int) < R.length := by omega
    have inc : IntKind.i64.wrap ((i : Int) + 1) = ((i + 1 : Nat) : Int) := by rw [i64_in _ (by omega)]; omega
    obtain ⟨b', o, g1, g2⟩ := s.at (show i < R.length by omega) .i64
    obtain ⟨f0, f1, f2, _⟩ := g2 h (Chg.refl _ _)
    have hx : R[i] ∈ R := List.getElem_mem _
    have tak : R.take (i + 1) = R.take i ++ [R[i]] := List.take_succ_eq_append_getElem (by omega)
    obtain ⟨x, ex⟩ : ∃ x, x = R[i] := ⟨_, rfl⟩
    rw [← ex] at f0 f1 f2 hx tak
    obtain ⟨w0, a0, b0⟩ := x
    have next : ¬ (w0 = w ∧ a0 = a ∧ b0 = b) → d_has_l0 (tabC []) idG nn m0 lv (.int .i64 (w : Int)) (.int .u32 (a : Int)) (.int .u32 (b : Int)) x8 (.int .i64 ((i + 1 : Nat) : Int)) h (fun v h1 => ∃ h2, St.le h2 h1 ∧ k v h2) := fun ne =>
      ih (i + 1) m0 (by omega) (by omega) (by rw [tak]; simp only [List.mem_append, List.mem_singleton, Prod.mk.injEq]; rintro (h | ⟨h1, h2, h3⟩); exact no h; exact ne ⟨h1.symm, h2.symm, h3.symm⟩)
    simp only [OwnS.len s, bindV_some, binV_lss, condK_bool, hlt, decide_true, if_true, idG_eq, g1, offV_ptr, Nat.add_zero, f0, eqN]
    cases e0 : decide (w0 = w) with
    | false =>
      simp only [groupK_eq, guardK_bool, Bool.false_eq_true, if_false, idG_eq, pickV_bool, bindV_some, condK_bool, binNil_int, binV_add, inc]
      exact next fun h => by rw [h.1] at e0; simp at e0
    | true =>
    simp only [groupK_eq, guardK_bool, if_true, g1, offV_ptr, f1, eqN, bindV_some, idG_eq, pickV_bool, getT]
    cases e1 : decide (a0 = a) with
    | false =>
      simp only [groupK_eq, guardK_bool, Bool.false_eq_true, if_false, idG_eq, pickV_bool, bindV_some, condK_bool, binNil_int, binV_add, inc]
      exact next fun h => by rw [h.2.1] at e1; simp at e1
    | true =>
    simp only [groupK_eq, guardK_bool, if_true, g1, offV_ptr, f2, eqN, bindV_some, idG_eq, pickV_bool, getT]
    cases e2 : decide (b0 = b) with
    | false =>
      simp only [groupK_eq, guardK_bool, Bool.false_eq_true, if_false, idG_eq, pickV_bool, bindV_some, condK_bool, binNil_int, binV_add, inc]
      exact next fun h => by rw [h.2.2] at e2; simp at e2
    | true =>
    simp only [condK_bool, if_true]
    simp only [decide_eq_true_eq] at e0 e1 e2
    subst e0 e1 e2
    rw [decide_eq_true hx] at H
    exact ⟨h, St.le.refl _, H⟩
theorem dhasO_good : SpecGood Try.prog (32, dhasO) := by
  refine spec_good mixed Try.func32 (by kernel_rfl) (by kernel_rfl) (tab := []) (by simp) (keep := d_has_keep) ?_
  rintro args h k ⟨E, lv, R, w, a, b, rfl, few, s, H⟩
  refine ⟨R.length + 1, ?_⟩
  show d_has (tabC _) idG _ lv (.int .i64 (w : Int)) (.int .u32 (a : Int)) (.int .u32 (b : Int)) h _
  rw [d_has_eq]
  simp only [idG_eq]
  exact dhas_l0 few s H R.length 0 _ (by omega) (by omega) (by simp)
def dis (w : Nat) : Abs.Spec := fun args h k => ∃ (E : Nat → Prop) (lv : Value) (R : List Rw) (a b : Nat), args = [lv, .int .u32 (a : Int), .int .u32 (b : Int)] ∧ R.length ≤ 10000 ∧ DtS E h lv R ∧ k (.bool (decide ((w, a, b) ∈ R))) h
theorem dasksO_good : SpecGood Try.prog (45, dis 1) := by
  refine spec_good mixed Try.func45 (by kernel_rfl) (by kernel_rfl) (tab := [(32, dhasO)]) (by simp [dhasO_good]) (keep := d_Asks_keep) ?_
  rintro args h k ⟨E, lv, R, a, b, rfl, few, s, H⟩
  refine ⟨0, ?_⟩
  show d_Asks (tabC _) idG _ lv (.int .u32 (a : Int)) (.int .u32 (b : Int)) h _
  rw [d_Asks_eq]
  exact cK (S := dhasO) (by simp) ⟨E, lv, R, 1, a, b, rfl, few, s, h, St.le.refl _, H⟩
theorem dblocksO_good : SpecGood Try.prog (44, dis 3) := by
  refine spec_good mixed Try.func44 (by kernel_rfl) (by kernel_rfl) (tab := [(32, dhasO)]) (by simp [dhasO_good]) (keep := d_Blocks_keep) ?_
  rintro args h k ⟨E, lv, R, a, b, rfl, few, s, H⟩
  refine ⟨0, ?_⟩
  show d_Blocks (tabC _) idG _ lv (.int .u32 (a : Int)) (.int .u32 (b : Int)) h _
  rw [d_Blocks_eq]
  exact cK (S := dhasO) (by simp) ⟨E, lv, R, 3, a, b, rfl, few, s, h, St.le.refl _, H⟩
def frd (R : List Rw) (a b : Nat) : Bool := decide ((2, a, b) ∈ R) || decide ((2, b, a) ∈ R)
def dareO : Abs.Spec := fun args h k => ∃ (E : Nat → Prop) (lv : Value) (R : List Rw) (a b : Nat), args = [lv, .int .u32 (a : Int), .int .u32 (b : Int)] ∧ R.length ≤ 10000 ∧ DtS E h lv R ∧ k (.bool (frd R a b)) h
theorem dareO_good : SpecGood Try.prog (11, dareO) := by
  refine spec_good mixed Try.func11 (by kernel_rfl) (by kernel_rfl) (tab := [(32, dhasO)]) (by simp [dhasO_good]) (keep := d_Are_keep) ?_
  rintro args h k ⟨E, lv, R, a, b, rfl, few, s, H⟩
  refine ⟨0, ?_⟩
  show d_Are (tabC _) idG _ lv (.int .u32 (a : Int)) (.int .u32 (b : Int)) h _
  rw [d_Are_eq]
  refine cK (S := dhasO) (by simp) ⟨E, lv, R, 2, a, b, rfl, few, s, ?_⟩
  unfold frd at H
  cases e : decide ((2, a, b) ∈ R) with
  | true =>
    rw [e, Bool.true_or] at H
    simp only [groupK_eq, guardK_bool, Bool.true_eq_false, if_false, idG_eq, pickV_bool, if_true, bindV_some]
    exact ⟨h, St.le.refl _, H⟩
  | false =>
    rw [e, Bool.false_or] at H
    simp only [groupK_eq, guardK_bool, if_true, idG_eq, pickV_bool, Bool.false_eq_true, if_false, bindV_some]
    refine cK (S := dhasO) (by simp) ⟨E, lv, R, 2, b, a, rfl, few, s, ?_⟩
    simp only [getT, bindV_some]
    exact ⟨h, St.le.refl _, H⟩
end Go.Proofs.Ytnndflbpcemecaa
