/- The document's friends: Friends, To, Asked, full, wrong. -/
import Derived.Test.YtnndflbpcemecaaFrF
set_option linter.unusedSimpArgs false
set_option linter.unusedVariables false
set_option maxHeartbeats 4000000
namespace Go.Proofs.Ytnndflbpcemecaa
open Go.Abs Go.IntWalk
attribute [local congr] bindV_weak condK_weak guardK_weak groupK_weak allocE_weak boxE_weak storeE_weak storeM_weak tabC_weak ite_weak idG_weak appendE_weak buildSliceE_weak mapUpdateE_weak deleteE_weak makeMapE_weak copyE_weak clearE_weak callE_weak mapEntryE_weak entryStoreE_weak rangeE_weak nextE_weak

def RidR (R : List Rw) : Prop := ∀ r ∈ R, rid r.2.1 ∧ rid r.2.2
theorem flat_take {α β : Type} {f : α → List β} {R : List α} {i : Nat} (hi : i < R.length) : (R.take (i + 1)).flatMap f = (R.take i).flatMap f ++ f R[i] := by
  rw [List.take_succ_eq_append_getElem hi, List.flatMap_append]; simp
theorem flat_len {α β : Type} {f : α → List β} {c : Nat} : ∀ {R : List α}, (∀ x ∈ R, (f x).length ≤ c) → (R.flatMap f).length ≤ c * R.length
  | [], _ => by simp
  | x :: R, h => by
    have := flat_len (f := f) (c := c) (R := R) fun y hy => h y (by simp [hy])
    have := h x (by simp)
    rw [List.flatMap_cons, List.length_append, List.length_cons, Nat.mul_add]; omega
/-- An id put behind a row of one's own. -/
theorem push_q {n0 : Nat} {h : St} {v : Value} {L : List Nat} {x : Nat} {k : Cont} (hn : n0 ≤ h.next) (s : OwnQ (fun i => n0 ≤ i) h v L) (few : L.length ≤ 100000)
    (hk : ∀ h' v', ChgP (fun i => n0 ≤ i) h h' → OwnQ (fun i => n0 ≤ i) h' v' (L ++ [x]) → k v' h') : buildSliceE 1 1 [.int .u32 0] [(0 * 1, 1, .int .u32 (x : Int))] h fun v2 h2 => appendE 1 4 v v2 h2 k := by
  refine append_row (B := fun i => n0 ≤ i) (fun j hj => by omega) s rfl rfl rfl rfl (by omega) (by omega) fun h5 out5 c5 s5 => hk h5 out5 c5 ?_
  unfold OwnQ; rw [List.map_append, List.length_append]; exact s5
theorem fresh_out {h0 h h' : St} (c : Chg h0 h []) (d : ChgP (fun i => h0.next ≤ i) h h') : Chg h0 h' [] := ((c.nil (fun i => h0.next ≤ i)).step d).list fun j h1 h2 => by omega
/-! ### To -/
def toF (w a : Nat) (r : Rw) : List Nat := if r.1 = w ∧ r.2.1 = a then [r.2.2] else []
def toL (w a : Nat) (R : List Rw) : List Nat := R.flatMap (toF w a)
theorem toL_mem {w a x : Nat} {R : List Rw} : x ∈ toL w a R ↔ (w, a, x) ∈ R := by
  unfold toL
  rw [List.mem_flatMap]
  constructor
  · rintro ⟨⟨w0, a0, b0⟩, hr, hx⟩
    unfold toF at hx
    split at hx
    · rename_i h
      simp only [List.mem_singleton] at hx
      obtain ⟨h1, h2⟩ := h
      simp only at h1 h2
      rw [hx, ← h1, ← h2]; exact hr
    · simp at hx
  · intro h
    exact ⟨_, h, by simp [toF]⟩
theorem toL_len {w a : Nat} {R : List Rw} : (toL w a R).length ≤ R.length := by
  have := flat_len (f := toF w a) (c := 1) (R := R) fun x _ => by unfold toF; split <;> simp
  unfold toL; omega
noncomputable def dto (R : List Rw) (w a : Nat) : List Nat := ups fun x => decide ((w, a, x) ∈ R)
def dtoO : Abs.Spec := fun args h k => ∃ (E : Nat → Prop) (lv : Value) (R : List Rw) (w a : Nat), args = [lv, .int .i64 (w : Int), .int .u32 (a : Int)] ∧ R.length ≤ 1000 ∧ RidR R ∧ DtS E h lv R ∧
  ∀ h' sv, Chg h h' [] → OwnQ (fun i => h.next ≤ i) h' sv (dto R w a) → k sv h'
def tabRi : List (FuncId × Abs.Spec) := [(47, risingO)]
theorem dto_l0 {nn : Nat} {lv x6 : Value} {E : Nat → Prop} {R : List Rw} {w a : Nat} {h0 : St} {k : Cont} (few : R.length ≤ 1000) (rr : RidR R) (s : DtS E h0 lv R)
    (H : ∀ h' sv, Chg h0 h' [] → OwnQ (fun i => h0.next ≤ i) h' sv (dto R w a) → k sv h') :
    ∀ (d i m0 : Nat) (h : St) (out : Value), i + d = R.length → d < m0 → Chg h0 h [] → OwnQ (fun i => h0.next ≤ i) h out (toL w a (R.take i)) →
      d_To_l0 (tabC tabRi) idG nn m0 lv (.int .i64 (w : Int)) (.int .u32 (a : Int)) x6 out (.int .i64 (i : Int)) h (fun v h1 => ∃ h2, St.le h2 h1 ∧ k v h2) := by
  intro d
  induction d with
  | zero =>
    intro i m0 h out hi hm c o
    obtain ⟨m0, rfl⟩ : ∃ m, m0 = m + 1 := ⟨m0 - 1, by omega⟩
    rw [d_To_l0_eq]
    have e' : i = R.length := by omega
    subst e'
    rw [List.take_length] at o
    simp only [OwnS.len s, bindV_some, binV_lss, condK_bool, Int.lt_irrefl, decide_false, Bool.false_eq_true, if_false, idG_eq]
    rw [d_To_j2_eq]
    have ll : (toL w a R).length ≤ R.length := toL_len
    refine cK (S := risingO) (by simp [tabRi]) ⟨_, out, toL w a R, rfl, by omega, fun x hx => (rr _ (toL_mem.1 hx)).2, o, fun h' sv c' o' => ?_⟩
    refine ⟨h', St.le.refl _, H h' sv (c.seq c') ?_⟩
    have e : dto R w a = ups fun x => decide (x ∈ toL w a R) := ups_congr fun x _ => decide_eq_decide.2 toL_mem.symm
    rw [e]
    exact o'.imp fun j _ hj => Nat.le_trans c.1 hj
  | succ d ih =>
    intro i m0 h out hi hm c o
    obtain ⟨m0, rfl⟩ : ∃ m, m0 = m + 1 := ⟨m0 - 1, by omega⟩
    rw [d_To_l0_eq]
    have hlt : (i : Int) < R.length := by omega
    have inc : IntKind.i64.wrap ((i : Int) + 1) = ((i + 1 : Nat) : Int) := by rw [i64_in _ (by omega)]; omega
    obtain ⟨b', oo, g1, g2⟩ := s.at (show i < R.length by omega) .i64
    obtain ⟨f0, f1, f2, _⟩ := g2 h c
    have tak : toL w a (R.take (i + 1)) = toL w a (R.take i) ++ toF w a R[i] := flat_take (by omega)
    have tl : (toL w a (R.take i)).length ≤ i := Nat.le_trans toL_len (by rw [List.length_take]; omega)
    obtain ⟨x, ex⟩ : ∃ x, x = R[i] := ⟨_, rfl⟩
    rw [← ex] at f0 f1 f2 tak
    obtain ⟨w0, a0, b0⟩ := x
    have next : ∀ h1 out1, Chg h0 h1 [] → OwnQ (fun i => h0.next ≤ i) h1 out1 (toL w a (R.take (i + 1))) → d_To_j1 (tabC tabRi) idG nn m0 lv (.int .i64 (w : Int)) (.int .u32 (a : Int)) x6 out1 (.int .i64 (i : Int)) h1 (fun v h1 => ∃ h2, St.le h2 h1 ∧ k v h2) := fun h1 out1 c1 o1 => by
      rw [d_To_j1_eq]
      simp only [binNil_int, binV_add, bindV_some, inc, idG_eq]
      exact ih (i + 1) m0 h1 out1 (by omega) (by omega) c1 o1
    have mc := c.1
    simp only [OwnS.len s, bindV_some, binV_lss, condK_bool, hlt, decide_true, if_true, idG_eq, g1, offV_ptr, Nat.add_zero, f0, eqN]
    cases e0 : decide (w0 = w) with
    | false =>
      simp only [groupK_eq, guardK_bool, Bool.false_eq_true, if_false, idG_eq, pickV_bool, bindV_some, condK_bool]
      refine next h out c ?_
      rw [tak, toF, if_neg (fun h => by rw [show w0 = w from h.1] at e0; simp at e0), List.append_nil]; exact o
    | true =>
    simp only [groupK_eq, guardK_bool, if_true, g1, offV_ptr, f1, eqN, bindV_some, idG_eq, pickV_bool, getT]
    cases e1 : decide (a0 = a) with
    | false =>
      simp only [groupK_eq, guardK_bool, Bool.false_eq_true, if_false, idG_eq, pickV_bool, bindV_some, condK_bool]
      refine next h out c ?_
      rw [tak, toF, if_neg (fun h => by rw [show a0 = a from h.2] at e1; simp at e1), List.append_nil]; exact o
    | true =>
    simp only [condK_bool, if_true, g1, offV_ptr, f2, bindV_some]
    simp only [decide_eq_true_eq] at e0 e1
    refine push_q mc o (by omega) fun h1 out1 c1 o1 => ?_
    simp only [idG_eq]
    refine next h1 out1 (fresh_out c c1) ?_
    rw [tak, toF, if_pos ⟨e0, e1⟩]; exact o1
theorem dtoO_good : SpecGood Try.prog (29, dtoO) := by
  refine spec_good mixed Try.func29 (by kernel_rfl) (by kernel_rfl) (tab := tabRi) (by simp [tabRi, risingO_good]) (keep := d_To_keep) ?_
  rintro args h k ⟨E, lv, R, w, a, rfl, few, rr, s, H⟩
  refine ⟨R.length + 1, ?_⟩
  show d_To (tabC _) idG _ lv (.int .i64 (w : Int)) (.int .u32 (a : Int)) h _
  rw [d_To_eq]
  simp only [idG_eq]
  exact dto_l0 few rr s H R.length 0 _ h _ (by omega) (by omega) (Chg.refl _ _) (.inl ⟨rfl, rfl, rfl⟩)
/-! ### Asked -/
def byF (a : Nat) (r : Rw) : List Nat := if r.1 = 1 ∧ r.2.2 = a then [r.2.1] else []
def byL (a : Nat) (R : List Rw) : List Nat := R.flatMap (byF a)
theorem byL_mem {a x : Nat} {R : List Rw} : x ∈ byL a R ↔ (1, x, a) ∈ R := by
  unfold byL
  rw [List.mem_flatMap]
  constructor
  · rintro ⟨⟨w0, a0, b0⟩, hr, hx⟩
    unfold byF at hx
    split at hx
    · rename_i h
      simp only [List.mem_singleton] at hx
      obtain ⟨h1, h2⟩ := h
      simp only at h1 h2
      rw [hx, ← h1, ← h2]; exact hr
    · simp at hx
  · intro h
    exact ⟨_, h, by simp [byF]⟩
theorem byL_len {a : Nat} {R : List Rw} : (byL a R).length ≤ R.length := by
  have := flat_len (f := byF a) (c := 1) (R := R) fun x _ => by unfold byF; split <;> simp
  unfold byL; omega
noncomputable def dby (R : List Rw) (a : Nat) : List Nat := ups fun x => decide ((1, x, a) ∈ R)
def dbyO : Abs.Spec := fun args h k => ∃ (E : Nat → Prop) (lv : Value) (R : List Rw) (a : Nat), args = [lv, .int .u32 (a : Int)] ∧ R.length ≤ 1000 ∧ RidR R ∧ DtS E h lv R ∧
  ∀ h' sv, Chg h h' [] → OwnQ (fun i => h.next ≤ i) h' sv (dby R a) → k sv h'
theorem dby_l0 {nn : Nat} {lv x4 : Value} {E : Nat → Prop} {R : List Rw} {a : Nat} {h0 : St} {k : Cont} (few : R.length ≤ 1000) (rr : RidR R) (s : DtS E h0 lv R)
    (H : ∀ h' sv, Chg h0 h' [] → OwnQ (fun i => h0.next ≤ i) h' sv (dby R a) → k sv h') :
    ∀ (d i m0 : Nat) (h : St) (out : Value), i + d = R.length → d < m0 → Chg h0 h [] → OwnQ (fun i => h0.next ≤ i) h out (byL a (R.take i)) →
      d_Asked_l0 (tabC tabRi) idG nn m0 lv (.int .u32 (a : Int)) x4 out (.int .i64 (i : Int)) h (fun v h1 => ∃ h2, St.le h2 h1 ∧ k v h2) := by
  intro d
  induction d with
  | zero =>
    intro i m0 h out hi hm c o
    obtain ⟨m0, rfl⟩ : ∃ m, m0 = m + 1 := ⟨m0 - 1, by omega⟩
    rw [d_Asked_l0_eq]
    have e' : i = R.length := by omega
    subst e'
    rw [List.take_length] at o
    simp only [OwnS.len s, bindV_some, binV_lss, condK_bool, Int.lt_irrefl, decide_false, Bool.false_eq_true, if_false, idG_eq]
    rw [d_Asked_j2_eq]
    have ll : (byL a R).length ≤ R.length := byL_len
    refine cK (S := risingO) (by simp [tabRi]) ⟨_, out, byL a R, rfl, by omega, fun x hx => (rr _ (byL_mem.1 hx)).1, o, fun h' sv c' o' => ?_⟩
    refine ⟨h', St.le.refl _, H h' sv (c.seq c') ?_⟩
    have e : dby R a = ups fun x => decide (x ∈ byL a R) := ups_congr fun x _ => decide_eq_decide.2 byL_mem.symm
    rw [e]
    exact o'.imp fun j _ hj => Nat.le_trans c.1 hj
  | succ d ih =>
    intro i m0 h out hi hm c o
    obtain ⟨m0, rfl⟩ : ∃ m, m0 = m + 1 := ⟨m0 - 1, by omega⟩
    rw [d_Asked_l0_eq]
    have hlt : (i : Int) < R.length := by omega
    have inc : IntKind.i64.wrap ((i : Int) + 1) = ((i + 1 : Nat) : Int) := by rw [i64_in _ (by omega)]; omega
    obtain ⟨b', oo, g1, g2⟩ := s.at (show i < R.length by omega) .i64
    obtain ⟨f0, f1, f2, _⟩ := g2 h c
    have tak : byL a (R.take (i + 1)) = byL a (R.take i) ++ byF a R[i] := flat_take (by omega)
    have tl : (byL a (R.take i)).length ≤ i := Nat.le_trans byL_len (by rw [List.length_take]; omega)
    obtain ⟨x, ex⟩ : ∃ x, x = R[i] := ⟨_, rfl⟩
    rw [← ex] at f0 f1 f2 tak
    obtain ⟨w0, a0, b0⟩ := x
    have next : ∀ h1 out1, Chg h0 h1 [] → OwnQ (fun i => h0.next ≤ i) h1 out1 (byL a (R.take (i + 1))) → d_Asked_j1 (tabC tabRi) idG nn m0 lv (.int .u32 (a : Int)) x4 out1 (.int .i64 (i : Int)) h1 (fun v h1 => ∃ h2, St.le h2 h1 ∧ k v h2) := fun h1 out1 c1 o1 => by
      rw [d_Asked_j1_eq]
      simp only [binNil_int, binV_add, bindV_some, inc, idG_eq]
      exact ih (i + 1) m0 h1 out1 (by omega) (by omega) c1 o1
    have mc := c.1
    have q0 : binNil .eql .other (.int .i64 (w0 : Int)) (.int .i64 1) = some (.bool (decide (w0 = 1))) := eqN .i64 w0 1
    simp only [OwnS.len s, bindV_some, binV_lss, condK_bool, hlt, decide_true, if_true, idG_eq, g1, offV_ptr, Nat.add_zero, f0, q0]
    cases e0 : decide (w0 = 1) with
    | false =>
      simp only [groupK_eq, guardK_bool, Bool.false_eq_true, if_false, idG_eq, pickV_bool, bindV_some, condK_bool]
      refine next h out c ?_
      rw [tak, byF, if_neg (fun h => by rw [show w0 = 1 from h.1] at e0; simp at e0), List.append_nil]; exact o
    | true =>
    simp only [groupK_eq, guardK_bool, if_true, g1, offV_ptr, f2, eqN, bindV_some, idG_eq, pickV_bool, getT]
    cases e1 : decide (b0 = a) with
    | false =>
      simp only [groupK_eq, guardK_bool, Bool.false_eq_true, if_false, idG_eq, pickV_bool, bindV_some, condK_bool]
      refine next h out c ?_
      rw [tak, byF, if_neg (fun h => by rw [show b0 = a from h.2] at e1; simp at e1), List.append_nil]; exact o
    | true =>
    simp only [condK_bool, if_true, g1, offV_ptr, f1, bindV_some]
    simp only [decide_eq_true_eq] at e0 e1
    refine push_q mc o (by omega) fun h1 out1 c1 o1 => ?_
    simp only [idG_eq]
    refine next h1 out1 (fresh_out c c1) ?_
    rw [tak, byF, if_pos ⟨e0, e1⟩]; exact o1
theorem dbyO_good : SpecGood Try.prog (30, dbyO) := by
  refine spec_good mixed Try.func30 (by kernel_rfl) (by kernel_rfl) (tab := tabRi) (by simp [tabRi, risingO_good]) (keep := d_Asked_keep) ?_
  rintro args h k ⟨E, lv, R, a, rfl, few, rr, s, H⟩
  refine ⟨R.length + 1, ?_⟩
  show d_Asked (tabC _) idG _ lv (.int .u32 (a : Int)) h _
  rw [d_Asked_eq]
  simp only [idG_eq]
  exact dby_l0 few rr s H R.length 0 _ h _ (by omega) (by omega) (Chg.refl _ _) (.inl ⟨rfl, rfl, rfl⟩)
/-! ### Friends -/
def f1F (a : Nat) (r : Rw) : List Nat := if r.1 = 2 ∧ r.2.1 = a then [r.2.2] else []
def f2F (a : Nat) (r : Rw) : List Nat := if r.1 = 2 ∧ r.2.2 = a then [r.2.1] else []
def frF (a : Nat) (r : Rw) : List Nat := f1F a r ++ f2F a r
def frL (a : Nat) (R : List Rw) : List Nat := R.flatMap (frF a)
theorem frL_mem {a x : Nat} {R : List Rw} : x ∈ frL a R ↔ (2, a, x) ∈ R ∨ (2, x, a) ∈ R := by
  unfold frL
  rw [List.mem_flatMap]
  constructor
  · rintro ⟨⟨w0, a0, b0⟩, hr, hx⟩
    unfold frF at hx
    rcases List.mem_append.1 hx with hx | hx
    · unfold f1F at hx
      split at hx
      · rename_i h
        simp only [List.mem_singleton] at hx
        obtain ⟨h1, h2⟩ := h
        simp only at h1 h2
        rw [hx, ← h1, ← h2]; exact .inl hr
      · simp at hx
    · unfold f2F at hx
      split at hx
      · rename_i h
        simp only [List.mem_singleton] at hx
        obtain ⟨h1, h2⟩ := h
        simp only at h1 h2
        rw [hx, ← h1, ← h2]; exact .inr hr
      · simp at hx
  · rintro (h | h)
    · exact ⟨_, h, List.mem_append_left _ (by simp [f1F])⟩
    · exact ⟨_, h, List.mem_append_right _ (by simp [f2F])⟩
theorem frL_len {a : Nat} {R : List Rw} : (frL a R).length ≤ 2 * R.length := by
  refine flat_len (f := frF a) (c := 2) (R := R) fun x _ => ?_
  unfold frF f1F f2F
  rw [List.length_append]
  split <;> split <;> simp
noncomputable def dfr (R : List Rw) (a : Nat) : List Nat := ups fun x => frd R a x
def dfrO : Abs.Spec := fun args h k => ∃ (E : Nat → Prop) (lv : Value) (R : List Rw) (a : Nat), args = [lv, .int .u32 (a : Int)] ∧ R.length ≤ 1000 ∧ RidR R ∧ DtS E h lv R ∧
  ∀ h' sv, Chg h h' [] → OwnQ (fun i => h.next ≤ i) h' sv (dfr R a) → k sv h'
theorem dfr_l0 {nn : Nat} {lv x4 : Value} {E : Nat → Prop} {R : List Rw} {a : Nat} {h0 : St} {k : Cont} (few : R.length ≤ 1000) (rr : RidR R) (s : DtS E h0 lv R)
    (H : ∀ h' sv, Chg h0 h' [] → OwnQ (fun i => h0.next ≤ i) h' sv (dfr R a) → k sv h') :
    ∀ (d i m0 : Nat) (h : St) (out : Value), i + d = R.length → d < m0 → Chg h0 h [] → OwnQ (fun i => h0.next ≤ i) h out (frL a (R.take i)) →
      d_Friends_l0 (tabC tabRi) idG nn m0 lv (.int .u32 (a : Int)) x4 out (.int .i64 (i : Int)) h (fun v h1 => ∃ h2, St.le h2 h1 ∧ k v h2) := by
  intro d
  induction d with
  | zero =>
    intro i m0 h out hi hm c o
    obtain ⟨m0, rfl⟩ : ∃ m, m0 = m + 1 := ⟨m0 - 1, by omega⟩
    rw [d_Friends_l0_eq]
    have e' : i = R.length := by omega
    subst e'
    rw [List.take_length] at o
    simp only [OwnS.len s, bindV_some, binV_lss, condK_bool, Int.lt_irrefl, decide_false, Bool.false_eq_true, if_false, idG_eq]
    rw [d_Friends_j2_eq]
    have ll : (frL a R).length ≤ 2 * R.length := frL_len
    refine cK (S := risingO) (by simp [tabRi]) ⟨_, out, frL a R, rfl, by omega, fun x hx => ?_, o, fun h' sv c' o' => ?_⟩
    · rcases frL_mem.1 hx with h | h
      · exact (rr _ h).2
      · exact (rr _ h).1
    refine ⟨h', St.le.refl _, H h' sv (c.seq c') ?_⟩
    have e : dfr R a = ups fun x => decide (x ∈ frL a R) := ups_congr fun x _ => by
      unfold frd
      rw [← Bool.decide_or]
      exact decide_eq_decide.2 frL_mem.symm
    rw [e]
    exact o'.imp fun j _ hj => Nat.le_trans c.1 hj
  | succ d ih =>
    intro i m0 h out hi hm c o
    obtain ⟨m0, rfl⟩ : ∃ m, m0 = m + 1 := ⟨m0 - 1, by omega⟩
    rw [d_Friends_l0_eq]
    have hlt : (i : Int) < R.length := by omega
    have inc : IntKind.i64.wrap ((i : Int) + 1) = ((i + 1 : Nat) : Int) := by rw [i64_in _ (by omega)]; omega
    obtain ⟨b', oo, g1, g2⟩ := s.at (show i < R.length by omega) .i64
    have tak : frL a (R.take (i + 1)) = frL a (R.take i) ++ (f1F a R[i] ++ f2F a R[i]) := flat_take (by omega)
    have tl : (frL a (R.take i)).length ≤ 2 * i := Nat.le_trans frL_len (by rw [List.length_take]; omega)
    obtain ⟨x, ex⟩ : ∃ x, x = R[i] := ⟨_, rfl⟩
    rw [← ex] at g2 tak
    obtain ⟨w0, a0, b0⟩ := x
    have next : ∀ h1 out1, Chg h0 h1 [] → OwnQ (fun i => h0.next ≤ i) h1 out1 (frL a (R.take (i + 1))) → d_Friends_j3 (tabC tabRi) idG nn m0 lv (.int .u32 (a : Int)) x4 out1 (.int .i64 (i : Int)) h1 (fun v h1 => ∃ h2, St.le h2 h1 ∧ k v h2) := fun h1 out1 c1 o1 => by
      rw [d_Friends_j3_eq]
      simp only [binNil_int, binV_add, bindV_some, inc, idG_eq]
      exact ih (i + 1) m0 h1 out1 (by omega) (by omega) c1 o1
    have q0 : binNil .eql .other (.int .i64 (w0 : Int)) (.int .i64 2) = some (.bool (decide (w0 = 2))) := eqN .i64 w0 2
    -- the other end
    have snd : ∀ h1 out1, Chg h0 h1 [] → OwnQ (fun i => h0.next ≤ i) h1 out1 (frL a (R.take i) ++ f1F a (w0, a0, b0)) → d_Friends_j1 (tabC tabRi) idG nn m0 lv (.int .u32 (a : Int)) x4 out1 (.int .i64 (i : Int)) h1 (fun v h1 => ∃ h2, St.le h2 h1 ∧ k v h2) := fun h1 out1 c1 o1 => by
      obtain ⟨f0, f1, f2, _⟩ := g2 h1 c1
      rw [d_Friends_j1_eq]
      have mc := c1.1
      simp only [g1, bindV_some, offV_ptr, Nat.add_zero, f0, q0]
      cases e0 : decide (w0 = 2) with
      | false =>
        simp only [groupK_eq, guardK_bool, Bool.false_eq_true, if_false, idG_eq, pickV_bool, bindV_some, condK_bool]
        refine next h1 out1 c1 ?_
        rw [tak, f2F, if_neg (fun h => by rw [show w0 = 2 from h.1] at e0; simp at e0), List.append_nil]; exact o1
      | true =>
      simp only [groupK_eq, guardK_bool, if_true, g1, offV_ptr, f2, eqN, bindV_some, idG_eq, pickV_bool, getT]
      cases e1 : decide (b0 = a) with
      | false =>
        simp only [groupK_eq, guardK_bool, Bool.false_eq_true, if_false, idG_eq, pickV_bool, bindV_some, condK_bool]
        refine next h1 out1 c1 ?_
        rw [tak, f2F, if_neg (fun h => by rw [show b0 = a from h.2] at e1; simp at e1), List.append_nil]; exact o1
      | true =>
      simp only [condK_bool, if_true, g1, offV_ptr, f1, bindV_some]
      simp only [decide_eq_true_eq] at e0 e1
      have l1 : (f1F a (w0, a0, b0)).length ≤ 1 := by unfold f1F; split <;> simp
      refine push_q mc o1 (by rw [List.length_append]; omega) fun h2 out2 c2 o2 => ?_
      simp only [idG_eq]
      refine next h2 out2 (fresh_out c1 c2) ?_
      rw [tak, f2F, if_pos ⟨e0, e1⟩, ← List.append_assoc]; exact o2
    obtain ⟨f0, f1, f2, _⟩ := g2 h c
    have mc := c.1
    simp only [OwnS.len s, bindV_some, binV_lss, condK_bool, hlt, decide_true, if_true, idG_eq, g1, offV_ptr, Nat.add_zero, f0, q0]
    cases e0 : decide (w0 = 2) with
    | false =>
      simp only [groupK_eq, guardK_bool, Bool.false_eq_true, if_false, idG_eq, pickV_bool, bindV_some, condK_bool]
      refine snd h out c ?_
      rw [f1F, if_neg (fun h => by rw [show w0 = 2 from h.1] at e0; simp at e0), List.append_nil]; exact o
    | true =>
    simp only [groupK_eq, guardK_bool, if_true, g1, offV_ptr, f1, eqN, bindV_some, idG_eq, pickV_bool, getT]
    cases e1 : decide (a0 = a) with
    | false =>
      simp only [groupK_eq, guardK_bool, Bool.false_eq_true, if_false, idG_eq, pickV_bool, bindV_some, condK_bool]
      refine snd h out c ?_
      rw [f1F, if_neg (fun h => by rw [show a0 = a from h.2] at e1; simp at e1), List.append_nil]; exact o
    | true =>
    simp only [condK_bool, if_true, g1, offV_ptr, f2, bindV_some]
    simp only [decide_eq_true_eq] at e0 e1
    refine push_q mc o (by omega) fun h1 out1 c1 o1 => ?_
    simp only [idG_eq]
    refine snd h1 out1 (fresh_out c c1) ?_
    rw [f1F, if_pos ⟨e0, e1⟩]; exact o1
theorem dfrO_good : SpecGood Try.prog (28, dfrO) := by
  refine spec_good mixed Try.func28 (by kernel_rfl) (by kernel_rfl) (tab := tabRi) (by simp [tabRi, risingO_good]) (keep := d_Friends_keep) ?_
  rintro args h k ⟨E, lv, R, a, rfl, few, rr, s, H⟩
  refine ⟨R.length + 1, ?_⟩
  show d_Friends (tabC _) idG _ lv (.int .u32 (a : Int)) h _
  rw [d_Friends_eq]
  simp only [idG_eq]
  exact dfr_l0 few rr s H R.length 0 _ h _ (by omega) (by omega) (Chg.refl _ _) (.inl ⟨rfl, rfl, rfl⟩)
/-! ### full, wrong -/
noncomputable def dcnt (R : List Rw) (a : Nat) : Nat := (dfr R a).length + (dto R 1 a).length + (dby R a).length
theorem dfr_few {R : List Rw} {a : Nat} : (dfr R a).length ≤ 2 * R.length := by
  have e : dfr R a = ups fun x => decide (x ∈ frL a R) := ups_congr fun x _ => by
    unfold frd
    rw [← Bool.decide_or]
    exact decide_eq_decide.2 frL_mem.symm
  rw [e]
  exact Nat.le_trans ups_few frL_len
theorem dto_few {R : List Rw} {w a : Nat} : (dto R w a).length ≤ R.length := by
  have e : dto R w a = ups fun x => decide (x ∈ toL w a R) := ups_congr fun x _ => decide_eq_decide.2 toL_mem.symm
  rw [e]
  exact Nat.le_trans ups_few toL_len
theorem dby_few {R : List Rw} {a : Nat} : (dby R a).length ≤ R.length := by
  have e : dby R a = ups fun x => decide (x ∈ byL a R) := ups_congr fun x _ => decide_eq_decide.2 byL_mem.symm
  rw [e]
  exact Nat.le_trans ups_few byL_len
def dfullO : Abs.Spec := fun args h k => ∃ (E : Nat → Prop) (lv : Value) (R : List Rw) (a : Nat), args = [lv, .int .u32 (a : Int)] ∧ R.length ≤ 1000 ∧ RidR R ∧ DtS E h lv R ∧ ∀ h', Chg h h' [] → k (.bool (decide (16 ≤ dcnt R a))) h'
theorem dfullO_good : SpecGood Try.prog (46, dfullO) := by
  refine spec_good mixed Try.func46 (by kernel_rfl) (by kernel_rfl) (tab := [(28, dfrO), (29, dtoO), (30, dbyO)]) (by simp [dfrO_good, dtoO_good, dbyO_good]) (keep := d_full_keep) ?_
  rintro args h k ⟨E, lv, R, a, rfl, few, rr, s, H⟩
  refine ⟨0, ?_⟩
  show d_full (tabC _) idG _ lv (.int .u32 (a : Int)) h _
  rw [d_full_eq]
  have k1 : (dfr R a).length ≤ 2 * R.length := dfr_few
  have k2 : (dto R 1 a).length ≤ R.length := dto_few
  have k3 : (dby R a).length ≤ R.length := dby_few
  refine cK (S := dfrO) (by simp) ⟨E, lv, R, a, rfl, few, rr, s, fun h1 s1 c1 o1 => ?_⟩
  simp only [OwnS.len o1, bindV_some]
  refine cK (S := dtoO) (by simp) ⟨E, lv, R, 1, a, rfl, few, rr, s.chg0 c1, fun h2 s2 c2 o2 => ?_⟩
  have a1 : IntKind.i64.wrap (((dfr R a).length : Int) + ((dto R 1 a).length : Int)) = (((dfr R a).length + (dto R 1 a).length : Nat) : Int) := by rw [i64_in _ (by omega)]; omega
  have a2 : IntKind.i64.wrap ((((dfr R a).length + (dto R 1 a).length : Nat) : Int) + ((dby R a).length : Int)) = ((dcnt R a : Nat) : Int) := by rw [i64_in _ (by omega)]; unfold dcnt; omega
  have a3 : decide (((dcnt R a : Nat) : Int) ≥ 16) = decide (16 ≤ dcnt R a) := decide_eq_decide.2 (by omega)
  simp only [OwnS.len o2, binV_add, a1, bindV_some]
  have c02 := c1.seq c2
  refine cK (S := dbyO) (by simp) ⟨E, lv, R, a, rfl, few, rr, s.chg0 c02, fun h3 s3 c3 o3 => ?_⟩
  simp only [OwnS.len o3, binV_add, a2, bindV_some, binNil_int, binV_geq, a3]
  exact ⟨h3, St.le.refl _, H h3 (c02.seq c3)⟩
theorem dwrongO_good : SpecGood Try.prog (43, fwrongO) := by
  refine spec_good mixed Try.func43 (by kernel_rfl) (by kernel_rfl) (tab := [(50, grightO)]) (by simp [grightO_good]) (keep := d_wrong_keep) ?_
  rintro args h k ⟨a, b, rfl, H⟩
  refine ⟨0, ?_⟩
  show d_wrong (tabC _) idG 0 (.int .u32 (a : Int)) (.int .u32 (b : Int)) h _
  rw [d_wrong_eq]
  refine cK (S := grightO) (by simp) ⟨a, rfl, ?_⟩
  unfold wrongN at H
  cases ha : rightId a with
  | false =>
    rw [ha, if_neg (by simp)] at H
    simp only [unV_not, Bool.not_false, bindV_some, groupK_eq, guardK_bool, if_true, Bool.true_eq_false, if_false, idG_eq, pickV_bool, condK_bool]
    exact ⟨h, St.le.refl _, H⟩
  | true =>
    simp only [unV_not, Bool.not_true, bindV_some, groupK_eq, guardK_bool, if_true, Bool.false_eq_true, if_false, idG_eq, pickV_bool, condK_bool]
    refine cK (S := grightO) (by simp) ⟨b, rfl, ?_⟩
    cases hb : rightId b with
    | false =>
      rw [ha, hb, if_neg (by simp)] at H
      simp only [unV_not, Bool.not_false, bindV_some, groupK_eq, guardK_bool, if_true, Bool.true_eq_false, if_false, idG_eq, pickV_bool, condK_bool, getT, Bool.false_eq_true]
      exact ⟨h, St.le.refl _, H⟩
    | true =>
      rw [ha, hb, if_pos ⟨rfl, rfl⟩] at H
      simp only [unV_not, Bool.not_true, bindV_some, groupK_eq, guardK_bool, if_true, Bool.false_eq_true, if_false, idG_eq, pickV_bool, condK_bool, getT, binV_eql, decide_eq_true_eq]
      by_cases e : a = b
      · rw [if_pos e] at H
        rw [if_pos (by omega)]
        exact ⟨h, St.le.refl _, H⟩
      · rw [if_neg e] at H
        rw [if_neg (by omega)]
        simp only [idG_eq]
        exact ⟨h, St.le.refl _, H⟩
end Go.Proofs.Ytnndflbpcemecaa
