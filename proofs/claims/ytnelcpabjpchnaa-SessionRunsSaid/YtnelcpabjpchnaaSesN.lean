/- The document's rack of ids: Drop, Put; the document's Players. -/
import Derived.Test.YtnelcpabjpchnaaSesM
set_option linter.unusedSimpArgs false
set_option linter.unusedVariables false
set_option maxHeartbeats 4000000
namespace Go.Proofs.Ytnelcpabjpchnaa
open Go.Abs Go.IntWalk
attribute [local congr] bindV_weak condK_weak guardK_weak groupK_weak allocE_weak boxE_weak storeE_weak storeM_weak tabC_weak ite_weak idG_weak appendE_weak buildSliceE_weak mapUpdateE_weak deleteE_weak makeMapE_weak copyE_weak clearE_weak callE_weak

def OutJ (n0 b : Nat) (h : St) (most : Nat) (A : List Nat) : Prop := b < n0 ∧ n0 ≤ h.next ∧ ∃ lvo, h.objs b = some (.cells [lvo, .int .i64 (most : Int)] true) ∧ JtS (fun i => n0 ≤ i) h lvo A
theorem flat_J (A : List Nat) (y : Nat) : (A ++ [y]).flatMap cellsJ = A.flatMap cellsJ ++ cellsJ y := by simp
def zJ : List Value := [.int .u32 0, .int .i64 0]
section
variable {n0 b : Nat} {h : St} {most : Nat} {A : List Nat} {y : Nat} {lvo : Value} {K : St → Prop}
theorem outJ_store {h2 : St} {v2 : Value} (bn : b < n0) (nn : n0 ≤ h.next) (ob : h.objs b = some (.cells [lvo, .int .i64 (most : Int)] true)) (c : ChgP (fun i => n0 ≤ i) h h2) (s : JtS (fun i => n0 ≤ i) h2 v2 (A ++ [y]))
    (hK : ∀ h', ChgP (fun i => i = b ∨ n0 ≤ i) h h' → OutJ n0 b h' most (A ++ [y]) → K h') : bindV (offV 0 (.pointer (some ⟨b, 0, none⟩))) fun v3 => storeE 1 v3 v2 h2 fun _ h3 => K h3 := by
  have ob2 := c.at (i := b) (by omega) (by omega) ob
  have m2 := c.1
  have h1 := s.one
  have c1 : v2.cells = #[v2] := OwnS.cells1 s
  simp only [offV_ptr, bindV_some, Nat.zero_add]
  refine storeE_in ob2 [v2, .int .i64 (most : Int)] (by rw [c1]; rfl) (by simp) (by rw [c1]; show allOne [v2] = true; simp only [allOne, h1, Bool.and_true]) (by rw [c1]; rfl) fun h3 c3 n3 o3 => ?_
  exact hK h3 ((c.mono fun i _ hi => .inr hi).of_chg c3 (by simp)) ⟨bn, by omega, v2, o3, OwnS.chg s c3 (by simp; omega)⟩
theorem outJ_push (o : OutJ n0 b h most A) (ob : h.objs b = some (.cells [lvo, .int .i64 (most : Int)] true)) (few : A.length ≤ 1000000) (hK : ∀ h', ChgP (fun i => i = b ∨ n0 ≤ i) h h' → OutJ n0 b h' most (A ++ [y]) → K h') :
    buildSliceE 2 1 zJ [(0 * 2, 2, .agg (cellsJ y).toArray)] h fun v1 h1 => appendE 2 16 lvo v1 h1 fun v2 h2 => bindV (offV 0 (.pointer (some ⟨b, 0, none⟩))) fun v3 => storeE 1 v3 v2 h2 fun _ h3 => K h3 := by
  obtain ⟨bn, nn, lvo', ob', s⟩ := o
  rw [ob] at ob'
  cases ob'
  refine append_row (B := fun i => n0 ≤ i) (fun j hj => by omega) s rfl rfl rfl rfl (by omega) (by omega) fun h2 v2 c2 s2 => ?_
  exact outJ_store bn nn ob c2 (by unfold JtS; rw [flat_J, List.length_append]; exact s2) hK
theorem outJ_pushC {Q : St → Prop} {R R' : Prop} (o : OutJ n0 b h most A) (ob : h.objs b = some (.cells [lvo, .int .i64 (most : Int)] true)) (few : A.length ≤ 1000000) (hQ : ∀ h2, Chg h h2 [] → Q h2) (hR : R) (hR' : R') (hK : ∀ h', ChgP (fun i => i = b ∨ n0 ≤ i) h h' → OutJ n0 b h' most (A ++ [y]) → K h') :
    buildSliceE 2 1 zJ [(0 * 2, 2, .agg (cellsJ y).toArray)] h fun v1 h1 => Q h1 ∧ appendE 2 16 lvo v1 h1 fun v2 h2 => R ∧ bindV (offV 0 (.pointer (some ⟨b, 0, none⟩))) fun v3 => storeE 1 v3 v2 h2 fun _ h3 => R' ∧ K h3 := by
  obtain ⟨bn, nn, lvo', ob', s⟩ := o
  rw [ob] at ob'
  cases ob'
  refine append_rowC (B := fun i => n0 ≤ i) (fun j hj => by omega) s rfl rfl rfl rfl (by omega) (by omega) hQ fun h2 v2 c2 s2 => ⟨hR, ?_⟩
  exact outJ_store (K := fun h => R' ∧ K h) bn nn ob c2 (by unfold JtS; rw [flat_J, List.length_append]; exact s2) fun h' c o => ⟨hR', hK h' c o⟩
end
/-- A box with a rack is answered with. -/
theorem answerJ {E : Nat → Prop} {h : St} {lv : Value} {M : List Nat} (s : JtS E h lv M) {r : Nat} {most : Nat} {z : List Value} {K : Cont} (lz : z.length = 2) (orr : h.objs r = some (.cells z true))
    (hK : ∀ h', Chg h h' [r] → K (encJ lv most) h') :
    storeE 2 (.pointer (some ⟨r, 0, none⟩)) (encJ lv most) h fun _ h16 => bindV (loadV true 2 (.pointer (some ⟨r, 0, none⟩)) h16) fun r17 => K r17 h16 := by
  have h1 := s.one
  refine storeE_all orr rfl lz (by show allOne [lv, _] = true; simp only [allOne, h1, Bool.true_and]; rfl) fun h5 c5 n5 o5 => ?_
  have o5 : h5.objs r = some (.cells [lv, .int .i64 (most : Int)] true) := o5
  rw [boxJ_load s o5]
  simp only [bindV_some]
  exact hK h5 c5
/-! ### Drop -/
def dropR (R : List Nat) (q : Nat) : List Nat := R.filter fun x => decide (x ≠ q)
def hdropO : Abs.Spec := fun args h k => ∃ (E : Nat → Prop) (lv : Value) (most : Nat) (R : List Nat) (q : Nat), args = [encJ lv most, .int .u32 (q : Int)] ∧ R.length ≤ 100000 ∧ JtS E h lv R ∧
  ∀ h' lv', Chg h h' [] → JtS (fun i => h.next ≤ i) h' lv' (dropR R q) → k (encJ lv' most) h'
theorem hdrop_l0 {nn b2 b4 b5 q : Nat} {lv : Value} {E : Nat → Prop} {most : Nat} {R : List Nat} {h0 hb : St} {k : Cont} (few : R.length ≤ 100000) (s : JtS E h0 lv R) (c0 : Chg h0 hb []) (n2 : h0.next ≤ b2) (n4 : h0.next ≤ b4) (n25 : b2 < b5) (n45 : b4 < b5) (n5 : b5 < hb.next)
    (o2 : hb.objs b2 = some (.cells [lv, .int .i64 (most : Int)] true)) (o4 : ∃ z, z.length = 2 ∧ hb.objs b4 = some (.cells z true))
    (H : ∀ h' lv', Chg h0 h' [] → JtS (fun i => h0.next ≤ i) h' lv' (dropR R q) → k (encJ lv' most) h') :
    ∀ (d i m0 : Nat) (h : St), i + d = R.length → d < m0 → ChgP (fun j => j = b5 ∨ hb.next ≤ j) hb h → OutJ hb.next b5 h most (dropR (R.take i) q) →
      tiltyardref07_Drop_l0 (tabC []) idG nn m0 (.int .u32 (q : Int)) (.pointer (some ⟨b2, 0, none⟩)) (.pointer (some ⟨b4, 0, none⟩)) (.pointer (some ⟨b5, 0, none⟩)) (.int .i64 (i : Int)) h (fun v h1 => ∃ h2, St.le h2 h1 ∧ k v h2) := by
  obtain ⟨z4, lz4, o4⟩ := o4
  have mb := c0.1
  intro d
  induction d with
  | zero =>
    intro i m0 h hi hm ch out
    obtain ⟨m0, rfl⟩ : ∃ m, m0 = m + 1 := ⟨m0 - 1, by omega⟩
    rw [tiltyardref07_Drop_l0_eq]
    have e' : i = R.length := by omega
    subst e'
    rw [List.take_length] at out
    have o2' := ch.at (by omega) (by omega) o2
    have o4' := ch.at (by omega) (by omega) o4
    have cc := chg_loop c0 ch (by omega)
    simp only [offV_ptr, bindV_some, loadV_ptr, o2', loadM_cells, partV_one, List.getElem?_cons_zero, Nat.zero_add, OwnS.len s, binV_lss, condK_bool, Int.lt_irrefl, decide_false, Bool.false_eq_true, if_false, idG_eq]
    rw [tiltyardref07_Drop_j2_eq]
    obtain ⟨bn, nn', lvo, ob, so⟩ := out
    rw [boxJ_load so ob]
    simp only [bindV_some]
    refine answerJ so lz4 o4' fun h' c' => ?_
    exact ⟨h', St.le.refl _, H h' lvo (cc.new c' (by omega)) (OwnS.imp (OwnS.chg so c' (by simp; omega)) fun j _ hj => Nat.le_trans mb hj)⟩
  | succ d ih =>
    intro i m0 h hi hm ch out
    obtain ⟨m0, rfl⟩ : ∃ m, m0 = m + 1 := ⟨m0 - 1, by omega⟩
    rw [tiltyardref07_Drop_l0_eq]
    have hlt : (i : Int) < R.length := by omega
    have inc : IntKind.i64.wrap ((i : Int) + 1) = ((i + 1 : Nat) : Int) := by rw [i64_in _ (by omega)]; omega
    have o2' := ch.at (by omega) (by omega) o2
    have cc := chg_loop c0 ch (by omega)
    obtain ⟨b', o', g1, g2⟩ := s.row0 (show i < R.length by omega) .i64
    obtain ⟨cs, g4, g3, g5⟩ := g2 h cc
    obtain ⟨x, ex⟩ : ∃ x, x = R[i] := ⟨_, rfl⟩
    rw [← ex] at g3 g5
    have tak : R.take (i + 1) = R.take i ++ [x] := by rw [ex]; exact List.take_succ_eq_append_getElem (by omega)
    simp only [offV_ptr, bindV_some, loadV_ptr, o2', loadM_cells, partV_one, List.getElem?_cons_zero, Nat.zero_add, OwnS.len s, binV_lss, condK_bool, hlt, decide_true, if_true, idG_eq, g1, Nat.add_zero, g4, g5, binV_neq, decide_eq_true_eq]
    by_cases e : x = q
    · have e' : ¬ (x : Int) ≠ (q : Int) := by omega
      rw [if_neg e']
      simp only [idG_eq]
      rw [tiltyardref07_Drop_j1_eq]
      simp only [binNil_int, binV_add, bindV_some, inc, idG_eq]
      refine ih (i + 1) m0 h (by omega) (by omega) ch ?_
      have : dropR (R.take (i + 1)) q = dropR (R.take i) q := by
        unfold dropR; rw [tak, List.filter_append, List.filter_cons_of_neg (by simp [e])]; simp
      rw [this]; exact out
    · have e' : (x : Int) ≠ (q : Int) := by omega
      rw [if_pos e']
      have out' := out
      obtain ⟨bn, nn', lvo, ob, _⟩ := out'
      simp only [offV_ptr, bindV_some, loadV_ptr, ob, loadM_cells, partV_one, List.getElem?_cons_zero, Nat.zero_add]
      refine ⟨trivial, ?_⟩
      simp only [offV_ptr, bindV_some, loadV_ptr, o2', loadM_cells, partV_one, List.getElem?_cons_zero, Nat.zero_add]
      refine ⟨trivial, ?_⟩
      simp only [g1, bindV_some, loadV_ptr, g4, loadM_cells, partV_agg, g3, Option.map_some]
      refine ⟨trivial, ?_⟩
      have tl : (dropR (R.take i) q).length ≤ 1000000 := Nat.le_trans (List.length_filter_le ..) (by rw [List.length_take]; omega)
      refine outJ_pushC out ob tl (fun h2 c2 => ⟨trivial, trivial, ?_, trivial⟩) ⟨trivial, trivial, trivial, trivial⟩ ⟨trivial, trivial, trivial, trivial⟩ fun h4 c4 out4 => ?_
      · simp only [loadV_ptr, c2.at0 (show b5 < h.next by omega) ob, loadM_cells, partV_one, List.getElem?_cons_zero]
      · simp only [idG_eq]
        rw [tiltyardref07_Drop_j1_eq]
        simp only [binNil_int, binV_add, bindV_some, inc, idG_eq]
        refine ih (i + 1) m0 h4 (by omega) (by omega) (ch.step c4) ?_
        have : dropR (R.take (i + 1)) q = dropR (R.take i) q ++ [x] := by
          unfold dropR; rw [tak, List.filter_append, List.filter_cons_of_pos (by simp [e])]; simp
        rw [this]; exact out4
theorem encJ_build (most : Nat) : buildV [.slice none 0 0, .int .i64 0] (some [(1, 1, .int .i64 (most : Int))]) = some (encJ (.slice none 0 0) most) := rfl
theorem hdropO_good : SpecGood Try.prog (72, hdropO) := by
  refine spec_good mixed Try.func72 (by kernel_rfl) (by kernel_rfl) (tab := []) (by simp) (keep := tiltyardref07_Drop_keep) ?_
  rintro args h k ⟨E, lv, most, R, q, rfl, few, s, H⟩
  refine ⟨R.length + 1, ?_⟩
  show tiltyardref07_Drop (tabC []) idG _ (encJ lv most) (.int .u32 (q : Int)) h _
  rw [tiltyardref07_Drop_eq]
  refine s.box most fun h1 c1 n1 o1 => ?_
  refine allocE_in fun h2 c2 n2 o2 => ?_
  have o12 := c2.at0 (by omega) o1
  simp only [offV_ptr, bindV_some, loadV_ptr, o12, loadM_cells, partV_one, List.getElem?_cons_zero, List.getElem?_cons_succ, Nat.zero_add, encJ_build]
  refine allocE_in fun h3 c3 n3 o3 => ?_
  refine storeE_all o3 rfl rfl rfl fun h4 c4 n4 o4 => ?_
  have o4 : h4.objs h2.next = some (.cells [.slice none 0 0, .int .i64 (most : Int)] true) := o4
  have m2 := c2.1
  have o14 := c4.at1 (by omega) (by omega) (c3.at0 (by omega) o12)
  have o24 := c4.at1 (by omega) (by omega) (c3.at0 (by omega) o2)
  have c04 : Chg h h4 [] := ((c1.seq c2).seq c3).new c4 (by omega)
  simp only [idG_eq]
  exact hdrop_l0 (b2 := h.next) (b4 := h1.next) (b5 := h2.next) few s c04 (Nat.le_refl _) (by omega) (by omega) (by omega) (by omega) o14 ⟨_, rfl, o24⟩ H R.length 0 _ h4 (by omega) (by omega) (ChgP.refl _ _) ⟨by omega, Nat.le_refl _, _, o4, .inl ⟨rfl, rfl, rfl⟩⟩
/-! ### Put -/
def hputO : Abs.Spec := fun args h k => ∃ (E : Nat → Prop) (lv : Value) (most : Nat) (R : List Nat) (q : Nat), args = [encJ lv most, .int .u32 (q : Int), .int .i64 0] ∧ rightId q = true ∧ R.length < most ∧ R.length ≤ 100000 ∧ JtS E h lv R ∧
  ∀ h' lv', Chg h h' [] → JtS (fun i => h.next ≤ i) h' lv' (dropR R q ++ [q]) → k (.tuple #[encJ lv' most, .int .i64 0]) h'
def tabJp : List (FuncId × Abs.Spec) := [(39, grightO), (71, hfindO), (72, hdropO)]
theorem hputO_good : SpecGood Try.prog (52, hputO) := by
  refine spec_good mixed Try.func52 (by kernel_rfl) (by kernel_rfl) (tab := tabJp) (by simp [tabJp, grightO_good, hfindO_good, hdropO_good]) (keep := tiltyardref07_Put_keep) ?_
  rintro args h k ⟨E, lv, most, R, q, rfl, hr, hm, few, s, H⟩
  refine ⟨0, ?_⟩
  show tiltyardref07_Put (tabC _) idG _ (encJ lv most) (.int .u32 (q : Int)) (.int .i64 0) h _
  rw [tiltyardref07_Put_eq]
  refine s.box most fun h1 c1 n1 o1 => ?_
  refine allocE_in fun h2 c2 n2 o2 => ?_
  have o12 := c2.at0 (by omega) o1
  have c02 := c1.seq c2
  refine cK (S := grightO) (by simp [tabJp]) ⟨q, rfl, ?_⟩
  simp only [hr, unV_not, Bool.not_true, bindV_some, condK_bool, Bool.false_eq_true, if_false, idG_eq]
  rw [boxJ_load s o12]
  simp only [bindV_some]
  -- behind the search
  have rest : ∀ h3, Chg h2 h3 [] → bindV (loadV true 2 (.pointer (some ⟨h.next, 0, none⟩)) h3) fun v26 => tabC tabJp 72 [v26, .int .u32 (q : Int)] h3 fun v28 h14 => allocE (some [.slice none 0 0, .int .i64 0]) h14 fun v8 h15 => storeE 2 v8 v28 h15 fun _ h17 => bindV (offV 0 v8) fun v29 => bindV (loadV false 1 v29 h17) fun v30 => bindV (buildV [.int .u32 0, .int .i64 0] (some [(0, 1, .int .u32 (q : Int)), (1, 1, .int .i64 0)])) fun v33 => buildSliceE 2 1 [.int .u32 0, .int .i64 0] [(0 * 2, 2, v33)] h17 fun v34 h18 => appendE 2 16 v30 v34 h18 fun v35 h19 => bindV (offV 0 v8) fun v36 => storeE 1 v36 v35 h19 fun _ h21 => bindV (loadV true 2 v8 h21) fun v37 => storeE 2 (.pointer (some ⟨h1.next, 0, none⟩)) v37 h21 fun _ h23 => bindV (loadV true 2 (.pointer (some ⟨h1.next, 0, none⟩)) h23) fun r24 => ∃ h2, St.le h2 h23 ∧ k (.tuple #[r24, .int .i64 0]) h2 := by
    intro h3 c3
    have m3 := c3.1
    have c03 := c02.seq c3
    rw [boxJ_load s (c3.at0 (by omega) o12)]
    simp only [bindV_some]
    refine cK (S := hdropO) (by simp [tabJp]) ⟨E, lv, most, R, q, rfl, few, s.chg0 c03, fun h4 lv4 c4 s4 => ?_⟩
    have m4 := c4.1
    have h1' := s4.one
    refine allocE_in fun h5 c5 n5 o5 => ?_
    refine storeE_all o5 rfl rfl (by show allOne [lv4, _] = true; simp only [allOne, h1', Bool.true_and]; rfl) fun h6 c6 n6 o6 => ?_
    have o6 : h6.objs h4.next = some (.cells [lv4, .int .i64 (most : Int)] true) := o6
    have c46 : Chg h4 h6 [] := c5.new c6 (Nat.le_refl _)
    have bv : buildV [.int .u32 0, .int .i64 0] (some [(0, 1, .int .u32 (q : Int)), (1, 1, .int .i64 0)]) = some (.agg (cellsJ q).toArray) := rfl
    have o2b : h6.objs h1.next = some (.cells [.slice none 0 0, .int .i64 0] true) := c46.at0 (by omega) (c4.at0 (by omega) (c3.at0 (by omega) o2))
    simp only [offV_ptr, bindV_some, loadV_ptr, o6, loadM_cells, partV_one, List.getElem?_cons_zero, Nat.zero_add, bv]
    have dl : (dropR R q).length ≤ R.length := List.length_filter_le ..
    have s6 : JtS (fun i => h3.next ≤ i ∧ i ≠ h4.next) h6 lv4 (dropR R q) := JtS.chg0 (OwnS.imp s4 (B' := fun i => h3.next ≤ i ∧ i ≠ h4.next) fun i hi hh => ⟨hh, by omega⟩) c46
    refine append_row (B := fun i => h3.next ≤ i ∧ i ≠ h4.next) (fun j hj => ⟨by omega, by omega⟩) s6 rfl rfl rfl rfl (by omega) (by omega) fun h7 v7 c7 s7 => ?_
    have s7 : JtS (fun i => h3.next ≤ i ∧ i ≠ h4.next) h7 v7 (dropR R q ++ [q]) := by unfold JtS; rw [flat_J, List.length_append]; exact s7
    have o7 := c7.at (by omega) (fun hh => hh.2 rfl) o6
    have o2c := c7.at (by omega) (fun hh => by omega) o2b
    have m7 := c7.1
    have c71 : v7.cells = #[v7] := OwnS.cells1 s7
    have h7' := s7.one
    simp only [offV_ptr, bindV_some, Nat.zero_add]
    refine storeE_in o7 [v7, .int .i64 (most : Int)] (by rw [c71]; rfl) (by simp) (by rw [c71]; show allOne [v7] = true; simp only [allOne, h7', Bool.and_true]) (by rw [c71]; rfl) fun h8 c8 n8 o8 => ?_
    have s8 : JtS (fun i => h3.next ≤ i ∧ i ≠ h4.next) h8 v7 (dropR R q ++ [q]) := OwnS.chg s7 c8 (by simp)
    rw [boxJ_load s8 o8]
    simp only [bindV_some]
    refine answerJ (K := fun r24 h23 => ∃ h2, St.le h2 h23 ∧ k (.tuple #[r24, .int .i64 0]) h2) s8 rfl (c8.at1 (by omega) (by omega) o2c) fun h9 c9 => ?_
    have c06 : Chg h h6 [] := (c03.seq c4).seq c46
    have m03 := c03.1
    have c09 : Chg h h9 [] := (((c06.nil (fun i => h.next ≤ i)).step (c7.mono fun i _ hi => by omega)).of_chg c8 (by simp; omega) |>.of_chg c9 (by simp; omega)).list fun j h1 h2 => by omega
    exact ⟨h9, St.le.refl _, H h9 v7 c09 (OwnS.imp (OwnS.chg s8 c9 (by simp; omega)) fun j _ hj => by omega)⟩
  refine cK (S := hfindO) (by simp [tabJp]) ⟨E, lv, most, R, q, rfl, few, s.chg0 c02, fun h3 i c3 => ?_, fun h3 c3 => ?_⟩
  · have nl : ¬ (i : Int) < 0 := by omega
    simp only [binNil_int, binV_lss, nl, decide_false, bindV_some, groupK_eq, guardK_bool, Bool.false_eq_true, if_false, idG_eq, pickV_bool, condK_bool]
    exact rest h3 c3
  · have lt : (-1 : Int) < 0 := by omega
    have o13 := c3.at0 (by omega) o12
    have ng : ¬ (R.length : Int) ≥ (most : Int) := by omega
    simp only [binNil_int, binV_lss, lt, decide_true, bindV_some, groupK_eq, guardK_bool, if_true, offV_ptr, loadV_ptr, o13, loadM_cells, partV_one, List.getElem?_cons_zero, List.getElem?_cons_succ, Nat.zero_add, OwnS.len s, binV_geq, ng, decide_false, idG_eq, getT, pickV_bool, condK_bool, Bool.false_eq_true, if_false]
    have r := rest h3 c3
    rw [loadV_ptr, o13, loadM_cells] at r
    exact r
end Go.Proofs.Ytnelcpabjpchnaa
