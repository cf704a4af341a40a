/- The document's connections: Close, Open. -/
import Derived.Test.YtnelcpabjpchnaaSesI
set_option linter.unusedSimpArgs false
set_option linter.unusedVariables false
set_option maxHeartbeats 4000000
namespace Go.Proofs.Ytnelcpabjpchnaa
open Go.Abs Go.IntWalk
attribute [local congr] bindV_weak condK_weak guardK_weak groupK_weak allocE_weak boxE_weak storeE_weak storeM_weak tabC_weak ite_weak idG_weak appendE_weak buildSliceE_weak mapUpdateE_weak deleteE_weak makeMapE_weak copyE_weak clearE_weak callE_weak

def three (lv : Value) (most : Nat) (idle : Int) (a : Nat × Nat) : Value := .tuple #[encR lv most idle, .int .u32 (a.1 : Int), .int .i64 (a.2 : Int)]
def twoR (lv : Value) (most : Nat) (idle : Int) (a : Nat) : Value := .tuple #[encR lv most idle, .int .i64 (a : Int)]
def NewE (E : Nat → Prop) (h : St) : Nat → Prop := fun i => E i ∨ h.next ≤ i
theorem box_load {E : Nat → Prop} {h : St} {lv : Value} {M : List Lk} (s : RtS E h lv M) {b : Nat} {most : Nat} {idle : Int} {h' : St} (ob : h'.objs b = some (.cells [lv, .int .i64 (most : Int), .int .i64 idle] true)) : loadV true 3 (.pointer (some ⟨b, 0, none⟩)) h' = some (encR lv most idle) := by
  have tk : takeN [lv, .int .i64 (most : Int), .int .i64 idle] 0 3 = some [lv, .int .i64 (most : Int), .int .i64 idle] := rfl
  simp only [loadV_ptr, ob, loadM_cells, partV_agg, tk, Option.map_some]
  rfl
/-- The table itself is the answer. -/
theorem answer_same {E : Nat → Prop} {h : St} {lv : Value} {M : List Lk} (s : RtS E h lv M) {b r : Nat} {most : Nat} {idle : Int} {z : List Value} {K : Cont} (ob : h.objs b = some (.cells [lv, .int .i64 (most : Int), .int .i64 idle] true)) (lz : z.length = 3) (orr : h.objs r = some (.cells z true))
    (hK : ∀ h', Chg h h' [r] → K (encR lv most idle) h') :
    bindV (loadV true 3 (.pointer (some ⟨b, 0, none⟩)) h) fun v43 => storeE 3 (.pointer (some ⟨r, 0, none⟩)) v43 h fun _ h16 => bindV (loadV true 3 (.pointer (some ⟨r, 0, none⟩)) h16) fun r17 => K r17 h16 := by
  have h1 := s.one
  rw [box_load s ob]
  simp only [bindV_some]
  refine storeE_all orr rfl lz (by show allOne [lv, _, _] = true; simp only [allOne, h1, Bool.true_and]; rfl) fun h5 c5 n5 o5 => ?_
  have o5 : h5.objs r = some (.cells [lv, .int .i64 (most : Int), .int .i64 idle] true) := o5
  rw [box_load s o5]
  simp only [bindV_some]
  exact hK h5 c5
theorem closed_of {M : List Lk} (r : Rise M) {i : Nat} {x : Lk} {c : Nat} (hi : M[i]? = some x) (hc : x.conn = c) : closeAns M c = (x.player, 0) ∧ closeNext M c = M.eraseIdx i := by
  obtain ⟨g, d⟩ := getL_idx r hi hc
  unfold closeAns closeNext
  rw [g]
  exact ⟨rfl, d⟩
theorem closed_not {M : List Lk} {c : Nat} (h : ∀ x ∈ M, x.conn ≠ c) : closeAns M c = (0, 12) ∧ closeNext M c = M := by
  unfold closeAns closeNext
  rw [getL_not h]
  exact ⟨rfl, rfl⟩
def rcloseO : Abs.Spec := fun args h k => ∃ (E : Nat → Prop) (lv : Value) (most : Nat) (idle : Int) (M : List Lk) (c : Nat), args = [encR lv most idle, .int .u32 (c : Int)] ∧ M.length ≤ 1000000 ∧ Rise M ∧ RtS E h lv M ∧
  ∀ h' lv', Chg h h' [] → RtS (NewE E h) h' lv' (closeNext M c) → k (three lv' most idle (closeAns M c)) h'
theorem rclose_l0 {nn b2 b4 b8 q : Nat} {x5 x6 lv : Value} {E : Nat → Prop} {most : Nat} {idle : Int} {M : List Lk} {x : Lk} {h0 hb : St} {k : Cont} (few : M.length ≤ 1000000) (hq : M[q]? = some x) (s : RtS E h0 lv M) (c0 : Chg h0 hb []) (n2 : h0.next ≤ b2) (n4 : h0.next ≤ b4) (n28 : b2 < b8) (n48 : b4 < b8) (n24 : b2 ≠ b4) (n8 : b8 < hb.next)
    (o2 : hb.objs b2 = some (.cells [lv, .int .i64 (most : Int), .int .i64 idle] true)) (o4 : ∃ z, z.length = 3 ∧ hb.objs b4 = some (.cells z true))
    (H : ∀ h' lv', Chg h0 h' [] → RtS (fun i => h0.next ≤ i) h' lv' (M.eraseIdx q) → k (three lv' most idle (x.player, 0)) h') :
    ∀ (d i m0 : Nat) (h : St), i + d = M.length → d < m0 → ChgP (fun j => j = b8 ∨ hb.next ≤ j) hb h → OutS hb.next b8 h most idle ((M.take i).eraseIdx q) →
      tiltyardref10_Close_l0 (tabC [(40, rfindO)]) idG nn m0 (.pointer (some ⟨b2, 0, none⟩)) (.pointer (some ⟨b4, 0, none⟩)) x5 x6 (.int .i64 (q : Int)) (.pointer (some ⟨b8, 0, none⟩)) (.int .i64 (i : Int)) h (fun v h1 => ∃ h2, St.le h2 h1 ∧ k v h2) := by
  obtain ⟨z4, lz4, o4⟩ := o4
  have mb := c0.1
  have ql : q < M.length := (List.getElem?_eq_some_iff.1 hq).1
  have qe : M[q] = x := (List.getElem?_eq_some_iff.1 hq).2
  intro d
  induction d with
  | zero =>
    intro i m0 h hi hm ch out
    obtain ⟨m0, rfl⟩ : ∃ m, m0 = m + 1 := ⟨m0 - 1, by omega⟩
    rw [tiltyardref10_Close_l0_eq]
    have e' : i = M.length := by omega
    subst e'
    rw [List.take_length] at out
    have o2' := ch.at (by omega) (by omega) o2
    have o4' := ch.at (by omega) (by omega) o4
    have cc := chg_loop c0 ch (by omega)
    simp only [offV_ptr, bindV_some, loadV_ptr, o2', loadM_cells, partV_one, List.getElem?_cons_zero, Nat.zero_add, OwnS.len s, binV_lss, condK_bool, Int.lt_irrefl, decide_false, Bool.false_eq_true, if_false, idG_eq]
    rw [tiltyardref10_Close_j2_eq]
    obtain ⟨b', o', g1, g0, g3, g2⟩ := s.row ql .i64
    obtain ⟨cs, g4, _, _, g6, _⟩ := g2 h (fun _ => False) (cc.nil _) (by simp)
    rw [qe] at g6
    have m := ch.1
    obtain ⟨bn, nn', lvo, ob, so⟩ := out
    have h1 := so.one
    rw [box_load so ob]
    simp only [bindV_some]
    refine ⟨trivial, ?_⟩
    simp only [offV_ptr, bindV_some, loadV_ptr, o2', loadM_cells, partV_one, List.getElem?_cons_zero, Nat.zero_add]
    refine ⟨trivial, ?_⟩
    simp only [g1, offV_ptr, bindV_some, loadV_ptr, g4, loadM_cells, partV_one, g6]
    refine ⟨trivial, ?_⟩
    refine storeE_all o4' rfl lz4 (by show allOne [lvo, _, _] = true; simp only [allOne, h1, Bool.true_and]; rfl) fun h5 c5 n5 o5 => ?_
    have o5 : h5.objs b4 = some (.cells [lvo, .int .i64 (most : Int), .int .i64 idle] true) := o5
    have cs5 := c5.at1 (by omega) (by omega) g4
    have o25 := c5.at1 (by omega) n24 o2'
    refine ⟨⟨by simp only [loadV_ptr, cs5, loadM_cells, partV_one, g6], by simp only [loadV_ptr, o25, loadM_cells, partV_one, List.getElem?_cons_zero], trivial, trivial⟩, ?_⟩
    rw [box_load so o5]
    simp only [bindV_some]
    exact ⟨h5, St.le.refl _, H h5 lvo (cc.new c5 (by omega)) (OwnS.imp (OwnS.chg so c5 (by simp; omega)) fun j _ hj => Nat.le_trans mb hj)⟩
  | succ d ih =>
    intro i m0 h hi hm ch out
    obtain ⟨m0, rfl⟩ : ∃ m, m0 = m + 1 := ⟨m0 - 1, by omega⟩
    rw [tiltyardref10_Close_l0_eq]
    have hlt : (i : Int) < M.length := by omega
    have inc : IntKind.i64.wrap ((i : Int) + 1) = ((i + 1 : Nat) : Int) := by rw [i64_in _ (by omega)]; omega
    have o2' := ch.at (by omega) (by omega) o2
    have cc := chg_loop c0 ch (by omega)
    have li : (M.take i).length = i := by rw [List.length_take]; omega
    have tak : M.take (i + 1) = M.take i ++ [M[i]] := List.take_succ_eq_append_getElem (by omega)
    simp only [offV_ptr, bindV_some, loadV_ptr, o2', loadM_cells, partV_one, List.getElem?_cons_zero, Nat.zero_add, OwnS.len s, binV_lss, condK_bool, hlt, decide_true, if_true, idG_eq, binV_neq, decide_eq_true_eq]
    by_cases e : i = q
    · have e' : ¬ (i : Int) ≠ (q : Int) := by omega
      rw [if_neg e']
      simp only [idG_eq]
      rw [tiltyardref10_Close_j1_eq]
      simp only [binNil_int, binV_add, bindV_some, inc, idG_eq]
      refine ih (i + 1) m0 h (by omega) (by omega) ch ?_
      have : (M.take (i + 1)).eraseIdx q = (M.take i).eraseIdx q := by
        rw [tak, List.eraseIdx_append_of_length_le (by omega), List.eraseIdx_of_length_le (by omega : (M.take i).length ≤ q), li, (show q - i = 0 by omega)]; simp
      rw [this]
      exact out
    · have e' : (i : Int) ≠ (q : Int) := by omega
      rw [if_pos e']
      obtain ⟨b', o', g1, g2⟩ := s.row0 (show i < M.length by omega) .i64
      obtain ⟨cs, g4, g3, _⟩ := g2 h cc
      have out' := out
      obtain ⟨_, _, lvo, ob, _⟩ := out'
      simp only [offV_ptr, bindV_some, loadV_ptr, ob, loadM_cells, partV_one, List.getElem?_cons_zero, Nat.zero_add]
      refine ⟨trivial, ?_⟩
      simp only [offV_ptr, bindV_some, loadV_ptr, o2', loadM_cells, partV_one, List.getElem?_cons_zero, Nat.zero_add]
      refine ⟨trivial, ?_⟩
      simp only [g1, bindV_some, loadV_ptr, g4, loadM_cells, partV_agg, g3, Option.map_some]
      refine ⟨trivial, ?_⟩
      have tl : ((M.take i).eraseIdx q).length ≤ 1000000 := Nat.le_trans (List.length_eraseIdx_le ..) (by omega)
      refine out_pushC out ob tl (fun h2 c2 => ⟨trivial, trivial, ?_, trivial⟩) ⟨trivial, trivial, trivial, trivial⟩ ⟨trivial, trivial, trivial, trivial⟩ fun h4 c4 out4 => ?_
      · obtain ⟨bn, nn', _⟩ := out
        simp only [loadV_ptr, c2.at0 (show b8 < h.next by omega) ob, loadM_cells, partV_one, List.getElem?_cons_zero]
      · simp only [idG_eq]
        rw [tiltyardref10_Close_j1_eq]
        simp only [binNil_int, binV_add, bindV_some, inc, idG_eq]
        refine ih (i + 1) m0 h4 (by omega) (by omega) (ch.step c4) ?_
        have : (M.take (i + 1)).eraseIdx q = (M.take i).eraseIdx q ++ [M[i]] := by
          rw [tak]
          by_cases lt : q < i
          · rw [List.eraseIdx_append_of_lt_length (by omega)]
          · rw [List.eraseIdx_append_of_length_le (by omega), List.eraseIdx_of_length_le (by omega : (M.take i).length ≤ q), li]
            congr 1
            obtain ⟨t, ht⟩ : ∃ t, q - i = t + 1 := ⟨q - i - 1, by omega⟩
            rw [ht]; rfl
        rw [this]
        exact out4
theorem rcloseO_good : SpecGood Try.prog (22, rcloseO) := by
  refine spec_good mixed Try.func22 (by kernel_rfl) (by kernel_rfl) (tab := [(40, rfindO)]) (by simp [rfindO_good]) (keep := tiltyardref10_Close_keep) ?_
  rintro args h k ⟨E, lv, most, idle, M, c, rfl, few, r, s, H⟩
  refine ⟨M.length + 1, ?_⟩
  show tiltyardref10_Close (tabC _) idG _ (encR lv most idle) (.int .u32 (c : Int)) h _
  rw [tiltyardref10_Close_eq]
  refine s.box most idle fun h1 c1 n1 o1 => ?_
  refine allocE_in fun h2 c2 n2 o2 => ?_
  have o12 := c2.at0 (by omega) o1
  have c02 := c1.seq c2
  rw [box_load s o12]
  simp only [bindV_some]
  refine .inl ⟨rfl, E, lv, most, idle, M, c, rfl, few, s.chg0 c02, fun h3 i x c3 hi hc => ?_, fun h3 c3 no => ?_⟩
  · obtain ⟨e1, e2⟩ := closed_of r hi hc
    rw [e1, e2] at H
    have o13 := c3.at0 (by omega) o12
    have o23 := c3.at0 (by omega) o2
    have nl : ¬ (i : Int) < 0 := by omega
    have m3 := c3.1
    simp only [binNil_int, binV_lss, nl, decide_false, bindV_some, condK_bool, Bool.false_eq_true, if_false, idG_eq, offV_ptr, loadV_ptr, o13, loadM_cells, partV_one, List.getElem?_cons_zero, List.getElem?_cons_succ, Nat.zero_add, encR_build]
    refine allocE_in fun h4 c4 n4 o4 => ?_
    refine storeE_all o4 rfl rfl rfl fun h5 c5 n5 o5 => ?_
    have o5 : h5.objs h3.next = some (.cells [.slice none 0 0, .int .i64 (most : Int), .int .i64 idle] true) := o5
    have o15 := c5.at1 (by omega) (by omega) (c4.at0 (by omega) o13)
    have o25 := c5.at1 (by omega) (by omega) (c4.at0 (by omega) o23)
    have c05 : Chg h h5 [] := ((c02.seq c3).seq c4).new c5 (by omega)
    simp only [idG_eq]
    refine rclose_l0 (b2 := h.next) (b4 := h1.next) (b8 := h3.next) few hi s c05 (Nat.le_refl _) (by omega) (by omega) (by omega) (by omega) (by omega) o15 ⟨_, rfl, o25⟩ (fun h' lv' c' s' => H h' lv' c' (OwnS.imp s' fun j _ hj => .inr hj)) M.length 0 _ h5 (by omega) (by omega) (ChgP.refl _ _) ⟨by omega, Nat.le_refl _, _, o5, .inl ⟨rfl, ?_, ?_⟩⟩
    · simp
    · simp
  · obtain ⟨e1, e2⟩ := closed_not no
    rw [e1, e2] at H
    have o13 := c3.at0 (by omega) o12
    have o23 := c3.at0 (by omega) o2
    have m3 := c3.1
    have lt : (-1 : Int) < 0 := by omega
    simp only [binNil_int, binV_lss, lt, decide_true, bindV_some, condK_bool, if_true]
    refine answer_same (s.chg0 (c02.seq c3)) o13 rfl o23 fun h4 c4 => ?_
    have c04 : Chg h h4 [] := (c02.seq c3).new c4 (by omega)
    exact ⟨h4, St.le.refl _, H h4 lv c04 (OwnS.imp (s.chg0 c04) fun j _ hj => .inl hj)⟩
end Go.Proofs.Ytnelcpabjpchnaa
