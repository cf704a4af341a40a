/- The document's connections: Touch, Login, Logout. -/
import Derived.Test.YtnelcpabjpchnaaSesK
set_option linter.unusedSimpArgs false
set_option linter.unusedVariables false
set_option maxHeartbeats 4000000
namespace Go.Proofs.Ytnelcpabjpchnaa
open Go.Abs Go.IntWalk
attribute [local congr] bindV_weak condK_weak guardK_weak groupK_weak allocE_weak boxE_weak storeE_weak storeM_weak tabC_weak ite_weak idG_weak appendE_weak buildSliceE_weak mapUpdateE_weak deleteE_weak makeMapE_weak copyE_weak clearE_weak callE_weak

theorem withL_not {M : List Lk} {c p : Nat} {l : Int} (no : ∀ x ∈ M, x.conn ≠ c) : withL M c p l = M := by
  unfold withL
  induction M with
  | nil => rfl
  | cons x M ih => rw [List.map_cons, if_neg (no x (List.mem_cons_self ..)), ih fun z hz => no z (List.mem_cons_of_mem _ hz)]
theorem withL_put {M : List Lk} (r : Rise M) {x : Lk} (hx : x ∈ M) (p : Nat) (l : Int) : withL M x.conn p l = putL M x.conn p l := by
  induction M with
  | nil => cases hx
  | cons y M ih =>
    obtain ⟨r1, r2⟩ := List.pairwise_cons.1 r
    rw [putL]
    rcases List.mem_cons.1 hx with rfl | hx
    · rw [if_neg (by omega), if_pos rfl]
      have : withL M x.conn p l = M := withL_not fun z hz => by have := r1 z hz; omega
      unfold withL at this ⊢
      rw [List.map_cons, if_pos rfl, this]
    · have := r1 x hx
      rw [if_neg (by omega), if_neg (by omega), ← ih r2 hx]
      unfold withL
      rw [List.map_cons, if_neg (by omega)]
/-- A box with a table is answered with. -/
theorem answer_put {E : Nat → Prop} {h : St} {lv : Value} {M : List Lk} (s : RtS E h lv M) {r : Nat} {most : Nat} {idle : Int} {z : List Value} {P : St → Prop} {K : Cont} (lz : z.length = 3) (orr : h.objs r = some (.cells z true)) (hP : ∀ h', Chg h h' [r] → P h')
    (hK : ∀ h', Chg h h' [r] → K (encR lv most idle) h') :
    storeE 3 (.pointer (some ⟨r, 0, none⟩)) (encR lv most idle) h fun _ h16 => P h16 ∧ bindV (loadV true 3 (.pointer (some ⟨r, 0, none⟩)) h16) fun r17 => K r17 h16 := by
  have h1 := s.one
  refine storeE_all orr rfl lz (by show allOne [lv, _, _] = true; simp only [allOne, h1, Bool.true_and]; rfl) fun h5 c5 n5 o5 => ⟨hP h5 c5, ?_⟩
  have o5 : h5.objs r = some (.cells [lv, .int .i64 (most : Int), .int .i64 idle] true) := o5
  rw [box_load s o5]
  simp only [bindV_some]
  exact hK h5 c5
theorem answer_put' {E : Nat → Prop} {h : St} {lv : Value} {M : List Lk} (s : RtS E h lv M) {r : Nat} {most : Nat} {idle : Int} {z : List Value} {K : Cont} (lz : z.length = 3) (orr : h.objs r = some (.cells z true))
    (hK : ∀ h', Chg h h' [r] → K (encR lv most idle) h') :
    storeE 3 (.pointer (some ⟨r, 0, none⟩)) (encR lv most idle) h fun _ h16 => bindV (loadV true 3 (.pointer (some ⟨r, 0, none⟩)) h16) fun r17 => K r17 h16 := by
  have h1 := s.one
  refine storeE_all orr rfl lz (by show allOne [lv, _, _] = true; simp only [allOne, h1, Bool.true_and]; rfl) fun h5 c5 n5 o5 => ?_
  have o5 : h5.objs r = some (.cells [lv, .int .i64 (most : Int), .int .i64 idle] true) := o5
  rw [box_load s o5]
  simp only [bindV_some]
  exact hK h5 c5
/-! ### Touch -/
def rtouchAns (M : List Lk) (c : Nat) : Nat := match getL M c with | none => 12 | some _ => 0
def rtouchNext (M : List Lk) (c : Nat) (now : Int) : List Lk := match getL M c with | none => M | some x => putL M c x.player now
def rtouchO : Abs.Spec := fun args h k => ∃ (E : Nat → Prop) (lv : Value) (most : Nat) (idle : Int) (M : List Lk) (c : Nat) (now : Int), args = [encR lv most idle, .int .u32 (c : Int), .int .i64 now] ∧ M.length ≤ 100000 ∧ Rise M ∧ RtS E h lv M ∧
  ∀ h' lv', Chg h h' [] → RtS (NewE E h) h' lv' (rtouchNext M c now) → k (twoR lv' most idle (rtouchAns M c)) h'
theorem rtouchO_good : SpecGood Try.prog (23, rtouchO) := by
  refine spec_good mixed Try.func23 (by kernel_rfl) (by kernel_rfl) (tab := [(40, rfindO), (42, rwithO)]) (by simp [rfindO_good, rwithO_good]) (keep := tiltyardref10_Touch_keep) ?_
  rintro args h k ⟨E, lv, most, idle, M, c, now, rfl, few, r, s, H⟩
  refine ⟨0, ?_⟩
  show tiltyardref10_Touch (tabC _) idG _ (encR lv most idle) (.int .u32 (c : Int)) (.int .i64 now) h _
  rw [tiltyardref10_Touch_eq]
  refine s.box most idle fun h1 c1 n1 o1 => ?_
  refine allocE_in fun h2 c2 n2 o2 => ?_
  have o12 := c2.at0 (by omega) o1
  have c02 := c1.seq c2
  rw [box_load s o12]
  simp only [bindV_some]
  refine .inl ⟨rfl, E, lv, most, idle, M, c, rfl, by omega, s.chg0 c02, fun h3 i x c3 hi hc => ?_, fun h3 c3 no => ?_⟩
  · obtain ⟨hg, _⟩ := getL_idx r hi hc
    have hx : x ∈ M := List.mem_of_getElem? hi
    unfold rtouchAns rtouchNext at H
    rw [hg] at H
    have o13 := c3.at0 (by omega) o12
    have o23 := c3.at0 (by omega) o2
    have c03 := c02.seq c3
    have m3 := c3.1
    have nl : ¬ (i : Int) < 0 := by omega
    have il : i < M.length := (List.getElem?_eq_some_iff.1 hi).1
    obtain ⟨b', o', g1, g2⟩ := s.row0 il .i64
    obtain ⟨cs, g4, _, _, g6, _⟩ := g2 h3 c03
    have ex : M[i] = x := (List.getElem?_eq_some_iff.1 hi).2
    rw [ex] at g6
    simp only [binNil_int, binV_lss, nl, decide_false, bindV_some, condK_bool, Bool.false_eq_true, if_false, idG_eq]
    rw [box_load s o13]
    simp only [bindV_some]
    refine ⟨trivial, ?_⟩
    simp only [offV_ptr, bindV_some, loadV_ptr, o13, loadM_cells, partV_one, List.getElem?_cons_zero, Nat.zero_add]
    refine ⟨trivial, ?_⟩
    simp only [g1, offV_ptr, bindV_some, loadV_ptr, g4, loadM_cells, partV_one, g6]
    refine ⟨trivial, ?_⟩
    refine .inr (.inl ⟨rfl, E, lv, most, idle, M, c, x.player, now, rfl, by omega, s.chg0 c03, fun h4 lv' c4 s4 => ⟨⟨trivial, trivial, trivial, trivial⟩, ?_⟩⟩)
    have o24 := c4.at0 (by omega) o23
    have m4 := c4.1
    refine answer_put s4 rfl o24 (fun _ _ => ⟨trivial, trivial, trivial, trivial⟩) fun h5 c5 => ?_
    have e : withL M c x.player now = putL M c x.player now := by rw [← hc]; exact withL_put r hx _ _
    rw [e] at s4
    exact ⟨h5, St.le.refl _, H h5 lv' ((c03.seq c4).new c5 (by omega)) (OwnS.imp (OwnS.chg s4 c5 (by simp; omega)) fun j _ hj => .inr (by omega))⟩
  · have hg := getL_not no
    unfold rtouchAns rtouchNext at H
    rw [hg] at H
    have m3 := c3.1
    have lt : (-1 : Int) < 0 := by omega
    simp only [binNil_int, binV_lss, lt, decide_true, bindV_some, condK_bool, if_true]
    refine answer_same (s.chg0 (c02.seq c3)) (c3.at0 (by omega) o12) rfl (c3.at0 (by omega) o2) fun h4 c4 => ?_
    have c04 : Chg h h4 [] := (c02.seq c3).new c4 (by omega)
    exact ⟨h4, St.le.refl _, H h4 lv c04 (OwnS.imp (s.chg0 c04) fun j _ hj => .inl hj)⟩
/-! ### Logout -/
def rlogoutAns (M : List Lk) (c : Nat) : Nat × Nat := match getL M c with | none => (0, 12) | some x => if x.player = 0 then (0, 25) else (x.player, 0)
def rlogoutNext (M : List Lk) (c : Nat) : List Lk := match getL M c with | none => M | some x => if x.player = 0 then M else putL M c 0 x.last
def rlogoutO : Abs.Spec := fun args h k => ∃ (E : Nat → Prop) (lv : Value) (most : Nat) (idle : Int) (M : List Lk) (c : Nat), args = [encR lv most idle, .int .u32 (c : Int)] ∧ M.length ≤ 100000 ∧ Rise M ∧ (∀ i, E i → i < h.next) ∧ RtS E h lv M ∧
  ∀ h' lv', Chg h h' [] → RtS (NewE E h) h' lv' (rlogoutNext M c) → k (three lv' most idle (rlogoutAns M c)) h'
theorem rlogoutO_good : SpecGood Try.prog (21, rlogoutO) := by
  refine spec_good mixed Try.func21 (by kernel_rfl) (by kernel_rfl) (tab := [(40, rfindO), (42, rwithO)]) (by simp [rfindO_good, rwithO_good]) (keep := tiltyardref10_Logout_keep) ?_
  rintro args h k ⟨E, lv, most, idle, M, c, rfl, few, r, _, s, H⟩
  refine ⟨0, ?_⟩
  show tiltyardref10_Logout (tabC _) idG _ (encR lv most idle) (.int .u32 (c : Int)) h _
  rw [tiltyardref10_Logout_eq]
  refine s.box most idle fun h1 c1 n1 o1 => ?_
  refine allocE_in fun h2 c2 n2 o2 => ?_
  have o12 := c2.at0 (by omega) o1
  have c02 := c1.seq c2
  rw [box_load s o12]
  simp only [bindV_some]
  refine .inl ⟨rfl, E, lv, most, idle, M, c, rfl, by omega, s.chg0 c02, fun h3 i x c3 hi hc => ?_, fun h3 c3 no => ?_⟩
  · obtain ⟨hg, _⟩ := getL_idx r hi hc
    have hx : x ∈ M := List.mem_of_getElem? hi
    unfold rlogoutAns rlogoutNext at H
    simp only [hg] at H
    have o13 := c3.at0 (by omega) o12
    have o23 := c3.at0 (by omega) o2
    have c03 := c02.seq c3
    have m3 := c3.1
    have nl : ¬ (i : Int) < 0 := by omega
    have il : i < M.length := (List.getElem?_eq_some_iff.1 hi).1
    obtain ⟨b', o', g1, gE, gn, g2⟩ := s.row il .i64
    have rows : ∀ h', Chg h h' [] → ∃ cs, h'.objs b' = some (.cells cs true) ∧ cs[o' + 1]? = some (.int .u32 (x.player : Int)) ∧ cs[o' + 2]? = some (.int .i64 x.last) := by
      intro h' c'
      obtain ⟨cs, g4, _, _, g6, g7⟩ := g2 h' (fun _ => False) (c'.nil _) (by simp)
      have ex : M[i] = x := (List.getElem?_eq_some_iff.1 hi).2
      rw [ex] at g6 g7
      exact ⟨cs, g4, g6, g7⟩
    obtain ⟨cs, g4, g6, g7⟩ := rows h3 c03
    simp only [binNil_int, binV_lss, nl, decide_false, bindV_some, condK_bool, Bool.false_eq_true, if_false, idG_eq, offV_ptr, loadV_ptr, o13, loadM_cells, partV_one, List.getElem?_cons_zero, Nat.zero_add, g1, g4, g6, binV_eql, decide_eq_true_eq]
    by_cases hp : x.player = 0
    · have hp' : (x.player : Int) = 0 := by omega
      rw [if_pos hp']
      simp only [if_pos hp] at H
      refine answer_same (s.chg0 c03) o13 rfl o23 fun h4 c4 => ?_
      have c04 : Chg h h4 [] := c03.new c4 (by omega)
      exact ⟨h4, St.le.refl _, H h4 lv c04 (OwnS.imp (s.chg0 c04) fun j _ hj => .inl hj)⟩
    · have hp' : ¬ (x.player : Int) = 0 := by omega
      rw [if_neg hp']
      simp only [if_neg hp] at H
      simp only [idG_eq]
      rw [box_load s o13]
      simp only [bindV_some]
      refine ⟨trivial, ?_⟩
      simp only [offV_ptr, bindV_some, loadV_ptr, o13, loadM_cells, partV_one, List.getElem?_cons_zero, Nat.zero_add]
      refine ⟨trivial, ?_⟩
      simp only [g1, offV_ptr, bindV_some, loadV_ptr, g4, loadM_cells, partV_one, g7]
      refine ⟨trivial, ?_⟩
      refine .inr (.inl ⟨rfl, E, lv, most, idle, M, c, 0, x.last, rfl, by omega, s.chg0 c03, fun h4 lv' c4 s4 => ⟨⟨trivial, trivial, trivial, trivial⟩, ?_⟩⟩)
      have o14 := c4.at0 (by omega) o13
      have o24 := c4.at0 (by omega) o23
      have m4 := c4.1
      have c04 := c03.seq c4
      obtain ⟨cs4, g44, g46, _⟩ := rows h4 c04
      simp only [offV_ptr, bindV_some, loadV_ptr, o14, o13, loadM_cells, partV_one, List.getElem?_cons_zero, Nat.zero_add]
      refine ⟨⟨trivial, trivial⟩, ?_⟩
      simp only [g1, offV_ptr, bindV_some, loadV_ptr, g44, g4, loadM_cells, partV_one, g46, g6]
      refine ⟨⟨trivial, trivial⟩, ?_⟩
      refine answer_put s4 rfl o24 (fun h5 c5 => ?_) fun h5 c5 => ?_
      · have c05 : Chg h h5 [] := c04.new c5 (by omega)
        obtain ⟨cs5, g54, g56, _⟩ := rows h5 c05
        have o15 := c5.at1 (by omega) (by omega) o14
        exact ⟨by simp only [loadV_ptr, g54, loadM_cells, partV_one, g56], by simp only [loadV_ptr, o15, loadM_cells, partV_one, List.getElem?_cons_zero], trivial, trivial, trivial, trivial⟩
      · have e : withL M c 0 x.last = putL M c 0 x.last := by rw [← hc]; exact withL_put r hx _ _
        rw [e] at s4
        exact ⟨h5, St.le.refl _, H h5 lv' (c04.new c5 (by omega)) (OwnS.imp (OwnS.chg s4 c5 (by simp; omega)) fun j _ hj => .inr (by omega))⟩
  · have hg := getL_not no
    unfold rlogoutAns rlogoutNext at H
    simp only [hg] at H
    have m3 := c3.1
    have lt : (-1 : Int) < 0 := by omega
    simp only [binNil_int, binV_lss, lt, decide_true, bindV_some, condK_bool, if_true]
    refine answer_same (s.chg0 (c02.seq c3)) (c3.at0 (by omega) o12) rfl (c3.at0 (by omega) o2) fun h4 c4 => ?_
    have c04 : Chg h h4 [] := (c02.seq c3).new c4 (by omega)
    exact ⟨h4, St.le.refl _, H h4 lv c04 (OwnS.imp (s.chg0 c04) fun j _ hj => .inl hj)⟩
/-! ### Login -/
def rloginAns (M : List Lk) (c p : Nat) : Nat × Nat := match getL M c with
  | none => (0, 12)
  | some x => if rightId p = true then (if x.player = 0 then (connOf M p, 0) else (0, 25)) else (0, 14)
def rloginNext (M : List Lk) (c p : Nat) (now : Int) : List Lk := match getL M c with
  | none => M
  | some x => if rightId p = true then (if x.player = 0 then withL (if connOf M p = 0 then M else closeNext M (connOf M p)) c p now else M) else M
def rloginO : Abs.Spec := fun args h k => ∃ (E : Nat → Prop) (lv : Value) (most : Nat) (idle : Int) (M : List Lk) (c p : Nat) (now : Int), args = [encR lv most idle, .int .u32 (c : Int), .int .u32 (p : Int), .int .i64 now] ∧ M.length ≤ 100000 ∧ Rise M ∧ RtS E h lv M ∧
  ∀ h' lv', Chg h h' [] → RtS (NewE E h) h' lv' (rloginNext M c p now) → k (three lv' most idle (rloginAns M c p)) h'
def tabRl : List (FuncId × Abs.Spec) := [(40, rfindO), (39, grightO), (41, rconnO), (22, rcloseO), (42, rwithO)]
theorem tabRl_good : ∀ p ∈ tabRl, SpecGood Try.prog p := by simp [tabRl, rfindO_good, grightO_good, rconnO_good, rcloseO_good, rwithO_good]
theorem close_len (M : List Lk) (c : Nat) : (closeNext M c).length ≤ M.length := by
  unfold closeNext
  split
  · exact Nat.le_refl _
  · exact (dropL_sub M c).length_le
theorem rlogin_j0 {nn b4 b8 : Nat} {x9 x10 x11 lv1 : Value} {E : Nat → Prop} {most old : Nat} {idle : Int} {M1 : List Lk} {c p : Nat} {now : Int} {h : St} {z : List Value} {k : Cont} (few : M1.length ≤ 1000000) (s : RtS E h lv1 M1) (n8 : b8 < h.next) (o4 : h.objs b4 = some (.cells [lv1, .int .i64 (most : Int), .int .i64 idle] true)) (lz : z.length = 3) (o8 : h.objs b8 = some (.cells z true))
    (H : ∀ h' lv', Chg h h' [b8] → RtS (fun i => h.next ≤ i) h' lv' (withL M1 c p now) → k (three lv' most idle (old, 0)) h') :
    tiltyardref10_Login_j0 (tabC tabRl) idG nn (.int .u32 (c : Int)) (.int .u32 (p : Int)) (.int .i64 now) (.pointer (some ⟨b4, 0, none⟩)) (.pointer (some ⟨b8, 0, none⟩)) x9 x10 x11 (.int .u32 (old : Int)) h (fun v h1 => ∃ h2, St.le h2 h1 ∧ k v h2) := by
  rw [tiltyardref10_Login_j0_eq, box_load s o4]
  simp only [bindV_some]
  refine cK (S := rwithO) (by simp [tabRl]) ⟨E, lv1, most, idle, M1, c, p, now, rfl, few, s, fun h1 lv' c1 s1 => ?_⟩
  refine answer_put' s1 lz (c1.at0 n8 o8) fun h2 c2 => ?_
  have m := c1.1
  exact ⟨h2, St.le.refl _, H h2 lv' ((c1.mono (T := [b8]) (by simp)).of_chg c2 (by simp)) (OwnS.chg s1 c2 (by simp; omega))⟩
theorem rloginO_good : SpecGood Try.prog (20, rloginO) := by
  refine spec_good mixed Try.func20 (by kernel_rfl) (by kernel_rfl) (tab := tabRl) tabRl_good (keep := tiltyardref10_Login_keep) ?_
  rintro args h k ⟨E, lv, most, idle, M, c, p, now, rfl, few, r, s, H⟩
  refine ⟨0, ?_⟩
  show tiltyardref10_Login (tabC _) idG _ (encR lv most idle) (.int .u32 (c : Int)) (.int .u32 (p : Int)) (.int .i64 now) h _
  rw [tiltyardref10_Login_eq]
  refine s.box most idle fun h1 c1 n1 o1 => ?_
  refine allocE_in fun h2 c2 n2 o2 => ?_
  have o12 := c2.at0 (by omega) o1
  have c02 := c1.seq c2
  rw [box_load s o12]
  simp only [bindV_some]
  -- the table itself
  have same : ∀ (h3 : St) (n : Nat), Chg h2 h3 [] → rloginAns M c p = (0, n) → rloginNext M c p now = M → bindV (loadV true 3 (.pointer (some ⟨h.next, 0, none⟩)) h3) fun v43 => storeE 3 (.pointer (some ⟨h1.next, 0, none⟩)) v43 h3 fun _ h16 => bindV (loadV true 3 (.pointer (some ⟨h1.next, 0, none⟩)) h16) fun r17 => ∃ h2, St.le h2 h16 ∧ k (.tuple #[r17, .int .u32 0, .int .i64 (n : Int)]) h2 := by
    intro h3 n c3 en e2
    have m3 := c3.1
    refine answer_same (K := fun r17 h16 => ∃ h2, St.le h2 h16 ∧ k (.tuple #[r17, .int .u32 0, .int .i64 (n : Int)]) h2) (s.chg0 (c02.seq c3)) (c3.at0 (by omega) o12) rfl (c3.at0 (by omega) o2) fun h4 c4 => ?_
    have c04 : Chg h h4 [] := (c02.seq c3).new c4 (by omega)
    have := H h4 lv c04
    rw [en, e2] at this
    exact ⟨h4, St.le.refl _, this (OwnS.imp (s.chg0 c04) fun j _ hj => .inl hj)⟩
  refine cK (S := rfindO) (by simp [tabRl]) ⟨E, lv, most, idle, M, c, rfl, by omega, s.chg0 c02, fun h3 i x c3 hi hc => ?_, fun h3 c3 no => ?_⟩
  · obtain ⟨hg, _⟩ := getL_idx r hi hc
    have o13 := c3.at0 (by omega) o12
    have o23 := c3.at0 (by omega) o2
    have c03 := c02.seq c3
    have m3 := c3.1
    have nl : ¬ (i : Int) < 0 := by omega
    have il : i < M.length := (List.getElem?_eq_some_iff.1 hi).1
    obtain ⟨b', o', g1, g2⟩ := s.row0 il .i64
    obtain ⟨cs, g4, _, _, g6, _⟩ := g2 h3 c03
    have ex : M[i] = x := (List.getElem?_eq_some_iff.1 hi).2
    rw [ex] at g6
    simp only [binNil_int, binV_lss, nl, decide_false, bindV_some, condK_bool, Bool.false_eq_true, if_false, idG_eq]
    refine cK (S := grightO) (by simp [tabRl]) ⟨p, rfl, ?_⟩
    simp only [unV_not, bindV_some, condK_bool]
    cases hr : rightId p with
    | false =>
      simp only [Bool.not_false, if_true]
      exact same h3 14 c3 (by unfold rloginAns; rw [hg, hr]; rfl) (by unfold rloginNext; rw [hg, hr]; rfl)
    | true =>
      simp only [Bool.not_true, Bool.false_eq_true, if_false, idG_eq, offV_ptr, bindV_some, loadV_ptr, o13, loadM_cells, partV_one, List.getElem?_cons_zero, Nat.zero_add, g1, g4, g6, binNil_int, binV_neq, condK_bool, decide_eq_true_eq]
      by_cases hp : x.player = 0
      · have hp' : ¬ (x.player : Int) ≠ 0 := by omega
        rw [if_neg hp']
        have ea : rloginAns M c p = (connOf M p, 0) := by unfold rloginAns; simp only [hg, hr, if_true, if_pos hp]
        have en : rloginNext M c p now = withL (if connOf M p = 0 then M else closeNext M (connOf M p)) c p now := by unfold rloginNext; simp only [hg, hr, if_true, if_pos hp]
        rw [ea, en] at H
        simp only [idG_eq]
        rw [box_load s o13]
        simp only [bindV_some]
        refine cK (S := rconnO) (by simp [tabRl]) ⟨E, lv, most, idle, M, p, rfl, by omega, s.chg0 c03, fun h4 c4 => ?_⟩
        have o14 := c4.at0 (by omega) o13
        have o24 := c4.at0 (by omega) o23
        have c04 := c03.seq c4
        have m4 := c4.1
        simp only [binNil_int, binV_neq, bindV_some, condK_bool, decide_eq_true_eq]
        by_cases ho : connOf M p = 0
        · have ho' : ¬ (connOf M p : Int) ≠ 0 := by omega
          rw [if_neg ho']
          rw [if_pos ho] at H
          simp only [idG_eq]
          refine rlogin_j0 (by omega) (s.chg0 c04) (by omega) o14 rfl o24 fun h5 lv' c5 s5 => ?_
          exact H h5 lv' (c04.new c5 (by omega)) (OwnS.imp s5 fun j _ hj => .inr (by omega))
        · have ho' : (connOf M p : Int) ≠ 0 := by omega
          rw [if_pos ho']
          rw [if_neg ho] at H
          rw [box_load s o14]
          simp only [bindV_some]
          have sE : RtS (fun i => E i ∧ i < h.next) h lv M := OwnS.imp s fun i hi he => ⟨he, hi⟩
          refine cK (S := rcloseO) (by simp [tabRl]) ⟨fun i => E i ∧ i < h.next, lv, most, idle, M, connOf M p, rfl, by omega, r, sE.chg0 c04, fun h5 lv5 c5 s5 => ?_⟩
          have o15 := c5.at0 (by omega) o14
          have o25 := c5.at0 (by omega) o24
          have m5 := c5.1
          have h1' := s5.one
          simp only [three, extV_three0, extV_three1, extV_three2, bindV_some]
          refine storeE_all o15 rfl rfl (by show allOne [lv5, _, _] = true; simp only [allOne, h1', Bool.true_and]; rfl) fun h6 c6 n6 o6 => ?_
          have o6 : h6.objs h.next = some (.cells [lv5, .int .i64 (most : Int), .int .i64 idle] true) := o6
          simp only [idG_eq]
          have c06 : Chg h h6 [] := (c04.seq c5).new c6 (Nat.le_refl _)
          have lc := close_len M (connOf M p)
          have s6 : RtS (NewE (fun i => E i ∧ i < h.next) h4) h6 lv5 (closeNext M (connOf M p)) := OwnS.chg s5 c6 (by simp [NewE]; omega)
          refine rlogin_j0 (by omega) s6 (by omega) o6 rfl (c6.at1 (by omega) (by omega) o25) fun h7 lv' c7 s7 => ?_
          exact H h7 lv' (c06.new c7 (by omega)) (OwnS.imp s7 fun j _ hj => .inr (by omega))
      · have hp' : (x.player : Int) ≠ 0 := by omega
        rw [if_pos hp']
        exact same h3 25 c3 (by unfold rloginAns; simp only [hg, hr, if_true, if_neg hp]) (by unfold rloginNext; simp only [hg, hr, if_true, if_neg hp])
  · have hg := getL_not no
    have lt : (-1 : Int) < 0 := by omega
    simp only [binNil_int, binV_lss, lt, decide_true, bindV_some, condK_bool, if_true]
    exact same h3 12 c3 (by unfold rloginAns; rw [hg]) (by unfold rloginNext; rw [hg])
end Go.Proofs.Ytnelcpabjpchnaa
