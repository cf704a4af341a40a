/- The document's connections: Open. -/
import Derived.Test.YtnelcpabjpchnaaSesJ
set_option linter.unusedSimpArgs false
set_option linter.unusedVariables false
set_option maxHeartbeats 4000000
namespace Go.Proofs.Ytnelcpabjpchnaa
open Go.Abs Go.IntWalk
attribute [local congr] bindV_weak condK_weak guardK_weak groupK_weak allocE_weak boxE_weak storeE_weak storeM_weak tabC_weak ite_weak idG_weak appendE_weak buildSliceE_weak mapUpdateE_weak deleteE_weak makeMapE_weak copyE_weak clearE_weak callE_weak

def grightO : Abs.Spec := fun args h k => ∃ id : Nat, args = [.int .u32 id] ∧ k (.bool (rightId id)) h
theorem grightO_good : SpecGood Try.prog (39, grightO) := by
  refine spec_good mixed Try.func39 (by kernel_rfl) (by kernel_rfl) (tab := []) (by simp) (keep := tiltyardref07_Right_keep) ?_
  rintro args h k ⟨id, rfl, H⟩
  refine ⟨0, ?_⟩
  show tiltyardref07_Right (tabC _) idG 0 (.int .u32 (id : Int)) h _
  rw [tiltyardref07_Right_eq]
  simp only [binNil_int, binV_neq, binV_leq, bindV_some, groupK_eq, guardK_bool, decide_eq_true_eq]
  unfold rightId at H
  by_cases h1 : 1 ≤ id
  · have e : (id : Int) ≠ 0 := by omega
    rw [if_pos e]
    simp only [binNil_int, binV_leq, bindV_some, idG_eq]
    rw [decide_eq_true e]
    simp only [pickV_bool, if_true, getT, bindV_some]
    have e2 : decide ((id : Int) ≤ 2147483647) = decide (id ≤ 2147483647) := decide_eq_decide.2 (by omega)
    rw [decide_eq_true h1, Bool.true_and] at H
    rw [e2]
    exact ⟨h, St.le.refl _, H⟩
  · have e : ¬ (id : Int) ≠ 0 := by omega
    rw [if_neg e]
    rw [decide_eq_false e]
    simp only [bindV_some, idG_eq, pickV_bool, Bool.false_eq_true, if_false]
    rw [decide_eq_false h1, Bool.false_and] at H
    exact ⟨h, St.le.refl _, H⟩
/-! ### Open -/
def insFrom (c : Nat) (y : Lk) : List Lk → Bool → List Lk
  | [], put => if put = true then [] else [y]
  | x :: M, put => if put = false ∧ c < x.conn then y :: x :: insFrom c y M true else x :: insFrom c y M put
theorem insFrom_true (c : Nat) (y : Lk) : ∀ M, insFrom c y M true = M
  | [] => rfl
  | x :: M => by rw [insFrom, if_neg (by simp), insFrom_true c y M]
theorem insFrom_put {M : List Lk} (r : Rise M) {c : Nat} {l : Int} (no : ∀ x ∈ M, x.conn ≠ c) : insFrom c ⟨c, 0, l⟩ M false = putL M c 0 l := by
  induction M with
  | nil => rfl
  | cons x M ih =>
    obtain ⟨r1, r2⟩ := List.pairwise_cons.1 r
    rw [insFrom, putL]
    by_cases h : c < x.conn
    · rw [if_pos ⟨rfl, h⟩, if_pos h, insFrom_true]
    · rw [if_neg (fun hh => h hh.2), if_neg h, if_neg (no x (List.mem_cons_self ..)), ih r2 fun z hz => no z (List.mem_cons_of_mem _ hz)]
def ropenAns (M : List Lk) (most c : Nat) : Nat := if rightId c = true then (if (getL M c).isSome = true then 11 else if M.length ≥ most then 10 else 0) else 14
def ropenNext (M : List Lk) (most c : Nat) (l : Int) : List Lk := if ropenAns M most c = 0 then putL M c 0 l else M
def ropenO : Abs.Spec := fun args h k => ∃ (E : Nat → Prop) (lv : Value) (most : Nat) (idle : Int) (M : List Lk) (c : Nat) (l : Int), args = [encR lv most idle, .int .u32 (c : Int), .int .i64 l] ∧ M.length ≤ 100000 ∧ Rise M ∧ RtS E h lv M ∧
  ∀ h' lv', Chg h h' [] → RtS (NewE E h) h' lv' (ropenNext M most c l) → k (twoR lv' most idle (ropenAns M most c)) h'
def tabRo : List (FuncId × Abs.Spec) := [(39, grightO), (40, rfindO)]
theorem ropen_l0 {nn b3 b6 b8 c : Nat} {x7 lv : Value} {E : Nat → Prop} {most : Nat} {idle l : Int} {M T : List Lk} {h0 hb : St} {k : Cont} (few : M.length ≤ 100000) (s : RtS E h0 lv M) (c0 : Chg h0 hb []) (n3 : h0.next ≤ b3) (n6 : h0.next ≤ b6) (n38 : b3 < b8) (n68 : b6 < b8) (n8 : b8 < hb.next) (hT : T.length ≤ 200000)
    (o3 : hb.objs b3 = some (.cells [lv, .int .i64 (most : Int), .int .i64 idle] true)) (o6 : ∃ z, z.length = 3 ∧ hb.objs b6 = some (.cells z true))
    (H : ∀ h' lv', Chg h0 h' [] → RtS (fun i => h0.next ≤ i) h' lv' T → k (twoR lv' most idle 0) h') :
    ∀ (d i m0 : Nat) (h : St) (put : Bool) (A : List Lk), i + d = M.length → d < m0 → ChgP (fun j => j = b8 ∨ hb.next ≤ j) hb h → OutS hb.next b8 h most idle A → A ++ insFrom c ⟨c, 0, l⟩ (M.drop i) put = T →
      tiltyardref10_Open_l0 (tabC tabRo) idG nn m0 (.int .u32 (c : Int)) (.int .i64 l) (.pointer (some ⟨b3, 0, none⟩)) (.pointer (some ⟨b6, 0, none⟩)) x7 (.pointer (some ⟨b8, 0, none⟩)) (.bool put) (.int .i64 (i : Int)) h (fun v h1 => ∃ h2, St.le h2 h1 ∧ k v h2) := by
  obtain ⟨z6, lz6, o6⟩ := o6
  have mb := c0.1
  have bv : buildV [.int .u32 0, .int .u32 0, .int .i64 0] (some [(0, 1, .int .u32 (c : Int)), (1, 1, .int .u32 0), (2, 1, .int .i64 l)]) = some (.agg (cellsK ⟨c, 0, l⟩).toArray) := rfl
  have lA : ∀ {A B : List Lk}, A ++ B = T → A.length ≤ 1000000 := fun e => by have := congrArg List.length e; rw [List.length_append] at this; omega
  -- behind all rows
  have done : ∀ (h : St) (i : Nat) (x9 : Value), ChgP (fun j => j = b8 ∨ hb.next ≤ j) hb h → OutS hb.next b8 h most idle T → tiltyardref10_Open_j4 (tabC tabRo) idG nn (.int .u32 (c : Int)) (.int .i64 l) (.pointer (some ⟨b3, 0, none⟩)) (.pointer (some ⟨b6, 0, none⟩)) x7 (.pointer (some ⟨b8, 0, none⟩)) x9 (.int .i64 (i : Int)) h (fun v h1 => ∃ h2, St.le h2 h1 ∧ k v h2) := by
    intro h i x9 ch out
    have cc := chg_loop c0 ch (by omega)
    rw [tiltyardref10_Open_j4_eq]
    refine answer' out (by omega) (by omega) lz6 (ch.at (by omega) (by omega) o6) fun h' lvo c' s' => ?_
    exact ⟨h', St.le.refl _, H h' lvo (cc.new c' (by omega)) (OwnS.imp s' fun j _ hj => Nat.le_trans mb hj)⟩
  intro d
  induction d with
  | zero =>
    intro i m0 h put A hi hm ch out e
    obtain ⟨m0, rfl⟩ : ∃ m, m0 = m + 1 := ⟨m0 - 1, by omega⟩
    rw [tiltyardref10_Open_l0_eq]
    have e' : i = M.length := by omega
    subst e'
    rw [List.drop_length] at e
    have o3' := ch.at (by omega) (by omega) o3
    simp only [offV_ptr, bindV_some, loadV_ptr, o3', loadM_cells, partV_one, List.getElem?_cons_zero, Nat.zero_add, OwnS.len s, binV_lss, condK_bool, Int.lt_irrefl, decide_false, Bool.false_eq_true, if_false, idG_eq]
    rw [tiltyardref10_Open_j2_eq]
    simp only [unV_not, bindV_some, condK_bool]
    cases put with
    | true =>
      simp only [Bool.not_true, Bool.false_eq_true, if_false, idG_eq]
      refine done h _ _ ch ?_
      have : A = T := by rw [← e]; simp [insFrom]
      rw [← this]; exact out
    | false =>
      have out' := out
      obtain ⟨_, _, lvo, ob, _⟩ := out'
      simp only [Bool.not_false, if_true, offV_ptr, bindV_some, loadV_ptr, ob, loadM_cells, partV_one, List.getElem?_cons_zero, Nat.zero_add, bv]
      refine out_push out ob (lA e) fun h4 c4 out4 => ?_
      simp only [idG_eq]
      refine done h4 _ _ (ch.step c4) ?_
      have : A ++ [⟨c, 0, l⟩] = T := by rw [← e]; rfl
      rw [← this]; exact out4
  | succ d ih =>
    intro i m0 h put A hi hm ch out e
    obtain ⟨m0, rfl⟩ : ∃ m, m0 = m + 1 := ⟨m0 - 1, by omega⟩
    rw [tiltyardref10_Open_l0_eq]
    have hlt : (i : Int) < M.length := by omega
    have inc : IntKind.i64.wrap ((i : Int) + 1) = ((i + 1 : Nat) : Int) := by rw [i64_in _ (by omega)]; omega
    have o3' := ch.at (by omega) (by omega) o3
    have cc := chg_loop c0 ch (by omega)
    have dr : M.drop i = M[i] :: M.drop (i + 1) := List.drop_eq_getElem_cons (by omega)
    obtain ⟨b', o', g1, g2⟩ := s.row0 (show i < M.length by omega) .i64
    obtain ⟨x, ex⟩ : ∃ x, x = M[i] := ⟨_, rfl⟩
    rw [← ex] at g2 dr
    rw [dr] at e
    -- the row itself
    have row : ∀ (h1 : St) (put' : Bool) (A' : List Lk), ChgP (fun j => j = b8 ∨ hb.next ≤ j) hb h1 → OutS hb.next b8 h1 most idle A' → A' ++ x :: insFrom c ⟨c, 0, l⟩ (M.drop (i + 1)) put' = T →
        tiltyardref10_Open_j1 (tabC tabRo) idG nn m0 (.int .u32 (c : Int)) (.int .i64 l) (.pointer (some ⟨b3, 0, none⟩)) (.pointer (some ⟨b6, 0, none⟩)) x7 (.pointer (some ⟨b8, 0, none⟩)) (.bool put') (.int .i64 (i : Int)) h1 (fun v h1 => ∃ h2, St.le h2 h1 ∧ k v h2) := by
      intro h1 put' A' ch1 out1 e1
      rw [tiltyardref10_Open_j1_eq]
      have cc1 := chg_loop c0 ch1 (by omega)
      obtain ⟨cs, g4, g3, _⟩ := g2 h1 cc1
      have o31 := ch1.at (by omega) (by omega) o3
      have out' := out1
      obtain ⟨bn, nn', lvo, ob, _⟩ := out'
      simp only [offV_ptr, bindV_some, loadV_ptr, ob, loadM_cells, partV_one, List.getElem?_cons_zero, Nat.zero_add]
      refine ⟨trivial, ?_⟩
      simp only [offV_ptr, bindV_some, loadV_ptr, o31, loadM_cells, partV_one, List.getElem?_cons_zero, Nat.zero_add]
      refine ⟨trivial, ?_⟩
      simp only [g1, bindV_some, loadV_ptr, g4, loadM_cells, partV_agg, g3, Option.map_some]
      refine ⟨trivial, ?_⟩
      refine out_pushC out1 ob (lA e1) (fun h2 c2 => ⟨trivial, trivial, ?_, trivial⟩) ⟨trivial, trivial, trivial, trivial⟩ ⟨trivial, trivial, trivial, trivial⟩ fun h4 c4 out4 => ?_
      · simp only [loadV_ptr, c2.at0 (show b8 < h1.next by omega) ob, loadM_cells, partV_one, List.getElem?_cons_zero]
      · simp only [idG_eq]
        rw [tiltyardref10_Open_j3_eq]
        simp only [binNil_int, binV_add, bindV_some, inc, idG_eq]
        refine ih (i + 1) m0 h4 put' (A' ++ [x]) (by omega) (by omega) (ch1.step c4) out4 ?_
        rw [← e1]; simp
    obtain ⟨cs, g4, g3, g5, _⟩ := g2 h cc
    simp only [offV_ptr, bindV_some, loadV_ptr, o3', loadM_cells, partV_one, List.getElem?_cons_zero, Nat.zero_add, OwnS.len s, binV_lss, condK_bool, hlt, decide_true, if_true, idG_eq, unV_not, groupK_eq, guardK_bool]
    cases put with
    | true =>
      simp only [Bool.not_true, Bool.false_eq_true, if_false, idG_eq, pickV_bool, bindV_some, condK_bool]
      refine row h true A ch out ?_
      rw [insFrom, if_neg (by simp)] at e
      exact e
    | false =>
      simp only [Bool.not_false, if_true, offV_ptr, bindV_some, loadV_ptr, o3', loadM_cells, partV_one, List.getElem?_cons_zero, Nat.zero_add, g1, Nat.add_zero, g4, g5, binV_gtr, idG_eq, getT, pickV_bool, condK_bool, decide_eq_true_eq]
      by_cases lt : c < x.conn
      · have lt' : (x.conn : Int) > (c : Int) := by omega
        rw [if_pos lt']
        rw [insFrom, if_pos ⟨rfl, lt⟩] at e
        have out' := out
        obtain ⟨_, _, lvo, ob, _⟩ := out'
        simp only [offV_ptr, bindV_some, loadV_ptr, ob, loadM_cells, partV_one, List.getElem?_cons_zero, Nat.zero_add, bv]
        refine out_push out ob (lA e) fun h4 c4 out4 => ?_
        simp only [idG_eq]
        refine row h4 true (A ++ [⟨c, 0, l⟩]) (ch.step c4) out4 ?_
        rw [← e]; simp
      · have lt' : ¬ (x.conn : Int) > (c : Int) := by omega
        rw [if_neg lt']
        rw [insFrom, if_neg (fun hh => lt hh.2)] at e
        simp only [idG_eq]
        exact row h false A ch out e
theorem putL_len (M : List Lk) (c p : Nat) (l : Int) : (putL M c p l).length ≤ M.length + 1 := by
  induction M with
  | nil => simp [putL]
  | cons x M ih =>
    rw [putL]
    split
    · simp
    · split
      · simp
      · simp only [List.length_cons]; omega
theorem ropenO_good : SpecGood Try.prog (19, ropenO) := by
  refine spec_good mixed Try.func19 (by kernel_rfl) (by kernel_rfl) (tab := tabRo) (by simp [tabRo, grightO_good, rfindO_good]) (keep := tiltyardref10_Open_keep) ?_
  rintro args h k ⟨E, lv, most, idle, M, c, l, rfl, few, r, s, H⟩
  refine ⟨M.length + 1, ?_⟩
  show tiltyardref10_Open (tabC _) idG _ (encR lv most idle) (.int .u32 (c : Int)) (.int .i64 l) h _
  rw [tiltyardref10_Open_eq]
  refine s.box most idle fun h1 c1 n1 o1 => ?_
  refine allocE_in fun h2 c2 n2 o2 => ?_
  have o12 := c2.at0 (by omega) o1
  have c02 := c1.seq c2
  refine .inl ⟨rfl, c, rfl, ?_⟩
  simp only [unV_not, bindV_some, condK_bool]
  -- the table itself
  have same : ∀ (h3 : St) (n : Nat), Chg h2 h3 [] → ropenAns M most c = n → n ≠ 0 → bindV (loadV true 3 (.pointer (some ⟨h.next, 0, none⟩)) h3) fun v43 => storeE 3 (.pointer (some ⟨h1.next, 0, none⟩)) v43 h3 fun _ h16 => bindV (loadV true 3 (.pointer (some ⟨h1.next, 0, none⟩)) h16) fun r17 => ∃ h2, St.le h2 h16 ∧ k (.tuple #[r17, .int .i64 (n : Int)]) h2 := by
    intro h3 n c3 en n0
    have m3 := c3.1
    refine answer_same (K := fun r17 h16 => ∃ h2, St.le h2 h16 ∧ k (.tuple #[r17, .int .i64 (n : Int)]) h2) (s.chg0 (c02.seq c3)) (c3.at0 (by omega) o12) rfl (c3.at0 (by omega) o2) fun h4 c4 => ?_
    have c04 : Chg h h4 [] := (c02.seq c3).new c4 (by omega)
    have := H h4 lv c04
    rw [ropenNext, en, if_neg n0] at this
    exact ⟨h4, St.le.refl _, this (OwnS.imp (s.chg0 c04) fun j _ hj => .inl hj)⟩
  cases hr : rightId c with
  | false =>
    simp only [Bool.not_false, if_true]
    exact same h2 14 (Chg.refl _ _) (by unfold ropenAns; rw [hr]; rfl) (by omega)
  | true =>
    simp only [Bool.not_true, Bool.false_eq_true, if_false, idG_eq]
    rw [box_load s o12]
    simp only [bindV_some]
    refine .inr (.inl ⟨rfl, E, lv, most, idle, M, c, rfl, by omega, s.chg0 c02, fun h3 i x c3 hi hc => ?_, fun h3 c3 no => ?_⟩)
    · have ge : (i : Int) ≥ 0 := by omega
      simp only [binNil_int, binV_geq, ge, decide_true, bindV_some, condK_bool, if_true]
      exact same h3 11 c3 (by unfold ropenAns; rw [hr, (getL_idx r hi hc).1]; rfl) (by omega)
    · have ge : ¬ (-1 : Int) ≥ 0 := by omega
      have o13 := c3.at0 (by omega) o12
      have o23 := c3.at0 (by omega) o2
      have m3 := c3.1
      have hg := getL_not no
      simp only [binNil_int, binV_geq, ge, decide_false, bindV_some, condK_bool, Bool.false_eq_true, if_false, idG_eq, offV_ptr, loadV_ptr, o13, loadM_cells, partV_one, List.getElem?_cons_zero, List.getElem?_cons_succ, Nat.zero_add, OwnS.len s, decide_eq_true_eq]
      by_cases hm : M.length ≥ most
      · have hm' : (M.length : Int) ≥ (most : Int) := by omega
        rw [if_pos hm']
        exact same h3 10 c3 (by unfold ropenAns; rw [hr, hg, if_pos rfl, if_neg (by simp), if_pos hm]) (by omega)
      · have hm' : ¬ (M.length : Int) ≥ (most : Int) := by omega
        rw [if_neg hm']
        have ea : ropenAns M most c = 0 := by unfold ropenAns; rw [hr, hg, if_pos rfl, if_neg (by simp), if_neg hm]
        rw [ropenNext, ea, if_pos rfl] at H
        simp only [idG_eq, offV_ptr, bindV_some, loadV_ptr, o13, loadM_cells, partV_one, List.getElem?_cons_zero, List.getElem?_cons_succ, Nat.zero_add, encR_build]
        refine allocE_in fun h4 c4 n4 o4 => ?_
        refine storeE_all o4 rfl rfl rfl fun h5 c5 n5 o5 => ?_
        have o5 : h5.objs h3.next = some (.cells [.slice none 0 0, .int .i64 (most : Int), .int .i64 idle] true) := o5
        have o15 := c5.at1 (by omega) (by omega) (c4.at0 (by omega) o13)
        have o25 := c5.at1 (by omega) (by omega) (c4.at0 (by omega) o23)
        have c05 : Chg h h5 [] := ((c02.seq c3).seq c4).new c5 (by omega)
        simp only [idG_eq]
        have tl := putL_len M c 0 l
        refine ropen_l0 (b3 := h.next) (b6 := h1.next) (b8 := h3.next) (T := putL M c 0 l) few s c05 (Nat.le_refl _) (by omega) (by omega) (by omega) (by omega) (by omega) o15 ⟨_, rfl, o25⟩ (fun h' lv' c' s' => H h' lv' c' (OwnS.imp s' fun j _ hj => .inr hj)) M.length 0 _ h5 false [] (by omega) (by omega) (ChgP.refl _ _) ⟨by omega, Nat.le_refl _, _, o5, .inl ⟨rfl, rfl, rfl⟩⟩ ?_
        rw [List.drop_zero, List.nil_append, insFrom_put r no]
end Go.Proofs.Ytnelcpabjpchnaa
