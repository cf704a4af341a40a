/- A ledger: own, alike, awake; 'LedgerRefuses' walked. -/
import Derived.Test.YtdgonebknphkcaaLgC
import Derived.Test.YtdgonebknphkcaaGenW
set_option linter.unusedSimpArgs false
set_option linter.unusedVariables false
set_option maxHeartbeats 4000000
namespace Go.Proofs.Ytdgonebknphkcaa
open Go.Abs Go.IntWalk
attribute [local congr] bindV_weak condK_weak guardK_weak groupK_weak allocE_weak boxE_weak storeE_weak storeM_weak tabC_weak ite_weak idG_weak appendE_weak buildSliceE_weak mapUpdateE_weak deleteE_weak makeMapE_weak copyE_weak clearE_weak callE_weak

/-! ### own, alike -/
def ownO : Abs.Spec := fun args h k => ∃ e : En, args = [eV e] ∧ ∀ h', Chg h h' [] → k (eV e) h'
theorem ownO_good : SpecGood Try.prog (14, ownO) := by
  refine spec_good mixed Try.func14 (by kernel_rfl) (by kernel_rfl) (tab := []) (by simp) (keep := w_own_keep) ?_
  rintro args h k ⟨e, rfl, H⟩
  refine ⟨0, ?_⟩
  show w_own (tabC _) idG _ (eV e) h _
  rw [w_own_eq]
  refine boxE_in rfl fun h1 c1 n1 o1 => ?_
  have o1 : h1.objs h.next = some (.cells (cellsE e) true) := o1
  refine allocE_in fun h2 c2 n2 o2 => ?_
  have o1' := c2.at0 (by omega) o1
  have bv : buildV [.int .u64 0, .int .u32 0, .int .u32 0, .int .i64 0] (some [(0, 1, .int .u64 (e.1 : Int)), (1, 1, .int .u32 (e.2.1 : Int)), (2, 1, .int .u32 (e.2.2.1 : Int)), (3, 1, .int .i64 e.2.2.2)]) = some (eV e) := rfl
  simp only [offV_ptr, Nat.zero_add, bindV_some, load_E0 o1', load_E1 o1', load_E2 o1', load_E3 o1', bv]
  refine put_E o2 rfl fun h3 c3 n3 o3 => ?_
  simp only [load_E o3, bindV_some]
  exact ⟨h3, St.le.refl _, H h3 ((c1.seq c2).new c3 (by omega))⟩
theorem neE_self (e : En) : binV .neq (.flat [.i, .i, .i, .i]) (eV e) (eV e) = some (.bool false) := by
  unfold eV
  simp [binV, eqV, eqAll, eqCk]
def likeO : Abs.Spec := fun args h k => ∃ (D E : Nat → Prop) (v lv : Value) (most : Nat) (W : List En), args = [v, lv] ∧ most ≤ 255 ∧ LdS D h v most W ∧ DlS E h lv W ∧ ∀ h', Chg h h' [] → k (.bool true) h'
def tabLi : List (FuncId × Abs.Spec) := [(11, lnonO), (22, llenO), (12, lgetO), (14, ownO)]
theorem tabLi_good : ∀ p ∈ tabLi, SpecGood Try.prog p := by simp [tabLi, lnonO_good, llenO_good, lgetO_good, ownO_good]
theorem like_l0 {nn most : Nat} {v lv x4 sv : Value} {D E B : Nat → Prop} {W : List En} {h0 : St} {k : Cont} (hm : most ≤ 255) (s : LdS D h0 v most W) (d0 : DlS E h0 lv W) (o : OwnN B h0 sv (keysW W)) (H : ∀ h', Chg h0 h' [] → k (.bool true) h') :
    ∀ (d i m0 : Nat) (h : St), i + d = W.length → d < m0 → Chg h0 h [] →
      w_like_l0 (tabC tabLi) idG nn m0 v lv x4 sv (.int .i64 (i : Int)) h (fun v h1 => ∃ h2, St.le h2 h1 ∧ k v h2) := by
  have ekl : (keysW W).length = W.length := by unfold keysW; rw [List.length_map]
  intro d
  induction d with
  | zero =>
    intro i m0 h hi hm0 c
    obtain ⟨m0, rfl⟩ : ∃ m, m0 = m + 1 := ⟨m0 - 1, by omega⟩
    rw [w_like_l0_eq]
    have e' : i = W.length := by omega
    subst e'
    simp only [OwnS.len o, ekl, bindV_some, binV_lss, condK_bool, Int.lt_irrefl, decide_false, Bool.false_eq_true, if_false, idG_eq]
    rw [w_like_j1_eq]
    exact ⟨h, St.le.refl _, H h c⟩
  | succ d ih =>
    intro i m0 h hi hm0 c
    obtain ⟨m0, rfl⟩ : ∃ m, m0 = m + 1 := ⟨m0 - 1, by omega⟩
    rw [w_like_l0_eq]
    have hlt : (i : Int) < W.length := by omega
    have wl := s.len
    have inc : IntKind.i64.wrap ((i : Int) + 1) = ((i + 1 : Nat) : Int) := by rw [i64_in _ (by omega)]; omega
    obtain ⟨b, oo, g1, g2⟩ := own_n o (show i < (keysW W).length by omega) .i64
    have ek : (keysW W)[i]'(by omega) = (W[i]'(by omega)).1 := by unfold keysW; rw [List.getElem_map]
    rw [ek] at g2
    obtain ⟨b2, o2, f1, f2⟩ := dl_at d0 (show i < W.length by omega) .i64
    have hx : W[i]'(by omega) ∈ W := List.getElem_mem _
    obtain ⟨x, ex⟩ : ∃ x, x = W[i]'(by omega) := ⟨_, rfl⟩
    rw [← ex] at g2 f2 hx
    have g2 : ∀ h, Chg h0 h [] → loadV false 1 (.pointer (some ⟨b, oo, none⟩)) h = some (.int .u64 (x.1 : Int)) := g2
    have gx : gotE W x.1 = .tuple #[eV x, .bool true] := by unfold gotE; rw [get_mem s.rise hx]; rfl
    simp only [OwnS.len o, ekl, bindV_some, binV_lss, condK_bool, hlt, decide_true, if_true, idG_eq, g1, g2 h c]
    refine cK (S := lgetO) (by simp [tabLi]) ⟨D, v, most, W, x.1, rfl, s.chg0 c, fun h1 c1 => ?_⟩
    rw [gx]
    simp only [extV_two0, extV_two1, bindV_some]
    refine allocE_in fun h2 c2 n2 o2' => ?_
    refine put_E o2' rfl fun h3 c3 n3 o3 => ?_
    have m1 := c1.1
    have c01 := c.seq c1
    have c03 : Chg h0 h3 [] := (c01.seq c2).new c3 (by have := c01.1; omega)
    simp only [g1, g2 h3 c03, bindV_some]
    refine ⟨trivial, ?_⟩
    simp only [f1, offV_ptr, Nat.add_zero, (f2 h3 c03).1, bindV_some]
    refine ⟨trivial, ?_⟩
    simp only [neN, decide_true, Bool.not_true, bindV_some, groupK_eq, guardK_bool, if_true, unV_not, idG_eq, getT, pickV_bool, Bool.false_eq_true, if_false]
    simp only [load_E o3, bindV_some]
    refine ⟨trivial, ?_⟩
    simp only [f1, (f2 h3 c03).2.2, bindV_some]
    refine ⟨trivial, ?_⟩
    refine cK (S := ownO) (by simp [tabLi]) ⟨x, rfl, fun h4 c4 => ⟨⟨trivial, load_E (c4.at0 (by omega) o3), trivial, trivial, trivial⟩, ?_⟩⟩
    simp only [neE_self, bindV_some, idG_eq, getT, pickV_bool, Bool.false_eq_true, if_false, condK_bool, binNil_int, binV_add, inc]
    exact ih (i + 1) m0 h4 (by omega) (by omega) (c03.seq c4)
theorem likeO_good : SpecGood Try.prog (21, likeO) := by
  refine spec_good mixed Try.func21 (by kernel_rfl) (by kernel_rfl) (tab := tabLi) tabLi_good (keep := w_like_keep) ?_
  rintro args h k ⟨D, E, v, lv, most, W, rfl, hm, s, d, H⟩
  refine ⟨W.length + 1, ?_⟩
  show w_like (tabC _) idG _ v lv h _
  rw [w_like_eq]
  have ekl : (keysW W).length = W.length := by unfold keysW; rw [List.length_map]
  refine cK (S := lnonO) (by simp [tabLi]) ⟨D, v, most, W, rfl, hm, s, fun h1 sv c1 o1 => ?_⟩
  simp only [OwnS.len o1, OwnS.len d, ekl, bindV_some, neN, decide_true, Bool.not_true, groupK_eq, guardK_bool, if_true]
  refine cK (S := llenO) (by simp [tabLi]) ⟨D, v, most, W, rfl, s.chg0 c1, ?_⟩
  simp only [OwnS.len d, bindV_some, neN, decide_true, Bool.not_true, idG_eq, getT, pickV_bool, Bool.false_eq_true, if_false, condK_bool]
  exact like_l0 hm (s.chg0 c1) (d.chg0 c1) o1 (fun h' c' => H h' (c1.seq c')) W.length 0 _ h1 (by omega) (by omega) (Chg.refl _ _)
/-! ### awake -/
def awakeO : Abs.Spec := fun args h k => args = [] ∧ ∀ h', k (.bool true) h'
def tabAw : List (FuncId × Abs.Spec) := [(7, lnewO), (8, lissO), (9, lspdO)]
theorem tabAw_good : ∀ p ∈ tabAw, SpecGood Try.prog p := by simp [tabAw, lnewO_good, lissO_good, lspdO_good]
theorem awakeO_good : SpecGood Try.prog (10, awakeO) := by
  refine spec_good mixed Try.func10 (by kernel_rfl) (by kernel_rfl) (tab := tabAw) tabAw_good (keep := w_awake_keep) ?_
  rintro args h k ⟨rfl, H⟩
  refine ⟨0, ?_⟩
  show w_awake (tabC _) idG 0 h _
  rw [w_awake_eq]
  refine cK (S := lnewO) (by simp [tabAw]) ⟨4, rfl, by omega, fun h1 v c1 s1 => ?_⟩
  have bv : buildV [.int .u64 0, .int .u32 0, .int .u32 0, .int .i64 0] (some [(0, 1, .int .u64 5), (1, 1, .int .u32 7), (3, 1, .int .i64 9)]) = some (eV (5, 7, 0, 9)) := rfl
  simp only [bv, bindV_some]
  refine cK (S := lissO) (by simp [tabAw]) ⟨_, v, _, [], (5, 7, 0, 9), 0, rfl, by unfold big; omega, s1, fun h2 c2 s2 => ?_⟩
  have i1 : issF [] (Int.toNat 4) (5, 7, 0, 9) 0 = ([(5, 7, 0, 9)], 0) := by decide
  rw [i1] at s2 ⊢
  refine cK (S := lspdO) (by simp [tabAw]) ⟨_, v, _, _, 5, 8, 0, 0, rfl, s2, fun h3 c3 s3 => ?_⟩
  have i2 : spdF [(5, 7, 0, 9)] 5 8 0 0 = ([(5, 7, 0, 9)], 13) := by decide
  rw [i2] at s3 ⊢
  refine cK (S := lspdO) (by simp [tabAw]) ⟨_, v, _, _, 5, 7, 0, 0, rfl, s3, fun h4 c4 s4 => ?_⟩
  have i3 : spdF [(5, 7, 0, 9)] 5 7 0 0 = ([], 0) := by decide
  rw [i3] at s4 ⊢
  refine cK (S := lspdO) (by simp [tabAw]) ⟨_, v, _, _, 5, 7, 0, 0, rfl, s4, fun h5 c5 s5 => ?_⟩
  have i4 : spdF [] 5 7 0 0 = ([], 12) := by decide
  rw [i4] at s5 ⊢
  have q0 : binNil .eql .other (.int .i64 ((0 : Nat) : Int)) (.int .i64 0) = some (.bool true) := rfl
  have q13 : binNil .eql .other (.int .i64 ((13 : Nat) : Int)) (.int .i64 13) = some (.bool true) := rfl
  have q12 : binNil .eql .other (.int .i64 ((12 : Nat) : Int)) (.int .i64 12) = some (.bool true) := rfl
  simp only [q0, q13, q12, bindV_some, groupK_eq, guardK_bool, if_true, idG_eq, getT, pickV_bool]
  exact ⟨h5, St.le.refl _, H h5⟩
/-! ### what is refused -/
def rowE (l : List En) (i : Nat) : List Value := cellsE (l[i]?.getD zE)
def Ens (h : St) (v : Value) (l : List En) : Prop := SliceAt (· < h.next) h v l.length 4 (rowE l)
theorem Ens.chg0 {h h' : St} {v : Value} {l : List En} (s : Ens h v l) (c : Chg h h' []) : Ens h' v l := (SliceAt.chg s c (by simp)).imp fun i _ hi => Nat.lt_of_lt_of_le hi c.1
theorem en_at {h0 : St} {v : Value} {l : List En} (s : Ens h0 v l) {i : Nat} (hi : i < l.length) :
    ∃ b o, idxS 4 v (.int .i64 (i : Int)) = some (.pointer (some ⟨b, o, none⟩)) ∧ ∀ h, Chg h0 h [] → loadV true 4 (.pointer (some ⟨b, o, none⟩)) h = some (eV l[i]) ∧ loadV false 1 (.pointer (some ⟨b, o + 3, none⟩)) h = some (.int .i64 l[i].2.2.2) := by
  obtain ⟨b, o, g1, g2, g3, cs, own, g4, g5⟩ := s.idx (i := (i : Int)) (by omega) (by omega) .i64
  have e : rowE l (i : Int).toNat = cellsE l[i] := by simp [rowE, hi]
  rw [e] at g5
  refine ⟨b, o, g1, fun h c => ?_⟩
  have g := c.at0 g3 g4
  have e3 : cs[o + 3]? = some (.int .i64 l[i].2.2.2) := row_cell g5 3 (by omega)
  refine ⟨?_, ?_⟩
  · simp only [loadV_ptr, g, loadM_cells, partV_agg, g5, Option.map_some]; rfl
  · simp only [loadV_ptr, g, loadM_cells, partV_one, e3]
theorem outD {n0 : Nat} {h0 h h' : St} (e : n0 = h0.next) (c : Chg h0 h []) (d : ChgP (fun j => n0 ≤ j) h h') : Chg h0 h' [] :=
  ((c.nil (fun j => n0 ≤ j)).step d).list fun j h1 h2 => by omega
theorem iss_code (W : List En) (most : Nat) (e : En) (now : Int) : ((issF W most e now).2 = 0 ∧ (issF W most e now).1.length = W.length + 1) ∨ ((issF W most e now).2 ≠ 0 ∧ (issF W most e now).1.length = W.length) := by
  unfold issF
  split
  · exact .inr ⟨by simp, rfl⟩
  · split
    · exact .inr ⟨by simp, rfl⟩
    · split
      · exact .inr ⟨by simp, rfl⟩
      · exact .inl ⟨rfl, ins_len W e⟩
theorem spd_code {W : List En} (r : Rise W) (n o w : Nat) (now : Int) : ((spdF W n o w now).2 = 0 ∧ (spdF W n o w now).1.length + 1 = W.length) ∨ ((spdF W n o w now).2 ≠ 0 ∧ (spdF W n o w now).1.length = W.length) := by
  unfold spdF
  cases h : getW W n with
  | none => exact .inr ⟨by simp, rfl⟩
  | some e =>
    have := out_len r n
    rw [h] at this
    simp only []
    split
    · exact .inr ⟨by simp, rfl⟩
    · split
      · exact .inr ⟨by simp, rfl⟩
      · exact .inl ⟨rfl, by simpa using this⟩
def tabRe : List (FuncId × Abs.Spec) := [(7, lnewO), (8, lissO), (9, lspdO), (11, lnonO), (10, awakeO)]
theorem tabRe_good : ∀ p ∈ tabRe, SpecGood Try.prog p := by simp [tabRe, lnewO_good, lissO_good, lspdO_good, lnonO_good, awakeO_good]
theorem eqZ (a : Nat) : binNil .eql .other (.int .i64 (a : Int)) (.int .i64 0) = some (.bool (decide (a = 0))) := by
  rw [binNil_int]; exact eqN .i64 a 0
theorem neZ (a : Nat) : binNil .neq .other (.int .i64 (a : Int)) (.int .i64 0) = some (.bool (!decide (a = 0))) := by
  rw [binNil_int]; exact neN .i64 a 0
theorem add1 {a : Nat} (h : a ≤ 1000) : binNil .add .other (.int .i64 (a : Int)) (.int .i64 1) = some (.int .i64 ((a + 1 : Nat) : Int)) := by
  have : IntKind.i64.wrap ((a : Int) + 1) = ((a + 1 : Nat) : Int) := by rw [i64_in _ (by omega)]; omega
  rw [binNil_int, binV_add, this]
theorem eqBB (a b : Bool) : binV .eql .bool (.bool a) (.bool b) = some (.bool (a == b)) := by cases a <;> cases b <;> rfl
theorem neBB (a b : Bool) : binV .neq .bool (.bool a) (.bool b) = some (.bool (a != b)) := by cases a <;> cases b <;> rfl
theorem gt10 {a : Nat} (h : a ≤ 10) : binNil .gtr .other (.int .i64 (a : Int)) (.int .i64 10) = some (.bool false) := by
  rw [binNil_int, binV_gtr, show decide ((a : Int) > 10) = false from decide_eq_false (by omega)]
theorem refuses_j1 {nn b4 b5 : Nat} {x0 x6 x8 x11 v : Value} {D : Nat → Prop} {W : List En} {e t : En} {h : St} {k : Cont} (be : big e.1) (o4 : h.objs b4 = some (.cells (cellsE e) true)) (o5 : h.objs b5 = some (.cells (cellsE t) true)) (n4 : b4 < h.next) (n5 : b5 < h.next) (d4 : ¬ D b4) (d5 : ¬ D b5) (s : LdS D h v 10 W) (H : ∀ h', k (.bool true) h') :
    w_Refuses_j1 (tabC tabRe) idG nn x0 (.pointer (some ⟨b4, 0, none⟩)) (.pointer (some ⟨b5, 0, none⟩)) x6 v x8 x11 h (fun v h1 => ∃ h2, St.le h2 h1 ∧ k v h2) := by
  rw [w_Refuses_j1_eq]
  have ekl : ∀ W : List En, (keysW W).length = W.length := fun W => by unfold keysW; rw [List.length_map]
  have l0 := s.len
  refine cK (S := lnonO) (by simp [tabRe]) ⟨D, v, 10, W, rfl, by omega, s, fun h1 sa c1 oa => ?_⟩
  simp only [load_E (c1.at0 n4 o4), offV_ptr, Nat.zero_add, load_E3 (c1.at0 n5 o5), bindV_some]
  have m1 := c1.1
  refine cK (S := lissO) (by simp [tabRe]) ⟨D, v, 10, W, e, t.2.2.2, rfl, be, s.chg0 c1, fun h2 c2 s2 => ?_⟩
  have m2 := c2.1
  obtain ⟨W1, eW1⟩ : ∃ W1, W1 = (issF W 10 e t.2.2.2).1 := ⟨_, rfl⟩
  obtain ⟨f, ef⟩ : ∃ f, f = (issF W 10 e t.2.2.2).2 := ⟨_, rfl⟩
  have ic := iss_code W 10 e t.2.2.2
  rw [← eW1, ← ef] at ic
  rw [← eW1] at s2
  rw [← ef]
  have l1 := s2.len
  refine cK (S := lnonO) (by simp [tabRe]) ⟨D, v, 10, W1, rfl, by omega, s2, fun h3 sb c3 ob => ?_⟩
  have m3 := c3.1
  have o5' : h3.objs b5 = some (.cells (cellsE t) true) := c3.at0 (by omega) (c2.at (by omega) (fun hh => by rcases hh with hh | hh; exact d5 hh; omega) (c1.at0 n5 o5))
  -- behind the first test
  have rest : ∀ h', h' = h3 → idG (bindV (offV 0 (.pointer (some ⟨b5, 0, none⟩))) fun v70 => bindV (loadV false 1 v70 h') fun v71 => bindV (offV 1 (.pointer (some ⟨b5, 0, none⟩))) fun v72 => bindV (loadV false 1 v72 h') fun v73 => bindV (offV 2 (.pointer (some ⟨b5, 0, none⟩))) fun v74 => bindV (loadV false 1 v74 h') fun v75 => bindV (offV 3 (.pointer (some ⟨b5, 0, none⟩))) fun v76 => bindV (loadV false 1 v76 h') fun v77 => tabC tabRe 9 [v, v71, v73, v75, v77] h' fun v78 h20 => tabC tabRe 11 [v] h20 fun v80 h21 => bindV (binNil .eql .other v78 (.int .i64 0)) fun v82 => bindV (lenS v80) fun v84 => bindV (binNil .add .other v84 (.int .i64 1)) fun v85 => bindV (lenS sb) fun v87 => bindV (binV .eql .other v85 v87) fun v88 => bindV (binV .eql .bool v82 v88) fun v89 => groupK v89 true [undef, undef, undef] h21 (fun J22 => bindV (binNil .eql .other v78 (.int .i64 0)) fun v92 => J22 [v78, v92, v92] h21) fun xs23 h24 => idG (groupK (getT xs23 2) false [undef, undef, undef, undef, undef] h24 (fun J25 => bindV (lenS v80) fun v95 => bindV (lenS sb) fun v97 => bindV (binV .eql .other v95 v97) fun v98 => J25 [v80, v95, sb, v97, v98] h24) fun xs26 h27 => idG (groupK v89 true [undef] h27 (fun J28 => bindV (pickV (getT xs23 2) (.bool true) (getT xs26 4)) fun v99 => J28 [v99] h27) fun xs29 h30 => idG (bindV (pickV v89 (getT xs29 0) (.bool false)) fun v100 => groupK v100 true [undef] h30 (fun J31 => tabC tabRe 10 [] h30 fun v102 h34 => J31 [v102] h34) fun xs32 h33 => idG (bindV (pickV v100 (getT xs32 0) (.bool false)) fun v103 => ∃ h2, St.le h2 h33 ∧ k v103 h2))))) := by
    rintro h' rfl
    simp only [idG_eq, offV_ptr, Nat.zero_add, load_E0 o5', load_E1 o5', load_E2 o5', load_E3 o5', bindV_some]
    refine cK (S := lspdO) (by simp [tabRe]) ⟨D, v, 10, W1, t.1, t.2.1, t.2.2.1, t.2.2.2, rfl, s2.chg0 c3, fun h4 c4 s4 => ?_⟩
    obtain ⟨W2, eW2⟩ : ∃ W2, W2 = (spdF W1 t.1 t.2.1 t.2.2.1 t.2.2.2).1 := ⟨_, rfl⟩
    obtain ⟨g, eg⟩ : ∃ g, g = (spdF W1 t.1 t.2.1 t.2.2.1 t.2.2.2).2 := ⟨_, rfl⟩
    have sc := spd_code s2.rise t.1 t.2.1 t.2.2.1 t.2.2.2
    rw [← eW2, ← eg] at sc
    rw [← eW2] at s4
    rw [← eg]
    have l2 := s4.len
    refine cK (S := lnonO) (by simp [tabRe]) ⟨D, v, 10, W2, rfl, by omega, s4, fun h5 sc' c5 oc => ?_⟩
    have bTT : binV .eql .bool (.bool true) (.bool true) = some (.bool true) := rfl
    have bFF : binV .eql .bool (.bool false) (.bool false) = some (.bool true) := rfl
    rcases sc with ⟨g0, gl⟩ | ⟨g0, gl⟩
    · have z : binNil .eql .other (.int .i64 (g : Int)) (.int .i64 0) = some (.bool true) := by rw [eqZ, decide_eq_true g0]
      have le : binV .eql .other (.int .i64 ((W2.length + 1 : Nat) : Int)) (.int .i64 (W1.length : Int)) = some (.bool true) := by rw [eqN, decide_eq_true gl]
      simp only [z, le, bTT, OwnS.len oc, OwnS.len ob, ekl, add1 (show W2.length ≤ 1000 by omega), bindV_some, groupK_eq, guardK_bool, if_true, idG_eq, getT, pickV_bool, Bool.true_eq_false, if_false]
      refine cK (S := awakeO) (by simp [tabRe]) ⟨rfl, fun h6 => ?_⟩
      simp only [idG_eq, getT, pickV_bool, if_true, bindV_some]
      exact ⟨h6, St.le.refl _, H h6⟩
    · have z : binNil .eql .other (.int .i64 (g : Int)) (.int .i64 0) = some (.bool false) := by rw [eqZ, decide_eq_false g0]
      have le : binV .eql .other (.int .i64 ((W2.length + 1 : Nat) : Int)) (.int .i64 (W1.length : Int)) = some (.bool false) := by rw [eqN, decide_eq_false (by omega)]
      have le2 : binV .eql .other (.int .i64 (W2.length : Int)) (.int .i64 (W1.length : Int)) = some (.bool true) := by rw [eqN, decide_eq_true gl]
      simp only [z, le, le2, bFF, OwnS.len oc, OwnS.len ob, ekl, add1 (show W2.length ≤ 1000 by omega), bindV_some, groupK_eq, guardK_bool, if_true, idG_eq, getT, pickV_bool, Bool.false_eq_true, if_false]
      refine cK (S := awakeO) (by simp [tabRe]) ⟨rfl, fun h6 => ?_⟩
      simp only [idG_eq, getT, pickV_bool, if_true, bindV_some]
      exact ⟨h6, St.le.refl _, H h6⟩
  have bTT : binV .neq .bool (.bool true) (.bool true) = some (.bool false) := rfl
  have bFF : binV .neq .bool (.bool false) (.bool false) = some (.bool false) := rfl
  rcases ic with ⟨f0, fl⟩ | ⟨f0, fl⟩
  · have z : binNil .eql .other (.int .i64 (f : Int)) (.int .i64 0) = some (.bool true) := by rw [eqZ, decide_eq_true f0]
    have nz : binNil .neq .other (.int .i64 (f : Int)) (.int .i64 0) = some (.bool false) := by rw [neZ, decide_eq_true f0]; rfl
    have le : binV .eql .other (.int .i64 (W1.length : Int)) (.int .i64 ((W.length + 1 : Nat) : Int)) = some (.bool true) := by rw [eqN, decide_eq_true fl]
    simp only [z, nz, le, bTT, OwnS.len oa, OwnS.len ob, ekl, add1 (show W.length ≤ 1000 by omega), groupK_eq, guardK_bool, if_true, bindV_some, idG_eq, getT, pickV_bool, Bool.false_eq_true, if_false, gt10 l1, condK_bool]
    exact rest h3 rfl
  · have z : binNil .eql .other (.int .i64 (f : Int)) (.int .i64 0) = some (.bool false) := by rw [eqZ, decide_eq_false f0]
    have nz : binNil .neq .other (.int .i64 (f : Int)) (.int .i64 0) = some (.bool true) := by rw [neZ, decide_eq_false f0]; rfl
    have le : binV .eql .other (.int .i64 (W1.length : Int)) (.int .i64 ((W.length + 1 : Nat) : Int)) = some (.bool false) := by rw [eqN, decide_eq_false (by omega)]
    have le2 : binV .neq .other (.int .i64 (W1.length : Int)) (.int .i64 (W.length : Int)) = some (.bool false) := by rw [neN, decide_eq_true fl]; rfl
    simp only [z, nz, le, le2, bFF, OwnS.len oa, OwnS.len ob, ekl, add1 (show W.length ≤ 1000 by omega), groupK_eq, guardK_bool, if_true, bindV_some, idG_eq, getT, pickV_bool, Bool.false_eq_true, if_false, gt10 l1, condK_bool]
    exact rest h3 rfl
theorem refuses_l0 {nn n1 b4 b5 : Nat} {vs x6 x11 v : Value} {l : List En} {e t : En} {h0 : St} {k : Cont} (be : big e.1) (bl : ∀ x ∈ l, big x.1) (few : l.length ≤ 20) (o4 : h0.objs b4 = some (.cells (cellsE e) true)) (o5 : h0.objs b5 = some (.cells (cellsE t) true)) (n4 : b4 < h0.next) (n5 : b5 < h0.next) (s : Ens h0 vs l) (n01 : h0.next ≤ n1) (H : ∀ h', k (.bool true) h') :
    ∀ (d i m0 : Nat) (h : St) (W : List En), i + d = l.length → d < m0 → Chg h0 h [] → n1 ≤ h.next → LdS (fun j => h0.next ≤ j ∧ j < n1) h v 10 W →
      w_Refuses_l0 (tabC tabRe) idG nn m0 vs (.pointer (some ⟨b4, 0, none⟩)) (.pointer (some ⟨b5, 0, none⟩)) x6 v (.int .i64 (i : Int)) x11 h (fun v h1 => ∃ h2, St.le h2 h1 ∧ k v h2) := by
  intro d
  induction d with
  | zero =>
    intro i m0 h W hi hm c hn st
    obtain ⟨m0, rfl⟩ : ∃ m, m0 = m + 1 := ⟨m0 - 1, by omega⟩
    rw [w_Refuses_l0_eq]
    have e' : i = l.length := by omega
    subst e'
    simp only [SliceAt.len s, bindV_some, binV_lss, condK_bool, Int.lt_irrefl, decide_false, Bool.false_eq_true, if_false, idG_eq]
    have m0' := c.1
    exact refuses_j1 be (c.at0 n4 o4) (c.at0 n5 o5) (by omega) (by omega) (fun h => by omega) (fun h => by omega) st H
  | succ d ih =>
    intro i m0 h W hi hm c hn st
    obtain ⟨m0, rfl⟩ : ∃ m, m0 = m + 1 := ⟨m0 - 1, by omega⟩
    rw [w_Refuses_l0_eq]
    have hlt : (i : Int) < l.length := by omega
    have inc : IntKind.i64.wrap ((i : Int) + 1) = ((i + 1 : Nat) : Int) := by rw [i64_in _ (by omega)]; omega
    obtain ⟨b, oo, g1, g2⟩ := en_at s (show i < l.length by omega)
    obtain ⟨f1, f2⟩ := g2 h c
    simp only [SliceAt.len s, bindV_some, binV_lss, condK_bool, hlt, decide_true, if_true, idG_eq, g1, f1]
    refine ⟨trivial, ?_⟩
    simp only [g1, offV_ptr, f2, bindV_some]
    refine ⟨trivial, ?_⟩
    refine cK (S := lissO) (by simp [tabRe]) ⟨_, v, 10, W, l[i], _, rfl, bl _ (List.getElem_mem _), st, fun h1 c1 st1 => ⟨⟨trivial, trivial, trivial⟩, ?_⟩⟩
    have m0' := c.1
    have m1 := c1.1
    simp only [binNil_int, binV_add, bindV_some, inc, idG_eq]
    exact ih (i + 1) m0 h1 _ (by omega) (by omega) (outD rfl c (c1.mono fun j _ hj => by rcases hj with hj | hj <;> omega)) (by omega) st1
def refusesLawO : Abs.Spec := fun args h k => ∃ (vs : Value) (l : List En) (e t : En), args = [vs, eV e, eV t] ∧ big e.1 ∧ (∀ x ∈ l, big x.1) ∧ Ens h vs l ∧ ∀ h', k (.bool true) h'
theorem refusesLawO_good : SpecGood Try.prog (4, refusesLawO) := by
  refine spec_good mixed Try.func4 (by kernel_rfl) (by kernel_rfl) (tab := tabRe) tabRe_good (keep := w_Refuses_keep) ?_
  rintro args h k ⟨vs, l, e, t, rfl, be, bl, s, H⟩
  refine ⟨l.length + 1, ?_⟩
  show w_Refuses (tabC _) idG _ vs (eV e) (eV t) h _
  rw [w_Refuses_eq]
  refine boxE_in rfl fun h1 c1 n1 o1 => ?_
  have o1 : h1.objs h.next = some (.cells (cellsE e) true) := o1
  refine boxE_in rfl fun h2 c2 n2 o2 => ?_
  have o2 : h2.objs h1.next = some (.cells (cellsE t) true) := o2
  have s := s.chg0 (c1.seq c2)
  simp only [SliceAt.len s, bindV_some, binNil_int, binV_gtr, condK_bool, decide_eq_true_eq]
  by_cases few : l.length ≤ 20
  · rw [if_neg (by omega)]
    simp only [idG_eq]
    refine cK (S := lnewO) (by simp [tabRe]) ⟨10, rfl, by omega, fun h3 v c3 s3 => ?_⟩
    simp only [idG_eq]
    exact refuses_l0 be bl few (c2.at0 (by omega) o1) o2 (by omega) (by omega) s c3.1 H l.length 0 _ h3 [] (by omega) (by omega) c3 (Nat.le_refl _) (s3.imp fun i hi hj => ⟨hj, hi⟩)
  · rw [if_pos (by omega)]
    exact ⟨h2, St.le.refl _, H h2⟩
end Go.Proofs.Ytdgonebknphkcaa
