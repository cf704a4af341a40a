/- 'LedgerRuns', walked. -/
import Derived.Test.YtdgonebknphkcaaLgD
set_option linter.unusedSimpArgs false
set_option linter.unusedVariables false
set_option maxHeartbeats 4000000
namespace Go.Proofs.Ytdgonebknphkcaa
open Go.Abs Go.IntWalk
attribute [local congr] bindV_weak condK_weak guardK_weak groupK_weak allocE_weak boxE_weak storeE_weak storeM_weak tabC_weak ite_weak idG_weak appendE_weak buildSliceE_weak mapUpdateE_weak deleteE_weak makeMapE_weak copyE_weak clearE_weak callE_weak

/-! ### acts -/
abbrev LAct := Nat × En × Int
def cellsA (a : LAct) : List Value := .int .u8 (a.1 : Int) :: cellsE a.2.1 ++ [.int .i64 a.2.2]
def aV (a : LAct) : Value := .agg #[.int .u8 (a.1 : Int), .int .u64 (a.2.1.1 : Int), .int .u32 (a.2.1.2.1 : Int), .int .u32 (a.2.1.2.2.1 : Int), .int .i64 a.2.1.2.2.2, .int .i64 a.2.2]
def rowA (l : List LAct) (i : Nat) : List Value := cellsA (l[i]?.getD (0, zE, 0))
def LActs (h : St) (v : Value) (l : List LAct) : Prop := SliceAt (· < h.next) h v l.length 6 (rowA l)
theorem lact_at {h0 : St} {v : Value} {l : List LAct} (s : LActs h0 v l) {i : Nat} (hi : i < l.length) :
    ∃ b o, idxS 6 v (.int .i64 (i : Int)) = some (.pointer (some ⟨b, o, none⟩)) ∧ ∀ h, Chg h0 h [] → loadV true 6 (.pointer (some ⟨b, o, none⟩)) h = some (aV l[i]) := by
  obtain ⟨b, o, g1, g2, g3, cs, own, g4, g5⟩ := s.idx (i := (i : Int)) (by omega) (by omega) .i64
  have e : rowA l (i : Int).toNat = cellsA l[i] := by simp [rowA, hi]
  rw [e] at g5
  refine ⟨b, o, g1, fun h c => ?_⟩
  have g := c.at0 g3 g4
  simp only [loadV_ptr, g, loadM_cells, partV_agg, g5, Option.map_some]; rfl
/-- A box of one's own that holds an act. -/
def BxA (h : St) (b : Nat) (a : LAct) : Prop := b < h.next ∧ h.objs b = some (.cells (cellsA a) true)
theorem BxA.chg0 {h h' : St} {b : Nat} {a : LAct} (x : BxA h b a) (c : Chg h h' []) : BxA h' b a := ⟨Nat.lt_of_lt_of_le x.1 c.1, c.at0 x.1 x.2⟩
theorem BxA.chgP {h h' : St} {b : Nat} {a : LAct} {D : Nat → Prop} (x : BxA h b a) (c : ChgP D h h') (hb : ¬ D b) : BxA h' b a := ⟨Nat.lt_of_lt_of_le x.1 c.1, c.at x.1 hb x.2⟩
theorem BxA.ld {h : St} {b : Nat} {a : LAct} (x : BxA h b a) : loadV false 1 (.pointer (some ⟨b, 0, none⟩)) h = some (.int .u8 (a.1 : Int)) ∧ loadV false 1 (.pointer (some ⟨b, 1, none⟩)) h = some (.int .u64 (a.2.1.1 : Int)) ∧ loadV false 1 (.pointer (some ⟨b, 2, none⟩)) h = some (.int .u32 (a.2.1.2.1 : Int)) ∧
    loadV false 1 (.pointer (some ⟨b, 3, none⟩)) h = some (.int .u32 (a.2.1.2.2.1 : Int)) ∧ loadV false 1 (.pointer (some ⟨b, 5, none⟩)) h = some (.int .i64 a.2.2) ∧ loadV true 4 (.pointer (some ⟨b, 1, none⟩)) h = some (eV a.2.1) := by
  obtain ⟨_, o⟩ := x
  have tk : takeN (cellsA a) 1 4 = some (cellsE a.2.1) := rfl
  refine ⟨?_, ?_, ?_, ?_, ?_, ?_⟩
  · simp only [loadV_ptr, o, loadM_cells, partV_one]; rfl
  · simp only [loadV_ptr, o, loadM_cells, partV_one]; rfl
  · simp only [loadV_ptr, o, loadM_cells, partV_one]; rfl
  · simp only [loadV_ptr, o, loadM_cells, partV_one]; rfl
  · simp only [loadV_ptr, o, loadM_cells, partV_one]; rfl
  · simp only [loadV_ptr, o, loadM_cells, partV_agg, tk, Option.map_some]; rfl
theorem spd_rise {W : List En} (r : Rise W) (n o w : Nat) (now : Int) : (spdF W n o w now).1.length ≤ W.length := by
  rcases spd_code r n o w now with h | h <;> omega
theorem wouts2 (W : List En) (n : Nat) : wouts W [n, n] = wout W n := by
  unfold wouts wout
  refine List.filter_congr fun x _ => ?_
  unfold pn
  by_cases h : n = x.1
  · simp [h]
  · have : ¬ x.1 = n := fun e => h e.symm
    simp [h, this]
def tabRu : List (FuncId × Abs.Spec) := [(7, lnewO), (8, lissO), (9, lspdO), (10, awakeO), (12, lgetO), (13, egetO), (14, ownO), (15, eissO), (16, espO), (17, lrevO), (18, ewoO), (19, lswpO), (20, eswO), (21, likeO)]
theorem tabRu_good : ∀ p ∈ tabRu, SpecGood Try.prog p := by simp [tabRu, lnewO_good, lissO_good, lspdO_good, awakeO_good, lgetO_good, egetO_good, ownO_good, eissO_good, espO_good, lrevO_good, ewoO_good, lswpO_good, eswO_good, likeO_good]
/-- What stands while acts are done. -/
structure Lst (n0 n1 : Nat) (h : St) (v lv : Value) (most : Nat) (W : List En) : Prop where
  l : LdS (fun j => n0 ≤ j ∧ j < n1) h v most W
  d : DlS (fun j => n1 ≤ j) h lv W
  n : n1 ≤ h.next
  m : n0 ≤ n1
theorem Lst.chg0 {n0 n1 : Nat} {h h' : St} {v lv : Value} {most : Nat} {W : List En} (s : Lst n0 n1 h v lv most W) (c : Chg h h' []) : Lst n0 n1 h' v lv most W := ⟨s.l.chg0 c, s.d.chg0 c, Nat.le_trans s.n c.1, s.m⟩
theorem runs_j1 {nn m0 n1 i b : Nat} {most : Nat} {x0 x1 x4 v lv x14 : Value} {f : Nat} {W : List En} {h0 h : St} {k : Cont} (hm : most ≤ 255) (st : Lst h0.next n1 h v lv most W) (hi : i ≤ 1000)
    (K : ∀ h', Chg h h' [] → w_Runs_l0 (tabC tabRu) idG nn m0 x0 x1 x4 v lv (.int .i64 ((i + 1 : Nat) : Int)) (.pointer (some ⟨b, 0, none⟩)) (.int .i64 (f : Int)) (.int .i64 (f : Int)) x14 h' (fun v h1 => ∃ h2, St.le h2 h1 ∧ k v h2)) :
    w_Runs_j1 (tabC tabRu) idG nn m0 x0 x1 x4 v lv (.int .i64 (i : Int)) (.pointer (some ⟨b, 0, none⟩)) (.int .i64 (f : Int)) (.int .i64 (f : Int)) x14 h (fun v h1 => ∃ h2, St.le h2 h1 ∧ k v h2) := by
  rw [w_Runs_j1_eq]
  have inc : IntKind.i64.wrap ((i : Int) + 1) = ((i + 1 : Nat) : Int) := by rw [i64_in _ (by omega)]; omega
  simp only [neN, decide_true, Bool.not_true, bindV_some, groupK_eq, guardK_bool, if_true]
  refine cK (S := likeO) (by simp [tabRu]) ⟨_, _, v, lv, most, W, rfl, hm, st.l, st.d, fun h1 c1 => ?_⟩
  simp only [unV_not, Bool.not_true, bindV_some, idG_eq, getT, pickV_bool, Bool.false_eq_true, if_false, condK_bool]
  rw [w_Runs_j3_eq]
  simp only [binNil_int, binV_add, bindV_some, inc, idG_eq]
  exact K h1 c1
theorem runs_l0 {nn n1 most : Nat} {mi : Int} {vs x4 v : Value} {l : List LAct} {h0 : St} {k : Cont} (hmi : (if mi > 0 then mi else 0) = (most : Int)) (hm : most ≤ 30) (bl : ∀ x ∈ l, big x.2.1.1) (few : l.length ≤ 60) (s : LActs h0 vs l) (H : ∀ h', k (.bool true) h') :
    ∀ (d i m0 : Nat) (h : St) (lv x8 x9 x10 x14 : Value) (W : List En), i + d = l.length → d < m0 → Chg h0 h [] → Lst h0.next n1 h v lv most W →
      w_Runs_l0 (tabC tabRu) idG nn m0 (.int .i64 mi) vs x4 v lv (.int .i64 (i : Int)) x8 x9 x10 x14 h (fun v h1 => ∃ h2, St.le h2 h1 ∧ k v h2) := by
  intro d
  induction d with
  | zero =>
    intro i m0 h lv x8 x9 x10 x14 W hi hm0 c st
    obtain ⟨m0, rfl⟩ : ∃ m, m0 = m + 1 := ⟨m0 - 1, by omega⟩
    rw [w_Runs_l0_eq]
    have e' : i = l.length := by omega
    subst e'
    simp only [SliceAt.len s, bindV_some, binV_lss, condK_bool, Int.lt_irrefl, decide_false, Bool.false_eq_true, if_false, idG_eq]
    rw [w_Runs_j2_eq]
    exact cK (S := awakeO) (by simp [tabRu]) ⟨rfl, fun h' => ⟨h', St.le.refl _, H h'⟩⟩
  | succ d ih =>
    intro i m0 h lv x8 x9 x10 x14 W hi hm0 c st
    obtain ⟨m0, rfl⟩ : ∃ m, m0 = m + 1 := ⟨m0 - 1, by omega⟩
    rw [w_Runs_l0_eq]
    have hlt : (i : Int) < l.length := by omega
    obtain ⟨bb, oo, g1, g2⟩ := lact_at s (show i < l.length by omega)
    have hx : l[i]'(by omega) ∈ l := List.getElem_mem _
    obtain ⟨a, ex⟩ : ∃ x, x = l[i]'(by omega) := ⟨_, rfl⟩
    rw [← ex] at g2 hx
    have ba := bl a hx
    have sn := st.n
    have sm := st.m
    have sl := st.l.len
    have rW := st.l.rise
    have mc := c.1
    simp only [SliceAt.len s, bindV_some, binV_lss, condK_bool, hlt, decide_true, if_true, idG_eq, g1, g2 h c]
    refine allocE_in fun h1 c1 n1' o1 => ?_
    refine storeE_all o1 rfl rfl rfl fun h2 c2 n2 o2 => ?_
    have bx2 : BxA h2 h.next a := ⟨by omega, o2⟩
    have c02 : Chg h h2 [] := c1.new c2 (Nat.le_refl _)
    obtain ⟨_, b1, _, _, _, _⟩ := bx2.ld
    simp only [offV_ptr, bindV_some, Nat.zero_add, Nat.add_zero, b1]
    refine cK (S := lgetO) (by simp [tabRu]) ⟨_, v, most, W, a.2.1.1, rfl, st.l.chg0 c02, fun h3 c3 => ?_⟩
    have m3 := c3.1
    simp only [got0, got1, bindV_some]
    refine allocE_in fun h4 c4 n4 o4 => ?_
    refine put_E o4 rfl fun h5 c5 n5 o5 => ?_
    have c25 : Chg h2 h5 [] := (c3.seq c4).new c5 (by omega)
    have bx5 := bx2.chg0 c25
    have c05 := c02.seq c25
    obtain ⟨_, b1, _, _, _, _⟩ := bx5.ld
    simp only [offV_ptr, bindV_some, Nat.zero_add, Nat.add_zero, b1]
    refine cK (S := egetO) (by simp [tabRu]) ⟨_, lv, W, a.2.1.1, rfl, by omega, rW, st.d.chg0 c05, fun h6 c6 => ?_⟩
    have m6 := c6.1
    simp only [got0, got1, bindV_some]
    refine allocE_in fun h7 c7 n7 o7 => ?_
    refine put_E o7 rfl fun h8 c8 n8 o8 => ?_
    have c58 : Chg h5 h8 [] := (c6.seq c7).new c8 (by omega)
    have c08 := c05.seq c58
    have o5' := c58.at0 (by omega) o5
    have ff : ∀ q : Bool, binV .neq .bool (.bool q) (.bool q) = some (.bool false) := fun q => by cases q <;> rfl
    simp only [ff, bindV_some, groupK_eq, guardK_bool, if_true, load_E o5']
    refine ⟨trivial, ?_⟩
    simp only [load_E o8, bindV_some]
    refine ⟨trivial, ?_⟩
    refine cK (S := ownO) (by simp [tabRu]) ⟨_, rfl, fun h9 c9 => ⟨⟨trivial, load_E (c9.at0 (by omega) o5'), trivial⟩, ?_⟩⟩
    have c59 := c58.seq c9
    have c09 := c08.seq c9
    have bx9 := bx5.chg0 c59
    have st9 := st.chg0 c09
    obtain ⟨b0, b1, b2, b3, b5, b4⟩ := bx9.ld
    simp only [neE_self, bindV_some, idG_eq, getT, pickV_bool, Bool.false_eq_true, if_false, condK_bool, offV_ptr, Nat.zero_add, b0]
    have c0h9 := c.seq c09
    have m09 := c09.1
    -- what is done, and behind it
    have next : ∀ (h' : St) (lv' : Value) (f : Nat) (W' : List En) (x14' : Value), Chg h0 h' [] → Lst h0.next n1 h' v lv' most W' →
        w_Runs_j1 (tabC tabRu) idG nn m0 (.int .i64 mi) vs x4 v lv' (.int .i64 (i : Int)) (.pointer (some ⟨h.next, 0, none⟩)) (.int .i64 (f : Int)) (.int .i64 (f : Int)) x14' h' (fun v h1 => ∃ h2, St.le h2 h1 ∧ k v h2) := fun h' lv' f W' x14' c' st' =>
      runs_j1 (by omega) st' (by omega) fun h'' c'' => ih (i + 1) m0 h'' lv' _ _ _ _ W' (by omega) (by omega) (c'.seq c'') (st'.chg0 c'')
    have q0 : binNil .eql .other (.int .u8 (a.1 : Int)) (.int .u8 0) = some (.bool (decide (a.1 = 0))) := by rw [binNil_int]; exact eqN .u8 a.1 0
    have q1 : binNil .eql .other (.int .u8 (a.1 : Int)) (.int .u8 1) = some (.bool (decide (a.1 = 1))) := by rw [binNil_int]; exact eqN .u8 a.1 1
    have q2 : binNil .eql .other (.int .u8 (a.1 : Int)) (.int .u8 2) = some (.bool (decide (a.1 = 2))) := by rw [binNil_int]; exact eqN .u8 a.1 2
    have q3 : binNil .eql .other (.int .u8 (a.1 : Int)) (.int .u8 3) = some (.bool (decide (a.1 = 3))) := by rw [binNil_int]; exact eqN .u8 a.1 3
    have z00 : ((0 : Nat) : Int) = 0 := rfl
    -- behind what the ledger does
    have keepB : ∀ {h1 h2 : St}, h.next < h1.next → ChgP (OutL (fun j => h0.next ≤ j ∧ j < n1) h1) h1 h2 → BxA h1 h.next a → BxA h2 h.next a := fun {h1 h2} hn c x => x.chgP c fun hh => by rcases hh with hh | hh <;> omega
    have keepD : ∀ {h1 h2 : St} {lv' : Value} {W' : List En}, ChgP (OutL (fun j => h0.next ≤ j ∧ j < n1) h1) h1 h2 → DlS (fun j => n1 ≤ j) h1 lv' W' → DlS (fun j => n1 ≤ j) h2 lv' W' := fun {h1 h2 lv' W'} c d =>
      OwnS.imp (OwnS.chgP (OwnS.imp d fun j hj hb => (⟨hb, hj⟩ : n1 ≤ j ∧ j < h1.next)) c fun j h1 h2 => by rcases h1 with h1 | h1 <;> omega) fun _ _ h => h.1
    have keepC : ∀ {h1 h2 : St}, Chg h0 h1 [] → ChgP (OutL (fun j => h0.next ≤ j ∧ j < n1) h1) h1 h2 → Chg h0 h2 [] := fun {h1 h2} c d => outD rfl c (d.mono fun j _ hj => by have := c.1; rcases hj with hj | hj <;> omega)
    by_cases e0 : a.1 = 0
    · simp only [q0, decide_eq_true e0, bindV_some, condK_bool, if_true, offV_ptr, Nat.zero_add, b4]
      refine ⟨trivial, ?_⟩
      refine cK (S := ownO) (by simp [tabRu]) ⟨a.2.1, rfl, fun hA cA => ⟨⟨trivial, trivial⟩, ?_⟩⟩
      have bxA := bx9.chg0 cA
      have mA := cA.1
      obtain ⟨_, _, _, _, b5A, _⟩ := bxA.ld
      simp only [offV_ptr, Nat.zero_add, bindV_some, b5A]
      refine ⟨⟨b5, trivial⟩, ?_⟩
      refine cK (S := lissO) (by simp [tabRu]) ⟨_, v, most, W, a.2.1, a.2.2, rfl, ba, st9.l.chg0 cA, fun hB cB lB => ⟨⟨trivial, trivial, trivial⟩, ?_⟩⟩
      have bxB := keepB bxA.1 cB bxA
      have mB := cB.1
      obtain ⟨_, _, _, _, b5B, b4B⟩ := bxB.ld
      have c0B := keepC (c0h9.seq cA) cB
      have dB := keepD cB (st9.d.chg0 cA)
      simp only [maxV, if_true, hmi, offV_ptr, Nat.zero_add, bindV_some, b5B, b4B]
      refine cK (S := eissO) (by simp [tabRu]) ⟨_, lv, W, most, a.2.1, a.2.2, rfl, by omega, rW, dB, fun hC lvC cC dC => ?_⟩
      simp only [extV_two0, extV_two1, bindV_some, idG_eq]
      have mC := cC.1
      exact next hC lvC _ _ _ (c0B.seq cC) ⟨lB.chg0 cC, OwnS.imp dC fun j _ hj => by rcases hj with hj | hj <;> omega, by omega, sm⟩
    by_cases e1 : a.1 = 1
    · simp only [q0, decide_eq_false e0, Bool.false_eq_true, if_false, q1, decide_eq_true e1, bindV_some, condK_bool, if_true, offV_ptr, Nat.zero_add, Nat.add_zero, Nat.reduceAdd, b1, b2, b3, b5]
      refine cK (S := lspdO) (by simp [tabRu]) ⟨_, v, most, W, a.2.1.1, a.2.1.2.1, a.2.1.2.2.1, a.2.2, rfl, st9.l, fun hB cB lB => ?_⟩
      have bxB := keepB bx9.1 cB bx9
      have mB := cB.1
      obtain ⟨_, b1B, b2B, b3B, b5B, _⟩ := bxB.ld
      have c0B := keepC c0h9 cB
      have dB := keepD cB st9.d
      simp only [bindV_some, offV_ptr, Nat.zero_add, Nat.add_zero, Nat.reduceAdd, b1B, b2B, b3B, b5B]
      refine cK (S := espO) (by simp [tabRu]) ⟨_, lv, W, a.2.1.1, a.2.1.2.1, a.2.1.2.2.1, a.2.2, rfl, by omega, rW, dB, fun hC lvC cC dC => ?_⟩
      simp only [extV_two0, extV_two1, bindV_some, idG_eq]
      have mC := cC.1
      exact next hC lvC _ _ _ (c0B.seq cC) ⟨lB.chg0 cC, OwnS.imp dC fun j _ hj => by rcases hj with hj | hj <;> omega, by omega, sm⟩
    by_cases e2 : a.1 = 2
    · simp only [q0, decide_eq_false e0, Bool.false_eq_true, if_false, q1, decide_eq_false e1, q2, decide_eq_true e2, bindV_some, condK_bool, if_true, offV_ptr, Nat.zero_add, Nat.add_zero, Nat.reduceAdd, b1]
      refine buildSliceE_in [.int .u64 (a.2.1.1 : Int), .int .u64 (a.2.1.1 : Int)] rfl rfl rfl fun hA cA nA oA => ?_
      have mA := cA.1
      have slA : OwnN (fun j => j = h9.next) hA (.slice (some ⟨h9.next, 0, some 1⟩) 2 0) [a.2.1.1, a.2.1.1] := .inr ⟨h9.next, rfl, rfl, by omega, oA, rfl⟩
      have bxA := bx9.chg0 cA
      refine cK (S := lrevO) (by simp [tabRu]) ⟨_, _, v, _, most, W, [a.2.1.1, a.2.1.1], rfl, by omega, by simp, fun j h1 h2 => by omega, st9.l.chg0 cA, slA, fun hB cB lB => ?_⟩
      rw [wouts2] at lB ⊢
      have bxB := keepB bxA.1 cB bxA
      have mB := cB.1
      obtain ⟨_, b1B, _, _, _, _⟩ := bxB.ld
      have c0B := keepC (c0h9.seq cA) cB
      have dB := keepD cB (st9.d.chg0 cA)
      have ol := out_len rW a.2.1.1
      obtain ⟨many, em⟩ : ∃ n, n = W.length - (wout W a.2.1.1).length := ⟨_, rfl⟩
      rw [← em]
      have me : many = if (getW W a.2.1.1).isSome = true then 1 else 0 := by rw [em]; omega
      have z1 : binNil .eql .other (.int .i64 (many : Int)) (.int .i64 1) = some (.bool (getW W a.2.1.1).isSome) := by
        rw [me]; cases (getW W a.2.1.1).isSome <;> rfl
      have z2 : binNil .gtr .other (.int .i64 (many : Int)) (.int .i64 1) = some (.bool false) := by
        rw [me]; cases (getW W a.2.1.1).isSome <;> rfl
      have z3 : binNil .lss .other (.int .i64 (many : Int)) (.int .i64 0) = some (.bool false) := by
        rw [me]; cases (getW W a.2.1.1).isSome <;> rfl
      simp only [z1, z2, z3, ff, bindV_some, groupK_eq, guardK_bool, if_true, idG_eq, getT, pickV_bool, Bool.false_eq_true, if_false, condK_bool, offV_ptr, Nat.zero_add, Nat.add_zero, b1B]
      refine cK (S := ewoO) (by simp [tabRu]) ⟨_, lv, W, a.2.1.1, rfl, by omega, dB, fun hC lvC cC dC => ?_⟩
      simp only [idG_eq]
      have mC := cC.1
      exact next hC lvC 0 _ _ (c0B.seq cC) ⟨lB.chg0 cC, OwnS.imp dC fun j _ hj => by omega, by omega, sm⟩
    by_cases e3 : a.1 = 3
    · simp only [q0, decide_eq_false e0, Bool.false_eq_true, if_false, q1, decide_eq_false e1, q2, decide_eq_false e2, q3, decide_eq_true e3, bindV_some, condK_bool, if_true, offV_ptr, Nat.zero_add, b5]
      refine cK (S := lswpO) (by simp [tabRu]) ⟨_, v, most, W, a.2.2, rfl, by omega, fun j hj => by omega, st9.l, fun hB cB lB => ?_⟩
      have bxB := keepB bx9.1 cB bx9
      have mB := cB.1
      obtain ⟨_, _, _, _, b5B, _⟩ := bxB.ld
      have c0B := keepC c0h9 cB
      have dB := keepD cB st9.d
      simp only [bindV_some, offV_ptr, Nat.zero_add, b5B, OwnS.len dB]
      refine cK (S := eswO) (by simp [tabRu]) ⟨_, lv, W, a.2.2, rfl, by omega, dB, fun hC lvC cC dC => ?_⟩
      have mC := cC.1
      have le : (swp W a.2.2).length ≤ W.length := List.length_filter_le ..
      have sub : IntKind.i64.wrap ((W.length : Int) - ((swp W a.2.2).length : Int)) = ((W.length - (swp W a.2.2).length : Nat) : Int) := by rw [i64_in _ (by omega)]; omega
      simp only [OwnS.len dC, bindV_some, binV_sub, sub, neN, decide_true, Bool.not_true, condK_bool, Bool.false_eq_true, if_false, idG_eq]
      exact next hC lvC 0 _ _ (c0B.seq cC) ⟨lB.chg0 cC, OwnS.imp dC fun j _ hj => by omega, by omega, sm⟩
    simp only [q0, decide_eq_false e0, Bool.false_eq_true, if_false, q1, decide_eq_false e1, q2, decide_eq_false e2, q3, decide_eq_false e3, bindV_some, condK_bool, idG_eq]
    exact next h9 lv 0 _ _ c0h9 st9
def runsLawO : Abs.Spec := fun args h k => ∃ (mi : Int) (vs : Value) (l : List LAct), args = [.int .i64 mi, vs] ∧ (∀ x ∈ l, big x.2.1.1) ∧ LActs h vs l ∧ ∀ h', k (.bool true) h'
theorem runsLawO_good : SpecGood Try.prog (5, runsLawO) := by
  refine spec_good mixed Try.func5 (by kernel_rfl) (by kernel_rfl) (tab := tabRu) tabRu_good (keep := w_Runs_keep) ?_
  rintro args h k ⟨mi, vs, l, rfl, bl, s, H⟩
  refine ⟨l.length + 1, ?_⟩
  show w_Runs (tabC _) idG _ (.int .i64 mi) vs h _
  rw [w_Runs_eq]
  have g30 : binNil .gtr .other (.int .i64 mi) (.int .i64 30) = some (.bool (decide (30 < mi))) := by
    rw [binNil_int, binV_gtr]
  have g60 : binNil .gtr .other (.int .i64 (l.length : Int)) (.int .i64 60) = some (.bool (decide (60 < l.length))) := by
    rw [binNil_int, binV_gtr, show decide ((l.length : Int) > 60) = decide (60 < l.length) from decide_eq_decide.2 (by omega)]
  simp only [g30, bindV_some]
  by_cases big30 : 30 < mi
  · simp only [decide_eq_true big30, groupK_eq, guardK_bool, Bool.true_eq_false, if_false, idG_eq, pickV_bool, if_true, bindV_some, condK_bool]
    exact ⟨h, St.le.refl _, H h⟩
  simp only [decide_eq_false big30, groupK_eq, guardK_bool, if_true, SliceAt.len s, g60, bindV_some, idG_eq, pickV_bool, getT, Bool.false_eq_true, if_false, condK_bool, decide_eq_true_eq]
  by_cases few : 60 < l.length
  · rw [if_pos few]
    exact ⟨h, St.le.refl _, H h⟩
  rw [if_neg few]
  refine cK (S := lnewO) (by simp [tabRu]) ⟨mi, rfl, by omega, fun h1 v c1 s1 => ?_⟩
  simp only [isNil_no s1.ptr, bindV_some, condK_bool, Bool.false_eq_true, if_false, idG_eq]
  have m1 := c1.1
  exact runs_l0 (n1 := h1.next) (most := mi.toNat) (by split <;> omega) (by omega) bl (by omega) s H l.length 0 _ h1 _ _ _ _ _ [] (by omega) (by omega) c1 ⟨s1.imp fun i hi hj => ⟨hj, hi⟩, .inl ⟨rfl, rfl, rfl⟩, Nat.le_refl _, m1⟩
end Go.Proofs.Ytdgonebknphkcaa
