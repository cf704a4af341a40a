/- A ledger: the document's answers. -/
import Derived.Test.YtdgonebknphkcaaLgB
import Derived.Test.YtdgonebknphkcaaGenE
set_option linter.unusedSimpArgs false
set_option linter.unusedVariables false
set_option maxHeartbeats 4000000
namespace Go.Proofs.Ytdgonebknphkcaa
open Go.Abs Go.IntWalk
attribute [local congr] bindV_weak condK_weak guardK_weak groupK_weak allocE_weak boxE_weak storeE_weak storeM_weak tabC_weak ite_weak idG_weak appendE_weak buildSliceE_weak mapUpdateE_weak deleteE_weak makeMapE_weak copyE_weak clearE_weak callE_weak

def DlS (E : Nat → Prop) (h : St) (lv : Value) (W : List En) : Prop := OwnS E h lv 4 (W.flatMap cellsE) W.length
theorem DlS.chg0 {E : Nat → Prop} {h h' : St} {lv : Value} {W : List En} (s : DlS E h lv W) (c : Chg h h' []) : DlS E h' lv W := OwnS.chg s c (by simp)
theorem DlS.wid {E : Nat → Prop} {h : St} {lv : Value} {W : List En} (s : DlS E h lv W) {n : Nat} : DlS (fun j => E j ∨ n ≤ j) h lv W := OwnS.imp s fun j _ hj => .inl hj
theorem dl_at {E : Nat → Prop} {h0 : St} {lv : Value} {W : List En} (s : DlS E h0 lv W) {i : Nat} (hi : i < W.length) (k : IntKind) :
    ∃ b o, idxS 4 lv (.int k i) = some (.pointer (some ⟨b, o, none⟩)) ∧ ∀ h, Chg h0 h [] → loadV false 1 (.pointer (some ⟨b, o, none⟩)) h = some (.int .u64 (W[i].1 : Int)) ∧ loadV false 1 (.pointer (some ⟨b, o + 3, none⟩)) h = some (.int .i64 W[i].2.2.2) ∧ loadV true 4 (.pointer (some ⟨b, o, none⟩)) h = some (eV W[i]) := by
  obtain ⟨b, o, g1, g2, g3, cs, g4, g5⟩ := OwnS.row s (fun y _ => len_E y) (List.getElem?_eq_getElem hi) k
  refine ⟨b, o, g1, fun h c => ?_⟩
  have e0 : cs[o]? = some (.int .u64 (W[i].1 : Int)) := row_cell g5 0 (by omega)
  have e3 : cs[o + 3]? = some (.int .i64 W[i].2.2.2) := row_cell g5 3 (by omega)
  have g := c.at0 g3 g4
  refine ⟨?_, ?_, ?_⟩
  · simp only [loadV_ptr, g, loadM_cells, partV_one, e0]
  · simp only [loadV_ptr, g, loadM_cells, partV_one, e3]
  · simp only [loadV_ptr, g, loadM_cells, partV_agg, g5, Option.map_some]; rfl
theorem fresh_out {h0 h h' : St} (c : Chg h0 h []) (d : ChgP (fun i => h0.next ≤ i) h h') : Chg h0 h' [] := ((c.nil (fun i => h0.next ≤ i)).step d).list fun j h1 h2 => by omega
/-- An entry put behind a list of one's own. -/
theorem push_e {n0 : Nat} {h : St} {v : Value} {W : List En} {x : En} {k : Cont} (hn : n0 ≤ h.next) (s : DlS (fun i => n0 ≤ i) h v W) (few : W.length ≤ 100000)
    (hk : ∀ h' v', ChgP (fun i => n0 ≤ i) h h' → DlS (fun i => n0 ≤ i) h' v' (W ++ [x]) → k v' h') : buildSliceE 4 1 [.int .u64 0, .int .u32 0, .int .u32 0, .int .i64 0] [(0 * 4, 4, eV x)] h fun v2 h2 => appendE 4 24 v v2 h2 k := by
  refine append_row (B := fun i => n0 ≤ i) (fun j hj => by omega) s rfl rfl rfl rfl (by omega) (by omega) fun h5 out5 c5 s5 => hk h5 out5 c5 ?_
  unfold DlS
  have e : (W ++ [x]).flatMap cellsE = W.flatMap cellsE ++ cellsE x := by simp
  rw [e, List.length_append]; exact s5
/-! ### Get -/
def egetO : Abs.Spec := fun args h k => ∃ (E : Nat → Prop) (lv : Value) (W : List En) (n : Nat), args = [lv, .int .u64 (n : Int)] ∧ W.length ≤ 10000 ∧ Rise W ∧ DlS E h lv W ∧ ∀ h', Chg h h' [] → k (gotE W n) h'
theorem eget_l0 {nn n x : Nat} {lv x5 : Value} {E : Nat → Prop} {W : List En} {h0 : St} {k : Cont} (few : W.length ≤ 10000) (r : Rise W) (s : DlS E h0 lv W) (hx : h0.next ≤ x) (H : ∀ h', Chg h0 h' [] → k (gotE W n) h') :
    ∀ (d i m0 : Nat) (h : St), i + d = W.length → d < m0 → Chg h0 h [] → (∃ cs, cs.length = 4 ∧ h.objs x = some (.cells cs true)) → x < h.next → (∀ y ∈ W.take i, y.1 ≠ n) →
      e_Get_l0 (tabC []) idG nn m0 lv (.int .u64 (n : Int)) (.pointer (some ⟨x, 0, none⟩)) x5 (.int .i64 (i : Int)) h (fun v h1 => ∃ h2, St.le h2 h1 ∧ k v h2) := by
  intro d
  induction d with
  | zero =>
    intro i m0 h hi hm c ⟨cs, l, o⟩ xn no
    obtain ⟨m0, rfl⟩ : ∃ m, m0 = m + 1 := ⟨m0 - 1, by omega⟩
    rw [e_Get_l0_eq]
    have e' : i = W.length := by omega
    subst e'
    rw [List.take_length] at no
    simp only [OwnS.len s, bindV_some, binV_lss, condK_bool, Int.lt_irrefl, decide_false, Bool.false_eq_true, if_false, idG_eq]
    rw [e_Get_j1_eq]
    simp only [zE_build, bindV_some]
    refine put_E o l fun h1 c1 n1 o1 => ?_
    simp only [load_E o1, bindV_some]
    have := H h1 (c.new c1 hx)
    unfold gotE at this
    rw [get_none.2 no] at this
    exact ⟨h1, St.le.refl _, this⟩
  | succ d ih =>
    intro i m0 h hi hm c ⟨cs, l, o⟩ xn no
    obtain ⟨m0, rfl⟩ : ∃ m, m0 = m + 1 := ⟨m0 - 1, by omega⟩
    rw [e_Get_l0_eq]
    have hlt : (i : Int) < W.length := by omega
    have inc : IntKind.i64.wrap ((i : Int) + 1) = ((i + 1 : Nat) : Int) := by rw [i64_in _ (by omega)]; omega
    obtain ⟨b, oo, g1, g2⟩ := dl_at s (show i < W.length by omega) .i64
    obtain ⟨f0, f3, f4⟩ := g2 h c
    simp only [OwnS.len s, bindV_some, binV_lss, condK_bool, hlt, decide_true, if_true, idG_eq, g1, offV_ptr, Nat.add_zero, f0, eqN, decide_eq_true_eq]
    by_cases e : W[i].1 = n
    · rw [if_pos e]
      simp only [g1, f4, bindV_some]
      refine put_E o l fun h1 c1 n1 o1 => ?_
      simp only [load_E o1, bindV_some]
      have := H h1 (c.new c1 hx)
      unfold gotE at this
      rw [← e, get_mem r (List.getElem_mem _)] at this
      exact ⟨h1, St.le.refl _, this⟩
    · rw [if_neg e]
      simp only [binNil_int, binV_add, bindV_some, inc, idG_eq]
      refine ih (i + 1) m0 h (by omega) (by omega) c ⟨cs, l, o⟩ xn fun y hy => ?_
      rw [List.take_succ_eq_append_getElem (by omega), List.mem_append] at hy
      rcases hy with hy | hy
      · exact no y hy
      · rw [List.mem_singleton] at hy
        rw [hy]; exact e
theorem egetO_good : SpecGood Try.prog (13, egetO) := by
  refine spec_good mixed Try.func13 (by kernel_rfl) (by kernel_rfl) (tab := []) (by simp) (keep := e_Get_keep) ?_
  rintro args h k ⟨E, lv, W, n, rfl, few, r, s, H⟩
  refine ⟨W.length + 1, ?_⟩
  show e_Get (tabC _) idG _ lv (.int .u64 (n : Int)) h _
  rw [e_Get_eq]
  refine allocE_in fun h1 c1 n1 o1 => ?_
  simp only [idG_eq]
  exact eget_l0 few r s (Nat.le_refl _) H W.length 0 _ h1 (by omega) (by omega) c1 ⟨_, rfl, o1⟩ (by omega) (by simp)
/-! ### Without, Sweep -/
def ewoO : Abs.Spec := fun args h k => ∃ (E : Nat → Prop) (lv : Value) (W : List En) (n : Nat), args = [lv, .int .u64 (n : Int)] ∧ W.length ≤ 10000 ∧ DlS E h lv W ∧ ∀ h' lv', Chg h h' [] → DlS (fun j => h.next ≤ j) h' lv' (wout W n) → k lv' h'
theorem take_step {α : Type} {W : List α} {i : Nat} (hi : i < W.length) (p : α → Bool) : (W.take (i + 1)).filter p = (W.take i).filter p ++ if p W[i] = true then [W[i]] else [] := by
  rw [List.take_succ_eq_append_getElem hi, List.filter_append]
  by_cases e : p W[i] = true <;> simp [e]
theorem take_few {α : Type} (W : List α) (i : Nat) (p : α → Bool) : ((W.take i).filter p).length ≤ W.length := Nat.le_trans (List.length_filter_le ..) (by rw [List.length_take]; omega)
theorem ewo_l0 {nn n : Nat} {lv x4 : Value} {E : Nat → Prop} {W : List En} {h0 : St} {k : Cont} (few : W.length ≤ 10000) (s : DlS E h0 lv W) (H : ∀ h' lv', Chg h0 h' [] → DlS (fun j => h0.next ≤ j) h' lv' (wout W n) → k lv' h') :
    ∀ (d i m0 : Nat) (h : St) (out : Value), i + d = W.length → d < m0 → Chg h0 h [] → DlS (fun j => h0.next ≤ j) h out (wout (W.take i) n) →
      e_Without_l0 (tabC []) idG nn m0 lv (.int .u64 (n : Int)) x4 out (.int .i64 (i : Int)) h (fun v h1 => ∃ h2, St.le h2 h1 ∧ k v h2) := by
  intro d
  induction d with
  | zero =>
    intro i m0 h out hi hm c o
    obtain ⟨m0, rfl⟩ : ∃ m, m0 = m + 1 := ⟨m0 - 1, by omega⟩
    rw [e_Without_l0_eq]
    have e' : i = W.length := by omega
    subst e'
    rw [List.take_length] at o
    simp only [OwnS.len s, bindV_some, binV_lss, condK_bool, Int.lt_irrefl, decide_false, Bool.false_eq_true, if_false, idG_eq]
    rw [e_Without_j2_eq]
    exact ⟨h, St.le.refl _, H h out c o⟩
  | succ d ih =>
    intro i m0 h out hi hm c o
    obtain ⟨m0, rfl⟩ : ∃ m, m0 = m + 1 := ⟨m0 - 1, by omega⟩
    rw [e_Without_l0_eq]
    have hlt : (i : Int) < W.length := by omega
    have inc : IntKind.i64.wrap ((i : Int) + 1) = ((i + 1 : Nat) : Int) := by rw [i64_in _ (by omega)]; omega
    obtain ⟨b, oo, g1, g2⟩ := dl_at s (show i < W.length by omega) .i64
    have ts := take_step (show i < W.length by omega) fun x => !pn n x
    have tf : (wout (W.take i) n).length ≤ W.length := take_few W i fun x => !pn n x
    obtain ⟨x, ex⟩ : ∃ x, x = W[i]'(by omega) := ⟨_, rfl⟩
    rw [← ex] at g2 ts
    obtain ⟨f0, f3, f4⟩ := g2 h c
    simp only [OwnS.len s, bindV_some, binV_lss, condK_bool, hlt, decide_true, if_true, idG_eq, g1, offV_ptr, Nat.add_zero, f0, neN]
    cases e : decide (x.1 = n) with
    | false =>
      have pf : pn n x = false := pn_no.2 fun h => by rw [decide_eq_false_iff_not] at e; exact e h.symm
      simp only [Bool.not_false, if_true, g1, f4, bindV_some]
      refine push_e (x := x) c.1 o (by omega) fun h1 out1 c1 o1 => ?_
      simp only [idG_eq]
      rw [e_Without_j1_eq]
      simp only [binNil_int, binV_add, bindV_some, inc, idG_eq]
      refine ih (i + 1) m0 h1 out1 (by omega) (by omega) (fresh_out c c1) ?_
      unfold wout at o1 ⊢
      rw [ts, if_pos (by rw [pf]; rfl)]
      exact o1
    | true =>
      have pf : pn n x = true := pn_iff.2 (of_decide_eq_true e).symm
      simp only [Bool.not_true, Bool.false_eq_true, if_false, idG_eq]
      rw [e_Without_j1_eq]
      simp only [binNil_int, binV_add, bindV_some, inc, idG_eq]
      refine ih (i + 1) m0 h out (by omega) (by omega) c ?_
      unfold wout at o ⊢
      rw [ts, if_neg (by rw [pf]; simp), List.append_nil]
      exact o
theorem ewoO_good : SpecGood Try.prog (18, ewoO) := by
  refine spec_good mixed Try.func18 (by kernel_rfl) (by kernel_rfl) (tab := []) (by simp) (keep := e_Without_keep) ?_
  rintro args h k ⟨E, lv, W, n, rfl, few, s, H⟩
  refine ⟨W.length + 1, ?_⟩
  show e_Without (tabC _) idG _ lv (.int .u64 (n : Int)) h _
  rw [e_Without_eq]
  simp only [idG_eq]
  exact ewo_l0 few s H W.length 0 _ h _ (by omega) (by omega) (Chg.refl _ _) (.inl ⟨rfl, rfl, rfl⟩)
def eswO : Abs.Spec := fun args h k => ∃ (E : Nat → Prop) (lv : Value) (W : List En) (now : Int), args = [lv, .int .i64 now] ∧ W.length ≤ 10000 ∧ DlS E h lv W ∧ ∀ h' lv', Chg h h' [] → DlS (fun j => h.next ≤ j) h' lv' (swp W now) → k lv' h'
theorem esw_l0 {nn : Nat} {now : Int} {lv x4 : Value} {E : Nat → Prop} {W : List En} {h0 : St} {k : Cont} (few : W.length ≤ 10000) (s : DlS E h0 lv W) (H : ∀ h' lv', Chg h0 h' [] → DlS (fun j => h0.next ≤ j) h' lv' (swp W now) → k lv' h') :
    ∀ (d i m0 : Nat) (h : St) (out : Value), i + d = W.length → d < m0 → Chg h0 h [] → DlS (fun j => h0.next ≤ j) h out (swp (W.take i) now) →
      e_Sweep_l0 (tabC []) idG nn m0 lv (.int .i64 now) x4 out (.int .i64 (i : Int)) h (fun v h1 => ∃ h2, St.le h2 h1 ∧ k v h2) := by
  intro d
  induction d with
  | zero =>
    intro i m0 h out hi hm c o
    obtain ⟨m0, rfl⟩ : ∃ m, m0 = m + 1 := ⟨m0 - 1, by omega⟩
    rw [e_Sweep_l0_eq]
    have e' : i = W.length := by omega
    subst e'
    rw [List.take_length] at o
    simp only [OwnS.len s, bindV_some, binV_lss, condK_bool, Int.lt_irrefl, decide_false, Bool.false_eq_true, if_false, idG_eq]
    rw [e_Sweep_j2_eq]
    exact ⟨h, St.le.refl _, H h out c o⟩
  | succ d ih =>
    intro i m0 h out hi hm c o
    obtain ⟨m0, rfl⟩ : ∃ m, m0 = m + 1 := ⟨m0 - 1, by omega⟩
    rw [e_Sweep_l0_eq]
    have hlt : (i : Int) < W.length := by omega
    have inc : IntKind.i64.wrap ((i : Int) + 1) = ((i + 1 : Nat) : Int) := by rw [i64_in _ (by omega)]; omega
    obtain ⟨b, oo, g1, g2⟩ := dl_at s (show i < W.length by omega) .i64
    have ts := take_step (show i < W.length by omega) fun x => decide (now ≤ x.2.2.2)
    have tf : (swp (W.take i) now).length ≤ W.length := take_few W i _
    obtain ⟨x, ex⟩ : ∃ x, x = W[i]'(by omega) := ⟨_, rfl⟩
    rw [← ex] at g2 ts
    obtain ⟨f0, f3, f4⟩ := g2 h c
    have ge : decide (x.2.2.2 ≥ now) = decide (now ≤ x.2.2.2) := rfl
    simp only [OwnS.len s, bindV_some, binV_lss, condK_bool, hlt, decide_true, if_true, idG_eq, g1, offV_ptr, f3, binV_geq, ge]
    cases e : decide (now ≤ x.2.2.2) with
    | true =>
      simp only [if_true, g1, f4, bindV_some]
      refine push_e (x := x) c.1 o (by omega) fun h1 out1 c1 o1 => ?_
      simp only [idG_eq]
      rw [e_Sweep_j1_eq]
      simp only [binNil_int, binV_add, bindV_some, inc, idG_eq]
      refine ih (i + 1) m0 h1 out1 (by omega) (by omega) (fresh_out c c1) ?_
      unfold swp at o1 ⊢
      rw [ts, if_pos e]
      exact o1
    | false =>
      simp only [Bool.false_eq_true, if_false, idG_eq]
      rw [e_Sweep_j1_eq]
      simp only [binNil_int, binV_add, bindV_some, inc, idG_eq]
      refine ih (i + 1) m0 h out (by omega) (by omega) c ?_
      unfold swp at o ⊢
      rw [ts, if_neg (by rw [e]; simp), List.append_nil]
      exact o
theorem eswO_good : SpecGood Try.prog (20, eswO) := by
  refine spec_good mixed Try.func20 (by kernel_rfl) (by kernel_rfl) (tab := []) (by simp) (keep := e_Sweep_keep) ?_
  rintro args h k ⟨E, lv, W, now, rfl, few, s, H⟩
  refine ⟨W.length + 1, ?_⟩
  show e_Sweep (tabC _) idG _ lv (.int .i64 now) h _
  rw [e_Sweep_eq]
  simp only [idG_eq]
  exact esw_l0 few s H W.length 0 _ h _ (by omega) (by omega) (Chg.refl _ _) (.inl ⟨rfl, rfl, rfl⟩)
/-! ### Issue -/
def eissO : Abs.Spec := fun args h k => ∃ (E : Nat → Prop) (lv : Value) (W : List En) (most : Nat) (e : En) (now : Int), args = [lv, .int .i64 (most : Int), eV e, .int .i64 now] ∧ W.length ≤ 10000 ∧ Rise W ∧ DlS E h lv W ∧
  ∀ h' lv', Chg h h' [] → DlS (fun j => E j ∨ h.next ≤ j) h' lv' (issF W most e now).1 → k (.tuple #[lv', .int .i64 ((issF W most e now).2 : Int)]) h'
def restW (p : Bool) (W : List En) (e : En) : List En := if p = true then W else insW W e
theorem eiss_l0 {nn b : Nat} {lv x1 x8 x9 : Value} {E : Nat → Prop} {W : List En} {e : En} {h0 : St} {k : Cont} (few : W.length ≤ 10000) (s : DlS E h0 lv W) (bn : b < h0.next) (ob : h0.objs b = some (.cells (cellsE e) true)) (H : ∀ h' lv', Chg h0 h' [] → DlS (fun j => h0.next ≤ j) h' lv' (insW W e) → k (.tuple #[lv', .int .i64 0]) h') :
    ∀ (d i m0 : Nat) (h : St) (out : Value) (p : Bool) (O : List En), i + d = W.length → d < m0 → Chg h0 h [] → DlS (fun j => h0.next ≤ j) h out O → O ++ restW p (W.drop i) e = insW W e →
      e_Issue_l0 (tabC [(13, egetO)]) idG nn m0 lv x1 (.pointer (some ⟨b, 0, none⟩)) x8 x9 out (.bool p) (.int .i64 (i : Int)) h (fun v h1 => ∃ h2, St.le h2 h1 ∧ k v h2) := by
  intro d
  induction d with
  | zero =>
    intro i m0 h out p O hi hm c o eq
    obtain ⟨m0, rfl⟩ : ∃ m, m0 = m + 1 := ⟨m0 - 1, by omega⟩
    rw [e_Issue_l0_eq]
    have e' : i = W.length := by omega
    subst e'
    rw [List.drop_length] at eq
    have lO : O.length ≤ 10001 := by
      have := congrArg List.length eq
      rw [List.length_append, ins_len] at this; omega
    simp only [OwnS.len s, bindV_some, binV_lss, condK_bool, Int.lt_irrefl, decide_false, Bool.false_eq_true, if_false, idG_eq]
    rw [e_Issue_j2_eq]
    cases p with
    | true =>
      simp only [unV_not, Bool.not_true, bindV_some, condK_bool, Bool.false_eq_true, if_false, idG_eq]
      rw [e_Issue_j4_eq]
      have : O = insW W e := by rw [← eq]; simp [restW]
      rw [this] at o
      exact ⟨h, St.le.refl _, H h out c o⟩
    | false =>
      simp only [unV_not, Bool.not_false, bindV_some, condK_bool, if_true, load_E (c.at0 bn ob)]
      refine push_e (x := e) c.1 o (by omega) fun h1 out1 c1 o1 => ?_
      simp only [idG_eq]
      rw [e_Issue_j4_eq]
      have : O ++ [e] = insW W e := by rw [← eq]; simp [restW, insW]
      rw [this] at o1
      exact ⟨h1, St.le.refl _, H h1 out1 (fresh_out c c1) o1⟩
  | succ d ih =>
    intro i m0 h out p O hi hm c o eq
    obtain ⟨m0, rfl⟩ : ∃ m, m0 = m + 1 := ⟨m0 - 1, by omega⟩
    rw [e_Issue_l0_eq]
    have hlt : (i : Int) < W.length := by omega
    have inc : IntKind.i64.wrap ((i : Int) + 1) = ((i + 1 : Nat) : Int) := by rw [i64_in _ (by omega)]; omega
    obtain ⟨bb, oo, g1, g2⟩ := dl_at s (show i < W.length by omega) .i64
    have dr : W.drop i = W[i] :: W.drop (i + 1) := List.drop_eq_getElem_cons (by omega)
    obtain ⟨x, ex⟩ : ∃ x, x = W[i]'(by omega) := ⟨_, rfl⟩
    rw [← ex] at g2 dr
    have lO : O.length ≤ 10001 := by
      have := congrArg List.length eq
      rw [List.length_append, ins_len] at this; omega
    -- the row itself
    have row : ∀ h1 out1 p1 O1, O1.length ≤ 10002 → Chg h0 h1 [] → DlS (fun j => h0.next ≤ j) h1 out1 O1 → (O1 ++ [x]) ++ restW p1 (W.drop (i + 1)) e = insW W e →
        e_Issue_j1 (tabC [(13, egetO)]) idG nn m0 lv x1 (.pointer (some ⟨b, 0, none⟩)) x8 x9 out1 (.bool p1) (.int .i64 (i : Int)) h1 (fun v h1 => ∃ h2, St.le h2 h1 ∧ k v h2) := fun h1 out1 p1 O1 l1 c1 o1 eq1 => by
      rw [e_Issue_j1_eq]
      simp only [g1, (g2 h1 c1).2.2, bindV_some]
      refine push_e (x := x) c1.1 o1 (by omega) fun h2 out2 c2 o2 => ?_
      simp only [idG_eq]
      rw [e_Issue_j3_eq]
      simp only [binNil_int, binV_add, bindV_some, inc, idG_eq]
      exact ih (i + 1) m0 h2 out2 p1 (O1 ++ [x]) (by omega) (by omega) (fresh_out c1 c2) o2 eq1
    rw [dr] at eq
    cases p with
    | true =>
      simp only [OwnS.len s, bindV_some, binV_lss, condK_bool, hlt, decide_true, if_true, idG_eq, unV_not, Bool.not_true, groupK_eq, guardK_bool, Bool.false_eq_true, if_false, pickV_bool]
      refine row h out true O (by omega) c o ?_
      rw [← eq]; simp [restW]
    | false =>
      obtain ⟨f0, f3, f4⟩ := g2 h c
      simp only [OwnS.len s, bindV_some, binV_lss, condK_bool, hlt, decide_true, if_true, idG_eq, unV_not, Bool.not_false, groupK_eq, guardK_bool, g1, offV_ptr, Nat.add_zero, f0]
      refine ⟨trivial, ?_⟩
      simp only [offV_ptr, Nat.zero_add, load_E0 (c.at0 bn ob), bindV_some]
      refine ⟨trivial, ?_⟩
      have gt : decide ((x.1 : Int) > (e.1 : Int)) = decide (e.1 < x.1) := decide_eq_decide.2 (by omega)
      simp only [binV_gtr, gt, bindV_some, idG_eq, getT, pickV_bool, if_true, condK_bool, decide_eq_true_eq]
      by_cases lt : e.1 < x.1
      · rw [if_pos lt]
        simp only [load_E (c.at0 bn ob), bindV_some]
        refine push_e (x := e) c.1 o (by omega) fun h1 out1 c1 o1 => ?_
        simp only [idG_eq]
        refine row h1 out1 true (O ++ [e]) (by simp; omega) (fresh_out c c1) o1 ?_
        rw [← eq]; simp [restW, insW, lt]
      · rw [if_neg lt]
        simp only [idG_eq]
        refine row h out false O (by omega) c o ?_
        rw [← eq]; simp [restW, insW, lt]
theorem eissO_good : SpecGood Try.prog (15, eissO) := by
  refine spec_good mixed Try.func15 (by kernel_rfl) (by kernel_rfl) (tab := [(13, egetO)]) (by simp [egetO_good]) (keep := e_Issue_keep) ?_
  rintro args h k ⟨E, lv, W, most, e, now, rfl, few, r, s, H⟩
  refine ⟨W.length + 1, ?_⟩
  show e_Issue (tabC _) idG _ lv (.int .i64 (most : Int)) (eV e) (.int .i64 now) h _
  rw [e_Issue_eq]
  refine boxE_in rfl fun h1 c1 n1 o1 => ?_
  have o1 : h1.objs h.next = some (.cells (cellsE e) true) := o1
  unfold issF at H
  simp only [offV_ptr, Nat.zero_add, load_E3 o1, bindV_some, binV_lss, condK_bool, decide_eq_true_eq]
  by_cases a1 : e.2.2.2 < now
  · rw [if_pos a1] at H
    rw [if_pos a1]
    exact ⟨h1, St.le.refl _, H h1 lv c1 (s.chg0 c1).wid⟩
  rw [if_neg a1] at H
  rw [if_neg a1]
  simp only [idG_eq, offV_ptr, Nat.zero_add, load_E0 o1, bindV_some]
  refine cK (S := egetO) (by simp) ⟨E, lv, W, e.1, rfl, few, r, s.chg0 c1, fun h2 c2 => ?_⟩
  simp only [got0, got1, bindV_some]
  refine allocE_in fun h3 c3 n3 o3 => ?_
  refine put_E o3 rfl fun h4 c4 n4 o4 => ?_
  have m2 := c2.1
  have c12 := c1.seq c2
  have c14 : Chg h1 h4 [] := (c2.seq c3).new c4 (by omega)
  have c04 : Chg h h4 [] := c1.seq c14
  by_cases a2 : (getW W e.1).isSome = true
  · rw [if_pos a2] at H
    rw [condK_bool, if_pos a2]
    exact ⟨h4, St.le.refl _, H h4 lv c04 (s.chg0 c04).wid⟩
  rw [if_neg a2] at H
  rw [condK_bool, if_neg a2]
  have ge : decide ((W.length : Int) ≥ (most : Int)) = decide (most ≤ W.length) := decide_eq_decide.2 (by omega)
  simp only [idG_eq, OwnS.len s, binV_geq, bindV_some, ge, condK_bool, decide_eq_true_eq]
  by_cases a3 : most ≤ W.length
  · rw [if_pos a3] at H
    rw [if_pos a3]
    exact ⟨h4, St.le.refl _, H h4 lv c04 (s.chg0 c04).wid⟩
  rw [if_neg a3] at H
  rw [if_neg a3]
  have m4 := c04.1
  have m14 := c14.1
  refine eiss_l0 (h0 := h4) few (s.chg0 c04) (by omega) (c14.at0 (by omega) o1) (fun h' lv' c' o' => H h' lv' (c04.seq c') (OwnS.imp o' fun j _ hj => .inr (by omega))) W.length 0 _ h4 _ false [] (by omega) (by omega) (Chg.refl _ _) (.inl ⟨rfl, rfl, rfl⟩) ?_
  simp [restW]
/-! ### Spend -/
def espO : Abs.Spec := fun args h k => ∃ (E : Nat → Prop) (lv : Value) (W : List En) (n o w : Nat) (now : Int), args = [lv, .int .u64 (n : Int), .int .u32 (o : Int), .int .u32 (w : Int), .int .i64 now] ∧ W.length ≤ 10000 ∧ Rise W ∧ DlS E h lv W ∧
  ∀ h' lv', Chg h h' [] → DlS (fun j => E j ∨ h.next ≤ j) h' lv' (spdF W n o w now).1 → k (.tuple #[lv', .int .i64 ((spdF W n o w now).2 : Int)]) h'
theorem espO_good : SpecGood Try.prog (16, espO) := by
  refine spec_good mixed Try.func16 (by kernel_rfl) (by kernel_rfl) (tab := [(13, egetO), (18, ewoO)]) (by simp [egetO_good, ewoO_good]) (keep := e_Spend_keep) ?_
  rintro args h k ⟨E, lv, W, n, o, w, now, rfl, few, r, s, H⟩
  refine ⟨0, ?_⟩
  show e_Spend (tabC _) idG _ lv (.int .u64 (n : Int)) (.int .u32 (o : Int)) (.int .u32 (w : Int)) (.int .i64 now) h _
  rw [e_Spend_eq]
  refine cK (S := egetO) (by simp) ⟨E, lv, W, n, rfl, few, r, s, fun h1 c1 => ?_⟩
  simp only [got0, got1, bindV_some]
  refine allocE_in fun h2 c2 n2 o2 => ?_
  refine put_E o2 rfl fun h3 c3 n3 o3 => ?_
  have m1 := c1.1
  have c03 : Chg h h3 [] := (c1.seq c2).new c3 (by omega)
  cases hg : getW W n with
  | none =>
    unfold spdF at H
    rw [hg] at H
    simp only [Option.isSome_none, unV_not, Bool.not_false, bindV_some, condK_bool, if_true]
    exact ⟨h3, St.le.refl _, H h3 lv c03 (s.chg0 c03).wid⟩
  | some e =>
    rw [hg] at o3
    have o3 : h3.objs h1.next = some (.cells (cellsE e) true) := o3
    unfold spdF at H
    rw [hg] at H
    simp only [] at H
    simp only [Option.isSome_some, unV_not, Bool.not_true, bindV_some, condK_bool, Bool.false_eq_true, if_false, idG_eq, offV_ptr, Nat.zero_add, load_E1 o3, neN]
    have fin : ¬ (e.2.1 ≠ o ∨ e.2.2.1 ≠ w) → bindV (offV 3 (.pointer (some ⟨h1.next, 0, none⟩))) (fun v34 => bindV (loadV false 1 v34 h3) fun v35 => bindV (binV .lss .other v35 (.int .i64 now)) fun v37 => condK v37 (∃ h2, St.le h2 h3 ∧ k (.tuple #[lv, .int .i64 9]) h2) (idG (tabC [(13, egetO), (18, ewoO)] 18 [lv, .int .u64 (n : Int)] h3 fun v41 h8 => ∃ h2, St.le h2 h8 ∧ k (.tuple #[v41, .int .i64 0]) h2))) := fun ok => by
      rw [if_neg ok] at H
      simp only [offV_ptr, Nat.zero_add, load_E3 o3, bindV_some, binV_lss, condK_bool, decide_eq_true_eq]
      by_cases a1 : e.2.2.2 < now
      · rw [if_pos a1] at H
        rw [if_pos a1]
        exact ⟨h3, St.le.refl _, H h3 lv c03 (s.chg0 c03).wid⟩
      rw [if_neg a1] at H
      rw [if_neg a1]
      simp only [idG_eq]
      have m3 := c03.1
      exact cK (S := ewoO) (by simp) ⟨E, lv, W, n, rfl, few, s.chg0 c03, fun h' lv' c' o' => ⟨h', St.le.refl _, H h' lv' (c03.seq c') (OwnS.imp o' fun j _ hj => .inr (by omega))⟩⟩
    have bad : (e.2.1 ≠ o ∨ e.2.2.1 ≠ w) → ∃ h2, St.le h2 h3 ∧ k (.tuple #[lv, .int .i64 13]) h2 := fun b => by
      rw [if_pos b] at H
      exact ⟨h3, St.le.refl _, H h3 lv c03 (s.chg0 c03).wid⟩
    by_cases e1 : e.2.1 = o
    · simp only [decide_eq_true e1, Bool.not_true, groupK_eq, guardK_bool, if_true, offV_ptr, Nat.zero_add, load_E2 o3, neN, bindV_some, idG_eq, getT, pickV_bool, Bool.false_eq_true, if_false, condK_bool]
      by_cases e2 : e.2.2.1 = w
      · simp only [decide_eq_true e2, Bool.not_true, Bool.false_eq_true, if_false]
        exact fin (by simp [e1, e2])
      · simp only [decide_eq_false e2, Bool.not_false, if_true]
        exact bad (.inr e2)
    · simp only [decide_eq_false e1, Bool.not_false, groupK_eq, guardK_bool, Bool.true_eq_false, if_false, idG_eq, pickV_bool, if_true, bindV_some, condK_bool]
      exact bad (.inl e1)
end Go.Proofs.Ytdgonebknphkcaa
