/- A ledger: Issue, Spend, Revoke, Sweep. -/
import Derived.Test.YtdgonebknphkcaaLgA
set_option linter.unusedSimpArgs false
set_option linter.unusedVariables false
set_option maxHeartbeats 4000000
namespace Go.Proofs.Ytdgonebknphkcaa
open Go.Abs Go.IntWalk
attribute [local congr] bindV_weak condK_weak guardK_weak groupK_weak allocE_weak boxE_weak storeE_weak storeM_weak tabC_weak ite_weak idG_weak appendE_weak buildSliceE_weak mapUpdateE_weak deleteE_weak makeMapE_weak copyE_weak clearE_weak callE_weak

theorem unV_not (b : Bool) : unV .not (.bool b) = some (.bool (!b)) := rfl
theorem eqN (k : IntKind) (a b : Nat) : binV .eql .other (.int k (a : Int)) (.int k (b : Int)) = some (.bool (decide (a = b))) := by
  rw [binV_eql, show decide ((a : Int) = (b : Int)) = decide (a = b) from decide_eq_decide.2 (by omega)]
theorem neN (k : IntKind) (a b : Nat) : binV .neq .other (.int k (a : Int)) (.int k (b : Int)) = some (.bool (!decide (a = b))) := by
  rw [binV_neq, show decide ((a : Int) ≠ (b : Int)) = (!decide (a = b)) by by_cases h : a = b <;> simp [h]; omega]
def OutL (D : Nat → Prop) (h : St) : Nat → Prop := fun i => D i ∨ h.next ≤ i
theorem outL {D : Nat → Prop} {h h1 h2 : St} (c : ChgP (OutL D h) h h1) (d : ChgP (OutL D h1) h1 h2) : ChgP (OutL D h) h h2 :=
  c.trans d (fun _ _ h => h) fun i hi h => h.elim .inl fun h => absurd h (by have := c.1; omega)
/-- What one may do with a ledger. -/
theorem LdS.opens {D : Nat → Prop} {h : St} {v : Value} {most : Nat} {W : List En} (s : LdS D h v most W) : ∃ g m, v = .pointer (some ⟨g, 0, none⟩) ∧ g < h.next ∧
    (∀ h', Chg h h' [] → loadV false 1 (.pointer (some ⟨g, 0, none⟩)) h' = some (.map (some m)) ∧ loadV false 1 (.pointer (some ⟨g, 1, none⟩)) h' = some (.int .i64 (most : Int)) ∧ lenM (.map (some m)) h' = some (.int .i64 (W.length : Int)) ∧
      (∀ n : Nat, lookV (.int .u64) (.agg #[.int .u64 0, .int .u32 0, .int .u32 0, .int .i64 0]) true (.map (some m)) (.int .u64 (n : Int)) h' = some (gotE W n)) ∧
      ∀ n : Nat, lookV (.int .u64) (.agg #[.int .u64 0, .int .u32 0, .int .u32 0, .int .i64 0]) false (.map (some m)) (.int .u64 (n : Int)) h' = some (eV ((getW W n).getD zE))) ∧
    (∀ (n : Nat) (k : Cont), (∀ h', ChgP D h h' → h'.next = h.next → LdS D h' (.pointer (some ⟨g, 0, none⟩)) most (wout W n) → k undef h') → deleteE (.int .u64) (.map (some m)) (.int .u64 (n : Int)) h k) ∧
    ∀ (e : En) (k : Cont), big e.1 → getW W e.1 = none → W.length < most → (∀ h', ChgP D h h' → h'.next = h.next → LdS D h' (.pointer (some ⟨g, 0, none⟩)) most (insW W e) → k undef h') → mapUpdateE (.int .u64) (.map (some m)) (.int .u64 (e.1 : Int)) (eV e) h k := by
  obtain ⟨g, m, rfl, dg, gm, gn, og, f1, f2, f3, L, ma, p⟩ := s
  have dm := ma.1
  have ndL : (L.map fun x : En => x.1).Nodup := (p.map _).nodup_iff.2 (rise_nodup f1)
  refine ⟨g, m, rfl, gn, fun h' c => ⟨?_, ?_, ?_, fun n => lookLd (ma.chg c (by simp)) p f1 n, fun n => lookLd1 (ma.chg c (by simp)) p f1 n⟩, fun n k K => ?_, fun e k be no hl K => ?_⟩
  · simp only [loadV_ptr, c.at0 gn og, loadM_cells, partV_one, List.getElem?_cons_zero]
  · simp only [loadV_ptr, c.at0 gn og, loadM_cells, partV_one, List.getElem?_cons_succ, List.getElem?_cons_zero]
  · have := (ma.chg c (by simp)).at.len
    rw [p.length_eq] at this; exact this
  · refine MapB.del ma (p := pn n) (find_L n) (cmp_L n) (fun A x C h8 e1 e2 e3 c8 n8 ma8 => ?_) fun e1 => ?_
    · refine K h8 (c8.toP (by simp [dm])) n8 ⟨g, m, rfl, dg, gm, by omega, c8.at1 gn gm og, rise_out f1 n, fun x hx => f2 x ((List.mem_filter.1 hx).1), Nat.le_trans (List.length_filter_le ..) f3, A ++ C, ma8, ?_⟩
      rw [← out_split e1 e2 ndL]; exact p.filter _
    · refine K h (ChgP.refl _ _) rfl ⟨g, m, rfl, dg, gm, gn, og, rise_out f1 n, fun x hx => f2 x ((List.mem_filter.1 hx).1), Nat.le_trans (List.length_filter_le ..) f3, L, ma, ?_⟩
      have := p.filter fun x => !pn n x
      rw [show L.filter (fun x => !pn n x) = L from out_none e1] at this
      exact this
  · refine MapB.put ma (p := pn e.1) e (find_L e.1) (cmp_L e.1) (fun A x C h' e1 e2 e3 c' n' ma' => ?_) fun e1 h' c' n' ma' => ?_
    · have := (perm_get p f1 e.1).1 A x C e1 e2
      rw [no] at this; cases this
    · refine K h' (c'.toP (by simp [dm])) n' ⟨g, m, rfl, dg, gm, by omega, c'.at1 gn gm og, rise_ins f1 fun x hx => get_none.1 no x hx, fun x hx => ?_, by rw [ins_len]; omega, L ++ [e], ma', ?_⟩
      · rcases ins_mem.1 hx with rfl | hx
        · exact be
        · exact f2 x hx
      · refine (p.append_right [e]).trans (List.perm_append_comm.trans ?_)
        exact (ins_perm e W).symm
theorem got0 (W : List En) (n : Nat) : extV 0 (gotE W n) = some (eV ((getW W n).getD zE)) := rfl
theorem got1 (W : List En) (n : Nat) : extV 1 (gotE W n) = some (.bool (getW W n).isSome) := rfl
/-! ### Issue -/
def lissO : Abs.Spec := fun args h k => ∃ (D : Nat → Prop) (v : Value) (most : Nat) (W : List En) (e : En) (now : Int), args = [v, eV e, .int .i64 now] ∧ big e.1 ∧ LdS D h v most W ∧
  ∀ h', ChgP (OutL D h) h h' → LdS D h' v most (issF W most e now).1 → k (.int .i64 ((issF W most e now).2 : Int)) h'
theorem lissO_good : SpecGood Try.prog (8, lissO) := by
  refine spec_good mixed Try.func8 (by kernel_rfl) (by kernel_rfl) (tab := [(23, loldO)]) (by simp [loldO_good]) (keep := l_Issue_keep) ?_
  rintro args h k ⟨D, v, most, W, e, now, rfl, be, s, H⟩
  refine ⟨0, ?_⟩
  show l_Issue (tabC _) idG 0 v (eV e) (.int .i64 now) h _
  rw [l_Issue_eq]
  refine boxE_in rfl fun h1 c1 n1 o1 => ?_
  have o1 : h1.objs h.next = some (.cells (cellsE e) true) := o1
  rw [isNil_no s.ptr]
  obtain ⟨g, m, rfl, gn, ld, _, _⟩ := s.opens
  have lb : ∀ h', Chg h1 h' [] → h'.objs h.next = some (.cells (cellsE e) true) := fun h' c => c.at0 (by omega) o1
  obtain ⟨l1, l2, l3, l4, _⟩ := ld h1 c1
  simp only [bindV_some, condK_bool, Bool.false_eq_true, if_false, idG_eq, nilV, offV_ptr, Nat.zero_add, l1]
  refine ⟨trivial, ?_⟩
  simp only [load_E0 o1, bindV_some]
  refine ⟨trivial, ?_⟩
  simp only [l4, bindV_some]
  refine ⟨trivial, ?_⟩
  simp only [got0, got1, bindV_some]
  refine allocE_in fun h2 c2 n2 o2 => ⟨⟨(ld h2 (c1.seq c2)).2.2.2.1 e.1, load_E0 (lb h2 c2), (ld h2 (c1.seq c2)).1, trivial⟩, ?_⟩
  refine put_E o2 rfl fun h3 c3 n3 o3 => ⟨⟨trivial, trivial, trivial, trivial⟩, ?_⟩
  have c13 : Chg h1 h3 [] := c2.new c3 (by omega)
  have c03 : Chg h h3 [] := c1.seq c13
  simp only [load_E (lb h3 c13), bindV_some]
  refine cK (S := loldO) (by simp) ⟨e, now, rfl, fun h4 c4 => ?_⟩
  have c14 := c13.seq c4
  have c04 := c03.seq c4
  have ch : ChgP (OutL D h) h h4 := c04.nil _
  unfold issF at H
  simp only [condK_bool, decide_eq_true_eq]
  by_cases a1 : e.2.2.2 < now
  · rw [if_pos a1] at H
    rw [if_pos a1]
    exact ⟨h4, St.le.refl _, H h4 ch (s.chg0 c04)⟩
  rw [if_neg a1] at H
  rw [if_neg a1]
  by_cases a2 : (getW W e.1).isSome = true
  · rw [if_pos a2] at H
    rw [condK_bool, if_pos a2]
    exact ⟨h4, St.le.refl _, H h4 ch (s.chg0 c04)⟩
  rw [if_neg a2] at H
  rw [condK_bool, if_neg a2]
  obtain ⟨l1, l2, l3, l4, _⟩ := ld h4 c04
  simp only [nilV, offV_ptr, Nat.zero_add, bindV_some, l1]
  refine ⟨trivial, ?_⟩
  simp only [l3, bindV_some]
  refine ⟨trivial, ?_⟩
  simp only [nilV, offV_ptr, Nat.zero_add, bindV_some, l2]
  refine ⟨trivial, ?_⟩
  have ge : decide ((W.length : Int) ≥ (most : Int)) = decide (most ≤ W.length) := decide_eq_decide.2 (by omega)
  simp only [binV_geq, bindV_some, ge, condK_bool, decide_eq_true_eq]
  by_cases a3 : most ≤ W.length
  · rw [if_pos a3] at H
    rw [if_pos a3]
    exact ⟨h4, St.le.refl _, H h4 ch (s.chg0 c04)⟩
  rw [if_neg a3] at H
  rw [if_neg a3]
  simp only [idG_eq, nilV, offV_ptr, Nat.zero_add, bindV_some, l1]
  refine ⟨trivial, ?_⟩
  simp only [load_E0 (lb h4 c14), bindV_some]
  refine ⟨trivial, ?_⟩
  simp only [load_E (lb h4 c14), bindV_some]
  refine ⟨trivial, ?_⟩
  obtain ⟨g', m', eg, gn', ld', _, up⟩ := (s.chg0 c04).opens
  simp only [Value.pointer.injEq, Option.some.injEq, Addr.mk.injEq, and_true] at eg
  subst eg
  have em := (ld' h4 (Chg.refl _ _)).1
  rw [l1] at em
  simp only [Option.some.injEq, Value.map.injEq] at em
  subst em
  refine up e _ be (by cases x : getW W e.1 with | none => rfl | some y => rw [x] at a2; exact absurd rfl a2) (by omega) fun h5 c5 n5 s5 => ⟨⟨trivial, trivial, trivial, trivial⟩, ?_⟩
  exact ⟨h5, St.le.refl _, H h5 (outL ch (c5.mono fun _ _ h => .inl h)) s5⟩
/-! ### Spend -/
def lspdO : Abs.Spec := fun args h k => ∃ (D : Nat → Prop) (v : Value) (most : Nat) (W : List En) (n o w : Nat) (now : Int), args = [v, .int .u64 (n : Int), .int .u32 (o : Int), .int .u32 (w : Int), .int .i64 now] ∧ LdS D h v most W ∧
  ∀ h', ChgP (OutL D h) h h' → LdS D h' v most (spdF W n o w now).1 → k (.int .i64 ((spdF W n o w now).2 : Int)) h'
theorem lspdO_good : SpecGood Try.prog (9, lspdO) := by
  refine spec_good mixed Try.func9 (by kernel_rfl) (by kernel_rfl) (tab := [(12, lgetO), (23, loldO)]) (by simp [lgetO_good, loldO_good]) (keep := l_Spend_keep) ?_
  rintro args h k ⟨D, v, most, W, n, o, w, now, rfl, s, H⟩
  refine ⟨0, ?_⟩
  show l_Spend (tabC _) idG 0 v (.int .u64 (n : Int)) (.int .u32 (o : Int)) (.int .u32 (w : Int)) (.int .i64 now) h _
  rw [l_Spend_eq]
  refine cK (S := lgetO) (by simp) ⟨D, v, most, W, n, rfl, s, fun h1 c1 => ?_⟩
  simp only [got0, got1, bindV_some]
  refine allocE_in fun h2 c2 n2 o2 => ?_
  refine put_E o2 rfl fun h3 c3 n3 o3 => ?_
  have c03 : Chg h h3 [] := (c1.seq c2).new c3 (by have := c1.1; omega)
  have m1 := c1.1
  cases hg : getW W n with
  | none =>
    unfold spdF at H
    rw [hg] at H
    simp only [Option.isSome_none, unV_not, Bool.not_false, bindV_some, condK_bool, if_true]
    exact ⟨h3, St.le.refl _, H h3 (c03.nil _) (s.chg0 c03)⟩
  | some e =>
    rw [hg] at o3
    have o3 : h3.objs h1.next = some (.cells (cellsE e) true) := o3
    unfold spdF at H
    rw [hg] at H
    simp only [] at H
    simp only [Option.isSome_some, unV_not, Bool.not_true, bindV_some, condK_bool, Bool.false_eq_true, if_false, offV_ptr, Nat.zero_add, load_E1 o3, neN]
    have fin : ¬ (e.2.1 ≠ o ∨ e.2.2.1 ≠ w) → bindV (loadV true 4 (.pointer (some ⟨h1.next, 0, none⟩)) h3) (fun v34 => tabC [(12, lgetO), (23, loldO)] 23 [v34, .int .i64 now] h3 fun v36 h8 => condK v36 (∃ h2, St.le h2 h8 ∧ k (.int .i64 9) h2) (idG (bindV (nilV v) fun v38 => bindV (offV 0 v38) fun v39 => bindV (loadV false 1 v39 h8) fun v40 => deleteE (.int .u64) v40 (.int .u64 (n : Int)) h8 fun _ h10 => ∃ h2, St.le h2 h10 ∧ k (.int .i64 0) h2))) := fun ok => by
      rw [if_neg ok] at H
      simp only [load_E o3, bindV_some]
      refine cK (S := loldO) (by simp) ⟨e, now, rfl, fun h4 c4 => ?_⟩
      have c04 := c03.seq c4
      simp only [condK_bool, decide_eq_true_eq]
      by_cases a1 : e.2.2.2 < now
      · rw [if_pos a1] at H
        rw [if_pos a1]
        exact ⟨h4, St.le.refl _, H h4 (c04.nil _) (s.chg0 c04)⟩
      rw [if_neg a1] at H
      rw [if_neg a1]
      obtain ⟨g, m, rfl, gn, ld, del, _⟩ := (s.chg0 c04).opens
      simp only [idG_eq, nilV, offV_ptr, Nat.zero_add, bindV_some, (ld h4 (Chg.refl _ _)).1]
      refine del n _ fun h5 c5 n5 s5 => ⟨h5, St.le.refl _, H h5 (outL (c04.nil _) (c5.mono fun _ _ h => .inl h)) s5⟩
    have bad : (e.2.1 ≠ o ∨ e.2.2.1 ≠ w) → ∃ h2, St.le h2 h3 ∧ k (.int .i64 13) h2 := fun b => by
      rw [if_pos b] at H
      exact ⟨h3, St.le.refl _, H h3 (c03.nil _) (s.chg0 c03)⟩
    by_cases e1 : e.2.1 = o
    · simp only [decide_eq_true e1, Bool.not_true, groupK_eq, guardK_bool, if_true, offV_ptr, Nat.zero_add, load_E2 o3, neN, bindV_some, idG_eq, getT, pickV_bool, Bool.false_eq_true, if_false, condK_bool]
      by_cases e2 : e.2.2.1 = w
      · simp only [decide_eq_true e2, Bool.not_true, Bool.false_eq_true, if_false]
        exact fin (by simp [e1, e2])
      · simp only [decide_eq_false e2, Bool.not_false, if_true]
        exact bad (.inr e2)
    · simp only [decide_eq_false e1, Bool.not_false, groupK_eq, guardK_bool, Bool.true_eq_false, if_false, idG_eq, pickV_bool, if_true, bindV_some, condK_bool]
      exact bad (.inl e1)
/-! ### Revoke -/
def wouts (W : List En) (R : List Nat) : List En := W.filter fun x => !decide (x.1 ∈ R)
theorem wouts_nil (W : List En) : wouts W [] = W := by unfold wouts; simp
theorem wouts_snoc (W : List En) (R : List Nat) (n : Nat) : wout (wouts W R) n = wouts W (R ++ [n]) := by
  unfold wout wouts
  rw [List.filter_filter]
  congr 1
  funext x
  unfold pn
  by_cases h1 : n = x.1
  · simp [h1]
  · have : ¬ x.1 = n := fun e => h1 e.symm
    simp [h1, this]
theorem own_n {D : Nat → Prop} {h0 : St} {v : Value} {L : List Nat} (s : OwnN D h0 v L) {i : Nat} (hi : i < L.length) (k : IntKind) :
    ∃ b o, idxS 1 v (.int k i) = some (.pointer (some ⟨b, o, none⟩)) ∧ ∀ h, Chg h0 h [] → loadV false 1 (.pointer (some ⟨b, o, none⟩)) h = some (idn L[i]) := by
  have s' : OwnS D h0 v 1 (L.flatMap fun x => [idn x]) L.length := by
    have : (L.flatMap fun x => [idn x]) = L.map idn := by
      clear s hi
      induction L with
      | nil => rfl
      | cons x L ih => rw [List.flatMap_cons, ih, List.map_cons]; rfl
    rw [this]; exact s
  obtain ⟨b, o, g1, g2, g3, cs, g4, g5⟩ := s'.row (by simp) (List.getElem?_eq_getElem hi) k
  refine ⟨b, o, g1, fun h c => ?_⟩
  have := row_cell g5 0 (by omega)
  simp only [Nat.add_zero, List.getElem?_cons_zero] at this
  simp only [loadV_ptr, c.at0 g3 g4, loadM_cells, partV_one, this]
def lrevO : Abs.Spec := fun args h k => ∃ (D B : Nat → Prop) (v sl : Value) (most : Nat) (W : List En) (R : List Nat), args = [v, sl] ∧ most ≤ 1000 ∧ R.length ≤ 1000 ∧ (∀ j, D j → ¬ B j) ∧ LdS D h v most W ∧ OwnN B h sl R ∧
  ∀ h', ChgP (OutL D h) h h' → LdS D h' v most (wouts W R) → k (.int .i64 ((W.length - (wouts W R).length : Nat) : Int)) h'
theorem lrev_l0 {nn most : Nat} {v x4 sl : Value} {D B : Nat → Prop} {W : List En} {R : List Nat} {h0 : St} {k : Cont} (hm : most ≤ 1000) (fr : R.length ≤ 1000) (db : ∀ j, D j → ¬ B j) (wl : W.length ≤ most)
    (H : ∀ h', ChgP (OutL D h0) h0 h' → LdS D h' v most (wouts W R) → k (.int .i64 ((W.length - (wouts W R).length : Nat) : Int)) h') :
    ∀ (d i m0 : Nat) (h : St), i + d = R.length → d < m0 → ChgP (OutL D h0) h0 h → OwnN (fun j => B j ∧ j < h0.next) h sl R → LdS D h v most (wouts W (R.take i)) →
      l_Revoke_l0 (tabC [(12, lgetO)]) idG nn m0 v x4 (.int .i64 ((W.length - (wouts W (R.take i)).length : Nat) : Int)) sl (.int .i64 (R.length : Int)) (.int .i64 (i : Int)) h (fun v h1 => ∃ h2, St.le h2 h1 ∧ k v h2) := by
  intro d
  induction d with
  | zero =>
    intro i m0 h hi hm0 c o s
    obtain ⟨m0, rfl⟩ : ∃ m, m0 = m + 1 := ⟨m0 - 1, by omega⟩
    rw [l_Revoke_l0_eq]
    have e' : i = R.length := by omega
    subst e'
    rw [List.take_length] at s
    simp only [bindV_some, binV_lss, condK_bool, Int.lt_irrefl, decide_false, Bool.false_eq_true, if_false, idG_eq, List.take_length]
    rw [l_Revoke_j2_eq]
    exact ⟨h, St.le.refl _, H h c s⟩
  | succ d ih =>
    intro i m0 h hi hm0 c o s
    obtain ⟨m0, rfl⟩ : ∃ m, m0 = m + 1 := ⟨m0 - 1, by omega⟩
    rw [l_Revoke_l0_eq]
    have hlt : (i : Int) < R.length := by omega
    have inc : IntKind.i64.wrap ((i : Int) + 1) = ((i + 1 : Nat) : Int) := by rw [i64_in _ (by omega)]; omega
    obtain ⟨b, oo, g1, g2⟩ := own_n o (show i < R.length by omega) .i64
    have tak : R.take (i + 1) = R.take i ++ [R[i]] := List.take_succ_eq_append_getElem (by omega)
    obtain ⟨n, en⟩ : ∃ n, n = R[i]'(by omega) := ⟨_, rfl⟩
    rw [← en] at g2 tak
    have g2 : loadV false 1 (.pointer (some ⟨b, oo, none⟩)) h = some (.int .u64 (n : Int)) := g2 h (Chg.refl _ _)
    obtain ⟨U, eU⟩ : ∃ U, U = wouts W (R.take i) := ⟨_, rfl⟩
    have eU' : wout U n = wouts W (R.take (i + 1)) := by rw [eU, wouts_snoc, tak]
    have lU : U.length ≤ W.length := by rw [eU]; exact List.length_filter_le ..
    rw [← eU] at s
    rw [← eU]
    have ol := out_len s.rise n
    simp only [bindV_some, binV_lss, condK_bool, hlt, decide_true, if_true, idG_eq, g1, g2]
    refine cK (S := lgetO) (by simp) ⟨D, v, most, U, n, rfl, s, fun h1 c1 => ?_⟩
    simp only [got0, got1, bindV_some]
    refine allocE_in fun h2 c2 n2 o2 => ?_
    refine put_E o2 rfl fun h3 c3 n3 o3 => ?_
    have m1 := c1.1
    have mc := c.1
    have c03 : Chg h h3 [] := (c1.seq c2).new c3 (by omega)
    have s3 := s.chg0 c03
    have m3 := c03.1
    simp only [condK_bool]
    by_cases hs : (getW U n).isSome = true
    · rw [if_pos hs]
      rw [if_pos hs] at ol
      obtain ⟨g, m, rfl, gn, ld, del, _⟩ := s3.opens
      simp only [idG_eq, nilV, offV_ptr, Nat.zero_add, bindV_some, (ld h3 (Chg.refl _ _)).1]
      refine del n _ fun h4 c4 n4 s4 => ?_
      have inc2 : IntKind.i64.wrap (((W.length - U.length : Nat) : Int) + 1) = ((W.length - (wout U n).length : Nat) : Int) := by rw [i64_in _ (by omega)]; omega
      simp only [binNil_int, binV_add, bindV_some, inc2, idG_eq]
      rw [l_Revoke_j1_eq]
      simp only [binNil_int, binV_add, bindV_some, inc, idG_eq]
      rw [eU'] at s4 ⊢
      refine ih (i + 1) m0 h4 (by omega) (by omega) (outL (c.seq c03) (c4.mono fun _ _ h => .inl h)) ?_ s4
      exact OwnS.chgP (OwnS.chg o c03 (by simp)) c4 fun j h1 h2 => db j h1 h2.1
    · rw [if_neg hs]
      rw [if_neg hs] at ol
      simp only [idG_eq]
      rw [l_Revoke_j1_eq]
      simp only [binNil_int, binV_add, bindV_some, inc, idG_eq]
      have no : getW U n = none := by
        cases x : getW U n with
        | none => rfl
        | some y => rw [x] at hs; exact absurd rfl hs
      have e2 : wout U n = U := out_none fun x hx => pn_no.2 fun e => get_none.1 no x hx e.symm
      rw [e2] at eU'
      rw [eU'] at s3 ⊢
      exact ih (i + 1) m0 h3 (by omega) (by omega) (c.seq c03) (OwnS.chg o c03 (by simp)) s3
theorem lrevO_good : SpecGood Try.prog (17, lrevO) := by
  refine spec_good mixed Try.func17 (by kernel_rfl) (by kernel_rfl) (tab := [(12, lgetO)]) (by simp [lgetO_good]) (keep := l_Revoke_keep) ?_
  rintro args h k ⟨D, B, v, sl, most, W, R, rfl, hm, fr, db, s, o, H⟩
  refine ⟨R.length + 1, ?_⟩
  show l_Revoke (tabC _) idG _ v sl h _
  rw [l_Revoke_eq]
  simp only [OwnS.len o, bindV_some, idG_eq]
  have := lrev_l0 (nn := R.length + 1) (x4 := .int .i64 0) (sl := sl) (W := W) hm fr db s.len H R.length 0 (R.length + 1) h (by omega) (by omega) (ChgP.refl _ _) (OwnS.imp o fun j hj hb => ⟨hb, hj⟩) (by rw [List.take_zero, wouts_nil]; exact s)
  rw [List.take_zero, wouts_nil, Nat.sub_self] at this
  exact this
/-! ### Sweep -/
def oldE (now : Int) (x : En) : Bool := decide (x.2.2.2 < now)
theorem swp_outs {W : List En} (r : Rise W) (now : Int) : wouts W (keysW (W.filter (oldE now))) = swp W now := by
  unfold wouts swp
  refine List.filter_congr fun x hx => ?_
  have : decide (x.1 ∈ keysW (W.filter (oldE now))) = oldE now x := by
    cases ho : oldE now x with
    | true =>
      refine decide_eq_true ?_
      unfold keysW
      exact List.mem_map.2 ⟨x, List.mem_filter.2 ⟨hx, ho⟩, rfl⟩
    | false =>
      refine decide_eq_false fun hm => ?_
      unfold keysW at hm
      obtain ⟨y, hy, e⟩ := List.mem_map.1 hm
      obtain ⟨h1, h2⟩ := List.mem_filter.1 hy
      rw [rise_one r h1 hx e] at h2
      rw [ho] at h2; cases h2
  rw [this]
  unfold oldE
  by_cases h : x.2.2.2 < now
  · rw [decide_eq_true h, decide_eq_false (by omega)]; rfl
  · rw [decide_eq_false h, decide_eq_true (by omega)]; rfl
def lswpO : Abs.Spec := fun args h k => ∃ (D : Nat → Prop) (v : Value) (most : Nat) (W : List En) (now : Int), args = [v, .int .i64 now] ∧ most ≤ 255 ∧ (∀ j, D j → j < h.next) ∧ LdS D h v most W ∧
  ∀ h', ChgP (OutL D h) h h' → LdS D h' v most (swp W now) → k (.int .i64 ((W.length - (swp W now).length : Nat) : Int)) h'
def tabSw : List (FuncId × Abs.Spec) := [(11, lnonO), (23, loldO), (17, lrevO)]
theorem tabSw_good : ∀ p ∈ tabSw, SpecGood Try.prog p := by simp [tabSw, lnonO_good, loldO_good, lrevO_good]
theorem push_n {n0 : Nat} {h : St} {v : Value} {L : List Nat} {x : Nat} {k : Cont} (hn : n0 ≤ h.next) (s : OwnN (fun i => n0 ≤ i) h v L) (few : L.length ≤ 100000)
    (hk : ∀ h' v', ChgP (fun i => n0 ≤ i) h h' → OwnN (fun i => n0 ≤ i) h' v' (L ++ [x]) → k v' h') : buildSliceE 1 1 [.int .u64 0] [(0 * 1, 1, .int .u64 (x : Int))] h fun v2 h2 => appendE 1 8 v v2 h2 k := by
  refine append_row (B := fun i => n0 ≤ i) (fun j hj => by omega) s rfl rfl rfl rfl (by omega) (by omega) fun h5 out5 c5 s5 => hk h5 out5 c5 ?_
  unfold OwnN; rw [List.map_append, List.length_append]; exact s5
theorem lswp_l0 {nn most n1 : Nat} {v x4 sv : Value} {now : Int} {D : Nat → Prop} {W : List En} {h0 : St} {k : Cont} (hm : most ≤ 255) (db : ∀ j, D j → j < h0.next) (hn1 : h0.next ≤ n1)
    (H : ∀ h', ChgP (OutL D h0) h0 h' → LdS D h' v most (swp W now) → k (.int .i64 ((W.length - (swp W now).length : Nat) : Int)) h') :
    ∀ (d i m0 : Nat) (h : St) (out : Value), i + d = W.length → d < m0 → Chg h0 h [] → n1 ≤ h.next → OwnN (fun j => h0.next ≤ j ∧ j < n1) h sv (keysW W) → LdS D h v most W → OwnN (fun j => n1 ≤ j) h out (keysW ((W.take i).filter (oldE now))) →
      l_Sweep_l0 (tabC tabSw) idG nn m0 v (.int .i64 now) x4 out sv (.int .i64 (W.length : Int)) (.int .i64 (i : Int)) h (fun v h1 => ∃ h2, St.le h2 h1 ∧ k v h2) := by
  intro d
  induction d with
  | zero =>
    intro i m0 h out hi hm0 c hn o s q
    obtain ⟨m0, rfl⟩ : ∃ m, m0 = m + 1 := ⟨m0 - 1, by omega⟩
    rw [l_Sweep_l0_eq]
    have e' : i = W.length := by omega
    subst e'
    rw [List.take_length] at q
    simp only [bindV_some, binV_lss, condK_bool, Int.lt_irrefl, decide_false, Bool.false_eq_true, if_false, idG_eq]
    rw [l_Sweep_j2_eq]
    have wl := s.len
    refine cK (S := lrevO) (by simp [tabSw]) ⟨D, _, v, out, most, W, _, rfl, by omega, ?_, fun j h1 h2 => ?_, s, q, fun h1 c1 s1 => ?_⟩
    · unfold keysW; rw [List.length_map]
      exact Nat.le_trans (List.length_filter_le ..) (by omega)
    · have := db j h1; omega
    · rw [swp_outs s.rise] at s1 ⊢
      exact ⟨h1, St.le.refl _, H h1 (outL (c.nil _) c1) s1⟩
  | succ d ih =>
    intro i m0 h out hi hm0 c hn o s q
    obtain ⟨m0, rfl⟩ : ∃ m, m0 = m + 1 := ⟨m0 - 1, by omega⟩
    rw [l_Sweep_l0_eq]
    have hlt : (i : Int) < W.length := by omega
    have wl := s.len
    have inc : IntKind.i64.wrap ((i : Int) + 1) = ((i + 1 : Nat) : Int) := by rw [i64_in _ (by omega)]; omega
    obtain ⟨b, oo, g1, g2⟩ := own_n o (show i < (keysW W).length by unfold keysW; rw [List.length_map]; omega) .i64
    have tak : W.take (i + 1) = W.take i ++ [W[i]] := List.take_succ_eq_append_getElem (by omega)
    have ek : (keysW W)[i]'(by unfold keysW; rw [List.length_map]; omega) = (W[i]'(by omega)).1 := by unfold keysW; rw [List.getElem_map]
    rw [ek] at g2
    have hx : W[i]'(by omega) ∈ W := List.getElem_mem _
    obtain ⟨x, ex⟩ : ∃ x, x = W[i]'(by omega) := ⟨_, rfl⟩
    rw [← ex] at g2 tak hx
    have g2 : loadV false 1 (.pointer (some ⟨b, oo, none⟩)) h = some (.int .u64 (x.1 : Int)) := g2 h (Chg.refl _ _)
    obtain ⟨g, m, ev, gn, ld, _, _⟩ := s.opens
    obtain ⟨l1, _, _, _, l5⟩ := ld h (Chg.refl _ _)
    have lx := l5 x.1
    rw [get_mem s.rise hx] at lx
    simp only [bindV_some, binV_lss, condK_bool, hlt, decide_true, if_true, idG_eq, g1, g2, ev, nilV, offV_ptr, Nat.zero_add, l1, lx]
    refine cK (S := loldO) (by simp [tabSw]) ⟨x, now, rfl, fun h1 c1 => ?_⟩
    have c01 := c.seq c1
    have m1 := c1.1
    have o1 : OwnN (fun j => h0.next ≤ j ∧ j < n1) h1 sv (keysW W) := OwnS.chg o c1 (by simp)
    have s1 := s.chg0 c1
    have q1 : OwnN (fun j => n1 ≤ j) h1 out (keysW ((W.take i).filter (oldE now))) := OwnS.chg q c1 (by simp)
    simp only [condK_bool, decide_eq_true_eq]
    by_cases a : x.2.2.2 < now
    · rw [if_pos a]
      have fl : (keysW ((W.take i).filter (oldE now))).length ≤ 1000 := by
        unfold keysW; rw [List.length_map]
        refine Nat.le_trans (List.length_filter_le ..) ?_
        rw [List.length_take]; omega
      refine push_n (x := x.1) (by omega) q1 (by omega) fun h2 out2 c2 q2 => ?_
      simp only [idG_eq]
      rw [l_Sweep_j1_eq]
      simp only [binNil_int, binV_add, bindV_some, inc, idG_eq]
      have m2 := c2.1
      refine ih (i + 1) m0 h2 out2 (by omega) (by omega) (((c01.nil (fun j => n1 ≤ j)).step c2).list fun j h1 h2 => by omega) (by omega) (OwnS.chgP o1 c2 fun j h1 h2 => by omega) (s1.chgP c2 fun j h1 h2 => by have := db j h2; omega) ?_
      rw [tak, List.filter_append, List.filter_cons_of_pos (by unfold oldE; exact decide_eq_true a), List.filter_nil]
      unfold keysW at q2 ⊢
      rw [List.map_append]
      exact q2
    · rw [if_neg a]
      simp only [idG_eq]
      rw [l_Sweep_j1_eq]
      simp only [binNil_int, binV_add, bindV_some, inc, idG_eq]
      refine ih (i + 1) m0 h1 out (by omega) (by omega) c01 (by omega) o1 s1 ?_
      rw [tak, List.filter_append, List.filter_cons_of_neg (by unfold oldE; simp; omega), List.filter_nil, List.append_nil]
      exact q1
theorem lswpO_good : SpecGood Try.prog (19, lswpO) := by
  refine spec_good mixed Try.func19 (by kernel_rfl) (by kernel_rfl) (tab := tabSw) tabSw_good (keep := l_Sweep_keep) ?_
  rintro args h k ⟨D, v, most, W, now, rfl, hm, db, s, H⟩
  refine ⟨W.length + 1, ?_⟩
  show l_Sweep (tabC _) idG _ v (.int .i64 now) h _
  rw [l_Sweep_eq]
  refine cK (S := lnonO) (by simp [tabSw]) ⟨D, v, most, W, rfl, by omega, s, fun h1 sv c1 o1 => ?_⟩
  have e : (keysW W).length = W.length := by unfold keysW; rw [List.length_map]
  simp only [OwnS.len o1, e, bindV_some, idG_eq]
  have m1 := c1.1
  exact lswp_l0 (n1 := h1.next) hm db m1 H W.length 0 _ h1 _ (by omega) (by omega) c1 (Nat.le_refl _) (OwnS.imp o1 fun j hj hb => ⟨hb, hj⟩) (s.chg0 c1) (.inl ⟨rfl, rfl, rfl⟩)
end Go.Proofs.Ytdgonebknphkcaa
