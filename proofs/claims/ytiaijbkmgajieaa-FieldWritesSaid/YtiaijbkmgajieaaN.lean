/- Fields that are alike; the document's numbers. -/
import Derived.Test.YtiaijbkmgajieaaM
set_option linter.unusedSimpArgs false
set_option linter.unusedVariables false
set_option maxHeartbeats 4000000
namespace Go.Proofs.Ytiaijbkmgajieaa
open Go.Abs Go.IntWalk

@[simp] theorem binV_text_ne (s : Shp) (a b : ByteArray) : binV .neq s (.string a) (.string b) = some (.bool (!(a.toList == b.toList))) := by simp [binV, isShift, textV]
theorem inc {i : Nat} (h : i ≤ 1000000) : IntKind.i64.wrap ((i : Int) + 1) = ((i + 1 : Nat) : Int) := by rw [i64_in _ (by omega)]; omega
section same
variable {V V' : Nat → Prop} {h : St} {pa pb nn : Nat} {vN vS vL wN wS wL x4 : Value} {lv lw : Nat → Value} {N : List Nat} {S : List ByteArray} {L : List (List Nat)} {K : Cont}
theorem same_l5 (hA : h.objs pa = some (.cells [vN, vS, vL] true)) (hB : h.objs pb = some (.cells [wN, wS, wL] true)) (F : FieldsAt V h vN vS vL lv N S L) (G : FieldsAt V' h wN wS wL lw N S L) {i : Nat} {l : List Nat} (hi : L[i]? = some l) (hl : l.length ≤ 1000) {m0 : Nat} {x5 x6 : Value}
    (H : tiltyardref01_Same_j7 (tabC []) idG nn m0 (ptr pa) (ptr pb) x4 x5 x6 (.int .i64 i) (.int .i64 l.length) h K) : ∀ (d j m1 : Nat), j + d = l.length → d < m1 → tiltyardref01_Same_l5 (tabC []) idG nn m0 m1 (ptr pa) (ptr pb) x4 x5 x6 (.int .i64 i) (.int .i64 j) h K := by
  have hiL : i < L.length := (List.getElem?_eq_some_iff.1 hi).1
  have hiI : (i : Int) < L.length := by omega
  obtain ⟨b, o, g1, g2, g3, cs, own, g4, g5⟩ := F.2.2.1.idx (Int.natCast_nonneg i) hiI .i64
  have g6 := takeN_get g5 (j := 0) (by omega)
  simp at g6
  obtain ⟨b', o', g1', g2', g3', cs', own', g4', g5'⟩ := G.2.2.1.idx (Int.natCast_nonneg i) hiI .i64
  have g6' := takeN_get g5' (j := 0) (by omega)
  simp at g6'
  have sl := F.2.2.2 i l hi
  have sr := G.2.2.2 i l hi
  intro d
  induction d with
  | zero =>
    intro j m1 hj hm
    obtain ⟨m1, rfl⟩ : ∃ m, m1 = m + 1 := ⟨m1 - 1, by omega⟩
    rw [tiltyardref01_Same_l5_eq]
    have e : j = l.length := by omega
    subst e
    simp only [ptr] at *
    simp only [offV_ptr, loadV_ptr, hA, loadM_cells, partV_one, Nat.zero_add, List.getElem?_cons_succ, List.getElem?_cons_zero, bindV_some, g1, g4, g6, sl.len, binV_lss, condK_bool, Int.lt_irrefl, decide_false, Bool.false_eq_true, if_false, idG_eq]
    exact H
  | succ d ih =>
    intro j m1 hj hm
    obtain ⟨m1, rfl⟩ : ∃ m, m1 = m + 1 := ⟨m1 - 1, by omega⟩
    rw [tiltyardref01_Same_l5_eq]
    have hlt : (j : Int) < l.length := by omega
    obtain ⟨c, p, k1, k2, k3, ds, ow, k4, k5⟩ := sl.idx (Int.natCast_nonneg j) hlt .i64
    have k6 := takeN_get k5 (j := 0) (by omega)
    simp [rowU] at k6
    obtain ⟨c', p', k1', k2', k3', ds', ow', k4', k5'⟩ := sr.idx (Int.natCast_nonneg j) hlt .i64
    have k6' := takeN_get k5' (j := 0) (by omega)
    simp [rowU] at k6'
    have ihh := ih (j + 1) m1 (by omega) (by omega)
    simp only [ptr] at *
    simp only [offV_ptr, loadV_ptr, hA, hB, loadM_cells, partV_one, Nat.zero_add, List.getElem?_cons_succ, List.getElem?_cons_zero, bindV_some, g1, g4, g6, g1', g4', g6', sl.len, binV_lss, condK_bool, hlt, decide_true, if_true, idG_eq, k1, k4, k6, k1', k4', k6', binV_neq, ne_eq, not_true_eq_false, decide_false, Bool.false_eq_true, if_false, true_and, binNil_int, binV_add, inc (show j ≤ 1000000 by omega)]
    exact ihh
theorem same_l4 (hA : h.objs pa = some (.cells [vN, vS, vL] true)) (hB : h.objs pb = some (.cells [wN, wS, wL] true)) (F : FieldsAt V h vN vS vL lv N S L) (G : FieldsAt V' h wN wS wL lw N S L) (hL : L.length ≤ 1000) (hl : ∀ l ∈ L, l.length ≤ 1000) (H : K (.bool true) h) {x5 x6 : Value} :
    ∀ (d i m0 : Nat) (x8 : Value), i + d = L.length → d + 1001 < m0 → tiltyardref01_Same_l4 (tabC []) idG nn m0 (ptr pa) (ptr pb) x4 x5 x6 (.int .i64 i) x8 h K := by
  intro d
  induction d with
  | zero =>
    intro i m0 x8 hi hm
    obtain ⟨m0, rfl⟩ : ∃ m, m0 = m + 1 := ⟨m0 - 1, by omega⟩
    rw [tiltyardref01_Same_l4_eq]
    have e : i = L.length := by omega
    subst e
    simp only [ptr, offV_ptr, loadV_ptr, hA, loadM_cells, partV_one, Nat.zero_add, List.getElem?_cons_succ, List.getElem?_cons_zero, bindV_some, F.2.2.1.len, binV_lss, condK_bool, Int.lt_irrefl, decide_false, Bool.false_eq_true, if_false, idG_eq]
    rw [tiltyardref01_Same_j6_eq]
    exact H
  | succ d ih =>
    intro i m0 x8 hi hm
    obtain ⟨m0, rfl⟩ : ∃ m, m0 = m + 1 := ⟨m0 - 1, by omega⟩
    rw [tiltyardref01_Same_l4_eq]
    have hlt : (i : Int) < L.length := by omega
    have hiL : i < L.length := by omega
    have hi' : L[i]? = some L[i] := List.getElem?_eq_getElem hiL
    have hll := hl L[i] (List.getElem_mem _)
    obtain ⟨b, o, g1, g2, g3, cs, own, g4, g5⟩ := F.2.2.1.idx (Int.natCast_nonneg i) hlt .i64
    have g6 := takeN_get g5 (j := 0) (by omega)
    simp at g6
    obtain ⟨b', o', g1', g2', g3', cs', own', g4', g5'⟩ := G.2.2.1.idx (Int.natCast_nonneg i) hlt .i64
    have g6' := takeN_get g5' (j := 0) (by omega)
    simp at g6'
    have sl := F.2.2.2 i _ hi'
    have sr := G.2.2.2 i _ hi'
    have nx := same_l5 (nn := nn) (K := K) (x4 := x4) (x5 := x5) (x6 := x6) (m0 := m0) hA hB F G hi' hll (by
      rw [tiltyardref01_Same_j7_eq]
      simp only [binNil_int, binV_add, bindV_some, inc (show i ≤ 1000000 by omega), idG_eq]
      exact ih (i + 1) m0 _ (by omega) (by omega)) L[i].length 0 m0 (by omega) (by omega)
    simp only [ptr] at *
    simp only [offV_ptr, loadV_ptr, hA, hB, loadM_cells, partV_one, Nat.zero_add, List.getElem?_cons_succ, List.getElem?_cons_zero, bindV_some, F.2.2.1.len, binV_lss, condK_bool, hlt, decide_true, if_true, idG_eq, g1, g4, g6, g1', g4', g6', sl.len, sr.len, binV_neq, ne_eq, not_true_eq_false, decide_false, Bool.false_eq_true, if_false, true_and]
    exact nx
theorem same_l2 (hA : h.objs pa = some (.cells [vN, vS, vL] true)) (hB : h.objs pb = some (.cells [wN, wS, wL] true)) (F : FieldsAt V h vN vS vL lv N S L) (G : FieldsAt V' h wN wS wL lw N S L) (hS : S.length ≤ 1000) {x5 x7 x8 : Value} (H : tiltyardref01_Same_j3 (tabC []) idG nn (ptr pa) (ptr pb) x4 x5 (.int .i64 S.length) x7 x8 h K) :
    ∀ (d i m0 : Nat), i + d = S.length → d < m0 → tiltyardref01_Same_l2 (tabC []) idG nn m0 (ptr pa) (ptr pb) x4 x5 (.int .i64 i) x7 x8 h K := by
  intro d
  induction d with
  | zero =>
    intro i m0 hi hm
    obtain ⟨m0, rfl⟩ : ∃ m, m0 = m + 1 := ⟨m0 - 1, by omega⟩
    rw [tiltyardref01_Same_l2_eq]
    have e : i = S.length := by omega
    subst e
    simp only [ptr] at *
    simp only [offV_ptr, loadV_ptr, hA, loadM_cells, partV_one, Nat.zero_add, List.getElem?_cons_succ, List.getElem?_cons_zero, bindV_some, F.2.1.len, binV_lss, condK_bool, Int.lt_irrefl, decide_false, Bool.false_eq_true, if_false, idG_eq]
    exact H
  | succ d ih =>
    intro i m0 hi hm
    obtain ⟨m0, rfl⟩ : ∃ m, m0 = m + 1 := ⟨m0 - 1, by omega⟩
    rw [tiltyardref01_Same_l2_eq]
    have hlt : (i : Int) < S.length := by omega
    obtain ⟨b, o, g1, g2, g3, cs, own, g4, g5⟩ := F.2.1.idx (Int.natCast_nonneg i) hlt .i64
    have g6 := takeN_get g5 (j := 0) (by omega)
    simp [rowT] at g6
    obtain ⟨b', o', g1', g2', g3', cs', own', g4', g5'⟩ := G.2.1.idx (Int.natCast_nonneg i) hlt .i64
    have g6' := takeN_get g5' (j := 0) (by omega)
    simp [rowT] at g6'
    have ihh := ih (i + 1) m0 (by omega) (by omega)
    simp only [ptr] at *
    simp only [offV_ptr, loadV_ptr, hA, hB, loadM_cells, partV_one, Nat.zero_add, List.getElem?_cons_succ, List.getElem?_cons_zero, bindV_some, F.2.1.len, binV_lss, condK_bool, hlt, decide_true, if_true, idG_eq, g1, g4, g6, g1', g4', g6', binV_text_ne, beq_self_eq_true, Bool.not_true, Bool.false_eq_true, if_false, true_and, binNil_int, binV_add, inc (show i ≤ 1000000 by omega)]
    exact ihh
theorem same_l0 (hA : h.objs pa = some (.cells [vN, vS, vL] true)) (hB : h.objs pb = some (.cells [wN, wS, wL] true)) (F : FieldsAt V h vN vS vL lv N S L) (G : FieldsAt V' h wN wS wL lw N S L) (hN : N.length ≤ 1000) {x6 x7 x8 : Value} (H : tiltyardref01_Same_j1 (tabC []) idG nn (ptr pa) (ptr pb) x4 (.int .i64 N.length) x6 x7 x8 h K) :
    ∀ (d i m0 : Nat), i + d = N.length → d < m0 → tiltyardref01_Same_l0 (tabC []) idG nn m0 (ptr pa) (ptr pb) x4 (.int .i64 i) x6 x7 x8 h K := by
  intro d
  induction d with
  | zero =>
    intro i m0 hi hm
    obtain ⟨m0, rfl⟩ : ∃ m, m0 = m + 1 := ⟨m0 - 1, by omega⟩
    rw [tiltyardref01_Same_l0_eq]
    have e : i = N.length := by omega
    subst e
    simp only [ptr] at *
    simp only [offV_ptr, loadV_ptr, hA, loadM_cells, partV_one, Nat.zero_add, List.getElem?_cons_succ, List.getElem?_cons_zero, bindV_some, F.1.len, binV_lss, condK_bool, Int.lt_irrefl, decide_false, Bool.false_eq_true, if_false, idG_eq]
    exact H
  | succ d ih =>
    intro i m0 hi hm
    obtain ⟨m0, rfl⟩ : ∃ m, m0 = m + 1 := ⟨m0 - 1, by omega⟩
    rw [tiltyardref01_Same_l0_eq]
    have hlt : (i : Int) < N.length := by omega
    obtain ⟨b, o, g1, g2, g3, cs, own, g4, g5⟩ := F.1.idx (Int.natCast_nonneg i) hlt .i64
    have g6 := takeN_get g5 (j := 0) (by omega)
    simp [rowQ] at g6
    obtain ⟨b', o', g1', g2', g3', cs', own', g4', g5'⟩ := G.1.idx (Int.natCast_nonneg i) hlt .i64
    have g6' := takeN_get g5' (j := 0) (by omega)
    simp [rowQ] at g6'
    have ihh := ih (i + 1) m0 (by omega) (by omega)
    simp only [ptr] at *
    simp only [offV_ptr, loadV_ptr, hA, hB, loadM_cells, partV_one, Nat.zero_add, List.getElem?_cons_succ, List.getElem?_cons_zero, bindV_some, F.1.len, binV_lss, condK_bool, hlt, decide_true, if_true, idG_eq, g1, g4, g6, g1', g4', g6', binV_neq, ne_eq, not_true_eq_false, decide_false, Bool.false_eq_true, if_false, true_and, binNil_int, binV_add, inc (show i ≤ 1000000 by omega)]
    exact ihh
end same
def sameS : Abs.Spec := fun args h k => ∃ (V V' : Nat → Prop) (vN vS vL wN wS wL : Value) (lv lw : Nat → Value) (N : List Nat) (S : List ByteArray) (L : List (List Nat)), args = [.agg #[vN, vS, vL], .agg #[wN, wS, wL]] ∧ FieldsAt V h vN vS vL lv N S L ∧ FieldsAt V' h wN wS wL lw N S L ∧
  N.length ≤ 1000 ∧ S.length ≤ 1000 ∧ L.length ≤ 1000 ∧ (∀ l ∈ L, l.length ≤ 1000) ∧ ∀ h', Chg h h' [] → k (.bool true) h'
theorem sameS_good : SpecGood Try.prog (22, sameS) := by
  refine spec_good mixed Try.func22 (by kernel_rfl) (by kernel_rfl) (tab := []) (by simp) (keep := tiltyardref01_Same_keep) ?_
  rintro args h k ⟨V, V', vN, vS, vL, wN, wS, wL, lv, lw, N, S, L, rfl, F, G, hN, hS, hL, hl, H⟩
  refine ⟨3000, ?_⟩
  show tiltyardref01_Same (tabC []) idG 3000 (.agg #[vN, vS, vL]) (.agg #[wN, wS, wL]) h _
  rw [tiltyardref01_Same_eq]
  have o1 := F.1.one; have o2 := F.2.1.one; have o3 := F.2.2.1.one; have p1 := G.1.one; have p2 := G.2.1.one; have p3 := G.2.2.1.one
  simp only [boxE_eq, cells_agg]
  refine ⟨by simp [o1, o2, o3], by simp [p1, p2, p3], ?_⟩
  obtain ⟨g, hg⟩ : ∃ g, g = (h.push (.cells #[vN, vS, vL].toList true)).push (.cells #[wN, wS, wL].toList true) := ⟨_, rfl⟩
  have cg : Chg h g [] := by rw [hg]; exact (Chg.push _ []).of_push
  have hA : g.objs h.next = some (.cells [vN, vS, vL] true) := by rw [hg, push_ne (by simp)]; exact push_at _ _
  have hB : g.objs (h.next + 1) = some (.cells [wN, wS, wL] true) := by rw [hg]; exact push_at (h.push _) _
  simp only [push_next]
  rw [← hg]
  clear hg
  have F' := F.chgP (D := fun _ => False) (cg.toP (by simp)) (fun _ h => h.elim)
  have G' := G.chgP (D := fun _ => False) (cg.toP (by simp)) (fun _ h => h.elim)
  have l1 := F'.1.len; have l2 := F'.2.1.len; have l3 := F'.2.2.1.len; have m1 := G'.1.len; have m2 := G'.2.1.len; have m3 := G'.2.2.1.len
  simp only [offV_ptr, loadV_ptr, hA, hB, loadM_cells, partV_one, Nat.zero_add, List.getElem?_cons_succ, List.getElem?_cons_zero, bindV_some, l1, l2, l3, m1, m2, m3, binV_neq, ne_eq, not_true_eq_false, decide_false, groupK_eq, guardK_bool, if_true, getT, pickV_bool, Bool.false_eq_true, if_false, idG_eq, condK_bool]
  refine same_l0 hA hB F' G' hN ?_ N.length 0 3000 (by omega) (by omega)
  rw [tiltyardref01_Same_j1_eq]
  simp only [idG_eq]
  refine same_l2 hA hB F' G' hS ?_ S.length 0 3000 (by omega) (by omega)
  rw [tiltyardref01_Same_j3_eq]
  simp only [idG_eq]
  exact same_l4 hA hB F' G' hL hl ⟨_, St.le.refl _, H g cg⟩ L.length 0 3000 _ (by omega) (by omega)

/-- 'back', 'fields': the same fields. -/
def asS : Abs.Spec := fun args h k => ∃ (v1 v2 v3 : Value), args = [.agg #[v1, v2, v3]] ∧ (one v1 = true ∧ one v2 = true ∧ one v3 = true) ∧ (isUnk v1 = false ∧ isUnk v2 = false ∧ isUnk v3 = false) ∧ (v1.cells = #[v1] ∧ v2.cells = #[v2] ∧ v3.cells = #[v3]) ∧ ∀ h', Chg h h' [] → k (.agg #[v1, v2, v3]) h'
theorem backS_good : SpecGood Try.prog (23, asS) := by
  refine spec_good mixed Try.func23 (by kernel_rfl) (by kernel_rfl) (tab := []) (by simp) (keep := tiltyardlaw01_back_keep) ?_
  rintro args h k ⟨v1, v2, v3, rfl, ⟨o1, o2, o3⟩, ⟨u1, u2, u3⟩, ⟨c1, c2, c3⟩, H⟩
  refine ⟨0, ?_⟩
  show tiltyardlaw01_back (tabC []) idG 0 (.agg #[v1, v2, v3]) h _
  rw [tiltyardlaw01_back_eq]
  simp (disch := (try simp only [push_next, set_next, kill_next]); omega) [o1, o2, o3, u1, u2, u3, c1, c2, c3, buildV, fillL, push_ne, set_ne]
  exact ⟨_, St.le.refl _, H _ (Chg.of_set ((Chg.push _ []).of_push) (.inr (by simp)))⟩
theorem fieldsS_good : SpecGood Try.prog (16, asS) := by
  refine spec_good mixed Try.func16 (by kernel_rfl) (by kernel_rfl) (tab := []) (by simp) (keep := tiltyardlaw01_fields_keep) ?_
  rintro args h k ⟨v1, v2, v3, rfl, ⟨o1, o2, o3⟩, ⟨u1, u2, u3⟩, ⟨c1, c2, c3⟩, H⟩
  refine ⟨0, ?_⟩
  show tiltyardlaw01_fields (tabC []) idG 0 (.agg #[v1, v2, v3]) h _
  rw [tiltyardlaw01_fields_eq]
  simp (disch := (try simp only [push_next, set_next, kill_next]); omega) [o1, o2, o3, u1, u2, u3, c1, c2, c3, buildV, fillL, push_ne, set_ne]
  exact ⟨_, St.le.refl _, H _ (Chg.of_set ((Chg.push _ []).of_push) (.inr (by simp)))⟩
end Go.Proofs.Ytiaijbkmgajieaa
