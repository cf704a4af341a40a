/- 'FieldReads', walked. -/
import Derived.Test.YtiaijbkmgajieaaQ
set_option linter.unusedSimpArgs false
set_option linter.unusedVariables false
set_option maxHeartbeats 4000000
namespace Go.Proofs.Ytiaijbkmgajieaa
open Go.Abs Go.IntWalk

theorem tabQ_good : ∀ p ∈ tabQ, SpecGood Try.prog p := by simp [tabQ, SpecGood, refWidthS_ok, refWidthS_live, refNumS_good.1, refNumS_good.2, refLeastS_ok, refLeastS_live]
theorem refReadS_good : SpecGood Try.prog (21, readS) := by
  refine spec_good mixed Try.func21 (by kernel_rfl) (by kernel_rfl) tabQ_good (keep := tiltyardref01_Read_keep) ?_
  rintro args h k ⟨V, s, v, b, rfl, hs, hbl, hx, sl, hV, H⟩
  refine ⟨400, ?_⟩
  show tiltyardref01_Read (tabC tabQ) idG 400 (.string s) v h _
  rw [tiltyardref01_Read_eq]
  simp only [allocE_some]
  refine .inr (.inr (.inl ⟨rfl, s, rfl, by omega, fun h2 c2 => ?_⟩))
  have c2' : Chg h h2 [] := (Chg.push _ []).of_chg c2 (by simp)
  have n2 : h.next + 1 ≤ h2.next := by have := c2.1; simpa using this
  have a2 : h2.objs h.next = some (.cells [.slice none 0 0, .slice none 0 0, .slice none 0 0] true) := c2.at (by simp) (by simp) (push_at _ _)
  by_cases hr : 0 ≤ leastZ (letters s)
  · have hr' : ¬ leastZ (letters s) < 0 := by omega
    have h8 : (letters s).length ≤ 8 := by
      unfold leastZ at hr
      split at hr <;> omega
    simp only [bindV_some, binNil_int, binV_lss, hr', decide_false, condK_bool, Bool.false_eq_true, if_false, idG_eq]
    have c3 : Chg h (h2.push (.cells [.slice none 0 0, .slice none 0 0, .slice none 0 0] true)) [] := c2'.of_push
    have cV : SliceAt (fun i => i < h.next) (h2.push (.cells [.slice none 0 0, .slice none 0 0, .slice none 0 0] true)) v b.length 1 (rowC b) := (sl.chg c3 (by simp)).imp fun i _ hi => hV i hi
    refine ref_l0 (N0 := h.next) (q := h2.next) (r := h.next) (hb := h2.push (.cells [.slice none 0 0, .slice none 0 0, .slice none 0 0] true)) (b := b) (T := readZ (letters s) b) h8 hbl hx ?_ (letters s).length 0 400 (h2.push (.cells [.slice none 0 0, .slice none 0 0, .slice none 0 0] true)) (fun i => if i = h2.next then 9 else if i = h.next then 7 else 8) _ _ _ [] [] [] [] false 0 _ _ _ _ (by omega) (by omega) (ChgP.refl _ _)
      ⟨by simp; omega, by simp, if_pos rfl, fun i hi => (if_neg (by omega)).trans (if_neg (by omega)), push_at _ _, by simp; omega, (if_neg (by omega)).trans (if_pos rfl), by rw [push_ne (by omega)]; exact a2, cV.imp (fun i _ hi => (if_neg (by have : i < h.next := hi; omega)).trans (if_neg (by have : i < h.next := hi; omega))), .inl ⟨rfl, rfl, rfl⟩, .inl ⟨rfl, rfl, rfl⟩, .inl ⟨rfl, rfl, rfl⟩, fun i l hl => by simp at hl⟩ (by simp) (by simp) (by simp) (by simp) (by rw [read_fin _ _ hr]; simp)
    intro h' vN vS vL lv c' F
    refine ⟨_, St.le.refl _, H h' vN vS vL lv (((c3.toP (D := fun i => ¬ i < h.next) (by simp)).step c').list (by intro i hi hh; omega)) ⟨F.1.imp (fun i _ hi => by omega), F.2.1.imp (fun i _ hi => by omega), F.2.2.1.imp (fun i _ hi => by omega), fun i l hl => (F.2.2.2 i l hl).imp (fun i _ hi => by omega)⟩⟩
  · have hr' : leastZ (letters s) < 0 := by omega
    have hz : readZ (letters s) b = (1, noSt) := by unfold readZ; rw [if_neg hr]
    rw [hz] at H
    simp [hr', buildV, fillL, a2]
    exact ⟨_, St.le.refl _, H _ _ _ _ _ (Chg.of_set c2' (.inr (Nat.le_refl _))) (nilF _ _)⟩
theorem least_len {cs : List Nat} (h : 0 ≤ leastZ cs) : cs.length ≤ 8 := by
  unfold leastZ at h
  split at h <;> omega
theorem read_small {cs b : List Nat} (hx : ∀ x ∈ b, x < 256) : (readZ cs b).2.N.length ≤ 8 ∧ (readZ cs b).2.S.length ≤ 8 ∧ (readZ cs b).2.L.length ≤ 8 ∧ ∀ l ∈ (readZ cs b).2.L, l.length ≤ 1000 := by
  by_cases h : (readZ cs b).1 = 0
  · obtain ⟨hl, n, s, l, e, I⟩ := read_zero hx h
    have h8 := least_len hl
    have := I.len
    rw [e]
    exact ⟨by simp only; omega, by simp only; omega, by simp only; omega, fun x hm => (I.small.2.2 x hm).1⟩
  · rw [read_not h]
    simp [noSt]

def tabX : List (FuncId × Abs.Spec) := [(20, readS), (21, readS), (23, asS), (22, sameS), (13, awakeS)]
theorem tabX_good : ∀ p ∈ tabX, SpecGood Try.prog p := by simp [tabX, readS_good, refReadS_good, backS_good, sameS_good]; exact ⟨awakeS_ok, awakeS_live⟩
def readsS : Abs.Spec := fun args h k => ∃ (s : ByteArray) (v : Value) (b : List Nat), args = [.string s, v] ∧ (∀ x ∈ b, x < 256) ∧ SliceAt (· < h.next) h v b.length 1 (rowC b) ∧ ∀ h', k (.bool true) h'
theorem readsS_good : SpecGood Try.prog (6, readsS) := by
  refine spec_good mixed Try.func6 (by kernel_rfl) (by kernel_rfl) tabX_good (keep := tiltyardlaw01_FieldReads_keep) ?_
  rintro args h k ⟨s, v, b, rfl, hx, sl, H⟩
  refine ⟨0, ?_⟩
  show tiltyardlaw01_FieldReads (tabC tabX) idG 0 (.string s) v h _
  rw [tiltyardlaw01_FieldReads_eq, sl.len]
  have fin : ∀ h', ∃ h2, St.le h2 h' ∧ k (.bool true) h2 := fun h' => ⟨h', St.le.refl _, H h'⟩
  by_cases h1 : (100 : Int) < s.size
  · simp [h1, groupK_eq]; exact fin h
  by_cases h2 : (1000 : Int) < b.length
  · simp [h1, h2, groupK_eq, getT]; exact fin h
  simp only [lenT_string, bindV_some, binNil_int, binV_gtr, gt_iff_lt, h1, h2, decide_false, groupK_eq, guardK_bool, if_true, getT, idG_eq, pickV_bool, condK_bool, Bool.false_eq_true, if_false]
  refine .inl ⟨rfl, _, s, v, b, rfl, by omega, by omega, hx, sl, fun _ h => h, fun h3 vN vS vL lv c3 F => ?_⟩
  obtain ⟨z1, z2, z3, z4⟩ := read_small (cs := letters s) hx
  have o1 := F.1.one; have o2 := F.2.1.one; have o3 := F.2.2.1.one
  simp only [extV_two0, extV_two1, bindV_some, allocE_some, storeE_ptr, push_at, storeM_cells]
  refine ⟨by simp [o1, o2, o3], ?_⟩
  simp only [cells_agg, List.take_zero, List.nil_append]
  have c4 : Chg h3 ((h3.push (.cells [.slice none 0 0, .slice none 0 0, .slice none 0 0] true)).set h3.next (.cells [vN, vS, vL] true)) [] := Chg.of_set (Chg.push _ []) (.inr (Nat.le_refl _))
  obtain ⟨g, hg⟩ : ∃ g, g = (h3.push (.cells [.slice none 0 0, .slice none 0 0, .slice none 0 0] true)).set h3.next (.cells [vN, vS, vL] true) := ⟨_, rfl⟩
  have hg' : (h3.push (.cells [.slice none 0 0, .slice none 0 0, .slice none 0 0] true)).set h3.next (.cells (#[vN, vS, vL].toList ++ List.drop (0 + 3) [.slice none 0 0, .slice none 0 0, .slice none 0 0]) true) = g := hg.symm
  rw [hg']
  rw [← hg] at c4
  have q5 : g.objs h3.next = some (.cells [vN, vS, vL] true) := by rw [hg]; exact set_at _ _ _
  have n5 : g.next = h3.next + 1 := by rw [hg]; rfl
  clear hg hg'
  have c4' := c3.of_chg c4 (by simp)
  refine .inr (.inl ⟨rfl, _, s, v, b, rfl, by omega, by omega, hx, sl.chg c4' (by simp), fun i hi => Nat.lt_of_lt_of_le hi c4'.1, fun h6 wN wS wL lw c6 G => ?_⟩)
  have p1 := G.1.one; have p2 := G.2.1.one; have p3 := G.2.2.1.one
  have q6 := c6.at (by omega) (by simp) q5
  simp only [extV_two0, extV_two1, bindV_some, allocE_some, storeE_ptr, push_at, storeM_cells]
  refine ⟨by simp [p1, p2, p3], ?_⟩
  simp only [cells_agg, List.take_zero, List.nil_append]
  obtain ⟨g7, hg7⟩ : ∃ g, g = (h6.push (.cells [.slice none 0 0, .slice none 0 0, .slice none 0 0] true)).set h6.next (.cells [wN, wS, wL] true) := ⟨_, rfl⟩
  have c7 : Chg h6 g7 [] := by rw [hg7]; exact Chg.of_set (Chg.push _ []) (.inr (Nat.le_refl _))
  have hg7' : (h6.push (.cells [.slice none 0 0, .slice none 0 0, .slice none 0 0] true)).set h6.next (.cells (#[wN, wS, wL].toList ++ List.drop (0 + 3) [.slice none 0 0, .slice none 0 0, .slice none 0 0]) true) = g7 := hg7.symm
  rw [hg7']
  have r7 : g7.objs h6.next = some (.cells [wN, wS, wL] true) := by rw [hg7]; exact set_at _ _ _
  have n7 : g7.next = h6.next + 1 := by rw [hg7]; rfl
  clear hg7 hg7'
  have n6 := c6.1
  have q7 := c7.at (by omega) (by simp) q6
  simp only [loadV_ptr, q7, loadM_cells, partV_agg, takeN_lit3, Option.map_some, bindV_some, true_and]
  refine .inr (.inr (.inl ⟨rfl, vN, vS, vL, rfl, ⟨o1, o2, o3⟩, ⟨F.1.isUnk, F.2.1.isUnk, F.2.2.1.isUnk⟩, ⟨F.1.cells1, F.2.1.cells1, F.2.2.1.cells1⟩, fun h8 c8 => ?_⟩))
  have r8 := c8.at (by omega) (by simp) r7
  simp only [loadV_ptr, r7, r8, loadM_cells, partV_agg, takeN_lit3, Option.map_some, bindV_some, true_and]
  have cF : Chg h3 h8 [] := ((c4.of_chg c6 (by simp)).of_chg c7 (by simp)).of_chg c8 (by simp)
  have cG : Chg h6 h8 [] := c7.of_chg c8 (by simp)
  refine .inr (.inr (.inr (.inl ⟨rfl, _, _, _, _, _, _, _, _, _, _, _, _, _, rfl, F.chgP (D := fun _ => False) (cF.toP (by simp)) (fun _ h => h.elim), G.chgP (D := fun _ => False) (cG.toP (by simp)) (fun _ h => h.elim), by omega, by omega, by omega, z4, fun h9 c9 => ?_⟩)))
  simp [groupK_eq, getT]
  exact .inr (.inr (.inr (.inr (.inl ⟨rfl, rfl, fun h' _ => fin h'⟩))))
end Go.Proofs.Ytiaijbkmgajieaa
