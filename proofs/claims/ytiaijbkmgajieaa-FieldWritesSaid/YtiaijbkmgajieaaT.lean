/- 'FieldBack', walked. -/
import Derived.Test.YtiaijbkmgajieaaS
set_option linter.unusedSimpArgs false
set_option linter.unusedVariables false
set_option maxHeartbeats 4000000
namespace Go.Proofs.Ytiaijbkmgajieaa
open Go.Abs Go.IntWalk

def tabB : List (FuncId × Abs.Spec) := [(14, smallS), (16, asS), (15, writeS), (20, readS), (23, asS), (22, sameS), (12, leastS), (13, awakeS)]
theorem tabB_good : ∀ p ∈ tabB, SpecGood Try.prog p := by
  simp [tabB, smallS_good, fieldsS_good, readS_good, backS_good, sameS_good]
  exact ⟨⟨writeS_ok, writeS_live⟩, ⟨leastS_ok, leastS_live⟩, awakeS_ok, awakeS_live⟩
def backLS : Abs.Spec := fun args h k => ∃ (s : ByteArray) (vN vS vL : Value) (lv : Nat → Value) (N : List Nat) (S : List ByteArray) (L : List (List Nat)), args = [.string s, .agg #[vN, vS, vL]] ∧ (∀ x ∈ N, x < 18446744073709551616) ∧ (∀ l ∈ L, ∀ x ∈ l, x < 4294967296) ∧ S.length ≤ 9223372036854775807 ∧ L.length ≤ 9223372036854775807 ∧
  FieldsAt (· < h.next) h vN vS vL lv N S L ∧ ∀ h', k (.bool true) h'
theorem small_F {N : List Nat} {S : List ByteArray} {L : List (List Nat)} (hN : ∀ x ∈ N, x < 18446744073709551616) (hL : ∀ l ∈ L, ∀ x ∈ l, x < 4294967296) (h : smallB N S L = true) : SmallF N S L ∧ N.length ≤ 12 ∧ S.length ≤ 12 ∧ L.length ≤ 12 := by
  simp only [smallB, Bool.and_eq_true, List.all_eq_true, decide_eq_true_eq] at h
  obtain ⟨h1, h2, ⟨h3, h4⟩, h5⟩ := h
  exact ⟨⟨hN, fun s hs => by have := h1 s hs; omega, fun l hl => ⟨by have := h2 l hl; omega, hL l hl⟩⟩, h3, h4, h5⟩
theorem backLS_good : SpecGood Try.prog (7, backLS) := by
  refine spec_good mixed Try.func7 (by kernel_rfl) (by kernel_rfl) tabB_good (keep := tiltyardlaw01_FieldBack_keep) ?_
  rintro args h k ⟨s, vN, vS, vL, lv, N, S, L, rfl, hN, hL, lS, lL, F, H⟩
  refine ⟨0, ?_⟩
  show tiltyardlaw01_FieldBack (tabC tabB) idG 0 (.string s) (.agg #[vN, vS, vL]) h _
  rw [tiltyardlaw01_FieldBack_eq]
  have fin : ∀ h', ∃ h2, St.le h2 h' ∧ k (.bool true) h2 := fun h' => ⟨h', St.le.refl _, H h'⟩
  have o1 := F.1.one; have o2 := F.2.1.one; have o3 := F.2.2.1.one
  simp only [boxE_eq, cells_agg]
  refine ⟨by simp [o1, o2, o3], ?_⟩
  have c1 := Chg.push (h := h) (.cells [vN, vS, vL] true) []
  by_cases h1 : (100 : Int) < s.size
  · simp [h1, groupK_eq]; exact fin _
  simp only [lenT_string, bindV_some, binNil_int, binV_gtr, gt_iff_lt, h1, decide_false, groupK_eq, guardK_bool, if_true, loadV_ptr, push_at, loadM_cells, partV_agg, takeN_lit3, Option.map_some, idG_eq, getT]
  have F1 := F.chgP (D := fun _ => False) (c1.toP (by simp)) (fun _ h => h.elim)
  refine .inl ⟨rfl, _, vN, vS, vL, lv, N, S, L, rfl, F1, lS, lL, fun h2 c2 => ?_⟩
  have a2 : h2.objs h.next = some (.cells [vN, vS, vL] true) := c2.at (by simp) (by simp) (push_at _ _)
  have n2 : h.next + 1 ≤ h2.next := by have := c2.1; simpa using this
  cases hs : smallB N S L with
  | false =>
    simp
    exact fin _
  | true =>
    obtain ⟨SF, b1, b2, b3⟩ := small_F hN hL hs
    simp only [unV_not, bindV_some, Bool.not_true, pickV_bool, Bool.false_eq_true, if_false, condK_bool, loadV_ptr, a2, loadM_cells, partV_agg, takeN_lit3, Option.map_some]
    refine .inr (.inl ⟨rfl, vN, vS, vL, rfl, ⟨o1, o2, o3⟩, ⟨F.1.isUnk, F.2.1.isUnk, F.2.2.1.isUnk⟩, ⟨F.1.cells1, F.2.1.cells1, F.2.2.1.cells1⟩, fun h3 c3 => ?_⟩)
    have cc3 : Chg h h3 [] := (c1.of_chg c2 (by simp)).of_chg c3 (by simp)
    have F3 := F.chgP (D := fun _ => False) (cc3.toP (by simp)) (fun _ h => h.elim)
    have F3' : FieldsAt (· < h3.next) h3 vN vS vL lv N S L := ⟨F3.1.imp (fun i hi _ => hi), F3.2.1.imp (fun i hi _ => hi), F3.2.2.1.imp (fun i hi _ => hi), fun i l hl => (F3.2.2.2 i l hl).imp (fun i hi _ => hi)⟩
    refine .inr (.inr (.inl ⟨rfl, s, vN, vS, vL, lv, N, S, L, rfl, by omega, SF, F3', fun h5 v5 c5 o5 => ?_⟩))
    have a3 := c3.at (by omega) (by simp) a2
    have a5 := c5.at (by have := c3.1; omega) (by simp) a3
    by_cases he : (writeZ (letters s) N S L).1 = 0
    · obtain ⟨r1, r2, r3, r4⟩ := write_back SF he
      simp only [extV_two0, extV_two1, bindV_some, he, binNil_int, binV_neq, condK_bool]
      rw [if_neg (by simp)]
      have s5 := (own_bytes o5).imp (B' := fun i => i < h5.next) (fun i hi _ => hi)
      refine .inr (.inr (.inr (.inl ⟨rfl, _, s, v5, (writeZ (letters s) N S L).2, rfl, by omega, by omega, r3, s5, fun _ h => h, fun h6 wN wS wL lw c6 G => ?_⟩)))
      rw [r1] at G ⊢
      simp only at G ⊢
      have p1 := G.1.one; have p2 := G.2.1.one; have p3 := G.2.2.1.one
      simp only [extV_two0, extV_two1, bindV_some, allocE_some, storeE_ptr, push_at, storeM_cells]
      refine ⟨by simp [p1, p2, p3], ?_⟩
      simp only [cells_agg, List.take_zero, List.nil_append]
      obtain ⟨g7, hg7⟩ : ∃ g, g = (h6.push (.cells [.slice none 0 0, .slice none 0 0, .slice none 0 0] true)).set h6.next (.cells [wN, wS, wL] true) := ⟨_, rfl⟩
      have c7 : Chg h6 g7 [] := by rw [hg7]; exact Chg.of_set (Chg.push _ []) (.inr (Nat.le_refl _))
      have hg7' : (h6.push (.cells [.slice none 0 0, .slice none 0 0, .slice none 0 0] true)).set h6.next (.cells (#[wN, wS, wL].toList ++ List.drop (0 + 3) [.slice none 0 0, .slice none 0 0, .slice none 0 0]) true) = g7 := hg7.symm
      rw [hg7']
      have r7 : g7.objs h6.next = some (.cells [wN, wS, wL] true) := by rw [hg7]; exact set_at _ _ _
      have n7 : g7.next = h6.next + 1 := by rw [hg7]; rfl
      clear hg7 hg7'
      have m3 := c3.1; have m5 := c5.1; have m6 := c6.1
      have a6 := c6.at (by omega) (by simp) a5
      have a7 := c7.at (by omega) (by simp) a6
      simp only [binNil_int, binV_eql, Int.natCast_zero, decide_true, bindV_some, groupK_eq, guardK_bool, if_true, loadV_ptr, r7, loadM_cells, partV_agg, takeN_lit3, Option.map_some, true_and]
      refine .inr (.inr (.inr (.inr (.inl ⟨rfl, wN, wS, wL, rfl, ⟨p1, p2, p3⟩, ⟨G.1.isUnk, G.2.1.isUnk, G.2.2.1.isUnk⟩, ⟨G.1.cells1, G.2.1.cells1, G.2.2.1.cells1⟩, fun h8 c8 => ?_⟩))))
      have a8 := c8.at (by omega) (by simp) a7
      simp only [loadV_ptr, a7, a8, loadM_cells, partV_agg, takeN_lit3, Option.map_some, bindV_some, true_and]
      have c68 : Chg h6 h8 [] := c7.of_chg c8 (by simp)
      have c38 : Chg h3 h8 [] := (c5.of_chg c6 (by simp)).of_chg c68 (by simp)
      refine .inr (.inr (.inr (.inr (.inr (.inl ⟨rfl, _, _, _, _, _, _, _, _, _, _, _, _, _, rfl, G.chgP (D := fun _ => False) (c68.toP (by simp)) (fun _ h => h.elim), F3.chgP (D := fun _ => False) (c38.toP (by simp)) (fun _ h => h.elim), by omega, by omega, by omega, fun l hl => (SF.2.2 l hl).1, fun h9 c9 => ?_⟩)))))
      simp only [getT, idG_eq, pickV_bool, if_true, bindV_some, guardK_bool, o5.len, true_and]
      refine .inr (.inr (.inr (.inr (.inr (.inr (.inl ⟨rfl, s, rfl, by omega, ?_⟩))))))
      have hge : leastZ (letters s) ≤ ((writeZ (letters s) N S L).2.length : Int) := r2
      simp only [binV_geq, bindV_some, ge_iff_le, hge, decide_true, getT, pickV_bool, if_true, guardK_bool, true_and]
      refine .inr (.inr (.inr (.inr (.inr (.inr (.inr (.inl ⟨rfl, rfl, fun h' _ => ?_⟩)))))))
      simp only [getT, pickV_bool, if_true, bindV_some, true_and]
      exact fin h'
    · obtain ⟨r1, r2⟩ := write_err he
      have lz : lenS v5 = some (.int .i64 0) := by rw [o5.len, r1]; rfl
      rcases r2 with r2 | r2
      · rw [r2]
        simp [lz, getT]
        exact .inr (.inr (.inr (.inr (.inr (.inr (.inr (.inl ⟨rfl, rfl, fun h' _ => fin h'⟩)))))))
      · rw [r2]
        simp [lz, getT]
        exact .inr (.inr (.inr (.inr (.inr (.inr (.inr (.inl ⟨rfl, rfl, fun h' _ => fin h'⟩)))))))
end Go.Proofs.Ytiaijbkmgajieaa
