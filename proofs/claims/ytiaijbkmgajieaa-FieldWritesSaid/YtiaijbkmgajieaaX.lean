/- 'FieldWrites': what it answers. -/
import Derived.Test.YtiaijbkmgajieaaW
set_option linter.unusedSimpArgs false
set_option linter.unusedVariables false
set_option maxHeartbeats 4000000
namespace Go.Proofs.Ytiaijbkmgajieaa
open Go.Abs Go.IntWalk

theorem text_eql_self (sh : Shp) (a : ByteArray) : binV .eql sh (.string a) (.string a) = some (.bool true) := by simp
def tabWL : List (FuncId × Abs.Spec) := [(14, smallS), (16, asS), (15, writeS), (17, writeS), (13, awakeS)]
theorem tabWL_good : ∀ p ∈ tabWL, SpecGood Try.prog p := by
  simp [tabWL, smallS_good, fieldsS_good, refWriteS_good]
  exact ⟨⟨writeS_ok, writeS_live⟩, awakeS_ok, awakeS_live⟩
theorem writesLS_good : SpecGood Try.prog (4, backLS) := by
  refine spec_good mixed Try.func4 (by kernel_rfl) (by kernel_rfl) tabWL_good (keep := tiltyardlaw01_FieldWrites_keep) ?_
  rintro args h k ⟨s, vN, vS, vL, lv, N, S, L, rfl, hN, hL, lS, lL, F, H⟩
  refine ⟨0, ?_⟩
  show tiltyardlaw01_FieldWrites (tabC tabWL) idG 0 (.string s) (.agg #[vN, vS, vL]) h _
  rw [tiltyardlaw01_FieldWrites_eq]
  have fin : ∀ h', ∃ h2, St.le h2 h' ∧ k (.bool true) h2 := fun h' => ⟨h', St.le.refl _, H h'⟩
  have o1 := F.1.one; have o2 := F.2.1.one; have o3 := F.2.2.1.one
  simp only [boxE_eq, cells_agg]
  refine ⟨by simp [o1, o2, o3], ?_⟩
  have c1 := Chg.push (h := h) (.cells [vN, vS, vL] true) []
  by_cases h1 : (100 : Int) < s.size
  · simp [h1, groupK_eq]; exact fin _
  simp only [lenT_string, bindV_some, binNil_int, binV_gtr, gt_iff_lt, h1, decide_false, groupK_eq, guardK_bool, if_true, loadV_ptr, push_at, loadM_cells, partV_agg, takeN_lit3, Option.map_some, idG_eq, getT]
  have F1 := F.chgP (D := fun _ => False) (c1.toP (by simp)) (fun _ h => h.elim)
  refine .inl ⟨rfl, _, vN, vS, vL, lv, N, S, L, rfl, F1, lS, lL, fun h2 c2 => ?_⟩
  have a2 : h2.objs h.next = some (.cells [vN, vS, vL] true) := c2.at (by simp) (by simp) (push_at _ _)
  have n2 : h.next + 1 ≤ h2.next := by have := c2.1; simpa using this
  cases hs : smallB N S L with
  | false =>
    simp
    exact fin _
  | true =>
    obtain ⟨SF, b1, b2, b3⟩ := small_F hN hL hs
    simp only [unV_not, bindV_some, Bool.not_true, pickV_bool, Bool.false_eq_true, if_false, condK_bool, loadV_ptr, a2, loadM_cells, partV_agg, takeN_lit3, Option.map_some]
    refine .inr (.inl ⟨rfl, vN, vS, vL, rfl, ⟨o1, o2, o3⟩, ⟨F.1.isUnk, F.2.1.isUnk, F.2.2.1.isUnk⟩, ⟨F.1.cells1, F.2.1.cells1, F.2.2.1.cells1⟩, fun h3 c3 => ?_⟩)
    have cc3 : Chg h h3 [] := (c1.of_chg c2 (by simp)).of_chg c3 (by simp)
    have F3 := F.chgP (D := fun _ => False) (cc3.toP (by simp)) (fun _ h => h.elim)
    have F3' : FieldsAt (· < h3.next) h3 vN vS vL lv N S L := ⟨F3.1.imp (fun i hi _ => hi), F3.2.1.imp (fun i hi _ => hi), F3.2.2.1.imp (fun i hi _ => hi), fun i l hl => (F3.2.2.2 i l hl).imp (fun i hi _ => hi)⟩
    refine .inr (.inr (.inl ⟨rfl, s, vN, vS, vL, lv, N, S, L, rfl, by omega, SF, F3', fun h5 v5 c5 o5 => ?_⟩))
    have a3 := c3.at (by omega) (by simp) a2
    have a5 := c5.at (by have := c3.1; omega) (by simp) a3
    have F5 := F3.chgP (D := fun _ => False) (c5.toP (by simp)) (fun _ h => h.elim)
    have F5' : FieldsAt (· < h5.next) h5 vN vS vL lv N S L := ⟨F5.1.imp (fun i hi _ => hi), F5.2.1.imp (fun i hi _ => hi), F5.2.2.1.imp (fun i hi _ => hi), fun i l hl => (F5.2.2.2 i l hl).imp (fun i hi _ => hi)⟩
    simp only [extV_two0, extV_two1, bindV_some, loadV_ptr, a5, loadM_cells, partV_agg, takeN_lit3, Option.map_some]
    refine .inr (.inr (.inr (.inl ⟨rfl, s, vN, vS, vL, lv, N, S, L, rfl, by omega, SF, F5', fun h6 v6 c6 o6 => ?_⟩)))
    have t1 : textOf v5 h6 = some (.string (bytesText (writeZ (letters s) N S L).2)) := text_slice (own_bytes (o5.chg c6 (by simp)))
    have t2 : textOf v6 h6 = some (.string (bytesText (writeZ (letters s) N S L).2)) := text_slice (own_bytes o6)
    simp [groupK_eq, getT, t1, t2]
    refine .inr (.inr (.inr (.inr (.inl ⟨rfl, rfl, fun h7 c7 => ?_⟩))))
    simp [getT]
    exact fin h7
end Go.Proofs.Ytiaijbkmgajieaa
