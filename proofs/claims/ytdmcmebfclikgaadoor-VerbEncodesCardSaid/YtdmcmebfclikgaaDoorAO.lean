/- 'VerbEncodes': what it answers. -/
import Derived.Test.YtdmcmebfclikgaaDoorAN
set_option linter.unusedSimpArgs false
set_option linter.unusedVariables false
set_option maxHeartbeats 4000000
namespace Go.Proofs.YtdmcmebfclikgaaDoor
open Go.Abs Go.IntWalk
attribute [local congr] bindV_w condK_w guardK_w groupK_w allocE_w boxE_w storeE_w storeM_w tabC_w ite_w idG_w appendE_w toBytesE_w buildSliceE_w

def tabK2 : List (FuncId × Abs.Spec) := [(10, smallS), (12, turnS), (11, encodeS), (13, refEncodeS), (14, awakeS)]
theorem tabK2_good : ∀ p ∈ tabK2, SpecGood Tryd.prog p := by simp [tabK2, smallS_good, msgS_good, encodeS_good, refEncodeS_good, awakeS_good]
theorem encodesLawS_good : SpecGood Tryd.prog (3, backLawS) := by
  refine spec_good mixed Tryd.func3 (by kernel_rfl) (by kernel_rfl) tabK2_good (keep := tiltyardlaw04_VerbEncodes_keep) ?_
  rintro args h k ⟨x, vN, vS, vL, lv, N, S, L, rfl, F, hN, hL, hS1, hL1, g, H⟩
  refine ⟨0, ?_⟩
  show tiltyardlaw04_VerbEncodes (tabC tabK2) idG 0 (.agg #[.int .i64 x, vN, vS, vL]) h _
  generalize hK : (fun v h1 => ∃ h2, St.le h2 h1 ∧ k v h2 : Cont) = K
  have H : ∀ h', K (.bool true) h' := by subst hK; exact fun h' => ⟨_, St.le.refl _, H h'⟩
  clear hK
  rw [tiltyardlaw04_VerbEncodes_eq]
  rw [boxE_eq]
  refine ⟨by simp [F.1.one, F.2.1.one, F.2.2.1.one], ?_⟩
  obtain ⟨h1, hh1⟩ : ∃ z, z = h.push (.cells [.int .i64 x, vN, vS, vL] true) := ⟨_, rfl⟩
  have e1 : h.push (.cells (Value.agg #[.int .i64 x, vN, vS, vL]).cells.toList true) = h1 := by rw [hh1]; rfl
  rw [e1]
  have c1 : Chg h h1 [] := by rw [hh1]; exact Chg.push _ _
  have n1 : h1.next = h.next + 1 := by rw [hh1]; rfl
  have o1 : h1.objs h.next = some (.cells [.int .i64 x, vN, vS, vL] true) := by rw [hh1]; exact push_at _ _
  have t1 : takeN [Value.int .i64 x, vN, vS, vL] (0 + 1) 3 = some [vN, vS, vL] := rfl
  have F1 := F.chg c1 (by simp)
  simp only [offV_ptr, bindV_some, loadV_ptr, o1, loadM_cells, partV_agg, t1, Option.map_some]
  refine .inl ⟨rfl, _, vN, vS, vL, lv, N, S, L, rfl, F1, hS1, hL1, fun h2 c2 => ?_⟩
  cases hsm : smallB N S L with
  | false =>
    simp
    exact H h2
  | true =>
    obtain ⟨SF, k1, k2, k3⟩ := small_F hN hL hsm
    have n2 := c2.1
    have o2 := c2.at (by omega) (by simp) o1
    have F2 := F1.chg c2 (by simp)
    simp only [unV_not, Bool.not_true, bindV_some, condK_bool, Bool.false_eq_true, if_false, idG_eq, loadV_ptr, o2, loadM_cells, partV_agg, takeN_lit4, Option.map_some]
    refine .inr (.inl ⟨rfl, x, vN, vS, vL, rfl, F2.1.cells1, F2.2.1.cells1, F2.2.2.1.cells1, F2.1.isUnk, F2.2.1.isUnk, F2.2.2.1.isUnk, F2.1.one, F2.2.1.one, F2.2.2.1.one, fun h3 c3 => ?_⟩)
    have n3 := c3.1
    have o3 := c3.at (by omega) (by simp) o2
    have F3 := F2.chg c3 (by simp)
    have cc3 : Chg h h3 [] := (c1.of_chg c2 (by simp)).of_chg c3 (by simp)
    have g3 := g.chg cc3 (by simp)
    refine .inr (.inr (.inl ⟨rfl, x, vN, vS, vL, lv, N, S, L, rfl, g3, SF, F3.imp fun i a _ => a, fun h4 v4 c4 o4 => ?_⟩))
    have n4 := c4.1
    have p4 := c4.at (by omega) (by simp) o3
    have F4 := F3.chg c4 (by simp)
    simp only [extV_two0, extV_two1, bindV_some, loadV_ptr, p4, loadM_cells, partV_agg, takeN_lit4, Option.map_some]
    refine .inr (.inr (.inr (.inl ⟨rfl, x, vN, vS, vL, lv, N, S, L, rfl, SF, F4.imp fun i a _ => a, fun h5 v5 c5 o5 => ?_⟩)))
    have g5 := (g3.chg c4 (by simp)).chg c5 (by simp)
    have t1 : textOf v4 h5 = some (.string (bytesText (encZ x N S L).2)) := text_slice (own_bytes (o4.chg c5 (by simp)))
    have t2 : textOf v5 h5 = some (.string (bytesText (encZ x N S L).2)) := text_slice (own_bytes o5)
    simp [groupK_eq, getT, t1, t2, text_eql, -binV_text]
    refine .inr (.inr (.inr (.inr (.inl ⟨rfl, rfl, g5, fun h6 c6 => ?_⟩))))
    simp [getT]
    exact H h6
end Go.Proofs.YtdmcmebfclikgaaDoor
