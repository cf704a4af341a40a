/- The document's Write and Encode; 'VerbEncodes': what it answers. -/
import Derived.Test.YtdmcmebfclikgaaDoorAM
import Derived.Test.YtdmcmebfclikgaaDoorGenE
set_option linter.unusedSimpArgs false
set_option linter.unusedVariables false
set_option maxHeartbeats 4000000
namespace Go.Proofs.YtdmcmebfclikgaaDoor
open Go.Abs Go.IntWalk
attribute [local congr] bindV_w condK_w guardK_w groupK_w allocE_w boxE_w storeE_w storeM_w tabC_w ite_w idG_w appendE_w toBytesE_w buildSliceE_w

theorem refWriteS_good : SpecGood Tryd.prog (32, writeS) := by
  refine spec_good mixed Tryd.func32 (by kernel_rfl) (by kernel_rfl) tabJ_good (keep := tiltyardref01_Write_keep) ?_
  rintro args h k ⟨s, vN, vS, vL, lv, N, S, L, rfl, hs, SF, F, H⟩
  refine ⟨1000, ?_⟩
  show tiltyardref01_Write (tabC tabJ) idG 1000 (.string s) (.agg #[vN, vS, vL]) h _
  generalize hK : (fun v h1 => ∃ h2, St.le h2 h1 ∧ k v h2 : Cont) = K
  have H : ∀ h' v', Chg h h' [] → OwnS (h.next ≤ ·) h' v' 1 ((writeZ (letters s) N S L).2.map bc) (writeZ (letters s) N S L).2.length → K (.tuple #[v', .int .i64 (writeZ (letters s) N S L).1]) h' := by subst hK; exact fun h' v' c o => ⟨_, St.le.refl _, H h' v' c o⟩
  clear hK
  rw [tiltyardref01_Write_eq, boxE_eq]
  refine ⟨by simp [F.1.one, F.2.1.one, F.2.2.1.one], ?_⟩
  obtain ⟨h1, hh1⟩ : ∃ z, z = h.push (.cells [vN, vS, vL] true) := ⟨_, rfl⟩
  have e1 : h.push (.cells (Value.agg #[vN, vS, vL]).cells.toList true) = h1 := by rw [hh1]; simp [F.1.cells1, F.2.1.cells1, F.2.2.1.cells1]
  rw [e1]
  have c1 : Chg h h1 [] := by rw [hh1]; exact Chg.push _ _
  have n1 : h1.next = h.next + 1 := by rw [hh1]; rfl
  have o1 : h1.objs h.next = some (.cells [vN, vS, vL] true) := by rw [hh1]; exact push_at _ _
  have F1 := F.chg c1 (by simp)
  refine .inl ⟨rfl, s, 115, rfl, hs, ?_⟩
  refine .inl ⟨rfl, s, 108, rfl, hs, ?_⟩
  refine .inr (.inl ⟨rfl, s, rfl, by omega, fun h2 c2 => ?_⟩)
  have n2 := c2.1
  have o2 := c2.at (by omega) (by simp) o1
  have cc2 : Chg h h2 [] := c1.of_chg c2 (by simp)
  have F2 := F1.chg c2 (by simp)
  have bad : (0 ≤ leastZ (letters s) ∧ fitsB (letters s) N.length S.length L.length = true → False) → K (.tuple #[.slice none 0 0, .int .i64 1]) h2 := by
    intro hb
    have hz : writeZ (letters s) N S L = (1, []) := by
      unfold writeZ
      rw [if_neg (by simpa using hb)]
    rw [hz] at H
    exact H h2 _ cc2 (.inl ⟨rfl, rfl, rfl⟩)
  have l1 := F2.1.len; have l2 := F2.2.1.len; have l3 := F2.2.2.1.len
  have ct1 := cnt_le 115 (letters s); have ct2 := cnt_le 108 (letters s)
  have hls : (s.size : Int) = ((letters s).length : Int) := by rw [letters_length]
  have hl := letters_length s
  by_cases hr : leastZ (letters s) < 0
  · simp [hr, groupK_eq, getT]
    exact bad fun h => by omega
  by_cases f1 : S.length = cnt 115 (letters s)
  case neg =>
    have f1' : ¬ (S.length : Int) = cnt 115 (letters s) := by omega
    simp [hr, f1', groupK_eq, getT, ptr, o2, l2]
    exact bad fun h => by simp [fitsB, f1] at h
  by_cases f2 : L.length = cnt 108 (letters s)
  case neg =>
    have f2' : ¬ (L.length : Int) = cnt 108 (letters s) := by omega
    simp [hr, f1, f2', groupK_eq, getT, ptr, o2, l2, l3]
    exact bad fun h => by simp [fitsB, f2] at h
  have w1 : IntKind.i64.wrap ((s.size : Int) - cnt 115 (letters s)) = (s.size : Int) - cnt 115 (letters s) := i64_in _ (by omega)
  have w2 : IntKind.i64.wrap ((s.size : Int) - cnt 115 (letters s) - cnt 108 (letters s)) = (s.size : Int) - cnt 115 (letters s) - cnt 108 (letters s) := i64_in _ (by omega)
  by_cases f3 : (N.length : Int) = (s.size : Int) - cnt 115 (letters s) - cnt 108 (letters s)
  case neg =>
    simp [hr, f1, f2, f3, groupK_eq, getT, ptr, o2, l1, l2, l3, w1, w2]
    exact bad fun h => by
      simp [fitsB] at h
      omega
  simp [hr, f1, f2, f3, groupK_eq, getT, ptr, o2, l1, l2, l3, w1, w2]
  have h8 : (letters s).length ≤ 8 := by
    unfold leastZ at hr
    split at hr
    · omega
    · omega
  have hz : writeZ (letters s) N S L = finW (wr (letters s) N S L (0, [])) := by
    unfold writeZ
    rw [if_pos (by simp [fitsB, f1, f2]; omega)]
    rfl
  rw [hz] at H
  refine rw_l0 (lv := lv) SF h8 (by omega) o2 F2 (letters s).length 0 1000 h2 _ _ _ _ [] 0 0 0 (by omega) (by omega) (Chg.refl _ _) (.inl ⟨rfl, rfl, rfl⟩) (by simp; omega) (by simpa using f1.symm) (by simpa using f2.symm) (by simp; omega) rfl ?_
  intro h' v' q1 q2
  simp only [List.drop_zero] at q2 ⊢
  exact H h' v' (cc2.of_chg q1 (by simp)) (q2.imp fun i a b => by omega)
def tabK1 : List (FuncId × Abs.Spec) := [(26, findS), (32, writeS)]
theorem tabK1_good : ∀ p ∈ tabK1, SpecGood Tryd.prog p := by simp [tabK1, findS_good, refWriteS_good]
def refEncodeS : Abs.Spec := fun args h k => ∃ (x : Int) (vN vS vL : Value) (lv : Nat → Value) (N : List Nat) (S : List ByteArray) (L : List (List Nat)), args = [.agg #[.int .i64 x, vN, vS, vL]] ∧ SmallF N S L ∧ FieldsAt (· < h.next) h vN vS vL lv N S L ∧
  ∀ h' v', Chg h h' [] → OwnS (h.next ≤ ·) h' v' 1 ((encZ x N S L).2.map bc) (encZ x N S L).2.length → k (.tuple #[v', .int .i64 (encZ x N S L).1]) h'
theorem refEncodeS_good : SpecGood Tryd.prog (13, refEncodeS) := by
  refine spec_good mixed Tryd.func13 (by kernel_rfl) (by kernel_rfl) tabK1_good (keep := tiltyardref04_Encode_keep) ?_
  rintro args h k ⟨x, vN, vS, vL, lv, N, S, L, rfl, SF, F, H⟩
  refine ⟨0, ?_⟩
  show tiltyardref04_Encode (tabC tabK1) idG 0 (.agg #[.int .i64 x, vN, vS, vL]) h _
  generalize hK : (fun v h1 => ∃ h2, St.le h2 h1 ∧ k v h2 : Cont) = K
  have H : ∀ h' v', Chg h h' [] → OwnS (h.next ≤ ·) h' v' 1 ((encZ x N S L).2.map bc) (encZ x N S L).2.length → K (.tuple #[v', .int .i64 (encZ x N S L).1]) h' := by subst hK; exact fun h' v' c s => ⟨_, St.le.refl _, H h' v' c s⟩
  clear hK
  rw [tiltyardref04_Encode_eq, boxE_eq]
  refine ⟨by simp [F.1.one, F.2.1.one, F.2.2.1.one], ?_⟩
  obtain ⟨h1, hh1⟩ : ∃ z, z = h.push (.cells [.int .i64 x, vN, vS, vL] true) := ⟨_, rfl⟩
  have e1 : h.push (.cells (Value.agg #[.int .i64 x, vN, vS, vL]).cells.toList true) = h1 := by rw [hh1]; rfl
  rw [e1]
  have c1 : Chg h h1 [] := by rw [hh1]; exact Chg.push _ _
  have n1 : h1.next = h.next + 1 := by rw [hh1]; rfl
  have o1 : h1.objs h.next = some (.cells [.int .i64 x, vN, vS, vL] true) := by rw [hh1]; exact push_at _ _
  simp only [offV_ptr, bindV_some, loadV_ptr, o1, loadM_cells, partV_one, Nat.add_zero, List.getElem?_cons_zero]
  refine .inl ⟨rfl, x, rfl, fun h2 c2 => ?_⟩
  obtain ⟨r1, r2, r3⟩ := res_name x
  rw [r1, r2, r3]
  have n2 := c2.1
  simp only [extV_two0, extV_two1, bindV_some, allocE_some]
  refine storeE_new (vs := [.int .i64 (rowRes (findZ x)).1.kind, .string (nameOf (knownZ x)), .string (shapeOf (knownZ x))]) rfl rfl rfl (by simp) ?_
  obtain ⟨h8, hh8⟩ : ∃ z, z = (h2.push (.cells [.int .i64 0, .string ByteArray.empty, .string ByteArray.empty] true)).set h2.next (.cells [.int .i64 (rowRes (findZ x)).1.kind, .string (nameOf (knownZ x)), .string (shapeOf (knownZ x))] true) := ⟨_, rfl⟩
  rw [← hh8]
  have c8 : Chg h2 h8 [] := by rw [hh8]; exact (Chg.push _ _).of_set (.inr (Nat.le_refl _))
  have o8 : h8.objs h2.next = some (.cells [.int .i64 (rowRes (findZ x)).1.kind, .string (nameOf (knownZ x)), .string (shapeOf (knownZ x))] true) := by rw [hh8]; exact set_at _ _ _
  have n8 : h2.next < h8.next := by rw [hh8]; simp
  have c18 : Chg h1 h8 [] := c2.of_chg c8 (by simp)
  have b8 := c18.at (by omega) (by simp) o1
  have cc8 : Chg h h8 [] := c1.of_chg c18 (by simp)
  unfold encZ at H
  by_cases hk : isKind (knownZ x) = true
  · rw [if_pos hk] at H
    obtain ⟨r1, r2⟩ := isKind_range hk
    have lv4 : takeN [Value.int .i64 x, vN, vS, vL] (0 + 1) 3 = some [vN, vS, vL] := rfl
    simp only [hk, unV_not, Bool.not_true, bindV_some, condK_bool, Bool.false_eq_true, if_false, idG_eq, loadV_ptr, o8, b8, loadM_cells, partV_one, partV_agg, Nat.zero_add, lv4, Option.map_some, offV_ptr, List.getElem?_cons_succ, List.getElem?_cons_zero]
    refine .inr (.inl ⟨rfl, shapeOf (knownZ x), vN, vS, vL, lv, N, S, L, rfl, shape_size x, SF, (F.chg cc8 (by simp)).imp fun i a b => by omega, fun h9 v9 c9 o9 => ?_⟩)
    have n9 := c9.1
    have b9 := c9.at (by omega) (by simp) b8
    simp only [extV_two0, extV_two1, bindV_some, binNil_int, binV_neq]
    have esh : letters (shapeOf (knownZ x)) = shZ x := rfl
    rw [esh] at o9 ⊢
    by_cases hw : (writeZ (shZ x) N S L).1 = 0
    · rw [if_neg (by simp [hw])] at H
      obtain ⟨q1, q2, q3, q4⟩ := write_back SF hw
      have wx : IntKind.u8.wrap x = x := by simp only [IntKind.wrap, IntKind.bits, IntKind.signed]; simp; omega
      have tx : ((x.toNat : Nat) : Int) = x := by omega
      simp only [hw, Int.natCast_zero, ne_eq, not_true_eq_false, decide_false, condK_bool, Bool.false_eq_true, if_false, idG_eq, offV_ptr, bindV_some, loadV_ptr, b9, loadM_cells, partV_one, Nat.add_zero, List.getElem?_cons_zero, wrapV_int, wx, build_byte]
      have sl9 := own_bytes o9
      obtain ⟨h10, hh10⟩ : ∃ z, z = h9.push (.cells [.int .u8 x] true) := ⟨_, rfl⟩
      rw [← hh10]
      have c10 : Chg h9 h10 [] := by rw [hh10]; exact Chg.push _ _
      have n10 : h10.next = h9.next + 1 := by rw [hh10]; rfl
      have p10 : h10.objs h9.next = some (.cells [.int .u8 x] true) := by rw [hh10]; exact push_at _ _
      have own : OwnS (h.next ≤ ·) h10 (.slice (some ⟨h9.next, 0, some 1⟩) 1 0) 1 ([x.toNat].map bc) 1 := .inr ⟨h9.next, rfl, by omega, by omega, by rw [p10]; simp [bc, tx], by simp⟩
      refine append_own' (B := (h.next ≤ ·)) (by omega) own (newCells_bytes (sl9.chg c10 (by simp))) (by simp) (one_bc _) (by omega) (by omega) fun h11 v11 c11 o11 => ?_
      have cc : Chg h h11 [] := (((cc8.of_chg c9 (by simp)).of_chg c10 (by simp)).toP (D := (h.next ≤ ·)) (by simp)).step c11 |>.list (by intro i hi hh; omega)
      refine H h11 v11 cc ?_
      rw [Nat.add_comm 1] at o11
      exact o11
    · rw [if_pos hw] at H
      have hw' : ¬ ((writeZ (shZ x) N S L).1 : Int) = 0 := by omega
      simp only [hw', ne_eq, not_false_eq_true, decide_true, condK_bool, if_true]
      exact H h9 _ (cc8.of_chg c9 (by simp)) (.inl ⟨rfl, rfl, rfl⟩)
  · rw [if_neg hk] at H
    rw [Bool.not_eq_true] at hk
    simp only [hk, unV_not, Bool.not_false, bindV_some, condK_bool, if_true]
    exact H h8 _ cc8 (.inl ⟨rfl, rfl, rfl⟩)
end Go.Proofs.YtdmcmebfclikgaaDoor
