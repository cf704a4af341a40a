/- 'VerbDecodes', 'VerbOnly', 'VerbBack': what they answer. -/
import Derived.Test.YtdmcmebfclikgaaDoorAI
set_option linter.unusedSimpArgs false
set_option linter.unusedVariables false
set_option maxHeartbeats 4000000
set_option maxRecDepth 100000
namespace Go.Proofs.YtdmcmebfclikgaaDoor
open Go.Abs Go.IntWalk
attribute [local congr] bindV_w condK_w guardK_w groupK_w allocE_w boxE_w storeE_w storeM_w tabC_w ite_w idG_w

theorem dec_small {b : List Nat} (hx : ∀ x ∈ b, x < 256) : (decZ b).2.2.N.length ≤ 1000 ∧ (decZ b).2.2.S.length ≤ 1000 ∧ (decZ b).2.2.L.length ≤ 1000 ∧ ∀ l ∈ (decZ b).2.2.L, l.length ≤ 1000 := by
  have z : noSt.N.length ≤ 1000 ∧ noSt.S.length ≤ 1000 ∧ noSt.L.length ≤ 1000 ∧ ∀ l ∈ noSt.L, l.length ≤ 1000 := by simp [noSt]
  cases b with
  | nil => exact z
  | cons c r =>
    simp only [decZ]
    split
    · split
      · exact z
      · obtain ⟨h1, h2, h3, h4⟩ := read_small (cs := shZ c) (b := r) (fun x hx' => hx x (by simp [hx']))
        exact ⟨by simp only; omega, by simp only; omega, by simp only; omega, h4⟩
    · exact z
def tabX1 : List (FuncId × Abs.Spec) := [(15, decodeS), (16, refDecodeS), (18, turnS), (17, msgSameS), (14, awakeS)]
theorem tabX1_good : ∀ p ∈ tabX1, SpecGood Tryd.prog p := by simp [tabX1, decodeS_good, refDecodeS_good, backS_good, msgSameS_good, awakeS_good]
def decodesLawS : Abs.Spec := fun args h k => ∃ (v : Value) (b : List Nat), args = [v] ∧ (∀ x ∈ b, x < 256) ∧ SliceAt (· < h.next) h v b.length 1 (rowC b) ∧ Glob h ∧ ∀ h', k (.bool true) h'
theorem decodesLawS_good : SpecGood Tryd.prog (4, decodesLawS) := by
  refine spec_good mixed Tryd.func4 (by kernel_rfl) (by kernel_rfl) tabX1_good (keep := tiltyardlaw04_VerbDecodes_keep) ?_
  rintro args h k ⟨v, b, rfl, hx, s, g, H⟩
  refine ⟨0, ?_⟩
  show tiltyardlaw04_VerbDecodes (tabC tabX1) idG 0 v h _
  generalize hK : (fun v h1 => ∃ h2, St.le h2 h1 ∧ k v h2 : Cont) = K
  have H : ∀ h', K (.bool true) h' := by subst hK; exact fun h' => ⟨_, St.le.refl _, H h'⟩
  clear hK
  rw [tiltyardlaw04_VerbDecodes_eq]
  by_cases c : (1200 : Int) < b.length
  · simp [s.len, c]
    exact H h
  obtain ⟨sm1, sm2, sm3, sm4⟩ := dec_small hx
  simp only [s.len, bindV_some, binNil_int, binV_gtr, gt_iff_lt, c, decide_false, condK_bool, Bool.false_eq_true, if_false, idG_eq]
  refine .inl ⟨rfl, _, v, b, rfl, g, by omega, hx, s, fun h1 vN vS vL lv c1 F => ?_⟩
  have n1 := c1.1
  simp only [extV_two0, extV_two1, bindV_some, allocE_some]
  refine storeE_new (vs := [.int .i64 (decZ b).2.1, vN, vS, vL]) rfl rfl rfl (by simp [F.1.one, F.2.1.one, F.2.2.1.one]) ?_
  obtain ⟨h4, hh4⟩ : ∃ z, z = (h1.push (.cells [.int .i64 0, .slice none 0 0, .slice none 0 0, .slice none 0 0] true)).set h1.next (.cells [.int .i64 (decZ b).2.1, vN, vS, vL] true) := ⟨_, rfl⟩
  rw [← hh4]
  have c4 : Chg h1 h4 [] := by rw [hh4]; exact (Chg.push _ _).of_set (.inr (Nat.le_refl _))
  have o4 : h4.objs h1.next = some (.cells [.int .i64 (decZ b).2.1, vN, vS, vL] true) := by rw [hh4]; exact set_at _ _ _
  have n4 : h1.next < h4.next := by rw [hh4]; simp
  have cc4 : Chg h h4 [] := c1.of_chg c4 (by simp)
  refine .inr (.inl ⟨rfl, _, v, b, rfl, by omega, hx, s.chg cc4 (by simp), fun h5 wN wS wL lw c5 F' => ?_⟩)
  have n5 := c5.1
  have o5 := c5.at n4 (by simp) o4
  simp only [extV_two0, extV_two1, bindV_some, allocE_some]
  refine storeE_new (vs := [.int .i64 (decZ b).2.1, wN, wS, wL]) rfl rfl rfl (by simp [F'.1.one, F'.2.1.one, F'.2.2.1.one]) ?_
  obtain ⟨h8, hh8⟩ : ∃ z, z = (h5.push (.cells [.int .i64 0, .slice none 0 0, .slice none 0 0, .slice none 0 0] true)).set h5.next (.cells [.int .i64 (decZ b).2.1, wN, wS, wL] true) := ⟨_, rfl⟩
  rw [← hh8]
  have c8 : Chg h5 h8 [] := by rw [hh8]; exact (Chg.push _ _).of_set (.inr (Nat.le_refl _))
  have o8 : h8.objs h5.next = some (.cells [.int .i64 (decZ b).2.1, wN, wS, wL] true) := by rw [hh8]; exact set_at _ _ _
  have n8 : h5.next < h8.next := by rw [hh8]; simp
  have o48 := c8.at (by omega) (by simp) o5
  have F8 := ((F.chg c4 (by simp)).chg c5 (by simp)).chg c8 (by simp)
  have F8' := F'.chg c8 (by simp)
  simp only [loadV_ptr, o48, loadM_cells, partV_agg, takeN_lit4, Option.map_some, bindV_some, true_and]
  refine .inr (.inr (.inl ⟨rfl, (decZ b).2.1, vN, vS, vL, rfl, F8.1.cells1, F8.2.1.cells1, F8.2.2.1.cells1, F8.1.isUnk, F8.2.1.isUnk, F8.2.2.1.isUnk, F8.1.one, F8.2.1.one, F8.2.2.1.one, fun h9 c9 => ?_⟩))
  have o9 := c9.at n8 (by simp) o8
  simp only [and_self, true_and, loadV_ptr, o9, o8, loadM_cells, partV_agg, takeN_lit4, Option.map_some, bindV_some]
  refine .inr (.inr (.inr (.inl ⟨rfl, (decZ b).2.1, _, _, vN, vS, vL, wN, wS, wL, lv, lw, _, _, _, rfl, F8.chg c9 (by simp), F8'.chg c9 (by simp), sm1, sm2, sm3, sm4, fun h10 c10 => ?_⟩)))
  have gg : Glob h10 := (((((g.chg cc4 (by simp)).chg c5 (by simp)).chg c8 (by simp)).chg c9 (by simp)).chg c10 (by simp))
  simp [groupK_eq, getT]
  refine .inr (.inr (.inr (.inr (.inl ⟨rfl, rfl, gg, fun h11 c11 => ?_⟩))))
  simp [getT]
  exact H h11
theorem dec_zero {c : Nat} {r : List Nat} (h : (decZ (c :: r)).1 = 0) : isKind (knownZ c) = true ∧ (readZ (shZ c) r).1 = 0 ∧ decZ (c :: r) = (0, (c : Int), (readZ (shZ c) r).2) := by
  simp only [decZ] at h ⊢
  split at h
  · rename_i hk
    split at h
    · rename_i hw; exact absurd h hw
    · rename_i hw
      exact ⟨hk, by simpa using hw, by rw [if_pos hk, if_neg hw]⟩
  · simp at h
theorem dec_not {b : List Nat} (h : (decZ b).1 ≠ 0) : (decZ b).2 = (0, noSt) := by
  cases b with
  | nil => rfl
  | cons c r =>
    simp only [decZ] at h ⊢
    split at h
    · rename_i hk
      rw [if_pos hk]
      split at h
      · rename_i hw; rw [if_pos hw]
      · exact absurd rfl h
    · rename_i hk; rw [if_neg hk]
def tabX2 : List (FuncId × Abs.Spec) := [(15, decodeS), (11, encodeS), (14, awakeS)]
theorem tabX2_good : ∀ p ∈ tabX2, SpecGood Tryd.prog p := by simp [tabX2, decodeS_good, encodeS_good, awakeS_good]
theorem onlyLawS_good : SpecGood Tryd.prog (6, decodesLawS) := by
  refine spec_good mixed Tryd.func6 (by kernel_rfl) (by kernel_rfl) tabX2_good (keep := tiltyardlaw04_VerbOnly_keep) ?_
  rintro args h k ⟨v, b, rfl, hx, s, g, H⟩
  refine ⟨0, ?_⟩
  show tiltyardlaw04_VerbOnly (tabC tabX2) idG 0 v h _
  generalize hK : (fun v h1 => ∃ h2, St.le h2 h1 ∧ k v h2 : Cont) = K
  have H : ∀ h', K (.bool true) h' := by subst hK; exact fun h' => ⟨_, St.le.refl _, H h'⟩
  clear hK
  rw [tiltyardlaw04_VerbOnly_eq]
  by_cases c : (1200 : Int) < b.length
  · simp [s.len, c]
    exact H h
  simp only [s.len, bindV_some, binNil_int, binV_gtr, gt_iff_lt, c, decide_false, condK_bool, Bool.false_eq_true, if_false, idG_eq]
  refine .inl ⟨rfl, _, v, b, rfl, g, by omega, hx, s, fun h1 vN vS vL lv c1 F => ?_⟩
  have n1 := c1.1
  simp only [extV_two0, extV_two1, bindV_some, allocE_some]
  refine storeE_new (vs := [.int .i64 (decZ b).2.1, vN, vS, vL]) rfl rfl rfl (by simp [F.1.one, F.2.1.one, F.2.2.1.one]) ?_
  obtain ⟨h4, hh4⟩ : ∃ z, z = (h1.push (.cells [.int .i64 0, .slice none 0 0, .slice none 0 0, .slice none 0 0] true)).set h1.next (.cells [.int .i64 (decZ b).2.1, vN, vS, vL] true) := ⟨_, rfl⟩
  rw [← hh4]
  have c4 : Chg h1 h4 [] := by rw [hh4]; exact (Chg.push _ _).of_set (.inr (Nat.le_refl _))
  have o4 : h4.objs h1.next = some (.cells [.int .i64 (decZ b).2.1, vN, vS, vL] true) := by rw [hh4]; exact set_at _ _ _
  have n4 : h1.next < h4.next := by rw [hh4]; simp
  have cc4 : Chg h h4 [] := c1.of_chg c4 (by simp)
  have F4 := F.chg c4 (by simp)
  have g4 := g.chg cc4 (by simp)
  by_cases he : (decZ b).1 = 0
  · cases b with
    | nil => cases he
    | cons cc r =>
      obtain ⟨hk, hr, hd⟩ := dec_zero he
      have hxr : ∀ x ∈ r, x < 256 := fun x hx' => hx x (by simp [hx'])
      obtain ⟨sf, hw⟩ := only_law hxr hr
      rw [hd] at o4 F4 ⊢
      have henc : encZ (cc : Int) (readZ (shZ cc) r).2.N (readZ (shZ cc) r).2.S (readZ (shZ cc) r).2.L = (0, cc :: r) := by
        unfold encZ
        rw [if_pos hk, hw, if_neg (by simp)]
        simp
      simp only [binNil_int, binV_neq, ne_eq, Int.natCast_zero, not_true_eq_false, decide_false, bindV_some, condK_bool, Bool.false_eq_true, if_false, idG_eq, loadV_ptr, o4, loadM_cells, partV_agg, takeN_lit4, Option.map_some]
      refine .inr (.inl ⟨rfl, (cc : Int), vN, vS, vL, lv, _, _, _, rfl, g4, sf, F4.imp fun i a _ => a, fun h12 v12 c12 o12 => ?_⟩)
      rw [henc] at o12 ⊢
      have t1 : textOf v12 h12 = some (.string (bytesText (cc :: r))) := text_slice (own_bytes o12)
      have t2 : textOf v h12 = some (.string (bytesText (cc :: r))) := text_slice ((s.chg cc4 (by simp)).chg c12 (by simp))
      simp [groupK_eq, getT, t1, t2, text_eql, -binV_text]
      refine .inr (.inr (.inl ⟨rfl, rfl, g4.chg c12 (by simp), fun h13 c13 => ?_⟩))
      simp [getT]
      exact H h13
  · have hn := dec_not he
    have e1 : (decZ b).2.1 = 0 := by rw [hn]
    have e2 : (decZ b).2.2 = noSt := by rw [hn]
    have he' : ¬ ((decZ b).1 : Int) = 0 := by omega
    rw [e2] at F4
    rw [e1] at o4
    have l1 : lenS vN = some (.int .i64 0) := F4.1.len
    have l2 : lenS vS = some (.int .i64 0) := F4.2.1.len
    have l3 : lenS vL = some (.int .i64 0) := F4.2.2.1.len
    have w0 : IntKind.i64.wrap 0 = 0 := by decide
    simp [he, groupK_eq, getT, o4, l1, l2, l3, w0]
    refine .inr (.inr (.inl ⟨rfl, rfl, g4, fun h13 c13 => ?_⟩))
    simp [getT]
    exact H h13
theorem small_F {N : List Nat} {S : List ByteArray} {L : List (List Nat)} (hN : ∀ x ∈ N, x < 18446744073709551616) (hL : ∀ l ∈ L, ∀ x ∈ l, x < 4294967296) (h : smallB N S L = true) : SmallF N S L ∧ N.length ≤ 12 ∧ S.length ≤ 12 ∧ L.length ≤ 12 := by
  simp only [smallB, Bool.and_eq_true, List.all_eq_true, decide_eq_true_eq] at h
  obtain ⟨h1, h2, ⟨h3, h4⟩, h5⟩ := h
  exact ⟨⟨hN, fun s hs => by have := h1 s hs; omega, fun l hl => ⟨by have := h2 l hl; omega, hL l hl⟩⟩, h3, h4, h5⟩
def tabX3 : List (FuncId × Abs.Spec) := [(10, smallS), (12, turnS), (11, encodeS), (15, decodeS), (18, turnS), (17, msgSameS), (14, awakeS)]
theorem tabX3_good : ∀ p ∈ tabX3, SpecGood Tryd.prog p := by simp [tabX3, smallS_good, msgS_good, encodeS_good, decodeS_good, backS_good, msgSameS_good, awakeS_good]
def backLawS : Abs.Spec := fun args h k => ∃ (x : Int) (vN vS vL : Value) (lv : Nat → Value) (N : List Nat) (S : List ByteArray) (L : List (List Nat)), args = [.agg #[.int .i64 x, vN, vS, vL]] ∧ FieldsAt (· < h.next) h vN vS vL lv N S L ∧ (∀ n ∈ N, n < 18446744073709551616) ∧ (∀ l ∈ L, ∀ n ∈ l, n < 4294967296) ∧ S.length ≤ 9223372036854775807 ∧ L.length ≤ 9223372036854775807 ∧ Glob h ∧ ∀ h', k (.bool true) h'
theorem backLawS_good : SpecGood Tryd.prog (5, backLawS) := by
  refine spec_good mixed Tryd.func5 (by kernel_rfl) (by kernel_rfl) tabX3_good (keep := tiltyardlaw04_VerbBack_keep) ?_
  rintro args h k ⟨x, vN, vS, vL, lv, N, S, L, rfl, F, hN, hL, hS1, hL1, g, H⟩
  refine ⟨0, ?_⟩
  show tiltyardlaw04_VerbBack (tabC tabX3) idG 0 (.agg #[.int .i64 x, vN, vS, vL]) h _
  generalize hK : (fun v h1 => ∃ h2, St.le h2 h1 ∧ k v h2 : Cont) = K
  have H : ∀ h', K (.bool true) h' := by subst hK; exact fun h' => ⟨_, St.le.refl _, H h'⟩
  clear hK
  rw [tiltyardlaw04_VerbBack_eq]
  rw [boxE_eq]
  refine ⟨by simp [F.1.one, F.2.1.one, F.2.2.1.one], ?_⟩
  obtain ⟨h1, hh1⟩ : ∃ z, z = h.push (.cells [.int .i64 x, vN, vS, vL] true) := ⟨_, rfl⟩
  have e1 : h.push (.cells (Value.agg #[.int .i64 x, vN, vS, vL]).cells.toList true) = h1 := by rw [hh1]; rfl
  rw [e1]
  have c1 : Chg h h1 [] := by rw [hh1]; exact Chg.push _ _
  have n1 : h1.next = h.next + 1 := by rw [hh1]; rfl
  have o1 : h1.objs h.next = some (.cells [.int .i64 x, vN, vS, vL] true) := by rw [hh1]; exact push_at _ _
  have t1 : takeN [Value.int .i64 x, vN, vS, vL] (0 + 1) 3 = some [vN, vS, vL] := rfl
  have F1 := F.chg c1 (by simp)
  simp only [offV_ptr, bindV_some, loadV_ptr, o1, loadM_cells, partV_agg, t1, Option.map_some]
  refine .inl ⟨rfl, _, vN, vS, vL, lv, N, S, L, rfl, F1, hS1, hL1, fun h2 c2 => ?_⟩
  cases hsm : smallB N S L with
  | false =>
    simp
    exact H h2
  | true =>
    obtain ⟨SF, k1, k2, k3⟩ := small_F hN hL hsm
    have n2 := c2.1
    have o2 := c2.at (by omega) (by simp) o1
    have F2 := F1.chg c2 (by simp)
    simp only [unV_not, Bool.not_true, bindV_some, condK_bool, Bool.false_eq_true, if_false, idG_eq, loadV_ptr, o2, loadM_cells, partV_agg, takeN_lit4, Option.map_some]
    refine .inr (.inl ⟨rfl, x, vN, vS, vL, rfl, F2.1.cells1, F2.2.1.cells1, F2.2.2.1.cells1, F2.1.isUnk, F2.2.1.isUnk, F2.2.2.1.isUnk, F2.1.one, F2.2.1.one, F2.2.2.1.one, fun h3 c3 => ?_⟩)
    have n3 := c3.1
    have F3 := F2.chg c3 (by simp)
    have cc3 : Chg h h3 [] := (c1.of_chg c2 (by simp)).of_chg c3 (by simp)
    refine .inr (.inr (.inl ⟨rfl, x, vN, vS, vL, lv, N, S, L, rfl, g.chg cc3 (by simp), SF, F3.imp fun i a _ => a, fun h4 v4 c4 o4 => ?_⟩))
    have n4 := c4.1
    have g4 := (g.chg cc3 (by simp)).chg c4 (by simp)
    simp only [extV_two0, extV_two1, bindV_some, binNil_int, binV_neq]
    by_cases he : (encZ x N S L).1 = 0
    · have hk : isKind (knownZ x) = true := by
        cases hk : isKind (knownZ x) with
        | true => rfl
        | false =>
          unfold encZ at he
          rw [if_neg (by simp [hk])] at he
          simp at he
      have hw : (writeZ (shZ x) N S L).1 = 0 := by
        unfold encZ at he
        rw [if_pos hk] at he
        split at he
        · rename_i h; exact absurd he h
        · rename_i h; simpa using h
      obtain ⟨r1, r2⟩ := isKind_range hk
      obtain ⟨q1, q2, q3, q4⟩ := write_back SF hw
      have henc : encZ x N S L = (0, x.toNat :: (writeZ (shZ x) N S L).2) := by
        unfold encZ
        rw [if_pos hk, if_neg (by simp [hw])]
      have tx : ((x.toNat : Nat) : Int) = x := by omega
      have hdec : decZ (encZ x N S L).2 = (0, x, ⟨[], false, N, S, L⟩) := by
        rw [henc]
        simp only [decZ, tx]
        rw [if_pos hk, q1, if_neg (by simp)]
      simp only [he, Int.natCast_zero, ne_eq, not_true_eq_false, decide_false, condK_bool, Bool.false_eq_true, if_false, idG_eq]
      have hb : (encZ x N S L).2.length ≤ 100000 := by rw [henc]; simp; omega
      have hbx : ∀ y ∈ (encZ x N S L).2, y < 256 := by
        rw [henc]
        intro y hy
        rcases List.mem_cons.1 hy with rfl | hy
        · omega
        · exact q3 y hy
      refine .inr (.inr (.inr (.inl ⟨rfl, _, v4, _, rfl, g4, hb, hbx, own_bytes o4, fun h9 wN wS wL lw c9 F9 => ?_⟩)))
      rw [hdec] at F9 ⊢
      have n9 := c9.1
      simp only [extV_two0, extV_two1, bindV_some, allocE_some]
      refine storeE_new (vs := [.int .i64 x, wN, wS, wL]) rfl rfl rfl (by simp [F9.1.one, F9.2.1.one, F9.2.2.1.one]) ?_
      obtain ⟨h12, hh12⟩ : ∃ z, z = (h9.push (.cells [.int .i64 0, .slice none 0 0, .slice none 0 0, .slice none 0 0] true)).set h9.next (.cells [.int .i64 x, wN, wS, wL] true) := ⟨_, rfl⟩
      rw [← hh12]
      have c12 : Chg h9 h12 [] := by rw [hh12]; exact (Chg.push _ _).of_set (.inr (Nat.le_refl _))
      have o12 : h12.objs h9.next = some (.cells [.int .i64 x, wN, wS, wL] true) := by rw [hh12]; exact set_at _ _ _
      have n12 : h9.next < h12.next := by rw [hh12]; simp
      have G12 := F9.chg c12 (by simp)
      have F12 := ((F3.chg c4 (by simp)).chg c9 (by simp)).chg c12 (by simp)
      have c2e : Chg h2 h12 [] := ((c3.of_chg c4 (by simp)).of_chg c9 (by simp)).of_chg c12 (by simp)
      have p12 := c2e.at (by omega) (by simp) o2
      simp only [binNil_int, binV_eql, Int.natCast_zero, decide_true, bindV_some, groupK_eq, guardK_bool, if_true, loadV_ptr, o12, loadM_cells, partV_agg, takeN_lit4, Option.map_some, true_and]
      refine .inr (.inr (.inr (.inr (.inl ⟨rfl, x, wN, wS, wL, rfl, G12.1.cells1, G12.2.1.cells1, G12.2.2.1.cells1, G12.1.isUnk, G12.2.1.isUnk, G12.2.2.1.isUnk, G12.1.one, G12.2.1.one, G12.2.2.1.one, fun h16 c16 => ?_⟩))))
      have p16 := c16.at (by omega) (by simp) p12
      simp only [and_self, true_and, loadV_ptr, p16, p12, loadM_cells, partV_agg, takeN_lit4, Option.map_some, bindV_some]
      refine .inr (.inr (.inr (.inr (.inr (.inl ⟨rfl, x, _, _, wN, wS, wL, vN, vS, vL, lw, lv, N, S, L, rfl, G12.chg c16 (by simp), F12.chg c16 (by simp), by omega, by omega, by omega, fun l hl => (SF.2.2 l hl).1, fun h17 c17 => ?_⟩)))))
      have g17 : Glob h17 := ((((g4.chg c9 (by simp)).chg c12 (by simp)).chg c16 (by simp)).chg c17 (by simp))
      simp [groupK_eq, getT]
      refine .inr (.inr (.inr (.inr (.inr (.inr (.inl ⟨rfl, rfl, g17, fun h18 c18 => ?_⟩))))))
      simp [getT]
      exact H h18
    · have hnil : (encZ x N S L).2 = [] := by
        unfold encZ at he ⊢
        split
        · rename_i hk
          rw [if_pos hk] at he
          split
          · rfl
          · rename_i hw; rw [if_neg hw] at he; exact absurd rfl he
        · rfl
      rw [hnil] at o4
      have l0 : lenS v4 = some (.int .i64 0) := o4.len
      simp [he, l0, groupK_eq, getT]
      refine .inr (.inr (.inr (.inr (.inr (.inr (.inl ⟨rfl, rfl, g4, fun h18 c18 => ?_⟩))))))
      simp [getT]
      exact H h18
end Go.Proofs.YtdmcmebfclikgaaDoor
