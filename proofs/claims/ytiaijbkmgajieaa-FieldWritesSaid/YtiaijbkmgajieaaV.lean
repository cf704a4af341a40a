/- The document's 'count' and 'Put'. -/
import Derived.Test.YtiaijbkmgajieaaU
set_option linter.unusedSimpArgs false
set_option linter.unusedVariables false
set_option maxHeartbeats 4000000
namespace Go.Proofs.Ytiaijbkmgajieaa
open Go.Abs Go.IntWalk

def countS : Abs.Spec := fun args h k => ∃ (s : ByteArray) (c : Nat), args = [.string s, .int .u8 c] ∧ s.size ≤ 1000 ∧ k (.int .i64 (cnt c (letters s))) h
theorem count_l0 {s : ByteArray} {nn c : Nat} {x2 : Value} {h : St} {K : Cont} (hs : s.size ≤ 1000) (H : K (.int .i64 (cnt c (letters s))) h) :
    ∀ (d i m0 a : Nat), i + d = (letters s).length → d < m0 → a ≤ i → a + cnt c ((letters s).drop i) = cnt c (letters s) → tiltyardref01_count_l0 (tabC []) idG nn m0 (.string s) (.int .u8 c) x2 (.int .i64 a) (.int .i64 i) h K := by
  intro d
  have hsz := letters_length s
  induction d with
  | zero =>
    intro i m0 a hi hm ha c1
    obtain ⟨m0, rfl⟩ : ∃ m, m0 = m + 1 := ⟨m0 - 1, by omega⟩
    rw [tiltyardref01_count_l0_eq]
    have e' : ¬ ((i : Int) < s.size) := by omega
    have z : (letters s).drop i = [] := by rw [List.drop_eq_nil_iff]; omega
    rw [z] at c1
    simp only [cnt, Nat.add_zero] at c1
    simp only [lenT_string, bindV_some, binV_lss, condK_bool, e', decide_false, Bool.false_eq_true, if_false, idG_eq]
    rw [tiltyardref01_count_j2_eq, c1]
    exact H
  | succ d ih =>
    intro i m0 a hi hm ha c1
    obtain ⟨m0, rfl⟩ : ∃ m, m0 = m + 1 := ⟨m0 - 1, by omega⟩
    rw [tiltyardref01_count_l0_eq]
    have hlt : i < (letters s).length := by omega
    have hlt' : (i : Int) < s.size := by omega
    obtain ⟨b, hb⟩ : ∃ b, (letters s)[i]? = some b := ⟨_, List.getElem?_eq_getElem hlt⟩
    have hd : (letters s).drop i = b :: (letters s).drop (i + 1) := by
      rw [List.drop_eq_getElem_cons hlt]
      congr 1
      exact (List.getElem?_eq_some_iff.1 hb).2
    rw [hd] at c1
    simp only [cnt] at c1
    by_cases t : b = c
    · have ti : (b : Int) = (c : Int) := by omega
      rw [if_pos t] at c1
      simp only [lenT_string, bindV_some, binV_lss, condK_bool, hlt', decide_true, if_true, idG_eq, idxT_at hb, binV_eql, ti, binNil_int, binV_add, inc (show a ≤ 1000000 by omega)]
      rw [tiltyardref01_count_j1_eq]
      simp only [binNil_int, binV_add, bindV_some, inc (show i ≤ 1000000 by omega), idG_eq]
      exact ih (i + 1) m0 (a + 1) (by omega) (by omega) (by omega) (by omega)
    · have ti : ¬ (b : Int) = (c : Int) := by omega
      rw [if_neg t] at c1
      simp only [lenT_string, bindV_some, binV_lss, condK_bool, hlt', decide_true, if_true, idG_eq, idxT_at hb, binV_eql, ti, decide_false, Bool.false_eq_true, if_false]
      rw [tiltyardref01_count_j1_eq]
      simp only [binNil_int, binV_add, bindV_some, inc (show i ≤ 1000000 by omega), idG_eq]
      exact ih (i + 1) m0 a (by omega) (by omega) (by omega) c1
theorem countS_good : SpecGood Try.prog (29, countS) := by
  refine spec_good mixed Try.func29 (by kernel_rfl) (by kernel_rfl) (tab := []) (by simp) (keep := tiltyardref01_count_keep) ?_
  rintro args h k ⟨s, c, rfl, hs, H⟩
  refine ⟨1001, ?_⟩
  show tiltyardref01_count (tabC []) idG 1001 (.string s) (.int .u8 c) h _
  rw [tiltyardref01_count_eq]
  simp only [idG_eq]
  exact count_l0 hs ⟨_, St.le.refl _, H⟩ (letters s).length 0 1001 0 (by omega) (by rw [letters_length]; omega) (by omega) (by simp)
def refPutS : Abs.Spec := fun args h k => ∃ (n w : Nat), args = [.int .u64 n, .int .i64 w] ∧ n < 18446744073709551616 ∧ w ≤ 8 ∧ ∀ h' v', Chg h h' [] → OwnS (h.next ≤ ·) h' v' 1 ((putB n w).map bc) w → k v' h'
theorem quo_nat (s : Shp) (k : IntKind) (a b : Nat) (h : b ≠ 0) (hw : k.wrap ((a / b : Nat) : Int) = ((a / b : Nat) : Int)) : binV .quo s (.int k a) (.int k b) = some (.int k ((a / b : Nat) : Int)) := by
  simp only [binV, isShift, intV, if_true]
  rw [if_neg (by omega), Int.tdiv_eq_ediv_of_nonneg (by omega)]
  have e : (a : Int) / (b : Int) = ((a / b : Nat) : Int) := by norm_cast
  rw [e, hw]
theorem put_cells (n w j : Nat) : ((List.replicate (j + 1) 0 ++ putB n w).map bc).take j ++ [bc (n / 256 ^ w % 256)] ++ ((List.replicate (j + 1) 0 ++ putB n w).map bc).drop (j + 1) = (List.replicate j 0 ++ putB n (w + 1)).map bc := by
  have e1 : (List.replicate (j + 1) 0 ++ putB n w).map bc = (List.replicate j (bc 0)) ++ (bc 0 :: (putB n w).map bc) := by
    rw [List.replicate_succ', List.append_assoc, List.map_append, List.map_replicate]; rfl
  rw [e1]
  have l1 : (List.replicate j (bc 0)).length = j := by simp
  have e2 : (List.replicate j (bc 0) ++ (bc 0 :: (putB n w).map bc)).take j = List.replicate j (bc 0) := by rw [List.take_left' l1]
  have e3 : (List.replicate j (bc 0) ++ (bc 0 :: (putB n w).map bc)).drop (j + 1) = (putB n w).map bc := by
    have : j + 1 = (List.replicate j (bc 0)).length + 1 := by rw [l1]
    rw [this, List.drop_append]
    simp
  rw [e2, e3, putB]
  simp
theorem refPut_l0 {n nn w0 q : Nat} {x4 : Value} {h0 : St} {K : Cont} (hn : n < 18446744073709551616) (hw0 : w0 ≤ 8)
    (H : ∀ h', Chg h0 h' [q] → h'.objs q = some (.cells ((putB n w0).map bc) true) → K (.slice (some ⟨q, 0, some 1⟩) w0 0) h') :
    ∀ (j m0 w : Nat) (h : St), j + w = w0 → j < m0 → Chg h0 h [q] → h.objs q = some (.cells ((List.replicate j 0 ++ putB n w).map bc) true) →
      tiltyardref01_Put_l0 (tabC []) idG nn m0 (.int .u64 ((n / 256 ^ w : Nat) : Int)) x4 (.slice (some ⟨q, 0, some 1⟩) w0 0) (.int .i64 ((j : Int) - 1)) h K := by
  intro j
  induction j with
  | zero =>
    intro m0 w h hj hm c o
    obtain ⟨m0, rfl⟩ : ∃ m, m0 = m + 1 := ⟨m0 - 1, by omega⟩
    rw [tiltyardref01_Put_l0_eq]
    have e : w = w0 := by omega
    subst e
    simp
    rw [tiltyardref01_Put_j1_eq]
    exact H h c (by simpa using o)
  | succ j ih =>
    intro m0 w h hj hm c o
    obtain ⟨m0, rfl⟩ : ∃ m, m0 = m + 1 := ⟨m0 - 1, by omega⟩
    rw [tiltyardref01_Put_l0_eq]
    have e0 : (((j + 1 : Nat) : Int) - 1) = (j : Int) := by omega
    rw [e0]
    have hge : (0 : Int) ≤ j := Int.natCast_nonneg j
    have hlt : (j : Int) < w0 := by omega
    have r1 := rem_nat .other .u64 (n / 256 ^ w) 256 (by omega)
    have hd : n / 256 ^ w / 256 = n / 256 ^ (w + 1) := by rw [Nat.div_div_eq_div_mul, Nat.pow_succ]
    have hle : n / 256 ^ (w + 1) ≤ n := Nat.div_le_self _ _
    have r2 := quo_nat .other .u64 (n / 256 ^ w) 256 (by omega) (by rw [hd]; exact u64_wrap _ (Nat.lt_of_le_of_lt hle hn))
    rw [hd] at r2
    have r1' : binV .rem .other (.int .u64 ((n / 256 ^ w : Nat) : Int)) (.int .u64 256) = some (.int .u64 ((n / 256 ^ w % 256 : Nat) : Int)) := r1
    have r2' : binV .quo .other (.int .u64 ((n / 256 ^ w : Nat) : Int)) (.int .u64 256) = some (.int .u64 ((n / 256 ^ (w + 1) : Nat) : Int)) := r2
    have w8 : IntKind.u8.wrap ((n / 256 ^ w % 256 : Nat) : Int) = ((n / 256 ^ w % 256 : Nat) : Int) := by rw [u8_wrap, Nat.mod_mod]
    have w1 : IntKind.i64.wrap ((j : Int) - 1) = (j : Int) - 1 := i64_in _ (by omega)
    have hx : idxS 1 (.slice (some ⟨q, 0, some 1⟩) w0 0) (.int .i64 (j : Int)) = some (.pointer (some ⟨q, j, none⟩)) := by simp [idxS, hlt]
    simp only [binNil_int, binV_geq, bindV_some, condK_bool, ge_iff_le, hge, decide_true, if_true, idG_eq, r1', wrapV_int, w8, hx, storeE_ptr, o, storeM_cells, r2', binV_sub, w1]
    refine ⟨⟨rfl, by simp, rfl⟩, ?_⟩
    have pc := put_cells n w j
    have pc' : ((List.replicate (j + 1) 0 ++ putB n w).map bc).take j ++ (Value.int .u8 ((n / 256 ^ w % 256 : Nat) : Int)).cells.toList ++ ((List.replicate (j + 1) 0 ++ putB n w).map bc).drop (j + 1) = (List.replicate j 0 ++ putB n (w + 1)).map bc := pc
    rw [pc']
    exact ih m0 (w + 1) _ (by omega) (by omega) (Chg.of_set c (.inl (by simp))) (set_at _ _ _)
theorem refPutS_good : SpecGood Try.prog (30, refPutS) := by
  refine spec_good mixed Try.func30 (by kernel_rfl) (by kernel_rfl) (tab := []) (by simp) (keep := tiltyardref01_Put_keep) ?_
  rintro args h k ⟨n, w, rfl, hnn, hw, H⟩
  refine ⟨9, ?_⟩
  show tiltyardref01_Put (tabC []) idG 9 (.int .u64 n) (.int .i64 w) h _
  rw [tiltyardref01_Put_eq]
  have w1 : IntKind.i64.wrap ((w : Int) - 1) = (w : Int) - 1 := i64_in _ (by omega)
  have hr : repL [Value.int .u8 0] w = (List.replicate w 0 ++ putB n 0).map bc := by
    have : ∀ w, repL [Value.int .u8 0] w = (List.replicate w 0).map bc := by
      intro w; induction w with
      | zero => rfl
      | succ w ih => simp only [repL, ih, List.replicate_succ, List.map_cons]; rfl
    rw [this]; simp [putB]
  simp only [makeSliceE, Int.toNat_natCast, binNil_int, binV_sub, bindV_some, w1, idG_eq]
  refine ⟨⟨by omega, by omega, by omega, by omega⟩, ?_⟩
  have e : ((n : Nat) : Int) = ((n / 256 ^ 0 : Nat) : Int) := by simp
  rw [hr, e]
  refine refPut_l0 (q := h.next) (h0 := h.push (.cells ((List.replicate w 0 ++ putB n 0).map bc) true)) hnn hw ?_ w 9 0 _ (by omega) (by omega) (Chg.refl _ _) (push_at _ _)
  intro h' c o
  have n1 := c.1
  refine ⟨_, St.le.refl _, H h' _ (((Chg.push _ []).toP (D := fun i => h.next ≤ i) (by simp) |>.step (c.toP (by simp))).list (by intro i hi hh; omega)) (.inr ⟨h.next, rfl, Nat.le_refl _, by simp at n1; omega, o, by simp [putB_length]⟩)⟩
end Go.Proofs.Ytiaijbkmgajieaa
