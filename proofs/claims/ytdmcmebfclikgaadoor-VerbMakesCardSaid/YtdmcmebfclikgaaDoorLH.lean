/- The document's 'count' and 'Put'. -/
import Derived.Test.YtdmcmebfclikgaaDoorAK
import Derived.Test.YtdmcmebfclikgaaDoorGenW
import Derived.Test.YtdmcmebfclikgaaDoorGenE
set_option linter.unusedSimpArgs false
set_option linter.unusedVariables false
set_option maxHeartbeats 4000000
namespace Go.Proofs.YtdmcmebfclikgaaDoor
open Go.Abs Go.IntWalk

def countS : Abs.Spec := fun args h k => ∃ (s : ByteArray) (c : Nat), args = [.string s, .int .u8 c] ∧ s.size ≤ 1000 ∧ k (.int .i64 (cnt c (letters s))) h
theorem count_l0 {s : ByteArray} {nn c : Nat} {x2 : Value} {h : St} {K : Cont} (hs : s.size ≤ 1000) (H : K (.int .i64 (cnt c (letters s))) h) :
    ∀ (d i m0 a : Nat), i + d = (letters s).length → d < m0 → a ≤ i → a + cnt c ((letters s).drop i) = cnt c (letters s) → tiltyardref01_count_l0 (tabC []) idG nn m0 (.string s) (.int .u8 c) x2 (.int .i64 a) (.int .i64 i) h K := by
  intro d
  have hsz := letters_length s
  induction d with
  | zero =>
    intro i m0 a hi hm ha c1
    obtain ⟨m0, rfl⟩ : ∃ m, m0 = m + 1 := ⟨m0 - 1, by omega⟩
    rw [tiltyardref01_count_l0_eq]
    have e' : ¬ ((i : Int) < s.size) := by omega
    have z : (letters s).drop i = [] := by rw [List.drop_eq_nil_iff]; omega
    rw [z] at c1
    simp only [cnt, Nat.add_zero] at c1
    simp only [lenT_string, bindV_some, binV_lss, condK_bool, e', decide_false, Bool.false_eq_true, if_false, idG_eq]
    rw [tiltyardref01_count_j2_eq, c1]
    exact H
  | succ d ih =>
    intro i m0 a hi hm ha c1
    obtain ⟨m0, rfl⟩ : ∃ m, m0 = m + 1 := ⟨m0 - 1, by omega⟩
    rw [tiltyardref01_count_l0_eq]
    have hlt : i < (letters s).length := by omega
    have hlt' : (i : Int) < s.size := by omega
    obtain ⟨b, hb⟩ : ∃ b, (letters s)[i]? = some b := ⟨_, List.getElem?_eq_getElem hlt⟩
    have hd : (letters s).drop i = b :: (letters s).drop (i + 1) := by
      rw [List.drop_eq_getElem_cons hlt]
      congr 1
      exact (List.getElem?_eq_some_iff.1 hb).2
    rw [hd] at c1
    simp only [cnt] at c1
    by_cases t : b = c
    · have ti : (b : Int) = (c : Int) := by omega
      rw [if_pos t] at c1
      simp only [lenT_string, bindV_some, binV_lss, condK_bool, hlt', decide_true, if_true, idG_eq, idxT_at hb, binV_eql, ti, binNil_int, binV_add, inc (show a ≤ 1000000 by omega)]
      rw [tiltyardref01_count_j1_eq]
      simp only [binNil_int, binV_add, bindV_some, inc (show i ≤ 1000000 by omega), idG_eq]
      exact ih (i + 1) m0 (a + 1) (by omega) (by omega) (by omega) (by omega)
    · have ti : ¬ (b : Int) = (c : Int) := by omega
      rw [if_neg t] at c1
      simp only [lenT_string, bindV_some, binV_lss, condK_bool, hlt', decide_true, if_true, idG_eq, idxT_at hb, binV_eql, ti, decide_false, Bool.false_eq_true, if_false]
      rw [tiltyardref01_count_j1_eq]
      simp only [binNil_int, binV_add, bindV_some, inc (show i ≤ 1000000 by omega), idG_eq]
      exact ih (i + 1) m0 a (by omega) (by omega) (by omega) c1
theorem countS_good : SpecGood Tryd.prog (49, countS) := by
  refine spec_good mixed Tryd.func49 (by kernel_rfl) (by kernel_rfl) (tab := []) (by simp) (keep := tiltyardref01_count_keep) ?_
  rintro args h k ⟨s, c, rfl, hs, H⟩
  refine ⟨1001, ?_⟩
  show tiltyardref01_count (tabC []) idG 1001 (.string s) (.int .u8 c) h _
  rw [tiltyardref01_count_eq]
  simp only [idG_eq]
  exact count_l0 hs ⟨_, St.le.refl _, H⟩ (letters s).length 0 1001 0 (by omega) (by rw [letters_length]; omega) (by omega) (by simp)
def refPutS : Abs.Spec := fun args h k => ∃ (n w : Nat), args = [.int .u64 n, .int .i64 w] ∧ n < 18446744073709551616 ∧ w ≤ 8 ∧ ∀ h' v', Chg h h' [] → OwnS (h.next ≤ ·) h' v' 1 ((putB n w).map bc) w → k v' h'
theorem quo_nat (s : Shp) (k : IntKind) (a b : Nat) (h : b ≠ 0) (hw : k.wrap ((a / b : Nat) : Int) = ((a / b : Nat) : Int)) : binV .quo s (.int k a) (.int k b) = some (.int k ((a / b : Nat) : Int)) := by
  simp only [binV, isShift, intV, if_true]
  rw [if_neg (by omega), Int.tdiv_eq_ediv_of_nonneg (by omega)]
  have e : (a : Int) / (b : Int) = ((a / b : Nat) : Int) := by norm_cast
  rw [e, hw]
theorem put_cells (n w j : Nat) : ((List.replicate (j + 1) 0 ++ putB n w).map bc).take j ++ [bc (n / 256 ^ w % 256)] ++ ((List.replicate (j + 1) 0 ++ putB n w).map bc).drop (j + 1) = (List.replicate j 0 ++ putB n (w + 1)).map bc := by
  have e1 : (List.replicate (j + 1) 0 ++ putB n w).map bc = (List.replicate j (bc 0)) ++ (bc 0 :: (putB n w).map bc) := by
    rw [List.replicate_succ', List.append_assoc, List.map_append, List.map_replicate]; rfl
  rw [e1]
  have l1 : (List.replicate j (bc 0)).length = j := by simp
  have e2 : (List.replicate j (bc 0) ++ (bc 0 :: (putB n w).map bc)).take j = List.replicate j (bc 0) := by rw [List.take_left' l1]
  have e3 : (List.replicate j (bc 0) ++ (bc 0 :: (putB n w).map bc)).drop (j + 1) = (putB n w).map bc := by
    have : j + 1 = (List.replicate j (bc 0)).length + 1 := by rw [l1]
    rw [this, List.drop_append]
    simp
  rw [e2, e3, putB]
  simp
theorem refPut_l0 {n nn w0 q : Nat} {x4 : Value} {h0 : St} {K : Cont} (hn : n < 18446744073709551616) (hw0 : w0 ≤ 8)
    (H : ∀ h', Chg h0 h' [q] → h'.objs q = some (.cells ((putB n w0).map bc) true) → K (.slice (some ⟨q, 0, some 1⟩) w0 0) h') :
    ∀ (j m0 w : Nat) (h : St), j + w = w0 → j < m0 → Chg h0 h [q] → h.objs q = some (.cells ((List.replicate j 0 ++ putB n w).map bc) true) →
      tiltyardref01_Put_l0 (tabC []) idG nn m0 (.int .u64 ((n / 256 ^ w : Nat) : Int)) x4 (.slice (some ⟨q, 0, some 1⟩) w0 0) (.int .i64 ((j : Int) - 1)) h K := by
  intro j
  induction j with
  | zero =>
    intro m0 w h hj hm c o
    obtain ⟨m0, rfl⟩ : ∃ m, m0 = m + 1 := ⟨m0 - 1, by omega⟩
    rw [tiltyardref01_Put_l0_eq]
    have e : w = w0 := by omega
    subst e
    simp
    rw [tiltyardref01_Put_j1_eq]
    exact H h c (by simpa using o)
  | succ j ih =>
    intro m0 w h hj hm c o
    obtain ⟨m0, rfl⟩ : ∃ m, m0 = m + 1 := ⟨m0 - 1, by omega⟩
    rw [tiltyardref01_Put_l0_eq]
    have e0 : (((j + 1 : Nat) : Int) - 1) = (j : Int) := by omega
    rw [e0]
    have hge : (0 : Int) ≤ j := Int.natCast_nonneg j
    have hlt : (j : Int) < w0 := by omega
    have r1 := rem_nat .other .u64 (n / 256 ^ w) 256 (by omega)
    have hd : n / 256 ^ w / 256 = n / 256 ^ (w + 1) := by rw [Nat.div_div_eq_div_mul, Nat.pow_succ]
    have hle : n / 256 ^ (w + 1) ≤ n := Nat.div_le_self _ _
    have r2 := quo_nat .other .u64 (n / 256 ^ w) 256 (by omega) (by rw [hd]; exact u64_wrap _ (Nat.lt_of_le_of_lt hle hn))
    rw [hd] at r2
    have r1' : binV .rem .other (.int .u64 ((n / 256 ^ w : Nat) : Int)) (.int .u64 256) = some (.int .u64 ((n / 256 ^ w % 256 : Nat) : Int)) := r1
    have r2' : binV .quo .other (.int .u64 ((n / 256 ^ w : Nat) : Int)) (.int .u64 256) = some (.int .u64 ((n / 256 ^ (w + 1) : Nat) : Int)) := r2
    have w8 : IntKind.u8.wrap ((n / 256 ^ w % 256 : Nat) : Int) = ((n / 256 ^ w % 256 : Nat) : Int) := by rw [u8_wrap, Nat.mod_mod]
    have w1 : IntKind.i64.wrap ((j : Int) - 1) = (j : Int) - 1 := i64_in _ (by omega)
    have hx : idxS 1 (.slice (some ⟨q, 0, some 1⟩) w0 0) (.int .i64 (j : Int)) = some (.pointer (some ⟨q, j, none⟩)) := by simp [idxS, hlt]
    simp only [binNil_int, binV_geq, bindV_some, condK_bool, ge_iff_le, hge, decide_true, if_true, idG_eq, r1', wrapV_int, w8, hx, storeE_ptr, o, storeM_cells, r2', binV_sub, w1]
    refine ⟨⟨rfl, by simp, rfl⟩, ?_⟩
    have pc := put_cells n w j
    have pc' : ((List.replicate (j + 1) 0 ++ putB n w).map bc).take j ++ (Value.int .u8 ((n / 256 ^ w % 256 : Nat) : Int)).cells.toList ++ ((List.replicate (j + 1) 0 ++ putB n w).map bc).drop (j + 1) = (List.replicate j 0 ++ putB n (w + 1)).map bc := pc
    rw [pc']
    exact ih m0 (w + 1) _ (by omega) (by omega) (Chg.of_set c (.inl (by simp))) (set_at _ _ _)
theorem refPutS_good : SpecGood Tryd.prog (51, refPutS) := by
  refine spec_good mixed Tryd.func51 (by kernel_rfl) (by kernel_rfl) (tab := []) (by simp) (keep := tiltyardref01_Put_keep) ?_
  rintro args h k ⟨n, w, rfl, hnn, hw, H⟩
  refine ⟨9, ?_⟩
  show tiltyardref01_Put (tabC []) idG 9 (.int .u64 n) (.int .i64 w) h _
  rw [tiltyardref01_Put_eq]
  have w1 : IntKind.i64.wrap ((w : Int) - 1) = (w : Int) - 1 := i64_in _ (by omega)
  have hr : repL [Value.int .u8 0] w = (List.replicate w 0 ++ putB n 0).map bc := by
    have : ∀ w, repL [Value.int .u8 0] w = (List.replicate w 0).map bc := by
      intro w; induction w with
      | zero => rfl
      | succ w ih => simp only [repL, ih, List.replicate_succ, List.map_cons]; rfl
    rw [this]; simp [putB]
  simp only [makeSliceE, Int.toNat_natCast, binNil_int, binV_sub, bindV_some, w1, idG_eq]
  refine ⟨⟨by omega, by omega, by omega, by omega⟩, ?_⟩
  have e : ((n : Nat) : Int) = ((n / 256 ^ 0 : Nat) : Int) := by simp
  rw [hr, e]
  refine refPut_l0 (q := h.next) (h0 := h.push (.cells ((List.replicate w 0 ++ putB n 0).map bc) true)) hnn hw ?_ w 9 0 _ (by omega) (by omega) (Chg.refl _ _) (push_at _ _)
  intro h' c o
  have n1 := c.1
  refine ⟨_, St.le.refl _, H h' _ (((Chg.push _ []).toP (D := fun i => h.next ≤ i) (by simp) |>.step (c.toP (by simp))).list (by intro i hi hh; omega)) (.inr ⟨h.next, rfl, Nat.le_refl _, by simp at n1; omega, o, by simp [putB_length]⟩)⟩
end Go.Proofs.YtdmcmebfclikgaaDoor

/- The document's Write. -/
set_option linter.unusedSimpArgs false
set_option linter.unusedVariables false
set_option maxHeartbeats 4000000
namespace Go.Proofs.YtdmcmebfclikgaaDoor
open Go.Abs Go.IntWalk
attribute [local congr] bindV_w condK_w guardK_w groupK_w allocE_w boxE_w storeE_w storeM_w tabC_w ite_w idG_w

theorem appendE_w {dd : Prop} {size bytes : Nat} {s s' x x' : Value} {h h' : St} {k : Cont} (e : s = s') (ex : x = x') (eh : h = h') (_t : ((0 : Nat) = 0) = dd) : appendE size bytes s x h k = appendE size bytes s' x' h' k := by rw [e, ex, eh]
theorem toBytesE_w {dd : Prop} {x x' : Value} {h h' : St} {k : Cont} (ex : x = x') (eh : h = h') (_t : ((0 : Nat) = 0) = dd) : toBytesE x h k = toBytesE x' h' k := by rw [ex, eh]
theorem buildSliceE_w {dd : Prop} {size len : Nat} {z : List Value} {p p' : List (Nat × Nat × Value)} {h h' : St} {k : Cont} (ex : p = p') (eh : h = h') (_t : ((0 : Nat) = 0) = dd) : buildSliceE size len z p h k = buildSliceE size len z p' h' k := by rw [ex, eh]
attribute [local congr] appendE_w toBytesE_w buildSliceE_w
theorem toBytesE_string (s : ByteArray) (h : St) (k : Cont) : toBytesE (.string s) h k = (s.size ≤ 140737488355328 ∧ k (.slice (some ⟨h.next, 0, none⟩) s.size 0) (h.push (.cells (s.data.toList.map fun b => .int .u8 b.toNat) false))) := propext Iff.rfl
theorem build_byte (x : Int) (h : St) (k : Cont) : buildSliceE 1 1 [.int .u8 0] [(0 * 1, 1, .int .u8 x)] h k = k (.slice (some ⟨h.next, 0, some 1⟩) 1 0) (h.push (.cells [.int .u8 x] true)) := by
  simp [buildSliceE, fillL, repL, allOne_eq]
theorem wr_stuck : ∀ (cs N : List Nat) (S : List ByteArray) (L : List (List Nat)) (out : List Nat), (wr cs N S L (2, out)).1 = 2
  | [], _, _, _, _ => rfl
  | c :: cs, N, S, L, out => by
    have e : ∀ n w, errN 2 n w = 2 := fun n w => by simp [errN]
    simp only [wr]
    split
    · cases S with
      | nil => rfl
      | cons s S => simp only [e]; exact wr_stuck _ _ _ _ _
    · split
      · cases L with
        | nil => rfl
        | cons l L => simp only [e]; exact wr_stuck _ _ _ _ _
      · cases N with
        | nil => rfl
        | cons n N => simp only [e]; exact wr_stuck _ _ _ _ _
def finW (r : Nat × List Nat) : Nat × List Nat := if r.1 ≠ 0 then (r.1, []) else r
theorem conv_cells {h : St} {b : Nat} {s : ByteArray} (ho : h.objs b = some (.cells (s.data.toList.map fun b => .int .u8 b.toNat) false)) : newCells 1 (.slice (some ⟨b, 0, none⟩) s.size 0) h = some ((letters s).map bc, (letters s).length) := by
  have e : s.data.toList.map (fun b => Value.int .u8 b.toNat) = (letters s).map bc := by simp [letters, bc, Function.comp_def]
  rw [e] at ho
  have hl : (letters s).length = s.size := letters_length s
  cases hn : s.size with
  | zero =>
    have : letters s = [] := List.eq_nil_of_length_eq_zero (by omega)
    rw [this]; rfl
  | succ n =>
    simp only [newCells, ho, Nat.mul_one]
    have : takeN ((letters s).map bc) 0 (n + 1) = some ((letters s).map bc) := by
      unfold takeN
      rw [if_pos (by simp; omega), List.drop_zero, List.take_of_length_le (by simp; omega)]
    rw [this]
    simp; omega
theorem byte_cells {h : St} {b w : Nat} (ho : h.objs b = some (.cells [.int .u8 w] true)) : newCells 1 (.slice (some ⟨b, 0, some 1⟩) 1 0) h = some ([bc w], 1) := by
  simp only [newCells, ho, Nat.mul_one]
  rfl
def tabJ : List (FuncId × Abs.Spec) := [(49, countS), (50, refLeastS), (51, refPutS), (52, refWidthS), (53, refNumS)]
theorem tabJ_good : ∀ p ∈ tabJ, SpecGood Tryd.prog p := by simp [tabJ, countS_good, show SpecGood Tryd.prog (50, refLeastS) from ⟨refLeastS_ok, refLeastS_live⟩, refPutS_good, show SpecGood Tryd.prog (52, refWidthS) from ⟨refWidthS_ok, refWidthS_live⟩, refNumS_good]
/-- The lists' numbers, each in four bytes. -/
theorem rw_l2 {V : Nat → Prop} {nn m0 fb : Nat} {x0 x4 x5 x9 x10 x12 x13 x15 vN vS vL : Value} {lv : Nat → Value} {N : List Nat} {S : List ByteArray} {L : List (List Nat)} {h0 : St} {K : Cont} {li : Nat} {l : List Nat} (hli : L[li]? = some l) (hl : l.length ≤ 255) (hx : ∀ x ∈ l, x < 4294967296)
    (hfb : fb < h0.next) (ofb : h0.objs fb = some (.cells [vN, vS, vL] true)) (F : FieldsAt V h0 vN vS vL lv N S L) :
    ∀ (d k m1 : Nat) (h : St) (x8 : Value) (out : List Nat), k + d = l.length → d < m1 → Chg h0 h [] → OwnS (h0.next ≤ ·) h x8 1 (out.map bc) out.length → out.length + 4 * d ≤ 500000 →
      (∀ h' v', Chg h0 h' [] → OwnS (h0.next ≤ ·) h' v' 1 ((out ++ (l.drop k).flatMap fun x => putB x 4).map bc) (out ++ (l.drop k).flatMap fun x => putB x 4).length → ∀ x14, tiltyardref01_Write_j5 (tabC tabJ) idG nn m0 x0 (ptr fb) x4 x5 v' x9 x10 (.int .i64 li) x12 x13 x14 x15 h' K) →
      tiltyardref01_Write_l2 (tabC tabJ) idG nn m0 m1 x0 (ptr fb) x4 x5 x8 x9 x10 (.int .i64 li) x12 x13 (.int .i64 k) x15 h K := by
  intro d
  induction d with
  | zero =>
    intro k m1 h x8 out hk hm c o ho H
    obtain ⟨m1, rfl⟩ : ∃ m, m1 = m + 1 := ⟨m1 - 1, by omega⟩
    rw [tiltyardref01_Write_l2_eq]
    have e : k = l.length := by omega
    subst e
    have o1 := c.at hfb (by simp) ofb
    have F1 := F.chg c (by simp)
    have hlt : (li : Int) < L.length := by have := (List.getElem?_eq_some_iff.1 hli).1; omega
    obtain ⟨b, oo, g1, g2, g3, cs, own, g4, g5⟩ := F1.2.2.1.idx (Int.natCast_nonneg li) hlt .i64
    have g6 := takeN_get g5 (j := 0) (by omega)
    simp only [Nat.add_zero, List.getElem?_cons_zero, Int.toNat_natCast] at g6
    have sl := F1.2.2.2 li l hli
    simp only [ptr, offV_ptr, bindV_some, loadV_ptr, o1, loadM_cells, partV_one, Nat.zero_add, List.getElem?_cons_succ, List.getElem?_cons_zero, g1, g4, g6, sl.len, binV_lss, Int.lt_irrefl, decide_false, condK_bool, Bool.false_eq_true, if_false, idG_eq]
    have := H h x8 c (by simpa using o) (.int .i64 l.length)
    exact this
  | succ d ih =>
    intro k m1 h x8 out hk hm c o ho H
    obtain ⟨m1, rfl⟩ : ∃ m, m1 = m + 1 := ⟨m1 - 1, by omega⟩
    rw [tiltyardref01_Write_l2_eq]
    have o1 := c.at hfb (by simp) ofb
    have F1 := F.chg c (by simp)
    have hlt : (li : Int) < L.length := by have := (List.getElem?_eq_some_iff.1 hli).1; omega
    obtain ⟨b, oo, g1, g2, g3, cs, own, g4, g5⟩ := F1.2.2.1.idx (Int.natCast_nonneg li) hlt .i64
    have g6 := takeN_get g5 (j := 0) (by omega)
    simp only [Nat.add_zero, List.getElem?_cons_zero, Int.toNat_natCast] at g6
    have sl := F1.2.2.2 li l hli
    have hk' : k < l.length := by omega
    have hkk : (k : Int) < l.length := by omega
    obtain ⟨b2, oo2, k1, k2, k3, cs2, own2, k4, k5⟩ := sl.idx (Int.natCast_nonneg k) hkk .i64
    have k6 := takeN_get k5 (j := 0) (by omega)
    have hg : l[k]?.getD 0 = l[k] := by rw [List.getElem?_eq_getElem hk']; rfl
    simp only [rowU, Nat.add_zero, List.getElem?_cons_zero, Int.toNat_natCast, hg] at k6
    have hxk := hx l[k] (List.getElem_mem hk')
    have wx : IntKind.u64.wrap ((l[k] : Nat) : Int) = (l[k] : Nat) := u64_in _ (by omega)
    have inc : IntKind.i64.wrap ((k : Int) + 1) = ((k + 1 : Nat) : Int) := by rw [i64_in _ (by omega)]; omega
    have hd : l.drop k = l[k] :: l.drop (k + 1) := List.drop_eq_getElem_cons hk'
    rw [hd] at H
    simp only [ptr, offV_ptr, bindV_some, loadV_ptr, o1, loadM_cells, partV_one, Nat.zero_add, List.getElem?_cons_succ, List.getElem?_cons_zero, g1, g4, g6, sl.len, binV_lss, hkk, decide_true, condK_bool, if_true, idG_eq, k1, k4, k6, wrapV_int, wx]
    refine .inr (.inr (.inl ⟨rfl, l[k], 4, rfl, by omega, by omega, fun h2 v2 c2 o2 => ?_⟩))
    have o2' : OwnS (h.next ≤ ·) h2 v2 1 ((putB l[k] 4).map bc) (putB l[k] 4).length := by rw [putB_length]; exact o2
    refine append_own' (B := (h0.next ≤ ·)) (new := (putB l[k] 4).map bc) (m := (putB l[k] 4).length) (by have := c.1; have := c2.1; omega) (o.chg c2 (by simp)) (newCells_bytes (own_bytes o2')) (by simp) (one_bc _) (by rw [putB_length]; omega) (by rw [putB_length]; omega) fun h3 v3 c3 o3 => ?_
    simp only [bindV_some, binNil_int, binV_add, inc, idG_eq]
    have e1 : out.map bc ++ (putB l[k] 4).map bc = (out ++ putB l[k] 4).map bc := by rw [List.map_append]
    have e2 : out.length + (putB l[k] 4).length = (out ++ putB l[k] 4).length := by rw [List.length_append]
    rw [e1, e2] at o3
    refine ih (k + 1) m1 h3 v3 (out ++ putB l[k] 4) (by omega) (by omega) ((((c.of_chg c2 (by simp)).toP (D := (h0.next ≤ ·)) (by simp)).step c3).list (by intro i hi hh; omega)) o3 (by simp [putB_length]; omega) ?_
    intro h' v' q1 q2 x14
    refine H h' v' q1 ?_ x14
    rw [List.flatMap_cons, ← List.append_assoc]
    exact q2
/-- The document's Write, letter by letter. -/
theorem rw_l0 {V : Nat → Prop} {nn fb : Nat} {s : ByteArray} {x4 x5 vN vS vL : Value} {lv : Nat → Value} {N : List Nat} {S : List ByteArray} {L : List (List Nat)} {h0 : St} {K : Cont} (SF : SmallF N S L) (h8 : (letters s).length ≤ 8)
    (hfb : fb < h0.next) (ofb : h0.objs fb = some (.cells [vN, vS, vL] true)) (F : FieldsAt V h0 vN vS vL lv N S L) :
    ∀ (d i m0 : Nat) (h : St) (x8 x13 x14 x15 : Value) (out : List Nat) (n sI lI : Nat), i + d = (letters s).length → d + 300 < m0 → Chg h0 h [] → OwnS (h0.next ≤ ·) h x8 1 (out.map bc) out.length → out.length + 2000 * d ≤ 200000 →
      cnt 115 ((letters s).drop i) = (S.drop sI).length → cnt 108 ((letters s).drop i) = (L.drop lI).length → (N.drop n).length + (S.drop sI).length + (L.drop lI).length = d → n + sI + lI = i →
      (∀ h' v', Chg h0 h' [] → OwnS (h0.next ≤ ·) h' v' 1 ((finW (wr ((letters s).drop i) (N.drop n) (S.drop sI) (L.drop lI) (0, out))).2.map bc) (finW (wr ((letters s).drop i) (N.drop n) (S.drop sI) (L.drop lI) (0, out))).2.length → K (.tuple #[v', .int .i64 (finW (wr ((letters s).drop i) (N.drop n) (S.drop sI) (L.drop lI) (0, out))).1]) h') →
      tiltyardref01_Write_l0 (tabC tabJ) idG nn m0 (.string s) (ptr fb) x4 x5 x8 (.int .i64 n) (.int .i64 sI) (.int .i64 lI) (.int .i64 i) x13 x14 x15 h K := by
  intro d
  induction d with
  | zero =>
    intro i m0 h x8 x13 x14 x15 out n sI lI hi hm c o ho c1 c2 c3 b1 H
    obtain ⟨m0, rfl⟩ : ∃ m, m0 = m + 1 := ⟨m0 - 1, by omega⟩
    rw [tiltyardref01_Write_l0_eq]
    have e : i = (letters s).length := by omega
    subst e
    rw [List.drop_length] at H
    simp only [wr, finW, ne_eq, not_true_eq_false, if_false] at H
    have hls : (s.size : Int) = ((letters s).length : Int) := by rw [letters_length]
    simp only [lenT_string, hls, bindV_some, binV_lss, Int.lt_irrefl, decide_false, condK_bool, Bool.false_eq_true, if_false, idG_eq]
    rw [tiltyardref01_Write_j4_eq]
    exact H h x8 c o
  | succ d ih =>
    intro i m0 h x8 x13 x14 x15 out n sI lI hi hm c o ho c1 c2 c3 b1 H
    obtain ⟨m0, rfl⟩ : ∃ m, m0 = m + 1 := ⟨m0 - 1, by omega⟩
    rw [tiltyardref01_Write_l0_eq]
    have hlt : i < (letters s).length := by omega
    have hls : (s.size : Int) = ((letters s).length : Int) := by rw [letters_length]
    have hlt' : (i : Int) < (letters s).length := by omega
    obtain ⟨a, ha⟩ : ∃ a, (letters s)[i]? = some a := ⟨_, List.getElem?_eq_getElem hlt⟩
    have hd : (letters s).drop i = a :: (letters s).drop (i + 1) := by
      rw [List.drop_eq_getElem_cons hlt]
      congr 1
      exact (List.getElem?_eq_some_iff.1 ha).2
    rw [hd] at c1 c2 H
    simp only [cnt] at c1 c2
    have inc : ∀ q : Nat, q ≤ 8 → IntKind.i64.wrap ((q : Int) + 1) = ((q + 1 : Nat) : Int) := fun q hq => by rw [i64_in _ (by omega)]; omega
    have o1 := c.at hfb (by simp) ofb
    have F1 := F.chg c (by simp)
    have n0 := c.1
    -- an error
    have bad : (finW (wr (a :: (letters s).drop (i + 1)) (N.drop n) (S.drop sI) (L.drop lI) (0, out))) = (2, []) → K (.tuple #[.slice none 0 0, .int .i64 2]) h := by
      intro e
      rw [e] at H
      exact H h _ c (.inl ⟨rfl, rfl, rfl⟩)
    -- the next letter
    have nx : ∀ (h' : St) (v' y13 y14 y15 : Value) (out' : List Nat) (n' sI' lI' : Nat), Chg h0 h' [] → OwnS (h0.next ≤ ·) h' v' 1 (out'.map bc) out'.length → out'.length + 2000 * d ≤ 200000 →
        cnt 115 ((letters s).drop (i + 1)) = (S.drop sI').length → cnt 108 ((letters s).drop (i + 1)) = (L.drop lI').length → (N.drop n').length + (S.drop sI').length + (L.drop lI').length = d → n' + sI' + lI' = i + 1 →
        wr (a :: (letters s).drop (i + 1)) (N.drop n) (S.drop sI) (L.drop lI) (0, out) = wr ((letters s).drop (i + 1)) (N.drop n') (S.drop sI') (L.drop lI') (0, out') →
        tiltyardref01_Write_j1 (tabC tabJ) idG nn m0 (.string s) (ptr fb) x4 x5 v' (.int .i64 n') (.int .i64 sI') (.int .i64 lI') (.int .i64 i) y13 y14 y15 h' K := by
      intro h' v' y13 y14 y15 out' n' sI' lI' q1 q2 q3 q4 q5 q6 q7 q10
      rw [q10] at H
      rw [tiltyardref01_Write_j1_eq]
      simp only [binNil_int, binV_add, bindV_some, inc i (by omega), idG_eq]
      exact ih (i + 1) m0 h' v' y13 y14 y15 out' n' sI' lI' (by omega) (by omega) q1 q2 q3 q4 q5 q6 q7 H
    simp only [lenT_string, hls, bindV_some, binV_lss, hlt', decide_true, condK_bool, if_true, idG_eq, idxT_at ha, binNil_int, binV_eql]
    by_cases t1 : a = 115
    · have t1i : (a : Int) = 115 := by omega
      have t2 : ¬ a = 108 := by omega
      rw [if_pos t1] at c1
      rw [if_neg t2] at c2
      have hS : sI < S.length := by rw [List.length_drop] at c1; omega
      have hSd : S.drop sI = S[sI] :: S.drop (sI + 1) := List.drop_eq_getElem_cons hS
      have hsv := SF.2.1 S[sI] (List.getElem_mem hS)
      have hsI : (sI : Int) < S.length := by omega
      obtain ⟨b, oo, g1, g2, g3, cs, own, g4, g5⟩ := F.2.1.idx (Int.natCast_nonneg sI) hsI .i64
      have g4 := c.at g3 (by simp) g4
      have g6 := takeN_get g5 (j := 0) (by omega)
      have hg : S[sI]?.getD .empty = S[sI] := by rw [List.getElem?_eq_getElem hS]; rfl
      simp only [rowT, Nat.add_zero, List.getElem?_cons_zero, Int.toNat_natCast, hg] at g6
      obtain ⟨sv, hsvq⟩ : ∃ z, z = S[sI] := ⟨_, rfl⟩
      rw [← hsvq] at g6 hsv hSd
      have wrs : wr (a :: (letters s).drop (i + 1)) (N.drop n) (S.drop sI) (L.drop lI) (0, out) = wr ((letters s).drop (i + 1)) (N.drop n) (S.drop (sI + 1)) (L.drop lI) (errN 0 sv.size 1, out ++ putB sv.size 1 ++ letters sv) := by
        rw [hSd]
        simp only [wr, if_pos t1]
      simp only [t1i, decide_true, condK_bool, if_true, ptr, offV_ptr, bindV_some, loadV_ptr, o1, loadM_cells, partV_one, Nat.zero_add, List.getElem?_cons_succ, List.getElem?_cons_zero, g1, g4, g6, lenT_string, binNil_int, binV_gtr]
      by_cases big : sv.size > 255
      · have big' : (sv.size : Int) > 255 := by omega
        simp only [big', decide_true, condK_bool, if_true]
        refine bad ?_
        rw [wrs]
        have e : errN 0 sv.size 1 = 2 := by
          unfold errN
          rw [if_pos ⟨by omega, by omega, rfl⟩]
        rw [e]
        unfold finW
        rw [wr_stuck]
        rfl
      · have big' : ¬ (sv.size : Int) > 255 := by omega
        have e : errN 0 sv.size 1 = 0 := by
          unfold errN
          rw [if_neg (by omega)]
        have w8 : IntKind.u8.wrap ((sv.size : Nat) : Int) = (sv.size : Nat) := by simp only [IntKind.wrap, IntKind.bits, IntKind.signed]; simp; omega
        have pb : putB sv.size 1 = [sv.size] := by simp [putB]; omega
        have hll : (letters sv).length = sv.size := letters_length sv
        have fin3 : ∀ (h' : St) (v' y13 y14 y15 : Value), Chg h0 h' [] → OwnS (h0.next ≤ ·) h' v' 1 ((out ++ [sv.size] ++ letters sv).map bc) (out ++ [sv.size] ++ letters sv).length →
            tiltyardref01_Write_j1 (tabC tabJ) idG nn m0 (.string s) (ptr fb) x4 x5 v' (.int .i64 n) (.int .i64 ((sI + 1 : Nat) : Int)) (.int .i64 lI) (.int .i64 i) y13 y14 y15 h' K := by
          intro h' v' y13 y14 y15 q1 q2
          refine nx h' v' _ _ _ (out ++ [sv.size] ++ letters sv) n (sI + 1) lI q1 q2 (by simp; omega) (by rw [hSd] at c1; simp at c1 ⊢; omega) c2 (by rw [hSd] at c3; simp at c3 ⊢; omega) (by omega) ?_
          rw [wrs, e, pb]
        have eo1 : out.map bc ++ [bc sv.size] = (out ++ [sv.size]).map bc := by simp
        have eo2 : out.length + 1 = (out ++ [sv.size]).length := by simp
        have eo3 : (out ++ [sv.size]).map bc ++ (letters sv).map bc = (out ++ [sv.size] ++ letters sv).map bc := by simp
        have eo4 : (out ++ [sv.size]).length + (letters sv).length = (out ++ [sv.size] ++ letters sv).length := by simp only [List.length_append]
        have ho1 : (out ++ [sv.size]).length ≤ 200001 := by simp; omega
        have hsp : sv.size ≤ 140737488355328 := by omega
        have hb0 : b < h0.next := g3
        have hnb : ∀ {D : Nat → Prop}, (∀ i, D i → h0.next ≤ i) → ¬ D b := fun hD h => by have := hD _ h; omega
        have hnf : ∀ {D : Nat → Prop}, (∀ i, D i → h0.next ≤ i) → ¬ D fb := fun hD h => by have := hD _ h; omega
        have two : ∀ (hh : St) (A T : Nat), Chg h hh [] → hh.next = h.next + 2 → h.next ≤ A → A < hh.next → h.next ≤ T → T < hh.next → hh.objs A = some (.cells [.int .u8 (sv.size : Nat)] true) → hh.objs T = some (.cells (sv.data.toList.map fun b => .int .u8 b.toNat) false) →
            ∀ k : Cont, (∀ h3 v3, h3.objs fb = some (.cells [vN, vS, vL] true) → h3.objs b = some (.cells cs own) →
              (∀ k' : Cont, (∀ h4 v4, Chg h0 h4 [] → OwnS (h0.next ≤ ·) h4 v4 1 ((out ++ [sv.size] ++ letters sv).map bc) (out ++ [sv.size] ++ letters sv).length → k' v4 h4) → appendE 1 1 v3 (.slice (some ⟨T, 0, none⟩) sv.size 0) h3 k') → k v3 h3) →
            appendE 1 1 x8 (.slice (some ⟨A, 0, some 1⟩) 1 0) hh k := by
          intro hh A T ch hn lA uA lT uT oA oT k hk
          have o1h := ch.at (by omega) (by simp) o1
          have g4h := ch.at (by omega) (by simp) g4
          have oh := (o.imp (B' := fun i => h0.next ≤ i ∧ i ≠ A ∧ i ≠ T) fun i hi h => ⟨h, by omega, by omega⟩).chg ch (by simp)
          refine append_own' (B := fun i => h0.next ≤ i ∧ i ≠ A ∧ i ≠ T) ⟨by omega, by omega, by omega⟩ oh (byte_cells oA) rfl rfl (by omega) (by omega) fun h3 v3 c3' o3 => ?_
          rw [eo1, eo2] at o3
          refine hk h3 v3 (c3'.at (by omega) (by omega) o1h) (c3'.at (by omega) (by omega) g4h) fun k' hk' => ?_
          have n3 := c3'.1
          have oT3 := c3'.at uT (by omega) oT
          refine append_own' (B := (h0.next ≤ ·)) (by omega) (o3.imp fun i hi h => h.1) (conv_cells oT3) (by simp) (one_bc _) (by omega) (by omega) fun h4 v4 c4 o4 => ?_
          rw [eo3, eo4] at o4
          have cc : Chg h0 h3 [] := (((c.of_chg ch (by simp)).toP (D := (h0.next ≤ ·)) (by simp)).step (c3'.mono fun i hi h => h.1)).list (by intro i hi hh; omega)
          exact hk' h4 v4 (((cc.toP (D := (h0.next ≤ ·)) (by simp)).step c4).list (by intro i hi hh; omega)) o4
        simp only [big', decide_false, condK_bool, Bool.false_eq_true, if_false, idG_eq]
        refine ⟨⟨?_, ?_⟩, ?_⟩
        · -- byte, append, bytes, append
          simp only [ptr, offV_ptr, bindV_some, loadV_ptr, o1, loadM_cells, partV_one, Nat.zero_add, List.getElem?_cons_succ, List.getElem?_cons_zero, true_and, and_true, g1, g4, g6, lenT_string, wrapV_int, w8, build_byte]
          have oA := push_at h (.cells [.int .u8 (sv.size : Nat)] true)
          have cA : Chg h (h.push (.cells [.int .u8 (sv.size : Nat)] true)) [] := Chg.push _ _
          have o1A := cA.at (by omega) (by simp) o1
          have g4A := cA.at (by omega) (by simp) g4
          refine append_own' (B := (h0.next ≤ ·)) (by simp; omega) (o.chg cA (by simp)) (byte_cells oA) rfl rfl (by omega) (by omega) fun h3 v3 c3' o3 => ?_
          rw [eo1, eo2] at o3
          have nA := cA.1
          have n3 := c3'.1
          have o13 := c3'.at (by omega) (hnf fun _ h => h) o1A
          have g43 := c3'.at (by omega) (hnb fun _ h => h) g4A
          have cA3 : Chg h0 h3 [] := (((c.of_chg cA (by simp)).toP (D := (h0.next ≤ ·)) (by simp)).step c3').list (by intro i hi hh; omega)
          simp only [ptr, offV_ptr, bindV_some, loadV_ptr, o13, o1A, o1, loadM_cells, partV_one, Nat.zero_add, List.getElem?_cons_succ, List.getElem?_cons_zero, true_and, and_true, g1, g4, g4A, g43, g6, toBytesE_string, hsp]
          have oB := push_at h3 (.cells (sv.data.toList.map fun b => .int .u8 b.toNat) false)
          have cB : Chg h3 (h3.push (.cells (sv.data.toList.map fun b => .int .u8 b.toNat) false)) [] := Chg.push _ _
          refine append_own' (B := (h0.next ≤ ·)) (by have := cB.1; omega) (o3.chg cB (by simp)) (conv_cells oB) (by simp) (one_bc _) (by omega) (by omega) fun h4 v4 c4 o4 => ?_
          simp only [true_and, bindV_some, binNil_int, binV_add, inc sI (by omega), idG_eq]
          rw [eo3, eo4] at o4
          exact fin3 h4 v4 _ _ _ ((((cA3.of_chg cB (by simp)).toP (D := (h0.next ≤ ·)) (by simp)).step c4).list (by intro i hi hh; omega)) o4
        · -- byte, bytes, append, append
          simp only [ptr, offV_ptr, bindV_some, loadV_ptr, o1, loadM_cells, partV_one, Nat.zero_add, List.getElem?_cons_succ, List.getElem?_cons_zero, true_and, and_true, g1, g4, g6, lenT_string, wrapV_int, w8, build_byte]
          have oA := push_at h (.cells [.int .u8 (sv.size : Nat)] true)
          have cA : Chg h (h.push (.cells [.int .u8 (sv.size : Nat)] true)) [] := Chg.push _ _
          have o1A := cA.at (by omega) (by simp) o1
          have g4A := cA.at (by omega) (by simp) g4
          simp only [ptr, offV_ptr, bindV_some, loadV_ptr, o1A, o1, loadM_cells, partV_one, Nat.zero_add, List.getElem?_cons_succ, List.getElem?_cons_zero, true_and, and_true, g1, g4, g4A, g6, toBytesE_string, hsp]
          have cB : Chg (h.push (.cells [.int .u8 (sv.size : Nat)] true)) ((h.push (.cells [.int .u8 (sv.size : Nat)] true)).push (.cells (sv.data.toList.map fun b => .int .u8 b.toNat) false)) [] := Chg.push _ _
          refine two _ h.next (h.next + 1) (cA.of_chg cB (by simp)) rfl (by omega) (by show h.next < h.next + 1 + 1; omega) (by omega) (by show h.next + 1 < h.next + 1 + 1; omega) (cB.at (by show h.next < h.next + 1; omega) (by simp) oA) (push_at _ _) _ fun h3 v3 o13 g43 ap => ?_
          simp only [loadV_ptr, o13, o1, loadM_cells, partV_one, Nat.zero_add, List.getElem?_cons_succ, List.getElem?_cons_zero, true_and, and_true, g43, g6]
          refine ap _ fun h4 v4 c4 o4 => ?_
          simp only [true_and, bindV_some, binNil_int, binV_add, inc sI (by omega), idG_eq]
          exact fin3 h4 v4 _ _ _ c4 o4
        · -- bytes, byte, append, append
          simp only [ptr, offV_ptr, bindV_some, loadV_ptr, o1, loadM_cells, partV_one, Nat.zero_add, List.getElem?_cons_succ, List.getElem?_cons_zero, true_and, and_true, g1, g4, g6, lenT_string, wrapV_int, w8, toBytesE_string, hsp]
          have oA := push_at h (.cells (sv.data.toList.map fun b => .int .u8 b.toNat) false)
          have cA : Chg h (h.push (.cells (sv.data.toList.map fun b => .int .u8 b.toNat) false)) [] := Chg.push _ _
          have o1A := cA.at (by omega) (by simp) o1
          have g4A := cA.at (by omega) (by simp) g4
          simp only [loadV_ptr, o1A, o1, loadM_cells, partV_one, Nat.zero_add, List.getElem?_cons_succ, List.getElem?_cons_zero, true_and, and_true, g4, g4A, g6, build_byte]
          have cB : Chg (h.push (.cells (sv.data.toList.map fun b => .int .u8 b.toNat) false)) ((h.push (.cells (sv.data.toList.map fun b => .int .u8 b.toNat) false)).push (.cells [.int .u8 (sv.size : Nat)] true)) [] := Chg.push _ _
          have o1B := cB.at (by show fb < h.next + 1; omega) (by simp) o1A
          have g4B := cB.at (by show b < h.next + 1; omega) (by simp) g4A
          simp only [loadV_ptr, o1B, o1, loadM_cells, partV_one, Nat.zero_add, List.getElem?_cons_succ, List.getElem?_cons_zero, true_and, and_true, g4B, g6]
          refine two _ (h.next + 1) h.next (cA.of_chg cB (by simp)) rfl (by omega) (by show h.next + 1 < h.next + 1 + 1; omega) (by omega) (by show h.next < h.next + 1 + 1; omega) (push_at _ _) (cB.at (by show h.next < h.next + 1; omega) (by simp) oA) _ fun h3 v3 o13 g43 ap => ?_
          simp only [loadV_ptr, o13, o1, loadM_cells, partV_one, Nat.zero_add, List.getElem?_cons_succ, List.getElem?_cons_zero, true_and, and_true, g43, g6]
          refine ap _ fun h4 v4 c4 o4 => ?_
          simp only [true_and, bindV_some, binNil_int, binV_add, inc sI (by omega), idG_eq]
          exact fin3 h4 v4 _ _ _ c4 o4
    · have t1' : ¬ ((a : Int) = 115) := by omega
      rw [if_neg t1] at c1
      simp only [t1', decide_false, condK_bool, Bool.false_eq_true, if_false, idG_eq, bindV_some]
      by_cases t2 : a = 108
      · have t2i : (a : Int) = 108 := by omega
        rw [if_pos t2] at c2
        have hL : lI < L.length := by
          rw [List.length_drop] at c2; omega
        have hLd : L.drop lI = L[lI] :: L.drop (lI + 1) := List.drop_eq_getElem_cons hL
        have hli : L[lI]? = some L[lI] := List.getElem?_eq_getElem hL
        obtain ⟨lb, lx⟩ := SF.2.2 L[lI] (List.getElem_mem hL)
        have hlI : (lI : Int) < L.length := by omega
        obtain ⟨b, oo, g1, g2, g3, cs, own, g4, g5⟩ := F1.2.2.1.idx (Int.natCast_nonneg lI) hlI .i64
        have g6 := takeN_get g5 (j := 0) (by omega)
        simp only [Nat.add_zero, List.getElem?_cons_zero, Int.toNat_natCast] at g6
        have sl := F1.2.2.2 lI L[lI] hli
        have wrl : wr (a :: (letters s).drop (i + 1)) (N.drop n) (S.drop sI) (L.drop lI) (0, out) = wr ((letters s).drop (i + 1)) (N.drop n) (S.drop sI) (L.drop (lI + 1)) (errN 0 L[lI].length 1, out ++ allOut L[lI]) := by
          rw [hLd]
          simp only [wr, if_neg t1, if_pos t2]
        simp only [t2i, binNil_int, binV_eql, decide_true, condK_bool, if_true, ptr, offV_ptr, bindV_some, loadV_ptr, o1, loadM_cells, partV_one, Nat.zero_add, List.getElem?_cons_succ, List.getElem?_cons_zero, g1, g4, g6, sl.len, binNil_int, binV_gtr]
        by_cases big : L[lI].length > 255
        · have big' : (L[lI].length : Int) > 255 := by omega
          simp only [big', decide_true, condK_bool, if_true]
          refine bad ?_
          rw [wrl]
          have e : errN 0 L[lI].length 1 = 2 := by
            unfold errN
            rw [if_pos ⟨by omega, by omega, rfl⟩]
          rw [e]
          unfold finW
          rw [wr_stuck]
          rfl
        · have big' : ¬ (L[lI].length : Int) > 255 := by omega
          have e : errN 0 L[lI].length 1 = 0 := by
            unfold errN
            rw [if_neg (by omega)]
          have w8 : IntKind.u8.wrap ((L[lI].length : Nat) : Int) = (L[lI].length : Nat) := by simp only [IntKind.wrap, IntKind.bits, IntKind.signed]; simp; omega
          have pb : putB L[lI].length 1 = [L[lI].length] := by simp [putB]; omega
          simp only [big', decide_false, condK_bool, Bool.false_eq_true, if_false, idG_eq, ptr, offV_ptr, bindV_some, loadV_ptr, o1, loadM_cells, partV_one, Nat.zero_add, List.getElem?_cons_succ, List.getElem?_cons_zero, g1, g4, g6, sl.len, wrapV_int, w8, build_byte]
          refine append_own' (B := (h0.next ≤ ·)) (by show h0.next ≤ h.next + 1; omega) (o.chg (Chg.push (h := h) (.cells [.int .u8 (L[lI].length : Nat)] true) []) (by simp)) (byte_cells (push_at _ _)) rfl rfl (by omega) (by omega) fun h3 v3 c3 o3 => ?_
          have e1 : out.map bc ++ [bc L[lI].length] = (out ++ [L[lI].length]).map bc := by simp
          have e2 : out.length + 1 = (out ++ [L[lI].length]).length := by simp
          rw [e1, e2] at o3
          have c03 : Chg h0 h3 [] := (((c.of_push (o := .cells [.int .u8 (L[lI].length : Nat)] true)).toP (D := (h0.next ≤ ·)) (by simp)).step c3).list (by intro i hi hh; omega)
          refine rw_l2 (k := 0) hli (by omega) lx hfb ofb F L[lI].length m0 h3 v3 (out ++ [L[lI].length]) (by omega) (by omega) c03 o3 (by simp; omega) ?_
          intro h' v' q1 q2 y14
          rw [tiltyardref01_Write_j5_eq]
          simp only [binNil_int, binV_add, bindV_some, inc lI (by omega), idG_eq]
          rw [List.drop_zero] at q2
          have eo : out ++ [L[lI].length] ++ L[lI].flatMap (fun x => putB x 4) = out ++ allOut L[lI] := by rw [allOut, pb, List.append_assoc]
          rw [eo] at q2
          have hal : (allOut L[lI]).length ≤ 1021 := by
            have : ∀ l : List Nat, (l.flatMap fun x => putB x 4).length = 4 * l.length := by
              intro l; induction l with
              | nil => rfl
              | cons x l ih => simp only [List.flatMap_cons, List.length_append, putB_length, ih, List.length_cons]; omega
            rw [allOut, List.length_append, this, putB_length]; omega
          have c2' : cnt 108 ((letters s).drop (i + 1)) = (L.drop (lI + 1)).length := by rw [hLd] at c2; simp at c2; simp; omega
          have hdl : (L.drop lI).length = (L.drop (lI + 1)).length + 1 := by rw [hLd]; rfl
          refine nx h' v' _ _ _ (out ++ allOut L[lI]) n sI (lI + 1) q1 q2 (by rw [List.length_append]; omega) c1 c2' (by omega) (by omega) ?_
          rw [wrl, e]
      · have t2' : ¬ ((a : Int) = 108) := by omega
        rw [if_neg t2] at c2
        have hn : n < N.length := by
          have k1 : ∀ cs : List Nat, cnt 115 cs + cnt 108 cs ≤ cs.length := by
            intro cs; induction cs with
            | nil => exact Nat.le_refl _
            | cons x cs ih => simp only [cnt, List.length_cons]; split <;> split <;> omega
          have k2 := k1 ((letters s).drop (i + 1))
          rw [List.length_drop] at k2
          rcases Nat.lt_or_ge n N.length with h | h
          · exact h
          · have : (N.drop n).length = 0 := by rw [List.length_drop]; omega
            omega
        have hNd : N.drop n = N[n] :: N.drop (n + 1) := List.drop_eq_getElem_cons hn
        have hx := SF.1 N[n] (List.getElem_mem hn)
        have hnI : (n : Int) < N.length := by omega
        obtain ⟨b, oo, g1, g2, g3, cs, own, g4, g5⟩ := F1.1.idx (Int.natCast_nonneg n) hnI .i64
        have g6 := takeN_get g5 (j := 0) (by omega)
        have hg : N[n]?.getD 0 = N[n] := by rw [List.getElem?_eq_getElem hn]; rfl
        simp only [rowQ, Nat.add_zero, List.getElem?_cons_zero, Int.toNat_natCast, hg] at g6
        have wrn : wr (a :: (letters s).drop (i + 1)) (N.drop n) (S.drop sI) (L.drop lI) (0, out) = wr ((letters s).drop (i + 1)) (N.drop (n + 1)) (S.drop sI) (L.drop lI) (errN 0 N[n] (wd a), out ++ putB N[n] (wd a)) := by
          rw [hNd]
          simp only [wr, if_neg t1, if_neg t2]
        simp only [t2', binNil_int, binV_eql, decide_false, condK_bool, Bool.false_eq_true, if_false, idG_eq, bindV_some]
        rw [tiltyardref01_Write_j3_eq]
        simp only [ptr, offV_ptr, bindV_some, loadV_ptr, o1, loadM_cells, partV_one, Nat.zero_add, List.getElem?_cons_zero, true_and, g1, g4, g6]
        refine .inr (.inr (.inr (.inl ⟨rfl, a, rfl, fun h2 c2' => ?_⟩)))
        have o2 := c2'.at (by omega) (by simp) o1
        have g42 := c2'.at g3 (by simp) g4
        simp only [ptr, offV_ptr, bindV_some, loadV_ptr, o2, g42, loadM_cells, partV_one, List.getElem?_cons_zero, g6, Nat.zero_add, and_self, true_and]
        refine .inr (.inr (.inl ⟨rfl, N[n], wd a, rfl, hx, wd_le a, fun h3 v3 c3' o3 => ?_⟩))
        have o23 := c3'.at (by have := c2'.1; omega) (by simp) o2
        have g43 := c3'.at (by have := c2'.1; omega) (by simp) g42
        have o3' : OwnS (h2.next ≤ ·) h3 v3 1 ((putB N[n] (wd a)).map bc) (putB N[n] (wd a)).length := by rw [putB_length]; exact o3
        have s3 := own_bytes o3'
        simp only [and_self, true_and]
        refine .inr (.inr (.inr (.inr (.inl ⟨rfl, _, v3, putB N[n] (wd a), rfl, by rw [putB_length]; exact wd_le a, putB_lt _ _, s3, ?_⟩))))
        have hnum : numB (putB N[n] (wd a)) = N[n] % 256 ^ wd a := numB_putB _ _
        simp only [ptr, offV_ptr, bindV_some, loadV_ptr, o23, g43, loadM_cells, partV_one, Nat.zero_add, List.getElem?_cons_zero, g1, g6, and_self, true_and, hnum, binV_neq]
        have key : (N[n] % 256 ^ wd a = N[n]) ↔ errN 0 N[n] (wd a) = 0 := by
          unfold errN
          by_cases h8' : wd a < 8
          · have hp : 0 < 256 ^ wd a := Nat.pow_pos (by omega)
            by_cases hz : N[n] / 256 ^ wd a = 0
            · rw [if_neg (by simp [hz])]
              simp only [iff_true]
              exact Nat.mod_eq_of_lt ((Nat.div_eq_zero_iff).1 hz |>.resolve_left (by omega))
            · rw [if_pos ⟨h8', hz, rfl⟩]
              simp only [show ¬ (2 : Nat) = 0 by omega, iff_false]
              intro e
              exact hz (Nat.div_eq_of_lt (by rw [← e]; exact Nat.mod_lt _ hp))
          · have : wd a = 8 := by have := wd_le a; omega
            rw [if_neg (by omega), this]
            simp only [iff_true]
            exact Nat.mod_eq_of_lt (by omega)
        have cc3 : Chg h0 h3 [] := (c.of_chg c2' (by simp)).of_chg c3' (by simp)
        by_cases hk : N[n] % 256 ^ wd a = N[n]
        · have e := key.1 hk
          have hk' : ((N[n] % 256 ^ wd a : Nat) : Int) = (N[n] : Nat) := by omega
          simp only [hk', ne_eq, not_true_eq_false, decide_false, condK_bool, Bool.false_eq_true, if_false, idG_eq]
          have hw := wd_le a
          refine append_own' (B := (h0.next ≤ ·)) (new := (putB N[n] (wd a)).map bc) (m := (putB N[n] (wd a)).length) (by have := cc3.1; omega) ((o.chg c2' (by simp)).chg c3' (by simp)) (newCells_bytes s3) (by simp) (one_bc _) (by rw [putB_length]; omega) (by rw [putB_length]; omega) fun h4 v4 c4 o4 => ?_
          simp only [binNil_int, binV_add, bindV_some, inc n (by omega), idG_eq]
          have e1 : out.map bc ++ (putB N[n] (wd a)).map bc = (out ++ putB N[n] (wd a)).map bc := by rw [List.map_append]
          have e2 : out.length + (putB N[n] (wd a)).length = (out ++ putB N[n] (wd a)).length := by rw [List.length_append]
          rw [e1, e2] at o4
          refine nx h4 v4 _ _ _ (out ++ putB N[n] (wd a)) (n + 1) sI lI (((cc3.toP (D := (h0.next ≤ ·)) (by simp)).step c4).list (by intro i hi hh; omega)) o4 (by rw [List.length_append, putB_length]; omega) c1 c2 (by rw [hNd] at c3; simp at c3 ⊢; omega) (by omega) ?_
          rw [wrn, e]
        · have e : errN 0 N[n] (wd a) = 2 := by
            have h1 : errN 0 N[n] (wd a) ≠ 0 := fun h => hk (key.2 h)
            unfold errN at h1 ⊢
            split
            · rfl
            · rename_i h; rw [if_neg h] at h1; exact absurd rfl h1
          have hk' : ¬ ((N[n] % 256 ^ wd a : Nat) : Int) = (N[n] : Nat) := by omega
          simp only [hk', ne_eq, not_false_eq_true, decide_true, condK_bool, if_true]
          have hf : (finW (wr (a :: (letters s).drop (i + 1)) (N.drop n) (S.drop sI) (L.drop lI) (0, out))) = (2, []) := by
            rw [wrn, e]
            unfold finW
            rw [wr_stuck]
            rfl
          rw [hf] at H
          exact H h3 _ cc3 (.inl ⟨rfl, rfl, rfl⟩)

end Go.Proofs.YtdmcmebfclikgaaDoor
/- The document's Write and Encode; 'VerbEncodes': what it answers. -/
set_option linter.unusedSimpArgs false
set_option linter.unusedVariables false
set_option maxHeartbeats 4000000
namespace Go.Proofs.YtdmcmebfclikgaaDoor
open Go.Abs Go.IntWalk
attribute [local congr] bindV_w condK_w guardK_w groupK_w allocE_w boxE_w storeE_w storeM_w tabC_w ite_w idG_w appendE_w toBytesE_w buildSliceE_w

theorem refWriteS_good : SpecGood Tryd.prog (32, writeS) := by
  refine spec_good mixed Tryd.func32 (by kernel_rfl) (by kernel_rfl) tabJ_good (keep := tiltyardref01_Write_keep) ?_
  rintro args h k ⟨s, vN, vS, vL, lv, N, S, L, rfl, hs, SF, F, H⟩
  refine ⟨1000, ?_⟩
  show tiltyardref01_Write (tabC tabJ) idG 1000 (.string s) (.agg #[vN, vS, vL]) h _
  generalize hK : (fun v h1 => ∃ h2, St.le h2 h1 ∧ k v h2 : Cont) = K
  have H : ∀ h' v', Chg h h' [] → OwnS (h.next ≤ ·) h' v' 1 ((writeZ (letters s) N S L).2.map bc) (writeZ (letters s) N S L).2.length → K (.tuple #[v', .int .i64 (writeZ (letters s) N S L).1]) h' := by subst hK; exact fun h' v' c o => ⟨_, St.le.refl _, H h' v' c o⟩
  clear hK
  rw [tiltyardref01_Write_eq, boxE_eq]
  refine ⟨by simp [F.1.one, F.2.1.one, F.2.2.1.one], ?_⟩
  obtain ⟨h1, hh1⟩ : ∃ z, z = h.push (.cells [vN, vS, vL] true) := ⟨_, rfl⟩
  have e1 : h.push (.cells (Value.agg #[vN, vS, vL]).cells.toList true) = h1 := by rw [hh1]; simp [F.1.cells1, F.2.1.cells1, F.2.2.1.cells1]
  rw [e1]
  have c1 : Chg h h1 [] := by rw [hh1]; exact Chg.push _ _
  have n1 : h1.next = h.next + 1 := by rw [hh1]; rfl
  have o1 : h1.objs h.next = some (.cells [vN, vS, vL] true) := by rw [hh1]; exact push_at _ _
  have F1 := F.chg c1 (by simp)
  refine .inl ⟨rfl, s, 115, rfl, hs, ?_⟩
  refine .inl ⟨rfl, s, 108, rfl, hs, ?_⟩
  refine .inr (.inl ⟨rfl, s, rfl, by omega, fun h2 c2 => ?_⟩)
  have n2 := c2.1
  have o2 := c2.at (by omega) (by simp) o1
  have cc2 : Chg h h2 [] := c1.of_chg c2 (by simp)
  have F2 := F1.chg c2 (by simp)
  have bad : (0 ≤ leastZ (letters s) ∧ fitsB (letters s) N.length S.length L.length = true → False) → K (.tuple #[.slice none 0 0, .int .i64 1]) h2 := by
    intro hb
    have hz : writeZ (letters s) N S L = (1, []) := by
      unfold writeZ
      rw [if_neg (by simpa using hb)]
    rw [hz] at H
    exact H h2 _ cc2 (.inl ⟨rfl, rfl, rfl⟩)
  have l1 := F2.1.len; have l2 := F2.2.1.len; have l3 := F2.2.2.1.len
  have ct1 := cnt_le 115 (letters s); have ct2 := cnt_le 108 (letters s)
  have hls : (s.size : Int) = ((letters s).length : Int) := by rw [letters_length]
  have hl := letters_length s
  by_cases hr : leastZ (letters s) < 0
  · simp [hr, groupK_eq, getT]
    exact bad fun h => by omega
  by_cases f1 : S.length = cnt 115 (letters s)
  case neg =>
    have f1' : ¬ (S.length : Int) = cnt 115 (letters s) := by omega
    simp [hr, f1', groupK_eq, getT, ptr, o2, l2]
    exact bad fun h => by simp [fitsB, f1] at h
  by_cases f2 : L.length = cnt 108 (letters s)
  case neg =>
    have f2' : ¬ (L.length : Int) = cnt 108 (letters s) := by omega
    simp [hr, f1, f2', groupK_eq, getT, ptr, o2, l2, l3]
    exact bad fun h => by simp [fitsB, f2] at h
  have w1 : IntKind.i64.wrap ((s.size : Int) - cnt 115 (letters s)) = (s.size : Int) - cnt 115 (letters s) := i64_in _ (by omega)
  have w2 : IntKind.i64.wrap ((s.size : Int) - cnt 115 (letters s) - cnt 108 (letters s)) = (s.size : Int) - cnt 115 (letters s) - cnt 108 (letters s) := i64_in _ (by omega)
  by_cases f3 : (N.length : Int) = (s.size : Int) - cnt 115 (letters s) - cnt 108 (letters s)
  case neg =>
    simp [hr, f1, f2, f3, groupK_eq, getT, ptr, o2, l1, l2, l3, w1, w2]
    exact bad fun h => by
      simp [fitsB] at h
      omega
  simp [hr, f1, f2, f3, groupK_eq, getT, ptr, o2, l1, l2, l3, w1, w2]
  have h8 : (letters s).length ≤ 8 := by
    unfold leastZ at hr
    split at hr
    · omega
    · omega
  have hz : writeZ (letters s) N S L = finW (wr (letters s) N S L (0, [])) := by
    unfold writeZ
    rw [if_pos (by simp [fitsB, f1, f2]; omega)]
    rfl
  rw [hz] at H
  refine rw_l0 (lv := lv) SF h8 (by omega) o2 F2 (letters s).length 0 1000 h2 _ _ _ _ [] 0 0 0 (by omega) (by omega) (Chg.refl _ _) (.inl ⟨rfl, rfl, rfl⟩) (by simp; omega) (by simpa using f1.symm) (by simpa using f2.symm) (by simp; omega) rfl ?_
  intro h' v' q1 q2
  simp only [List.drop_zero] at q2 ⊢
  exact H h' v' (cc2.of_chg q1 (by simp)) (q2.imp fun i a b => by omega)
def tabK1 : List (FuncId × Abs.Spec) := [(26, findS), (32, writeS)]
theorem tabK1_good : ∀ p ∈ tabK1, SpecGood Tryd.prog p := by simp [tabK1, findS_good, refWriteS_good]
def refEncodeS : Abs.Spec := fun args h k => ∃ (x : Int) (vN vS vL : Value) (lv : Nat → Value) (N : List Nat) (S : List ByteArray) (L : List (List Nat)), args = [.agg #[.int .i64 x, vN, vS, vL]] ∧ SmallF N S L ∧ FieldsAt (· < h.next) h vN vS vL lv N S L ∧
  ∀ h' v', Chg h h' [] → OwnS (h.next ≤ ·) h' v' 1 ((encZ x N S L).2.map bc) (encZ x N S L).2.length → k (.tuple #[v', .int .i64 (encZ x N S L).1]) h'
theorem refEncodeS_good : SpecGood Tryd.prog (13, refEncodeS) := by
  refine spec_good mixed Tryd.func13 (by kernel_rfl) (by kernel_rfl) tabK1_good (keep := tiltyardref04_Encode_keep) ?_
  rintro args h k ⟨x, vN, vS, vL, lv, N, S, L, rfl, SF, F, H⟩
  refine ⟨0, ?_⟩
  show tiltyardref04_Encode (tabC tabK1) idG 0 (.agg #[.int .i64 x, vN, vS, vL]) h _
  generalize hK : (fun v h1 => ∃ h2, St.le h2 h1 ∧ k v h2 : Cont) = K
  have H : ∀ h' v', Chg h h' [] → OwnS (h.next ≤ ·) h' v' 1 ((encZ x N S L).2.map bc) (encZ x N S L).2.length → K (.tuple #[v', .int .i64 (encZ x N S L).1]) h' := by subst hK; exact fun h' v' c s => ⟨_, St.le.refl _, H h' v' c s⟩
  clear hK
  rw [tiltyardref04_Encode_eq, boxE_eq]
  refine ⟨by simp [F.1.one, F.2.1.one, F.2.2.1.one], ?_⟩
  obtain ⟨h1, hh1⟩ : ∃ z, z = h.push (.cells [.int .i64 x, vN, vS, vL] true) := ⟨_, rfl⟩
  have e1 : h.push (.cells (Value.agg #[.int .i64 x, vN, vS, vL]).cells.toList true) = h1 := by rw [hh1]; rfl
  rw [e1]
  have c1 : Chg h h1 [] := by rw [hh1]; exact Chg.push _ _
  have n1 : h1.next = h.next + 1 := by rw [hh1]; rfl
  have o1 : h1.objs h.next = some (.cells [.int .i64 x, vN, vS, vL] true) := by rw [hh1]; exact push_at _ _
  simp only [offV_ptr, bindV_some, loadV_ptr, o1, loadM_cells, partV_one, Nat.add_zero, List.getElem?_cons_zero]
  refine .inl ⟨rfl, x, rfl, fun h2 c2 => ?_⟩
  obtain ⟨r1, r2, r3⟩ := res_name x
  rw [r1, r2, r3]
  have n2 := c2.1
  simp only [extV_two0, extV_two1, bindV_some, allocE_some]
  refine storeE_new (vs := [.int .i64 (rowRes (findZ x)).1.kind, .string (nameOf (knownZ x)), .string (shapeOf (knownZ x))]) rfl rfl rfl (by simp) ?_
  obtain ⟨h8, hh8⟩ : ∃ z, z = (h2.push (.cells [.int .i64 0, .string ByteArray.empty, .string ByteArray.empty] true)).set h2.next (.cells [.int .i64 (rowRes (findZ x)).1.kind, .string (nameOf (knownZ x)), .string (shapeOf (knownZ x))] true) := ⟨_, rfl⟩
  rw [← hh8]
  have c8 : Chg h2 h8 [] := by rw [hh8]; exact (Chg.push _ _).of_set (.inr (Nat.le_refl _))
  have o8 : h8.objs h2.next = some (.cells [.int .i64 (rowRes (findZ x)).1.kind, .string (nameOf (knownZ x)), .string (shapeOf (knownZ x))] true) := by rw [hh8]; exact set_at _ _ _
  have n8 : h2.next < h8.next := by rw [hh8]; simp
  have c18 : Chg h1 h8 [] := c2.of_chg c8 (by simp)
  have b8 := c18.at (by omega) (by simp) o1
  have cc8 : Chg h h8 [] := c1.of_chg c18 (by simp)
  unfold encZ at H
  by_cases hk : isKind (knownZ x) = true
  · rw [if_pos hk] at H
    obtain ⟨r1, r2⟩ := isKind_range hk
    have lv4 : takeN [Value.int .i64 x, vN, vS, vL] (0 + 1) 3 = some [vN, vS, vL] := rfl
    simp only [hk, unV_not, Bool.not_true, bindV_some, condK_bool, Bool.false_eq_true, if_false, idG_eq, loadV_ptr, o8, b8, loadM_cells, partV_one, partV_agg, Nat.zero_add, lv4, Option.map_some, offV_ptr, List.getElem?_cons_succ, List.getElem?_cons_zero]
    refine .inr (.inl ⟨rfl, shapeOf (knownZ x), vN, vS, vL, lv, N, S, L, rfl, shape_size x, SF, (F.chg cc8 (by simp)).imp fun i a b => by omega, fun h9 v9 c9 o9 => ?_⟩)
    have n9 := c9.1
    have b9 := c9.at (by omega) (by simp) b8
    simp only [extV_two0, extV_two1, bindV_some, binNil_int, binV_neq]
    have esh : letters (shapeOf (knownZ x)) = shZ x := rfl
    rw [esh] at o9 ⊢
    by_cases hw : (writeZ (shZ x) N S L).1 = 0
    · rw [if_neg (by simp [hw])] at H
      obtain ⟨q1, q2, q3, q4⟩ := write_back SF hw
      have wx : IntKind.u8.wrap x = x := by simp only [IntKind.wrap, IntKind.bits, IntKind.signed]; simp; omega
      have tx : ((x.toNat : Nat) : Int) = x := by omega
      simp only [hw, Int.natCast_zero, ne_eq, not_true_eq_false, decide_false, condK_bool, Bool.false_eq_true, if_false, idG_eq, offV_ptr, bindV_some, loadV_ptr, b9, loadM_cells, partV_one, Nat.add_zero, List.getElem?_cons_zero, wrapV_int, wx, build_byte]
      have sl9 := own_bytes o9
      obtain ⟨h10, hh10⟩ : ∃ z, z = h9.push (.cells [.int .u8 x] true) := ⟨_, rfl⟩
      rw [← hh10]
      have c10 : Chg h9 h10 [] := by rw [hh10]; exact Chg.push _ _
      have n10 : h10.next = h9.next + 1 := by rw [hh10]; rfl
      have p10 : h10.objs h9.next = some (.cells [.int .u8 x] true) := by rw [hh10]; exact push_at _ _
      have own : OwnS (h.next ≤ ·) h10 (.slice (some ⟨h9.next, 0, some 1⟩) 1 0) 1 ([x.toNat].map bc) 1 := .inr ⟨h9.next, rfl, by omega, by omega, by rw [p10]; simp [bc, tx], by simp⟩
      refine append_own' (B := (h.next ≤ ·)) (by omega) own (newCells_bytes (sl9.chg c10 (by simp))) (by simp) (one_bc _) (by omega) (by omega) fun h11 v11 c11 o11 => ?_
      have cc : Chg h h11 [] := (((cc8.of_chg c9 (by simp)).of_chg c10 (by simp)).toP (D := (h.next ≤ ·)) (by simp)).step c11 |>.list (by intro i hi hh; omega)
      refine H h11 v11 cc ?_
      rw [Nat.add_comm 1] at o11
      exact o11
    · rw [if_pos hw] at H
      have hw' : ¬ ((writeZ (shZ x) N S L).1 : Int) = 0 := by omega
      simp only [hw', ne_eq, not_false_eq_true, decide_true, condK_bool, if_true]
      exact H h9 _ (cc8.of_chg c9 (by simp)) (.inl ⟨rfl, rfl, rfl⟩)
  · rw [if_neg hk] at H
    rw [Bool.not_eq_true] at hk
    simp only [hk, unV_not, Bool.not_false, bindV_some, condK_bool, if_true]
    exact H h8 _ cc8 (.inl ⟨rfl, rfl, rfl⟩)
end Go.Proofs.YtdmcmebfclikgaaDoor

/- 'VerbEncodes': what it answers. -/
set_option linter.unusedSimpArgs false
set_option linter.unusedVariables false
set_option maxHeartbeats 4000000
namespace Go.Proofs.YtdmcmebfclikgaaDoor
open Go.Abs Go.IntWalk
attribute [local congr] bindV_w condK_w guardK_w groupK_w allocE_w boxE_w storeE_w storeM_w tabC_w ite_w idG_w appendE_w toBytesE_w buildSliceE_w

def tabK2 : List (FuncId × Abs.Spec) := [(10, smallS), (12, turnS), (11, encodeS), (13, refEncodeS), (14, awakeS)]
theorem tabK2_good : ∀ p ∈ tabK2, SpecGood Tryd.prog p := by simp [tabK2, smallS_good, msgS_good, encodeS_good, refEncodeS_good, awakeS_good]
theorem encodesLawS_good : SpecGood Tryd.prog (3, backLawS) := by
  refine spec_good mixed Tryd.func3 (by kernel_rfl) (by kernel_rfl) tabK2_good (keep := tiltyardlaw04_VerbEncodes_keep) ?_
  rintro args h k ⟨x, vN, vS, vL, lv, N, S, L, rfl, F, hN, hL, hS1, hL1, g, H⟩
  refine ⟨0, ?_⟩
  show tiltyardlaw04_VerbEncodes (tabC tabK2) idG 0 (.agg #[.int .i64 x, vN, vS, vL]) h _
  generalize hK : (fun v h1 => ∃ h2, St.le h2 h1 ∧ k v h2 : Cont) = K
  have H : ∀ h', K (.bool true) h' := by subst hK; exact fun h' => ⟨_, St.le.refl _, H h'⟩
  clear hK
  rw [tiltyardlaw04_VerbEncodes_eq]
  rw [boxE_eq]
  refine ⟨by simp [F.1.one, F.2.1.one, F.2.2.1.one], ?_⟩
  obtain ⟨h1, hh1⟩ : ∃ z, z = h.push (.cells [.int .i64 x, vN, vS, vL] true) := ⟨_, rfl⟩
  have e1 : h.push (.cells (Value.agg #[.int .i64 x, vN, vS, vL]).cells.toList true) = h1 := by rw [hh1]; rfl
  rw [e1]
  have c1 : Chg h h1 [] := by rw [hh1]; exact Chg.push _ _
  have n1 : h1.next = h.next + 1 := by rw [hh1]; rfl
  have o1 : h1.objs h.next = some (.cells [.int .i64 x, vN, vS, vL] true) := by rw [hh1]; exact push_at _ _
  have t1 : takeN [Value.int .i64 x, vN, vS, vL] (0 + 1) 3 = some [vN, vS, vL] := rfl
  have F1 := F.chg c1 (by simp)
  simp only [offV_ptr, bindV_some, loadV_ptr, o1, loadM_cells, partV_agg, t1, Option.map_some]
  refine .inl ⟨rfl, _, vN, vS, vL, lv, N, S, L, rfl, F1, hS1, hL1, fun h2 c2 => ?_⟩
  cases hsm : smallB N S L with
  | false =>
    simp
    exact H h2
  | true =>
    obtain ⟨SF, k1, k2, k3⟩ := small_F hN hL hsm
    have n2 := c2.1
    have o2 := c2.at (by omega) (by simp) o1
    have F2 := F1.chg c2 (by simp)
    simp only [unV_not, Bool.not_true, bindV_some, condK_bool, Bool.false_eq_true, if_false, idG_eq, loadV_ptr, o2, loadM_cells, partV_agg, takeN_lit4, Option.map_some]
    refine .inr (.inl ⟨rfl, x, vN, vS, vL, rfl, F2.1.cells1, F2.2.1.cells1, F2.2.2.1.cells1, F2.1.isUnk, F2.2.1.isUnk, F2.2.2.1.isUnk, F2.1.one, F2.2.1.one, F2.2.2.1.one, fun h3 c3 => ?_⟩)
    have n3 := c3.1
    have o3 := c3.at (by omega) (by simp) o2
    have F3 := F2.chg c3 (by simp)
    have cc3 : Chg h h3 [] := (c1.of_chg c2 (by simp)).of_chg c3 (by simp)
    have g3 := g.chg cc3 (by simp)
    refine .inr (.inr (.inl ⟨rfl, x, vN, vS, vL, lv, N, S, L, rfl, g3, SF, F3.imp fun i a _ => a, fun h4 v4 c4 o4 => ?_⟩))
    have n4 := c4.1
    have p4 := c4.at (by omega) (by simp) o3
    have F4 := F3.chg c4 (by simp)
    simp only [extV_two0, extV_two1, bindV_some, loadV_ptr, p4, loadM_cells, partV_agg, takeN_lit4, Option.map_some]
    refine .inr (.inr (.inr (.inl ⟨rfl, x, vN, vS, vL, lv, N, S, L, rfl, SF, F4.imp fun i a _ => a, fun h5 v5 c5 o5 => ?_⟩)))
    have g5 := (g3.chg c4 (by simp)).chg c5 (by simp)
    have t1 : textOf v4 h5 = some (.string (bytesText (encZ x N S L).2)) := text_slice (own_bytes (o4.chg c5 (by simp)))
    have t2 : textOf v5 h5 = some (.string (bytesText (encZ x N S L).2)) := text_slice (own_bytes o5)
    simp [groupK_eq, getT, t1, t2, text_eql, -binV_text]
    refine .inr (.inr (.inr (.inr (.inl ⟨rfl, rfl, g5, fun h6 c6 => ?_⟩))))
    simp [getT]
    exact H h6
end Go.Proofs.YtdmcmebfclikgaaDoor
