/- The writer: lists; whether fields fit a shape. -/
import Derived.Test.YtiaijbkmgajieaaB
set_option linter.unusedSimpArgs false
set_option linter.unusedVariables false
set_option maxHeartbeats 4000000
namespace Go.Proofs.Ytiaijbkmgajieaa
open Go.Abs Go.IntWalk

def rowU (l : List Nat) (i : Nat) : List Value := [.int .u32 (l[i]?.getD 0 : Nat)]
def allOut (l : List Nat) : List Nat := putB l.length 1 ++ l.flatMap fun x => putB x 4
theorem u64_wrap (x : Nat) (h : x < 18446744073709551616) : IntKind.u64.wrap (x : Int) = (x : Int) := u64_in _ (by omega)
def allS : Abs.Spec := fun args h k => ∃ (B V : Nat → Prop) (q : Nat) (out : List Nat) (e : Nat) (v : Value) (l : List Nat), args = [ptr q, .int .i64 4, v] ∧ out.length ≤ 100000000 ∧ l.length ≤ 1000 ∧ (∀ x ∈ l, x < 4294967296) ∧
  SliceAt V h v l.length 1 (rowU l) ∧ (∀ i, V i → i ≠ q ∧ ¬ B i) ∧ (∀ i, h.next ≤ i → B i) ∧ WAt B h q out e ∧ ∀ h', ChgP (fun i => i = q ∨ B i) h h' → WAt B h' q (out ++ allOut l) (errN e l.length 1) → k (.tuple #[]) h'
theorem allS_live : SpecLive allS := by
  rintro args h k ⟨B, V, q, out, e, v, l, rfl, _, _, _, _, _, hB, W, H⟩
  obtain ⟨h', c, w⟩ := W.live hB (out ++ allOut l) (errN e l.length 1)
  exact ⟨_, _, H h' c w⟩
theorem errN_small (e x : Nat) (h : x < 4294967296) : errN e x 4 = e := by
  have : x / 256 ^ 4 = 0 := Nat.div_eq_of_lt (by omega)
  simp [errN, this]
theorem all_l0 {B V : Nat → Prop} {q n e : Nat} {v : Value} {l : List Nat} {K : Cont} {h0 : St} (hl : l.length ≤ 1000) (hx : ∀ x ∈ l, x < 4294967296) (hV : ∀ i, V i → i ≠ q ∧ ¬ B i) :
    ∀ (d j m0 : Nat) (h : St) (out : List Nat), j + d = l.length → d < m0 → out.length + 4 * d ≤ 1000000000 → (∀ i, h.next ≤ i → B i) → ChgP (fun i => i = q ∨ B i) h0 h → SliceAt V h v l.length 1 (rowU l) → WAt B h q out e →
      (∀ h', ChgP (fun i => i = q ∨ B i) h0 h' → WAt B h' q (out ++ (l.drop j).flatMap fun x => putB x 4) e → K (.tuple #[]) h') →
      field_writer_all_l0 (tabC [(27, numberS)]) idG n m0 (ptr q) (.int .i64 4) v (.int .i64 l.length) (.int .i64 j) h K := by
  intro d
  induction d with
  | zero =>
    intro j m0 h out hj hm ho hB c s W H
    obtain ⟨m0, rfl⟩ : ∃ m, m0 = m + 1 := ⟨m0 - 1, by omega⟩
    rw [field_writer_all_l0_eq]
    have e : j = l.length := by omega
    subst e
    simp
    exact H h c (by simpa using W)
  | succ d ih =>
    intro j m0 h out hj hm ho hB c s W H
    obtain ⟨m0, rfl⟩ : ∃ m, m0 = m + 1 := ⟨m0 - 1, by omega⟩
    rw [field_writer_all_l0_eq]
    have hlt : (j : Int) < l.length := by omega
    obtain ⟨b, o, g1, g2, g3, cs, own, g4, g5⟩ := s.idx (Int.natCast_nonneg j) hlt .i64
    have g6 := takeN_get g5 (j := 0) (by omega)
    have hlt' : j < l.length := by omega
    have hd : l.drop j = l[j] :: l.drop (j + 1) := List.drop_eq_getElem_cons hlt'
    have hxj := hx l[j] (List.getElem_mem _)
    have hg : l[j]?.getD 0 = l[j] := by rw [List.getElem?_eq_getElem hlt']; rfl
    simp only [rowU, Int.toNat_natCast, hg, Nat.add_zero, List.getElem?_cons_zero] at g6
    simp only [binV_lss, bindV_some, condK_bool, hlt, decide_true, if_true, idG_eq, g1, loadV_ptr, g4, loadM_cells, partV_one, g6, wrapV_int, u64_wrap l[j] (by omega)]
    refine .inl ⟨rfl, B, q, out, e, l[j], 4, rfl, by omega, by omega, by omega, hB, W, fun h' c' W' => ?_⟩
    rw [errN_small e _ hxj] at W'
    have hj1 : IntKind.i64.wrap ((j : Int) + 1) = ((j + 1 : Nat) : Int) := by rw [i64_in _ (by omega)]; omega
    simp only [binNil_int, binV_add, bindV_some, hj1]
    refine ih (j + 1) m0 h' _ (by omega) (by omega) (by simp [putB_length]; omega) (fun i hi => hB i (Nat.le_trans c'.1 hi)) (c.step c') (s.chgP c' fun i hi hv => ?_) W' fun h2 c2 W2 => H h2 c2 ?_
    · rcases hi with hi | hi
      · exact (hV i hv).1 hi
      · exact (hV i hv).2 hi
    · rw [hd, List.flatMap_cons, ← List.append_assoc]
      exact W2
theorem allS_ok : SpecOk Try.prog 28 allS := by
  refine specOk_wf mixed Try.func28 (by kernel_rfl) (by kernel_rfl) (tab := [(27, numberS)]) (by simp [numberS_ok]) (by simp [numberS_live]) (keep := field_writer_all_keep) ?_
  rintro args h k wf ⟨B, V, q, out, e, v, l, rfl, ho, hl, hx, s, hV, hB, W, H⟩
  refine ⟨1001, ?_⟩
  show field_writer_all (tabC [(27, numberS)]) idG 1001 (ptr q) (.int .i64 4) v h _
  rw [field_writer_all_eq, s.len]
  simp only [bindV_some, wrapV_int, u64_wrap l.length (by omega)]
  refine .inl ⟨rfl, B, q, out, e, l.length, 1, rfl, by omega, by omega, by omega, hB, W, fun h' c' W' => ?_⟩
  refine all_l0 hl hx hV l.length 0 1001 h' _ (by omega) (by omega) (by simp [putB_length]; omega) (fun i hi => hB i (Nat.le_trans c'.1 hi)) c' (s.chgP c' fun i hi hv => ?_) W' fun h2 c2 W2 => ⟨_, St.le.refl _, H h2 c2 (by simpa [allOut] using W2)⟩
  rcases hi with hi | hi
  · exact (hV i hv).1 hi
  · exact (hV i hv).2 hi

/-! ### whether fields fit -/
def cnt (c : Nat) : List Nat → Nat
  | [] => 0
  | x :: l => if x = c then cnt c l + 1 else cnt c l
theorem cnt_le (c : Nat) : ∀ l, cnt c l ≤ l.length
  | [] => Nat.le_refl _
  | x :: l => by have := cnt_le c l; simp only [cnt, List.length_cons]; split <;> omega
def fitsB (cs : List Nat) (nN nS nL : Nat) : Bool := decide (nS = cnt 115 cs) && decide (nL = cnt 108 cs) && decide ((nN : Int) = cs.length - cnt 115 cs - cnt 108 cs)
def fitsS : Abs.Spec := fun args h k => ∃ (s : ByteArray) (vN vS vL : Value) (nN nS nL : Nat), args = [.string s, .agg #[vN, vS, vL]] ∧ s.size ≤ 1000 ∧ (one vN = true ∧ one vS = true ∧ one vL = true) ∧ lenS vN = some (.int .i64 nN) ∧ lenS vS = some (.int .i64 nS) ∧ lenS vL = some (.int .i64 nL) ∧
  ∀ h', Chg h h' [] → k (.bool (fitsB (letters s) nN nS nL)) h'
theorem fitsS_live : SpecLive fitsS := by
  rintro args h k ⟨s, vN, vS, vL, nN, nS, nL, rfl, _, _, _, _, _, H⟩
  exact ⟨_, _, H h (Chg.refl _ _)⟩
attribute [local irreducible] cnt letters fitsB
theorem fits_j2 {s : ByteArray} {n q : Nat} {x4 x9 x10 vN vS vL : Value} {nN nS nL a b : Nat} {h : St} {K : Cont} (hs : s.size ≤ 1000) (ha : a ≤ 1000) (hb : b ≤ 1000) (hq : h.objs q = some (.cells [vN, vS, vL] true)) (h1 : lenS vN = some (.int .i64 nN)) (h2 : lenS vS = some (.int .i64 nS)) (h3 : lenS vL = some (.int .i64 nL))
    (H : K (.bool (decide (nS = a) && decide (nL = b) && decide ((nN : Int) = s.size - a - b))) h) : field_fits_j2 (tabC []) idG n (.string s) (ptr q) x4 (.int .i64 a) (.int .i64 b) x9 x10 h K := by
  rw [field_fits_j2_eq]
  obtain ⟨m, hm⟩ : ∃ m : Int, m = (s.size : Int) - a - b := ⟨_, rfl⟩
  have e1 : IntKind.i64.wrap ((s.size : Int) - (a : Int)) = (s.size : Int) - a := i64_in _ (by omega)
  have e2 : IntKind.i64.wrap ((s.size : Int) - a - b) = m := by rw [hm]; exact i64_in _ (by omega)
  rw [← hm] at H
  have c1 : ((nS : Int) = (a : Int)) = (nS = a) := by simp; omega
  have c2 : ((nL : Int) = (b : Int)) = (nL = b) := by simp; omega
  simp only [ptr, offV_ptr, loadV_ptr, hq, loadM_cells, partV_one, Nat.zero_add, List.getElem?_cons_zero, List.getElem?_cons_succ, bindV_some, h1, h2, h3, binV_eql, lenT_string, binV_sub, e1, e2, groupK_eq, guardK_bool, idG_eq, pickV_bool, c1, c2]
  by_cases t1 : nS = a
  · by_cases t2 : nL = b
    · simpa [t1, t2, getT] using H
    · simpa [t1, t2, getT] using H
  · simpa [t1, getT] using H
theorem fits_l0 {s : ByteArray} {n q : Nat} {x4 vN vS vL : Value} {nN nS nL : Nat} {h : St} {K : Cont} (hs : s.size ≤ 1000) (hq : h.objs q = some (.cells [vN, vS, vL] true)) (h1 : lenS vN = some (.int .i64 nN)) (h2 : lenS vS = some (.int .i64 nS)) (h3 : lenS vL = some (.int .i64 nL)) (H : K (.bool (fitsB (letters s) nN nS nL)) h) :
    ∀ (d i m0 a b : Nat), i + d = (letters s).length → d < m0 → a ≤ i → b ≤ i → a + cnt 115 ((letters s).drop i) = cnt 115 (letters s) → b + cnt 108 ((letters s).drop i) = cnt 108 (letters s) →
      field_fits_l0 (tabC []) idG n m0 (.string s) (ptr q) x4 (.int .i64 a) (.int .i64 b) (.int .i64 (letters s).length) (.int .i64 i) h K := by
  intro d
  have hsz := letters_length s
  induction d with
  | zero =>
    intro i m0 a b hi hm ha hb c1 c2
    obtain ⟨m0, rfl⟩ : ∃ m, m0 = m + 1 := ⟨m0 - 1, by omega⟩
    rw [field_fits_l0_eq]
    have e : i = (letters s).length := by omega
    subst e
    rw [List.drop_length] at c1 c2
    simp only [cnt, Nat.add_zero] at c1 c2
    simp only [bindV_some, binV_lss, condK_bool, Int.lt_irrefl, decide_false, Bool.false_eq_true, if_false, idG_eq]
    refine fits_j2 hs (by omega) (by omega) hq h1 h2 h3 ?_
    rw [c1, c2, ← hsz]
    unfold fitsB at H
    exact H
  | succ d ih =>
    intro i m0 a b hi hm ha hb c1 c2
    obtain ⟨m0, rfl⟩ : ∃ m, m0 = m + 1 := ⟨m0 - 1, by omega⟩
    rw [field_fits_l0_eq]
    have hlt : i < (letters s).length := by omega
    have hlt' : (i : Int) < (letters s).length := by omega
    obtain ⟨c, hc⟩ : ∃ c, (letters s)[i]? = some c := ⟨_, List.getElem?_eq_getElem hlt⟩
    have hd : (letters s).drop i = c :: (letters s).drop (i + 1) := by
      rw [List.drop_eq_getElem_cons hlt]
      congr 1
      exact (List.getElem?_eq_some_iff.1 hc).2
    rw [hd] at c1 c2
    have j1 : IntKind.i64.wrap ((i : Int) + 1) = ((i + 1 : Nat) : Int) := by rw [i64_in _ (by omega)]; omega
    have ja : IntKind.i64.wrap ((a : Int) + 1) = ((a + 1 : Nat) : Int) := by rw [i64_in _ (by omega)]; omega
    have jb : IntKind.i64.wrap ((b : Int) + 1) = ((b + 1 : Nat) : Int) := by rw [i64_in _ (by omega)]; omega
    simp only [bindV_some, binV_lss, condK_bool, hlt', decide_true, if_true, idG_eq, idxT_at hc, binNil_int, binV_eql]
    by_cases t1 : c = 115
    · have t1i : (c : Int) = 115 := by omega
      have t2 : ¬ c = 108 := by omega
      simp only [cnt, t1, if_true] at c1
      simp only [cnt, t2, if_false] at c2
      simp only [t1i, decide_true, if_true, binV_add, bindV_some, ja]
      rw [field_fits_j1_eq]
      simp only [binNil_int, binV_add, bindV_some, idG_eq, j1]
      exact ih (i + 1) m0 (a + 1) b (by omega) (by omega) (by omega) (by omega) (by omega) c2
    · have t1' : ¬ ((c : Int) = 115) := by omega
      by_cases t2 : c = 108
      · have t2i : (c : Int) = 108 := by omega
        simp only [cnt, t1, if_false] at c1
        simp only [cnt, t2, if_true] at c2
        simp only [t1', t2i, decide_false, Bool.false_eq_true, if_false, decide_true, if_true, binV_add, bindV_some, jb]
        rw [if_neg (by decide)]
        rw [field_fits_j1_eq]
        simp only [binNil_int, binV_add, bindV_some, idG_eq, j1]
        exact ih (i + 1) m0 a (b + 1) (by omega) (by omega) (by omega) (by omega) c1 (by omega)
      · have t2' : ¬ ((c : Int) = 108) := by omega
        simp only [cnt, t1, t2, if_false] at c1 c2
        simp only [t1', t2', decide_false, Bool.false_eq_true, if_false]
        rw [field_fits_j1_eq]
        simp only [binNil_int, binV_add, bindV_some, idG_eq, j1]
        exact ih (i + 1) m0 a b (by omega) (by omega) (by omega) (by omega) c1 c2
theorem fitsS_ok : SpecOk Try.prog 26 fitsS := by
  refine specOk_wf mixed Try.func26 (by kernel_rfl) (by kernel_rfl) (tab := []) (by simp) (by simp) (keep := field_fits_keep) ?_
  rintro args h k wf ⟨s, vN, vS, vL, nN, nS, nL, rfl, hs, ⟨o1, o2, o3⟩, h1, h2, h3, H⟩
  refine ⟨1001, ?_⟩
  show field_fits (tabC []) idG 1001 (.string s) (.agg #[vN, vS, vL]) h _
  rw [field_fits_eq]
  simp [o1, o2, o3]
  rw [← letters_length]
  exact fits_l0 hs (push_at _ _) h1 h2 h3 ⟨_, St.le.refl _, H _ (Chg.push _ _)⟩ (letters s).length 0 1001 0 0 (by omega) (by rw [letters_length]; omega) (by omega) (by omega) (by simp) (by simp)
end Go.Proofs.Ytiaijbkmgajieaa
