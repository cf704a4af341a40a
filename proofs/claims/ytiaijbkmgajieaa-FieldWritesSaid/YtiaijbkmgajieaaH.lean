/- The reader: bytes, numbers. -/
import Derived.Test.YtiaijbkmgajieaaG
set_option linter.unusedSimpArgs false
set_option linter.unusedVariables false
set_option maxHeartbeats 4000000
namespace Go.Proofs.Ytiaijbkmgajieaa
open Go.Abs Go.IntWalk

/-- What is read of so many bytes; what is left; whether they ended too soon. -/
def outZ (b : List Nat) (m : Nat) : List Nat := if m > b.length then [] else b.take m
def leftZ (b : List Nat) (m : Nat) : List Nat := if m > b.length then b else b.drop m
def shortZ (b : List Nat) (sh : Bool) (m : Nat) : Bool := if m > b.length then true else sh
theorem leftZ_mem {b : List Nat} {m c : Nat} (h : c ∈ leftZ b m) : c ∈ b := by
  unfold leftZ at h
  split at h
  · exact h
  · exact List.mem_of_mem_drop h
theorem outZ_mem {b : List Nat} {m c : Nat} (h : c ∈ outZ b m) : c ∈ b := by
  unfold outZ at h
  split at h
  · cases h
  · exact List.mem_of_mem_take h
theorem leftZ_le (b : List Nat) (m : Nat) : (leftZ b m).length ≤ b.length := by
  unfold leftZ
  split
  · exact Nat.le_refl _
  · simp
theorem outZ_le (b : List Nat) (m : Nat) : (outZ b m).length ≤ m := by
  unfold outZ
  split
  · simp
  · simp; omega
def bytesS : Abs.Spec := fun args h k => ∃ (V : Nat → Prop) (q : Nat) (vB : Value) (sh : Bool) (rest : List Value) (b : List Nat) (m : Nat), args = [ptr q, .int .i64 m] ∧ q < h.next ∧ ¬ V q ∧ b.length ≤ 100000 ∧ h.objs q = some (.cells (vB :: .bool sh :: rest) true) ∧ SliceAt V h vB b.length 1 (rowC b) ∧
  ∀ h' v' vB', Chg h h' [q] → h'.objs q = some (.cells (vB' :: .bool (shortZ b sh m) :: rest) true) → SliceAt V h' vB' (leftZ b m).length 1 (rowC (leftZ b m)) → SliceAt V h' v' (outZ b m).length 1 (rowC (outZ b m)) → k v' h'
theorem rowC_drop (b : List Nat) (m : Nat) : rowC (b.drop m) = fun i => rowC b (m + i) := by funext i; simp [rowC]
theorem bytes_cases {V : Nat → Prop} {h : St} {vB : Value} {b : List Nat} (s : SliceAt V h vB b.length 1 (rowC b)) {m : Nat} (hm : m ≤ b.length) :
    ∃ v1 v2, cutS 1 vB none (some (.int .i64 (m : Int))) = some v1 ∧ cutS 1 vB (some (.int .i64 (m : Int))) none = some v2 ∧ SliceAt V h v1 (b.take m).length 1 (rowC (b.take m)) ∧ SliceAt V h v2 (b.drop m).length 1 (rowC (b.drop m)) := by
  obtain ⟨v1, hc1, s1⟩ := s.cut (lo := none) (hi := some (.int .i64 m)) (loHi_hi (e := m) hm) (Nat.zero_le _) hm
  obtain ⟨v2, hc2, s2⟩ := s.cut (lo := some (.int .i64 m)) (hi := none) (loHi_lo (l := m) hm) hm (Nat.le_refl _)
  refine ⟨v1, v2, hc1, hc2, ?_, ?_⟩
  · have e : (b.take m).length = m - 0 := by simp; omega
    rw [e]
    refine s1.rows fun i hi => ?_
    have hi' : i < m := by omega
    simp [rowC, hi']
  · have e : (b.drop m).length = b.length - m := by simp
    rw [e, rowC_drop]
    exact s2
theorem bytesS_live : SpecLive bytesS := by
  rintro args h k ⟨V, q, vB, sh, rest, b, m, rfl, hq, hV, hb, ho, s, H⟩
  have c : ∀ o, Chg h (h.set q o) [q] := fun o => Chg.set o (by simp)
  have nV : ∀ i ∈ [q], ¬ V i := by simpa using hV
  by_cases hm : m > b.length
  · have e1 : leftZ b m = b := by simp [leftZ, hm]
    have e2 : outZ b m = [] := by simp [outZ, hm]
    rw [e1, e2] at H
    exact ⟨_, _, H (h.set q (.cells (vB :: .bool (shortZ b sh m) :: rest) true)) (.slice none 0 0) vB (c _) (set_at _ _ _) (s.chg (c _) nV) (.inl ⟨rfl, rfl⟩)⟩
  · have e1 : leftZ b m = b.drop m := by simp [leftZ, hm]
    have e2 : outZ b m = b.take m := by simp [outZ, hm]
    rw [e1, e2] at H
    obtain ⟨v1, v2, _, _, s1, s2⟩ := bytes_cases s (m := m) (by omega)
    exact ⟨_, _, H (h.set q (.cells (v2 :: .bool (shortZ b sh m) :: rest) true)) v1 v2 (c _) (set_at _ _ _) (s2.chg (c _) nV) (s1.chg (c _) nV)⟩
theorem bytesS_ok : SpecOk Try.prog 34 bytesS := by
  refine specOk_wf mixed Try.func34 (by kernel_rfl) (by kernel_rfl) (tab := []) (by simp) (by simp) (keep := field_reader_bytes_keep) ?_
  rintro args h k wf ⟨V, q, vB, sh, rest, b, m, rfl, hq, hV, hb, ho, s, H⟩
  refine ⟨0, ?_⟩
  show field_reader_bytes (tabC []) idG 0 (ptr q) (.int .i64 m) h _
  rw [field_reader_bytes_eq]
  have c : ∀ o, Chg h (h.set q o) [q] := fun o => Chg.set o (by simp)
  have nV : ∀ i ∈ [q], ¬ V i := by simpa using hV
  by_cases hm : m > b.length
  · have e1 : leftZ b m = b := by simp [leftZ, hm]
    have e2 : outZ b m = [] := by simp [outZ, hm]
    have e3 : shortZ b sh m = true := by simp [shortZ, hm]
    rw [e1, e2, e3] at H
    have hm' : (b.length : Int) < m := by omega
    simp [ptr, ho, s.len, hm']
    exact ⟨_, St.le.refl _, H (h.set q (.cells (vB :: .bool true :: rest) true)) (.slice none 0 0) vB (c _) (set_at _ _ _) (s.chg (c _) nV) (.inl ⟨rfl, rfl⟩)⟩
  · have e1 : leftZ b m = b.drop m := by simp [leftZ, hm]
    have e2 : outZ b m = b.take m := by simp [outZ, hm]
    have e3 : shortZ b sh m = sh := by simp [shortZ, hm]
    rw [e1, e2, e3] at H
    obtain ⟨v1, v2, k1, k2, s1, s2⟩ := bytes_cases s (m := m) (by omega)
    have hm' : ¬ (b.length : Int) < m := by omega
    simp [ptr, ho, s.len, hm', k1, k2, s2.one, s2.cells1]
    exact ⟨_, St.le.refl _, H (h.set q (.cells (v2 :: .bool sh :: rest) true)) v1 v2 (c _) (set_at _ _ _) (s2.chg (c _) nV) (s1.chg (c _) nV)⟩

def rnumS : Abs.Spec := fun args h k => ∃ (V : Nat → Prop) (q : Nat) (vB : Value) (sh : Bool) (rest : List Value) (b : List Nat) (w : Nat), args = [ptr q, .int .i64 w] ∧ w ≤ 8 ∧ q < h.next ∧ ¬ V q ∧ b.length ≤ 100000 ∧ (∀ c ∈ b, c < 256) ∧ h.objs q = some (.cells (vB :: .bool sh :: rest) true) ∧ SliceAt V h vB b.length 1 (rowC b) ∧
  ∀ h' vB', Chg h h' [q] → h'.objs q = some (.cells (vB' :: .bool (shortZ b sh w) :: rest) true) → SliceAt V h' vB' (leftZ b w).length 1 (rowC (leftZ b w)) → k (.int .u64 (numB (outZ b w))) h'
theorem rnumS_live : SpecLive rnumS := by
  rintro args h k ⟨V, q, vB, sh, rest, b, m, rfl, hw, hq, hV, hb, hx, ho, s, H⟩
  have c : ∀ o, Chg h (h.set q o) [q] := fun o => Chg.set o (by simp)
  have nV : ∀ i ∈ [q], ¬ V i := by simpa using hV
  by_cases hm : m > b.length
  · have e1 : leftZ b m = b := by simp [leftZ, hm]
    rw [e1] at H
    exact ⟨_, _, H (h.set q (.cells (vB :: .bool (shortZ b sh m) :: rest) true)) vB (c _) (set_at _ _ _) (s.chg (c _) nV)⟩
  · have e1 : leftZ b m = b.drop m := by simp [leftZ, hm]
    rw [e1] at H
    obtain ⟨v1, v2, _, _, s1, s2⟩ := bytes_cases s (m := m) (by omega)
    exact ⟨_, _, H (h.set q (.cells (v2 :: .bool (shortZ b sh m) :: rest) true)) v2 (c _) (set_at _ _ _) (s2.chg (c _) nV)⟩
theorem rnum_l0 {B : Nat → Prop} {nn : Nat} {v x4 : Value} {l : List Nat} {K : Cont} {h : St} {C : Oracle} (hl : l.length ≤ 8) (hx : ∀ c ∈ l, c < 256) (s4 : SliceAt B h v l.length 1 (rowC l)) (H : K (.int .u64 (numB l)) h) :
    ∀ (d i m0 : Nat), i + d = l.length → d < m0 → field_reader_number_l0 C idG nn m0 x4 (.int .u64 (numB (l.take i))) v (.int .i64 l.length) (.int .i64 i) h K := by
  intro d
  induction d with
  | zero =>
    intro i m0 hi hm
    obtain ⟨m0, rfl⟩ : ∃ m, m0 = m + 1 := ⟨m0 - 1, by omega⟩
    rw [field_reader_number_l0_eq]
    have e : i = l.length := by omega
    subst e
    simp only [bindV_some, binV_lss, condK_bool, Int.lt_irrefl, decide_false, Bool.false_eq_true, if_false, idG_eq]
    rw [field_reader_number_j1_eq, List.take_length]
    exact H
  | succ d ih =>
    intro i m0 hi hm
    obtain ⟨m0, rfl⟩ : ∃ m, m0 = m + 1 := ⟨m0 - 1, by omega⟩
    rw [field_reader_number_l0_eq]
    have hlt : (i : Int) < l.length := by omega
    obtain ⟨b, o, g1, g2, g3, cs, own, g4, g5⟩ := s4.idx (Int.natCast_nonneg i) hlt .i64
    have g6 := takeN_get g5 (j := 0) (by omega)
    have hi' : i < l.length := by omega
    have hg : l[i]?.getD 0 = l[i] := by rw [List.getElem?_eq_getElem hi']; rfl
    have hc := hx l[i] (List.getElem_mem _)
    simp only [rowC, Int.toNat_natCast, hg, Nat.add_zero, List.getElem?_cons_zero] at g6
    have hlt2 := numB_lt (l.take i) fun c hc => hx c (List.mem_of_mem_take hc)
    have hp := pow256_le (i := i) (by omega)
    have hli : (l.take i).length = i := by simp; omega
    rw [hli] at hlt2
    have j1 : IntKind.i64.wrap ((i : Int) + 1) = ((i + 1 : Nat) : Int) := by rw [i64_in _ (by omega)]; omega
    have et : l.take (i + 1) = l.take i ++ [l[i]] := by rw [List.take_succ_eq_append_getElem hi']
    simp only [binV_lss, bindV_some, condK_bool, hlt, decide_true, if_true, idG_eq, g1, loadV_ptr, g4, loadM_cells, partV_one, g6, bc, binNil_int, shl8 _ _ (show numB (l.take i) * 256 < _ by omega), wrapV_int, u64_wrap l[i] (by omega), or8 _ _ _ (show numB (l.take i) * 256 + l[i] < _ by omega) hc, binV_add, j1]
    rw [← numB_snoc, ← et]
    exact ih (i + 1) m0 (by omega) (by omega)
theorem rnumS_ok : SpecOk Try.prog 33 rnumS := by
  refine specOk_wf mixed Try.func33 (by kernel_rfl) (by kernel_rfl) (tab := [(34, bytesS)]) (by simp [bytesS_ok]) (by simp [bytesS_live]) (keep := field_reader_number_keep) ?_
  rintro args h k wf ⟨V, q, vB, sh, rest, b, w, rfl, hw, hq, hV, hb, hx, ho, s, H⟩
  refine ⟨9, ?_⟩
  show field_reader_number (tabC [(34, bytesS)]) idG 9 (ptr q) (.int .i64 w) h _
  rw [field_reader_number_eq]
  refine .inl ⟨rfl, V, q, vB, sh, rest, b, w, rfl, hq, hV, hb, ho, s, fun h' v' vB' c' o' s1 s2 => ?_⟩
  simp only [s2.len, bindV_some, idG_eq]
  have e : numB ((outZ b w).take 0) = 0 := by simp [numB]
  have hle := outZ_le b w
  have := rnum_l0 (C := tabC [(34, bytesS)]) (nn := 9) (x4 := .int .u64 0) (K := fun v h1 => ∃ h2, St.le h2 h1 ∧ k v h2) (by omega) (fun c hc => hx c (outZ_mem hc)) s2 ⟨_, St.le.refl _, H h' vB' c' o' s1⟩ (outZ b w).length 0 9 (by omega) (by omega)
  rw [e] at this
  exact this
end Go.Proofs.Ytiaijbkmgajieaa
