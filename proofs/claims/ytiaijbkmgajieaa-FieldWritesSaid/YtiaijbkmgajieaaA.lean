/- Shapes: how many bytes a letter's number has, how many bytes there are at least. -/
import Derived.Test.YtiaijbkmgajieaaAbsSl
import Derived.Test.YtiaijbkmgajieaaGenA
set_option linter.unusedSimpArgs false
set_option linter.unusedVariables false
set_option maxHeartbeats 4000000
namespace Go.Proofs.Ytiaijbkmgajieaa
open Go.Abs Go.IntWalk

theorem mixed : Try.prog.follows .mixedOrders = true := by kernel_rfl
/-- A text's letters, as numbers. -/
def letters (s : ByteArray) : List Nat := s.data.toList.map UInt8.toNat
theorem letters_length (s : ByteArray) : (letters s).length = s.size := by simp [letters]
theorem idxT_at {s : ByteArray} {i c : Nat} {k : IntKind} (h : (letters s)[i]? = some c) : idxT (.string s) (.int k i) = some (.int .u8 c) := by
  simp only [idxT, Int.natCast_nonneg, if_true, Int.toNat_natCast]
  simp only [letters, List.getElem?_map, Array.getElem?_toList] at h
  have e : s[i]? = s.data[i]? := rfl
  rw [e]
  cases hx : s.data[i]? with
  | none => rw [hx] at h; cases h
  | some b => rw [hx] at h; cases h; rfl
theorem letters_lt {s : ByteArray} {i c : Nat} (h : (letters s)[i]? = some c) : c < 256 := by
  simp only [letters, List.getElem?_map] at h
  cases hx : s.data.toList[i]? with
  | none => rw [hx] at h; cases h
  | some b => rw [hx] at h; cases h; exact b.toNat_lt

/-- How many bytes a letter's number has. -/
def wd (c : Nat) : Nat := if c = 98 ∨ c = 115 ∨ c = 108 then 1 else if c = 119 then 2 else if c = 100 then 4 else if c = 113 then 8 else 0
theorem wd_le (c : Nat) : wd c ≤ 8 := by unfold wd; split; omega; split; omega; split; omega; split <;> omega
def sumW : List Nat → Nat → Int
  | [], a => a
  | c :: r, a => if wd c = 0 then -1 else sumW r (a + wd c)
def leastZ (cs : List Nat) : Int := if cs.length > 8 then -1 else sumW cs 0

def widthS : Abs.Spec := fun args h k => ∃ c : Nat, args = [.int .u8 c] ∧ k (.int .i64 (wd c)) h
theorem widthS_live : SpecLive widthS := by rintro args h k ⟨c, rfl, H⟩; exact ⟨_, _, H⟩
theorem widthS_ok : SpecOk Try.prog 25 widthS := by
  refine specOk_wf mixed Try.func25 (by kernel_rfl) (by kernel_rfl) (tab := []) (by simp) (by simp) (keep := field_width_keep) ?_
  rintro args h k wf ⟨c, rfl, H⟩
  refine ⟨0, ?_⟩
  show field_width (tabC []) idG 0 (.int .u8 c) h _
  rw [field_width_eq]
  by_cases h1 : c = 98
  · subst h1; simp [field_width_j0_eq]; exact ⟨_, St.le.refl _, H⟩
  by_cases h2 : c = 115
  · subst h2; simp [field_width_j0_eq]; exact ⟨_, St.le.refl _, H⟩
  by_cases h3 : c = 108
  · subst h3; simp [field_width_j0_eq]; exact ⟨_, St.le.refl _, H⟩
  by_cases h4 : c = 119
  · subst h4; simp [field_width_j0_eq]; exact ⟨_, St.le.refl _, H⟩
  by_cases h5 : c = 100
  · subst h5; simp [field_width_j0_eq]; exact ⟨_, St.le.refl _, H⟩
  by_cases h6 : c = 113
  · subst h6; simp [field_width_j0_eq]; exact ⟨_, St.le.refl _, H⟩
  have e : ∀ n : Nat, c ≠ n → ((c : Int) = (n : Int)) = False := by intro n hn; simp; omega
  have w : wd c = 0 := by simp [wd, h1, h2, h3, h4, h5, h6]
  rw [w] at H
  have e1 := e 98 h1; have e2 := e 115 h2; have e3 := e 108 h3; have e4 := e 119 h4; have e5 := e 100 h5; have e6 := e 113 h6
  simp at e1 e2 e3 e4 e5 e6
  simp [field_width_j0_eq, field_width_j1_eq, e1, e2, e3, e4, e5, e6]
  exact ⟨_, St.le.refl _, H⟩

def leastS : Abs.Spec := fun args h k => ∃ s, args = [.string s] ∧ s.size < 9223372036854775808 ∧ k (.int .i64 (leastZ (letters s))) h
theorem leastS_live : SpecLive leastS := by rintro args h k ⟨c, rfl, _, H⟩; exact ⟨_, _, H⟩
theorem least_l0 {s : ByteArray} {n : Nat} {x2 : Value} {h : St} {K : Cont} : ∀ (d i m0 a : Nat) (x5 : Value), i + d = (letters s).length → (letters s).length ≤ 8 → d < m0 → a ≤ 8 * i → K (.int .i64 (sumW ((letters s).drop i) a)) h →
    field_Least_l0 (tabC [(25, widthS)]) idG n m0 (.string s) x2 (.int .i64 a) x5 (.int .i64 (letters s).length) (.int .i64 i) h K := by
  intro d
  induction d with
  | zero =>
    intro i m0 a x5 hi h8 hm ha H
    obtain ⟨m0, rfl⟩ : ∃ m, m0 = m + 1 := ⟨m0 - 1, by omega⟩
    rw [field_Least_l0_eq]
    have e : i = (letters s).length := by omega
    subst e
    simp only [bindV_some, binV_lss, condK_bool, Int.lt_irrefl, decide_false, Bool.false_eq_true, if_false, idG_eq]
    rw [field_Least_j1_eq]
    simpa [sumW] using H
  | succ d ih =>
    intro i m0 a x5 hi h8 hm ha H
    obtain ⟨m0, rfl⟩ : ∃ m, m0 = m + 1 := ⟨m0 - 1, by omega⟩
    rw [field_Least_l0_eq]
    have hlt : i < (letters s).length := by omega
    obtain ⟨c, hc⟩ : ∃ c, (letters s)[i]? = some c := ⟨_, List.getElem?_eq_getElem hlt⟩
    have hd : (letters s).drop i = c :: (letters s).drop (i + 1) := by
      rw [List.drop_eq_getElem_cons hlt]
      congr 1
      exact (List.getElem?_eq_some_iff.1 hc).2
    rw [hd, sumW] at H
    simp [hlt, idxT_at hc]
    refine .inl ⟨rfl, c, rfl, ?_⟩
    by_cases hw : wd c = 0
    · simp [hw] at H ⊢
      exact H
    · simp only [hw, if_false] at H
      have := wd_le c
      have hw' : ((wd c : Nat) : Int) ≠ 0 := by omega
      have e1 : (a : Int) + (wd c : Nat) = ((a + wd c : Nat) : Int) := by omega
      have e2 : (i : Int) + 1 = ((i + 1 : Nat) : Int) := by omega
      simp (disch := omega) [hw, i64_in]
      rw [e1, e2]
      exact ih (i + 1) m0 (a + wd c) _ (by omega) h8 (by omega) (by omega) H
theorem leastS_ok : SpecOk Try.prog 12 leastS := by
  refine specOk_wf mixed Try.func12 (by kernel_rfl) (by kernel_rfl) (tab := [(25, widthS)]) (by simp [widthS_ok]) (by simp [widthS_live]) (keep := field_Least_keep) ?_
  rintro args h k wf ⟨s, rfl, hs, H⟩
  refine ⟨9, ?_⟩
  show field_Least (tabC [(25, widthS)]) idG 9 (.string s) h _
  rw [field_Least_eq]
  rw [← letters_length] at hs
  unfold leastZ at H
  by_cases h8 : (letters s).length > 8
  · rw [if_pos h8] at H
    rw [letters_length] at h8
    have : (8 : Int) < s.size := by omega
    simp [this]
    exact ⟨_, St.le.refl _, H⟩
  · rw [if_neg h8] at H
    have h8' : ¬ (8 : Int) < s.size := by rw [letters_length] at h8; omega
    simp [h8']
    rw [← letters_length]
    exact least_l0 (letters s).length 0 9 0 _ (by omega) (by omega) (by omega) (by omega) ⟨_, St.le.refl _, by simpa using H⟩
def rightS : Abs.Spec := fun args h k => ∃ s, args = [.string s] ∧ s.size < 9223372036854775808 ∧ k (.bool (decide (0 ≤ leastZ (letters s)))) h
theorem rightS_live : SpecLive rightS := by rintro args h k ⟨c, rfl, _, H⟩; exact ⟨_, _, H⟩
theorem rightS_ok : SpecOk Try.prog 11 rightS := by
  refine specOk_wf mixed Try.func11 (by kernel_rfl) (by kernel_rfl) (tab := [(12, leastS)]) (by simp [leastS_ok]) (by simp [leastS_live]) (keep := field_Right_keep) ?_
  rintro args h k wf ⟨s, rfl, hs, H⟩
  refine ⟨0, ?_⟩
  show field_Right (tabC [(12, leastS)]) idG 0 (.string s) h _
  rw [field_Right_eq]
  refine .inl ⟨rfl, s, rfl, hs, ?_⟩
  simp
  exact ⟨_, St.le.refl _, H⟩

/-! ### the document's -/
def refWidthS : Abs.Spec := fun args h k => ∃ c : Nat, args = [.int .u8 c] ∧ ∀ h', Chg h h' [] → k (.int .i64 (wd c)) h'
theorem refWidthS_live : SpecLive refWidthS := by rintro args h k ⟨c, rfl, H⟩; exact ⟨_, _, H h (Chg.refl _ _)⟩
theorem idxT_lit (k : IntKind) (i : Int) (s : ByteArray) : idxT (.string s) (.int k i) = if 0 ≤ i then (s[i.toNat]?).map fun b => .int .u8 b.toNat else none := rfl
theorem refWidthS_ok : SpecOk Try.prog 24 refWidthS := by
  refine specOk_wf mixed Try.func24 (by kernel_rfl) (by kernel_rfl) (tab := []) (by simp) (by simp) (keep := tiltyardref01_Width_keep) ?_
  rintro args h k wf ⟨c, rfl, H⟩
  refine ⟨7, ?_⟩
  show tiltyardref01_Width (tabC []) idG 7 (.int .u8 c) h _
  rw [tiltyardref01_Width_eq]
  simp [buildSliceE, fillL, repL, allOne_eq]
  have hc := Chg.push (h := h) (.cells [.int .i64 1, .int .i64 2, .int .i64 4, .int .i64 8, .int .i64 1, .int .i64 1] true) []
  have fin := H _ hc
  have g0 : (⟨#[98, 119, 100, 113, 115, 108]⟩ : ByteArray)[0]? = some 98 := rfl
  have g1 : (⟨#[98, 119, 100, 113, 115, 108]⟩ : ByteArray)[1]? = some 119 := rfl
  have g2 : (⟨#[98, 119, 100, 113, 115, 108]⟩ : ByteArray)[2]? = some 100 := rfl
  have g3 : (⟨#[98, 119, 100, 113, 115, 108]⟩ : ByteArray)[3]? = some 113 := rfl
  have g4 : (⟨#[98, 119, 100, 113, 115, 108]⟩ : ByteArray)[4]? = some 115 := rfl
  have g5 : (⟨#[98, 119, 100, 113, 115, 108]⟩ : ByteArray)[5]? = some 108 := rfl
  have fin' : ∃ h2, St.le h2 (h.push (.cells [.int .i64 1, .int .i64 2, .int .i64 4, .int .i64 8, .int .i64 1, .int .i64 1] true)) ∧ k (.int .i64 (wd c)) h2 := ⟨_, St.le.refl _, fin⟩
  rw [tiltyardref01_Width_l0_eq]
  simp [idxT_lit, g0, idxS]
  by_cases h1 : c = 98
  · subst h1; simp; exact fin'
  have e : ∀ n : Nat, c ≠ n → ((n : Int) = (c : Int)) = False := by intro n hn; simp; omega
  have e1 := e 98 h1; simp at e1
  simp (disch := omega) [e1, i64_in]
  rw [tiltyardref01_Width_l0_eq]
  simp [idxT_lit, g1, idxS]
  by_cases h2 : c = 119
  · subst h2; simp; exact fin'
  have e2 := e 119 h2; simp at e2
  simp (disch := omega) [e2, i64_in]
  rw [tiltyardref01_Width_l0_eq]
  simp [idxT_lit, g2, idxS]
  by_cases h3 : c = 100
  · subst h3; simp; exact fin'
  have e3 := e 100 h3; simp at e3
  simp (disch := omega) [e3, i64_in]
  rw [tiltyardref01_Width_l0_eq]
  simp [idxT_lit, g3, idxS]
  by_cases h4 : c = 113
  · subst h4; simp; exact fin'
  have e4 := e 113 h4; simp at e4
  simp (disch := omega) [e4, i64_in]
  rw [tiltyardref01_Width_l0_eq]
  simp [idxT_lit, g4, idxS]
  by_cases h5 : c = 115
  · subst h5; simp; exact fin'
  have e5 := e 115 h5; simp at e5
  simp (disch := omega) [e5, i64_in]
  rw [tiltyardref01_Width_l0_eq]
  simp [idxT_lit, g5, idxS]
  by_cases h6 : c = 108
  · subst h6; simp; exact fin'
  have e6 := e 108 h6; simp at e6
  simp (disch := omega) [e6, i64_in]
  rw [tiltyardref01_Width_l0_eq]
  simp
  rw [tiltyardref01_Width_j1_eq]
  have w : wd c = 0 := by simp [wd, h1, h2, h3, h4, h5, h6]
  rw [w] at fin'
  exact fin'

def refLeastS : Abs.Spec := fun args h k => ∃ s, args = [.string s] ∧ s.size < 9223372036854775808 ∧ ∀ h', Chg h h' [] → k (.int .i64 (leastZ (letters s))) h'
theorem refLeastS_live : SpecLive refLeastS := by rintro args h k ⟨c, rfl, _, H⟩; exact ⟨_, _, H h (Chg.refl _ _)⟩
theorem refLeast_l0 {s : ByteArray} {n : Nat} {x2 : Value} {h0 : St} {K : Cont} : ∀ (d i m0 a : Nat) (h : St), i + d = (letters s).length → (letters s).length ≤ 8 → d < m0 → a ≤ 8 * i → Chg h0 h [] → (∀ h', Chg h0 h' [] → K (.int .i64 (sumW ((letters s).drop i) a)) h') →
    tiltyardref01_Least_l0 (tabC [(24, refWidthS)]) idG n m0 (.string s) x2 (.int .i64 a) (.int .i64 i) h K := by
  intro d
  induction d with
  | zero =>
    intro i m0 a h hi h8 hm ha hc H
    obtain ⟨m0, rfl⟩ : ∃ m, m0 = m + 1 := ⟨m0 - 1, by omega⟩
    rw [tiltyardref01_Least_l0_eq]
    have e : i = (letters s).length := by omega
    have e' : ¬ ((i : Int) < s.size) := by rw [← letters_length]; omega
    simp [e']
    rw [tiltyardref01_Least_j1_eq]
    subst e
    simpa [sumW] using H h hc
  | succ d ih =>
    intro i m0 a h hi h8 hm ha hc0 H
    obtain ⟨m0, rfl⟩ : ∃ m, m0 = m + 1 := ⟨m0 - 1, by omega⟩
    rw [tiltyardref01_Least_l0_eq]
    have hlt : i < (letters s).length := by omega
    have hlt' : ((i : Int) < s.size) := by rw [← letters_length]; omega
    obtain ⟨c, hc⟩ : ∃ c, (letters s)[i]? = some c := ⟨_, List.getElem?_eq_getElem hlt⟩
    have hd : (letters s).drop i = c :: (letters s).drop (i + 1) := by
      rw [List.drop_eq_getElem_cons hlt]
      congr 1
      exact (List.getElem?_eq_some_iff.1 hc).2
    rw [hd] at H
    simp only [sumW] at H
    simp [hlt', idxT_at hc]
    refine .inl ⟨rfl, c, rfl, fun h1 c1 => ?_⟩
    have c1' := hc0.of_chg c1 (by simp)
    by_cases hw : wd c = 0
    · simp [hw] at H ⊢
      exact H h1 c1'
    · simp only [hw, if_false] at H
      have := wd_le c
      have e1 : (a : Int) + (wd c : Nat) = ((a + wd c : Nat) : Int) := by omega
      have e2 : (i : Int) + 1 = ((i + 1 : Nat) : Int) := by omega
      simp (disch := omega) [hw, i64_in]
      refine .inl ⟨rfl, c, rfl, fun h2 c2 => ?_⟩
      simp (disch := omega) [hw, i64_in]
      rw [e1, e2]
      exact ih (i + 1) m0 (a + wd c) _ (by omega) h8 (by omega) (by omega) (c1'.of_chg c2 (by simp)) H
theorem refLeastS_ok : SpecOk Try.prog 10 refLeastS := by
  refine specOk_wf mixed Try.func10 (by kernel_rfl) (by kernel_rfl) (tab := [(24, refWidthS)]) (by simp [refWidthS_ok]) (by simp [refWidthS_live]) (keep := tiltyardref01_Least_keep) ?_
  rintro args h k wf ⟨s, rfl, hs, H⟩
  refine ⟨9, ?_⟩
  show tiltyardref01_Least (tabC [(24, refWidthS)]) idG 9 (.string s) h _
  rw [tiltyardref01_Least_eq]
  rw [← letters_length] at hs
  unfold leastZ at H
  by_cases h8 : (letters s).length > 8
  · rw [if_pos h8] at H
    rw [letters_length] at h8
    have : (8 : Int) < s.size := by omega
    simp [this]
    exact ⟨_, St.le.refl _, H h (Chg.refl _ _)⟩
  · rw [if_neg h8] at H
    have h8' : ¬ (8 : Int) < s.size := by rw [letters_length] at h8; omega
    simp [h8']
    exact refLeast_l0 (letters s).length 0 9 0 h (by omega) (by omega) (by omega) (by omega) (Chg.refl _ _) fun h' c => ⟨_, St.le.refl _, by simpa using H h' c⟩
end Go.Proofs.Ytiaijbkmgajieaa
