/- Shapes: how many bytes a letter's number has, how many bytes there are at least. -/
import Derived.Test.YtdmcmebfclikgaaDoorAbsSl
import Derived.Test.YtdmcmebfclikgaaDoorGenA
set_option linter.unusedSimpArgs false
set_option linter.unusedVariables false
set_option maxHeartbeats 4000000
namespace Go.Proofs.YtdmcmebfclikgaaDoor
open Go.Abs Go.IntWalk

theorem mixed : Tryd.prog.follows .mixedOrders = true := by kernel_rfl
/-- A text's letters, as numbers. -/
def letters (s : ByteArray) : List Nat := s.data.toList.map UInt8.toNat
theorem letters_length (s : ByteArray) : (letters s).length = s.size := by simp [letters]
theorem idxT_at {s : ByteArray} {i c : Nat} {k : IntKind} (h : (letters s)[i]? = some c) : idxT (.string s) (.int k i) = some (.int .u8 c) := by
  simp only [idxT, Int.natCast_nonneg, if_true, Int.toNat_natCast]
  simp only [letters, List.getElem?_map, Array.getElem?_toList] at h
  have e : s[i]? = s.data[i]? := rfl
  rw [e]
  cases hx : s.data[i]? with
  | none => rw [hx] at h; cases h
  | some b => rw [hx] at h; cases h; rfl
theorem letters_lt {s : ByteArray} {i c : Nat} (h : (letters s)[i]? = some c) : c < 256 := by
  simp only [letters, List.getElem?_map] at h
  cases hx : s.data.toList[i]? with
  | none => rw [hx] at h; cases h
  | some b => rw [hx] at h; cases h; exact b.toNat_lt

/-- How many bytes a letter's number has. -/
def wd (c : Nat) : Nat := if c = 98 ∨ c = 115 ∨ c = 108 then 1 else if c = 119 then 2 else if c = 100 then 4 else if c = 113 then 8 else 0
theorem wd_le (c : Nat) : wd c ≤ 8 := by unfold wd; split; omega; split; omega; split; omega; split <;> omega
def sumW : List Nat → Nat → Int
  | [], a => a
  | c :: r, a => if wd c = 0 then -1 else sumW r (a + wd c)
def leastZ (cs : List Nat) : Int := if cs.length > 8 then -1 else sumW cs 0

def widthS : Abs.Spec := fun args h k => ∃ c : Nat, args = [.int .u8 c] ∧ k (.int .i64 (wd c)) h
theorem widthS_live : SpecLive widthS := by rintro args h k ⟨c, rfl, H⟩; exact ⟨_, _, H⟩
theorem widthS_ok : SpecOk Tryd.prog 47 widthS := by
  refine specOk_wf mixed Tryd.func47 (by kernel_rfl) (by kernel_rfl) (tab := []) (by simp) (by simp) (keep := field_width_keep) ?_
  rintro args h k wf ⟨c, rfl, H⟩
  refine ⟨0, ?_⟩
  show field_width (tabC []) idG 0 (.int .u8 c) h _
  rw [field_width_eq]
  by_cases h1 : c = 98
  · subst h1; simp [field_width_j0_eq]; exact ⟨_, St.le.refl _, H⟩
  by_cases h2 : c = 115
  · subst h2; simp [field_width_j0_eq]; exact ⟨_, St.le.refl _, H⟩
  by_cases h3 : c = 108
  · subst h3; simp [field_width_j0_eq]; exact ⟨_, St.le.refl _, H⟩
  by_cases h4 : c = 119
  · subst h4; simp [field_width_j0_eq]; exact ⟨_, St.le.refl _, H⟩
  by_cases h5 : c = 100
  · subst h5; simp [field_width_j0_eq]; exact ⟨_, St.le.refl _, H⟩
  by_cases h6 : c = 113
  · subst h6; simp [field_width_j0_eq]; exact ⟨_, St.le.refl _, H⟩
  have e : ∀ n : Nat, c ≠ n → ((c : Int) = (n : Int)) = False := by intro n hn; simp; omega
  have w : wd c = 0 := by simp [wd, h1, h2, h3, h4, h5, h6]
  rw [w] at H
  have e1 := e 98 h1; have e2 := e 115 h2; have e3 := e 108 h3; have e4 := e 119 h4; have e5 := e 100 h5; have e6 := e 113 h6
  simp at e1 e2 e3 e4 e5 e6
  simp [field_width_j0_eq, field_width_j1_eq, e1, e2, e3, e4, e5, e6]
  exact ⟨_, St.le.refl _, H⟩

def leastS : Abs.Spec := fun args h k => ∃ s, args = [.string s] ∧ s.size < 9223372036854775808 ∧ k (.int .i64 (leastZ (letters s))) h
theorem leastS_live : SpecLive leastS := by rintro args h k ⟨c, rfl, _, H⟩; exact ⟨_, _, H⟩
theorem least_l0 {s : ByteArray} {n : Nat} {x2 : Value} {h : St} {K : Cont} : ∀ (d i m0 a : Nat) (x5 : Value), i + d = (letters s).length → (letters s).length ≤ 8 → d < m0 → a ≤ 8 * i → K (.int .i64 (sumW ((letters s).drop i) a)) h →
    field_Least_l0 (tabC [(47, widthS)]) idG n m0 (.string s) x2 (.int .i64 a) x5 (.int .i64 (letters s).length) (.int .i64 i) h K := by
  intro d
  induction d with
  | zero =>
    intro i m0 a x5 hi h8 hm ha H
    obtain ⟨m0, rfl⟩ : ∃ m, m0 = m + 1 := ⟨m0 - 1, by omega⟩
    rw [field_Least_l0_eq]
    have e : i = (letters s).length := by omega
    subst e
    simp only [bindV_some, binV_lss, condK_bool, Int.lt_irrefl, decide_false, Bool.false_eq_true, if_false, idG_eq]
    rw [field_Least_j1_eq]
    simpa [sumW] using H
  | succ d ih =>
    intro i m0 a x5 hi h8 hm ha H
    obtain ⟨m0, rfl⟩ : ∃ m, m0 = m + 1 := ⟨m0 - 1, by omega⟩
    rw [field_Least_l0_eq]
    have hlt : i < (letters s).length := by omega
    obtain ⟨c, hc⟩ : ∃ c, (letters s)[i]? = some c := ⟨_, List.getElem?_eq_getElem hlt⟩
    have hd : (letters s).drop i = c :: (letters s).drop (i + 1) := by
      rw [List.drop_eq_getElem_cons hlt]
      congr 1
      exact (List.getElem?_eq_some_iff.1 hc).2
    rw [hd, sumW] at H
    simp [hlt, idxT_at hc]
    refine .inl ⟨rfl, c, rfl, ?_⟩
    by_cases hw : wd c = 0
    · simp [hw] at H ⊢
      exact H
    · simp only [hw, if_false] at H
      have := wd_le c
      have hw' : ((wd c : Nat) : Int) ≠ 0 := by omega
      have e1 : (a : Int) + (wd c : Nat) = ((a + wd c : Nat) : Int) := by omega
      have e2 : (i : Int) + 1 = ((i + 1 : Nat) : Int) := by omega
      simp (disch := omega) [hw, i64_in]
      rw [e1, e2]
      exact ih (i + 1) m0 (a + wd c) _ (by omega) h8 (by omega) (by omega) H
theorem leastS_ok : SpecOk Tryd.prog 42 leastS := by
  refine specOk_wf mixed Tryd.func42 (by kernel_rfl) (by kernel_rfl) (tab := [(47, widthS)]) (by simp [widthS_ok]) (by simp [widthS_live]) (keep := field_Least_keep) ?_
  rintro args h k wf ⟨s, rfl, hs, H⟩
  refine ⟨9, ?_⟩
  show field_Least (tabC [(47, widthS)]) idG 9 (.string s) h _
  rw [field_Least_eq]
  rw [← letters_length] at hs
  unfold leastZ at H
  by_cases h8 : (letters s).length > 8
  · rw [if_pos h8] at H
    rw [letters_length] at h8
    have : (8 : Int) < s.size := by omega
    simp [this]
    exact ⟨_, St.le.refl _, H⟩
  · rw [if_neg h8] at H
    have h8' : ¬ (8 : Int) < s.size := by rw [letters_length] at h8; omega
    simp [h8']
    rw [← letters_length]
    exact least_l0 (letters s).length 0 9 0 _ (by omega) (by omega) (by omega) (by omega) ⟨_, St.le.refl _, by simpa using H⟩
def rightS : Abs.Spec := fun args h k => ∃ s, args = [.string s] ∧ s.size < 9223372036854775808 ∧ k (.bool (decide (0 ≤ leastZ (letters s)))) h
theorem rightS_live : SpecLive rightS := by rintro args h k ⟨c, rfl, _, H⟩; exact ⟨_, _, H⟩
theorem rightS_ok : SpecOk Tryd.prog 25 rightS := by
  refine specOk_wf mixed Tryd.func25 (by kernel_rfl) (by kernel_rfl) (tab := [(42, leastS)]) (by simp [leastS_ok]) (by simp [leastS_live]) (keep := field_Right_keep) ?_
  rintro args h k wf ⟨s, rfl, hs, H⟩
  refine ⟨0, ?_⟩
  show field_Right (tabC [(42, leastS)]) idG 0 (.string s) h _
  rw [field_Right_eq]
  refine .inl ⟨rfl, s, rfl, hs, ?_⟩
  simp
  exact ⟨_, St.le.refl _, H⟩

/-! ### the document's -/
def refWidthS : Abs.Spec := fun args h k => ∃ c : Nat, args = [.int .u8 c] ∧ ∀ h', Chg h h' [] → k (.int .i64 (wd c)) h'
theorem refWidthS_live : SpecLive refWidthS := by rintro args h k ⟨c, rfl, H⟩; exact ⟨_, _, H h (Chg.refl _ _)⟩
theorem idxT_lit (k : IntKind) (i : Int) (s : ByteArray) : idxT (.string s) (.int k i) = if 0 ≤ i then (s[i.toNat]?).map fun b => .int .u8 b.toNat else none := rfl
theorem refWidthS_ok : SpecOk Tryd.prog 52 refWidthS := by
  refine specOk_wf mixed Tryd.func52 (by kernel_rfl) (by kernel_rfl) (tab := []) (by simp) (by simp) (keep := tiltyardref01_Width_keep) ?_
  rintro args h k wf ⟨c, rfl, H⟩
  refine ⟨7, ?_⟩
  show tiltyardref01_Width (tabC []) idG 7 (.int .u8 c) h _
  rw [tiltyardref01_Width_eq]
  simp [buildSliceE, fillL, repL, allOne_eq]
  have hc := Chg.push (h := h) (.cells [.int .i64 1, .int .i64 2, .int .i64 4, .int .i64 8, .int .i64 1, .int .i64 1] true) []
  have fin := H _ hc
  have g0 : (⟨#[98, 119, 100, 113, 115, 108]⟩ : ByteArray)[0]? = some 98 := rfl
  have g1 : (⟨#[98, 119, 100, 113, 115, 108]⟩ : ByteArray)[1]? = some 119 := rfl
  have g2 : (⟨#[98, 119, 100, 113, 115, 108]⟩ : ByteArray)[2]? = some 100 := rfl
  have g3 : (⟨#[98, 119, 100, 113, 115, 108]⟩ : ByteArray)[3]? = some 113 := rfl
  have g4 : (⟨#[98, 119, 100, 113, 115, 108]⟩ : ByteArray)[4]? = some 115 := rfl
  have g5 : (⟨#[98, 119, 100, 113, 115, 108]⟩ : ByteArray)[5]? = some 108 := rfl
  have fin' : ∃ h2, St.le h2 (h.push (.cells [.int .i64 1, .int .i64 2, .int .i64 4, .int .i64 8, .int .i64 1, .int .i64 1] true)) ∧ k (.int .i64 (wd c)) h2 := ⟨_, St.le.refl _, fin⟩
  rw [tiltyardref01_Width_l0_eq]
  simp [idxT_lit, g0, idxS]
  by_cases h1 : c = 98
  · subst h1; simp; exact fin'
  have e : ∀ n : Nat, c ≠ n → ((n : Int) = (c : Int)) = False := by intro n hn; simp; omega
  have e1 := e 98 h1; simp at e1
  simp (disch := omega) [e1, i64_in]
  rw [tiltyardref01_Width_l0_eq]
  simp [idxT_lit, g1, idxS]
  by_cases h2 : c = 119
  · subst h2; simp; exact fin'
  have e2 := e 119 h2; simp at e2
  simp (disch := omega) [e2, i64_in]
  rw [tiltyardref01_Width_l0_eq]
  simp [idxT_lit, g2, idxS]
  by_cases h3 : c = 100
  · subst h3; simp; exact fin'
  have e3 := e 100 h3; simp at e3
  simp (disch := omega) [e3, i64_in]
  rw [tiltyardref01_Width_l0_eq]
  simp [idxT_lit, g3, idxS]
  by_cases h4 : c = 113
  · subst h4; simp; exact fin'
  have e4 := e 113 h4; simp at e4
  simp (disch := omega) [e4, i64_in]
  rw [tiltyardref01_Width_l0_eq]
  simp [idxT_lit, g4, idxS]
  by_cases h5 : c = 115
  · subst h5; simp; exact fin'
  have e5 := e 115 h5; simp at e5
  simp (disch := omega) [e5, i64_in]
  rw [tiltyardref01_Width_l0_eq]
  simp [idxT_lit, g5, idxS]
  by_cases h6 : c = 108
  · subst h6; simp; exact fin'
  have e6 := e 108 h6; simp at e6
  simp (disch := omega) [e6, i64_in]
  rw [tiltyardref01_Width_l0_eq]
  simp
  rw [tiltyardref01_Width_j1_eq]
  have w : wd c = 0 := by simp [wd, h1, h2, h3, h4, h5, h6]
  rw [w] at fin'
  exact fin'

def refLeastS : Abs.Spec := fun args h k => ∃ s, args = [.string s] ∧ s.size < 9223372036854775808 ∧ ∀ h', Chg h h' [] → k (.int .i64 (leastZ (letters s))) h'
theorem refLeastS_live : SpecLive refLeastS := by rintro args h k ⟨c, rfl, _, H⟩; exact ⟨_, _, H h (Chg.refl _ _)⟩
theorem refLeast_l0 {s : ByteArray} {n : Nat} {x2 : Value} {h0 : St} {K : Cont} : ∀ (d i m0 a : Nat) (h : St), i + d = (letters s).length → (letters s).length ≤ 8 → d < m0 → a ≤ 8 * i → Chg h0 h [] → (∀ h', Chg h0 h' [] → K (.int .i64 (sumW ((letters s).drop i) a)) h') →
    tiltyardref01_Least_l0 (tabC [(52, refWidthS)]) idG n m0 (.string s) x2 (.int .i64 a) (.int .i64 i) h K := by
  intro d
  induction d with
  | zero =>
    intro i m0 a h hi h8 hm ha hc H
    obtain ⟨m0, rfl⟩ : ∃ m, m0 = m + 1 := ⟨m0 - 1, by omega⟩
    rw [tiltyardref01_Least_l0_eq]
    have e : i = (letters s).length := by omega
    have e' : ¬ ((i : Int) < s.size) := by rw [← letters_length]; omega
    simp [e']
    rw [tiltyardref01_Least_j1_eq]
    subst e
    simpa [sumW] using H h hc
  | succ d ih =>
    intro i m0 a h hi h8 hm ha hc0 H
    obtain ⟨m0, rfl⟩ : ∃ m, m0 = m + 1 := ⟨m0 - 1, by omega⟩
    rw [tiltyardref01_Least_l0_eq]
    have hlt : i < (letters s).length := by omega
    have hlt' : ((i : Int) < s.size) := by rw [← letters_length]; omega
    obtain ⟨c, hc⟩ : ∃ c, (letters s)[i]? = some c := ⟨_, List.getElem?_eq_getElem hlt⟩
    have hd : (letters s).drop i = c :: (letters s).drop (i + 1) := by
      rw [List.drop_eq_getElem_cons hlt]
      congr 1
      exact (List.getElem?_eq_some_iff.1 hc).2
    rw [hd] at H
    simp only [sumW] at H
    simp [hlt', idxT_at hc]
    refine .inl ⟨rfl, c, rfl, fun h1 c1 => ?_⟩
    have c1' := hc0.of_chg c1 (by simp)
    by_cases hw : wd c = 0
    · simp [hw] at H ⊢
      exact H h1 c1'
    · simp only [hw, if_false] at H
      have := wd_le c
      have e1 : (a : Int) + (wd c : Nat) = ((a + wd c : Nat) : Int) := by omega
      have e2 : (i : Int) + 1 = ((i + 1 : Nat) : Int) := by omega
      simp (disch := omega) [hw, i64_in]
      refine .inl ⟨rfl, c, rfl, fun h2 c2 => ?_⟩
      simp (disch := omega) [hw, i64_in]
      rw [e1, e2]
      exact ih (i + 1) m0 (a + wd c) _ (by omega) h8 (by omega) (by omega) (c1'.of_chg c2 (by simp)) H
theorem refLeastS_ok : SpecOk Tryd.prog 50 refLeastS := by
  refine specOk_wf mixed Tryd.func50 (by kernel_rfl) (by kernel_rfl) (tab := [(52, refWidthS)]) (by simp [refWidthS_ok]) (by simp [refWidthS_live]) (keep := tiltyardref01_Least_keep) ?_
  rintro args h k wf ⟨s, rfl, hs, H⟩
  refine ⟨9, ?_⟩
  show tiltyardref01_Least (tabC [(52, refWidthS)]) idG 9 (.string s) h _
  rw [tiltyardref01_Least_eq]
  rw [← letters_length] at hs
  unfold leastZ at H
  by_cases h8 : (letters s).length > 8
  · rw [if_pos h8] at H
    rw [letters_length] at h8
    have : (8 : Int) < s.size := by omega
    simp [this]
    exact ⟨_, St.le.refl _, H h (Chg.refl _ _)⟩
  · rw [if_neg h8] at H
    have h8' : ¬ (8 : Int) < s.size := by rw [letters_length] at h8; omega
    simp [h8']
    exact refLeast_l0 (letters s).length 0 9 0 h (by omega) (by omega) (by omega) (by omega) (Chg.refl _ _) fun h' c => ⟨_, St.le.refl _, by simpa using H h' c⟩
end Go.Proofs.YtdmcmebfclikgaaDoor

/- The writer: numbers in bytes. -/
set_option linter.unusedSimpArgs false
set_option linter.unusedVariables false
set_option maxHeartbeats 4000000
namespace Go.Proofs.YtdmcmebfclikgaaDoor
open Go.Abs Go.IntWalk

def bc (b : Nat) : Value := .int .u8 b
def ptr (p : Nat) : Value := .pointer (some ⟨p, 0, none⟩)
theorem one_bc : ∀ l : List Nat, allOne (l.map bc) = true
  | [] => rfl
  | b :: l => by simp [bc, one_bc l]
theorem u8_wrap (x : Nat) : IntKind.u8.wrap (x : Int) = ((x % 256 : Nat) : Int) := by rw [IntKind.wrap_u8]; omega
theorem shr_nat (s : Shp) (n k : Nat) (h : k ≤ 8) : binV .shr s (.int .u64 n) (.int .i64 ((8 * k : Nat) : Int)) = some (.int .u64 ((n / 256 ^ k : Nat) : Int)) := by
  have h1 : ¬ (((8 * k : Nat) : Int) < 0) := by omega
  have h2 : min (8 * k) 64 = 8 * k := by omega
  have h3 : (2 : Int) ^ (8 * k) = ((256 ^ k : Nat) : Int) := by
    rw [Int.pow_mul]; norm_cast
  simp only [binV, isShift, shiftV, h1, if_false, Int.toNat_natCast, IntKind.bits, h2, h3]
  congr 2
  rw [Int.fdiv_eq_ediv_of_nonneg _ (Int.natCast_nonneg _)]
  norm_cast
/-- A number's bytes, the highest first. -/
def putB (n : Nat) : Nat → List Nat
  | 0 => []
  | w + 1 => (n / 256 ^ w % 256) :: putB n w
theorem putB_length (n : Nat) : ∀ w, (putB n w).length = w
  | 0 => rfl
  | w + 1 => by simp [putB, putB_length n w]
def errN (e n w : Nat) : Nat := if w < 8 ∧ n / 256 ^ w ≠ 0 ∧ e = 0 then 2 else e
def WAt (B : Nat → Prop) (h : St) (q : Nat) (out : List Nat) (e : Nat) : Prop :=
  q < h.next ∧ ¬ B q ∧ ∃ v, h.objs q = some (.cells [v, .int .i64 e] true) ∧ one v = true ∧ OwnS B h v 1 (out.map bc) out.length
theorem WAt.live {B : Nat → Prop} {h : St} {q : Nat} {out : List Nat} {e : Nat} (w : WAt B h q out e) (hB : ∀ i, h.next ≤ i → B i) (out' : List Nat) (e' : Nat) : ∃ h', ChgP (fun i => i = q ∨ B i) h h' ∧ WAt B h' q out' e' := by
  obtain ⟨w1, w2, v, w3, w4, w5⟩ := w
  refine ⟨(h.push (.cells (out'.map bc) true)).set q (.cells [.slice (some ⟨h.next, 0, some 1⟩) out'.length 0, .int .i64 e'] true), (ChgP.refl _ _).of_push.of_set (.inl (.inl rfl)), ?_, w2, _, set_at _ _ _, rfl, .inr ⟨h.next, rfl, hB _ (Nat.le_refl _), ?_, ?_, by simp⟩⟩
  · simp; omega
  · simp
  · rw [set_ne (by omega)]; exact push_at _ _
theorem WAt.chgP {B D : Nat → Prop} {h h' : St} {q : Nat} {out : List Nat} {e : Nat} (w : WAt B h q out e) (c : ChgP D h h') (hq : ¬ D q) (hD : ∀ i, D i → ¬ B i) : WAt B h' q out e := by
  obtain ⟨w1, w2, v, w3, w4, w5⟩ := w
  exact ⟨Nat.lt_of_lt_of_le w1 c.1, w2, v, c.at w1 hq w3, w4, w5.chgP c hD⟩

def numberS : Abs.Spec := fun args h k => ∃ (B : Nat → Prop) (q : Nat) (out : List Nat) (e n w : Nat), args = [ptr q, .int .u64 n, .int .i64 w] ∧ w ≤ 8 ∧ n < 18446744073709551616 ∧ out.length ≤ 1000000000 ∧ (∀ i, h.next ≤ i → B i) ∧ WAt B h q out e ∧
  ∀ h', ChgP (fun i => i = q ∨ B i) h h' → WAt B h' q (out ++ putB n w) (errN e n w) → k (.tuple #[]) h'
theorem numberS_live : SpecLive numberS := by
  rintro args h k ⟨B, q, out, e, n, w, rfl, _, _, _, hB, hw, H⟩
  obtain ⟨h', c, l⟩ := hw.live hB (out ++ putB n w) (errN e n w)
  exact ⟨_, _, H h' c l⟩
theorem number_l1 {B : Nat → Prop} {q n nn e : Nat} {x2 : Value} {h0 : St} {K : Cont} (hn : n < 18446744073709551616) :
    ∀ (w m0 : Nat) (h : St) (out : List Nat), w ≤ 8 → w < m0 → out.length + w ≤ 1000000008 → (∀ i, h.next ≤ i → B i) → ChgP (fun i => i = q ∨ B i) h0 h → WAt B h q out e →
      (∀ h', ChgP (fun i => i = q ∨ B i) h0 h' → WAt B h' q (out ++ putB n w) e → K (.tuple #[]) h') →
      field_writer_number_l1 (tabC []) idG nn m0 (ptr q) (.int .u64 n) x2 (.int .i64 ((w : Int) - 1)) h K := by
  intro w
  induction w with
  | zero =>
    intro m0 h out hw hm ho hB c W H
    obtain ⟨m0, rfl⟩ : ∃ m, m0 = m + 1 := ⟨m0 - 1, by omega⟩
    rw [field_writer_number_l1_eq]
    simp
    exact H h c (by simpa [putB] using W)
  | succ w ih =>
    intro m0 h out hw hm ho hB c W H
    obtain ⟨m0, rfl⟩ : ∃ m, m0 = m + 1 := ⟨m0 - 1, by omega⟩
    rw [field_writer_number_l1_eq]
    have e0 : (((w + 1 : Nat) : Int) - 1) = (w : Int) := by omega
    have e1 : 8 * (w : Int) = ((8 * w : Nat) : Int) := by omega
    have e2 : (w : Int) - 1 = (w : Int) - 1 := rfl
    rw [e0]
    obtain ⟨w1, w2, v, w3, w4, w5⟩ := W
    have hne : q ≠ h.next := by omega
    have hge : (0 : Int) ≤ w := Int.natCast_nonneg w
    simp (disch := omega) only [binNil_int, binV_geq, bindV_some, condK_bool, idG_eq, ge_iff_le, hge, decide_true, if_true, ptr, nilV_ptr, offV_ptr, loadV_ptr, Nat.add_zero, w3, loadM_cells, partV_one, List.getElem?_cons_zero, true_and, binV_mul, i64_in]
    rw [e1, shr_nat _ _ _ (by omega)]
    simp only [bindV_some, wrapV_int, u8_wrap]
    simp (disch := (try simp only [push_next, set_next, kill_next]); omega) [buildSliceE, fillL, repL, allOne_eq, push_ne, w3]
    have s5 : OwnS B (h.push (.cells [.int .u8 ((n / 256 ^ w % 256 : Nat) : Int)] true)) v 1 (out.map bc) out.length := w5.chgP ((ChgP.refl (fun _ => False) _).of_push) (fun _ h => h.elim)
    refine append_own' (cs := out.map bc) (new := [.int .u8 ((n / 256 ^ w % 256 : Nat) : Int)]) (m := 1) (hB _ (by simp)) s5 (by simp [newCells, takeN]) rfl rfl (by omega) (by omega) fun h7 v7 c7 o7 => ?_
    have a7 : h7.objs q = some (.cells [v, .int .i64 e] true) := c7.at (by simp; omega) w2 ((push_ne w1).trans w3)
    have q7 : q < h7.next := Nat.lt_of_lt_of_le (by simp; omega) c7.1
    have e3 : IntKind.i64.wrap ((w : Int) - 1) = (w : Int) - 1 := i64_in _ (by omega)
    simp [a7, o7.one, o7.cells1, e3]
    have c8 : ChgP (fun i => i = q ∨ B i) h0 (h7.set q (.cells [v7, .int .i64 e] true)) :=
      (c.trans (((ChgP.refl B h).of_push).step c7) (fun _ _ h => h) (fun _ _ h => .inr h)).of_set (.inl (.inl rfl))
    refine ih m0 _ (out ++ [n / 256 ^ w % 256]) (by omega) (by omega) (by simp; omega) (fun i hi => hB i ?_) c8 ⟨q7, w2, v7, set_at _ _ _, o7.one, ?_⟩ fun h' c' W' => H h' c' ?_
    · have := c7.1; simp at this hi; omega
    · have := o7.chgP ((ChgP.refl (fun i => i = q) h7).of_set (o := .cells [v7, .int .i64 e] true) (.inl rfl)) (fun i hi hb => w2 (hi ▸ hb))
      simpa [bc] using this
    · rw [List.append_assoc] at W'
      exact W'
theorem numberS_ok : SpecOk Tryd.prog 45 numberS := by
  refine specOk_wf mixed Tryd.func45 (by kernel_rfl) (by kernel_rfl) (tab := []) (by simp) (by simp) (keep := field_writer_number_keep) ?_
  rintro args h k wf ⟨B, q, out, e, n, w, rfl, hw, hn, ho, hB, W, H⟩
  refine ⟨9, ?_⟩
  show field_writer_number (tabC []) idG 9 (ptr q) (.int .u64 n) (.int .i64 w) h _
  rw [field_writer_number_eq]
  have hmul : 8 * (w : Int) = ((8 * w : Nat) : Int) := by omega
  have fin : ∀ (h1 : St) (e1 : Nat), ChgP (fun i => i = q ∨ B i) h h1 → (∀ i, h1.next ≤ i → B i) → WAt B h1 q out e1 → e1 = errN e n w → field_writer_number_j0 (tabC []) idG 9 (ptr q) (.int .u64 n) (.int .i64 w) undef h1 (fun v h1 => ∃ h2, St.le h2 h1 ∧ k v h2) := by
    intro h1 e1 c1 hB1 W1 he
    rw [field_writer_number_j0_eq]
    have e3 : IntKind.i64.wrap ((w : Int) - 1) = (w : Int) - 1 := i64_in _ (by omega)
    simp only [binNil_int, binV_sub, bindV_some, idG_eq, e3]
    exact number_l1 hn w 9 h1 out hw (by omega) (by omega) hB1 c1 W1 fun h' c' W' => ⟨_, St.le.refl _, H h' c' (he ▸ W')⟩
  by_cases h8 : w < 8
  · have h8' : (w : Int) < 8 := by omega
    have e4 : IntKind.i64.wrap (8 * (w : Int)) = ((8 * w : Nat) : Int) := by rw [hmul]; exact i64_in _ (by omega)
    by_cases hb : n / 256 ^ w = 0
    · have he : errN e n w = e := by simp [errN, hb]
      simp only [binNil_int, binV_lss, h8', bindV_some, decide_true, groupK_eq, guardK_bool, if_true, binV_mul, e4, shr_nat _ _ _ hw, hb, binV_neq, idG_eq, pickV_bool, getT, Int.natCast_zero]
      simp
      exact fin h e (ChgP.refl _ _) hB W he.symm
    · have hb' : ((n / 256 ^ w : Nat) : Int) ≠ 0 := by omega
      obtain ⟨w1, w2, v, w3, w4, w5⟩ := id W
      simp only [binNil_int, binV_lss, h8', bindV_some, decide_true, groupK_eq, guardK_bool, if_true, binV_mul, e4, shr_nat _ _ _ hw, binV_neq, idG_eq, pickV_bool, getT, hb', ne_eq, not_false_eq_true]
      by_cases h0 : e = 0
      · have he : errN e n w = 2 := by simp [errN, h8, hb, h0]
        subst h0
        simp [ptr, w3]
        refine fin _ 2 ((ChgP.refl _ _).of_set (.inl (.inl rfl))) (fun i hi => hB i (by simpa using hi)) ⟨w1, w2, v, set_at _ _ _, w4, ?_⟩ he.symm
        exact w5.chgP ((ChgP.refl (fun i => i = q) h).of_set (.inl rfl)) (fun i hi hb => w2 (hi ▸ hb))
      · have he : errN e n w = e := by simp [errN, h0]
        have h0' : (e : Int) ≠ 0 := by omega
        simp [ptr, w3, h0', h0]
        exact fin h e (ChgP.refl _ _) hB W he.symm
  · have h8' : ¬ (w : Int) < 8 := by omega
    have he : errN e n w = e := by simp [errN, h8]
    simp [groupK_eq, h8', getT]
    exact fin h e (ChgP.refl _ _) hB W he.symm
end Go.Proofs.YtdmcmebfclikgaaDoor

/- The writer: lists; whether fields fit a shape. -/
set_option linter.unusedSimpArgs false
set_option linter.unusedVariables false
set_option maxHeartbeats 4000000
namespace Go.Proofs.YtdmcmebfclikgaaDoor
open Go.Abs Go.IntWalk

def rowU (l : List Nat) (i : Nat) : List Value := [.int .u32 (l[i]?.getD 0 : Nat)]
def allOut (l : List Nat) : List Nat := putB l.length 1 ++ l.flatMap fun x => putB x 4
theorem u64_wrap (x : Nat) (h : x < 18446744073709551616) : IntKind.u64.wrap (x : Int) = (x : Int) := u64_in _ (by omega)
def allS : Abs.Spec := fun args h k => ∃ (B V : Nat → Prop) (q : Nat) (out : List Nat) (e : Nat) (v : Value) (l : List Nat), args = [ptr q, .int .i64 4, v] ∧ out.length ≤ 100000000 ∧ l.length ≤ 1000 ∧ (∀ x ∈ l, x < 4294967296) ∧
  SliceAt V h v l.length 1 (rowU l) ∧ (∀ i, V i → i ≠ q ∧ ¬ B i) ∧ (∀ i, h.next ≤ i → B i) ∧ WAt B h q out e ∧ ∀ h', ChgP (fun i => i = q ∨ B i) h h' → WAt B h' q (out ++ allOut l) (errN e l.length 1) → k (.tuple #[]) h'
theorem allS_live : SpecLive allS := by
  rintro args h k ⟨B, V, q, out, e, v, l, rfl, _, _, _, _, _, hB, W, H⟩
  obtain ⟨h', c, w⟩ := W.live hB (out ++ allOut l) (errN e l.length 1)
  exact ⟨_, _, H h' c w⟩
theorem errN_small (e x : Nat) (h : x < 4294967296) : errN e x 4 = e := by
  have : x / 256 ^ 4 = 0 := Nat.div_eq_of_lt (by omega)
  simp [errN, this]
theorem all_l0 {B V : Nat → Prop} {q n e : Nat} {v : Value} {l : List Nat} {K : Cont} {h0 : St} (hl : l.length ≤ 1000) (hx : ∀ x ∈ l, x < 4294967296) (hV : ∀ i, V i → i ≠ q ∧ ¬ B i) :
    ∀ (d j m0 : Nat) (h : St) (out : List Nat), j + d = l.length → d < m0 → out.length + 4 * d ≤ 1000000000 → (∀ i, h.next ≤ i → B i) → ChgP (fun i => i = q ∨ B i) h0 h → SliceAt V h v l.length 1 (rowU l) → WAt B h q out e →
      (∀ h', ChgP (fun i => i = q ∨ B i) h0 h' → WAt B h' q (out ++ (l.drop j).flatMap fun x => putB x 4) e → K (.tuple #[]) h') →
      field_writer_all_l0 (tabC [(45, numberS)]) idG n m0 (ptr q) (.int .i64 4) v (.int .i64 l.length) (.int .i64 j) h K := by
  intro d
  induction d with
  | zero =>
    intro j m0 h out hj hm ho hB c s W H
    obtain ⟨m0, rfl⟩ : ∃ m, m0 = m + 1 := ⟨m0 - 1, by omega⟩
    rw [field_writer_all_l0_eq]
    have e : j = l.length := by omega
    subst e
    simp
    exact H h c (by simpa using W)
  | succ d ih =>
    intro j m0 h out hj hm ho hB c s W H
    obtain ⟨m0, rfl⟩ : ∃ m, m0 = m + 1 := ⟨m0 - 1, by omega⟩
    rw [field_writer_all_l0_eq]
    have hlt : (j : Int) < l.length := by omega
    obtain ⟨b, o, g1, g2, g3, cs, own, g4, g5⟩ := s.idx (Int.natCast_nonneg j) hlt .i64
    have g6 := takeN_get g5 (j := 0) (by omega)
    have hlt' : j < l.length := by omega
    have hd : l.drop j = l[j] :: l.drop (j + 1) := List.drop_eq_getElem_cons hlt'
    have hxj := hx l[j] (List.getElem_mem _)
    have hg : l[j]?.getD 0 = l[j] := by rw [List.getElem?_eq_getElem hlt']; rfl
    simp only [rowU, Int.toNat_natCast, hg, Nat.add_zero, List.getElem?_cons_zero] at g6
    simp only [binV_lss, bindV_some, condK_bool, hlt, decide_true, if_true, idG_eq, g1, loadV_ptr, g4, loadM_cells, partV_one, g6, wrapV_int, u64_wrap l[j] (by omega)]
    refine .inl ⟨rfl, B, q, out, e, l[j], 4, rfl, by omega, by omega, by omega, hB, W, fun h' c' W' => ?_⟩
    rw [errN_small e _ hxj] at W'
    have hj1 : IntKind.i64.wrap ((j : Int) + 1) = ((j + 1 : Nat) : Int) := by rw [i64_in _ (by omega)]; omega
    simp only [binNil_int, binV_add, bindV_some, hj1]
    refine ih (j + 1) m0 h' _ (by omega) (by omega) (by simp [putB_length]; omega) (fun i hi => hB i (Nat.le_trans c'.1 hi)) (c.step c') (s.chgP c' fun i hi hv => ?_) W' fun h2 c2 W2 => H h2 c2 ?_
    · rcases hi with hi | hi
      · exact (hV i hv).1 hi
      · exact (hV i hv).2 hi
    · rw [hd, List.flatMap_cons, ← List.append_assoc]
      exact W2
theorem allS_ok : SpecOk Tryd.prog 46 allS := by
  refine specOk_wf mixed Tryd.func46 (by kernel_rfl) (by kernel_rfl) (tab := [(45, numberS)]) (by simp [numberS_ok]) (by simp [numberS_live]) (keep := field_writer_all_keep) ?_
  rintro args h k wf ⟨B, V, q, out, e, v, l, rfl, ho, hl, hx, s, hV, hB, W, H⟩
  refine ⟨1001, ?_⟩
  show field_writer_all (tabC [(45, numberS)]) idG 1001 (ptr q) (.int .i64 4) v h _
  rw [field_writer_all_eq, s.len]
  simp only [bindV_some, wrapV_int, u64_wrap l.length (by omega)]
  refine .inl ⟨rfl, B, q, out, e, l.length, 1, rfl, by omega, by omega, by omega, hB, W, fun h' c' W' => ?_⟩
  refine all_l0 hl hx hV l.length 0 1001 h' _ (by omega) (by omega) (by simp [putB_length]; omega) (fun i hi => hB i (Nat.le_trans c'.1 hi)) c' (s.chgP c' fun i hi hv => ?_) W' fun h2 c2 W2 => ⟨_, St.le.refl _, H h2 c2 (by simpa [allOut] using W2)⟩
  rcases hi with hi | hi
  · exact (hV i hv).1 hi
  · exact (hV i hv).2 hi

/-! ### whether fields fit -/
def cnt (c : Nat) : List Nat → Nat
  | [] => 0
  | x :: l => if x = c then cnt c l + 1 else cnt c l
theorem cnt_le (c : Nat) : ∀ l, cnt c l ≤ l.length
  | [] => Nat.le_refl _
  | x :: l => by have := cnt_le c l; simp only [cnt, List.length_cons]; split <;> omega
def fitsB (cs : List Nat) (nN nS nL : Nat) : Bool := decide (nS = cnt 115 cs) && decide (nL = cnt 108 cs) && decide ((nN : Int) = cs.length - cnt 115 cs - cnt 108 cs)
def fitsS : Abs.Spec := fun args h k => ∃ (s : ByteArray) (vN vS vL : Value) (nN nS nL : Nat), args = [.string s, .agg #[vN, vS, vL]] ∧ s.size ≤ 1000 ∧ (one vN = true ∧ one vS = true ∧ one vL = true) ∧ lenS vN = some (.int .i64 nN) ∧ lenS vS = some (.int .i64 nS) ∧ lenS vL = some (.int .i64 nL) ∧
  ∀ h', Chg h h' [] → k (.bool (fitsB (letters s) nN nS nL)) h'
theorem fitsS_live : SpecLive fitsS := by
  rintro args h k ⟨s, vN, vS, vL, nN, nS, nL, rfl, _, _, _, _, _, H⟩
  exact ⟨_, _, H h (Chg.refl _ _)⟩
attribute [local irreducible] cnt letters fitsB
theorem fits_j2 {s : ByteArray} {n q : Nat} {x4 x9 x10 vN vS vL : Value} {nN nS nL a b : Nat} {h : St} {K : Cont} (hs : s.size ≤ 1000) (ha : a ≤ 1000) (hb : b ≤ 1000) (hq : h.objs q = some (.cells [vN, vS, vL] true)) (h1 : lenS vN = some (.int .i64 nN)) (h2 : lenS vS = some (.int .i64 nS)) (h3 : lenS vL = some (.int .i64 nL))
    (H : K (.bool (decide (nS = a) && decide (nL = b) && decide ((nN : Int) = s.size - a - b))) h) : field_fits_j2 (tabC []) idG n (.string s) (ptr q) x4 (.int .i64 a) (.int .i64 b) x9 x10 h K := by
  rw [field_fits_j2_eq]
  obtain ⟨m, hm⟩ : ∃ m : Int, m = (s.size : Int) - a - b := ⟨_, rfl⟩
  have e1 : IntKind.i64.wrap ((s.size : Int) - (a : Int)) = (s.size : Int) - a := i64_in _ (by omega)
  have e2 : IntKind.i64.wrap ((s.size : Int) - a - b) = m := by rw [hm]; exact i64_in _ (by omega)
  rw [← hm] at H
  have c1 : ((nS : Int) = (a : Int)) = (nS = a) := by simp; omega
  have c2 : ((nL : Int) = (b : Int)) = (nL = b) := by simp; omega
  simp only [ptr, offV_ptr, loadV_ptr, hq, loadM_cells, partV_one, Nat.zero_add, List.getElem?_cons_zero, List.getElem?_cons_succ, bindV_some, h1, h2, h3, binV_eql, lenT_string, binV_sub, e1, e2, groupK_eq, guardK_bool, idG_eq, pickV_bool, c1, c2]
  by_cases t1 : nS = a
  · by_cases t2 : nL = b
    · simpa [t1, t2, getT] using H
    · simpa [t1, t2, getT] using H
  · simpa [t1, getT] using H
theorem fits_l0 {s : ByteArray} {n q : Nat} {x4 vN vS vL : Value} {nN nS nL : Nat} {h : St} {K : Cont} (hs : s.size ≤ 1000) (hq : h.objs q = some (.cells [vN, vS, vL] true)) (h1 : lenS vN = some (.int .i64 nN)) (h2 : lenS vS = some (.int .i64 nS)) (h3 : lenS vL = some (.int .i64 nL)) (H : K (.bool (fitsB (letters s) nN nS nL)) h) :
    ∀ (d i m0 a b : Nat), i + d = (letters s).length → d < m0 → a ≤ i → b ≤ i → a + cnt 115 ((letters s).drop i) = cnt 115 (letters s) → b + cnt 108 ((letters s).drop i) = cnt 108 (letters s) →
      field_fits_l0 (tabC []) idG n m0 (.string s) (ptr q) x4 (.int .i64 a) (.int .i64 b) (.int .i64 (letters s).length) (.int .i64 i) h K := by
  intro d
  have hsz := letters_length s
  induction d with
  | zero =>
    intro i m0 a b hi hm ha hb c1 c2
    obtain ⟨m0, rfl⟩ : ∃ m, m0 = m + 1 := ⟨m0 - 1, by omega⟩
    rw [field_fits_l0_eq]
    have e : i = (letters s).length := by omega
    subst e
    rw [List.drop_length] at c1 c2
    simp only [cnt, Nat.add_zero] at c1 c2
    simp only [bindV_some, binV_lss, condK_bool, Int.lt_irrefl, decide_false, Bool.false_eq_true, if_false, idG_eq]
    refine fits_j2 hs (by omega) (by omega) hq h1 h2 h3 ?_
    rw [c1, c2, ← hsz]
    unfold fitsB at H
    exact H
  | succ d ih =>
    intro i m0 a b hi hm ha hb c1 c2
    obtain ⟨m0, rfl⟩ : ∃ m, m0 = m + 1 := ⟨m0 - 1, by omega⟩
    rw [field_fits_l0_eq]
    have hlt : i < (letters s).length := by omega
    have hlt' : (i : Int) < (letters s).length := by omega
    obtain ⟨c, hc⟩ : ∃ c, (letters s)[i]? = some c := ⟨_, List.getElem?_eq_getElem hlt⟩
    have hd : (letters s).drop i = c :: (letters s).drop (i + 1) := by
      rw [List.drop_eq_getElem_cons hlt]
      congr 1
      exact (List.getElem?_eq_some_iff.1 hc).2
    rw [hd] at c1 c2
    have j1 : IntKind.i64.wrap ((i : Int) + 1) = ((i + 1 : Nat) : Int) := by rw [i64_in _ (by omega)]; omega
    have ja : IntKind.i64.wrap ((a : Int) + 1) = ((a + 1 : Nat) : Int) := by rw [i64_in _ (by omega)]; omega
    have jb : IntKind.i64.wrap ((b : Int) + 1) = ((b + 1 : Nat) : Int) := by rw [i64_in _ (by omega)]; omega
    simp only [bindV_some, binV_lss, condK_bool, hlt', decide_true, if_true, idG_eq, idxT_at hc, binNil_int, binV_eql]
    by_cases t1 : c = 115
    · have t1i : (c : Int) = 115 := by omega
      have t2 : ¬ c = 108 := by omega
      simp only [cnt, t1, if_true] at c1
      simp only [cnt, t2, if_false] at c2
      simp only [t1i, decide_true, if_true, binV_add, bindV_some, ja]
      rw [field_fits_j1_eq]
      simp only [binNil_int, binV_add, bindV_some, idG_eq, j1]
      exact ih (i + 1) m0 (a + 1) b (by omega) (by omega) (by omega) (by omega) (by omega) c2
    · have t1' : ¬ ((c : Int) = 115) := by omega
      by_cases t2 : c = 108
      · have t2i : (c : Int) = 108 := by omega
        simp only [cnt, t1, if_false] at c1
        simp only [cnt, t2, if_true] at c2
        simp only [t1', t2i, decide_false, Bool.false_eq_true, if_false, decide_true, if_true, binV_add, bindV_some, jb]
        rw [if_neg (by decide)]
        rw [field_fits_j1_eq]
        simp only [binNil_int, binV_add, bindV_some, idG_eq, j1]
        exact ih (i + 1) m0 a (b + 1) (by omega) (by omega) (by omega) (by omega) c1 (by omega)
      · have t2' : ¬ ((c : Int) = 108) := by omega
        simp only [cnt, t1, t2, if_false] at c1 c2
        simp only [t1', t2', decide_false, Bool.false_eq_true, if_false]
        rw [field_fits_j1_eq]
        simp only [binNil_int, binV_add, bindV_some, idG_eq, j1]
        exact ih (i + 1) m0 a b (by omega) (by omega) (by omega) (by omega) c1 c2
theorem fitsS_ok : SpecOk Tryd.prog 44 fitsS := by
  refine specOk_wf mixed Tryd.func44 (by kernel_rfl) (by kernel_rfl) (tab := []) (by simp) (by simp) (keep := field_fits_keep) ?_
  rintro args h k wf ⟨s, vN, vS, vL, nN, nS, nL, rfl, hs, ⟨o1, o2, o3⟩, h1, h2, h3, H⟩
  refine ⟨1001, ?_⟩
  show field_fits (tabC []) idG 1001 (.string s) (.agg #[vN, vS, vL]) h _
  rw [field_fits_eq]
  simp [o1, o2, o3]
  rw [← letters_length]
  exact fits_l0 hs (push_at _ _) h1 h2 h3 ⟨_, St.le.refl _, H _ (Chg.push _ _)⟩ (letters s).length 0 1001 0 0 (by omega) (by rw [letters_length]; omega) (by omega) (by omega) (by simp) (by simp)
end Go.Proofs.YtdmcmebfclikgaaDoor

/- The bytes of fields. -/
set_option linter.unusedSimpArgs false
set_option linter.unusedVariables false
set_option maxHeartbeats 4000000
namespace Go.Proofs.YtdmcmebfclikgaaDoor
open Go.Abs Go.IntWalk

def wr : List Nat → List Nat → List ByteArray → List (List Nat) → Nat × List Nat → Nat × List Nat
  | [], _, _, _, st => st
  | c :: cs, N, S, L, st =>
    if c = 115 then match S with
      | s :: S' => wr cs N S' L (errN st.1 s.size 1, st.2 ++ putB s.size 1 ++ letters s)
      | [] => st
    else if c = 108 then match L with
      | l :: L' => wr cs N S L' (errN st.1 l.length 1, st.2 ++ allOut l)
      | [] => st
    else match N with
      | n :: N' => wr cs N' S L (errN st.1 n (wd c), st.2 ++ putB n (wd c))
      | [] => st
def writeZ (cs N : List Nat) (S : List ByteArray) (L : List (List Nat)) : Nat × List Nat :=
  if (decide (0 ≤ leastZ cs) && fitsB cs N.length S.length L.length) = true then (if (wr cs N S L (0, [])).1 ≠ 0 then ((wr cs N S L (0, [])).1, []) else wr cs N S L (0, [])) else (1, [])
def rowQ (N : List Nat) (i : Nat) : List Value := [.int .u64 (N[i]?.getD 0 : Nat)]
def rowT (S : List ByteArray) (i : Nat) : List Value := [.string (S[i]?.getD .empty)]
/-- Fields, as they lie there. -/
def FieldsAt (V : Nat → Prop) (h : St) (vN vS vL : Value) (lv : Nat → Value) (N : List Nat) (S : List ByteArray) (L : List (List Nat)) : Prop :=
  SliceAt V h vN N.length 1 (rowQ N) ∧ SliceAt V h vS S.length 1 (rowT S) ∧ SliceAt V h vL L.length 1 (fun i => [lv i]) ∧ ∀ (i : Nat) (l : List Nat), L[i]? = some l → SliceAt V h (lv i) l.length 1 (rowU l)
theorem FieldsAt.chgP {V D : Nat → Prop} {h h' : St} {vN vS vL : Value} {lv : Nat → Value} {N : List Nat} {S : List ByteArray} {L : List (List Nat)} (f : FieldsAt V h vN vS vL lv N S L) (c : ChgP D h h') (hD : ∀ i, D i → ¬ V i) : FieldsAt V h' vN vS vL lv N S L :=
  ⟨f.1.chgP c hD, f.2.1.chgP c hD, f.2.2.1.chgP c hD, fun i l hl => (f.2.2.2 i l hl).chgP c hD⟩
/-- Fields that are few and short. -/
def SmallF (N : List Nat) (S : List ByteArray) (L : List (List Nat)) : Prop := (∀ x ∈ N, x < 18446744073709551616) ∧ (∀ s ∈ S, s.size ≤ 1000) ∧ ∀ l ∈ L, l.length ≤ 1000 ∧ ∀ x ∈ l, x < 4294967296
theorem newCells_text (s : ByteArray) (h : St) : newCells 1 (.string s) h = some ((letters s).map bc, (letters s).length) := by
  simp only [newCells, Nat.beq_refl]
  rw [letters_length]
  simp [letters, bc, Function.comp_def]
def tabW : List (FuncId × Abs.Spec) := [(25, rightS), (44, fitsS), (45, numberS), (46, allS), (47, widthS)]
theorem write_l0 {s : ByteArray} {n fb wq N0 V0 : Nat} {x4 x5 : Value} {K : Cont} {hb : St} {target : Nat × List Nat} (hv : V0 ≤ fb) (hv' : V0 ≤ wq) (hfw : fb ≠ wq) (hf0 : fb < N0) (hw0 : wq < N0)
    (END : ∀ h, N0 ≤ h.next → ChgP (fun i => i = fb ∨ i = wq ∨ N0 ≤ i) hb h → WAt (N0 ≤ ·) h wq target.2 target.1 → field_Write_j2 (tabC tabW) idG n (.string s) (ptr fb) x4 x5 (ptr wq) (.int .i64 (letters s).length) (.int .i64 (letters s).length) h K) :
    ∀ (d i m0 : Nat) (h : St) (N : List Nat) (S : List ByteArray) (L : List (List Nat)) (e : Nat) (out : List Nat) (vN vS vL : Value) (lv : Nat → Value), i + d = (letters s).length → (letters s).length ≤ 8 → d < m0 → N0 ≤ h.next → ChgP (fun i => i = fb ∨ i = wq ∨ N0 ≤ i) hb h →
      FieldsAt (· < V0) h vN vS vL lv N S L → SmallF N S L → h.objs fb = some (.cells [vN, vS, vL] true) → WAt (N0 ≤ ·) h wq out e → out.length + 10000 * d ≤ 1000000 →
      cnt 115 ((letters s).drop i) = S.length → cnt 108 ((letters s).drop i) = L.length → N.length + S.length + L.length = d → wr ((letters s).drop i) N S L (e, out) = target →
      field_Write_l0 (tabC tabW) idG n m0 (.string s) (ptr fb) x4 x5 (ptr wq) (.int .i64 (letters s).length) (.int .i64 i) h K := by
  intro d
  induction d with
  | zero =>
    intro i m0 h N S L e out vN vS vL lv hi h8 hm hN c F SF hfb W ho c1 c2 c3 T
    obtain ⟨m0, rfl⟩ : ∃ m, m0 = m + 1 := ⟨m0 - 1, by omega⟩
    rw [field_Write_l0_eq]
    have e : i = (letters s).length := by omega
    subst e
    rw [List.drop_length] at T
    simp only [wr] at T
    simp only [bindV_some, binV_lss, condK_bool, Int.lt_irrefl, decide_false, Bool.false_eq_true, if_false, idG_eq]
    exact END h hN c (by rw [← T]; exact W)
  | succ d ih =>
    intro i m0 h N S L e out vN vS vL lv hi h8 hm hN c F SF hfb W ho c1 c2 c3 T
    obtain ⟨m0, rfl⟩ : ∃ m, m0 = m + 1 := ⟨m0 - 1, by omega⟩
    rw [field_Write_l0_eq]
    have hlt : i < (letters s).length := by omega
    have hlt' : (i : Int) < (letters s).length := by omega
    obtain ⟨a, ha⟩ : ∃ a, (letters s)[i]? = some a := ⟨_, List.getElem?_eq_getElem hlt⟩
    have hd : (letters s).drop i = a :: (letters s).drop (i + 1) := by
      rw [List.drop_eq_getElem_cons hlt]
      congr 1
      exact (List.getElem?_eq_some_iff.1 ha).2
    rw [hd] at c1 c2 T
    simp only [wr] at T
    simp only [cnt] at c1 c2
    have j1 : IntKind.i64.wrap ((i : Int) + 1) = ((i + 1 : Nat) : Int) := by rw [i64_in _ (by omega)]; omega
    have nxt : ∀ (h' : St) (N' : List Nat) (S' : List ByteArray) (L' : List (List Nat)) (e' : Nat) (out' : List Nat) (vN' vS' vL' : Value) (lv' : Nat → Value), ChgP (fun i => i = fb ∨ i = wq ∨ N0 ≤ i) h h' → FieldsAt (· < V0) h' vN' vS' vL' lv' N' S' L' → SmallF N' S' L' → h'.objs fb = some (.cells [vN', vS', vL'] true) → WAt (N0 ≤ ·) h' wq out' e' → out'.length ≤ out.length + 10000 →
        cnt 115 ((letters s).drop (i + 1)) = S'.length → cnt 108 ((letters s).drop (i + 1)) = L'.length → N'.length + S'.length + L'.length = d → wr ((letters s).drop (i + 1)) N' S' L' (e', out') = target →
        field_Write_j1 (tabC tabW) idG n m0 (.string s) (ptr fb) x4 x5 (ptr wq) (.int .i64 (letters s).length) (.int .i64 i) h' K := by
      intro h' N' S' L' e' out' vN' vS' vL' lv' q1 q2 q3 q4 q5 q6 q7 q8 q9 q10
      rw [field_Write_j1_eq]
      simp only [binNil_int, binV_add, bindV_some, idG_eq, j1]
      exact ih (i + 1) m0 h' N' S' L' e' out' vN' vS' vL' lv' (by omega) h8 (by omega) (Nat.le_trans hN q1.1) (c.step q1) q2 q3 q4 q5 (by omega) q7 q8 q9 q10
    have hBn : ∀ j, h.next ≤ j → N0 ≤ j := fun j hj => Nat.le_trans hN hj
    obtain ⟨F1, F2, F3, F4⟩ := id F
    by_cases t1 : a = 115
    · have t1i : (a : Int) = 115 := by omega
      have t2 : ¬ a = 108 := by omega
      simp only [t1, if_true] at c1 T
      simp only [t2, if_false] at c2
      cases S with
      | nil => simp at c1
      | cons sv S' =>
        simp only [List.length_cons] at c1 c3
        simp only at T
        have hsv := SF.2.1 sv (by simp)
        obtain ⟨b, o, g1, g2, g3, cs, own, g4, g5⟩ := F2.idx (i := 0) (by omega) (by simp) .i64
        have g6 := takeN_get g5 (j := 0) (by omega)
        simp [rowT] at g6
        have hw1 : IntKind.u64.wrap (sv.size : Int) = (sv.size : Int) := u64_in _ (by omega)
        simp [hlt, idxT_at ha, t1i, ptr, hfb, g1, g4, g6, hw1]
        refine .inr (.inr (.inl ⟨rfl, (N0 ≤ ·), wq, out, e, sv.size, 1, rfl, by omega, by omega, by omega, hBn, W, fun h8' c8 W8 => ?_⟩))
        have c8' : ChgP (fun i => i = fb ∨ i = wq ∨ N0 ≤ i) h h8' := c8.mono (by intro i _ hi; rcases hi with hi | hi; exact .inr (.inl hi); exact .inr (.inr hi))
        have a8f := c8.at (by omega) (by omega) hfb
        have a8b := c8.at g3 (by omega) g4
        have n8 := c8.1
        obtain ⟨w1, w2, v48, w3, w4, w5⟩ := W8
        simp [a8f, w3, g1, a8b, g6]
        refine append_own' (B := (N0 ≤ ·)) (new := (letters sv).map bc) (m := (letters sv).length) (by omega) w5 (newCells_text _ _) (by simp) (one_bc _) (by simp [putB_length]; rw [letters_length]; omega) (by simp [putB_length]; rw [letters_length]; omega) fun h9 v9 c9 o9 => ?_
        have a9w := c9.at w1 (by omega) w3
        have a9f := c9.at (by omega) (by omega) a8f
        have n9 := c9.1
        obtain ⟨v', hcut, s'⟩ := F2.cut (lo := some (.int .i64 1)) (hi := none) (loHi_lo (l := 1) (by simp)) (by simp) (Nat.le_refl _)
        have hc1 : cutS 1 vS (some (.int .i64 1)) none = some v' := hcut
        have c10 : ChgP (fun i => i = fb ∨ i = wq ∨ N0 ≤ i) h ((h9.set wq (.cells [v9, .int .i64 ((errN e sv.size 1 : Nat) : Int)] true)).set fb (.cells [vN, v', vL] true)) :=
          ((c8'.step (c9.mono fun i _ hi => .inr (.inr hi))).of_set (.inl (.inr (.inl rfl)))).of_set (.inl (.inl rfl))
        simp (disch := (try simp only [push_next, set_next, kill_next]); omega) [a9w, a9f, o9.cells1, o9.one, set_ne, hc1, s'.one, s'.cells1]
        refine nxt _ N S' L (errN e sv.size 1) (out ++ putB sv.size 1 ++ letters sv) vN v' vL lv c10 ⟨(F.chgP c10 (by omega)).1, ?_, (F.chgP c10 (by omega)).2.2.1, (F.chgP c10 (by omega)).2.2.2⟩ ⟨SF.1, fun x hx => SF.2.1 x (by simp [hx]), SF.2.2⟩ (set_at _ _ _) ⟨?_, w2, v9, ?_, o9.one, ?_⟩ (by simp [putB_length]; rw [letters_length]; omega) (by omega) c2 (by omega) T
        · have s2 := (s'.chgP c10 (by omega)).rows (row' := rowT S') (fun i hi => by simp [rowT, Nat.add_comm 1 i])
          simpa using s2
        · simp; omega
        · rw [set_ne (by omega)]; exact set_at _ _ _
        · have o10 := o9.chgP (D := fun i => i = fb ∨ i = wq) (((ChgP.refl _ h9).of_set (i := wq) (o := .cells [v9, .int .i64 ((errN e sv.size 1 : Nat) : Int)] true) (.inl (.inr rfl))).of_set (i := fb) (o := .cells [vN, v', vL] true) (.inl (.inl rfl))) (by intro i hi hi'; rcases hi with hi | hi <;> omega)
          simpa [Nat.add_assoc] using o10
    · have t1' : ¬ ((a : Int) = 115) := by omega
      simp only [t1, if_false] at c1 T
      by_cases t2 : a = 108
      · have t2i : (a : Int) = 108 := by omega
        simp only [t2, if_true] at c2 T
        cases L with
        | nil => simp at c2
        | cons l L' =>
          simp only [List.length_cons] at c2 c3
          simp only at T
          have hl := SF.2.2 l (by simp)
          obtain ⟨b, o, g1, g2, g3, cs, own, g4, g5⟩ := F3.idx (i := 0) (by omega) (by simp) .i64
          have g6 := takeN_get g5 (j := 0) (by omega)
          simp at g6
          have hlv := F4 0 l rfl
          simp [hlt, idxT_at ha, t1', t2i, ptr, hfb, g1, g4, g6]
          refine .inr (.inr (.inr (.inl ⟨rfl, (N0 ≤ ·), (· < V0), wq, out, e, lv 0, l, rfl, by omega, hl.1, hl.2, hlv, by omega, hBn, W, fun h8' c8 W8 => ?_⟩)))
          have c8' : ChgP (fun i => i = fb ∨ i = wq ∨ N0 ≤ i) h h8' := c8.mono (by intro i _ hi; rcases hi with hi | hi; exact .inr (.inl hi); exact .inr (.inr hi))
          have a8f := c8.at (by omega) (by omega) hfb
          have n8 := c8.1
          obtain ⟨v', hcut, s'⟩ := F3.cut (lo := some (.int .i64 1)) (hi := none) (loHi_lo (l := 1) (by simp)) (by simp) (Nat.le_refl _)
          have hc1 : cutS 1 vL (some (.int .i64 1)) none = some v' := hcut
          have c10 : ChgP (fun i => i = fb ∨ i = wq ∨ N0 ≤ i) h (h8'.set fb (.cells [vN, vS, v'] true)) := c8'.of_set (.inl (.inl rfl))
          simp (disch := (try simp only [push_next, set_next, kill_next]); omega) [a8f, set_ne, hc1, s'.one, s'.cells1]
          have F' := F.chgP c10 (by omega)
          have hal : (allOut l).length ≤ 10000 := by
            have : ∀ l : List Nat, (l.flatMap fun x => putB x 4).length = 4 * l.length := by
              intro l; induction l with
              | nil => rfl
              | cons x l ih => simp only [List.flatMap_cons, List.length_append, putB_length, ih, List.length_cons]; omega
            simp only [allOut, List.length_append, putB_length, this]
            omega
          refine nxt _ N S L' (errN e l.length 1) (out ++ allOut l) vN vS v' (fun i => lv (1 + i)) c10 ⟨F'.1, F'.2.1, ?_, fun i l' hi => F'.2.2.2 (1 + i) l' (by rw [Nat.add_comm]; simpa using hi)⟩ ⟨SF.1, SF.2.1, fun x hx => SF.2.2 x (by simp [hx])⟩ (set_at _ _ _) (W8.chgP (D := fun i => i = fb) ((ChgP.refl _ h8').of_set (.inl rfl)) (by omega) (by intro i hi hi'; omega)) (by simp; omega) c1 (by omega) (by omega) T
          have s2 := s'.chgP c10 (by omega)
          simpa using s2
      · have t2' : ¬ ((a : Int) = 108) := by omega
        simp only [t2, if_false] at c2 T
        cases N with
        | nil => 
          have := cnt_le 115 ((letters s).drop (i + 1))
          have k1 : ∀ cs : List Nat, cnt 115 cs + cnt 108 cs ≤ cs.length := by
            intro cs; induction cs with
            | nil => exact Nat.le_refl _
            | cons x cs ih => simp only [cnt, List.length_cons]; split <;> split <;> omega
          have := k1 ((letters s).drop (i + 1))
          simp at c3 this
          omega
        | cons x N' =>
          simp only [List.length_cons] at c3
          simp only at T
          have hx := SF.1 x (by simp)
          obtain ⟨b, o, g1, g2, g3, cs, own, g4, g5⟩ := F1.idx (i := 0) (by omega) (by simp) .i64
          have g6 := takeN_get g5 (j := 0) (by omega)
          simp [rowQ] at g6
          simp [hlt, idxT_at ha, t1', t2', ptr, hfb, g1, g4, g6]
          refine .inr (.inr (.inr (.inr (.inl ⟨rfl, a, rfl, ?_⟩))))
          simp [hfb, g4, g6]
          refine .inr (.inr (.inl ⟨rfl, (N0 ≤ ·), wq, out, e, x, wd a, rfl, wd_le a, hx, by omega, hBn, W, fun h8' c8 W8 => ?_⟩))
          have c8' : ChgP (fun i => i = fb ∨ i = wq ∨ N0 ≤ i) h h8' := c8.mono (by intro i _ hi; rcases hi with hi | hi; exact .inr (.inl hi); exact .inr (.inr hi))
          have a8f := c8.at (by omega) (by omega) hfb
          have n8 := c8.1
          obtain ⟨v', hcut, s'⟩ := F1.cut (lo := some (.int .i64 1)) (hi := none) (loHi_lo (l := 1) (by simp)) (by simp) (Nat.le_refl _)
          have hc1 : cutS 1 vN (some (.int .i64 1)) none = some v' := hcut
          have c10 : ChgP (fun i => i = fb ∨ i = wq ∨ N0 ≤ i) h (h8'.set fb (.cells [v', vS, vL] true)) := c8'.of_set (.inl (.inl rfl))
          simp (disch := (try simp only [push_next, set_next, kill_next]); omega) [a8f, set_ne, hc1, s'.one, s'.cells1]
          have F' := F.chgP c10 (by omega)
          have := wd_le a
          refine nxt _ N' S L (errN e x (wd a)) (out ++ putB x (wd a)) v' vS vL lv c10 ⟨?_, F'.2.1, F'.2.2.1, F'.2.2.2⟩ ⟨fun y hy => SF.1 y (by simp [hy]), SF.2.1, SF.2.2⟩ (set_at _ _ _) (W8.chgP (D := fun i => i = fb) ((ChgP.refl _ h8').of_set (.inl rfl)) (by omega) (by intro i hi hi'; omega)) (by simp [putB_length]; omega) c1 c2 (by omega) T
          have s2 := (s'.chgP c10 (by omega)).rows (row' := rowQ N') (fun i hi => by simp [rowQ, Nat.add_comm 1 i])
          simpa using s2

def writeS : Abs.Spec := fun args h k => ∃ (s : ByteArray) (vN vS vL : Value) (lv : Nat → Value) (N : List Nat) (S : List ByteArray) (L : List (List Nat)), args = [.string s, .agg #[vN, vS, vL]] ∧ s.size ≤ 1000 ∧ SmallF N S L ∧ FieldsAt (· < h.next) h vN vS vL lv N S L ∧
  ∀ h' v', Chg h h' [] → OwnS (h.next ≤ ·) h' v' 1 ((writeZ (letters s) N S L).2.map bc) (writeZ (letters s) N S L).2.length → k (.tuple #[v', .int .i64 (writeZ (letters s) N S L).1]) h'
theorem writeS_live : SpecLive writeS := by
  rintro args h k ⟨s, vN, vS, vL, lv, N, S, L, rfl, _, _, _, H⟩
  exact ⟨_, _, H (h.push (.cells ((writeZ (letters s) N S L).2.map bc) true)) (.slice (some ⟨h.next, 0, some 1⟩) _ 0) (Chg.push _ _) (.inr ⟨h.next, rfl, Nat.le_refl _, by simp, push_at _ _, by simp⟩)⟩
theorem writeS_ok : SpecOk Tryd.prog 30 writeS := by
  refine specOk_wf mixed Tryd.func30 (by kernel_rfl) (by kernel_rfl) (tab := tabW) (by simp [tabW, rightS_ok, fitsS_ok, numberS_ok, allS_ok, widthS_ok]) (by simp [tabW, rightS_live, fitsS_live, numberS_live, allS_live, widthS_live]) (keep := field_Write_keep) ?_
  rintro args h k wf ⟨s, vN, vS, vL, lv, N, S, L, rfl, hs, SF, F, H⟩
  refine ⟨9, ?_⟩
  show field_Write (tabC tabW) idG 9 (.string s) (.agg #[vN, vS, vL]) h _
  rw [field_Write_eq]
  have o1 := F.1.one; have o2 := F.2.1.one; have o3 := F.2.2.1.one
  simp [o1, o2, o3]
  refine .inl ⟨rfl, s, rfl, by omega, ?_⟩
  have c1 := Chg.push (h := h) (.cells [vN, vS, vL] true) []
  by_cases hr : 0 ≤ leastZ (letters s)
  · simp [hr, groupK_eq]
    refine .inr (.inl ⟨rfl, s, vN, vS, vL, N.length, S.length, L.length, rfl, hs, ⟨o1, o2, o3⟩, F.1.len, F.2.1.len, F.2.2.1.len, fun h2 c2 => ?_⟩)
    have c3 : Chg h h2 [] := c1.of_chg c2 (by simp)
    by_cases hf : fitsB (letters s) N.length S.length L.length = true
    · have h8 : (letters s).length ≤ 8 := by
        unfold leastZ at hr
        split at hr
        · omega
        · omega
      have hf' := hf
      rw [fitsB] at hf'
      simp only [Bool.and_eq_true, decide_eq_true_eq] at hf'
      obtain ⟨⟨f1, f2⟩, f3⟩ := hf'
      have a2 : h2.objs h.next = some (.cells [vN, vS, vL] true) := c2.at (by simp) (by simp) (push_at _ _)
      have n2 : h.next + 1 ≤ h2.next := by have := c2.1; simpa using this
      simp [hf, getT, ← letters_length]
      refine write_l0 (V0 := h.next) (N0 := h2.next + 1) (hb := h2.push (.cells [.slice none 0 0, .int .i64 0] true)) (target := wr (letters s) N S L (0, [])) (Nat.le_refl _) (by omega) (by omega) (by omega) (by omega) ?_ (letters s).length 0 9 (h2.push (.cells [.slice none 0 0, .int .i64 0] true)) N S L 0 [] vN vS vL lv (by omega) h8 (by omega) (by simp) (ChgP.refl _ _)
        (F.chgP (D := fun _ => False) ((c3.of_push).toP (by simp)) (by simp)) SF (by rw [push_ne (by omega)]; exact a2) ⟨by simp, by omega, _, push_at _ _, rfl, .inl ⟨rfl, rfl, rfl⟩⟩ (by simp; omega) (by simpa using f1.symm) (by simpa using f2.symm) (by omega) (by simp)
      intro h3 n3 c4 W
      obtain ⟨w1, w2, v, w3, w4, w5⟩ := W
      have c5 : Chg h h3 [] := ((ChgP.trans (E := fun i => h.next ≤ i) ((c3.of_push (o := .cells [.slice none 0 0, .int .i64 0] true)).toP (D := fun _ => False) (by simp)) c4 (by simp) (by intro i hi hh; omega))).list (by intro i hi hh; omega)
      rw [field_Write_j2_eq]
      have hz : writeZ (letters s) N S L = if (wr (letters s) N S L (0, [])).1 ≠ 0 then ((wr (letters s) N S L (0, [])).1, []) else wr (letters s) N S L (0, []) := by
        unfold writeZ
        rw [if_pos (by simp [hr, hf])]
      by_cases he : (wr (letters s) N S L (0, [])).1 = 0
      · rw [hz, if_neg (by simp [he])] at H
        simp [ptr, w3, he]
        rw [he] at H
        refine ⟨_, St.le.refl _, H h3 v c5 (w5.imp (by intro i _ hi; omega))⟩
      · rw [hz, if_pos he] at H
        simp [ptr, w3, he]
        exact ⟨_, St.le.refl _, H h3 _ c5 (.inl ⟨rfl, rfl, rfl⟩)⟩
    · have hz : writeZ (letters s) N S L = (1, []) := by
        unfold writeZ
        rw [if_neg (by simp [hf])]
      rw [hz] at H
      have hf' : fitsB (letters s) N.length S.length L.length = false := by simpa using hf
      simp [hf', getT]
      exact ⟨_, St.le.refl _, H h2 _ c3 (.inl ⟨rfl, rfl, rfl⟩)⟩
  · have hz : writeZ (letters s) N S L = (1, []) := by
      unfold writeZ
      rw [if_neg (by simp [hr])]
    rw [hz] at H
    simp [hr, groupK_eq, getT]
    exact ⟨_, St.le.refl _, H _ _ c1 (.inl ⟨rfl, rfl, rfl⟩)⟩
end Go.Proofs.YtdmcmebfclikgaaDoor

/- The chapter's example; 'FieldShapes'. -/
set_option linter.unusedSimpArgs false
set_option linter.unusedVariables false
set_option maxHeartbeats 4000000
namespace Go.Proofs.YtdmcmebfclikgaaDoor
open Go.Abs Go.IntWalk

/-- Bytes as a text. -/
def bytesText (l : List Nat) : ByteArray := ⟨(l.map UInt8.ofNat).toArray⟩
def rowC (l : List Nat) (i : Nat) : List Value := [bc (l[i]?.getD 0)]
theorem bytesOf_map : ∀ l : List Nat, bytesOf (l.map bc) = some (l.map UInt8.ofNat)
  | [] => rfl
  | b :: l => by
    have := bytesOf_map l
    simp only [List.map_cons, bytesOf, this]
    rfl
theorem takeN_rows {cs : List Value} {off n : Nat} {x : Nat → Value} (h : ∀ i, i < n → takeN cs (off + i) 1 = some [x i]) (hn : 0 < n) : takeN cs off n = some ((List.range n).map x) := by
  have hl : off + n ≤ cs.length := by have := (takeN_some (h (n - 1) (by omega))).1; omega
  unfold takeN
  rw [if_pos hl]
  congr 1
  apply List.ext_getElem?
  intro j
  rw [List.getElem?_take]
  split
  · rename_i hj
    have := takeN_get (h j hj) (j := 0) (by omega)
    rw [List.getElem?_drop]
    simpa [hj] using this
  · rename_i hj
    rw [List.getElem?_eq_none (by simp; omega)]
theorem range_map (l : List Nat) : (List.range l.length).map (fun i => bc (l[i]?.getD 0)) = l.map bc := by
  apply List.ext_getElem?
  intro j
  by_cases hj : j < l.length
  · simp [hj]
  · simp [hj]
theorem text_slice {B : Nat → Prop} {h : St} {v : Value} {l : List Nat} (s : SliceAt B h v l.length 1 (rowC l)) : textOf v h = some (.string (bytesText l)) := by
  rcases s with ⟨rfl, hl⟩ | ⟨b, off, sp, c, rfl, _, hs⟩
  · have : l = [] := List.eq_nil_of_length_eq_zero hl
    subst this
    rfl
  · cases hn : l.length with
    | zero =>
      have : l = [] := List.eq_nil_of_length_eq_zero hn
      subst this
      rfl
    | succ n =>
      obtain ⟨_, _, cs, own, g3, g4⟩ := hs (by omega)
      have := takeN_rows (cs := cs) (off := off) (n := n + 1) (x := fun i => bc (l[i]?.getD 0)) (fun i hi => by have := g4 i (by omega); rwa [Nat.mul_one] at this) (by omega)
      rw [← hn, range_map, hn] at this
      simp only [textOf, g3, this, Option.bind_some, bytesOf_map]
      rfl
theorem map_flat (l : List Nat) : l.map bc = l.flatMap fun b => [bc b] := by
  induction l with
  | nil => rfl
  | cons x l ih => rw [List.map_cons, List.flatMap_cons, ih]; rfl
theorem own_bytes {B : Nat → Prop} {h : St} {v : Value} {l : List Nat} (s : OwnS B h v 1 (l.map bc) l.length) : SliceAt B h v l.length 1 (rowC l) := by
  rw [map_flat] at s
  exact s.slice (fun _ _ => rfl) (fun i x hx => by simp [rowC, hx])
@[simp] theorem binV_text (s : Shp) (a b : ByteArray) : binV .eql s (.string a) (.string b) = some (.bool (a.toList == b.toList)) := by simp [binV, isShift, textV]
end Go.Proofs.YtdmcmebfclikgaaDoor
