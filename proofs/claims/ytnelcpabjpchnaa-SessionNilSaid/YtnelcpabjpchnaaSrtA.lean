/- Rows that are sorted, plainly: exchanges, what they keep. -/
import Derived.Test.YtnelcpabjpchnaaAbsIn
set_option linter.unusedSimpArgs false
set_option linter.unusedVariables false
namespace Go.Abs

def upd (f : Nat → Int) (i : Nat) (x : Int) : Nat → Int := fun k => if k = i then x else f k
def Sw (f : Nat → Int) (i j : Nat) : Nat → Int := upd (upd f i (f j)) j (f i)
theorem sw_r (f : Nat → Int) (i j : Nat) : Sw f i j j = f i := by simp [Sw, upd]
theorem sw_l (f : Nat → Int) (i j : Nat) : Sw f i j i = f j := by
  simp only [Sw, upd]
  split
  · rename_i h; rw [h]
  · simp
theorem sw_o (f : Nat → Int) {i j k : Nat} (h1 : k ≠ i) (h2 : k ≠ j) : Sw f i j k = f k := by simp [Sw, upd, h1, h2]
theorem sw_comm (f : Nat → Int) (i j : Nat) : Sw f i j = Sw f j i := by
  funext k
  by_cases h1 : k = i
  · subst h1; rw [sw_l, sw_r]
  · by_cases h2 : k = j
    · subst h2; rw [sw_r, sw_l]
    · rw [sw_o f h1 h2, sw_o f h2 h1]
/-- Exchanged inside of a range. -/
inductive SwS (a b : Nat) : (Nat → Int) → (Nat → Int) → Prop
  | refl (f : Nat → Int) : SwS a b f f
  | step {f g : Nat → Int} (s : SwS a b f g) (i j : Nat) (hi : a ≤ i ∧ i < b) (hj : a ≤ j ∧ j < b) : SwS a b f (Sw g i j)
theorem SwS.trans {a b : Nat} {f g h : Nat → Int} (s : SwS a b f g) (t : SwS a b g h) : SwS a b f h := by
  induction t with
  | refl => exact s
  | step _ i j hi hj ih => exact ih.step i j hi hj
theorem SwS.mono {a b a' b' : Nat} {f g : Nat → Int} (s : SwS a b f g) (ha : a' ≤ a) (hb : b ≤ b') : SwS a' b' f g := by
  induction s with
  | refl => exact .refl _
  | step _ i j hi hj ih => exact ih.step i j (by omega) (by omega)
theorem SwS.one {a b : Nat} (f : Nat → Int) {i j : Nat} (hi : a ≤ i ∧ i < b) (hj : a ≤ j ∧ j < b) : SwS a b f (Sw f i j) := (SwS.refl f).step i j hi hj
theorem SwS.out {a b : Nat} {f g : Nat → Int} (s : SwS a b f g) {k : Nat} (hk : k < a ∨ b ≤ k) : g k = f k := by
  induction s with
  | refl => rfl
  | step _ i j hi hj ih => rw [sw_o _ (by omega) (by omega)]; exact ih
/-- What is there was there. -/
theorem SwS.from {a b : Nat} {f g : Nat → Int} (s : SwS a b f g) {k : Nat} (h1 : a ≤ k) (h2 : k < b) : ∃ j, a ≤ j ∧ j < b ∧ g k = f j := by
  induction s generalizing k with
  | refl => exact ⟨k, h1, h2, rfl⟩
  | step _ i j hi hj ih =>
    by_cases e1 : k = i
    · subst e1; rw [sw_l]; exact ih hj.1 hj.2
    · by_cases e2 : k = j
      · subst e2; rw [sw_r]; exact ih hi.1 hi.2
      · rw [sw_o _ e1 e2]; exact ih h1 h2
theorem SwS.all {a b : Nat} {f g : Nat → Int} (s : SwS a b f g) {P : Int → Prop} (h : ∀ k, a ≤ k → k < b → P (f k)) : ∀ k, a ≤ k → k < b → P (g k) := fun k h1 h2 => by
  obtain ⟨j, j1, j2, e⟩ := s.from h1 h2
  rw [e]; exact h j j1 j2
def Srt (f : Nat → Int) (a b : Nat) : Prop := ∀ p q, a ≤ p → p < q → q < b → f p ≤ f q
/-- What stands ahead of the range is no greater than what is in it. -/
def LB (f : Nat → Int) (a b : Nat) : Prop := 0 < a → ∀ k, a ≤ k → k < b → f (a - 1) ≤ f k
theorem LB.perm {f g : Nat → Int} {a b : Nat} (l : LB f a b) (s : SwS a b f g) : LB g a b := fun h0 k h1 h2 => by
  rw [s.out (.inl (by omega))]
  exact s.all (P := fun x => f (a - 1) ≤ x) (l h0) k h1 h2
/-- Sorted but that one may be less than those ahead of it. -/
def Ins (f : Nat → Int) (a i j : Nat) : Prop := a ≤ j ∧ j ≤ i ∧ ∀ p q, a ≤ p → p < q → q ≤ i → q ≠ j → f p ≤ f q
theorem ins_start {f : Nat → Int} {a i : Nat} (h : Srt f a i) (ha : a ≤ i) : Ins f a i i := ⟨ha, Nat.le_refl _, fun p q h1 h2 h3 h4 => h p q h1 h2 (by omega)⟩
theorem ins_step {f : Nat → Int} {a i j : Nat} (h : Ins f a i j) (hj : a < j) (l : f j < f (j - 1)) : Ins (Sw f (j - 1) j) a i (j - 1) := by
  obtain ⟨h1, h2, h3⟩ := h
  refine ⟨by omega, by omega, fun p q p1 p2 p3 p4 => ?_⟩
  by_cases qj : q = j
  · subst qj
    rw [sw_r]
    by_cases pj : p = q - 1
    · subst pj; rw [sw_l]; omega
    · rw [sw_o f pj (by omega)]
      exact h3 p (q - 1) p1 (by omega) (by omega) (by omega)
  · rw [sw_o f (k := q) p4 qj]
    by_cases pj : p = j
    · subst pj; rw [sw_r]; exact h3 (p - 1) q (by omega) (by omega) p3 (by omega)
    · by_cases pj' : p = j - 1
      · subst pj'; rw [sw_l]; exact h3 j q (by omega) (by omega) p3 qj
      · rw [sw_o f pj' pj]; exact h3 p q p1 p2 p3 qj
theorem ins_end {f : Nat → Int} {a i j : Nat} (h : Ins f a i j) (e : j = a ∨ f (j - 1) ≤ f j) : Srt f a (i + 1) := by
  obtain ⟨h1, h2, h3⟩ := h
  intro p q p1 p2 p3
  by_cases qj : q = j
  · subst qj
    rcases e with e | e
    · omega
    · by_cases pj : p = q - 1
      · subst pj; exact e
      · exact Int.le_trans (h3 p (q - 1) p1 (by omega) (by omega) (by omega)) e
  · exact h3 p q p1 p2 (by omega) qj
/-- All pairs are in order but those inside of the range. -/
def Ord (f : Nat → Int) (A B a b : Nat) : Prop := A ≤ a ∧ a ≤ b ∧ b ≤ B ∧ ∀ p q, A ≤ p → p < q → q < B → ¬ (a ≤ p ∧ q < b) → f p ≤ f q
theorem ord_start (f : Nat → Int) {A B : Nat} (h : A ≤ B) : Ord f A B A B := ⟨Nat.le_refl _, h, Nat.le_refl _, fun p q h1 h2 h3 h4 => absurd ⟨h1, h3⟩ h4⟩
theorem Ord.perm {f g : Nat → Int} {A B a b : Nat} (h : Ord f A B a b) (s : SwS a b f g) : Ord g A B a b := by
  obtain ⟨h1, h2, h3, h4⟩ := h
  refine ⟨h1, h2, h3, fun p q p1 p2 p3 p4 => ?_⟩
  by_cases pi : a ≤ p ∧ p < b
  · have qo : b ≤ q := by omega
    obtain ⟨j, j1, j2, e⟩ := s.from pi.1 pi.2
    rw [e, s.out (.inr qo)]
    exact h4 j q (by omega) (by omega) p3 (by omega)
  · rw [s.out (k := p) (by omega)]
    by_cases qi : a ≤ q ∧ q < b
    · obtain ⟨j, j1, j2, e⟩ := s.from qi.1 qi.2
      rw [e]
      exact h4 p j p1 (by omega) (by omega) (by omega)
    · rw [s.out (k := q) (by omega)]
      exact h4 p q p1 p2 p3 p4
theorem Ord.done {f : Nat → Int} {A B a b : Nat} (h : Ord f A B a b) (s : Srt f a b) : Srt f A B := fun p q p1 p2 p3 => by
  by_cases c : a ≤ p ∧ q < b
  · exact s p q c.1 p2 c.2
  · exact h.2.2.2 p q p1 p2 p3 c
/-- The front sorted, and no greater than the rest. -/
theorem Ord.front {f : Nat → Int} {A B a b m : Nat} (h : Ord f A B a b) (hm : a ≤ m ∧ m ≤ b) (s : ∀ p q, a ≤ p → p < q → q < b → p < m → f p ≤ f q) : Ord f A B m b := by
  obtain ⟨h1, h2, h3, h4⟩ := h
  refine ⟨by omega, hm.2, h3, fun p q p1 p2 p3 p4 => ?_⟩
  by_cases c : a ≤ p ∧ q < b
  · exact s p q c.1 p2 c.2 (by omega)
  · exact h4 p q p1 p2 p3 c
theorem Ord.back {f : Nat → Int} {A B a b m : Nat} (h : Ord f A B a b) (hm : a ≤ m ∧ m ≤ b) (s : ∀ p q, a ≤ p → p < q → q < b → m ≤ q → f p ≤ f q) : Ord f A B a m := by
  obtain ⟨h1, h2, h3, h4⟩ := h
  refine ⟨h1, hm.1, by omega, fun p q p1 p2 p3 p4 => ?_⟩
  by_cases c : a ≤ p ∧ q < b
  · exact s p q c.1 p2 c.2 (by omega)
  · exact h4 p q p1 p2 p3 c
/-- What stands ahead of a part, in a row that is in order around it. -/
theorem Ord.lb {f : Nat → Int} {A B a b : Nat} (h : Ord f A B a b) (l : LB f A B) : LB f a b := fun h0 k h1 h2 => by
  by_cases e : a = A
  · subst e
    exact l h0 k h1 (by have := h.2.2.1; omega)
  · exact h.2.2.2 (a - 1) k (by have := h.1; omega) (by omega) (by have := h.2.2.1; omega) (by omega)
/-! ### a heap whose greatest stands first, at a place -/
def parN (k : Nat) : Nat := (k - 1) / 2
def HpF (f : Nat → Int) (z hi lo : Nat) : Prop := ∀ k, 0 < k → k < hi → lo ≤ parN k → f (z + k) ≤ f (z + parN k)
def HlF (f : Nat → Int) (z hi lo r : Nat) : Prop := (∀ k, 0 < k → k < hi → lo ≤ parN k → parN k ≠ r → f (z + k) ≤ f (z + parN k)) ∧ ∀ k, 0 < k → k < hi → parN k = r → 0 < r → lo ≤ parN r → f (z + k) ≤ f (z + parN r)
theorem hl_start {f : Nat → Int} {z hi lo : Nat} (h : HpF f z hi (lo + 1)) : HlF f z hi lo lo := by
  refine ⟨fun k k0 k1 k2 k3 => h k k0 k1 (by omega), fun k k0 k1 k2 k3 k4 => ?_⟩
  unfold parN at k4; omega
theorem hl_end {f : Nat → Int} {z hi lo r : Nat} (h : HlF f z hi lo r) (e : ∀ k, 0 < k → k < hi → parN k = r → f (z + k) ≤ f (z + r)) : HpF f z hi lo := fun k k0 k1 k2 => by
  by_cases c : parN k = r
  · rw [c]; exact e k k0 k1 c
  · exact h.1 k k0 k1 k2 c
theorem hl_step {f : Nat → Int} {z hi lo r c : Nat} (h : HlF f z hi lo r) (hr : lo ≤ r) (c0 : 0 < c) (c1 : c < hi) (cr : parN c = r) (big : ∀ k, 0 < k → k < hi → parN k = r → f (z + k) ≤ f (z + c)) (l : f (z + r) < f (z + c)) :
    HlF (Sw f (z + r) (z + c)) z hi lo c := by
  have rc : r < c := by rw [← cr]; unfold parN; omega
  refine ⟨fun k k0 k1 k2 k3 => ?_, fun k k0 k1 k2 k3 k4 => ?_⟩
  · by_cases kc : k = c
    · subst kc
      rw [sw_r, cr, sw_l]; omega
    · by_cases kr : k = r
      · subst kr
        have : parN k < k := by unfold parN; omega
        rw [sw_l, sw_o f (k := z + parN k) (by omega) (by omega)]
        exact h.2 c c0 c1 cr k0 k2
      · rw [sw_o f (k := z + k) (by omega) (by omega)]
        by_cases pr : parN k = r
        · rw [pr, sw_l]; exact big k k0 k1 pr
        · rw [sw_o f (k := z + parN k) (by omega) (by omega)]
          exact h.1 k k0 k1 k2 pr
  · have : parN k < k := by unfold parN; omega
    rw [cr, sw_l, sw_o f (k := z + k) (by omega) (by omega)]
    have := h.1 k k0 k1 (by omega) (by omega)
    rw [k2] at this
    exact this
theorem hp_none (f : Nat → Int) (z hi lo : Nat) (h : hi ≤ 2 * lo + 1) : HpF f z hi lo := fun k k0 k1 k2 => by unfold parN at k2; omega
theorem hp_max {f : Nat → Int} {z hi : Nat} (h : HpF f z hi 0) : ∀ k, k < hi → f (z + k) ≤ f z := by
  intro k
  induction k using Nat.strongRecOn with
  | ind k ih =>
    intro hk
    by_cases k0 : k = 0
    · subst k0; exact Int.le_refl _
    · have hp : parN k < k := by unfold parN; omega
      exact Int.le_trans (h k (by omega) hk (Nat.zero_le _)) (ih _ hp (by omega))
/-- The greatest goes behind: what is left is a heap but for its first. -/
theorem hp_pop {f : Nat → Int} {z i : Nat} (h : HpF f z (i + 1) 0) : HpF (Sw f z (z + i)) z i 1 := fun k k0 k1 k2 => by
  have : parN k < k := by unfold parN; omega
  rw [sw_o f (k := z + k) (by omega) (by omega), sw_o f (k := z + parN k) (by omega) (by omega)]
  exact h k k0 (by omega) (Nat.zero_le _)
/-! ### the row as a list -/
theorem upd_map (f : Nat → Int) (n i : Nat) (x : Int) (hi : i < n) : (List.range n).map (upd f i x) = ((List.range n).map f).set i x := by
  apply List.ext_getElem?
  intro j
  rw [List.getElem?_set]
  by_cases e : i = j
  · subst e; simp [hi, upd]
  · simp only [if_neg e, List.getElem?_map]
    by_cases hj : j < n
    · simp [hj, upd, Ne.symm e]
    · simp [hj]
theorem sw_perm (f : Nat → Int) {n i j : Nat} (hi : i < n) (hj : j < n) : ((List.range n).map (Sw f i j)).Perm ((List.range n).map f) := by
  rw [List.perm_iff_count]
  intro x
  have key : ∀ (m : Nat) (g : Nat → Int), ((List.range m).map g).count x = ((List.range m).filter fun k => g k == x).length := fun m g => by
    rw [List.count_eq_countP, List.countP_map, List.countP_eq_length_filter]
    rfl
  have u : ∀ (g : Nat → Int) (i : Nat) (y : Int), i < n → ((List.range n).map (upd g i y)).count x + (if g i = x then 1 else 0) = ((List.range n).map g).count x + (if y = x then 1 else 0) := by
    intro g i y hi
    rw [upd_map g n i y hi, List.count_set (by simpa using hi)]
    simp only [List.getElem_map, List.getElem_range, beq_iff_eq]
    have pos : g i = x → 0 < ((List.range n).map g).count x := fun e => List.count_pos_iff.2 (List.mem_map.2 ⟨i, by simpa using hi, e⟩)
    split
    · rename_i e; have := pos e; split <;> omega
    · split <;> omega
  have a1 := u f i (f j) hi
  have a2 := u (upd f i (f j)) j (f i) hj
  have a3 : upd f i (f j) j = f j := by
    simp only [upd]
    split
    · rfl
    · rfl
  rw [a3] at a2
  unfold Sw
  omega
theorem SwS.perm {a b n : Nat} {f g : Nat → Int} (s : SwS a b f g) (hb : b ≤ n) : ((List.range n).map g).Perm ((List.range n).map f) := by
  induction s with
  | refl => exact .refl _
  | step _ i j hi hj ih => exact (sw_perm _ (by omega) (by omega)).trans ih
theorem Srt.list {f : Nat → Int} {n : Nat} (s : Srt f 0 n) : ((List.range n).map f).Pairwise (· ≤ ·) := by
  rw [List.pairwise_map]
  have : (List.range n).Pairwise (fun p q => p < q ∧ q < n) := by
    have h1 : (List.range n).Pairwise (· < ·) := List.pairwise_lt_range
    exact List.Pairwise.imp_of_mem (fun _ hb h => ⟨h, by simpa using hb⟩) h1
  exact this.imp fun h => s _ _ (Nat.zero_le _) h.1 h.2
end Go.Abs
