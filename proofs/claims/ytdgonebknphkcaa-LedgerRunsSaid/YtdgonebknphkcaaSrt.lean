/- Rows that are sorted, plainly: exchanges, what they keep. -/
import Derived.Test.YtdgonebknphkcaaAbsIn
import Derived.Test.YtdgonebknphkcaaAbsLv
import Derived.Test.YtdgonebknphkcaaGenS
set_option linter.unusedSimpArgs false
set_option linter.unusedVariables false
namespace Go.Abs

def upd (f : Nat → Int) (i : Nat) (x : Int) : Nat → Int := fun k => if k = i then x else f k
def Sw (f : Nat → Int) (i j : Nat) : Nat → Int := upd (upd f i (f j)) j (f i)
theorem sw_r (f : Nat → Int) (i j : Nat) : Sw f i j j = f i := by simp [Sw, upd]
theorem sw_l (f : Nat → Int) (i j : Nat) : Sw f i j i = f j := by
  simp only [Sw, upd]
  split
  · rename_i h; rw [h]
  · simp
theorem sw_o (f : Nat → Int) {i j k : Nat} (h1 : k ≠ i) (h2 : k ≠ j) : Sw f i j k = f k := by simp [Sw, upd, h1, h2]
theorem sw_comm (f : Nat → Int) (i j : Nat) : Sw f i j = Sw f j i := by
  funext k
  by_cases h1 : k = i
  · subst h1; rw [sw_l, sw_r]
  · by_cases h2 : k = j
    · subst h2; rw [sw_r, sw_l]
    · rw [sw_o f h1 h2, sw_o f h2 h1]
/-- Exchanged inside of a range. -/
inductive SwS (a b : Nat) : (Nat → Int) → (Nat → Int) → Prop
  | refl (f : Nat → Int) : SwS a b f f
  | step {f g : Nat → Int} (s : SwS a b f g) (i j : Nat) (hi : a ≤ i ∧ i < b) (hj : a ≤ j ∧ j < b) : SwS a b f (Sw g i j)
theorem SwS.trans {a b : Nat} {f g h : Nat → Int} (s : SwS a b f g) (t : SwS a b g h) : SwS a b f h := by
  induction t with
  | refl => exact s
  | step _ i j hi hj ih => exact ih.step i j hi hj
theorem SwS.mono {a b a' b' : Nat} {f g : Nat → Int} (s : SwS a b f g) (ha : a' ≤ a) (hb : b ≤ b') : SwS a' b' f g := by
  induction s with
  | refl => exact .refl _
  | step _ i j hi hj ih => exact ih.step i j (by omega) (by omega)
theorem SwS.one {a b : Nat} (f : Nat → Int) {i j : Nat} (hi : a ≤ i ∧ i < b) (hj : a ≤ j ∧ j < b) : SwS a b f (Sw f i j) := (SwS.refl f).step i j hi hj
theorem SwS.out {a b : Nat} {f g : Nat → Int} (s : SwS a b f g) {k : Nat} (hk : k < a ∨ b ≤ k) : g k = f k := by
  induction s with
  | refl => rfl
  | step _ i j hi hj ih => rw [sw_o _ (by omega) (by omega)]; exact ih
/-- What is there was there. -/
theorem SwS.from {a b : Nat} {f g : Nat → Int} (s : SwS a b f g) {k : Nat} (h1 : a ≤ k) (h2 : k < b) : ∃ j, a ≤ j ∧ j < b ∧ g k = f j := by
  induction s generalizing k with
  | refl => exact ⟨k, h1, h2, rfl⟩
  | step _ i j hi hj ih =>
    by_cases e1 : k = i
    · subst e1; rw [sw_l]; exact ih hj.1 hj.2
    · by_cases e2 : k = j
      · subst e2; rw [sw_r]; exact ih hi.1 hi.2
      · rw [sw_o _ e1 e2]; exact ih h1 h2
theorem SwS.all {a b : Nat} {f g : Nat → Int} (s : SwS a b f g) {P : Int → Prop} (h : ∀ k, a ≤ k → k < b → P (f k)) : ∀ k, a ≤ k → k < b → P (g k) := fun k h1 h2 => by
  obtain ⟨j, j1, j2, e⟩ := s.from h1 h2
  rw [e]; exact h j j1 j2
def Srt (f : Nat → Int) (a b : Nat) : Prop := ∀ p q, a ≤ p → p < q → q < b → f p ≤ f q
/-- What stands ahead of the range is no greater than what is in it. -/
def LB (f : Nat → Int) (a b : Nat) : Prop := 0 < a → ∀ k, a ≤ k → k < b → f (a - 1) ≤ f k
theorem LB.perm {f g : Nat → Int} {a b : Nat} (l : LB f a b) (s : SwS a b f g) : LB g a b := fun h0 k h1 h2 => by
  rw [s.out (.inl (by omega))]
  exact s.all (P := fun x => f (a - 1) ≤ x) (l h0) k h1 h2
/-- Sorted but that one may be less than those ahead of it. -/
def Ins (f : Nat → Int) (a i j : Nat) : Prop := a ≤ j ∧ j ≤ i ∧ ∀ p q, a ≤ p → p < q → q ≤ i → q ≠ j → f p ≤ f q
theorem ins_start {f : Nat → Int} {a i : Nat} (h : Srt f a i) (ha : a ≤ i) : Ins f a i i := ⟨ha, Nat.le_refl _, fun p q h1 h2 h3 h4 => h p q h1 h2 (by omega)⟩
theorem ins_step {f : Nat → Int} {a i j : Nat} (h : Ins f a i j) (hj : a < j) (l : f j < f (j - 1)) : Ins (Sw f (j - 1) j) a i (j - 1) := by
  obtain ⟨h1, h2, h3⟩ := h
  refine ⟨by omega, by omega, fun p q p1 p2 p3 p4 => ?_⟩
  by_cases qj : q = j
  · subst qj
    rw [sw_r]
    by_cases pj : p = q - 1
    · subst pj; rw [sw_l]; omega
    · rw [sw_o f pj (by omega)]
      exact h3 p (q - 1) p1 (by omega) (by omega) (by omega)
  · rw [sw_o f (k := q) p4 qj]
    by_cases pj : p = j
    · subst pj; rw [sw_r]; exact h3 (p - 1) q (by omega) (by omega) p3 (by omega)
    · by_cases pj' : p = j - 1
      · subst pj'; rw [sw_l]; exact h3 j q (by omega) (by omega) p3 qj
      · rw [sw_o f pj' pj]; exact h3 p q p1 p2 p3 qj
theorem ins_end {f : Nat → Int} {a i j : Nat} (h : Ins f a i j) (e : j = a ∨ f (j - 1) ≤ f j) : Srt f a (i + 1) := by
  obtain ⟨h1, h2, h3⟩ := h
  intro p q p1 p2 p3
  by_cases qj : q = j
  · subst qj
    rcases e with e | e
    · omega
    · by_cases pj : p = q - 1
      · subst pj; exact e
      · exact Int.le_trans (h3 p (q - 1) p1 (by omega) (by omega) (by omega)) e
  · exact h3 p q p1 p2 (by omega) qj
/-- All pairs are in order but those inside of the range. -/
def Ord (f : Nat → Int) (A B a b : Nat) : Prop := A ≤ a ∧ a ≤ b ∧ b ≤ B ∧ ∀ p q, A ≤ p → p < q → q < B → ¬ (a ≤ p ∧ q < b) → f p ≤ f q
theorem ord_start (f : Nat → Int) {A B : Nat} (h : A ≤ B) : Ord f A B A B := ⟨Nat.le_refl _, h, Nat.le_refl _, fun p q h1 h2 h3 h4 => absurd ⟨h1, h3⟩ h4⟩
theorem Ord.perm {f g : Nat → Int} {A B a b : Nat} (h : Ord f A B a b) (s : SwS a b f g) : Ord g A B a b := by
  obtain ⟨h1, h2, h3, h4⟩ := h
  refine ⟨h1, h2, h3, fun p q p1 p2 p3 p4 => ?_⟩
  by_cases pi : a ≤ p ∧ p < b
  · have qo : b ≤ q := by omega
    obtain ⟨j, j1, j2, e⟩ := s.from pi.1 pi.2
    rw [e, s.out (.inr qo)]
    exact h4 j q (by omega) (by omega) p3 (by omega)
  · rw [s.out (k := p) (by omega)]
    by_cases qi : a ≤ q ∧ q < b
    · obtain ⟨j, j1, j2, e⟩ := s.from qi.1 qi.2
      rw [e]
      exact h4 p j p1 (by omega) (by omega) (by omega)
    · rw [s.out (k := q) (by omega)]
      exact h4 p q p1 p2 p3 p4
theorem Ord.done {f : Nat → Int} {A B a b : Nat} (h : Ord f A B a b) (s : Srt f a b) : Srt f A B := fun p q p1 p2 p3 => by
  by_cases c : a ≤ p ∧ q < b
  · exact s p q c.1 p2 c.2
  · exact h.2.2.2 p q p1 p2 p3 c
/-- The front sorted, and no greater than the rest. -/
theorem Ord.front {f : Nat → Int} {A B a b m : Nat} (h : Ord f A B a b) (hm : a ≤ m ∧ m ≤ b) (s : ∀ p q, a ≤ p → p < q → q < b → p < m → f p ≤ f q) : Ord f A B m b := by
  obtain ⟨h1, h2, h3, h4⟩ := h
  refine ⟨by omega, hm.2, h3, fun p q p1 p2 p3 p4 => ?_⟩
  by_cases c : a ≤ p ∧ q < b
  · exact s p q c.1 p2 c.2 (by omega)
  · exact h4 p q p1 p2 p3 c
theorem Ord.back {f : Nat → Int} {A B a b m : Nat} (h : Ord f A B a b) (hm : a ≤ m ∧ m ≤ b) (s : ∀ p q, a ≤ p → p < q → q < b → m ≤ q → f p ≤ f q) : Ord f A B a m := by
  obtain ⟨h1, h2, h3, h4⟩ := h
  refine ⟨h1, hm.1, by omega, fun p q p1 p2 p3 p4 => ?_⟩
  by_cases c : a ≤ p ∧ q < b
  · exact s p q c.1 p2 c.2 (by omega)
  · exact h4 p q p1 p2 p3 c
/-- What stands ahead of a part, in a row that is in order around it. -/
theorem Ord.lb {f : Nat → Int} {A B a b : Nat} (h : Ord f A B a b) (l : LB f A B) : LB f a b := fun h0 k h1 h2 => by
  by_cases e : a = A
  · subst e
    exact l h0 k h1 (by have := h.2.2.1; omega)
  · exact h.2.2.2 (a - 1) k (by have := h.1; omega) (by omega) (by have := h.2.2.1; omega) (by omega)
/-! ### a heap whose greatest stands first, at a place -/
def parN (k : Nat) : Nat := (k - 1) / 2
def HpF (f : Nat → Int) (z hi lo : Nat) : Prop := ∀ k, 0 < k → k < hi → lo ≤ parN k → f (z + k) ≤ f (z + parN k)
def HlF (f : Nat → Int) (z hi lo r : Nat) : Prop := (∀ k, 0 < k → k < hi → lo ≤ parN k → parN k ≠ r → f (z + k) ≤ f (z + parN k)) ∧ ∀ k, 0 < k → k < hi → parN k = r → 0 < r → lo ≤ parN r → f (z + k) ≤ f (z + parN r)
theorem hl_start {f : Nat → Int} {z hi lo : Nat} (h : HpF f z hi (lo + 1)) : HlF f z hi lo lo := by
  refine ⟨fun k k0 k1 k2 k3 => h k k0 k1 (by omega), fun k k0 k1 k2 k3 k4 => ?_⟩
  unfold parN at k4; omega
theorem hl_end {f : Nat → Int} {z hi lo r : Nat} (h : HlF f z hi lo r) (e : ∀ k, 0 < k → k < hi → parN k = r → f (z + k) ≤ f (z + r)) : HpF f z hi lo := fun k k0 k1 k2 => by
  by_cases c : parN k = r
  · rw [c]; exact e k k0 k1 c
  · exact h.1 k k0 k1 k2 c
theorem hl_step {f : Nat → Int} {z hi lo r c : Nat} (h : HlF f z hi lo r) (hr : lo ≤ r) (c0 : 0 < c) (c1 : c < hi) (cr : parN c = r) (big : ∀ k, 0 < k → k < hi → parN k = r → f (z + k) ≤ f (z + c)) (l : f (z + r) < f (z + c)) :
    HlF (Sw f (z + r) (z + c)) z hi lo c := by
  have rc : r < c := by rw [← cr]; unfold parN; omega
  refine ⟨fun k k0 k1 k2 k3 => ?_, fun k k0 k1 k2 k3 k4 => ?_⟩
  · by_cases kc : k = c
    · subst kc
      rw [sw_r, cr, sw_l]; omega
    · by_cases kr : k = r
      · subst kr
        have : parN k < k := by unfold parN; omega
        rw [sw_l, sw_o f (k := z + parN k) (by omega) (by omega)]
        exact h.2 c c0 c1 cr k0 k2
      · rw [sw_o f (k := z + k) (by omega) (by omega)]
        by_cases pr : parN k = r
        · rw [pr, sw_l]; exact big k k0 k1 pr
        · rw [sw_o f (k := z + parN k) (by omega) (by omega)]
          exact h.1 k k0 k1 k2 pr
  · have : parN k < k := by unfold parN; omega
    rw [cr, sw_l, sw_o f (k := z + k) (by omega) (by omega)]
    have := h.1 k k0 k1 (by omega) (by omega)
    rw [k2] at this
    exact this
theorem hp_none (f : Nat → Int) (z hi lo : Nat) (h : hi ≤ 2 * lo + 1) : HpF f z hi lo := fun k k0 k1 k2 => by unfold parN at k2; omega
theorem hp_max {f : Nat → Int} {z hi : Nat} (h : HpF f z hi 0) : ∀ k, k < hi → f (z + k) ≤ f z := by
  intro k
  induction k using Nat.strongRecOn with
  | ind k ih =>
    intro hk
    by_cases k0 : k = 0
    · subst k0; exact Int.le_refl _
    · have hp : parN k < k := by unfold parN; omega
      exact Int.le_trans (h k (by omega) hk (Nat.zero_le _)) (ih _ hp (by omega))
/-- The greatest goes behind: what is left is a heap but for its first. -/
theorem hp_pop {f : Nat → Int} {z i : Nat} (h : HpF f z (i + 1) 0) : HpF (Sw f z (z + i)) z i 1 := fun k k0 k1 k2 => by
  have : parN k < k := by unfold parN; omega
  rw [sw_o f (k := z + k) (by omega) (by omega), sw_o f (k := z + parN k) (by omega) (by omega)]
  exact h k k0 (by omega) (Nat.zero_le _)
/-! ### the row as a list -/
theorem upd_map (f : Nat → Int) (n i : Nat) (x : Int) (hi : i < n) : (List.range n).map (upd f i x) = ((List.range n).map f).set i x := by
  apply List.ext_getElem?
  intro j
  rw [List.getElem?_set]
  by_cases e : i = j
  · subst e; simp [hi, upd]
  · simp only [if_neg e, List.getElem?_map]
    by_cases hj : j < n
    · simp [hj, upd, Ne.symm e]
    · simp [hj]
theorem sw_perm (f : Nat → Int) {n i j : Nat} (hi : i < n) (hj : j < n) : ((List.range n).map (Sw f i j)).Perm ((List.range n).map f) := by
  rw [List.perm_iff_count]
  intro x
  have key : ∀ (m : Nat) (g : Nat → Int), ((List.range m).map g).count x = ((List.range m).filter fun k => g k == x).length := fun m g => by
    rw [List.count_eq_countP, List.countP_map, List.countP_eq_length_filter]
    rfl
  have u : ∀ (g : Nat → Int) (i : Nat) (y : Int), i < n → ((List.range n).map (upd g i y)).count x + (if g i = x then 1 else 0) = ((List.range n).map g).count x + (if y = x then 1 else 0) := by
    intro g i y hi
    rw [upd_map g n i y hi, List.count_set (by simpa using hi)]
    simp only [List.getElem_map, List.getElem_range, beq_iff_eq]
    have pos : g i = x → 0 < ((List.range n).map g).count x := fun e => List.count_pos_iff.2 (List.mem_map.2 ⟨i, by simpa using hi, e⟩)
    split
    · rename_i e; have := pos e; split <;> omega
    · split <;> omega
  have a1 := u f i (f j) hi
  have a2 := u (upd f i (f j)) j (f i) hj
  have a3 : upd f i (f j) j = f j := by
    simp only [upd]
    split
    · rfl
    · rfl
  rw [a3] at a2
  unfold Sw
  omega
theorem SwS.perm {a b n : Nat} {f g : Nat → Int} (s : SwS a b f g) (hb : b ≤ n) : ((List.range n).map g).Perm ((List.range n).map f) := by
  induction s with
  | refl => exact .refl _
  | step _ i j hi hj ih => exact (sw_perm _ (by omega) (by omega)).trans ih
theorem Srt.list {f : Nat → Int} {n : Nat} (s : Srt f 0 n) : ((List.range n).map f).Pairwise (· ≤ ·) := by
  rw [List.pairwise_map]
  have : (List.range n).Pairwise (fun p q => p < q ∧ q < n) := by
    have h1 : (List.range n).Pairwise (· < ·) := List.pairwise_lt_range
    exact List.Pairwise.imp_of_mem (fun _ hb h => ⟨h, by simpa using hb⟩) h1
  exact this.imp fun h => s _ _ (Nat.zero_le _) h.1 h.2
end Go.Abs

/- The library's sort: a row as it lies; less; the sort by insertion; the pivot's choice; a range turned round. -/
set_option linter.unusedSimpArgs false
set_option linter.unusedVariables false
set_option maxHeartbeats 4000000
namespace Go.Proofs.Ytdgonebknphkcaa
open Go.Abs Go.IntWalk
theorem appendE_weak {dd : Prop} {size bytes : Nat} {s s' x x' : Value} {h h' : St} {k : Cont} (e : s = s') (ex : x = x') (eh : h = h') (_t : ((0 : Nat) = 0) = dd) : appendE size bytes s x h k = appendE size bytes s' x' h' k := by rw [e, ex, eh]
theorem buildSliceE_weak {dd : Prop} {size len : Nat} {z : List Value} {p p' : List (Nat × Nat × Value)} {h h' : St} {k : Cont} (ex : p = p') (eh : h = h') (_t : ((0 : Nat) = 0) = dd) : buildSliceE size len z p h k = buildSliceE size len z p' h' k := by rw [ex, eh]
theorem mapUpdateE_weak {dd : Prop} {key : KeyMode} {m m' q q' x x' : Value} {h h' : St} {k : Cont} (em : m = m') (eq : q = q') (ex : x = x') (eh : h = h') (_t : ((0 : Nat) = 0) = dd) : mapUpdateE key m q x h k = mapUpdateE key m' q' x' h' k := by rw [em, eq, ex, eh]
theorem deleteE_weak {dd : Prop} {key : KeyMode} {m m' q q' : Value} {h h' : St} {k : Cont} (em : m = m') (eq : q = q') (eh : h = h') (_t : ((0 : Nat) = 0) = dd) : deleteE key m q h k = deleteE key m' q' h' k := by rw [em, eq, eh]
theorem makeMapE_weak {dd : Prop} {h h' : St} {k : Cont} (eh : h = h') (_t : ((0 : Nat) = 0) = dd) : makeMapE h k = makeMapE h' k := by rw [eh]
theorem copyE_weak {dd : Prop} {size : Nat} {s s' x x' : Value} {h h' : St} {k : Cont} (e : s = s') (ex : x = x') (eh : h = h') (_t : ((0 : Nat) = 0) = dd) : copyE size s x h k = copyE size s' x' h' k := by rw [e, ex, eh]
theorem clearE_weak {dd : Prop} {size : Nat} {z : List Value} {x x' : Value} {h h' : St} {k : Cont} (ex : x = x') (eh : h = h') (_t : ((0 : Nat) = 0) = dd) : clearE size z x h k = clearE size z x' h' k := by rw [ex, eh]
theorem callE_weak {dd : Prop} {C : Oracle} {f f' : Value} {a a' : List Value} {h h' : St} {k : Cont} (ef : f = f') (ea : a = a') (eh : h = h') (_t : ((0 : Nat) = 0) = dd) : callE C f a h k = callE C f' a' h' k := by rw [ef, ea, eh]
attribute [local congr] bindV_weak condK_weak guardK_weak groupK_weak allocE_weak boxE_weak storeE_weak storeM_weak tabC_weak ite_weak idG_weak appendE_weak buildSliceE_weak mapUpdateE_weak deleteE_weak makeMapE_weak copyE_weak clearE_weak callE_weak

theorem mixed : Try.prog.follows .mixedOrders = true := by kernel_rfl
theorem cK {f : FuncId} {S : Abs.Spec} {args : List Value} {h : St} {k : Cont} : ∀ {tab : List (FuncId × Abs.Spec)}, (f, S) ∈ tab → S args h k → tabC tab f args h k
  | (g, R) :: tab, hm, H => by
    rcases List.mem_cons.1 hm with e | hm
    · cases e; exact .inl ⟨rfl, H⟩
    · exact .inr (cK hm H)
theorem guardK_undef (w : Bool) (y n : Prop) : guardK undef w y n = n := propext Iff.rfl
/-! ### a row -/
def vS (q N : Nat) : Value := .slice (some ⟨q, 0, some 1⟩) N 0
def pS (q i : Nat) : Value := .pointer (some ⟨q, i, none⟩)
def cellsS (f : Nat → Int) (n : Nat) : List Value := (List.range n).map fun i => .int .u64 (f i)
def Dat (q N : Nat) (f : Nat → Int) (h : St) : Prop := q < h.next ∧ h.objs q = some (.cells (cellsS f N) true)
theorem Dat.idx (q : Nat) {N i : Nat} (hi : i < N) : idxS 1 (vS q N) (.int .i64 (i : Int)) = some (pS q i) := by
  have : (i : Int) < N := by omega
  simp [vS, pS, idxS, this, hi]
theorem Dat.load {q N : Nat} {f : Nat → Int} {h : St} (d : Dat q N f h) {i : Nat} (hi : i < N) : loadV false 1 (pS q i) h = some (.int .u64 (f i)) := by
  simp [pS, d.2, cellsS, hi]
theorem Dat.chg {q N : Nat} {f : Nat → Int} {h h' : St} (d : Dat q N f h) {S : List Nat} (c : Chg h h' S) (hq : q ∉ S) : Dat q N f h' := ⟨Nat.lt_of_lt_of_le d.1 c.1, c.at d.1 hq d.2⟩
theorem cellsS_upd (f : Nat → Int) (n i : Nat) (x : Int) (hi : i < n) : cellsS (upd f i x) n = (cellsS f n).set i (.int .u64 x) := by
  apply List.ext_getElem?
  intro j
  rw [List.getElem?_set]
  by_cases e : i = j
  · subst e; simp [cellsS, hi, upd]
  · simp only [if_neg e, cellsS, List.getElem?_map]
    by_cases hj : j < n
    · simp [hj, upd, Ne.symm e]
    · simp [hj]
theorem Dat.store {q N : Nat} {f : Nat → Int} {h : St} (d : Dat q N f h) {i : Nat} (hi : i < N) {x : Int} {k : Cont} (K : ∀ h', Chg h h' [q] → h'.next = h.next → Dat q N (upd f i x) h' → k undef h') : storeE 1 (pS q i) (.int .u64 x) h k := by
  refine storeE_in d.2 (cellsS (upd f i x) N) rfl (by simp [cellsS]; omega) rfl ?_ fun h' c n o => K h' c n ⟨by have := d.1; omega, o⟩
  rw [cellsS_upd f N i x hi, List.set_eq_take_append_cons_drop, if_pos (by simp [cellsS]; exact hi)]
  simp
theorem i64_dn {j : Nat} (h0 : 0 < j) (h : j ≤ 1000000) : IntKind.i64.wrap ((j : Int) - 1) = ((j - 1 : Nat) : Int) := by rw [i64_in _ (by omega)]; omega
theorem i64_up {j : Nat} (h : j ≤ 1000000) : IntKind.i64.wrap ((j : Int) + 1) = ((j + 1 : Nat) : Int) := by rw [i64_in _ (by omega)]; omega
theorem quo_nat {s : Shp} {a b : Nat} (hb : b ≠ 0) (ha : a ≤ 1000000) : binV .quo s (.int .i64 a) (.int .i64 b) = some (.int .i64 ((a / b : Nat) : Int)) := by
  have hz : ¬ (b : Int) = 0 := by omega
  have : a / b ≤ a := Nat.div_le_self _ _
  simp only [binV, isShift, intV, hz, if_false, if_true]
  rw [Int.tdiv_eq_ediv_of_nonneg (by omega), ← Int.natCast_ediv]
  generalize a / b = c at *
  rw [i64_in _ (by omega)]
/-! ### less -/
def nanS : Abs.Spec := fun args h k => ∃ x : Int, args = [.int .u64 x] ∧ k (.bool false) h
theorem nanS_good : SpecGood Try.prog (48, nanS) := by
  refine spec_good mixed Try.func48 (by kernel_rfl) (by kernel_rfl) (tab := []) (by simp) (keep := cmp_isNaN_keep) ?_
  rintro args h k ⟨x, rfl, H⟩
  refine ⟨0, ?_⟩
  show cmp_isNaN (tabC []) idG 0 (.int .u64 x) h _
  rw [cmp_isNaN_eq]
  simp only [binV_neq, ne_eq, not_true_eq_false, decide_false, bindV_some]
  exact ⟨h, St.le.refl _, H⟩
def lessO : Abs.Spec := fun args h k => ∃ x y : Int, args = [.int .u64 x, .int .u64 y] ∧ k (.bool (decide (x < y))) h
theorem lessO_good : SpecGood Try.prog (38, lessO) := by
  refine spec_good mixed Try.func38 (by kernel_rfl) (by kernel_rfl) (tab := [(48, nanS)]) (by simp [nanS_good]) (keep := cmp_Less_keep) ?_
  rintro args h k ⟨x, y, rfl, H⟩
  refine ⟨0, ?_⟩
  show cmp_Less (tabC _) idG 0 (.int .u64 x) (.int .u64 y) h _
  rw [cmp_Less_eq]
  refine .inl ⟨rfl, x, rfl, ?_⟩
  simp only [groupK_eq, guardK_bool, Bool.false_eq_true, if_false, idG_eq, pickV_bool, bindV_some, if_true, binV_lss, getT]
  exact ⟨h, St.le.refl _, H⟩
def tabS1 : List (FuncId × Abs.Spec) := [(38, lessO)]
theorem tabS1_good : ∀ p ∈ tabS1, SpecGood Try.prog p := by simp [tabS1, lessO_good]
theorem cLess {x y : Int} {h : St} {k : Cont} (H : k (.bool (decide (x < y))) h) : tabC tabS1 38 [.int .u64 x, .int .u64 y] h k := .inl ⟨rfl, x, y, rfl, H⟩
/-! ### by insertion -/
theorem ins_l1 {q N a b nn : Nat} {k : Cont} {h0 : St} {f0 : Nat → Int} (hN : N ≤ 1000000) (hb : b ≤ N) {i : Nat} (hib : i < b) {m0 : Nat}
    (H : ∀ h' f', Chg h0 h' [q] → Dat q N f' h' → SwS a b f0 f' → Srt f' a (i + 1) → ∀ x7, slices_insertionSortOrdered_j2 (tabC tabS1) idG nn m0 (vS q N) (.int .i64 a) (.int .i64 b) (.int .i64 i) x7 h' k) :
    ∀ (j m1 : Nat) (h : St) (f : Nat → Int), j < m1 → Chg h0 h [q] → Dat q N f h → SwS a b f0 f → Ins f a i j →
      slices_insertionSortOrdered_l1 (tabC tabS1) idG nn m0 m1 (vS q N) (.int .i64 a) (.int .i64 b) (.int .i64 i) (.int .i64 j) h k := by
  intro j
  induction j using Nat.strongRecOn with
  | ind j ih =>
    intro m1 h f hm c d s ins
    obtain ⟨m1, rfl⟩ : ∃ m, m1 = m + 1 := ⟨m1 - 1, by omega⟩
    rw [slices_insertionSortOrdered_l1_eq]
    have ji : j ≤ i := ins.2.1
    have aj : a ≤ j := ins.1
    simp only [binV_gtr, bindV_some, groupK_eq, guardK_bool]
    by_cases e : j = a
    · have e' : ¬ (j : Int) > a := by omega
      simp only [e', decide_false, Bool.false_eq_true, if_false, idG_eq, pickV_bool, bindV_some, condK_bool]
      exact H h f c d s (ins_end ins (.inl e)) _
    · have e' : (j : Int) > a := by omega
      simp only [e', decide_true, if_true, Dat.idx q (show j < N by omega), bindV_some, d.load (show j < N by omega), true_and, binNil_int, binV_sub, i64_dn (show 0 < j by omega) (by omega), Dat.idx q (show j - 1 < N by omega), d.load (show j - 1 < N by omega)]
      refine cLess ?_
      simp only [true_and, and_self, idG_eq, e', decide_true, pickV_bool, if_true, bindV_some, getT, condK_bool]
      by_cases l : f j < f (j - 1)
      · simp only [l, decide_true, if_true, idG_eq, Dat.idx q (show j < N by omega), bindV_some, d.load (show j < N by omega), true_and, binNil_int, binV_sub, i64_dn (show 0 < j by omega) (by omega), Dat.idx q (show j - 1 < N by omega), d.load (show j - 1 < N by omega)]
        refine d.store (by omega) fun h1 c1 n1 d1 => ?_
        simp only [true_and, and_self, Dat.idx q (show j - 1 < N by omega), bindV_some]
        refine d1.store (by omega) fun h2 c2 n2 d2 => ?_
        simp only [true_and, and_self, idG_eq, binNil_int, binV_sub, i64_dn (show 0 < j by omega) (by omega), bindV_some]
        have es : upd (upd f j (f (j - 1))) (j - 1) (f j) = Sw f (j - 1) j := by rw [sw_comm]; rfl
        rw [es] at d2
        exact ih (j - 1) (by omega) m1 h2 _ (by omega) ((c.of_chg c1 (by simp)).of_chg c2 (by simp)) d2 (s.step (j - 1) j (by omega) (by omega)) (ins_step ins (by omega) l)
      · simp only [l, decide_false, Bool.false_eq_true, if_false, idG_eq]
        exact H h f c d s (ins_end ins (.inr (by omega))) _
theorem ins_l0 {q N a b nn : Nat} {k : Cont} {h0 : St} {f0 : Nat → Int} {x7 : Value} (hN : N ≤ 1000000) (hb : b ≤ N) (hn : b < nn)
    (H : ∀ h' f', Chg h0 h' [q] → Dat q N f' h' → SwS a b f0 f' → Srt f' a b → k (.tuple #[]) h') :
    ∀ (d i m0 : Nat) (h : St) (f : Nat → Int) (x7 : Value), b ≤ i + d → d < m0 → 2 * b < m0 + i → a ≤ i → i ≤ b + 1 → Chg h0 h [q] → Dat q N f h → SwS a b f0 f → Srt f a i →
      slices_insertionSortOrdered_l0 (tabC tabS1) idG nn m0 (vS q N) (.int .i64 a) (.int .i64 b) (.int .i64 i) x7 h k := by
  intro d
  induction d with
  | zero =>
    intro i m0 h f x7 hd hm hm2 hai hib c dd s srt
    obtain ⟨m0, rfl⟩ : ∃ m, m0 = m + 1 := ⟨m0 - 1, by omega⟩
    rw [slices_insertionSortOrdered_l0_eq]
    have e : ¬ (i : Int) < b := by omega
    simp only [binV_lss, bindV_some, condK_bool, e, decide_false, Bool.false_eq_true, if_false]
    exact H h f c dd s fun p q p1 p2 p3 => srt p q p1 p2 (by omega)
  | succ d ih =>
    intro i m0 h f x7 hd hm hm2 hai hib c dd s srt
    obtain ⟨m0, rfl⟩ : ∃ m, m0 = m + 1 := ⟨m0 - 1, by omega⟩
    rw [slices_insertionSortOrdered_l0_eq]
    by_cases e : i < b
    · have e' : (i : Int) < b := by omega
      simp only [binV_lss, bindV_some, condK_bool, e', decide_true, if_true, idG_eq]
      refine ins_l1 hN hb e (fun h' f' c' d' s' srt' x7' => ?_) i m0 h f (by omega) c dd s (ins_start srt hai)
      rw [slices_insertionSortOrdered_j2_eq]
      simp only [binNil_int, binV_add, bindV_some, i64_up (show i ≤ 1000000 by omega), idG_eq]
      exact ih (i + 1) m0 h' f' x7' (by omega) (by omega) (by omega) (by omega) (by omega) c' d' s' srt'
    · have e' : ¬ (i : Int) < b := by omega
      simp only [binV_lss, bindV_some, condK_bool, e', decide_false, Bool.false_eq_true, if_false]
      exact H h f c dd s fun p q p1 p2 p3 => srt p q p1 p2 (by omega)
def insO : Abs.Spec := fun args h k => ∃ (q N a b : Nat) (f : Nat → Int), args = [vS q N, .int .i64 a, .int .i64 b] ∧ N ≤ 255 ∧ a ≤ b ∧ b ≤ N ∧ Dat q N f h ∧
  ∀ h' f', Chg h h' [q] → Dat q N f' h' → SwS a b f f' → Srt f' a b → k (.tuple #[]) h'
theorem insO_good : SpecGood Try.prog (32, insO) := by
  refine spec_good mixed Try.func32 (by kernel_rfl) (by kernel_rfl) (tab := tabS1) tabS1_good (keep := slices_insertionSortOrdered_keep) ?_
  rintro args h k ⟨q, N, a, b, f, rfl, hN, hab, hb, d, H⟩
  refine ⟨2 * b + 2, ?_⟩
  show slices_insertionSortOrdered (tabC tabS1) idG _ (vS q N) (.int .i64 a) (.int .i64 b) h _
  rw [slices_insertionSortOrdered_eq]
  simp only [binNil_int, binV_add, bindV_some, i64_up (show a ≤ 1000000 by omega), idG_eq]
  exact ins_l0 (nn := 2 * b + 2) (x7 := undef) (by omega) hb (by omega) (fun h' f' c' d' s' t' => ⟨h', St.le.refl _, H h' f' c' d' s' t'⟩) b (a + 1) _ h f _ (by omega) (by omega) (by omega) (by omega) (by omega) (Chg.refl _ _) d (.refl _) (fun p q p1 p2 p3 => by omega)
/-! ### a range turned round -/
theorem rev_l0 {q N a b nn : Nat} {k : Cont} {h0 : St} {f0 : Nat → Int} (hN : N ≤ 1000000) (hb : b ≤ N)
    (H : ∀ h' f', Chg h0 h' [q] → Dat q N f' h' → SwS a b f0 f' → k (.tuple #[]) h') :
    ∀ (d i j m0 : Nat) (h : St) (f : Nat → Int), j ≤ i + d → d < m0 → a ≤ i → j < b → Chg h0 h [q] → Dat q N f h → SwS a b f0 f →
      slices_reverseRangeOrdered_l0 (tabC []) idG nn m0 (vS q N) (.int .i64 i) (.int .i64 j) h k := by
  intro d
  induction d with
  | zero =>
    intro i j m0 h f hd hm hai hjb c dd s
    obtain ⟨m0, rfl⟩ : ∃ m, m0 = m + 1 := ⟨m0 - 1, by omega⟩
    rw [slices_reverseRangeOrdered_l0_eq]
    have e : ¬ (i : Int) < j := by omega
    simp only [binV_lss, bindV_some, condK_bool, e, decide_false, Bool.false_eq_true, if_false]
    exact H h f c dd s
  | succ d ih =>
    intro i j m0 h f hd hm hai hjb c dd s
    obtain ⟨m0, rfl⟩ : ∃ m, m0 = m + 1 := ⟨m0 - 1, by omega⟩
    rw [slices_reverseRangeOrdered_l0_eq]
    by_cases e : i < j
    · have e' : (i : Int) < j := by omega
      have iN : i < N := by omega
      have jN : j < N := by omega
      simp only [binV_lss, bindV_some, condK_bool, e', decide_true, if_true, idG_eq, Dat.idx q iN, Dat.idx q jN, dd.load iN, dd.load jN, true_and]
      refine dd.store iN fun h1 c1 n1 d1 => ?_
      simp only [true_and, and_self, Dat.idx q jN, bindV_some]
      refine d1.store jN fun h2 c2 n2 d2 => ?_
      simp only [true_and, and_self, binNil_int, binV_add, binV_sub, bindV_some, i64_up (show i ≤ 1000000 by omega), i64_dn (show 0 < j by omega) (by omega), idG_eq]
      exact ih (i + 1) (j - 1) m0 h2 _ (by omega) (by omega) (by omega) (by omega) ((c.of_chg c1 (by simp)).of_chg c2 (by simp)) d2 (s.step i j (by omega) (by omega))
    · have e' : ¬ (i : Int) < j := by omega
      simp only [binV_lss, bindV_some, condK_bool, e', decide_false, Bool.false_eq_true, if_false]
      exact H h f c dd s
def revO : Abs.Spec := fun args h k => ∃ (q N a b : Nat) (f : Nat → Int), args = [vS q N, .int .i64 a, .int .i64 b] ∧ N ≤ 255 ∧ a < b ∧ b ≤ N ∧ Dat q N f h ∧
  ∀ h' f', Chg h h' [q] → Dat q N f' h' → SwS a b f f' → k (.tuple #[]) h'
theorem revO_good : SpecGood Try.prog (36, revO) := by
  refine spec_good mixed Try.func36 (by kernel_rfl) (by kernel_rfl) (tab := []) (by simp) (keep := slices_reverseRangeOrdered_keep) ?_
  rintro args h k ⟨q, N, a, b, f, rfl, hN, hab, hb, d, H⟩
  refine ⟨b + 2, ?_⟩
  show slices_reverseRangeOrdered (tabC []) idG _ (vS q N) (.int .i64 a) (.int .i64 b) h _
  rw [slices_reverseRangeOrdered_eq]
  simp only [binNil_int, binV_sub, bindV_some, i64_dn (show 0 < b by omega) (show b ≤ 1000000 by omega), idG_eq]
  exact rev_l0 (by omega) hb (fun h' f' c' d' s' => ⟨h', St.le.refl _, H h' f' c' d' s'⟩) b a (b - 1) _ h f (by omega) (by omega) (by omega) (by omega) (Chg.refl _ _) d (.refl _)
/-! ### the pivot's choice -/
def ord2O : Abs.Spec := fun args h k => ∃ (q N a b p : Nat) (f : Nat → Int) (s : Int), args = [vS q N, .int .i64 a, .int .i64 b, pS p 0] ∧ a < N ∧ b < N ∧ Dat q N f h ∧ p ≠ q ∧ p < h.next ∧ h.objs p = some (.cells [.int .i64 s] true) ∧
  ∀ h' (s' : Int) (c d : Nat), Chg h h' [p] → h'.objs p = some (.cells [.int .i64 s'] true) → (c = a ∧ d = b ∨ c = b ∧ d = a) → k (.tuple #[.int .i64 c, .int .i64 d]) h'
theorem ord2O_good : SpecGood Try.prog (49, ord2O) := by
  refine spec_good mixed Try.func49 (by kernel_rfl) (by kernel_rfl) (tab := tabS1) tabS1_good (keep := slices_order2Ordered_keep) ?_
  rintro args h k ⟨q, N, a, b, p, f, s, rfl, ha, hb, d, pq, pn, op, H⟩
  refine ⟨0, ?_⟩
  show slices_order2Ordered (tabC tabS1) idG _ (vS q N) (.int .i64 a) (.int .i64 b) (pS p 0) h _
  rw [slices_order2Ordered_eq]
  simp only [Dat.idx q ha, Dat.idx q hb, bindV_some, d.load ha, d.load hb, true_and]
  refine cLess ?_
  simp only [true_and, and_self, condK_bool]
  by_cases l : f b < f a
  · simp only [l, decide_true, if_true, pS, nilV_ptr, bindV_some, loadV_ptr, op, loadM_cells, partV_one, List.getElem?_cons_zero, binNil_int, binV_add]
    refine storeE_all op rfl rfl rfl fun h1 c1 n1 o1 => ?_
    exact ⟨h1, St.le.refl _, H h1 _ b a c1 o1 (.inr ⟨rfl, rfl⟩)⟩
  · simp only [l, decide_false, Bool.false_eq_true, if_false, idG_eq]
    exact ⟨h, St.le.refl _, H h s a b (Chg.refl _ _) op (.inl ⟨rfl, rfl⟩)⟩
def medO : Abs.Spec := fun args h k => ∃ (q N a b c p : Nat) (f : Nat → Int) (s : Int), args = [vS q N, .int .i64 a, .int .i64 b, .int .i64 c, pS p 0] ∧ a < N ∧ b < N ∧ c < N ∧ Dat q N f h ∧ p ≠ q ∧ p < h.next ∧ h.objs p = some (.cells [.int .i64 s] true) ∧
  ∀ h' (s' : Int) (m : Nat), Chg h h' [p] → h'.objs p = some (.cells [.int .i64 s'] true) → (m = a ∨ m = b ∨ m = c) → k (.int .i64 m) h'
theorem medO_good : SpecGood Try.prog (47, medO) := by
  refine spec_good mixed Try.func47 (by kernel_rfl) (by kernel_rfl) (tab := [(49, ord2O)]) (by simp [ord2O_good]) (keep := slices_medianOrdered_keep) ?_
  rintro args h k ⟨q, N, a, b, c, p, f, s, rfl, ha, hb, hc, d, pq, pn, op, H⟩
  refine ⟨0, ?_⟩
  show slices_medianOrdered (tabC _) idG _ (vS q N) (.int .i64 a) (.int .i64 b) (.int .i64 c) (pS p 0) h _
  rw [slices_medianOrdered_eq]
  refine .inl ⟨rfl, q, N, a, b, p, f, s, rfl, ha, hb, d, pq, pn, op, fun h1 s1 a1 b1 c1 o1 e1 => ?_⟩
  have d1 := d.chg c1 (by simpa using Ne.symm pq)
  have m1 := c1.1
  simp only [extV_two0, extV_two1, bindV_some]
  refine .inl ⟨rfl, q, N, b1, c, p, f, s1, rfl, by omega, hc, d1, pq, by omega, o1, fun h2 s2 b2 c2 ch2 o2 e2 => ?_⟩
  have d2 := d1.chg ch2 (by simpa using Ne.symm pq)
  have m2 := ch2.1
  simp only [extV_two0, extV_two1, bindV_some]
  refine .inl ⟨rfl, q, N, a1, b2, p, f, s2, rfl, by omega, by omega, d2, pq, by omega, o2, fun h3 s3 a3 b3 ch3 o3 e3 => ?_⟩
  simp only [extV_two0, extV_two1, bindV_some]
  exact ⟨h3, St.le.refl _, H h3 s3 b3 ((c1.of_chg ch2 (by simp)).of_chg ch3 (by simp)) o3 (by omega)⟩
def medAO : Abs.Spec := fun args h k => ∃ (q N a p : Nat) (f : Nat → Int) (s : Int), args = [vS q N, .int .i64 a, pS p 0] ∧ N ≤ 255 ∧ 0 < a ∧ a + 1 < N ∧ Dat q N f h ∧ p ≠ q ∧ p < h.next ∧ h.objs p = some (.cells [.int .i64 s] true) ∧
  ∀ h' (s' : Int) (m : Nat), Chg h h' [p] → h'.objs p = some (.cells [.int .i64 s'] true) → a - 1 ≤ m → m ≤ a + 1 → k (.int .i64 m) h'
theorem medAO_good : SpecGood Try.prog (46, medAO) := by
  refine spec_good mixed Try.func46 (by kernel_rfl) (by kernel_rfl) (tab := [(47, medO)]) (by simp [medO_good]) (keep := slices_medianAdjacentOrdered_keep) ?_
  rintro args h k ⟨q, N, a, p, f, s, rfl, hN, ha, hb, d, pq, pn, op, H⟩
  refine ⟨0, ?_⟩
  show slices_medianAdjacentOrdered (tabC _) idG _ (vS q N) (.int .i64 a) (pS p 0) h _
  rw [slices_medianAdjacentOrdered_eq]
  simp only [binNil_int, binV_sub, binV_add, bindV_some, i64_dn ha (show a ≤ 1000000 by omega), i64_up (show a ≤ 1000000 by omega)]
  refine .inl ⟨rfl, q, N, a - 1, a, a + 1, p, f, s, rfl, by omega, by omega, by omega, d, pq, pn, op, fun h1 s1 m c1 o1 e1 => ?_⟩
  exact ⟨h1, St.le.refl _, H h1 s1 m c1 o1 (by omega) (by omega)⟩
def tabV : List (FuncId × Abs.Spec) := [(47, medO), (46, medAO)]
theorem tabV_good : ∀ p ∈ tabV, SpecGood Try.prog p := by simp [tabV, medO_good, medAO_good]
def pivO : Abs.Spec := fun args h k => ∃ (q N a b : Nat) (f : Nat → Int), args = [vS q N, .int .i64 a, .int .i64 b] ∧ N ≤ 255 ∧ a + 12 < b ∧ b ≤ N ∧ Dat q N f h ∧
  ∀ h' (m : Nat) (hint : Int), Chg h h' [] → a ≤ m → m < b → k (.tuple #[.int .i64 m, .int .i64 hint]) h'
theorem pivO_good : SpecGood Try.prog (35, pivO) := by
  refine spec_good mixed Try.func35 (by kernel_rfl) (by kernel_rfl) (tab := tabV) tabV_good (keep := slices_choosePivotOrdered_keep) ?_
  rintro args h k ⟨q, N, a, b, f, rfl, hN, hab, hb, d, H⟩
  refine ⟨0, ?_⟩
  show slices_choosePivotOrdered (tabC tabV) idG _ (vS q N) (.int .i64 a) (.int .i64 b) h _
  rw [slices_choosePivotOrdered_eq]
  obtain ⟨l, hl⟩ : ∃ l, l = b - a := ⟨_, rfl⟩
  obtain ⟨l4, hl4⟩ : ∃ l4, l4 = l / 4 := ⟨_, rfl⟩
  have w0 : IntKind.i64.wrap ((b : Int) - (a : Int)) = (l : Int) := by rw [i64_in _ (by omega)]; omega
  have q4 : binV .quo .other (.int .i64 (l : Int)) (.int .i64 4) = some (.int .i64 (l4 : Int)) := by rw [hl4]; exact quo_nat (b := 4) (by omega) (by omega)
  have w1 : IntKind.i64.wrap ((l4 : Int) * 1) = (l4 : Int) := by rw [i64_in _ (by omega)]; omega
  have w2 : IntKind.i64.wrap ((l4 : Int) * 2) = ((l4 * 2 : Nat) : Int) := by rw [i64_in _ (by omega)]; omega
  have w3 : IntKind.i64.wrap ((l4 : Int) * 3) = ((l4 * 3 : Nat) : Int) := by rw [i64_in _ (by omega)]; omega
  have u1 : IntKind.i64.wrap ((a : Int) + (l4 : Int)) = ((a + l4 : Nat) : Int) := by rw [i64_in _ (by omega)]; omega
  have u2 : IntKind.i64.wrap ((a : Int) + ((l4 * 2 : Nat) : Int)) = ((a + l4 * 2 : Nat) : Int) := by rw [i64_in _ (by omega)]; omega
  have u3 : IntKind.i64.wrap ((a : Int) + ((l4 * 3 : Nat) : Int)) = ((a + l4 * 3 : Nat) : Int) := by rw [i64_in _ (by omega)]; omega
  have g8 : (l : Int) ≥ 8 := by omega
  simp only [binV_sub, w0, bindV_some]
  refine allocE_in fun h1 c1 n1 o1 => ?_
  have d1 := d.chg c1 (by simp)
  have pq : h.next ≠ q := by have := d.1; omega
  simp only [binNil_int, q4, bindV_some, binV_mul, w1, w2, w3, binV_add, u1, u2, u3, binV_geq, g8, decide_true, condK_bool, if_true]
  -- the end
  have fin : ∀ (h' : St) (s : Int) (m : Nat) (x10 x12 : Value), Chg h h' [] → h'.objs h.next = some (.cells [.int .i64 s] true) → a ≤ m → m < b → slices_choosePivotOrdered_j1 (tabC tabV) idG 0 (vS q N) (.int .i64 0) (.int .i64 0) (.pointer (some ⟨h.next, 0, none⟩)) x10 (.int .i64 (m : Int)) x12 h' fun v h1 => ∃ h2, St.le h2 h1 ∧ k v h2 := by
    intro h' s m x10 x12 c' o' m1 m2
    rw [slices_choosePivotOrdered_j1_eq]
    simp only [loadV_ptr, o', loadM_cells, partV_one, List.getElem?_cons_zero, bindV_some, binNil_int, binV_eql, condK_bool]
    split
    · exact ⟨h', St.le.refl _, H h' m 1 c' m1 m2⟩
    · simp only [binNil_int, binV_eql, bindV_some, condK_bool]
      split
      · exact ⟨h', St.le.refl _, H h' m 2 c' m1 m2⟩
      · exact ⟨h', St.le.refl _, H h' m 0 c' m1 m2⟩
  have med : ∀ (h' : St) (s : Int) (m1 m2 m3 : Nat), Chg h h' [] → h.next < h'.next → h'.objs h.next = some (.cells [.int .i64 s] true) → a ≤ m1 ∧ m1 < b → a ≤ m2 ∧ m2 < b → a ≤ m3 ∧ m3 < b → slices_choosePivotOrdered_j0 (tabC tabV) idG 0 (vS q N) (.int .i64 0) (.int .i64 0) (.pointer (some ⟨h.next, 0, none⟩)) (.int .i64 (m1 : Int)) (.int .i64 (m2 : Int)) (.int .i64 (m3 : Int)) h' fun v h1 => ∃ h2, St.le h2 h1 ∧ k v h2 := by
    intro h' s m1 m2 m3 c' l' o' b1 b2 b3
    rw [slices_choosePivotOrdered_j0_eq]
    refine cK (S := medO) (by simp [tabV]) ⟨q, N, m1, m2, m3, h.next, f, s, rfl, by omega, by omega, by omega, d.chg c' (by simp), pq, l', o', fun h2 s2 m c2 o2 e => ?_⟩
    simp only [idG_eq]
    exact fin h2 s2 m _ _ (c'.new c2 (Nat.le_refl _)) o2 (by omega) (by omega)
  by_cases g50 : (l : Int) ≥ 50
  · simp only [g50, decide_true, if_true]
    refine cK (S := medAO) (by simp [tabV]) ⟨q, N, a + l4, h.next, f, 0, rfl, hN, by omega, by omega, d1, pq, by omega, o1, fun h2 s2 m1 c2 o2 b1 b1' => ?_⟩
    have n2 := c2.1
    refine cK (S := medAO) (by simp [tabV]) ⟨q, N, a + l4 * 2, h.next, f, s2, rfl, hN, by omega, by omega, d1.chg c2 (by simpa using Ne.symm pq), pq, by omega, o2, fun h3 s3 m2 c3 o3 b2 b2' => ?_⟩
    have n3 := c3.1
    refine cK (S := medAO) (by simp [tabV]) ⟨q, N, a + l4 * 3, h.next, f, s3, rfl, hN, by omega, by omega, (d1.chg c2 (by simpa using Ne.symm pq)).chg c3 (by simpa using Ne.symm pq), pq, by omega, o3, fun h4 s4 m3 c4 o4 b3 b3' => ?_⟩
    have n4 := c4.1
    simp only [idG_eq]
    exact med h4 s4 m1 m2 m3 (((c1.new c2 (Nat.le_refl _)).new c3 (Nat.le_refl _)).new c4 (Nat.le_refl _)) (by omega) o4 (by omega) (by omega) (by omega)
  · simp only [g50, decide_false, Bool.false_eq_true, if_false, idG_eq]
    exact med h1 0 _ _ _ c1 (by omega) o1 (by omega) (by omega) (by omega)
end Go.Proofs.Ytdgonebknphkcaa

/- The library's sort: by a heap; parting at a pivot. -/
set_option linter.unusedSimpArgs false
set_option linter.unusedVariables false
set_option maxHeartbeats 4000000
namespace Go.Proofs.Ytdgonebknphkcaa
open Go.Abs Go.IntWalk
attribute [local congr] bindV_weak condK_weak guardK_weak groupK_weak allocE_weak boxE_weak storeE_weak storeM_weak tabC_weak ite_weak idG_weak appendE_weak buildSliceE_weak mapUpdateE_weak deleteE_weak makeMapE_weak copyE_weak clearE_weak callE_weak

theorem i64_sum {a b : Nat} (h : a + b ≤ 1000000) : IntKind.i64.wrap ((a : Int) + (b : Int)) = ((a + b : Nat) : Int) := by rw [i64_in _ (by omega)]; omega
theorem i64_dif {a b : Nat} (h : b ≤ a) (ha : a ≤ 1000000) : IntKind.i64.wrap ((a : Int) - (b : Int)) = ((a - b : Nat) : Int) := by rw [i64_in _ (by omega)]; omega
theorem i64_two {a : Nat} (h : a ≤ 400000) : IntKind.i64.wrap (2 * (a : Int)) = ((2 * a : Nat) : Int) := by rw [i64_in _ (by omega)]; omega
theorem sift_l0 {q N z hi lo nn : Nat} {k : Cont} {h0 : St} {f0 : Nat → Int} (hN : N ≤ 255) (hz : z + hi ≤ N)
    (H : ∀ h' f', Chg h0 h' [q] → Dat q N f' h' → SwS z (z + hi) f0 f' → HpF f' z hi lo → k (.tuple #[]) h') :
    ∀ (d r m0 : Nat) (h : St) (f : Nat → Int) (x9 : Value), hi ≤ r + d → d < m0 → r ≤ 255 → lo ≤ r → Chg h0 h [q] → Dat q N f h → SwS z (z + hi) f0 f → HlF f z hi lo r →
      slices_siftDownOrdered_l0 (tabC tabS1) idG nn m0 (vS q N) (.int .i64 hi) (.int .i64 z) (.int .i64 r) x9 h k := by
  intro d
  induction d with
  | zero =>
    intro r m0 h f x9 hd hm hr hlo c dd s hl
    obtain ⟨m0, rfl⟩ : ∃ m, m0 = m + 1 := ⟨m0 - 1, by omega⟩
    rw [slices_siftDownOrdered_l0_eq]
    have g : ((2 * r + 1 : Nat) : Int) ≥ (hi : Int) := by omega
    simp only [binNil_int, binV_mul, bindV_some, i64_two (show r ≤ 400000 by omega), binV_add, i64_up (show 2 * r ≤ 1000000 by omega), binV_geq, g, decide_true, condK_bool, if_true]
    exact H h f c dd s (hl_end hl fun k k0 k1 k2 => by unfold parN at k2; omega)
  | succ d ih =>
    intro r m0 h f x9 hd hm hr hlo c dd s hl
    obtain ⟨m0, rfl⟩ : ∃ m, m0 = m + 1 := ⟨m0 - 1, by omega⟩
    rw [slices_siftDownOrdered_l0_eq]
    simp only [binNil_int, binV_mul, bindV_some, i64_two (show r ≤ 400000 by omega), binV_add, i64_up (show 2 * r ≤ 1000000 by omega), binV_geq, condK_bool]
    by_cases g : hi ≤ 2 * r + 1
    · have g' : ((2 * r + 1 : Nat) : Int) ≥ (hi : Int) := by omega
      simp only [g', decide_true, if_true]
      exact H h f c dd s (hl_end hl fun k k0 k1 k2 => by unfold parN at k2; omega)
    · have g' : ¬ ((2 * r + 1 : Nat) : Int) ≥ (hi : Int) := by omega
      -- the greater child
      have nxt : ∀ ch x8, 0 < ch → ch < hi → parN ch = r → (∀ k, 0 < k → k < hi → parN k = r → f (z + k) ≤ f (z + ch)) → x8 = Value.int .i64 (r : Int) → slices_siftDownOrdered_j1 (tabC tabS1) idG nn m0 (vS q N) (.int .i64 hi) (.int .i64 z) x8 (.int .i64 (ch : Int)) h k := by
        rintro ch x8 c0 c1 c2 big rfl
        have rc : r < ch := by rw [← c2]; unfold parN; omega
        have rN : z + r < N := by omega
        have cN : z + ch < N := by omega
        rw [slices_siftDownOrdered_j1_eq]
        simp only [binV_add, i64_sum (show z + r ≤ 1000000 by omega), i64_sum (show z + ch ≤ 1000000 by omega), Dat.idx q rN, Dat.idx q cN, bindV_some, dd.load rN, dd.load cN, true_and]
        refine cLess ?_
        simp only [true_and, and_self, unV_not, bindV_some, condK_bool]
        by_cases l : f (z + r) < f (z + ch)
        · simp only [l, decide_true, Bool.not_true, Bool.false_eq_true, if_false, idG_eq, binV_add, i64_sum (show z + r ≤ 1000000 by omega), i64_sum (show z + ch ≤ 1000000 by omega), Dat.idx q rN, Dat.idx q cN, bindV_some, dd.load rN, dd.load cN, true_and]
          refine dd.store rN fun h1 c1' n1 d1 => ?_
          simp only [true_and, and_self, Dat.idx q cN, bindV_some]
          refine d1.store cN fun h2 c2' n2 d2 => ?_
          simp only [true_and, and_self, idG_eq]
          exact ih ch m0 h2 _ _ (by omega) (by omega) (by omega) (by omega) ((c.of_chg c1' (by simp)).of_chg c2' (by simp)) d2 (s.step (z + r) (z + ch) (by omega) (by omega)) (hl_step hl hlo c0 c1 c2 big l)
        · simp only [l, decide_false, Bool.not_false, if_true]
          exact H h f c dd s (hl_end hl fun k k0 k1 k2 => Int.le_trans (big k k0 k1 k2) (by omega))
      have kids : ∀ k, 0 < k → parN k = r → k = 2 * r + 1 ∨ k = 2 * r + 2 := fun k k0 k1 => by unfold parN at k1; omega
      have p1 : parN (2 * r + 1) = r := by unfold parN; omega
      have p2 : parN (2 * r + 2) = r := by unfold parN; omega
      simp only [g', decide_false, Bool.false_eq_true, if_false, idG_eq, binNil_int, binV_add, i64_up (show 2 * r + 1 ≤ 1000000 by omega), bindV_some, binV_lss, groupK_eq, guardK_bool]
      by_cases g2 : 2 * r + 2 < hi
      · have g2' : ((2 * r + 1 + 1 : Nat) : Int) < (hi : Int) := by omega
        have aN : z + (2 * r + 1) < N := by omega
        have bN : z + (2 * r + 1) + 1 < N := by omega
        simp only [g2', decide_true, if_true, binV_add, i64_sum (show z + (2 * r + 1) ≤ 1000000 by omega), bindV_some, Dat.idx q aN, dd.load aN, true_and, binNil_int, i64_up (show z + (2 * r + 1) ≤ 1000000 by omega), Dat.idx q bN, dd.load bN]
        refine cLess ?_
        simp only [true_and, and_self, idG_eq, g2', decide_true, pickV_bool, if_true, bindV_some, getT, condK_bool]
        by_cases l : f (z + (2 * r + 1)) < f (z + (2 * r + 1) + 1)
        · simp only [l, decide_true, if_true, binNil_int, binV_add, i64_up (show 2 * r + 1 ≤ 1000000 by omega), bindV_some, idG_eq]
          refine nxt (2 * r + 1 + 1) _ (by omega) (by omega) p2 (fun k k0 k1 k2 => ?_) rfl
          rcases kids k k0 k2 with rfl | rfl
          · have : z + (2 * r + 1) + 1 = z + (2 * r + 1 + 1) := by omega
            rw [this] at l; omega
          · exact Int.le_refl _
        · simp only [l, decide_false, Bool.false_eq_true, if_false, idG_eq]
          refine nxt (2 * r + 1) _ (by omega) (by omega) p1 (fun k k0 k1 k2 => ?_) rfl
          rcases kids k k0 k2 with rfl | rfl
          · exact Int.le_refl _
          · have : z + (2 * r + 1) + 1 = z + (2 * r + 2) := by omega
            rw [this] at l; omega
      · have g2' : ¬ ((2 * r + 1 + 1 : Nat) : Int) < (hi : Int) := by omega
        simp only [g2', decide_false, Bool.false_eq_true, if_false, pickV_bool, bindV_some, condK_bool, idG_eq]
        refine nxt (2 * r + 1) _ (by omega) (by omega) p1 (fun k k0 k1 k2 => ?_) rfl
        rcases kids k k0 k2 with rfl | rfl
        · exact Int.le_refl _
        · omega
def siftO : Abs.Spec := fun args h k => ∃ (q N lo hi z : Nat) (f : Nat → Int), args = [vS q N, .int .i64 lo, .int .i64 hi, .int .i64 z] ∧ N ≤ 255 ∧ lo ≤ 255 ∧ z + hi ≤ N ∧ Dat q N f h ∧ HpF f z hi (lo + 1) ∧
  ∀ h' f', Chg h h' [q] → Dat q N f' h' → SwS z (z + hi) f f' → HpF f' z hi lo → k (.tuple #[]) h'
theorem siftO_good : SpecGood Try.prog (43, siftO) := by
  refine spec_good mixed Try.func43 (by kernel_rfl) (by kernel_rfl) (tab := tabS1) tabS1_good (keep := slices_siftDownOrdered_keep) ?_
  rintro args h k ⟨q, N, lo, hi, z, f, rfl, hN, hlo, hz, d, hp, H⟩
  refine ⟨hi + 1, ?_⟩
  show slices_siftDownOrdered (tabC tabS1) idG _ (vS q N) (.int .i64 lo) (.int .i64 hi) (.int .i64 z) h _
  rw [slices_siftDownOrdered_eq]
  simp only [idG_eq]
  exact sift_l0 hN hz (fun h' f' c' d' s' t' => ⟨h', St.le.refl _, H h' f' c' d' s' t'⟩) hi lo _ h f _ (by omega) (by omega) hlo (Nat.le_refl _) (Chg.refl _ _) d (.refl _) (hl_start hp)
def tabHp : List (FuncId × Abs.Spec) := [(43, siftO)]
theorem tabHp_good : ∀ p ∈ tabHp, SpecGood Try.prog p := by simp [tabHp, siftO_good]
theorem heap_l2 {q N a b nn : Nat} {x9 : Value} {k : Cont} {h0 : St} {f0 : Nat → Int} (hN : N ≤ 255) (hab : a < b) (hb : b ≤ N)
    (H : ∀ h' f', Chg h0 h' [q] → Dat q N f' h' → SwS a b f0 f' → Srt f' a b → k (.tuple #[]) h') :
    ∀ (i m0 : Nat) (h : St) (f : Nat → Int), i < m0 → a + i ≤ b → Chg h0 h [q] → Dat q N f h → SwS a b f0 f → HpF f a i 0 → Ord f a b a (a + i) →
      slices_heapSortOrdered_l2 (tabC tabHp) idG nn m0 (vS q N) (.int .i64 a) (.int .i64 0) (.int .i64 ((b - a : Nat) : Int)) x9 (.int .i64 ((i : Int) - 1)) h k := by
  intro i
  induction i with
  | zero =>
    intro m0 h f hm hib c d s hp od
    obtain ⟨m0, rfl⟩ : ∃ m, m0 = m + 1 := ⟨m0 - 1, by omega⟩
    rw [slices_heapSortOrdered_l2_eq]
    have g : ¬ (((0 : Nat) : Int) - 1) ≥ 0 := by omega
    simp only [binNil_int, binV_geq, bindV_some, condK_bool, g, decide_false, Bool.false_eq_true, if_false]
    exact H h f c d s (od.done fun p q' p1 p2 p3 => by omega)
  | succ i ih =>
    intro m0 h f hm hib c d s hp od
    obtain ⟨m0, rfl⟩ : ∃ m, m0 = m + 1 := ⟨m0 - 1, by omega⟩
    rw [slices_heapSortOrdered_l2_eq]
    have e1 : (((i + 1 : Nat) : Int) - 1) = (i : Int) := by omega
    have g : (i : Int) ≥ 0 := by omega
    have aN : a < N := by omega
    have iN : a + i < N := by omega
    rw [e1]
    simp only [binNil_int, binV_geq, bindV_some, condK_bool, g, decide_true, if_true, idG_eq, binV_add, i64_sum (show a + i ≤ 1000000 by omega), Dat.idx q aN, Dat.idx q iN, d.load aN, d.load iN, true_and]
    refine d.store aN fun h1 c1 n1 d1 => ?_
    simp only [true_and, and_self, Dat.idx q iN, bindV_some]
    refine d1.store iN fun h2 c2 n2 d2 => ?_
    simp only [true_and, and_self]
    have sw : SwS a (a + (i + 1)) f (Sw f a (a + i)) := SwS.one f (by omega) (by omega)
    have od2 : Ord (Sw f a (a + i)) a b a (a + i) := (od.perm sw).back (by omega) fun p q' p1 p2 p3 p4 => by
      have : q' = a + i := by omega
      subst this
      rw [sw_r]
      exact sw.all (P := fun x => x ≤ f a) (fun k k1 k2 => by
        have := hp_max hp (k - a) (by omega)
        rwa [show a + (k - a) = k by omega] at this) p p1 (by omega)
    have i0 : (0 : Int) = ((0 : Nat) : Int) := rfl
    refine .inl ⟨rfl, q, N, 0, i, a, Sw f a (a + i), rfl, hN, by omega, by omega, d2, hp_pop hp, fun h3 f3 c3 d3 s3 hp3 => ?_⟩
    simp only [idG_eq, binNil_int, binV_sub, bindV_some]
    have w : IntKind.i64.wrap ((i : Int) - 1) = (i : Int) - 1 := i64_in _ (by omega)
    rw [w]
    exact ih m0 h3 f3 (by omega) (by omega) (((c.of_chg c1 (by simp)).of_chg c2 (by simp)).of_chg c3 (by simp)) d3 ((s.trans (sw.mono (by omega) (by omega))).trans (s3.mono (by omega) (by omega))) hp3 (od2.perm s3)
theorem heap_l0' {q N a b nn : Nat} {x10 : Value} {k : Cont} {h0 : St} {f0 : Nat → Int} (hN : N ≤ 255) (hab : a < b) (hb : b ≤ N) (hnn : b < nn)
    (H : ∀ h' f', Chg h0 h' [q] → Dat q N f' h' → SwS a b f0 f' → Srt f' a b → k (.tuple #[]) h') :
    ∀ (i m0 : Nat) (h : St) (f : Nat → Int), i < m0 → i ≤ 255 → Chg h0 h [q] → Dat q N f h → SwS a b f0 f → HpF f a (b - a) i →
      slices_heapSortOrdered_l0 (tabC tabHp) idG nn m0 (vS q N) (.int .i64 a) (.int .i64 0) (.int .i64 ((b - a : Nat) : Int)) (.int .i64 ((i : Int) - 1)) x10 h k := by
  intro i
  induction i with
  | zero =>
    intro m0 h f hm hi c d s hp
    obtain ⟨m0, rfl⟩ : ∃ m, m0 = m + 1 := ⟨m0 - 1, by omega⟩
    rw [slices_heapSortOrdered_l0_eq]
    have g : ¬ (((0 : Nat) : Int) - 1) ≥ 0 := by omega
    simp only [binNil_int, binV_geq, bindV_some, condK_bool, g, decide_false, Bool.false_eq_true, if_false, idG_eq]
    rw [slices_heapSortOrdered_j1_eq]
    have w : IntKind.i64.wrap (((b - a : Nat) : Int) - 1) = ((b - a : Nat) : Int) - 1 := i64_in _ (by omega)
    simp only [binNil_int, binV_sub, bindV_some, w, idG_eq]
    refine heap_l2 hN hab hb H (b - a) nn h f (by omega) (by omega) c d s hp ?_
    rw [show a + (b - a) = b by omega]
    exact ord_start f (by omega)
  | succ i ih =>
    intro m0 h f hm hi c d s hp
    obtain ⟨m0, rfl⟩ : ∃ m, m0 = m + 1 := ⟨m0 - 1, by omega⟩
    rw [slices_heapSortOrdered_l0_eq]
    have e1 : (((i + 1 : Nat) : Int) - 1) = (i : Int) := by omega
    have g : (i : Int) ≥ 0 := by omega
    rw [e1]
    simp only [binNil_int, binV_geq, bindV_some, condK_bool, g, decide_true, if_true, idG_eq]
    refine .inl ⟨rfl, q, N, i, b - a, a, f, rfl, hN, by omega, by omega, d, hp, fun h3 f3 c3 d3 s3 hp3 => ?_⟩
    have w : IntKind.i64.wrap ((i : Int) - 1) = (i : Int) - 1 := i64_in _ (by omega)
    simp only [idG_eq, binNil_int, binV_sub, bindV_some, w]
    exact ih m0 h3 f3 (by omega) (by omega) (c.of_chg c3 (by simp)) d3 (s.trans (s3.mono (by omega) (by omega))) hp3
def heapO : Abs.Spec := fun args h k => ∃ (q N a b : Nat) (f : Nat → Int), args = [vS q N, .int .i64 a, .int .i64 b] ∧ N ≤ 255 ∧ a < b ∧ b ≤ N ∧ Dat q N f h ∧
  ∀ h' f', Chg h h' [q] → Dat q N f' h' → SwS a b f f' → Srt f' a b → k (.tuple #[]) h'
theorem heapO_good : SpecGood Try.prog (33, heapO) := by
  refine spec_good mixed Try.func33 (by kernel_rfl) (by kernel_rfl) (tab := tabHp) tabHp_good (keep := slices_heapSortOrdered_keep) ?_
  rintro args h k ⟨q, N, a, b, f, rfl, hN, hab, hb, d, H⟩
  refine ⟨b + 300, ?_⟩
  show slices_heapSortOrdered (tabC tabHp) idG _ (vS q N) (.int .i64 a) (.int .i64 b) h _
  rw [slices_heapSortOrdered_eq]
  obtain ⟨l, hl⟩ : ∃ l, l = (b - a - 1) / 2 := ⟨_, rfl⟩
  have q2 : binV .quo .other (.int .i64 ((b - a - 1 : Nat) : Int)) (.int .i64 2) = some (.int .i64 (((l + 1 : Nat) : Int) - 1)) := by
    rw [show (((l + 1 : Nat) : Int) - 1) = ((l : Nat) : Int) by omega, hl]
    exact quo_nat (b := 2) (by omega) (by omega)
  simp only [binV_sub, i64_dif (show a ≤ b by omega) (show b ≤ 1000000 by omega), bindV_some, binNil_int, i64_dn (show 0 < b - a by omega) (show b - a ≤ 1000000 by omega), q2, idG_eq]
  exact heap_l0' (nn := b + 300) hN hab hb (by omega) (fun h' f' c' d' s' t' => ⟨h', St.le.refl _, H h' f' c' d' s' t'⟩) (l + 1) _ h f (by omega) (by omega) (Chg.refl _ _) d (.refl _) (hp_none _ _ _ _ (by omega))
end Go.Proofs.Ytdgonebknphkcaa

/- The library's sort: parting at a pivot. -/
set_option linter.unusedSimpArgs false
set_option linter.unusedVariables false
set_option maxHeartbeats 4000000
namespace Go.Proofs.Ytdgonebknphkcaa
open Go.Abs Go.IntWalk
attribute [local congr] bindV_weak condK_weak guardK_weak groupK_weak allocE_weak boxE_weak storeE_weak storeM_weak tabC_weak ite_weak idG_weak appendE_weak buildSliceE_weak mapUpdateE_weak deleteE_weak makeMapE_weak copyE_weak clearE_weak callE_weak

/-- Parted so far: less than the first up to i, no less behind j. -/
def PInv (f : Nat → Int) (a b i j : Nat) : Prop := a < i ∧ i ≤ j + 1 ∧ j < b ∧ (∀ k, a < k → k < i → f k < f a) ∧ ∀ k, j < k → k < b → f a ≤ f k
theorem PInv.up {f : Nat → Int} {a b i j : Nat} (h : PInv f a b i j) (hij : i ≤ j) (l : f i < f a) : PInv f a b (i + 1) j := by
  obtain ⟨h1, h2, h3, h4, h5⟩ := h
  refine ⟨by omega, by omega, h3, fun k k1 k2 => ?_, h5⟩
  by_cases e : k = i
  · subst e; exact l
  · exact h4 k k1 (by omega)
theorem PInv.dn {f : Nat → Int} {a b i j : Nat} (h : PInv f a b i j) (hij : i ≤ j) (l : ¬ f j < f a) : PInv f a b i (j - 1) := by
  obtain ⟨h1, h2, h3, h4, h5⟩ := h
  refine ⟨h1, by omega, by omega, h4, fun k k1 k2 => ?_⟩
  by_cases e : k = j
  · subst e; omega
  · exact h5 k (by omega) k2
theorem PInv.sw {f : Nat → Int} {a b i j : Nat} (h : PInv f a b i j) (hij : i ≤ j) (l1 : ¬ f i < f a) (l2 : f j < f a) : PInv (Sw f i j) a b (i + 1) (j - 1) := by
  obtain ⟨h1, h2, h3, h4, h5⟩ := h
  have ne : i ≠ j := fun e => by subst e; exact l1 l2
  have fa : Sw f i j a = f a := sw_o f (by omega) (by omega)
  refine ⟨by omega, by omega, by omega, fun k k1 k2 => ?_, fun k k1 k2 => ?_⟩
  · rw [fa]
    by_cases e : k = i
    · subst e; rw [sw_l]; exact l2
    · rw [sw_o f e (by omega)]; exact h4 k k1 (by omega)
  · rw [fa]
    by_cases e : k = j
    · subst e; rw [sw_r]; omega
    · rw [sw_o f (by omega) e]; exact h5 k (by omega) k2
/-- Parted at m. -/
def Parted (f : Nat → Int) (a b m : Nat) : Prop := a ≤ m ∧ m < b ∧ (∀ k, a ≤ k → k < m → f k ≤ f m) ∧ ∀ k, m < k → k < b → f m ≤ f k
theorem PInv.done {f : Nat → Int} {a b i j : Nat} (h : PInv f a b i j) (hij : j < i) : Parted (Sw f j a) a b j := by
  obtain ⟨h1, h2, h3, h4, h5⟩ := h
  refine ⟨by omega, h3, fun k k1 k2 => ?_, fun k k1 k2 => ?_⟩
  · rw [sw_l]
    by_cases e : k = a
    · subst e; rw [sw_r]; have := h4 j k2 (by omega); omega
    · rw [sw_o f (by omega) e]; have := h4 k (by omega) (by omega); omega
  · rw [sw_l, sw_o f (by omega) (by omega)]
    exact h5 k k1 k2
theorem i64_int {a : Nat} (h : a ≤ 1000000) : IntKind.i64.wrap (a : Int) = (a : Int) := i64_in _ (by omega)
section
variable {q N a b nn : Nat} {k : Cont} {h0 : St} {f0 : Nat → Int}
/-- The second loops: to the left. -/
theorem par_l7 {m0 : Nat} {x8 x9 : Value} {h : St} {f : Nat → Int} (hN : N ≤ 255) (hb : b ≤ N) (ha : a < N) (d : Dat q N f h) {i : Nat}
    (H : ∀ j, PInv f a b i j → (i ≤ j → f j < f a) → slices_partitionOrdered_j8 (tabC tabS1) idG nn m0 (vS q N) (.int .i64 a) x8 x9 (.int .i64 i) (.int .i64 j) h k) :
    ∀ (dd j m1 : Nat), j < i + dd → dd < m1 → PInv f a b i j → slices_partitionOrdered_l7 (tabC tabS1) idG nn m0 m1 (vS q N) (.int .i64 a) x8 x9 (.int .i64 i) (.int .i64 j) h k := by
  intro dd
  induction dd with
  | zero =>
    intro j m1 hd hm p
    obtain ⟨m1, rfl⟩ : ∃ m, m1 = m + 1 := ⟨m1 - 1, by omega⟩
    rw [slices_partitionOrdered_l7_eq]
    have e : ¬ (i : Int) ≤ j := by omega
    simp only [binV_leq, bindV_some, groupK_eq, guardK_bool, e, decide_false, Bool.false_eq_true, if_false, idG_eq, pickV_bool, condK_bool]
    exact H j p (fun h => by omega)
  | succ dd ih =>
    intro j m1 hd hm p
    obtain ⟨m1, rfl⟩ : ∃ m, m1 = m + 1 := ⟨m1 - 1, by omega⟩
    rw [slices_partitionOrdered_l7_eq]
    by_cases e : i ≤ j
    · have e' : (i : Int) ≤ j := by omega
      have jN : j < N := by have := p.2.2.1; omega
      simp only [binV_leq, bindV_some, groupK_eq, guardK_bool, e', decide_true, if_true, Dat.idx q jN, d.load jN, Dat.idx q ha, d.load ha, true_and]
      refine cLess ?_
      simp only [true_and, and_self, unV_not, bindV_some, idG_eq, e', decide_true, pickV_bool, if_true, getT, condK_bool]
      by_cases l : f j < f a
      · simp only [l, decide_true, Bool.not_true, Bool.false_eq_true, if_false]
        exact H j p (fun _ => l)
      · simp only [l, decide_false, Bool.not_false, if_true, binNil_int, binV_sub, bindV_some, i64_dn (show 0 < j by have := p.1; omega) (show j ≤ 1000000 by omega), idG_eq]
        exact ih (j - 1) m1 (by have := p.1; omega) (by omega) (p.dn e l)
    · have e' : ¬ (i : Int) ≤ j := by omega
      simp only [binV_leq, bindV_some, groupK_eq, guardK_bool, e', decide_false, Bool.false_eq_true, if_false, idG_eq, pickV_bool, condK_bool]
      exact H j p (fun h => by omega)
theorem par_l5 {m0 : Nat} {x8 x9 : Value} {h : St} {f : Nat → Int} (hN : N ≤ 255) (hb : b ≤ N) (ha : a < N) (d : Dat q N f h) {j : Nat}
    (H : ∀ i, PInv f a b i j → (i ≤ j → ¬ f i < f a) → slices_partitionOrdered_j6 (tabC tabS1) idG nn m0 (vS q N) (.int .i64 a) x8 x9 (.int .i64 i) (.int .i64 j) h k) :
    ∀ (dd i m1 : Nat), j < i + dd → dd < m1 → PInv f a b i j → slices_partitionOrdered_l5 (tabC tabS1) idG nn m0 m1 (vS q N) (.int .i64 a) x8 x9 (.int .i64 i) (.int .i64 j) h k := by
  intro dd
  induction dd with
  | zero =>
    intro i m1 hd hm p
    obtain ⟨m1, rfl⟩ : ∃ m, m1 = m + 1 := ⟨m1 - 1, by omega⟩
    rw [slices_partitionOrdered_l5_eq]
    have e : ¬ (i : Int) ≤ j := by omega
    simp only [binV_leq, bindV_some, groupK_eq, guardK_bool, e, decide_false, Bool.false_eq_true, if_false, idG_eq, pickV_bool, condK_bool]
    exact H i p (fun h => by omega)
  | succ dd ih =>
    intro i m1 hd hm p
    obtain ⟨m1, rfl⟩ : ∃ m, m1 = m + 1 := ⟨m1 - 1, by omega⟩
    rw [slices_partitionOrdered_l5_eq]
    by_cases e : i ≤ j
    · have e' : (i : Int) ≤ j := by omega
      have iN : i < N := by have := p.2.2.1; omega
      simp only [binV_leq, bindV_some, groupK_eq, guardK_bool, e', decide_true, if_true, Dat.idx q iN, d.load iN, Dat.idx q ha, d.load ha, true_and]
      refine cLess ?_
      simp only [true_and, and_self, bindV_some, idG_eq, e', decide_true, pickV_bool, if_true, getT, condK_bool]
      by_cases l : f i < f a
      · simp only [l, decide_true, if_true, binNil_int, binV_add, bindV_some, i64_up (show i ≤ 1000000 by omega), idG_eq]
        exact ih (i + 1) m1 (by omega) (by omega) (p.up e l)
      · simp only [l, decide_false, Bool.false_eq_true, if_false]
        exact H i p (fun _ => l)
    · have e' : ¬ (i : Int) ≤ j := by omega
      simp only [binV_leq, bindV_some, groupK_eq, guardK_bool, e', decide_false, Bool.false_eq_true, if_false, idG_eq, pickV_bool, condK_bool]
      exact H i p (fun h => by omega)
theorem par_l4 {x8 x9 : Value} (hN : N ≤ 255) (hab : a < b) (hb : b ≤ N)
    (H : ∀ h' f' m bb, Chg h0 h' [q] → Dat q N f' h' → SwS a b f0 f' → Parted f' a b m → k (.tuple #[.int .i64 (m : Nat), .bool bb]) h') :
    ∀ (dd i j m0 : Nat) (h : St) (f : Nat → Int), j < i + dd → 2 * b < m0 + i → dd < m0 → Chg h0 h [q] → Dat q N f h → SwS a b f0 f → PInv f a b i j →
      slices_partitionOrdered_l4 (tabC tabS1) idG nn m0 (vS q N) (.int .i64 a) x8 x9 (.int .i64 i) (.int .i64 j) h k := by
  intro dd
  induction dd using Nat.strongRecOn with
  | ind dd ih =>
    intro i j m0 h f hd hm2 hm c d s p
    obtain ⟨m0, rfl⟩ : ∃ m, m0 = m + 1 := ⟨m0 - 1, by omega⟩
    rw [slices_partitionOrdered_l4_eq]
    have ha : a < N := by omega
    have pj := p.2.2.1
    have pi := p.2.1
    simp only [idG_eq]
    refine par_l5 hN hb ha d (fun i' p' le' => ?_) (j + 1 - i) i m0 (by have := p.1; omega) (by have := p.1; omega) p
    rw [slices_partitionOrdered_j6_eq]
    simp only [idG_eq]
    refine par_l7 hN hb ha d (fun j' p2 le2 => ?_) (j + 1 - i') j m0 (by have := p'.2.1; omega) (by have := p'.1; omega) p'
    rw [slices_partitionOrdered_j8_eq]
    simp only [binV_gtr, bindV_some, condK_bool]
    have p2j := p2.2.2.1
    have jN : j' < N := by omega
    by_cases e : i' > j'
    · have e' : (i' : Int) > j' := by omega
      simp only [e', decide_true, if_true, idG_eq]
      rw [slices_partitionOrdered_j9_eq]
      simp only [Dat.idx q ha, Dat.idx q jN, bindV_some, d.load ha, d.load jN, true_and]
      refine d.store jN fun h1 c1 n1 d1 => ?_
      simp only [true_and, and_self, Dat.idx q ha, bindV_some]
      refine d1.store ha fun h2 c2 n2 d2 => ?_
      simp only [true_and, and_self]
      exact H h2 _ j' _ ((c.of_chg c1 (by simp)).of_chg c2 (by simp)) d2 (s.step j' a (by have := p2.1; have := p2.2.1; omega) (by omega)) (p2.done e)
    · have e' : ¬ (i' : Int) > j' := by omega
      have iN : i' < N := by omega
      have l2 := le2 (by omega)
      have jj : j' ≤ j := by
        rcases Nat.lt_or_ge j j' with h | h
        · have := p2.2.2.2.2
          -- j' is no greater than j: it came down from it
          have hh := p'.2.2.2.2 j' h p2j
          omega
        · exact h
      have l1 := le' (by omega)
      have ii : i ≤ i' := by
        rcases Nat.lt_or_ge i' i with h | h
        · have := p.2.2.2.1 i' (by have := p'.1; omega) h
          omega
        · exact h
      simp only [e', decide_false, Bool.false_eq_true, if_false, idG_eq, Dat.idx q iN, Dat.idx q jN, bindV_some, d.load iN, d.load jN, true_and]
      refine d.store iN fun h1 c1 n1 d1 => ?_
      simp only [true_and, and_self, Dat.idx q jN, bindV_some]
      refine d1.store jN fun h2 c2 n2 d2 => ?_
      have j0 : 0 < j' := by have := p2.1; omega
      simp only [true_and, and_self, binNil_int, binV_add, binV_sub, bindV_some, i64_up (show i' ≤ 1000000 by omega), i64_dn j0 (show j' ≤ 1000000 by omega), idG_eq]
      exact ih (j' - 1 + 1 - (i' + 1) + 0) (by omega) (i' + 1) (j' - 1) m0 h2 _ (by omega) (by omega) (by omega) ((c.of_chg c1 (by simp)).of_chg c2 (by simp)) d2 (s.step i' j' (by have := p2.1; omega) (by have := p2.1; omega)) (p2.sw (by omega) l1 l2)
theorem par_l2 {x8 x9 : Value} {h : St} {f : Nat → Int} (hN : N ≤ 255) (hb : b ≤ N) (ha : a < N) (d : Dat q N f h) {i : Nat}
    (H : ∀ j, PInv f a b i j → (i ≤ j → f j < f a) → slices_partitionOrdered_j3 (tabC tabS1) idG nn (vS q N) (.int .i64 a) x8 x9 (.int .i64 i) (.int .i64 j) h k) :
    ∀ (dd j m1 : Nat), j < i + dd → dd < m1 → PInv f a b i j → slices_partitionOrdered_l2 (tabC tabS1) idG nn m1 (vS q N) (.int .i64 a) x8 x9 (.int .i64 i) (.int .i64 j) h k := by
  intro dd
  induction dd with
  | zero =>
    intro j m1 hd hm p
    obtain ⟨m1, rfl⟩ : ∃ m, m1 = m + 1 := ⟨m1 - 1, by omega⟩
    rw [slices_partitionOrdered_l2_eq]
    have e : ¬ (i : Int) ≤ j := by omega
    simp only [binV_leq, bindV_some, groupK_eq, guardK_bool, e, decide_false, Bool.false_eq_true, if_false, idG_eq, pickV_bool, condK_bool]
    exact H j p (fun h => by omega)
  | succ dd ih =>
    intro j m1 hd hm p
    obtain ⟨m1, rfl⟩ : ∃ m, m1 = m + 1 := ⟨m1 - 1, by omega⟩
    rw [slices_partitionOrdered_l2_eq]
    by_cases e : i ≤ j
    · have e' : (i : Int) ≤ j := by omega
      have jN : j < N := by have := p.2.2.1; omega
      simp only [binV_leq, bindV_some, groupK_eq, guardK_bool, e', decide_true, if_true, Dat.idx q jN, d.load jN, Dat.idx q ha, d.load ha, true_and]
      refine cLess ?_
      simp only [true_and, and_self, unV_not, bindV_some, idG_eq, e', decide_true, pickV_bool, if_true, getT, condK_bool]
      by_cases l : f j < f a
      · simp only [l, decide_true, Bool.not_true, Bool.false_eq_true, if_false]
        exact H j p (fun _ => l)
      · simp only [l, decide_false, Bool.not_false, if_true, binNil_int, binV_sub, bindV_some, i64_dn (show 0 < j by have := p.1; omega) (show j ≤ 1000000 by omega), idG_eq]
        exact ih (j - 1) m1 (by have := p.1; omega) (by omega) (p.dn e l)
    · have e' : ¬ (i : Int) ≤ j := by omega
      simp only [binV_leq, bindV_some, groupK_eq, guardK_bool, e', decide_false, Bool.false_eq_true, if_false, idG_eq, pickV_bool, condK_bool]
      exact H j p (fun h => by omega)
theorem par_l0 {x8 x9 : Value} {h : St} {f : Nat → Int} (hN : N ≤ 255) (hb : b ≤ N) (ha : a < N) (d : Dat q N f h) {j : Nat}
    (H : ∀ i, PInv f a b i j → (i ≤ j → ¬ f i < f a) → slices_partitionOrdered_j1 (tabC tabS1) idG nn (vS q N) (.int .i64 a) x8 x9 (.int .i64 i) (.int .i64 j) h k) :
    ∀ (dd i m1 : Nat), j < i + dd → dd < m1 → PInv f a b i j → slices_partitionOrdered_l0 (tabC tabS1) idG nn m1 (vS q N) (.int .i64 a) x8 x9 (.int .i64 i) (.int .i64 j) h k := by
  intro dd
  induction dd with
  | zero =>
    intro i m1 hd hm p
    obtain ⟨m1, rfl⟩ : ∃ m, m1 = m + 1 := ⟨m1 - 1, by omega⟩
    rw [slices_partitionOrdered_l0_eq]
    have e : ¬ (i : Int) ≤ j := by omega
    simp only [binV_leq, bindV_some, groupK_eq, guardK_bool, e, decide_false, Bool.false_eq_true, if_false, idG_eq, pickV_bool, condK_bool]
    exact H i p (fun h => by omega)
  | succ dd ih =>
    intro i m1 hd hm p
    obtain ⟨m1, rfl⟩ : ∃ m, m1 = m + 1 := ⟨m1 - 1, by omega⟩
    rw [slices_partitionOrdered_l0_eq]
    by_cases e : i ≤ j
    · have e' : (i : Int) ≤ j := by omega
      have iN : i < N := by have := p.2.2.1; omega
      simp only [binV_leq, bindV_some, groupK_eq, guardK_bool, e', decide_true, if_true, Dat.idx q iN, d.load iN, Dat.idx q ha, d.load ha, true_and]
      refine cLess ?_
      simp only [true_and, and_self, bindV_some, idG_eq, e', decide_true, pickV_bool, if_true, getT, condK_bool]
      by_cases l : f i < f a
      · simp only [l, decide_true, if_true, binNil_int, binV_add, bindV_some, i64_up (show i ≤ 1000000 by omega), idG_eq]
        exact ih (i + 1) m1 (by omega) (by omega) (p.up e l)
      · simp only [l, decide_false, Bool.false_eq_true, if_false]
        exact H i p (fun _ => l)
    · have e' : ¬ (i : Int) ≤ j := by omega
      simp only [binV_leq, bindV_some, groupK_eq, guardK_bool, e', decide_false, Bool.false_eq_true, if_false, idG_eq, pickV_bool, condK_bool]
      exact H i p (fun h => by omega)
end
def parO : Abs.Spec := fun args h k => ∃ (q N a b p : Nat) (f : Nat → Int), args = [vS q N, .int .i64 a, .int .i64 b, .int .i64 p] ∧ N ≤ 255 ∧ a + 1 < b ∧ b ≤ N ∧ a ≤ p ∧ p < b ∧ Dat q N f h ∧
  ∀ h' f' m bb, Chg h h' [q] → Dat q N f' h' → SwS a b f f' → Parted f' a b m → k (.tuple #[.int .i64 (m : Nat), .bool bb]) h'
theorem parO_good : SpecGood Try.prog (40, parO) := by
  refine spec_good mixed Try.func40 (by kernel_rfl) (by kernel_rfl) (tab := tabS1) tabS1_good (keep := slices_partitionOrdered_keep) ?_
  rintro args h k ⟨q, N, a, b, p, f, rfl, hN, hab, hb, hp1, hp2, d, H⟩
  refine ⟨2 * b + 2, ?_⟩
  show slices_partitionOrdered (tabC tabS1) idG _ (vS q N) (.int .i64 a) (.int .i64 b) (.int .i64 p) h _
  rw [slices_partitionOrdered_eq]
  have ha : a < N := by omega
  have pN : p < N := by omega
  simp only [Dat.idx q ha, Dat.idx q pN, bindV_some, d.load ha, d.load pN, true_and]
  refine d.store ha fun h1 c1 n1 d1 => ?_
  simp only [true_and, and_self, Dat.idx q pN, bindV_some]
  refine d1.store pN fun h2 c2 n2 d2 => ?_
  simp only [true_and, and_self, binNil_int, binV_add, binV_sub, bindV_some, i64_up (show a ≤ 1000000 by omega), i64_dn (show 0 < b by omega) (show b ≤ 1000000 by omega), idG_eq]
  have d3 : Dat q N (Sw f a p) h2 := d2
  have s3 : SwS a b f (Sw f a p) := SwS.one f (by omega) (by omega)
  have c3 : Chg h h2 [q] := c1.of_chg c2 (by simp)
  refine par_l0 hN hb ha d3 (fun i pi le1 => ?_) (b + 1) (a + 1) _ (by omega) (by omega) ⟨by omega, by omega, by omega, fun k k1 k2 => by omega, fun k k1 k2 => by omega⟩
  rw [slices_partitionOrdered_j1_eq]
  simp only [idG_eq]
  refine par_l2 hN hb ha d3 (fun j pj le2 => ?_) (b + 1) (b - 1) _ (by have := pi.1; omega) (by omega) pi
  rw [slices_partitionOrdered_j3_eq]
  simp only [binV_gtr, bindV_some, condK_bool]
  have p2j := pj.2.2.1
  have jN : j < N := by omega
  have fin := fun h' f' m bb c d s p => (⟨h', St.le.refl _, H h' f' m bb c d s p⟩ : ∃ h2, St.le h2 h' ∧ k (.tuple #[.int .i64 (m : Nat), .bool bb]) h2)
  by_cases e : i > j
  · have e' : (i : Int) > j := by omega
    simp only [e', decide_true, if_true, Dat.idx q ha, Dat.idx q jN, bindV_some, d3.load ha, d3.load jN, true_and]
    refine d3.store jN fun h4 c4 n4 d4 => ?_
    simp only [true_and, and_self, Dat.idx q ha, bindV_some]
    refine d4.store ha fun h5 c5 n5 d5 => ?_
    simp only [true_and, and_self]
    exact fin h5 _ j _ ((c3.of_chg c4 (by simp)).of_chg c5 (by simp)) d5 (s3.step j a (by have := pj.1; have := pj.2.1; omega) (by omega)) (pj.done e)
  · have e' : ¬ (i : Int) > j := by omega
    have iN : i < N := by omega
    have j0 : 0 < j := by have := pj.1; omega
    have l1 : ¬ (Sw f a p) i < (Sw f a p) a := le1 (by omega)
    simp only [e', decide_false, Bool.false_eq_true, if_false, idG_eq, Dat.idx q iN, Dat.idx q jN, bindV_some, d3.load iN, d3.load jN, true_and]
    refine d3.store iN fun h4 c4 n4 d4 => ?_
    simp only [true_and, and_self, Dat.idx q jN, bindV_some]
    refine d4.store jN fun h5 c5 n5 d5 => ?_
    simp only [true_and, and_self, binNil_int, binV_add, binV_sub, bindV_some, i64_up (show i ≤ 1000000 by omega), i64_dn j0 (show j ≤ 1000000 by omega), idG_eq]
    exact par_l4 hN (by omega) hb fin (b + 1) (i + 1) (j - 1) _ h5 _ (by omega) (by omega) (by omega) ((c3.of_chg c4 (by simp)).of_chg c5 (by simp)) d5 (s3.step i j (by have := pj.1; omega) (by have := pj.1; omega)) (pj.sw (by omega) l1 (le2 (by omega)))
end Go.Proofs.Ytdgonebknphkcaa

/- The library's sort: those that are equal ahead; a few exchanged; patterns broken. -/
set_option linter.unusedSimpArgs false
set_option linter.unusedVariables false
set_option maxHeartbeats 4000000
namespace Go.Proofs.Ytdgonebknphkcaa
open Go.Abs Go.IntWalk
attribute [local congr] bindV_weak condK_weak guardK_weak groupK_weak allocE_weak boxE_weak storeE_weak storeM_weak tabC_weak ite_weak idG_weak appendE_weak buildSliceE_weak mapUpdateE_weak deleteE_weak makeMapE_weak copyE_weak clearE_weak callE_weak

def EInv (f : Nat → Int) (a b i j : Nat) : Prop := a < i ∧ i ≤ j + 1 ∧ j < b ∧ (∀ k, a < k → k < i → f k ≤ f a) ∧ ∀ k, j < k → k < b → f a < f k
theorem EInv.up {f : Nat → Int} {a b i j : Nat} (h : EInv f a b i j) (hij : i ≤ j) (l : ¬ f a < f i) : EInv f a b (i + 1) j := by
  obtain ⟨h1, h2, h3, h4, h5⟩ := h
  refine ⟨by omega, by omega, h3, fun k k1 k2 => ?_, h5⟩
  by_cases e : k = i
  · subst e; omega
  · exact h4 k k1 (by omega)
theorem EInv.dn {f : Nat → Int} {a b i j : Nat} (h : EInv f a b i j) (hij : i ≤ j) (l : f a < f j) : EInv f a b i (j - 1) := by
  obtain ⟨h1, h2, h3, h4, h5⟩ := h
  refine ⟨h1, by omega, by omega, h4, fun k k1 k2 => ?_⟩
  by_cases e : k = j
  · subst e; exact l
  · exact h5 k (by omega) k2
theorem EInv.sw {f : Nat → Int} {a b i j : Nat} (h : EInv f a b i j) (hij : i ≤ j) (l1 : f a < f i) (l2 : ¬ f a < f j) : EInv (Sw f i j) a b (i + 1) (j - 1) := by
  obtain ⟨h1, h2, h3, h4, h5⟩ := h
  have ne : i ≠ j := fun e => by subst e; exact l2 l1
  have fa : Sw f i j a = f a := sw_o f (by omega) (by omega)
  refine ⟨by omega, by omega, by omega, fun k k1 k2 => ?_, fun k k1 k2 => ?_⟩
  · rw [fa]
    by_cases e : k = i
    · subst e; rw [sw_l]; omega
    · rw [sw_o f e (by omega)]; exact h4 k k1 (by omega)
  · rw [fa]
    by_cases e : k = j
    · subst e; rw [sw_r]; exact l1
    · rw [sw_o f (by omega) e]; exact h5 k (by omega) k2
/-- No greater than the first up to m, greater from m on. -/
def EqP (f : Nat → Int) (a b m : Nat) : Prop := a < m ∧ m ≤ b ∧ (∀ k, a ≤ k → k < m → f k ≤ f a) ∧ ∀ k, m ≤ k → k < b → f a < f k
theorem EInv.done {f : Nat → Int} {a b i j : Nat} (h : EInv f a b i j) (hij : j < i) : EqP f a b i := by
  obtain ⟨h1, h2, h3, h4, h5⟩ := h
  refine ⟨h1, by omega, fun k k1 k2 => ?_, fun k k1 k2 => h5 k (by omega) k2⟩
  by_cases e : k = a
  · subst e; exact Int.le_refl _
  · exact h4 k (by omega) k2
section
variable {q N a b nn : Nat} {k : Cont} {h0 : St} {f0 : Nat → Int}
theorem peq_l3 {m0 : Nat} {x8 : Value} {h : St} {f : Nat → Int} (hN : N ≤ 255) (hb : b ≤ N) (ha : a < N) (d : Dat q N f h) {i : Nat}
    (H : ∀ j, EInv f a b i j → (i ≤ j → ¬ f a < f j) → slices_partitionEqualOrdered_j4 (tabC tabS1) idG nn m0 (vS q N) (.int .i64 a) x8 (.int .i64 i) (.int .i64 j) h k) :
    ∀ (dd j m1 : Nat), j < i + dd → dd < m1 → EInv f a b i j → slices_partitionEqualOrdered_l3 (tabC tabS1) idG nn m0 m1 (vS q N) (.int .i64 a) x8 (.int .i64 i) (.int .i64 j) h k := by
  intro dd
  induction dd with
  | zero =>
    intro j m1 hd hm p
    obtain ⟨m1, rfl⟩ : ∃ m, m1 = m + 1 := ⟨m1 - 1, by omega⟩
    rw [slices_partitionEqualOrdered_l3_eq]
    have e : ¬ (i : Int) ≤ j := by omega
    simp only [binV_leq, bindV_some, groupK_eq, guardK_bool, e, decide_false, Bool.false_eq_true, if_false, idG_eq, pickV_bool, condK_bool]
    exact H j p (fun h => by omega)
  | succ dd ih =>
    intro j m1 hd hm p
    obtain ⟨m1, rfl⟩ : ∃ m, m1 = m + 1 := ⟨m1 - 1, by omega⟩
    rw [slices_partitionEqualOrdered_l3_eq]
    by_cases e : i ≤ j
    · have e' : (i : Int) ≤ j := by omega
      have jN : j < N := by have := p.2.2.1; omega
      simp only [binV_leq, bindV_some, groupK_eq, guardK_bool, e', decide_true, if_true, Dat.idx q jN, d.load jN, Dat.idx q ha, d.load ha, true_and]
      refine cLess ?_
      simp only [true_and, and_self, bindV_some, idG_eq, e', decide_true, pickV_bool, if_true, getT, condK_bool]
      by_cases l : f a < f j
      · simp only [l, decide_true, if_true, binNil_int, binV_sub, bindV_some, i64_dn (show 0 < j by have := p.1; omega) (show j ≤ 1000000 by omega), idG_eq]
        exact ih (j - 1) m1 (by have := p.1; omega) (by omega) (p.dn e l)
      · simp only [l, decide_false, Bool.false_eq_true, if_false]
        exact H j p (fun _ => l)
    · have e' : ¬ (i : Int) ≤ j := by omega
      simp only [binV_leq, bindV_some, groupK_eq, guardK_bool, e', decide_false, Bool.false_eq_true, if_false, idG_eq, pickV_bool, condK_bool]
      exact H j p (fun h => by omega)
theorem peq_l1 {m0 : Nat} {x8 : Value} {h : St} {f : Nat → Int} (hN : N ≤ 255) (hb : b ≤ N) (ha : a < N) (d : Dat q N f h) {j : Nat}
    (H : ∀ i, EInv f a b i j → (i ≤ j → f a < f i) → slices_partitionEqualOrdered_j2 (tabC tabS1) idG nn m0 (vS q N) (.int .i64 a) x8 (.int .i64 i) (.int .i64 j) h k) :
    ∀ (dd i m1 : Nat), j < i + dd → dd < m1 → EInv f a b i j → slices_partitionEqualOrdered_l1 (tabC tabS1) idG nn m0 m1 (vS q N) (.int .i64 a) x8 (.int .i64 i) (.int .i64 j) h k := by
  intro dd
  induction dd with
  | zero =>
    intro i m1 hd hm p
    obtain ⟨m1, rfl⟩ : ∃ m, m1 = m + 1 := ⟨m1 - 1, by omega⟩
    rw [slices_partitionEqualOrdered_l1_eq]
    have e : ¬ (i : Int) ≤ j := by omega
    simp only [binV_leq, bindV_some, groupK_eq, guardK_bool, e, decide_false, Bool.false_eq_true, if_false, idG_eq, pickV_bool, condK_bool]
    exact H i p (fun h => by omega)
  | succ dd ih =>
    intro i m1 hd hm p
    obtain ⟨m1, rfl⟩ : ∃ m, m1 = m + 1 := ⟨m1 - 1, by omega⟩
    rw [slices_partitionEqualOrdered_l1_eq]
    by_cases e : i ≤ j
    · have e' : (i : Int) ≤ j := by omega
      have iN : i < N := by have := p.2.2.1; omega
      simp only [binV_leq, bindV_some, groupK_eq, guardK_bool, e', decide_true, if_true, Dat.idx q iN, d.load iN, Dat.idx q ha, d.load ha, true_and]
      refine cLess ?_
      simp only [true_and, and_self, unV_not, bindV_some, idG_eq, e', decide_true, pickV_bool, if_true, getT, condK_bool]
      by_cases l : f a < f i
      · simp only [l, decide_true, Bool.not_true, Bool.false_eq_true, if_false]
        exact H i p (fun _ => l)
      · simp only [l, decide_false, Bool.not_false, if_true, binNil_int, binV_add, bindV_some, i64_up (show i ≤ 1000000 by omega), idG_eq]
        exact ih (i + 1) m1 (by omega) (by omega) (p.up e l)
    · have e' : ¬ (i : Int) ≤ j := by omega
      simp only [binV_leq, bindV_some, groupK_eq, guardK_bool, e', decide_false, Bool.false_eq_true, if_false, idG_eq, pickV_bool, condK_bool]
      exact H i p (fun h => by omega)
theorem peq_l0 {x8 : Value} (hN : N ≤ 255) (hab : a < b) (hb : b ≤ N)
    (H : ∀ h' f' m, Chg h0 h' [q] → Dat q N f' h' → SwS a b f0 f' → f' a = f0 a → EqP f' a b m → k (.int .i64 (m : Nat)) h') :
    ∀ (dd i j m0 : Nat) (h : St) (f : Nat → Int), j < i + dd → 2 * b < m0 + i → dd < m0 → Chg h0 h [q] → Dat q N f h → SwS a b f0 f → f a = f0 a → EInv f a b i j →
      slices_partitionEqualOrdered_l0 (tabC tabS1) idG nn m0 (vS q N) (.int .i64 a) x8 (.int .i64 i) (.int .i64 j) h k := by
  intro dd
  induction dd using Nat.strongRecOn with
  | ind dd ih =>
    intro i j m0 h f hd hm2 hm c d s fa p
    obtain ⟨m0, rfl⟩ : ∃ m, m0 = m + 1 := ⟨m0 - 1, by omega⟩
    rw [slices_partitionEqualOrdered_l0_eq]
    have ha : a < N := by omega
    have pj := p.2.2.1
    have pi := p.2.1
    simp only [idG_eq]
    refine peq_l1 hN hb ha d (fun i' p' le' => ?_) (j + 1 - i) i m0 (by omega) (by have := p.1; omega) p
    rw [slices_partitionEqualOrdered_j2_eq]
    simp only [idG_eq]
    refine peq_l3 hN hb ha d (fun j' p2 le2 => ?_) (j + 1 - i') j m0 (by have := p'.2.1; omega) (by have := p'.1; omega) p'
    rw [slices_partitionEqualOrdered_j4_eq]
    simp only [binV_gtr, bindV_some, condK_bool]
    have p2j := p2.2.2.1
    have jN : j' < N := by omega
    by_cases e : i' > j'
    · have e' : (i' : Int) > j' := by omega
      simp only [e', decide_true, if_true, idG_eq]
      rw [slices_partitionEqualOrdered_j5_eq]
      exact H h f i' c d s fa (p2.done e)
    · have e' : ¬ (i' : Int) > j' := by omega
      have iN : i' < N := by omega
      have l2 := le2 (by omega)
      have jj : j' ≤ j := by
        rcases Nat.lt_or_ge j j' with h | h
        · have hh := p'.2.2.2.2 j' h p2j
          exact absurd hh l2
        · exact h
      have l1 := le' (by omega)
      have ii : i ≤ i' := by
        rcases Nat.lt_or_ge i' i with h | h
        · have := p.2.2.2.1 i' (by have := p'.1; omega) h
          omega
        · exact h
      simp only [e', decide_false, Bool.false_eq_true, if_false, idG_eq, Dat.idx q iN, Dat.idx q jN, bindV_some, d.load iN, d.load jN, true_and]
      refine d.store iN fun h1 c1 n1 d1 => ?_
      simp only [true_and, and_self, Dat.idx q jN, bindV_some]
      refine d1.store jN fun h2 c2 n2 d2 => ?_
      have j0 : 0 < j' := by have := p2.1; omega
      simp only [true_and, and_self, binNil_int, binV_add, binV_sub, bindV_some, i64_up (show i' ≤ 1000000 by omega), i64_dn j0 (show j' ≤ 1000000 by omega), idG_eq]
      exact ih (j' - 1 + 1 - (i' + 1) + 0) (by omega) (i' + 1) (j' - 1) m0 h2 _ (by omega) (by omega) (by omega) ((c.of_chg c1 (by simp)).of_chg c2 (by simp)) d2 (s.step i' j' (by have := p2.1; omega) (by have := p2.1; omega)) (by rw [← fa]; exact sw_o f (by have := p2.1; omega) (by have := p2.1; omega)) (p2.sw (by omega) l1 l2)
end
def peqO : Abs.Spec := fun args h k => ∃ (q N a b p : Nat) (f : Nat → Int), args = [vS q N, .int .i64 a, .int .i64 b, .int .i64 p] ∧ N ≤ 255 ∧ a + 1 < b ∧ b ≤ N ∧ a ≤ p ∧ p < b ∧ Dat q N f h ∧
  ∀ h' f' m, Chg h h' [q] → Dat q N f' h' → SwS a b f f' → f' a = f p → EqP f' a b m → k (.int .i64 (m : Nat)) h'
theorem peqO_good : SpecGood Try.prog (39, peqO) := by
  refine spec_good mixed Try.func39 (by kernel_rfl) (by kernel_rfl) (tab := tabS1) tabS1_good (keep := slices_partitionEqualOrdered_keep) ?_
  rintro args h k ⟨q, N, a, b, p, f, rfl, hN, hab, hb, hp1, hp2, d, H⟩
  refine ⟨2 * b + 2, ?_⟩
  show slices_partitionEqualOrdered (tabC tabS1) idG _ (vS q N) (.int .i64 a) (.int .i64 b) (.int .i64 p) h _
  rw [slices_partitionEqualOrdered_eq]
  have ha : a < N := by omega
  have pN : p < N := by omega
  simp only [Dat.idx q ha, Dat.idx q pN, bindV_some, d.load ha, d.load pN, true_and]
  refine d.store ha fun h1 c1 n1 d1 => ?_
  simp only [true_and, and_self, Dat.idx q pN, bindV_some]
  refine d1.store pN fun h2 c2 n2 d2 => ?_
  simp only [true_and, and_self, binNil_int, binV_add, binV_sub, bindV_some, i64_up (show a ≤ 1000000 by omega), i64_dn (show 0 < b by omega) (show b ≤ 1000000 by omega), idG_eq]
  have d3 : Dat q N (Sw f a p) h2 := d2
  have s3 : SwS a b f (Sw f a p) := SwS.one f (by omega) (by omega)
  refine peq_l0 (h0 := h2) (f0 := Sw f a p) hN (by omega) hb (fun h' f' m c d s fa e => ⟨h', St.le.refl _, H h' f' m ((c1.of_chg c2 (by simp)).of_chg c (by simp)) d (s3.trans s) (by rw [fa, sw_l]) e⟩) (b + 1) (a + 1) (b - 1) _ h2 _ (by omega) (by omega) (by omega) (Chg.refl _ _) d3 (.refl _) rfl ⟨by omega, by omega, by omega, fun k k1 k2 => by omega, fun k k1 k2 => by omega⟩
/-! ### a few exchanged -/
theorem srt_up {f : Nat → Int} {a i : Nat} (h : Srt f a i) (ai : a < i) (l : f (i - 1) ≤ f i) : Srt f a (i + 1) := fun p q p1 p2 p3 => by
  by_cases e : q = i
  · subst e
    by_cases e2 : p = q - 1
    · subst e2; exact l
    · exact Int.le_trans (h p (q - 1) p1 (by omega) (by omega)) l
  · exact h p q p1 p2 (by omega)
theorem srt_out {f g : Nat → Int} {a i b : Nat} (h : Srt f a i) (s : SwS i b f g) : Srt g a i := fun p q p1 p2 p3 => by
  rw [s.out (.inl (by omega)), s.out (.inl p3)]
  exact h p q p1 p2 p3
section
variable {q N a b nn : Nat} {k : Cont} {h0 : St} {f0 : Nat → Int}
theorem pin_l6 {m0 i : Nat} {x6 x8 x9 : Value} (hN : N ≤ 255) (hb : b ≤ N)
    (H : ∀ h' f' x10, Chg h0 h' [q] → Dat q N f' h' → SwS i b f0 f' → slices_partialInsertionSortOrdered_j7 (tabC tabS1) idG nn m0 (vS q N) (.int .i64 a) (.int .i64 b) x6 (.int .i64 i) x8 x9 x10 h' k) :
    ∀ (dd j m1 : Nat) (h : St) (f : Nat → Int), b ≤ j + dd → dd < m1 → i < j → Chg h0 h [q] → Dat q N f h → SwS i b f0 f →
      slices_partialInsertionSortOrdered_l6 (tabC tabS1) idG nn m0 m1 (vS q N) (.int .i64 a) (.int .i64 b) x6 (.int .i64 i) x8 x9 (.int .i64 j) h k := by
  intro dd
  induction dd with
  | zero =>
    intro j m1 h f hd hm hij c d s
    obtain ⟨m1, rfl⟩ : ∃ m, m1 = m + 1 := ⟨m1 - 1, by omega⟩
    rw [slices_partialInsertionSortOrdered_l6_eq]
    have e : ¬ (j : Int) < b := by omega
    simp only [binV_lss, bindV_some, condK_bool, e, decide_false, Bool.false_eq_true, if_false, idG_eq]
    exact H h f _ c d s
  | succ dd ih =>
    intro j m1 h f hd hm hij c d s
    obtain ⟨m1, rfl⟩ : ∃ m, m1 = m + 1 := ⟨m1 - 1, by omega⟩
    rw [slices_partialInsertionSortOrdered_l6_eq]
    by_cases e : j < b
    · have e' : (j : Int) < b := by omega
      have jN : j < N := by omega
      have j1N : j - 1 < N := by omega
      simp only [binV_lss, bindV_some, condK_bool, e', decide_true, if_true, idG_eq, Dat.idx q jN, d.load jN, true_and, binNil_int, binV_sub, i64_dn (show 0 < j by omega) (show j ≤ 1000000 by omega), Dat.idx q j1N, d.load j1N]
      refine cLess ?_
      simp only [true_and, and_self, unV_not, bindV_some, condK_bool]
      by_cases l : f j < f (j - 1)
      · simp only [l, decide_true, Bool.not_true, Bool.false_eq_true, if_false, idG_eq, Dat.idx q jN, d.load jN, bindV_some, true_and, binNil_int, binV_sub, i64_dn (show 0 < j by omega) (show j ≤ 1000000 by omega), Dat.idx q j1N, d.load j1N]
        refine d.store jN fun h1 c1 n1 d1 => ?_
        simp only [true_and, and_self, Dat.idx q j1N, bindV_some]
        refine d1.store j1N fun h2 c2 n2 d2 => ?_
        simp only [true_and, and_self, idG_eq, binNil_int, binV_add, bindV_some, i64_up (show j ≤ 1000000 by omega)]
        exact ih (j + 1) m1 h2 _ (by omega) (by omega) (by omega) ((c.of_chg c1 (by simp)).of_chg c2 (by simp)) d2 (s.step j (j - 1) (by omega) (by omega))
      · simp only [l, decide_false, Bool.not_false, if_true, idG_eq]
        exact H h f _ c d s
    · have e' : ¬ (j : Int) < b := by omega
      simp only [binV_lss, bindV_some, condK_bool, e', decide_false, Bool.false_eq_true, if_false, idG_eq]
      exact H h f _ c d s
theorem pin_l4 {m0 i : Nat} {x6 x8 x10 : Value} (hN : N ≤ 255) (hb : b ≤ N) (hai : a < i) (hib : i ≤ b)
    (H : ∀ h' f' x9, Chg h0 h' [q] → Dat q N f' h' → SwS a b f0 f' → Srt f' a i → slices_partialInsertionSortOrdered_j5 (tabC tabS1) idG nn m0 (vS q N) (.int .i64 a) (.int .i64 b) x6 (.int .i64 i) x8 x9 x10 h' k) :
    ∀ (j m1 : Nat) (h : St) (f : Nat → Int), j < m1 → Chg h0 h [q] → Dat q N f h → SwS a b f0 f → LB f a b → Ins f a (i - 1) j →
      slices_partialInsertionSortOrdered_l4 (tabC tabS1) idG nn m0 m1 (vS q N) (.int .i64 a) (.int .i64 b) x6 (.int .i64 i) x8 (.int .i64 j) x10 h k := by
  intro j
  induction j with
  | zero =>
    intro m1 h f hm c d s lb ins
    obtain ⟨m1, rfl⟩ : ∃ m, m1 = m + 1 := ⟨m1 - 1, by omega⟩
    rw [slices_partialInsertionSortOrdered_l4_eq]
    have e : ¬ ((0 : Nat) : Int) ≥ 1 := by omega
    simp only [binNil_int, binV_geq, bindV_some, condK_bool, e, decide_false, Bool.false_eq_true, if_false, idG_eq]
    have := ins_end ins (.inl (by have := ins.1; omega))
    rw [show i - 1 + 1 = i by omega] at this
    exact H h f _ c d s this
  | succ j ih =>
    intro m1 h f hm c d s lb ins
    obtain ⟨m1, rfl⟩ : ∃ m, m1 = m + 1 := ⟨m1 - 1, by omega⟩
    rw [slices_partialInsertionSortOrdered_l4_eq]
    have e : ((j + 1 : Nat) : Int) ≥ 1 := by omega
    have jN : j + 1 < N := by have := ins.2.1; omega
    have j1N : j < N := by omega
    have dn : IntKind.i64.wrap (((j + 1 : Nat) : Int) - 1) = (j : Int) := by rw [i64_in _ (by omega)]; omega
    simp only [binNil_int, binV_geq, bindV_some, condK_bool, e, decide_true, if_true, idG_eq, Dat.idx q jN, d.load jN, true_and, binV_sub, dn, Dat.idx q j1N, d.load j1N]
    refine cLess ?_
    simp only [true_and, and_self, unV_not, bindV_some, condK_bool]
    by_cases l : f (j + 1) < f j
    · have aj : a < j + 1 := by
        rcases Nat.lt_or_ge a (j + 1) with h | h
        · exact h
        · have ea : a = j + 1 := by have := ins.1; omega
          have := lb (by omega) a (Nat.le_refl _) (by omega)
          rw [show a - 1 = j by omega, ea] at this
          omega
      simp only [l, decide_true, Bool.not_true, Bool.false_eq_true, if_false, idG_eq, Dat.idx q jN, d.load jN, bindV_some, true_and, binNil_int, binV_sub, dn, Dat.idx q j1N, d.load j1N]
      refine d.store jN fun h1 c1 n1 d1 => ?_
      simp only [true_and, and_self, Dat.idx q j1N, bindV_some]
      refine d1.store j1N fun h2 c2 n2 d2 => ?_
      simp only [true_and, and_self, idG_eq, binNil_int, binV_sub, bindV_some, dn]
      have es : upd (upd f (j + 1) (f j)) j (f (j + 1)) = Sw f j (j + 1) := by rw [sw_comm]; rfl
      rw [es] at d2
      have ji := ins.2.1
      have st : SwS a b f (Sw f j (j + 1)) := SwS.one f ⟨by omega, by omega⟩ ⟨by omega, by omega⟩
      exact ih m1 h2 _ (by omega) ((c.of_chg c1 (by simp)).of_chg c2 (by simp)) d2 (s.trans st) (lb.perm st) (ins_step ins aj l)
    · simp only [l, decide_false, Bool.not_false, if_true, idG_eq]
      have := ins_end ins (.inr (by show f j ≤ f (j + 1); omega))
      rw [show i - 1 + 1 = i by omega] at this
      exact H h f _ c d s this
theorem pin_l1 {m0 : Nat} {x6 x8 x9 x10 : Value} {h : St} {f : Nat → Int} (hN : N ≤ 255) (hb : b ≤ N) (d : Dat q N f h)
    (H : ∀ i, a < i → i ≤ b → Srt f a i → (i < b → f i < f (i - 1)) → slices_partialInsertionSortOrdered_j3 (tabC tabS1) idG nn m0 (vS q N) (.int .i64 a) (.int .i64 b) x6 (.int .i64 i) x8 x9 x10 h k) :
    ∀ (dd i m1 : Nat), b ≤ i + dd → dd < m1 → a < i → i ≤ b → Srt f a i →
      slices_partialInsertionSortOrdered_l1 (tabC tabS1) idG nn m0 m1 (vS q N) (.int .i64 a) (.int .i64 b) x6 (.int .i64 i) x8 x9 x10 h k := by
  intro dd
  induction dd with
  | zero =>
    intro i m1 hd hm hai hib s
    obtain ⟨m1, rfl⟩ : ∃ m, m1 = m + 1 := ⟨m1 - 1, by omega⟩
    rw [slices_partialInsertionSortOrdered_l1_eq]
    have e : ¬ (i : Int) < b := by omega
    simp only [binV_lss, bindV_some, groupK_eq, guardK_bool, e, decide_false, Bool.false_eq_true, if_false, idG_eq, pickV_bool, condK_bool]
    exact H i hai hib s (fun h => by omega)
  | succ dd ih =>
    intro i m1 hd hm hai hib s
    obtain ⟨m1, rfl⟩ : ∃ m, m1 = m + 1 := ⟨m1 - 1, by omega⟩
    rw [slices_partialInsertionSortOrdered_l1_eq]
    by_cases e : i < b
    · have e' : (i : Int) < b := by omega
      have iN : i < N := by omega
      have i1N : i - 1 < N := by omega
      simp only [binV_lss, bindV_some, groupK_eq, guardK_bool, e', decide_true, if_true, Dat.idx q iN, d.load iN, true_and, binNil_int, binV_sub, i64_dn (show 0 < i by omega) (show i ≤ 1000000 by omega), Dat.idx q i1N, d.load i1N]
      refine cLess ?_
      simp only [true_and, and_self, unV_not, bindV_some, idG_eq, e', decide_true, pickV_bool, if_true, getT, condK_bool]
      by_cases l : f i < f (i - 1)
      · simp only [l, decide_true, Bool.not_true, Bool.false_eq_true, if_false]
        exact H i hai hib s (fun _ => l)
      · simp only [l, decide_false, Bool.not_false, if_true, binNil_int, binV_add, bindV_some, i64_up (show i ≤ 1000000 by omega), idG_eq]
        exact ih (i + 1) m1 (by omega) (by omega) (by omega) (by omega) (srt_up s hai (by omega))
    · have e' : ¬ (i : Int) < b := by omega
      simp only [binV_lss, bindV_some, groupK_eq, guardK_bool, e', decide_false, Bool.false_eq_true, if_false, idG_eq, pickV_bool, condK_bool]
      exact H i hai hib s (fun h => by omega)
theorem pin_l0 {x6 : Value} (hN : N ≤ 255) (hab : a < b) (hb : b ≤ N)
    (H : ∀ bb h' f', Chg h0 h' [q] → Dat q N f' h' → SwS a b f0 f' → (bb = true → Srt f' a b) → k (.bool bb) h') :
    ∀ (dd t i m0 : Nat) (h : St) (f : Nat → Int) (x9 x10 : Value), 5 ≤ t + dd → t ≤ 5 → 300 + dd < m0 → a < i → i ≤ b → Chg h0 h [q] → Dat q N f h → SwS a b f0 f → LB f a b → Srt f a i →
      slices_partialInsertionSortOrdered_l0 (tabC tabS1) idG nn m0 (vS q N) (.int .i64 a) (.int .i64 b) x6 (.int .i64 i) (.int .i64 t) x9 x10 h k := by
  intro dd
  induction dd with
  | zero =>
    intro t i m0 h f x9 x10 hd ht hm hai hib c d s lb srt
    obtain ⟨m0, rfl⟩ : ∃ m, m0 = m + 1 := ⟨m0 - 1, by omega⟩
    rw [slices_partialInsertionSortOrdered_l0_eq]
    have e : ¬ (t : Int) < 5 := by omega
    simp only [binNil_int, binV_lss, bindV_some, condK_bool, e, decide_false, Bool.false_eq_true, if_false, idG_eq]
    rw [slices_partialInsertionSortOrdered_j2_eq]
    exact H false h f c d s (fun h => by cases h)
  | succ dd ih =>
    intro t i m0 h f x9 x10 hd ht hm hai hib c d s lb srt
    obtain ⟨m0, rfl⟩ : ∃ m, m0 = m + 1 := ⟨m0 - 1, by omega⟩
    rw [slices_partialInsertionSortOrdered_l0_eq]
    by_cases e : t < 5
    · have e' : (t : Int) < 5 := by omega
      simp only [binNil_int, binV_lss, bindV_some, condK_bool, e', decide_true, if_true, idG_eq]
      refine pin_l1 hN hb d (fun i hai hib srt less => ?_) (b - i) i m0 (by omega) (by omega) hai hib srt
      rw [slices_partialInsertionSortOrdered_j3_eq]
      simp only [binV_eql, bindV_some, condK_bool]
      by_cases eb : i = b
      · subst eb
        simp only [decide_true, if_true]
        exact H true h f c d s (fun _ => srt)
      · have eb' : ¬ (i : Int) = b := by omega
        simp only [eb', decide_false, Bool.false_eq_true, if_false, idG_eq, binV_sub, i64_dif (show a ≤ b by omega) (show b ≤ 1000000 by omega), bindV_some, binNil_int, binV_lss, condK_bool]
        by_cases g : ((b - a : Nat) : Int) < 50
        · simp only [g, decide_true, if_true]
          exact H false h f c d s (fun h => by cases h)
        · have ib : i < b := by omega
          have l := less ib
          have iN : i < N := by omega
          have i1N : i - 1 < N := by omega
          simp only [g, decide_false, Bool.false_eq_true, if_false, idG_eq, Dat.idx q iN, d.load iN, bindV_some, true_and, binNil_int, binV_sub, i64_dn (show 0 < i by omega) (show i ≤ 1000000 by omega), Dat.idx q i1N, d.load i1N]
          refine d.store iN fun h1 c1 n1 d1 => ?_
          simp only [true_and, and_self, Dat.idx q i1N, bindV_some]
          refine d1.store i1N fun h2 c2 n2 d2 => ?_
          have d3 : Dat q N (Sw f i (i - 1)) h2 := d2
          have st : SwS a b f (Sw f i (i - 1)) := SwS.one f (by omega) (by omega)
          have c3 := (c.of_chg c1 (by simp)).of_chg c2 (by simp)
          -- behind both shifts
          have j5 : ∀ h3 f3 x9, Chg h0 h3 [q] → Dat q N f3 h3 → SwS a b f0 f3 → Srt f3 a i → slices_partialInsertionSortOrdered_j5 (tabC tabS1) idG nn m0 (vS q N) (.int .i64 a) (.int .i64 b) x6 (.int .i64 i) (.int .i64 t) x9 x10 h3 k := by
            intro h3 f3 x9 c3 d3 s3 srt3
            have j7 : ∀ h4 f4 x10, Chg h3 h4 [q] → Dat q N f4 h4 → SwS i b f3 f4 → slices_partialInsertionSortOrdered_j7 (tabC tabS1) idG nn m0 (vS q N) (.int .i64 a) (.int .i64 b) x6 (.int .i64 i) (.int .i64 t) x9 x10 h4 k := by
              intro h4 f4 x10 c4 d4 s4
              rw [slices_partialInsertionSortOrdered_j7_eq]
              simp only [binNil_int, binV_add, bindV_some, i64_up (show t ≤ 1000000 by omega), idG_eq]
              have st4 : SwS a b f3 f4 := s4.mono (by omega) (Nat.le_refl _)
              have lb0 : LB f0 a b → LB f4 a b := fun l => l.perm (s3.trans st4)
              have lbi : LB f a b → LB f4 a b := fun l h0 k k1 k2 => by
                have o1 : f4 (a - 1) = f (a - 1) := by rw [(s3.trans st4).out (.inl (by omega)), s.out (.inl (by omega))]
                rw [o1]
                obtain ⟨j, j1, j2, e⟩ := (s3.trans st4).from k1 k2
                rw [e]
                -- f0's values are f's
                have : ∃ j', a ≤ j' ∧ j' < b ∧ f0 j = f j' := by
                  have hp : ∀ (g : Nat → Int), SwS a b f0 g → ∀ k, a ≤ k → k < b → ∃ j', a ≤ j' ∧ j' < b ∧ f0 k = g j' := by
                    intro g hg
                    induction hg with
                    | refl => exact fun k k1 k2 => ⟨k, k1, k2, rfl⟩
                    | @step g _ x y hx hy ih =>
                      intro k k1 k2
                      obtain ⟨j', a1, a2, a3⟩ := ih k k1 k2
                      by_cases e1 : j' = x
                      · subst e1; exact ⟨y, hy.1, hy.2, by rw [sw_r]; exact a3⟩
                      · by_cases e2 : j' = y
                        · subst e2; exact ⟨x, hx.1, hx.2, by rw [sw_l]; exact a3⟩
                        · exact ⟨j', a1, a2, by rw [sw_o g e1 e2]; exact a3⟩
                  exact hp f s j j1 j2
                obtain ⟨j', a1, a2, a3⟩ := this
                rw [a3]
                exact l h0 j' a1 a2
              exact ih (t + 1) i m0 h4 f4 _ _ (by omega) (by omega) (by omega) hai (by omega) (c3.of_chg c4 (by simp)) d4 (s3.trans st4) (lbi lb) (srt_out srt3 s4)
            rw [slices_partialInsertionSortOrdered_j5_eq]
            simp only [binV_sub, i64_dif (show i ≤ b by omega) (show b ≤ 1000000 by omega), bindV_some, binNil_int, binV_geq, condK_bool]
            by_cases g2 : ((b - i : Nat) : Int) ≥ 2
            · simp only [g2, decide_true, if_true, binNil_int, binV_add, bindV_some, i64_up (show i ≤ 1000000 by omega), idG_eq]
              exact pin_l6 hN hb j7 b (i + 1) m0 h3 f3 (by omega) (by omega) (by omega) (Chg.refl _ _) d3 (.refl _)
            · simp only [g2, decide_false, Bool.false_eq_true, if_false, idG_eq]
              exact j7 h3 f3 _ (Chg.refl _ _) d3 (.refl _)
          simp only [true_and, and_self, binV_sub, i64_dif (show a ≤ i by omega) (show i ≤ 1000000 by omega), bindV_some, binNil_int, binV_geq, condK_bool]
          by_cases g2 : ((i - a : Nat) : Int) ≥ 2
          · simp only [g2, decide_true, if_true, binNil_int, binV_sub, bindV_some, i64_dn (show 0 < i by omega) (show i ≤ 1000000 by omega), idG_eq]
            refine pin_l4 hN hb hai hib j5 (i - 1) m0 h2 _ (by omega) c3 d3 (s.trans st) (lb.perm st) ⟨by omega, Nat.le_refl _, fun p q' p1 p2 p3 p4 => ?_⟩
            rw [sw_o f (by omega) (by omega), sw_o f (by omega) p4]
            exact srt p q' p1 p2 (by omega)
          · simp only [g2, decide_false, Bool.false_eq_true, if_false, idG_eq]
            exact j5 h2 _ _ c3 d3 (s.trans st) (fun p q' p1 p2 p3 => by omega)
    · have e' : ¬ (t : Int) < 5 := by omega
      simp only [binNil_int, binV_lss, bindV_some, condK_bool, e', decide_false, Bool.false_eq_true, if_false, idG_eq]
      rw [slices_partialInsertionSortOrdered_j2_eq]
      exact H false h f c d s (fun h => by cases h)
end
def pinO : Abs.Spec := fun args h k => ∃ (q N a b : Nat) (f : Nat → Int), args = [vS q N, .int .i64 a, .int .i64 b] ∧ N ≤ 255 ∧ a < b ∧ b ≤ N ∧ Dat q N f h ∧ LB f a b ∧
  ∀ bb h' f', Chg h h' [q] → Dat q N f' h' → SwS a b f f' → (bb = true → Srt f' a b) → k (.bool bb) h'
theorem pinO_good : SpecGood Try.prog (37, pinO) := by
  refine spec_good mixed Try.func37 (by kernel_rfl) (by kernel_rfl) (tab := tabS1) tabS1_good (keep := slices_partialInsertionSortOrdered_keep) ?_
  rintro args h k ⟨q, N, a, b, f, rfl, hN, hab, hb, d, lb, H⟩
  refine ⟨400, ?_⟩
  show slices_partialInsertionSortOrdered (tabC tabS1) idG _ (vS q N) (.int .i64 a) (.int .i64 b) h _
  rw [slices_partialInsertionSortOrdered_eq]
  simp only [binNil_int, binV_add, bindV_some, i64_up (show a ≤ 1000000 by omega), idG_eq]
  exact pin_l0 hN hab hb (fun bb h' f' c' d' s' t' => ⟨h', St.le.refl _, H bb h' f' c' d' s' t'⟩) 5 0 (a + 1) _ h f _ _ (by omega) (by omega) (by omega) (by omega) (by omega) (Chg.refl _ _) d (.refl _) lb (fun p q' p1 p2 p3 => by omega)
end Go.Proofs.Ytdgonebknphkcaa

/- The library's sort: patterns broken; all of it. -/
set_option linter.unusedSimpArgs false
set_option linter.unusedVariables false
set_option maxHeartbeats 4000000
set_option maxRecDepth 100000
namespace Go.Proofs.Ytdgonebknphkcaa
open Go.Abs Go.IntWalk
attribute [local congr] bindV_weak condK_weak guardK_weak groupK_weak allocE_weak boxE_weak storeE_weak storeM_weak tabC_weak ite_weak idG_weak appendE_weak buildSliceE_weak mapUpdateE_weak deleteE_weak makeMapE_weak copyE_weak clearE_weak callE_weak

/-! ### how many bits -/
def lenTab : ByteArray := ⟨#[0, 1, 2, 2, 3, 3, 3, 3, 4, 4, 4, 4, 4, 4, 4, 4, 5, 5, 5, 5, 5, 5, 5, 5, 5, 5, 5, 5, 5, 5, 5, 5, 6, 6, 6, 6, 6, 6, 6, 6, 6, 6, 6, 6, 6, 6, 6, 6, 6, 6, 6, 6, 6, 6, 6, 6, 6, 6, 6, 6, 6, 6, 6, 6, 7, 7, 7, 7, 7, 7, 7, 7, 7, 7, 7, 7, 7, 7, 7, 7, 7, 7, 7, 7, 7, 7, 7, 7, 7, 7, 7, 7, 7, 7, 7, 7, 7, 7, 7, 7, 7, 7, 7, 7, 7, 7, 7, 7, 7, 7, 7, 7, 7, 7, 7, 7, 7, 7, 7, 7, 7, 7, 7, 7, 7, 7, 7, 7, 8, 8, 8, 8, 8, 8, 8, 8, 8, 8, 8, 8, 8, 8, 8, 8, 8, 8, 8, 8, 8, 8, 8, 8, 8, 8, 8, 8, 8, 8, 8, 8, 8, 8, 8, 8, 8, 8, 8, 8, 8, 8, 8, 8, 8, 8, 8, 8, 8, 8, 8, 8, 8, 8, 8, 8, 8, 8, 8, 8, 8, 8, 8, 8, 8, 8, 8, 8, 8, 8, 8, 8, 8, 8, 8, 8, 8, 8, 8, 8, 8, 8, 8, 8, 8, 8, 8, 8, 8, 8, 8, 8, 8, 8, 8, 8, 8, 8, 8, 8, 8, 8, 8, 8, 8, 8, 8, 8, 8, 8, 8, 8, 8, 8, 8, 8, 8, 8, 8, 8, 8, 8, 8, 8, 8, 8, 8, 8]⟩
def lenOf (x : Nat) : Nat := (lenTab[x]?.getD 0).toNat
theorem lenOf_ok : ∀ x : Fin 256, lenOf x.val ≤ 8 ∧ (0 < x.val → 2 ^ lenOf x.val ≤ 2 * x.val) := by decide +kernel
theorem len_tab {x : Nat} (hx : x < 256) : idxT (.string lenTab) (.int .u8 (x : Int)) = some (.int .u8 (lenOf x : Nat)) := by
  have h256 : lenTab.size = 256 := by decide +kernel
  have hs : x < lenTab.size := by omega
  have e : lenTab[x]? = some lenTab[x] := getElem?_pos lenTab x hs
  simp [idxT, lenOf, e]
def len64O : Abs.Spec := fun args h k => ∃ x : Nat, args = [.int .u64 x] ∧ x < 256 ∧ k (.int .i64 (lenOf x : Nat)) h
theorem len64O_good : SpecGood Try.prog (42, len64O) := by
  refine spec_good mixed Try.func42 (by kernel_rfl) (by kernel_rfl) (tab := []) (by simp) (keep := bits_Len64_keep) ?_
  rintro args h k ⟨x, rfl, hx, H⟩
  refine ⟨0, ?_⟩
  show bits_Len64 (tabC []) idG _ (.int .u64 (x : Int)) h _
  rw [bits_Len64_eq]
  have g1 : ¬ (x : Int) ≥ 4294967296 := by omega
  have g2 : ¬ (x : Int) ≥ 65536 := by omega
  have g3 : ¬ (x : Int) ≥ 256 := by omega
  have w : IntKind.u8.wrap (x : Int) = (x : Int) := by simp [IntKind.wrap, IntKind.signed, IntKind.bits]; omega
  have l8 : lenOf x ≤ 8 := (lenOf_ok ⟨x, hx⟩).1
  have w2 : IntKind.i64.wrap (lenOf x : Int) = (lenOf x : Int) := i64_int (by omega)
  have w3 : IntKind.i64.wrap (0 + (lenOf x : Int)) = (lenOf x : Int) := by rw [Int.zero_add]; exact w2
  simp only [binNil_int, binV_geq, bindV_some, condK_bool, g1, decide_false, Bool.false_eq_true, if_false, idG_eq]
  rw [bits_Len64_j0_eq]
  simp only [binNil_int, binV_geq, bindV_some, condK_bool, g2, decide_false, Bool.false_eq_true, if_false, idG_eq]
  rw [bits_Len64_j1_eq]
  simp only [binNil_int, binV_geq, bindV_some, condK_bool, g3, decide_false, Bool.false_eq_true, if_false, idG_eq]
  rw [bits_Len64_j2_eq]
  simp only [wrapV_int, w, bindV_some]
  change bindV (idxT (.string lenTab) (.int .u8 (x : Int))) _
  simp only [len_tab hx, bindV_some, wrapV_int, w2, binV_add, w3]
  exact ⟨h, St.le.refl _, H⟩
def lenO : Abs.Spec := fun args h k => ∃ x : Nat, args = [.int .u64 x] ∧ x < 256 ∧ k (.int .i64 (lenOf x : Nat)) h
theorem lenO_good : SpecGood Try.prog (31, lenO) := by
  refine spec_good mixed Try.func31 (by kernel_rfl) (by kernel_rfl) (tab := [(42, len64O)]) (by simp [len64O_good]) (keep := bits_Len_keep) ?_
  rintro args h k ⟨x, rfl, hx, H⟩
  refine ⟨0, ?_⟩
  show bits_Len (tabC _) idG _ (.int .u64 (x : Int)) h _
  rw [bits_Len_eq]
  simp only [idG_eq]
  exact .inl ⟨rfl, x, rfl, hx, h, St.le.refl _, H⟩
theorem u64_of {x : Nat} (hx : x < 1000000) : IntKind.u64.wrap (x : Int) = (x : Int) := by simp [IntKind.wrap, IntKind.signed, IntKind.bits]; omega
def powO : Abs.Spec := fun args h k => ∃ x : Nat, args = [.int .i64 x] ∧ 0 < x ∧ x < 256 ∧ ∀ m : Nat, 0 < m → m ≤ 2 * x → m ≤ 256 → k (.int .u64 (m : Nat)) h
theorem powO_good : SpecGood Try.prog (44, powO) := by
  refine spec_good mixed Try.func44 (by kernel_rfl) (by kernel_rfl) (tab := [(31, lenO)]) (by simp [lenO_good]) (keep := slices_nextPowerOfTwo_keep) ?_
  rintro args h k ⟨x, rfl, h0, hx, H⟩
  refine ⟨0, ?_⟩
  show slices_nextPowerOfTwo (tabC _) idG _ (.int .i64 (x : Int)) h _
  rw [slices_nextPowerOfTwo_eq]
  simp only [wrapV_int, u64_of (show x < 1000000 by omega), bindV_some]
  refine .inl ⟨rfl, x, rfl, hx, ?_⟩
  obtain ⟨l1, l2⟩ := lenOf_ok ⟨x, hx⟩
  have l2 := l2 h0
  simp only at l1 l2
  have p8 : 2 ^ lenOf x ≤ 2 ^ 8 := Nat.pow_le_pow_right (by omega) l1
  have sh : binV .shl .other (.int .u64 1) (.int .i64 (lenOf x : Int)) = some (.int .u64 ((2 ^ lenOf x : Nat) : Int)) := by
    have n0 : ¬ (lenOf x : Int) < 0 := by omega
    have m1 : min (lenOf x) 64 = lenOf x := by omega
    simp only [binV, isShift, shiftV, n0, if_false, Int.toNat_natCast, IntKind.bits, m1, Int.one_mul]
    congr 2
    have : ((2 : Int) ^ lenOf x) = ((2 ^ lenOf x : Nat) : Int) := by simp
    rw [this]
    exact u64_of (by omega)
  have sh : binNil .shl .other (.int .u64 1) (.int .i64 (lenOf x : Int)) = some (.int .u64 ((2 ^ lenOf x : Nat) : Int)) := sh
  have p0 : 0 < 2 ^ lenOf x := Nat.pow_pos (by omega)
  generalize 2 ^ lenOf x = m at *
  simp only [sh, bindV_some]
  exact ⟨h, St.le.refl _, H m p0 l2 (by omega)⟩
/-! ### a number at random -/
theorem xor_some (s : Shp) (x y : Int) : ∃ z, binV .xor s (.int .u64 x) (.int .u64 y) = some (.int .u64 z) := by
  simp only [binV, isShift, intV, if_true]
  exact ⟨_, rfl⟩
theorem shl_some (s : Shp) (x : Int) (n : Nat) : ∃ z, binV .shl s (.int .u64 x) (.int .u64 (n : Int)) = some (.int .u64 z) := by
  have n0 : ¬ (n : Int) < 0 := by omega
  simp only [binV, isShift, shiftV, n0, if_false]
  exact ⟨_, rfl⟩
theorem shr_some (s : Shp) (x : Int) (n : Nat) : ∃ z, binV .shr s (.int .u64 x) (.int .u64 (n : Int)) = some (.int .u64 z) := by
  have n0 : ¬ (n : Int) < 0 := by omega
  simp only [binV, isShift, shiftV, n0, if_false]
  exact ⟨_, rfl⟩
def xorO : Abs.Spec := fun args h k => ∃ (p : Nat) (s : Int), args = [pS p 0] ∧ p < h.next ∧ h.objs p = some (.cells [.int .u64 s] true) ∧
  ∀ h' (s' : Int), Chg h h' [p] → h'.objs p = some (.cells [.int .u64 s'] true) → k (.int .u64 s') h'
theorem xorO_good : SpecGood Try.prog (45, xorO) := by
  refine spec_good mixed Try.func45 (by kernel_rfl) (by kernel_rfl) (tab := []) (by simp) (keep := slices_xorshift_Next_keep) ?_
  rintro args h k ⟨p, s, rfl, pn, op, H⟩
  refine ⟨0, ?_⟩
  show slices_xorshift_Next (tabC []) idG _ (pS p 0) h _
  rw [slices_xorshift_Next_eq]
  obtain ⟨a1, e1⟩ := shl_some .other s 13
  obtain ⟨b1, f1⟩ := xor_some .other s a1
  obtain ⟨a2, e2⟩ := shr_some .other b1 7
  obtain ⟨b2, f2⟩ := xor_some .other b1 a2
  obtain ⟨a3, e3⟩ := shl_some .other b2 17
  obtain ⟨b3, f3⟩ := xor_some .other b2 a3
  have e1 : binV .shl .other (.int .u64 s) (.int .u64 13) = some (.int .u64 a1) := e1
  have e2 : binV .shr .other (.int .u64 b1) (.int .u64 7) = some (.int .u64 a2) := e2
  have e3 : binV .shl .other (.int .u64 b2) (.int .u64 17) = some (.int .u64 a3) := e3
  simp only [pS, nilV_ptr, bindV_some, loadV_ptr, op, loadM_cells, partV_one, List.getElem?_cons_zero, true_and, binNil_int, e1, f1]
  refine storeE_all op rfl rfl rfl fun h1 c1 n1 o1 => ?_
  have o1 : h1.objs p = some (.cells [.int .u64 b1] true) := o1
  simp only [true_and, and_self, pS, nilV_ptr, bindV_some, loadV_ptr, o1, loadM_cells, partV_one, List.getElem?_cons_zero, binNil_int, e2, f2]
  refine storeE_all o1 rfl rfl rfl fun h2 c2 n2 o2 => ?_
  have o2 : h2.objs p = some (.cells [.int .u64 b2] true) := o2
  simp only [true_and, and_self, pS, nilV_ptr, bindV_some, loadV_ptr, o2, loadM_cells, partV_one, List.getElem?_cons_zero, binNil_int, e3, f3]
  refine storeE_all o2 rfl rfl rfl fun h3 c3 n3 o3 => ?_
  have o3 : h3.objs p = some (.cells [.int .u64 b3] true) := o3
  simp only [true_and, and_self, pS, nilV_ptr, bindV_some, loadV_ptr, o3, loadM_cells, partV_one, List.getElem?_cons_zero]
  exact ⟨h3, St.le.refl _, H h3 b3 ((c1.of_chg c2 (by simp)).of_chg c3 (by simp)) o3⟩
/-! ### patterns broken -/
theorem and_le (s : Shp) (x : Int) {m : Nat} (hm : m ≤ 256) : ∃ z : Nat, z ≤ m ∧ binV .and s (.int .u64 x) (.int .u64 (m : Int)) = some (.int .u64 (z : Int)) := by
  have hl : (BitVec.ofInt IntKind.u64.bits x &&& BitVec.ofInt IntKind.u64.bits (m : Int)).toNat ≤ m := by
    rw [BitVec.toNat_and]
    refine Nat.le_trans Nat.and_le_right ?_
    rw [BitVec.toNat_ofInt]
    show ((m : Int) % ((2 ^ 64 : Nat) : Int)).toNat ≤ m
    omega
  refine ⟨_, hl, ?_⟩
  simp only [binV, isShift, intV, if_true]
  rw [u64_of (by omega)]
def tabB : List (FuncId × Abs.Spec) := [(45, xorO), (44, powO)]
theorem tabB_good : ∀ p ∈ tabB, SpecGood Try.prog p := by simp [tabB, xorO_good, powO_good]
theorem brk_l0 {q N a b p m nn : Nat} {k : Cont} {h0 : St} {f0 : Nat → Int} (hN : N ≤ 255) (hab : a + 8 ≤ b) (hb : b ≤ N) (hm0 : 0 < m) (hm : m ≤ 2 * (b - a)) (hm6 : m ≤ 256) (hp : h0.next ≤ p) (hq : q < h0.next)
    (H : ∀ h' f', Chg h0 h' [q] → Dat q N f' h' → SwS a b f0 f' → k (.tuple #[]) h') :
    ∀ (dd i m0 : Nat) (h : St) (f : Nat → Int) (s : Int) (x10 : Value), a + (b - a) / 4 * 2 + 2 ≤ i + dd → dd < m0 → a ≤ i → Chg h0 h [q] → p < h.next → h.objs p = some (.cells [.int .u64 s] true) → Dat q N f h → SwS a b f0 f →
      slices_breakPatternsOrdered_l0 (tabC tabB) idG nn m0 (vS q N) (.int .i64 a) (.int .i64 ((b - a : Nat) : Int)) (pS p 0) (.int .u64 (m : Nat)) (.int .i64 i) x10 h k := by
  intro dd
  have q4 : binV .quo .other (.int .i64 ((b - a : Nat) : Int)) (.int .i64 4) = some (.int .i64 (((b - a) / 4 : Nat) : Int)) := quo_nat (b := 4) (by omega) (by omega)
  obtain ⟨l4, hl4⟩ : ∃ l4, l4 = (b - a) / 4 := ⟨_, rfl⟩
  rw [← hl4] at q4 ⊢
  have w2 : IntKind.i64.wrap ((l4 : Int) * 2) = ((l4 * 2 : Nat) : Int) := by rw [i64_in _ (by omega)]; omega
  have u2 : IntKind.i64.wrap ((a : Int) + ((l4 * 2 : Nat) : Int)) = ((a + l4 * 2 : Nat) : Int) := by rw [i64_in _ (by omega)]; omega
  induction dd with
  | zero =>
    intro i m0 h f s x10 hd hm1 hai c pn op d ss
    obtain ⟨m0, rfl⟩ : ∃ m, m0 = m + 1 := ⟨m0 - 1, by omega⟩
    rw [slices_breakPatternsOrdered_l0_eq]
    have e : ¬ (i : Int) ≤ ((a + l4 * 2 + 1 : Nat) : Int) := by omega
    simp only [binNil_int, q4, bindV_some, binV_mul, w2, binV_add, u2, i64_up (show a + l4 * 2 ≤ 1000000 by omega), binV_leq, condK_bool, e, decide_false, Bool.false_eq_true, if_false]
    exact H h f c d ss
  | succ dd ih =>
    intro i m0 h f s x10 hd hm1 hai c pn op d ss
    obtain ⟨m0, rfl⟩ : ∃ m, m0 = m + 1 := ⟨m0 - 1, by omega⟩
    rw [slices_breakPatternsOrdered_l0_eq]
    simp only [binNil_int, q4, bindV_some, binV_mul, w2, binV_add, u2, i64_up (show a + l4 * 2 ≤ 1000000 by omega), binV_leq, condK_bool]
    by_cases e : i ≤ a + l4 * 2 + 1
    · have e' : (i : Int) ≤ ((a + l4 * 2 + 1 : Nat) : Int) := by omega
      simp only [e', decide_true, if_true, idG_eq]
      refine .inl ⟨rfl, p, s, rfl, pn, op, fun h1 s1 c1 o1 => ?_⟩
      have m1 := c1.1
      have pq : p ≠ q := by omega
      have d1 := d.chg c1 (by simpa using Ne.symm pq)
      have dn : IntKind.u64.wrap ((m : Int) - 1) = ((m - 1 : Nat) : Int) := by
        rw [show (m : Int) - 1 = ((m - 1 : Nat) : Int) by omega]; exact u64_of (by omega)
      obtain ⟨z, hz, ez⟩ := and_le .other s1 (m := m - 1) (by omega)
      simp only [binNil_int, binV_sub, bindV_some, dn, ez, wrapV_int, i64_int (show z ≤ 1000000 by omega), binV_geq, condK_bool]
      have c01 : Chg h0 h1 [q] := c.of_chg c1 (by simp; exact .inr hp)
      -- the exchange
      have nxt : ∀ o : Nat, o < b - a → slices_breakPatternsOrdered_j1 (tabC tabB) idG nn m0 (vS q N) (.int .i64 a) (.int .i64 ((b - a : Nat) : Int)) (pS p 0) (.int .u64 (m : Nat)) (.int .i64 i) (.int .i64 (o : Nat)) h1 k := by
        intro o ho
        rw [slices_breakPatternsOrdered_j1_eq]
        have iN : i < N := by omega
        have oN : a + o < N := by omega
        simp only [binV_add, i64_sum (show a + o ≤ 1000000 by omega), bindV_some, Dat.idx q iN, Dat.idx q oN, d1.load iN, d1.load oN, true_and]
        refine d1.store iN fun h2 c2 n2 d2 => ?_
        simp only [true_and, and_self, Dat.idx q oN, bindV_some]
        refine d2.store oN fun h3 c3 n3 d3 => ?_
        simp only [true_and, and_self, idG_eq]
        rw [slices_breakPatternsOrdered_j2_eq]
        simp only [binNil_int, binV_add, bindV_some, i64_up (show i ≤ 1000000 by omega), idG_eq]
        have o3 := c3.at1 (by omega) pq (c2.at1 (by omega) pq o1)
        exact ih (i + 1) m0 h3 _ s1 _ (by omega) (by omega) (by omega) ((c01.of_chg c2 (by simp)).of_chg c3 (by simp)) (by omega) o3 d3 (ss.step i (a + o) (by omega) (by omega))
      by_cases g : (z : Int) ≥ ((b - a : Nat) : Int)
      · simp only [g, decide_true, if_true, binV_sub, i64_dif (show b - a ≤ z by omega) (show z ≤ 1000000 by omega), bindV_some, idG_eq]
        exact nxt _ (by omega)
      · simp only [g, decide_false, Bool.false_eq_true, if_false, idG_eq]
        exact nxt _ (by omega)
    · have e' : ¬ (i : Int) ≤ ((a + l4 * 2 + 1 : Nat) : Int) := by omega
      simp only [e', decide_false, Bool.false_eq_true, if_false]
      exact H h f c d ss
def brkO : Abs.Spec := fun args h k => ∃ (q N a b : Nat) (f : Nat → Int), args = [vS q N, .int .i64 a, .int .i64 b] ∧ N ≤ 255 ∧ a + 8 ≤ b ∧ b ≤ N ∧ Dat q N f h ∧
  ∀ h' f', Chg h h' [q] → Dat q N f' h' → SwS a b f f' → k (.tuple #[]) h'
theorem brkO_good : SpecGood Try.prog (34, brkO) := by
  refine spec_good mixed Try.func34 (by kernel_rfl) (by kernel_rfl) (tab := tabB) tabB_good (keep := slices_breakPatternsOrdered_keep) ?_
  rintro args h k ⟨q, N, a, b, f, rfl, hN, hab, hb, d, H⟩
  refine ⟨10, ?_⟩
  show slices_breakPatternsOrdered (tabC tabB) idG _ (vS q N) (.int .i64 a) (.int .i64 b) h _
  rw [slices_breakPatternsOrdered_eq]
  have g8 : ((b - a : Nat) : Int) ≥ 8 := by omega
  have q4 : binV .quo .other (.int .i64 ((b - a : Nat) : Int)) (.int .i64 4) = some (.int .i64 (((b - a) / 4 : Nat) : Int)) := quo_nat (b := 4) (by omega) (by omega)
  obtain ⟨l4, hl4⟩ : ∃ l4, l4 = (b - a) / 4 := ⟨_, rfl⟩
  rw [← hl4] at q4
  have w2 : IntKind.i64.wrap ((l4 : Int) * 2) = ((l4 * 2 : Nat) : Int) := by rw [i64_in _ (by omega)]; omega
  have u2 : IntKind.i64.wrap ((a : Int) + ((l4 * 2 : Nat) : Int)) = ((a + l4 * 2 : Nat) : Int) := by rw [i64_in _ (by omega)]; omega
  simp only [binV_sub, i64_dif (show a ≤ b by omega) (show b ≤ 1000000 by omega), bindV_some, binNil_int, binV_geq, g8, decide_true, condK_bool, if_true, wrapV_int, u64_of (show b - a < 1000000 by omega)]
  refine allocE_in fun h1 c1 n1 o1 => ?_
  refine storeE_all o1 rfl rfl rfl fun h2 c2 n2 o2 => ?_
  have o2 : h2.objs h.next = some (.cells [.int .u64 ((b - a : Nat) : Int)] true) := o2
  have c02 : Chg h h2 [] := c1.new c2 (Nat.le_refl _)
  refine .inr (.inl ⟨rfl, b - a, rfl, by omega, by omega, fun m m1 m2 m3 => ?_⟩)
  simp only [binNil_int, q4, bindV_some, binV_mul, w2, binV_add, u2, binV_sub, i64_dn (show 0 < a + l4 * 2 by omega) (show a + l4 * 2 ≤ 1000000 by omega), idG_eq]
  exact brk_l0 hN hab hb m1 m2 m3 (Nat.le_refl _) d.1 (fun h' f' c' d' s' => ⟨h', St.le.refl _, H h' f' c' d' s'⟩) 3 (a + l4 * 2 - 1) 10 h2 f _ _ (by omega) (by omega) (by omega) (c02.mono (by simp)) (by omega) o2 (d.chg c02 (by simp)) (.refl _)
/-! ### all of it -/
def pdqO (n : Nat) : Abs.Spec := fun args h k => ∃ (q N a b l : Nat) (f : Nat → Int), args = [vS q N, .int .i64 a, .int .i64 b, .int .i64 l] ∧ N ≤ 255 ∧ l ≤ 255 ∧ a ≤ b ∧ b ≤ N ∧ b - a < n ∧ Dat q N f h ∧ LB f a b ∧
  ∀ h' f', Chg h h' [q] → Dat q N f' h' → SwS a b f f' → Srt f' a b → k (.tuple #[]) h'
end Go.Proofs.Ytdgonebknphkcaa

/- The library's sort: all of it. -/
set_option linter.unusedSimpArgs false
set_option linter.unusedVariables false
set_option maxHeartbeats 4000000
namespace Go.Proofs.Ytdgonebknphkcaa
open Go.Abs Go.IntWalk
attribute [local congr] bindV_weak condK_weak guardK_weak groupK_weak allocE_weak boxE_weak storeE_weak storeM_weak tabC_weak ite_weak idG_weak appendE_weak buildSliceE_weak mapUpdateE_weak deleteE_weak makeMapE_weak copyE_weak clearE_weak callE_weak

def tabQ (n : Nat) : List (FuncId × Abs.Spec) := [(32, insO), (33, heapO), (34, brkO), (35, pivO), (36, revO), (37, pinO), (38, lessO), (39, peqO), (40, parO), (30, pdqO n)]
theorem ord_left {f g : Nat → Int} {A B a b m : Nat} (od : Ord f A B a b) (p : Parted f a b m) (s : SwS a m f g) (srt : Srt g a m) : Ord g A B (m + 1) b := by
  obtain ⟨p1, p2, p3, p4⟩ := p
  refine (od.perm (s.mono (Nat.le_refl _) (by omega))).front ⟨by omega, by omega⟩ fun x y x1 xy yb xm => ?_
  have lo : ∀ z, a ≤ z → z < m → g z ≤ f m := s.all (P := fun v => v ≤ f m) p3
  have hi : ∀ z, m ≤ z → g z = f z := fun z hz => s.out (.inr hz)
  by_cases e : x < m
  · by_cases e2 : y < m
    · exact srt x y x1 xy e2
    · rw [hi y (by omega)]
      by_cases e3 : y = m
      · subst e3; exact lo x x1 e
      · exact Int.le_trans (lo x x1 e) (p4 y (by omega) yb)
  · have : x = m := by omega
    subst this
    rw [hi x (by omega), hi y (by omega)]
    exact p4 y (by omega) yb
theorem ord_right {f g : Nat → Int} {A B a b m : Nat} (od : Ord f A B a b) (p : Parted f a b m) (s : SwS (m + 1) b f g) (srt : Srt g (m + 1) b) : Ord g A B a m := by
  obtain ⟨p1, p2, p3, p4⟩ := p
  refine (od.perm (s.mono (by omega) (Nat.le_refl _))).back ⟨by omega, by omega⟩ fun x y x1 xy yb xm => ?_
  have hi : ∀ z, m + 1 ≤ z → z < b → f m ≤ g z := s.all (P := fun v => f m ≤ v) (fun z z1 z2 => p4 z (by omega) z2)
  have lo : ∀ z, z ≤ m → g z = f z := fun z hz => s.out (.inl (by omega))
  by_cases e : m < x
  · exact srt x y (by omega) xy yb
  · rw [lo x (by omega)]
    have fx : f x ≤ f m := by
      by_cases e3 : x = m
      · subst e3; exact Int.le_refl _
      · exact p3 x x1 (by omega)
    by_cases e2 : y = m
    · subst e2; rw [lo y (by omega)]; exact fx
    · exact Int.le_trans fx (hi y (by omega) yb)
theorem ord_eq {f g : Nat → Int} {A B a b m : Nat} (od : Ord g A B a b) (lb : LB g a b) (h0 : 0 < a) (le : g a ≤ g (a - 1)) (e : EqP g a b m) : Ord g A B m b := by
  obtain ⟨e1, e2, e3, e4⟩ := e
  refine od.front ⟨by omega, e2⟩ fun x y x1 xy yb xm => ?_
  exact Int.le_trans (Int.le_trans (e3 x x1 xm) le) (lb h0 y (by omega) yb)
section
variable {q N A B n nn : Nat} {k : Cont} {h0 : St} {f0 : Nat → Int}
theorem pdq_l0 (hN : N ≤ 255) (hB : B ≤ N) (hn : B - A ≤ n)
    (H : ∀ h' f', Chg h0 h' [q] → Dat q N f' h' → SwS A B f0 f' → Srt f' A B → k (.tuple #[]) h') :
    ∀ (d a b l m0 : Nat) (h : St) (f : Nat → Int) (wb wp : Bool) (x10 x11 x12 : Value), b - a ≤ d → d < m0 → l ≤ 255 → Chg h0 h [q] → Dat q N f h → SwS A B f0 f → Ord f A B a b → LB f A B →
      slices_pdqsortOrdered_l0 (tabC (tabQ n)) idG nn m0 (vS q N) (.int .i64 a) (.int .i64 b) (.int .i64 l) (.bool wb) (.bool wp) x10 x11 x12 h k := by
  intro d
  induction d using Nat.strongRecOn with
  | ind d ih =>
    intro a b l m0 h f wb wp x10 x11 x12 hd hm hl c dt s od lb
    obtain ⟨m0, rfl⟩ : ∃ m, m0 = m + 1 := ⟨m0 - 1, by omega⟩
    rw [slices_pdqsortOrdered_l0_eq]
    have ab := od.2.1
    have Aa := od.1
    have bB := od.2.2.1
    -- a part sorted at the end
    have fin : ∀ h1 f1, Chg h0 h1 [q] → Dat q N f1 h1 → SwS A B f0 f1 → Ord f1 A B a b → Srt f1 a b → k (.tuple #[]) h1 := fun h1 f1 c1 d1 s1 o1 t1 => H h1 f1 c1 d1 s1 (o1.done t1)
    simp only [binV_sub, i64_dif ab (show b ≤ 1000000 by omega), bindV_some, binNil_int, binV_leq, condK_bool]
    by_cases g : ((b - a : Nat) : Int) ≤ 12
    · simp only [g, decide_true, if_true]
      refine cK (S := insO) (by simp [tabQ]) ⟨q, N, a, b, f, rfl, hN, ab, by omega, dt, fun h1 f1 c1 d1 s1 t1 => ?_⟩
      exact fin h1 f1 (c.of_chg c1 (by simp)) d1 (s.trans (s1.mono Aa bB)) (od.perm s1) t1
    · simp only [g, decide_false, Bool.false_eq_true, if_false, idG_eq, binNil_int, binV_eql, bindV_some, condK_bool]
      by_cases l0 : (l : Int) = 0
      · simp only [l0, decide_true, if_true]
        refine cK (S := heapO) (by simp [tabQ]) ⟨q, N, a, b, f, rfl, hN, by omega, by omega, dt, fun h1 f1 c1 d1 s1 t1 => ?_⟩
        exact fin h1 f1 (c.of_chg c1 (by simp)) d1 (s.trans (s1.mono Aa bB)) (od.perm s1) t1
      · -- behind the choice
        have j3 : ∀ (h : St) (f : Nat → Int) (l p : Nat) (x12 : Value), l ≤ 255 → Chg h0 h [q] → Dat q N f h → SwS A B f0 f → Ord f A B a b → LB f A B → a ≤ p → p < b →
            slices_pdqsortOrdered_j3 (tabC (tabQ n)) idG nn m0 (vS q N) (.int .i64 a) (.int .i64 b) (.int .i64 l) (.bool wb) (.bool wp) (.int .i64 ((b - a : Nat) : Int)) (.int .i64 p) x12 h k := by
          intro h f l p x12 hl c dt s od lb p1 p2
          rw [slices_pdqsortOrdered_j3_eq]
          have pN : p < N := by omega
          have par : tabC (tabQ n) 40 [vS q N, .int .i64 a, .int .i64 b, .int .i64 p] h fun v99 h18 => bindV (extV 0 v99) fun v100 => bindV (extV 1 v99) fun v101 => bindV (binV .sub .other v100 (.int .i64 (a : Int))) fun v105 => bindV (binV .sub .other (.int .i64 (b : Int)) v100) fun v108 => bindV (binNil .quo .other (.int .i64 ((b - a : Nat) : Int)) (.int .i64 8)) fun v110 => bindV (binV .lss .other v105 v108) fun v113 => condK v113 (bindV (binV .geq .other v105 v110) fun v116 => tabC (tabQ n) 30 [vS q N, .int .i64 a, v100, .int .i64 l] h18 fun _ h19 => bindV (binNil .add .other v100 (.int .i64 1)) fun v123 => idG (slices_pdqsortOrdered_l0 (tabC (tabQ n)) idG nn m0 (vS q N) v123 (.int .i64 b) (.int .i64 l) v116 v101 (.int .i64 ((b - a : Nat) : Int)) (.int .i64 p) x12 h19 k)) (bindV (binV .geq .other v108 v110) fun v126 => bindV (binNil .add .other v100 (.int .i64 1)) fun v129 => tabC (tabQ n) 30 [vS q N, v129, .int .i64 b, .int .i64 l] h18 fun _ h20 => idG (slices_pdqsortOrdered_l0 (tabC (tabQ n)) idG nn m0 (vS q N) (.int .i64 a) v100 (.int .i64 l) v126 v101 (.int .i64 ((b - a : Nat) : Int)) (.int .i64 p) x12 h20 k)) := by
            refine cK (S := parO) (by simp [tabQ]) ⟨q, N, a, b, p, f, rfl, hN, by omega, by omega, p1, p2, dt, fun h1 f1 m bb c1 d1 s1 pt => ?_⟩
            have od1 := od.perm s1
            have st1 : SwS A B f f1 := s1.mono Aa bB
            have lb1 := lb.perm st1
            have c01 := c.of_chg c1 (by simp)
            have pt0 := pt
            obtain ⟨m1, m2, m3, m4⟩ := pt
            have q8 : binV .quo .other (.int .i64 ((b - a : Nat) : Int)) (.int .i64 8) = some (.int .i64 (((b - a) / 8 : Nat) : Int)) := quo_nat (b := 8) (by omega) (by omega)
            simp only [extV_two0, extV_two1, bindV_some, binV_sub, i64_dif m1 (show m ≤ 1000000 by omega), i64_dif (show m ≤ b by omega) (show b ≤ 1000000 by omega), binNil_int, q8, binV_lss, condK_bool, binV_geq]
            by_cases lr : ((m - a : Nat) : Int) < ((b - m : Nat) : Int)
            · simp only [lr, decide_true, if_true, binV_geq, bindV_some]
              refine cK (S := pdqO n) (by simp [tabQ]) ⟨q, N, a, m, l, f1, rfl, hN, hl, m1, by omega, by omega, d1, fun h0 z z1 z2 => (od1.lb lb1) h0 z z1 (by omega), fun h2 f2 c2 d2 s2 t2 => ?_⟩
              simp only [binNil_int, binV_add, bindV_some, i64_up (show m ≤ 1000000 by omega), idG_eq]
              have st2 : SwS A B f1 f2 := s2.mono Aa (by omega)
              exact ih (b - (m + 1)) (by omega) (m + 1) b l m0 h2 f2 _ _ _ _ _ (Nat.le_refl _) (by omega) hl (c01.of_chg c2 (by simp)) d2 ((s.trans st1).trans st2) (ord_left od1 pt0 s2 t2) (lb1.perm st2)
            · simp only [lr, decide_false, Bool.false_eq_true, if_false, binV_geq, bindV_some, binNil_int, binV_add, i64_up (show m ≤ 1000000 by omega)]
              refine cK (S := pdqO n) (by simp [tabQ]) ⟨q, N, m + 1, b, l, f1, rfl, hN, hl, by omega, by omega, by omega, d1, fun h0 z z1 z2 => m4 z (by omega) z2, fun h2 f2 c2 d2 s2 t2 => ?_⟩
              simp only [idG_eq]
              have st2 : SwS A B f1 f2 := s2.mono (by omega) bB
              exact ih (m - a) (by omega) a m l m0 h2 f2 _ _ _ _ _ (Nat.le_refl _) (by omega) hl (c01.of_chg c2 (by simp)) d2 ((s.trans st1).trans st2) (ord_right od1 pt0 s2 t2) (lb1.perm st2)
          simp only [binNil_int, binV_gtr, bindV_some, groupK_eq, guardK_bool]
          by_cases a0 : (a : Int) > 0
          · have aN : a - 1 < N := by omega
            simp only [a0, decide_true, if_true, binNil_int, binV_sub, i64_dn (show 0 < a by omega) (show a ≤ 1000000 by omega), bindV_some, Dat.idx q aN, dt.load aN, true_and, Dat.idx q pN, dt.load pN]
            refine cK (S := lessO) (by simp [tabQ]) ⟨_, _, rfl, ?_⟩
            simp only [true_and, and_self, unV_not, bindV_some, idG_eq, a0, decide_true, pickV_bool, if_true, getT, condK_bool]
            by_cases le : f (a - 1) < f p
            · simp only [le, decide_true, Bool.not_true, Bool.false_eq_true, if_false]
              exact par
            · simp only [le, decide_false, Bool.not_false, if_true]
              refine cK (S := peqO) (by simp [tabQ]) ⟨q, N, a, b, p, f, rfl, hN, by omega, by omega, p1, p2, dt, fun h1 f1 m c1 d1 s1 fa ep => ?_⟩
              simp only [idG_eq]
              have st1 : SwS A B f f1 := s1.mono Aa bB
              have od1 := od.perm s1
              have lb1 := lb.perm st1
              have am := ep.1
              have mb := ep.2.1
              exact ih (b - m) (by omega) m b l m0 h1 f1 _ _ _ _ _ (Nat.le_refl _) (by omega) hl (c.of_chg c1 (by simp)) d1 (s.trans st1) (ord_eq (f := f) od1 (od1.lb lb1) (by omega) (by rw [fa, s1.out (.inl (by omega))]; omega) ep) lb1
          · simp only [a0, decide_false, Bool.false_eq_true, if_false, idG_eq, pickV_bool, bindV_some, condK_bool]
            exact par
        have j2 : ∀ (h : St) (f : Nat → Int) (l p : Nat) (hint : Int), l ≤ 255 → Chg h0 h [q] → Dat q N f h → SwS A B f0 f → Ord f A B a b → LB f A B → a ≤ p → p < b →
            slices_pdqsortOrdered_j2 (tabC (tabQ n)) idG nn m0 (vS q N) (.int .i64 a) (.int .i64 b) (.int .i64 l) (.bool wb) (.bool wp) (.int .i64 ((b - a : Nat) : Int)) (.int .i64 p) (.int .i64 hint) h k := by
          intro h f l p hint hl c dt s od lb p1 p2
          rw [slices_pdqsortOrdered_j2_eq]
          have pins : tabC (tabQ n) 37 [vS q N, .int .i64 a, .int .i64 b] h fun v72 h12 => condK v72 (k (.tuple #[]) h12) (idG (slices_pdqsortOrdered_j3 (tabC (tabQ n)) idG nn m0 (vS q N) (.int .i64 a) (.int .i64 b) (.int .i64 l) (.bool wb) (.bool wp) (.int .i64 ((b - a : Nat) : Int)) (.int .i64 p) (.int .i64 hint) h12 k)) := by
            refine cK (S := pinO) (by simp [tabQ]) ⟨q, N, a, b, f, rfl, hN, by omega, by omega, dt, od.lb lb, fun bb h1 f1 c1 d1 s1 t1 => ?_⟩
            have st1 : SwS A B f f1 := s1.mono Aa bB
            cases bb with
            | true =>
              simp only [condK_bool, if_true]
              exact fin h1 f1 (c.of_chg c1 (by simp)) d1 (s.trans st1) (od.perm s1) (t1 rfl)
            | false =>
              simp only [condK_bool, Bool.false_eq_true, if_false, idG_eq]
              exact j3 h1 f1 l p _ hl (c.of_chg c1 (by simp)) d1 (s.trans st1) (od.perm s1) (lb.perm st1) p1 p2
          have non := j3 h f l p (.int .i64 hint) hl c dt s od lb p1 p2
          cases wb with
          | false =>
            simp only [groupK_eq, guardK_bool, Bool.false_eq_true, if_false, idG_eq, pickV_bool, bindV_some, condK_bool]
            exact non
          | true =>
            cases wp with
            | false =>
              simp only [groupK_eq, guardK_bool, if_true, Bool.false_eq_true, if_false, idG_eq, pickV_bool, bindV_some, getT, condK_bool]
              exact non
            | true =>
              simp only [groupK_eq, guardK_bool, if_true, binNil_int, binV_eql, idG_eq, pickV_bool, bindV_some, getT, condK_bool]
              by_cases hh : hint = 1
              · simp only [hh, decide_true, if_true]
                exact pins
              · simp only [hh, decide_false, Bool.false_eq_true, if_false]
                exact non
        have j1 : ∀ (h : St) (f : Nat → Int) (l : Nat) (x11 x12 : Value), l ≤ 255 → Chg h0 h [q] → Dat q N f h → SwS A B f0 f → Ord f A B a b → LB f A B →
            slices_pdqsortOrdered_j1 (tabC (tabQ n)) idG nn m0 (vS q N) (.int .i64 a) (.int .i64 b) (.int .i64 l) (.bool wb) (.bool wp) (.int .i64 ((b - a : Nat) : Int)) x11 x12 h k := by
          intro h f l x11 x12 hl c dt s od lb
          rw [slices_pdqsortOrdered_j1_eq]
          refine cK (S := pivO) (by simp [tabQ]) ⟨q, N, a, b, f, rfl, hN, by omega, by omega, dt, fun h1 m hint c1 m1 m2 => ?_⟩
          have d1 := dt.chg c1 (by simp)
          have c01 : Chg h0 h1 [q] := c.of_chg c1 (by simp)
          simp only [extV_two0, extV_two1, bindV_some, binNil_int, binV_eql, condK_bool]
          by_cases hh : hint = 2
          · simp only [hh, decide_true, if_true]
            refine cK (S := revO) (by simp [tabQ]) ⟨q, N, a, b, f, rfl, hN, by omega, by omega, d1, fun h2 f2 c2 d2 s2 => ?_⟩
            have st2 : SwS A B f f2 := s2.mono Aa bB
            simp only [binNil_int, binV_sub, bindV_some, i64_dn (show 0 < b by omega) (show b ≤ 1000000 by omega), i64_dif m1 (show m ≤ 1000000 by omega), i64_dif (show m - a ≤ b - 1 by omega) (show b - 1 ≤ 1000000 by omega), idG_eq]
            exact j2 h2 f2 l _ 1 hl (c01.of_chg c2 (by simp)) d2 (s.trans st2) (od.perm s2) (lb.perm st2) (by omega) (by omega)
          · simp only [hh, decide_false, Bool.false_eq_true, if_false, idG_eq]
            exact j2 h1 f l m hint hl c01 d1 s od lb m1 m2
        simp only [l0, decide_false, Bool.false_eq_true, if_false, idG_eq, unV_not, bindV_some, condK_bool]
        cases wb with
        | false =>
          simp only [Bool.not_false, if_true]
          refine cK (S := brkO) (by simp [tabQ]) ⟨q, N, a, b, f, rfl, hN, by omega, by omega, dt, fun h1 f1 c1 d1 s1 => ?_⟩
          have st1 : SwS A B f f1 := s1.mono Aa bB
          simp only [binNil_int, binV_sub, bindV_some, i64_dn (show 0 < l by omega) (show l ≤ 1000000 by omega), idG_eq]
          exact j1 h1 f1 (l - 1) _ _ (by omega) (c.of_chg c1 (by simp)) d1 (s.trans st1) (od.perm s1) (lb.perm st1)
        | true =>
          simp only [Bool.not_true, Bool.false_eq_true, if_false]
          exact j1 h f l _ _ hl c dt s od lb
end
theorem pdqO_good : ∀ n, SpecGood Try.prog (30, pdqO n)
  | 0 => ⟨fun args h k ⟨q, N, a, b, l, f, _, _, _, _, _, hn, _⟩ => absurd hn (by omega), fun args h k ⟨q, N, a, b, l, f, _, _, _, _, _, hn, _⟩ => absurd hn (by omega)⟩
  | n + 1 => by
    have tg : ∀ p ∈ tabQ n, SpecGood Try.prog p := by simp [tabQ, insO_good, heapO_good, brkO_good, pivO_good, revO_good, pinO_good, lessO_good, peqO_good, parO_good, pdqO_good n]
    refine spec_good mixed Try.func30 (by kernel_rfl) (by kernel_rfl) (tab := tabQ n) tg (keep := slices_pdqsortOrdered_keep) ?_
    rintro args h k ⟨q, N, a, b, l, f, rfl, hN, hl, hab, hb, hn, d, lb, H⟩
    refine ⟨b + 2, ?_⟩
    show slices_pdqsortOrdered (tabC (tabQ n)) idG _ (vS q N) (.int .i64 a) (.int .i64 b) (.int .i64 l) h _
    rw [slices_pdqsortOrdered_eq]
    simp only [idG_eq]
    exact pdq_l0 hN hb (by omega) (fun h' f' c' d' s' t' => ⟨h', St.le.refl _, H h' f' c' d' s' t'⟩) (b - a) a b l _ h f true true _ _ _ (Nat.le_refl _) (by omega) hl (Chg.refl _ _) d (.refl _) (ord_start f hab) lb
/-! ### nothing to sort -/
def insN : Abs.Spec := fun args h k => args = [.slice none 0 0, .int .i64 0, .int .i64 0] ∧ k (.tuple #[]) h
theorem insN_good : SpecGood Try.prog (32, insN) := by
  refine spec_good mixed Try.func32 (by kernel_rfl) (by kernel_rfl) (tab := []) (by simp) (keep := slices_insertionSortOrdered_keep) ?_
  rintro args h k ⟨rfl, H⟩
  refine ⟨1, ?_⟩
  show slices_insertionSortOrdered (tabC []) idG _ (.slice none 0 0) (.int .i64 0) (.int .i64 0) h _
  rw [slices_insertionSortOrdered_eq]
  have w : IntKind.i64.wrap ((0 : Int) + 1) = 1 := i64_in _ (by omega)
  have e : ¬ (1 : Int) < 0 := by omega
  simp only [binNil_int, binV_add, bindV_some, w, idG_eq]
  rw [slices_insertionSortOrdered_l0_eq]
  simp only [binV_lss, bindV_some, condK_bool, e, decide_false, Bool.false_eq_true, if_false]
  exact ⟨h, St.le.refl _, H⟩
def pdqN : Abs.Spec := fun args h k => ∃ l : Int, args = [.slice none 0 0, .int .i64 0, .int .i64 0, .int .i64 l] ∧ k (.tuple #[]) h
theorem pdqN_good : SpecGood Try.prog (30, pdqN) := by
  refine spec_good mixed Try.func30 (by kernel_rfl) (by kernel_rfl) (tab := [(32, insN)]) (by simp [insN_good]) (keep := slices_pdqsortOrdered_keep) ?_
  rintro args h k ⟨l, rfl, H⟩
  refine ⟨1, ?_⟩
  show slices_pdqsortOrdered (tabC _) idG _ (.slice none 0 0) (.int .i64 0) (.int .i64 0) (.int .i64 l) h _
  rw [slices_pdqsortOrdered_eq]
  have w : IntKind.i64.wrap ((0 : Int) - 0) = 0 := i64_in _ (by omega)
  have e : (0 : Int) ≤ 12 := by omega
  simp only [idG_eq]
  rw [slices_pdqsortOrdered_l0_eq]
  simp only [binV_sub, bindV_some, w, binNil_int, binV_leq, condK_bool, e, decide_true, if_true]
  exact .inl ⟨rfl, rfl, h, St.le.refl _, H⟩
/-- A row of one's own is sorted. -/
def sortO : Abs.Spec := fun args h k => ∃ (B : Nat → Prop) (v : Value) (L : List Int), args = [v] ∧ L.length ≤ 255 ∧ OwnS B h v 1 (L.map (.int .u64)) L.length ∧
  ∀ h' (L' : List Int), ChgP B h h' → OwnS B h' v 1 (L'.map (.int .u64)) L'.length → L'.Perm L → L'.Pairwise (· ≤ ·) → k (.tuple #[]) h'
theorem cells_list (L : List Int) : L.map (Value.int .u64) = cellsS (fun i => L[i]?.getD 0) L.length := by
  apply List.ext_getElem?
  intro i
  by_cases hi : i < L.length
  · simp [cellsS, hi]
  · simp [cellsS, hi]
theorem sortO_good : SpecGood Try.prog (27, sortO) := by
  have tg : ∀ p ∈ [(31, lenO), (30, pdqO 256), (30, pdqN)], SpecGood Try.prog p := by simp [lenO_good, pdqO_good, pdqN_good]
  refine spec_good mixed Try.func27 (by kernel_rfl) (by kernel_rfl) (tab := [(31, lenO), (30, pdqO 256), (30, pdqN)]) tg (keep := slices_Sort_keep) ?_
  rintro args h k ⟨B, v, L, rfl, hl, s, H⟩
  refine ⟨0, ?_⟩
  show slices_Sort (tabC _) idG _ v h _
  rw [slices_Sort_eq]
  simp only [s.len, bindV_some, wrapV_int, u64_of (show L.length < 1000000 by omega)]
  refine .inl ⟨rfl, L.length, rfl, by omega, ?_⟩
  have l8 : lenOf L.length ≤ 8 := (lenOf_ok ⟨L.length, by omega⟩).1
  rcases s with ⟨rfl, h0, _⟩ | ⟨q, rfl, g2, g3, g4, g5⟩
  · -- nothing to sort
    have : L = [] := List.length_eq_zero_iff.1 h0
    subst this
    exact .inr (.inr (.inl ⟨rfl, _, rfl, h, St.le.refl _, H h [] (ChgP.refl _ _) (.inl ⟨rfl, rfl, rfl⟩) (.refl _) .nil⟩))
  · have d : Dat q L.length (fun i => L[i]?.getD 0) h := ⟨g3, by rw [g4, cells_list]⟩
    refine .inr (.inl ⟨rfl, q, L.length, 0, L.length, lenOf L.length, _, rfl, hl, by omega, by omega, by omega, by omega, d, fun h0 => absurd h0 (by omega), fun h' f' c' d' s' t' => ?_⟩)
    obtain ⟨L', hL'⟩ : ∃ L', L' = (List.range L.length).map f' := ⟨_, rfl⟩
    have len : L'.length = L.length := by rw [hL']; simp
    have hp : (List.range L.length).map (fun i => L[i]?.getD 0) = L := by
      apply List.ext_getElem?
      intro i
      by_cases hi : i < L.length
      · simp [hi]
      · simp [hi]
    have pm := s'.perm (Nat.le_refl L.length)
    rw [hp, ← hL'] at pm
    have cl : L'.map (Value.int .u64) = cellsS f' L.length := by rw [hL']; simp [cellsS, Function.comp_def]
    refine ⟨h', St.le.refl _, H h' L' (c'.toP (by simpa using g2)) (.inr ⟨q, by rw [len], g2, d'.1, by rw [d'.2, cl], by simp⟩) pm (by rw [hL']; exact t'.list)⟩
end Go.Proofs.Ytdgonebknphkcaa
