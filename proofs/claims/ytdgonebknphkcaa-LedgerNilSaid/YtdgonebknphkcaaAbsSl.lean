/- Slices over the abstract heap: those that are read, one's own, appending. -/
import Derived.Test.YtdgonebknphkcaaAbsKit
set_option linter.unusedSimpArgs false
set_option linter.unusedVariables false
namespace Go.Abs

theorem takeN_some {cs l : List Value} {o n : Nat} (h : takeN cs o n = some l) : o + n ≤ cs.length ∧ l = (cs.drop o).take n ∧ l.length = n := by
  unfold takeN at h
  split at h
  · rename_i hl
    cases h
    refine ⟨hl, rfl, ?_⟩
    rw [List.length_take, List.length_drop]
    omega
  · cases h
theorem takeN_get {cs l : List Value} {o n j : Nat} (h : takeN cs o n = some l) (hj : j < n) : cs[o + j]? = l[j]? := by
  obtain ⟨_, rfl, _⟩ := takeN_some h
  rw [List.getElem?_take, if_pos hj, List.getElem?_drop]
theorem takeN_sub {cs l : List Value} {o n o' m : Nat} (h : takeN cs o n = some l) (hm : o' + m ≤ n) : takeN cs (o + o') m = some ((l.drop o').take m) := by
  obtain ⟨h1, rfl, _⟩ := takeN_some h
  unfold takeN
  rw [if_pos (by omega)]
  congr 1
  rw [List.drop_take, List.take_take, List.drop_drop, Nat.min_eq_left (by omega)]
theorem takeN_flat {α : Type} {f : α → List Value} {sz : Nat} : ∀ (L : List α) (i : Nat) (x : α), (∀ y ∈ L, (f y).length = sz) → L[i]? = some x → takeN (L.flatMap f) (i * sz) sz = some (f x)
  | [], i, x, hf, h => by simp at h
  | y :: L, 0, x, hf, h => by
    simp at h; subst h
    have hy := hf y (by simp)
    unfold takeN
    rw [Nat.zero_mul, Nat.zero_add, if_pos (by rw [List.flatMap_cons, List.length_append]; omega), List.drop_zero, List.flatMap_cons, ← hy, List.take_append_of_le_length (Nat.le_refl _), List.take_length]
  | y :: L, i + 1, x, hf, h => by
    have ih := takeN_flat L i x (fun y hy => hf y (by simp [hy])) (by simpa using h)
    have hy := hf y (by simp)
    unfold takeN at ih ⊢
    split at ih
    · rename_i hl
      have e : (i + 1) * sz = (f y).length + i * sz := by rw [hy, Nat.succ_mul]; omega
      rw [if_pos (by simp only [List.flatMap_cons, List.length_append]; omega)]
      rw [List.flatMap_cons, e, List.drop_append, List.drop_eq_nil_of_le (by omega), List.nil_append, Nat.add_sub_cancel_left]
      exact ih
    · cases ih

/-- A slice, as it is read: its rows, in a block of a kind. -/
def SliceAt (B : Nat → Prop) (h : St) (v : Value) (n sz : Nat) (row : Nat → List Value) : Prop :=
  (v = .slice none 0 0 ∧ n = 0) ∨ ∃ b off sp c, v = .slice (some ⟨b, off, sp⟩) n c ∧ (0 < n → B b ∧ b < h.next ∧ ∃ cs own, h.objs b = some (.cells cs own) ∧ ∀ i, i < n → takeN cs (off + i * sz) sz = some (row i))
theorem SliceAt.len {B : Nat → Prop} {h : St} {v : Value} {n sz : Nat} {row : Nat → List Value} (s : SliceAt B h v n sz row) : lenS v = some (.int .i64 n) := by
  rcases s with ⟨rfl, rfl⟩ | ⟨b, off, sp, c, rfl, _⟩ <;> rfl
theorem SliceAt.idx {B : Nat → Prop} {h : St} {v : Value} {n sz : Nat} {row : Nat → List Value} (s : SliceAt B h v n sz row) {i : Int} (h0 : 0 ≤ i) (h1 : i < n) (k : IntKind) :
    ∃ b o, idxS sz v (.int k i) = some (.pointer (some ⟨b, o, none⟩)) ∧ B b ∧ b < h.next ∧ ∃ cs own, h.objs b = some (.cells cs own) ∧ takeN cs o sz = some (row i.toNat) := by
  rcases s with ⟨rfl, rfl⟩ | ⟨b, off, sp, c, rfl, hs⟩
  · omega
  · obtain ⟨g1, g2, cs, own, g3, g4⟩ := hs (by omega)
    exact ⟨b, off + i.toNat * sz, by simp [idxS, h0, h1], g1, g2, cs, own, g3, g4 _ (by omega)⟩
theorem SliceAt.chg {B : Nat → Prop} {h h' : St} {v : Value} {n sz : Nat} {row : Nat → List Value} (s : SliceAt B h v n sz row) {S : List Nat} (c : Chg h h' S) (hS : ∀ i ∈ S, ¬ B i) : SliceAt B h' v n sz row := by
  rcases s with hs | ⟨b, off, sp, cc, hv, hs⟩
  · exact .inl hs
  · refine .inr ⟨b, off, sp, cc, hv, fun hn => ?_⟩
    obtain ⟨g1, g2, cs, own, g3, g4⟩ := hs hn
    exact ⟨g1, Nat.lt_of_lt_of_le g2 c.1, cs, own, c.at g2 (fun hi => hS b hi g1) g3, g4⟩
theorem RowIn.slice {h : St} {v : Value} {n sz : Nat} {rows : Nat → List Value} (r : RowIn h v n sz rows) (wf : h.Wf) (hl : ∀ i, i < n → (rows i).length = sz) : SliceAt (· < h.next) h v n sz rows := by
  rcases r with hs | ⟨b, off, c, hv, hs⟩
  · exact .inl hs
  · refine .inr ⟨b, off, none, c, hv, fun hn => ?_⟩
    obtain ⟨cs, g1, g2⟩ := hs hn
    refine ⟨wf _ _ g1, wf _ _ g1, cs, false, g1, fun i hi => ?_⟩
    have e := takeN_sub (o' := i * sz) (m := sz) g2 (by
      have : (i + 1) * sz ≤ n * sz := Nat.mul_le_mul_right _ hi
      rw [Nat.succ_mul] at this; exact this)
    rw [e]
    have f := takeN_flat (f := rows) (sz := sz) (List.range n) i i (fun y hy => hl y (by simpa using hy)) (by simp [hi])
    unfold takeN at f
    split at f
    · exact f
    · cases f

/-- A slice of one's own: all of its cells. -/
def OwnS (B : Nat → Prop) (h : St) (v : Value) (sz : Nat) (cs : List Value) (n : Nat) : Prop :=
  (v = .slice none 0 0 ∧ n = 0 ∧ cs = []) ∨ ∃ q, v = .slice (some ⟨q, 0, some sz⟩) n 0 ∧ B q ∧ q < h.next ∧ h.objs q = some (.cells cs true) ∧ cs.length = n * sz
theorem OwnS.len {B : Nat → Prop} {h : St} {v : Value} {n sz : Nat} {cs : List Value} (s : OwnS B h v sz cs n) : lenS v = some (.int .i64 n) := by
  rcases s with ⟨rfl, rfl, _⟩ | ⟨q, rfl, _⟩ <;> rfl
theorem OwnS.chg {B : Nat → Prop} {h h' : St} {v : Value} {n sz : Nat} {cs : List Value} (s : OwnS B h v sz cs n) {S : List Nat} (c : Chg h h' S) (hS : ∀ i ∈ S, ¬ B i) : OwnS B h' v sz cs n := by
  rcases s with hs | ⟨q, g1, g2, g3, g4, g5⟩
  · exact .inl hs
  · exact .inr ⟨q, g1, g2, Nat.lt_of_lt_of_le g3 c.1, c.at g3 (fun hi => hS q hi g2) g4, g5⟩
theorem OwnS.imp {B B' : Nat → Prop} {h : St} {v : Value} {n sz : Nat} {cs : List Value} (s : OwnS B h v sz cs n) (hB : ∀ i, i < h.next → B i → B' i) : OwnS B' h v sz cs n := by
  rcases s with hs | ⟨q, g1, g2, g3, g4, g5⟩
  · exact .inl hs
  · exact .inr ⟨q, g1, hB q g3 g2, g3, g4, g5⟩
theorem OwnS.slice {B : Nat → Prop} {h : St} {v : Value} {sz : Nat} {α : Type} {f : α → List Value} {L : List α} {row : Nat → List Value} (s : OwnS B h v sz (L.flatMap f) L.length) (hf : ∀ y ∈ L, (f y).length = sz) (hr : ∀ (i : Nat) (x : α), L[i]? = some x → row i = f x) : SliceAt B h v L.length sz row := by
  rcases s with ⟨rfl, g, _⟩ | ⟨q, rfl, g2, g3, g4, g5⟩
  · exact .inl ⟨rfl, g⟩
  · refine .inr ⟨q, 0, some sz, 0, rfl, fun hn => ⟨g2, g3, _, _, g4, fun i hi => ?_⟩⟩
    have e : L[i]? = some L[i] := List.getElem?_eq_getElem hi
    rw [Nat.zero_add, hr i _ e]
    exact takeN_flat L i _ hf e
/-- What is appended to a slice of one's own. -/
theorem append_own {B : Nat → Prop} {h : St} {v x : Value} {sz n m bytes : Nat} {cs new : List Value} (s : OwnS B h v sz cs n) (hx : newCells sz x h = some (new, m)) (hm : 0 < m) (hn : new.length = m * sz)
    (h1 : allOne new = true) (hb : (n + m) * bytes ≤ 140737488355328) (hb' : n + m ≤ 140737488355328) {k : Cont}
    (hk : ∀ h' S, (∀ i ∈ S, B i) → Chg h h' S → h.next < h'.next → h'.objs h.next = some (.cells (cs ++ new) true) → (cs ++ new).length = (n + m) * sz → k (.slice (some ⟨h.next, 0, some sz⟩) (n + m) 0) h') : appendE sz bytes v x h k := by
  unfold appendE
  rw [hx]
  rcases s with ⟨rfl, rfl, rfl⟩ | ⟨q, rfl, g2, g3, g4, g5⟩
  · obtain ⟨m, rfl⟩ : ∃ m', m = m' + 1 := ⟨m - 1, by omega⟩
    rw [Nat.zero_add] at hb hb' hk
    refine ⟨⟨by rw [allOne_eq]; exact h1, hb, hb'⟩, ?_⟩
    exact hk _ [] (by simp) (Chg.push _ _) (by simp) (push_at _ _) (by simpa using hn)
  · simp only [g4]
    refine ⟨⟨by rw [allOne_eq]; exact h1, trivial, trivial, by omega, hb, hb'⟩, ?_⟩
    have e : cs.take (n * sz) = cs := by rw [← g5]; exact List.take_length
    rw [e]
    exact hk _ [q] (by simpa using g2) (Chg.of_push Chg.kill) (by simp) (by exact push_at (h.kill q) _) (by rw [List.length_append, g5, hn, Nat.add_mul])
theorem st0_wf (W : World) : (st0 W).Wf := by
  intro i o h
  simp only [st0] at h
  split at h
  · rename_i hb; exact (Array.getElem?_eq_some_iff.1 hb).1
  · cases h
def isAgg : Option TypeDesc → Bool
  | some (.struct _) | some (.array _ _) => true
  | _ => false
theorem okWide_agg {P : Program} {w : World} {r : Reach} {base : Nat} {t : TypeId} {v : Value} (ht : isAgg (P.underlying t) = true) (h : Value.okWide P w r base t v) : ∃ cs, v = .agg cs := by
  unfold Value.okWide at h
  split at h
  · obtain ⟨cs, h, _⟩ := h; exact ⟨cs, h⟩
  · obtain ⟨cs, h, _⟩ := h; exact ⟨cs, h⟩
  · rename_i h1 h2
    unfold isAgg at ht
    split at ht
    · rename_i h; exact absurd h (h1 _)
    · rename_i h; exact absurd h (h2 _ _)
    · cases ht
/-- Cells that hold no address are what they are. -/
theorem VRel.flat {ρ : Rho} (cs : Array Value) (h : cs.toList.all lit1 = true) : VRel ρ (.agg cs) (.agg cs) :=
  .agg cs cs rfl fun i h1 _ => .lit _ (by
    rw [List.all_eq_true] at h
    exact h _ (by simp))
end Go.Abs
