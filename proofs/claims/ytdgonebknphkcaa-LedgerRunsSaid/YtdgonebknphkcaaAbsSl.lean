/- Slices over the abstract heap: those that are read, one's own, appending. -/
import Derived.Test.YtdgonebknphkcaaAbsKit
set_option linter.unusedSimpArgs false
set_option linter.unusedVariables false
namespace Go.Abs

theorem takeN_some {cs l : List Value} {o n : Nat} (h : takeN cs o n = some l) : o + n ≤ cs.length ∧ l = (cs.drop o).take n ∧ l.length = n := by
  unfold takeN at h
  split at h
  · rename_i hl
    cases h
    refine ⟨hl, rfl, ?_⟩
    rw [List.length_take, List.length_drop]
    omega
  · cases h
theorem takeN_get {cs l : List Value} {o n j : Nat} (h : takeN cs o n = some l) (hj : j < n) : cs[o + j]? = l[j]? := by
  obtain ⟨_, rfl, _⟩ := takeN_some h
  rw [List.getElem?_take, if_pos hj, List.getElem?_drop]
theorem takeN_sub {cs l : List Value} {o n o' m : Nat} (h : takeN cs o n = some l) (hm : o' + m ≤ n) : takeN cs (o + o') m = some ((l.drop o').take m) := by
  obtain ⟨h1, rfl, _⟩ := takeN_some h
  unfold takeN
  rw [if_pos (by omega)]
  congr 1
  rw [List.drop_take, List.take_take, List.drop_drop, Nat.min_eq_left (by omega)]
theorem takeN_flat {α : Type} {f : α → List Value} {sz : Nat} : ∀ (L : List α) (i : Nat) (x : α), (∀ y ∈ L, (f y).length = sz) → L[i]? = some x → takeN (L.flatMap f) (i * sz) sz = some (f x)
  | [], i, x, hf, h => by simp at h
  | y :: L, 0, x, hf, h => by
    simp at h; subst h
    have hy := hf y (by simp)
    unfold takeN
    rw [Nat.zero_mul, Nat.zero_add, if_pos (by rw [List.flatMap_cons, List.length_append]; omega), List.drop_zero, List.flatMap_cons, ← hy, List.take_append_of_le_length (Nat.le_refl _), List.take_length]
  | y :: L, i + 1, x, hf, h => by
    have ih := takeN_flat L i x (fun y hy => hf y (by simp [hy])) (by simpa using h)
    have hy := hf y (by simp)
    unfold takeN at ih ⊢
    split at ih
    · rename_i hl
      have e : (i + 1) * sz = (f y).length + i * sz := by rw [hy, Nat.succ_mul]; omega
      rw [if_pos (by simp only [List.flatMap_cons, List.length_append]; omega)]
      rw [List.flatMap_cons, e, List.drop_append, List.drop_eq_nil_of_le (by omega), List.nil_append, Nat.add_sub_cancel_left]
      exact ih
    · cases ih

/-- The heap has changed in places of a kind alone. -/
def ChgP (D : Nat → Prop) (h h' : St) : Prop := h.next ≤ h'.next ∧ ∀ i, i < h.next → ¬ D i → h'.objs i = h.objs i
theorem ChgP.refl (D : Nat → Prop) (h : St) : ChgP D h h := ⟨Nat.le_refl _, fun _ _ _ => rfl⟩
theorem Chg.toP {D : Nat → Prop} {h h' : St} {S : List Nat} (c : Chg h h' S) (hS : ∀ i ∈ S, D i) : ChgP D h h' := ⟨c.1, fun i hi hn => c.2 i hi fun h => hn (hS i h)⟩
theorem ChgP.trans {D D' E : Nat → Prop} {h h' h'' : St} (a : ChgP D h h') (b : ChgP D' h' h'') (hD : ∀ i, i < h.next → D i → E i) (hD' : ∀ i, i < h.next → D' i → E i) : ChgP E h h'' :=
  ⟨Nat.le_trans a.1 b.1, fun i hi hn => (b.2 i (Nat.lt_of_lt_of_le hi a.1) fun h => hn (hD' i hi h)).trans (a.2 i hi fun h => hn (hD i hi h))⟩
theorem ChgP.step {D : Nat → Prop} {h h' h'' : St} (a : ChgP D h h') (b : ChgP D h' h'') : ChgP D h h'' := a.trans b (fun _ _ h => h) (fun _ _ h => h)
theorem ChgP.mono {D E : Nat → Prop} {h h' : St} (a : ChgP D h h') (hD : ∀ i, i < h.next → D i → E i) : ChgP E h h' := ⟨a.1, fun i hi hn => a.2 i hi fun h => hn (hD i hi h)⟩
theorem ChgP.at {D : Nat → Prop} {h h' : St} (c : ChgP D h h') {i : Nat} {o : AObj} (hi : i < h.next) (hn : ¬ D i) (ho : h.objs i = some o) : h'.objs i = some o := (c.2 i hi hn).trans ho
theorem ChgP.of_push {D : Nat → Prop} {h h' : St} {o : AObj} (c : ChgP D h h') : ChgP D h (h'.push o) := c.trans ((Chg.push o []).toP (D := D) (by simp)) (fun _ _ h => h) (fun _ _ h => h)
theorem ChgP.of_set {D : Nat → Prop} {h h' : St} {o : AObj} {i : Nat} (c : ChgP D h h') (hi : D i ∨ h.next ≤ i) : ChgP D h (h'.set i o) :=
  c.trans ((Chg.set (S := [i]) o (by simp)).toP (D := (· = i)) (by simp)) (fun _ _ h => h) (by rintro j hj rfl; rcases hi with h | h; exact h; omega)
theorem ChgP.of_kill {D : Nat → Prop} {h h' : St} {i : Nat} (c : ChgP D h h') (hi : D i ∨ h.next ≤ i) : ChgP D h (h'.kill i) :=
  c.trans ((Chg.kill (h := h') (i := i)).toP (D := (· = i)) (by simp)) (fun _ _ h => h) (by rintro j hj rfl; rcases hi with h | h; exact h; omega)
theorem ChgP.of_chg {D : Nat → Prop} {h h' h'' : St} {S : List Nat} (c : ChgP D h h') (d : Chg h' h'' S) (hi : ∀ i ∈ S, D i ∨ h.next ≤ i) : ChgP D h h'' :=
  c.trans (d.toP (D := (· ∈ S)) (fun _ h => h)) (fun _ _ h => h) (by intro j hj h; rcases hi j h with h | h; exact h; omega)
theorem ChgP.list {D : Nat → Prop} {h h' : St} (c : ChgP D h h') {S : List Nat} (hS : ∀ i, i < h.next → D i → i ∈ S) : Chg h h' S := ⟨c.1, fun i hi hn => c.2 i hi fun h => hn (hS i hi h)⟩

/-- A slice, as it is read: its rows, in a block of a kind. -/
def SliceAt (B : Nat → Prop) (h : St) (v : Value) (n sz : Nat) (row : Nat → List Value) : Prop :=
  (v = .slice none 0 0 ∧ n = 0) ∨ ∃ b off sp c, v = .slice (some ⟨b, off, sp⟩) n c ∧ (sp = none ∨ sp = some sz ∧ c = 0) ∧ (0 < n → B b ∧ b < h.next ∧ ∃ cs own, h.objs b = some (.cells cs own) ∧ ∀ i, i < n → takeN cs (off + i * sz) sz = some (row i))
theorem SliceAt.len {B : Nat → Prop} {h : St} {v : Value} {n sz : Nat} {row : Nat → List Value} (s : SliceAt B h v n sz row) : lenS v = some (.int .i64 n) := by
  rcases s with ⟨rfl, rfl⟩ | ⟨b, off, sp, c, rfl, _⟩ <;> rfl
theorem SliceAt.idx {B : Nat → Prop} {h : St} {v : Value} {n sz : Nat} {row : Nat → List Value} (s : SliceAt B h v n sz row) {i : Int} (h0 : 0 ≤ i) (h1 : i < n) (k : IntKind) :
    ∃ b o, idxS sz v (.int k i) = some (.pointer (some ⟨b, o, none⟩)) ∧ B b ∧ b < h.next ∧ ∃ cs own, h.objs b = some (.cells cs own) ∧ takeN cs o sz = some (row i.toNat) := by
  rcases s with ⟨rfl, rfl⟩ | ⟨b, off, sp, c, rfl, _, hs⟩
  · omega
  · obtain ⟨g1, g2, cs, own, g3, g4⟩ := hs (by omega)
    exact ⟨b, off + i.toNat * sz, by simp [idxS, h0, h1], g1, g2, cs, own, g3, g4 _ (by omega)⟩
theorem SliceAt.chgP {B D : Nat → Prop} {h h' : St} {v : Value} {n sz : Nat} {row : Nat → List Value} (s : SliceAt B h v n sz row) (c : ChgP D h h') (hS : ∀ i, D i → ¬ B i) : SliceAt B h' v n sz row := by
  rcases s with hs | ⟨b, off, sp, cc, hv, hp, hs⟩
  · exact .inl hs
  · refine .inr ⟨b, off, sp, cc, hv, hp, fun hn => ?_⟩
    obtain ⟨g1, g2, cs, own, g3, g4⟩ := hs hn
    exact ⟨g1, Nat.lt_of_lt_of_le g2 c.1, cs, own, c.at g2 (fun hi => hS b hi g1) g3, g4⟩
theorem SliceAt.chg {B : Nat → Prop} {h h' : St} {v : Value} {n sz : Nat} {row : Nat → List Value} (s : SliceAt B h v n sz row) {S : List Nat} (c : Chg h h' S) (hS : ∀ i ∈ S, ¬ B i) : SliceAt B h' v n sz row :=
  s.chgP (D := (· ∈ S)) (c.toP fun _ h => h) hS
theorem SliceAt.imp {B B' : Nat → Prop} {h : St} {v : Value} {n sz : Nat} {row : Nat → List Value} (s : SliceAt B h v n sz row) (hB : ∀ i, i < h.next → B i → B' i) : SliceAt B' h v n sz row := by
  rcases s with hs | ⟨b, off, sp, cc, hv, hp, hs⟩
  · exact .inl hs
  · refine .inr ⟨b, off, sp, cc, hv, hp, fun hn => ?_⟩
    obtain ⟨g1, g2, g3⟩ := hs hn
    exact ⟨hB b g2 g1, g2, g3⟩
theorem SliceAt.rows {B : Nat → Prop} {h : St} {v : Value} {n sz : Nat} {row row' : Nat → List Value} (s : SliceAt B h v n sz row) (hr : ∀ i, i < n → row i = row' i) : SliceAt B h v n sz row' := by
  rcases s with hs | ⟨b, off, sp, cc, hv, hp, hs⟩
  · exact .inl hs
  · refine .inr ⟨b, off, sp, cc, hv, hp, fun hn => ?_⟩
    obtain ⟨g1, g2, cs, own, g3, g4⟩ := hs hn
    exact ⟨g1, g2, cs, own, g3, fun i hi => by rw [← hr i hi]; exact g4 i hi⟩
/-- A part of a slice. -/
theorem SliceAt.cut {B : Nat → Prop} {h : St} {v : Value} {n sz : Nat} {row : Nat → List Value} (s : SliceAt B h v n sz row) {lo hi : Option Value} {l e : Nat} (hr : loHi n n lo hi = some (l, e)) (h1 : l ≤ e) (h2 : e ≤ n) :
    ∃ v', cutS sz v lo hi = some v' ∧ SliceAt B h v' (e - l) sz (fun i => row (l + i)) := by
  rcases s with ⟨rfl, rfl⟩ | ⟨b, off, sp, cc, rfl, hp, hs⟩
  · have : e - l = 0 := by omega
    rw [this]
    exact ⟨.slice none 0 0, by simp [cutS, hr], .inl ⟨rfl, rfl⟩⟩
  · refine ⟨.slice (some ⟨b, off + l * sz, sp⟩) (e - l) cc, ?_, .inr ⟨b, off + l * sz, sp, cc, rfl, hp, fun hn => ?_⟩⟩
    · rcases hp with rfl | ⟨rfl, rfl⟩
      · simp [cutS, hr]
      · simp [cutS, capOf, hr]
    · obtain ⟨g1, g2, cs, own, g3, g4⟩ := hs (by omega)
      refine ⟨g1, g2, cs, own, g3, fun i hi => ?_⟩
      have := g4 (l + i) (by omega)
      rwa [Nat.add_mul, ← Nat.add_assoc] at this
theorem loHi_lo {n l : Nat} {k : IntKind} (h : l ≤ n) : loHi n n (some (.int k l)) none = some (l, n) := by simp [loHi]; omega
theorem loHi_hi {n e : Nat} {k : IntKind} (h : e ≤ n) : loHi n n none (some (.int k e)) = some (0, e) := by simp [loHi]; omega
theorem loHi_both {n l e : Nat} {k k' : IntKind} (h : l ≤ e) (h' : e ≤ n) : loHi n n (some (.int k l)) (some (.int k' e)) = some (l, e) := by simp [loHi]; omega
theorem RowIn.slice {h : St} {v : Value} {n sz : Nat} {rows : Nat → List Value} (r : RowIn h v n sz rows) (wf : h.Wf) (hl : ∀ i, i < n → (rows i).length = sz) : SliceAt (· < h.next) h v n sz rows := by
  rcases r with hs | ⟨b, off, c, hv, hs⟩
  · exact .inl hs
  · refine .inr ⟨b, off, none, c, hv, .inl rfl, fun hn => ?_⟩
    obtain ⟨cs, g1, g2⟩ := hs hn
    refine ⟨wf _ _ g1, wf _ _ g1, cs, false, g1, fun i hi => ?_⟩
    have e := takeN_sub (o' := i * sz) (m := sz) g2 (by
      have : (i + 1) * sz ≤ n * sz := Nat.mul_le_mul_right _ hi
      rw [Nat.succ_mul] at this; exact this)
    rw [e]
    have f := takeN_flat (f := rows) (sz := sz) (List.range n) i i (fun y hy => hl y (by simpa using hy)) (by simp [hi])
    unfold takeN at f
    split at f
    · exact f
    · cases f

/-- A slice of one's own: all of its cells. -/
def OwnS (B : Nat → Prop) (h : St) (v : Value) (sz : Nat) (cs : List Value) (n : Nat) : Prop :=
  (v = .slice none 0 0 ∧ n = 0 ∧ cs = []) ∨ ∃ q, v = .slice (some ⟨q, 0, some sz⟩) n 0 ∧ B q ∧ q < h.next ∧ h.objs q = some (.cells cs true) ∧ cs.length = n * sz
theorem OwnS.len {B : Nat → Prop} {h : St} {v : Value} {n sz : Nat} {cs : List Value} (s : OwnS B h v sz cs n) : lenS v = some (.int .i64 n) := by
  rcases s with ⟨rfl, rfl, _⟩ | ⟨q, rfl, _⟩ <;> rfl
theorem OwnS.chg {B : Nat → Prop} {h h' : St} {v : Value} {n sz : Nat} {cs : List Value} (s : OwnS B h v sz cs n) {S : List Nat} (c : Chg h h' S) (hS : ∀ i ∈ S, ¬ B i) : OwnS B h' v sz cs n := by
  rcases s with hs | ⟨q, g1, g2, g3, g4, g5⟩
  · exact .inl hs
  · exact .inr ⟨q, g1, g2, Nat.lt_of_lt_of_le g3 c.1, c.at g3 (fun hi => hS q hi g2) g4, g5⟩
theorem OwnS.imp {B B' : Nat → Prop} {h : St} {v : Value} {n sz : Nat} {cs : List Value} (s : OwnS B h v sz cs n) (hB : ∀ i, i < h.next → B i → B' i) : OwnS B' h v sz cs n := by
  rcases s with hs | ⟨q, g1, g2, g3, g4, g5⟩
  · exact .inl hs
  · exact .inr ⟨q, g1, hB q g3 g2, g3, g4, g5⟩
theorem OwnS.slice {B : Nat → Prop} {h : St} {v : Value} {sz : Nat} {α : Type} {f : α → List Value} {L : List α} {row : Nat → List Value} (s : OwnS B h v sz (L.flatMap f) L.length) (hf : ∀ y ∈ L, (f y).length = sz) (hr : ∀ (i : Nat) (x : α), L[i]? = some x → row i = f x) : SliceAt B h v L.length sz row := by
  rcases s with ⟨rfl, g, _⟩ | ⟨q, rfl, g2, g3, g4, g5⟩
  · exact .inl ⟨rfl, g⟩
  · refine .inr ⟨q, 0, some sz, 0, rfl, .inr ⟨rfl, rfl⟩, fun hn => ⟨g2, g3, _, _, g4, fun i hi => ?_⟩⟩
    have e : L[i]? = some L[i] := List.getElem?_eq_getElem hi
    rw [Nat.zero_add, hr i _ e]
    exact takeN_flat L i _ hf e
/-- What is appended to a slice of one's own. -/
theorem append_own {B : Nat → Prop} {h : St} {v x : Value} {sz n m bytes : Nat} {cs new : List Value} (s : OwnS B h v sz cs n) (hx : newCells sz x h = some (new, m)) (hm : 0 < m) (hn : new.length = m * sz)
    (h1 : allOne new = true) (hb : (n + m) * bytes ≤ 140737488355328) (hb' : n + m ≤ 140737488355328) {k : Cont}
    (hk : ∀ h' S, (∀ i ∈ S, B i) → Chg h h' S → h.next < h'.next → h'.objs h.next = some (.cells (cs ++ new) true) → (cs ++ new).length = (n + m) * sz → k (.slice (some ⟨h.next, 0, some sz⟩) (n + m) 0) h') : appendE sz bytes v x h k := by
  unfold appendE
  rw [hx]
  rcases s with ⟨rfl, rfl, rfl⟩ | ⟨q, rfl, g2, g3, g4, g5⟩
  · obtain ⟨m, rfl⟩ : ∃ m', m = m' + 1 := ⟨m - 1, by omega⟩
    rw [Nat.zero_add] at hb hb' hk
    refine ⟨⟨by rw [allOne_eq]; exact h1, hb, hb'⟩, ?_⟩
    exact hk _ [] (by simp) (Chg.push _ _) (by simp) (push_at _ _) (by simpa using hn)
  · simp only [g4]
    refine ⟨⟨by rw [allOne_eq]; exact h1, trivial, trivial, by omega, hb, hb'⟩, ?_⟩
    have e : cs.take (n * sz) = cs := by rw [← g5]; exact List.take_length
    rw [e]
    exact hk _ [q] (by simpa using g2) (Chg.of_push Chg.kill) (by simp) (by exact push_at (h.kill q) _) (by rw [List.length_append, g5, hn, Nat.add_mul])
theorem st0_wf (W : World) : (st0 W).Wf := by
  intro i o h
  simp only [st0] at h
  split at h
  · rename_i hb; exact (Array.getElem?_eq_some_iff.1 hb).1
  · cases h
theorem OwnS.chgP {B D : Nat → Prop} {h h' : St} {v : Value} {n sz : Nat} {cs : List Value} (s : OwnS B h v sz cs n) (c : ChgP D h h') (hS : ∀ i, D i → ¬ B i) : OwnS B h' v sz cs n := by
  rcases s with hs | ⟨q, g1, g2, g3, g4, g5⟩
  · exact .inl hs
  · exact .inr ⟨q, g1, g2, Nat.lt_of_lt_of_le g3 c.1, c.at g3 (fun hi => hS q hi g2) g4, g5⟩
/-- What is appended to a slice of one's own, even nothing. -/
theorem append_own' {B : Nat → Prop} {h : St} {v x : Value} {sz n m bytes : Nat} {cs new : List Value} (hB : B h.next) (s : OwnS B h v sz cs n) (hx : newCells sz x h = some (new, m)) (hn : new.length = m * sz)
    (h1 : allOne new = true) (hb : (n + m) * bytes ≤ 140737488355328) (hb' : n + m ≤ 140737488355328) {k : Cont}
    (hk : ∀ h' v', ChgP B h h' → OwnS B h' v' sz (cs ++ new) (n + m) → k v' h') : appendE sz bytes v x h k := by
  by_cases hm : 0 < m
  · exact append_own s hx hm hn h1 hb hb' fun h' S hS c n' o' e' => hk h' _ (c.toP hS) (.inr ⟨_, rfl, hB, n', o', e'⟩)
  have : m = 0 := by omega
  subst this
  have : new = [] := by simpa using hn
  subst this
  unfold appendE
  rw [hx]
  rcases s with ⟨rfl, rfl, rfl⟩ | ⟨q, rfl, g2, g3, g4, g5⟩
  · exact ⟨⟨rfl, by omega, by omega⟩, hk h _ (ChgP.refl _ _) (.inl ⟨rfl, rfl, rfl⟩)⟩
  · simp only [g4]
    refine ⟨⟨rfl, trivial, trivial, by omega, hb, hb'⟩, ?_⟩
    have e : cs.take (n * sz) = cs := by rw [← g5]; exact List.take_length
    rw [e]
    exact hk _ _ ((ChgP.of_kill (ChgP.refl _ _) (.inl g2)).of_push) (.inr ⟨h.next, rfl, hB, by simp, by exact push_at (h.kill q) _, by simpa using g5⟩)
theorem OwnS.one {B : Nat → Prop} {h : St} {v : Value} {sz : Nat} {cs : List Value} {n : Nat} (s : OwnS B h v sz cs n) : one v = true := by
  rcases s with ⟨rfl, _⟩ | ⟨q, rfl, _⟩ <;> rfl
theorem OwnS.cells1 {B : Nat → Prop} {h : St} {v : Value} {sz : Nat} {cs : List Value} {n : Nat} (s : OwnS B h v sz cs n) : v.cells = #[v] := by
  rcases s with ⟨rfl, _⟩ | ⟨q, rfl, _⟩ <;> rfl
theorem SliceAt.one {B : Nat → Prop} {h : St} {v : Value} {n sz : Nat} {row : Nat → List Value} (s : SliceAt B h v n sz row) : Abs.one v = true := by
  rcases s with ⟨rfl, _⟩ | ⟨b, off, sp, c, rfl, _⟩ <;> rfl
theorem SliceAt.cells1 {B : Nat → Prop} {h : St} {v : Value} {n sz : Nat} {row : Nat → List Value} (s : SliceAt B h v n sz row) : v.cells = #[v] := by
  rcases s with ⟨rfl, _⟩ | ⟨b, off, sp, c, rfl, _⟩ <;> rfl
theorem SliceAt.isUnk {B : Nat → Prop} {h : St} {v : Value} {n sz : Nat} {row : Nat → List Value} (s : SliceAt B h v n sz row) : isUnk v = false := by
  rcases s with ⟨rfl, _⟩ | ⟨b, off, sp, c, rfl, _⟩ <;> rfl
theorem OwnS.isUnk {B : Nat → Prop} {h : St} {v : Value} {sz : Nat} {cs : List Value} {n : Nat} (s : OwnS B h v sz cs n) : Abs.isUnk v = false := by
  rcases s with ⟨rfl, _⟩ | ⟨q, rfl, _⟩ <;> rfl
def isAgg : Option TypeDesc → Bool
  | some (.struct _) | some (.array _ _) => true
  | _ => false
theorem okWide_agg {P : Program} {w : World} {r : Reach} {base : Nat} {t : TypeId} {v : Value} (ht : isAgg (P.underlying t) = true) (h : Value.okWide P w r base t v) : ∃ cs, v = .agg cs := by
  unfold Value.okWide at h
  split at h
  · obtain ⟨cs, h, _⟩ := h; exact ⟨cs, h⟩
  · obtain ⟨cs, h, _⟩ := h; exact ⟨cs, h⟩
  · rename_i h1 h2
    unfold isAgg at ht
    split at ht
    · rename_i h; exact absurd h (h1 _)
    · rename_i h; exact absurd h (h2 _ _)
    · cases ht
/-- Cells that hold no address are what they are. -/
theorem VRel.flat {ρ : Rho} (cs : Array Value) (h : cs.toList.all lit1 = true) : VRel ρ (.agg cs) (.agg cs) :=
  .agg cs cs rfl fun i h1 _ => .lit _ (by
    rw [List.all_eq_true] at h
    exact h _ (by simp))
end Go.Abs
