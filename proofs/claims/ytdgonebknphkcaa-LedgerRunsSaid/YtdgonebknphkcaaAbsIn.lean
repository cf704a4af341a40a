/- Doing, by 'refine': the heap behind it has a name, and what is known of it. -/
import Derived.Test.YtdgonebknphkcaaAbsMap
set_option linter.unusedSimpArgs false
set_option linter.unusedVariables false
namespace Go.Abs

theorem Chg.pushN {h : St} (o : AObj) : Chg h (h.push o) [] := Chg.push o []
/-- A store. -/
theorem storeE_in {n i off : Nat} {v : Value} {h : St} {k : Cont} {cs : List Value} (ho : h.objs i = some (.cells cs true)) (cs' : List Value) (hn : v.cells.size = n) (hl : off + n ≤ cs.length) (h1 : allOne v.cells.toList = true)
    (hc : cs.take off ++ v.cells.toList ++ cs.drop (off + n) = cs') (K : ∀ h', Chg h h' [i] → h'.next = h.next → h'.objs i = some (.cells cs' true) → k undef h') : storeE n (.pointer (some ⟨i, off, none⟩)) v h k := by
  rw [storeE_ptr, ho, storeM_cells, hc]
  exact ⟨⟨hn, hl, h1⟩, K _ (Chg.set _ (by simp)) rfl (set_at _ _ _)⟩
/-- A store of all there is. -/
theorem storeE_all {n i : Nat} {v : Value} {h : St} {k : Cont} {cs : List Value} (ho : h.objs i = some (.cells cs true)) (hn : v.cells.size = n) (hl : cs.length = n) (h1 : allOne v.cells.toList = true)
    (K : ∀ h', Chg h h' [i] → h'.next = h.next → h'.objs i = some (.cells v.cells.toList true) → k undef h') : storeE n (.pointer (some ⟨i, 0, none⟩)) v h k := by
  refine storeE_in ho v.cells.toList hn (by omega) h1 ?_ K
  rw [List.take_zero, List.nil_append, Nat.zero_add, ← hl, List.drop_length, List.append_nil]
theorem allocE_in {cs : List Value} {h : St} {k : Cont} (K : ∀ h', Chg h h' [] → h'.next = h.next + 1 → h'.objs h.next = some (.cells cs true) → k (.pointer (some ⟨h.next, 0, none⟩)) h') : allocE (some cs) h k := by
  rw [allocE_some]
  exact K _ (Chg.push _ _) rfl (push_at _ _)
theorem boxE_in {v : Value} {h : St} {k : Cont} (h1 : allOne v.cells.toList = true) (K : ∀ h', Chg h h' [] → h'.next = h.next + 1 → h'.objs h.next = some (.cells v.cells.toList true) → k (.pointer (some ⟨h.next, 0, none⟩)) h') : boxE v h k := by
  rw [boxE_eq]
  exact ⟨h1, K _ (Chg.push _ _) rfl (push_at _ _)⟩
theorem makeMapE_in {h : St} {k : Cont} (K : ∀ h', Chg h h' [] → h'.next = h.next + 1 → (∀ {α : Type} (ek ev : α → Value) (B : Nat → Prop), B h.next → MapAt B ek ev h' h.next []) → k (.map (some h.next)) h') : makeMapE h k := by
  rw [makeMapE_eq]
  exact K _ (Chg.push _ _) rfl fun ek ev B hB => ⟨hB, by simp, [], 0, push_at _ _, rfl⟩
/-- A slice of what is written down. -/
theorem buildSliceE_in {size len : Nat} {z : List Value} {p : List (Nat × Nat × Value)} {h : St} {k : Cont} (cs : List Value) (hf : fillL p (repL z len) = some cs) (h1 : allOne cs = true) (h2 : (p.all fun p => !isUnk p.2.2) = true)
    (K : ∀ h', Chg h h' [] → h'.next = h.next + 1 → h'.objs h.next = some (.cells cs true) → k (.slice (some ⟨h.next, 0, some size⟩) len 0) h') : buildSliceE size len z p h k := by
  unfold buildSliceE
  rw [hf]
  exact ⟨by rw [allOne_eq]; exact h1, h2, K _ (Chg.push _ _) rfl (push_at _ _)⟩
/-- Nothing was changed that was there. -/
theorem Chg.nil {h h' : St} (c : Chg h h' []) (D : Nat → Prop) : ChgP D h h' := c.toP (by simp)
theorem Chg.at0 {h h' : St} (c : Chg h h' []) {i : Nat} {o : AObj} (hi : i < h.next) (ho : h.objs i = some o) : h'.objs i = some o := c.at hi (by simp) ho
theorem Chg.at1 {h h' : St} {j : Nat} (c : Chg h h' [j]) {i : Nat} {o : AObj} (hi : i < h.next) (hn : i ≠ j) (ho : h.objs i = some o) : h'.objs i = some o := c.at hi (by simpa using hn) ho
theorem Chg.one {h h' : St} {j : Nat} (c : Chg h h' [j]) : ChgP (· = j) h h' := c.toP (by simp)
theorem Chg.seq {h h' h'' : St} {S : List Nat} (c : Chg h h' S) (d : Chg h' h'' []) : Chg h h'' S := c.of_chg d (by simp)
theorem Chg.new {h h' h'' : St} {S : List Nat} {i : Nat} (c : Chg h h' S) (d : Chg h' h'' [i]) (hi : h.next ≤ i) : Chg h h'' S := c.of_chg d (by simp; exact .inr hi)
theorem ChgP.seq {D : Nat → Prop} {h h' h'' : St} (c : ChgP D h h') (d : Chg h' h'' []) : ChgP D h h'' := c.of_chg d (by simp)
theorem ChgP.new {D : Nat → Prop} {h h' h'' : St} {i : Nat} (c : ChgP D h h') (d : Chg h' h'' [i]) (hi : D i ∨ h.next ≤ i) : ChgP D h h'' := c.of_chg d (by simpa using hi)
/-- A row put behind a slice of one's own. -/
theorem append_row {B : Nat → Prop} {h : St} {v x : Value} {sz n bytes : Nat} {cs z : List Value} {k : Cont} (hB : ∀ i, h.next ≤ i → B i) (s : OwnS B h v sz cs n) (hz : z.length = sz) (hx : x.cells.size = sz) (h1 : allOne x.cells.toList = true) (hu : isUnk x = false)
    (hb : (n + 1) * bytes ≤ 140737488355328) (hb' : n + 1 ≤ 140737488355328) (hk : ∀ h' v', ChgP B h h' → OwnS B h' v' sz (cs ++ x.cells.toList) (n + 1) → k v' h') : buildSliceE sz 1 z [(0 * sz, sz, x)] h fun v2 h2 => appendE sz bytes v v2 h2 k := by
  have hl : x.cells.toList.length = sz := by simpa using hx
  have hf : fillL [(0 * sz, sz, x)] (repL z 1) = some x.cells.toList := by
    simp only [fillL, repL, List.append_nil, Nat.zero_mul, Nat.zero_add]
    rw [if_pos ⟨hx, by omega⟩, List.take_zero, List.nil_append, ← hz, List.drop_length, List.append_nil]
  refine buildSliceE_in x.cells.toList hf h1 (by simp [hu]) fun h2 c2 n2 o2 => ?_
  have hn : newCells sz (.slice (some ⟨h.next, 0, some sz⟩) 1 0) h2 = some (x.cells.toList, 1) := by
    simp only [newCells, o2, Nat.one_mul]
    unfold takeN
    rw [if_pos (by omega), List.drop_zero, ← hl, List.take_length]
    rfl
  have s2 := s.chg c2 (by simp)
  exact append_own' (hB _ (by omega)) s2 hn (by omega) h1 hb hb' fun h' v' c s' => hk h' v' ((c2.nil B).step c) s'
theorem OwnS.row {B : Nat → Prop} {h : St} {v : Value} {sz : Nat} {α : Type} {f : α → List Value} {L : List α} (s : OwnS B h v sz (L.flatMap f) L.length) (hf : ∀ y ∈ L, (f y).length = sz) {i : Nat} {x : α} (hx : L[i]? = some x) (k : IntKind) :
    ∃ b o, idxS sz v (.int k i) = some (.pointer (some ⟨b, o, none⟩)) ∧ B b ∧ b < h.next ∧ ∃ cs, h.objs b = some (.cells cs true) ∧ takeN cs o sz = some (f x) := by
  have hi : i < L.length := (List.getElem?_eq_some_iff.1 hx).1
  rcases s with ⟨rfl, g, _⟩ | ⟨q, rfl, g2, g3, g4, g5⟩
  · omega
  · have hi' : (i : Int) < L.length := by omega
    exact ⟨q, i * sz, by simp [idxS, hi', hi], g2, g3, _, g4, takeN_flat L i x hf hx⟩
theorem row_cell {cs l : List Value} {o n : Nat} (h : takeN cs o n = some l) (j : Nat) (hj : j < n) : cs[o + j]? = l[j]? := takeN_get h hj
/-- A heap behind it, in its region cut to what is there. -/
theorem OwnS.fresh {h h' : St} {v : Value} {n sz : Nat} {cs : List Value} (s : OwnS (fun i => h.next ≤ i) h' v sz cs n) : OwnS (fun i => h.next ≤ i ∧ i < h'.next) h' v sz cs n := s.imp fun _ h1 h2 => ⟨h2, h1⟩
end Go.Abs
