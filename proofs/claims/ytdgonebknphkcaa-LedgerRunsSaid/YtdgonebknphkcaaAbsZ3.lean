/- A slice of structs that came in, of integers, bools and structs of such: its cells. -/
import Derived.Test.YtdgonebknphkcaaAbsZ2
set_option linter.unusedSimpArgs false
set_option linter.unusedVariables false
namespace Go.Abs
open Go.RowKit (Below)
open Go.ChangeShapes Go.WideShapes Go.Deep

section
variable {H : Type} {enc : TypeId × Value → H} {P : Program} {w : World} {base : Nat} {spare : Nat → Bool} {held : Bool}

def fieldsN (K : TypeId → Option (List (Option IntKind))) : Nat → List Field → Option (List (Option IntKind))
  | _, [] => some []
  | o, f :: r => match Nat.beq f.offset o, K f.type with
    | true, some ks => match fieldsN K (o + ks.length) r with
      | some ks' => some (ks ++ ks')
      | none => none
    | _, _ => none
/-- The kinds of an element's cells, structs within it laid flat. -/
def kindsN (P : Program) : Nat → TypeId → Option (List (Option IntKind))
  | 0, _ => none
  | n + 1, e => match P.underlying e with
    | some (.int k) => match Nat.beq (P.cellsOf e) 1 with
      | true => some [some k]
      | false => none
    | some .bool => match Nat.beq (P.cellsOf e) 1 with
      | true => some [none]
      | false => none
    | some (.struct fs) => match fieldsN (kindsN P n) 0 fs.toList with
      | some ks => match Nat.beq (P.cellsOf e) ks.length with
        | true => some ks
        | false => none
      | none => none
    | _ => none
theorem fitsX_join {k1 k2 : List (Option IntKind)} {cs : List Value} {o : Nat} (f1 : FitsX k1 ((cs.drop o).take k1.length)) (f2 : FitsX k2 ((cs.drop (o + k1.length)).take k2.length)) : FitsX (k1 ++ k2) ((cs.drop o).take (k1 ++ k2).length) := by
  obtain ⟨a1, a2⟩ := f1
  obtain ⟨b1, b2⟩ := f2
  rw [List.length_take, List.length_drop] at a1 b1
  refine ⟨?_, fun i k hk => ?_⟩
  · rw [List.length_take, List.length_drop, List.length_append]
    by_cases hz : k2.length = 0
    · omega
    · omega
  · by_cases hi : i < k1.length
    · rw [List.getElem?_append_left hi] at hk
      obtain ⟨v, h1, h2⟩ := a2 i k hk
      refine ⟨v, ?_, h2⟩
      rw [List.getElem?_take] at h1 ⊢
      rw [if_pos hi] at h1
      rw [if_pos (by rw [List.length_append]; omega)]
      exact h1
    · rw [List.getElem?_append_right (by omega)] at hk
      obtain ⟨v, h1, h2⟩ := b2 _ k hk
      have hlt := (List.getElem?_eq_some_iff.1 hk).1
      refine ⟨v, ?_, h2⟩
      rw [List.getElem?_take, if_pos hlt, List.getElem?_drop] at h1
      rw [List.getElem?_take, if_pos (by rw [List.length_append]; omega), List.getElem?_drop, ← h1]
      congr 1; omega
theorem fieldsN_fits {K : TypeId → Option (List (Option IntKind))} {cs : List Value} {m : Nat} (ih : ∀ e ks cs (x : DataW H × List MemPlace), K e = some ks → DataW.trod enc P w base spare held m e cs = some x → P.cellsOf e = ks.length ∧ FitsX ks cs) :
    ∀ (l : List Field) (o : Nat) (ks : List (Option IntKind)), fieldsN K o l = some ks → (∀ f ∈ l, ∃ y, DataW.trod enc P w base spare held m f.type ((cs.drop f.offset).take (P.cellsOf f.type)) = some y) → FitsX ks ((cs.drop o).take ks.length)
  | [], o, ks, h, _ => by
    cases h
    exact ⟨by simp, fun i k hk => by simp at hk⟩
  | f :: r, o, ks, h, hy => by
    unfold fieldsN at h
    split at h
    · rename_i k1 h1 h2
      split at h
      · rename_i k2 h3
        cases h
        have ho := Nat.eq_of_beq_eq_true h1
        obtain ⟨y, hf⟩ := hy f (by simp)
        obtain ⟨c1, f1⟩ := ih _ _ _ _ h2 hf
        rw [c1, ho] at f1
        exact fitsX_join f1 (fieldsN_fits ih r _ _ h3 fun g hg => hy g (by simp [hg]))
      · cases h
    · cases h
theorem fits_N : ∀ {n : Nat} {e : TypeId} {ks : List (Option IntKind)} {fuel : Nat} {cs : List Value} {x : DataW H × List MemPlace}, kindsN P n e = some ks → DataW.trod enc P w base spare held fuel e cs = some x → P.cellsOf e = ks.length ∧ FitsX ks cs
  | 0, _, _, _, _, _, hk, _ => by cases hk
  | n + 1, e, ks, fuel, cs, x, hk, h => by
    unfold kindsN at hk
    split at hk
    · rename_i k hu
      split at hk
      · rename_i hc
        cases hk
        obtain ⟨m, rfl, _, hw⟩ := DataW.trod_int hu h
        refine ⟨Nat.eq_of_beq_eq_true hc, rfl, fun i k' hk' => ?_⟩
        cases i with
        | zero => simp at hk'; subst hk'; exact ⟨_, rfl, m, rfl, hw⟩
        | succ i => simp at hk'
      · cases hk
    · rename_i hu
      split at hk
      · rename_i hc
        cases hk
        obtain ⟨b, rfl, _⟩ := DataW.trod_bool hu h
        refine ⟨Nat.eq_of_beq_eq_true hc, rfl, fun i k' hk' => ?_⟩
        cases i with
        | zero => simp at hk'; subst hk'; exact ⟨_, rfl, b, rfl⟩
        | succ i => simp at hk'
      · cases hk
    · rename_i fs hu
      split at hk
      · rename_i k1 hf
        split at hk
        · rename_i hc
          cases hk
          have hcell := Nat.eq_of_beq_eq_true hc
          obtain ⟨xs, m, _, _, hlen, hxl, hg⟩ := DataW.trod_struct hu h
          have := fieldsN_fits (cs := cs) (m := m) (fun e ks cs x h1 h2 => fits_N h1 h2) fs.toList 0 _ hf fun f hf' => by
            obtain ⟨i, hi⟩ := List.getElem?_of_mem hf'
            have hi' : fs[i]? = some f := by simpa using hi
            have hlt := (Array.getElem?_eq_some_iff.1 hi').1
            have g := hg i f hi'
            rw [List.getElem?_eq_getElem (by omega)] at g
            exact ⟨_, g⟩
          rw [List.drop_zero, List.take_of_length_le (by omega)] at this
          exact ⟨hcell, this⟩
        · cases hk
      · cases hk
    · cases hk
/-- The rows of a slice that came in, one list for each element. -/
theorem open_rowsN {t e : TypeId} {ks : List (Option IntKind)} {fuel : Nat} {cs : List Value} {x : DataW H × List MemPlace} (ht : P.underlying t = some (.slice e)) (hk : kindsN P 8 e = some ks) (h : DataW.trod enc P w base spare held fuel t cs = some x) :
    cs = [.slice none 0 0] ∨ ∃ (a : Addr) (len cap : Nat) (rows : Nat → List Value), cs = [.slice (some a) len cap] ∧ len ≤ cap ∧ cap ≤ maxLen ∧
      ∀ i, i < (if spare a.block then cap else len) → FitsX ks (rows i) ∧ ∀ j v, (rows i)[j]? = some v → w.cell? (a.add (i * ks.length + j)) = some v := by
  rcases open_slice ht h with ⟨h0, _⟩ | ⟨a, len, cap, m, n, D, Pl, rfl, hb, hl, hm, hmm, rfl, hx⟩
  · exact .inl h0
  right
  obtain ⟨rows, hr⟩ := choose_lt (n := m) (α := List Value) (p := fun i r => FitsX ks r ∧ ∀ j v, r[j]? = some v → w.cell? (a.add (i * ks.length + j)) = some v) (fun i hi => by
    obtain ⟨cs', h1, h2⟩ := hx i hi
    obtain ⟨q1, q2⟩ := fits_N hk h2
    refine ⟨cs', q2, fun j v hv => ?_⟩
    obtain ⟨_, hlen, hcell⟩ := World.cells?_some h1
    have hlt := (List.getElem?_eq_some_iff.1 hv).1
    have := hcell j (by omega)
    rw [add_add, q1] at this
    rw [this, hv])
  exact ⟨a, len, cap, rows, rfl, hl, hm, hmm ▸ hr⟩
theorem row_inN {W : World} {t e : TypeId} {ks : List (Option IntKind)} {fuel : Nat} {v : Value} {x : DataW H × List MemPlace} (ht : P.underlying t = some (.slice e)) (hk : kindsN P 8 e = some ks) (hpos : 0 < ks.length)
    (h : DataW.trod enc P W 0 (fun _ => true) held fuel t [v] = some x) :
    ∃ (n : Nat) (rows : Nat → List Value) (v' : Value), n ≤ maxLen ∧ (∀ i, i < n → FitsX ks (rows i)) ∧ RowIn (st0 W) v' n ks.length rows ∧ VRel (rho0 W.heap.size) v' v := by
  rcases open_rowsN ht hk h with h0 | ⟨a, len, cap, rows, h0, hl, hm, hr⟩
  · have : v = .slice none 0 0 := by simpa using h0
    subst this
    exact ⟨0, fun _ => [], .slice none 0 0, by simp, fun i hi => by omega, .inl ⟨rfl, rfl⟩, .lit _ rfl⟩
  · have : v = .slice (some a) len cap := by simpa using h0
    subst this
    simp only [if_true] at hr
    by_cases hc : cap = 0
    · subst hc
      have : len = 0 := by omega
      subst this
      exact ⟨0, fun _ => [], .slice (some ⟨0, 0, none⟩) 0 0, by simp, fun i hi => by omega, .inr ⟨0, 0, 0, rfl, fun h => by omega⟩, .empty _ _ _ fun h => absurd rfl h⟩
    · obtain ⟨f0, c0⟩ := hr 0 (by omega)
      obtain ⟨b, o, spot⟩ := a
      obtain ⟨n0, g0, _⟩ := f0.2 0 ks[0] (List.getElem?_eq_getElem hpos)
      have hcell := c0 0 _ g0
      have hspot : spot = none := by simpa [Addr.add] using World.cell?_spot hcell
      subst hspot
      have hlt : b < W.heap.size := by
        rw [add_none] at hcell
        simp only [World.cell?] at hcell
        split at hcell
        · rename_i hb; exact (Array.getElem?_eq_some_iff.1 hb).1
        · cases hcell
      refine ⟨len, rows, .slice (some ⟨b, o, none⟩) len cap, by omega, fun i hi => (hr i (by omega)).1, .inr ⟨b, o, cap, rfl, fun hn => ?_⟩, .slice b o len cap cap ⟨b, 0, false⟩ (by simp [rho0, hlt]) rfl hl hm⟩
      have hlen : ∀ i, i < len → (rows i).length = ks.length := fun i hi => (hr i (by omega)).1.1
      obtain ⟨_, cs, q1, q2⟩ := st0_cells (W := W) (b := b) (off := o) (flat_length len hlen) (Nat.mul_pos hn hpos) (fun j v hv => by
        obtain ⟨i, q, h1, rfl, h3⟩ := flat_get len hlen j v hv
        have := (hr i (by omega)).2 q v h3
        rwa [add_none] at this) (by
        rw [List.all_eq_true]
        intro v hv
        obtain ⟨i, hi, hv⟩ := List.mem_flatMap.1 hv
        exact List.all_eq_true.1 (hr i (by have := List.mem_range.1 hi; omega)).1.lit v hv)
      exact ⟨cs, q1, q2⟩
end
end Go.Abs
