/- A slice of integers, or of structs of integers, that came in: its cells. -/
import Derived.Test.YtdgonebknphkcaaAbsY
import Derived.Deep.Slices
import Derived.Deep.Fields
set_option linter.unusedSimpArgs false
set_option linter.unusedVariables false
namespace Go.Abs
open Go.RowKit (Below)
open Go.ChangeShapes Go.WideShapes Go.Deep

section
variable {H : Type} {enc : TypeId × Value → H} {P : Program} {w : World} {base : Nat} {spare : Nat → Bool} {held : Bool}

def kindsF (P : Program) : List Field → Option (List IntKind)
  | [] => some []
  | f :: r => match P.underlying f.type, kindsF P r with
    | some (.int k), some ks => some (k :: ks)
    | _, _ => none
/-- The kinds of an element's cells. -/
def kindsOf (P : Program) (e : TypeId) : Option (List IntKind) :=
  match P.underlying e with
  | some (.int k) => match Nat.beq (P.cellsOf e) 1 with
    | true => some [k]
    | false => none
  | some (.struct fs) => match oneCellFields P fs && Nat.beq (P.cellsOf e) fs.size with
    | true => kindsF P fs.toList
    | false => none
  | _ => none
/-- Cells that are integers of these kinds, each within its kind. -/
def Fits (ks : List IntKind) (vs : List Value) : Prop := vs.length = ks.length ∧ ∀ (i : Nat) (k : IntKind), ks[i]? = some k → ∃ n : Int, vs[i]? = some (Value.int k n) ∧ (Lit.int k n).wf = true

theorem kindsF_spec : ∀ {l : List Field} {ks : List IntKind}, kindsF P l = some ks → ks.length = l.length ∧ ∀ (i : Nat) (k : IntKind), ks[i]? = some k → ∃ f : Field, l[i]? = some f ∧ P.underlying f.type = some (TypeDesc.int k)
  | [], ks, h => by cases h; exact ⟨rfl, fun i k h => by simp at h⟩
  | f :: r, ks, h => by
    simp only [kindsF] at h
    split at h
    · rename_i k0 ks0 h1 h2
      cases h
      obtain ⟨q1, q2⟩ := kindsF_spec h2
      refine ⟨by simp [q1], fun i k hk => ?_⟩
      cases i with
      | zero => simp at hk; subst hk; exact ⟨f, rfl, h1⟩
      | succ i => simpa using q2 i k (by simpa using hk)
    · cases h
theorem elem_fits {e : TypeId} {ks : List IntKind} {fuel : Nat} {cs : List Value} {x : DataW H × List MemPlace} (hk : kindsOf P e = some ks) (h : DataW.trod enc P w base spare held fuel e cs = some x) : P.cellsOf e = ks.length ∧ Fits ks cs := by
  unfold kindsOf at hk
  split at hk
  · rename_i k hu
    split at hk
    · rename_i hc
      cases hk
      obtain ⟨n, rfl, _, hw⟩ := DataW.trod_int hu h
      refine ⟨Nat.eq_of_beq_eq_true hc, rfl, fun i k' hk' => ?_⟩
      cases i with
      | zero => simp at hk'; subst hk'; exact ⟨n, rfl, hw⟩
      | succ i => simp at hk'
    · cases hk
  · rename_i fs hu
    split at hk
    · rename_i hc
      simp only [Bool.and_eq_true] at hc
      have hone := hone_of hc.1
      have hcell := Nat.eq_of_beq_eq_true hc.2
      obtain ⟨q1, q2⟩ := kindsF_spec hk
      obtain ⟨xs, n, _, _, hlen, hxl, hf⟩ := DataW.trod_struct hu h
      have hkl : ks.length = fs.size := by simpa using q1
      refine ⟨by omega, by omega, fun i k hki => ?_⟩
      obtain ⟨f, hfi, hfk⟩ := q2 i k hki
      have hfi : fs[i]? = some f := by simpa using hfi
      have hlt : i < fs.size := (Array.getElem?_eq_some_iff.1 hfi).1
      obtain ⟨o1, o2⟩ := hone i f hfi
      have g := hf i f hfi
      rw [o1, o2, List.getElem?_eq_getElem (by omega)] at g
      obtain ⟨m, e1, _, hw⟩ := DataW.trod_int hfk g
      refine ⟨m, ?_, hw⟩
      have : ((cs.drop i).take 1)[0]? = some (.int k m) := by rw [e1]; rfl
      simpa [List.getElem?_take] using this
    · cases hk
  · cases hk
theorem Fits.lit {ks : List IntKind} {vs : List Value} (h : Fits ks vs) : vs.all lit1 = true := by
  rw [List.all_eq_true]
  intro v hv
  obtain ⟨i, hi⟩ := List.getElem?_of_mem hv
  have hlt := (List.getElem?_eq_some_iff.1 hi).1
  have hks : i < ks.length := by have := h.1; omega
  obtain ⟨n, h1, _⟩ := h.2 i ks[i] (List.getElem?_eq_getElem hks)
  rw [hi] at h1
  cases h1
  rfl

/-- The rows of a slice that came in, one list for each element. -/
theorem open_rows {t e : TypeId} {ks : List IntKind} {fuel : Nat} {cs : List Value} {x : DataW H × List MemPlace} (ht : P.underlying t = some (.slice e)) (hk : kindsOf P e = some ks) (h : DataW.trod enc P w base spare held fuel t cs = some x) :
    cs = [.slice none 0 0] ∨ ∃ (a : Addr) (len cap : Nat) (rows : Nat → List Value), cs = [.slice (some a) len cap] ∧ len ≤ cap ∧ cap ≤ maxLen ∧
      ∀ i, i < (if spare a.block then cap else len) → Fits ks (rows i) ∧ ∀ j v, (rows i)[j]? = some v → w.cell? (a.add (i * ks.length + j)) = some v := by
  rcases open_slice ht h with ⟨h0, _⟩ | ⟨a, len, cap, m, n, D, Pl, rfl, hb, hl, hm, hmm, rfl, hx⟩
  · exact .inl h0
  right
  obtain ⟨rows, hr⟩ := choose_lt (n := m) (α := List Value) (p := fun i r => Fits ks r ∧ ∀ j v, r[j]? = some v → w.cell? (a.add (i * ks.length + j)) = some v) (fun i hi => by
    obtain ⟨cs', h1, h2⟩ := hx i hi
    obtain ⟨q1, q2⟩ := elem_fits hk h2
    refine ⟨cs', q2, fun j v hv => ?_⟩
    obtain ⟨_, hlen, hcell⟩ := World.cells?_some h1
    have hlt := (List.getElem?_eq_some_iff.1 hv).1
    have := hcell j (by omega)
    rw [add_add, q1] at this
    rw [this, hv])
  exact ⟨a, len, cap, rows, rfl, hl, hm, hmm ▸ hr⟩
/-- A slice of the old memory, abstractly: its cells. -/
def RowIn (h : St) (v : Value) (n sz : Nat) (rows : Nat → List Value) : Prop :=
  (v = .slice none 0 0 ∧ n = 0) ∨ ∃ b off c, v = .slice (some ⟨b, off, none⟩) n c ∧
    (0 < n → ∃ cs, h.objs b = some (.cells cs false) ∧ takeN cs off (n * sz) = some ((List.range n).flatMap rows))
theorem flat_length {rows : Nat → List Value} {sz : Nat} : ∀ n, (∀ i, i < n → (rows i).length = sz) → ((List.range n).flatMap rows).length = n * sz
  | 0, _ => by simp
  | n + 1, h => by
    rw [List.range_succ, List.flatMap_append, List.length_append, flat_length n fun i hi => h i (by omega), Nat.succ_mul]
    simp [h n (by omega)]
theorem flat_get {rows : Nat → List Value} {sz : Nat} : ∀ n, (∀ i, i < n → (rows i).length = sz) → ∀ j v, ((List.range n).flatMap rows)[j]? = some v → ∃ i q, i < n ∧ j = i * sz + q ∧ (rows i)[q]? = some v
  | 0, _, j, v, hv => by simp at hv
  | n + 1, h, j, v, hv => by
    have hl := flat_length (rows := rows) n fun i hi => h i (by omega)
    rw [List.range_succ, List.flatMap_append, List.getElem?_append] at hv
    split at hv
    · obtain ⟨i, q, h1, h2, h3⟩ := flat_get n (fun i hi => h i (by omega)) j v hv
      exact ⟨i, q, by omega, h2, h3⟩
    · rename_i hj
      rw [hl] at hv hj
      exact ⟨n, j - n * sz, by omega, by omega, by simpa using hv⟩
theorem row_in {W : World} {t e : TypeId} {ks : List IntKind} {fuel : Nat} {v : Value} {x : DataW H × List MemPlace} (ht : P.underlying t = some (.slice e)) (hk : kindsOf P e = some ks) (hpos : 0 < ks.length)
    (h : DataW.trod enc P W 0 (fun _ => true) held fuel t [v] = some x) :
    ∃ (n : Nat) (rows : Nat → List Value) (v' : Value), n ≤ maxLen ∧ (∀ i, i < n → Fits ks (rows i)) ∧ RowIn (st0 W) v' n ks.length rows ∧ VRel (rho0 W.heap.size) v' v := by
  rcases open_rows ht hk h with h0 | ⟨a, len, cap, rows, h0, hl, hm, hr⟩
  · have : v = .slice none 0 0 := by simpa using h0
    subst this
    exact ⟨0, fun _ => [], .slice none 0 0, by simp, fun i hi => by omega, .inl ⟨rfl, rfl⟩, .lit _ rfl⟩
  · have : v = .slice (some a) len cap := by simpa using h0
    subst this
    simp only [if_true] at hr
    by_cases hc : cap = 0
    · subst hc
      have : len = 0 := by omega
      subst this
      exact ⟨0, fun _ => [], .slice (some ⟨0, 0, none⟩) 0 0, by simp, fun i hi => by omega, .inr ⟨0, 0, 0, rfl, fun h => by omega⟩, .empty _ _ _ fun h => absurd rfl h⟩
    · obtain ⟨f0, c0⟩ := hr 0 (by omega)
      obtain ⟨b, o, spot⟩ := a
      obtain ⟨n0, g0, _⟩ := f0.2 0 ks[0] (List.getElem?_eq_getElem hpos)
      have hcell := c0 0 _ g0
      have hspot : spot = none := by simpa [Addr.add] using World.cell?_spot hcell
      subst hspot
      have hlt : b < W.heap.size := by
        rw [add_none] at hcell
        simp only [World.cell?] at hcell
        split at hcell
        · rename_i hb; exact (Array.getElem?_eq_some_iff.1 hb).1
        · cases hcell
      refine ⟨len, rows, .slice (some ⟨b, o, none⟩) len cap, by omega, fun i hi => (hr i (by omega)).1, .inr ⟨b, o, cap, rfl, fun hn => ?_⟩, .slice b o len cap cap ⟨b, 0, false⟩ (by simp [rho0, hlt]) rfl hl hm⟩
      have hlen : ∀ i, i < len → (rows i).length = ks.length := fun i hi => (hr i (by omega)).1.1
      obtain ⟨_, cs, q1, q2⟩ := st0_cells (W := W) (b := b) (off := o) (flat_length len hlen) (Nat.mul_pos hn hpos) (fun j v hv => by
        obtain ⟨i, q, h1, rfl, h3⟩ := flat_get len hlen j v hv
        have := (hr i (by omega)).2 q v h3
        rwa [add_none] at this) (by
        rw [List.all_eq_true]
        intro v hv
        obtain ⟨i, hi, hv⟩ := List.mem_flatMap.1 hv
        exact List.all_eq_true.1 (hr i (by have := List.mem_range.1 hi; omega)).1.lit v hv)
      exact ⟨cs, q1, q2⟩
end
end Go.Abs
