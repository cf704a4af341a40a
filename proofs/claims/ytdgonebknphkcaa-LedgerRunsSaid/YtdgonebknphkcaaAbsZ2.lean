/- A slice of structs of integers and bools that came in: its cells. -/
import Derived.Test.YtdgonebknphkcaaAbsZ
import Derived.ChangeArms
set_option linter.unusedSimpArgs false
set_option linter.unusedVariables false
namespace Go.Abs
open Go.RowKit (Below)
open Go.ChangeShapes Go.WideShapes Go.Deep

section
variable {H : Type} {enc : TypeId × Value → H} {P : Program} {w : World} {base : Nat} {spare : Nat → Bool} {held : Bool}

def kindsFX (P : Program) : List Field → Option (List (Option IntKind))
  | [] => some []
  | f :: r => match P.underlying f.type, kindsFX P r with
    | some (.int k), some ks => some (some k :: ks)
    | some .bool, some ks => some (none :: ks)
    | _, _ => none
/-- The kinds of an element's cells. -/
def kindsOfX (P : Program) (e : TypeId) : Option (List (Option IntKind)) :=
  match P.underlying e with
  | some (.int k) => match Nat.beq (P.cellsOf e) 1 with
    | true => some [some k]
    | false => none
  | some (.struct fs) => match oneCellFields P fs && Nat.beq (P.cellsOf e) fs.size with
    | true => kindsFX P fs.toList
    | false => none
  | _ => none
def fitK : Option IntKind → Value → Prop
  | some k, v => ∃ n : Int, v = .int k n ∧ (Lit.int k n).wf = true
  | none, v => ∃ b : Bool, v = .bool b
def tdK : Option IntKind → TypeDesc
  | some k => .int k
  | none => .bool
/-- Cells that are integers of these kinds, or bools. -/
def FitsX (ks : List (Option IntKind)) (vs : List Value) : Prop := vs.length = ks.length ∧ ∀ (i : Nat) (k : Option IntKind), ks[i]? = some k → ∃ v : Value, vs[i]? = some v ∧ fitK k v

theorem kindsFX_spec : ∀ {l : List Field} {ks : List (Option IntKind)}, kindsFX P l = some ks → ks.length = l.length ∧ ∀ (i : Nat) (k : Option IntKind), ks[i]? = some k → ∃ f : Field, l[i]? = some f ∧ P.underlying f.type = some (tdK k)
  | [], ks, h => by cases h; exact ⟨rfl, fun i k h => by simp at h⟩
  | f :: r, ks, h => by
    simp only [kindsFX] at h
    split at h
    · rename_i k0 ks0 h1 h2
      cases h
      obtain ⟨q1, q2⟩ := kindsFX_spec h2
      refine ⟨by simp [q1], fun i k hk => ?_⟩
      cases i with
      | zero => simp at hk; subst hk; exact ⟨f, rfl, h1⟩
      | succ i => simpa using q2 i k (by simpa using hk)
    · rename_i ks0 h1 h2
      cases h
      obtain ⟨q1, q2⟩ := kindsFX_spec h2
      refine ⟨by simp [q1], fun i k hk => ?_⟩
      cases i with
      | zero => simp at hk; subst hk; exact ⟨f, rfl, h1⟩
      | succ i => simpa using q2 i k (by simpa using hk)
    · cases h
theorem elem_fitsX {e : TypeId} {ks : List (Option IntKind)} {fuel : Nat} {cs : List Value} {x : DataW H × List MemPlace} (hk : kindsOfX P e = some ks) (h : DataW.trod enc P w base spare held fuel e cs = some x) : P.cellsOf e = ks.length ∧ FitsX ks cs := by
  unfold kindsOfX at hk
  split at hk
  · rename_i k hu
    split at hk
    · rename_i hc
      cases hk
      obtain ⟨n, rfl, _, hw⟩ := DataW.trod_int hu h
      refine ⟨Nat.eq_of_beq_eq_true hc, rfl, fun i k' hk' => ?_⟩
      cases i with
      | zero => simp at hk'; subst hk'; exact ⟨_, rfl, n, rfl, hw⟩
      | succ i => simp at hk'
    · cases hk
  · rename_i fs hu
    split at hk
    · rename_i hc
      simp only [Bool.and_eq_true] at hc
      have hone := hone_of hc.1
      have hcell := Nat.eq_of_beq_eq_true hc.2
      obtain ⟨q1, q2⟩ := kindsFX_spec hk
      obtain ⟨xs, n, _, _, hlen, hxl, hf⟩ := DataW.trod_struct hu h
      have hkl : ks.length = fs.size := by simpa using q1
      refine ⟨by omega, by omega, fun i k hki => ?_⟩
      obtain ⟨f, hfi, hfk⟩ := q2 i k hki
      have hfi : fs[i]? = some f := by simpa using hfi
      have hlt : i < fs.size := (Array.getElem?_eq_some_iff.1 hfi).1
      obtain ⟨o1, o2⟩ := hone i f hfi
      have g := hf i f hfi
      rw [o1, o2, List.getElem?_eq_getElem (by omega)] at g
      cases k with
      | some k =>
        obtain ⟨m, e1, _, hw⟩ := DataW.trod_int hfk g
        refine ⟨.int k m, ?_, m, rfl, hw⟩
        have : ((cs.drop i).take 1)[0]? = some (.int k m) := by rw [e1]; rfl
        simpa [List.getElem?_take] using this
      | none =>
        obtain ⟨m, e1, _⟩ := DataW.trod_bool hfk g
        refine ⟨.bool m, ?_, m, rfl⟩
        have : ((cs.drop i).take 1)[0]? = some (.bool m) := by rw [e1]; rfl
        simpa [List.getElem?_take] using this
    · cases hk
  · cases hk
theorem FitsX.lit {ks : List (Option IntKind)} {vs : List Value} (h : FitsX ks vs) : vs.all lit1 = true := by
  rw [List.all_eq_true]
  intro v hv
  obtain ⟨i, hi⟩ := List.getElem?_of_mem hv
  have hlt := (List.getElem?_eq_some_iff.1 hi).1
  have hks : i < ks.length := by have := h.1; omega
  obtain ⟨x, h1, h2⟩ := h.2 i ks[i] (List.getElem?_eq_getElem hks)
  rw [hi] at h1
  cases h1
  cases hk : ks[i] with
  | some k => rw [hk] at h2; obtain ⟨n, rfl, _⟩ := h2; rfl
  | none => rw [hk] at h2; obtain ⟨b, rfl⟩ := h2; rfl

/-- The rows of a slice that came in, one list for each element. -/
theorem open_rowsX {t e : TypeId} {ks : List (Option IntKind)} {fuel : Nat} {cs : List Value} {x : DataW H × List MemPlace} (ht : P.underlying t = some (.slice e)) (hk : kindsOfX P e = some ks) (h : DataW.trod enc P w base spare held fuel t cs = some x) :
    cs = [.slice none 0 0] ∨ ∃ (a : Addr) (len cap : Nat) (rows : Nat → List Value), cs = [.slice (some a) len cap] ∧ len ≤ cap ∧ cap ≤ maxLen ∧
      ∀ i, i < (if spare a.block then cap else len) → FitsX ks (rows i) ∧ ∀ j v, (rows i)[j]? = some v → w.cell? (a.add (i * ks.length + j)) = some v := by
  rcases open_slice ht h with ⟨h0, _⟩ | ⟨a, len, cap, m, n, D, Pl, rfl, hb, hl, hm, hmm, rfl, hx⟩
  · exact .inl h0
  right
  obtain ⟨rows, hr⟩ := choose_lt (n := m) (α := List Value) (p := fun i r => FitsX ks r ∧ ∀ j v, r[j]? = some v → w.cell? (a.add (i * ks.length + j)) = some v) (fun i hi => by
    obtain ⟨cs', h1, h2⟩ := hx i hi
    obtain ⟨q1, q2⟩ := elem_fitsX hk h2
    refine ⟨cs', q2, fun j v hv => ?_⟩
    obtain ⟨_, hlen, hcell⟩ := World.cells?_some h1
    have hlt := (List.getElem?_eq_some_iff.1 hv).1
    have := hcell j (by omega)
    rw [add_add, q1] at this
    rw [this, hv])
  exact ⟨a, len, cap, rows, rfl, hl, hm, hmm ▸ hr⟩
theorem row_inX {W : World} {t e : TypeId} {ks : List (Option IntKind)} {fuel : Nat} {v : Value} {x : DataW H × List MemPlace} (ht : P.underlying t = some (.slice e)) (hk : kindsOfX P e = some ks) (hpos : 0 < ks.length)
    (h : DataW.trod enc P W 0 (fun _ => true) held fuel t [v] = some x) :
    ∃ (n : Nat) (rows : Nat → List Value) (v' : Value), n ≤ maxLen ∧ (∀ i, i < n → FitsX ks (rows i)) ∧ RowIn (st0 W) v' n ks.length rows ∧ VRel (rho0 W.heap.size) v' v := by
  rcases open_rowsX ht hk h with h0 | ⟨a, len, cap, rows, h0, hl, hm, hr⟩
  · have : v = .slice none 0 0 := by simpa using h0
    subst this
    exact ⟨0, fun _ => [], .slice none 0 0, by simp, fun i hi => by omega, .inl ⟨rfl, rfl⟩, .lit _ rfl⟩
  · have : v = .slice (some a) len cap := by simpa using h0
    subst this
    simp only [if_true] at hr
    by_cases hc : cap = 0
    · subst hc
      have : len = 0 := by omega
      subst this
      exact ⟨0, fun _ => [], .slice (some ⟨0, 0, none⟩) 0 0, by simp, fun i hi => by omega, .inr ⟨0, 0, 0, rfl, fun h => by omega⟩, .empty _ _ _ fun h => absurd rfl h⟩
    · obtain ⟨f0, c0⟩ := hr 0 (by omega)
      obtain ⟨b, o, spot⟩ := a
      obtain ⟨n0, g0, _⟩ := f0.2 0 ks[0] (List.getElem?_eq_getElem hpos)
      have hcell := c0 0 _ g0
      have hspot : spot = none := by simpa [Addr.add] using World.cell?_spot hcell
      subst hspot
      have hlt : b < W.heap.size := by
        rw [add_none] at hcell
        simp only [World.cell?] at hcell
        split at hcell
        · rename_i hb; exact (Array.getElem?_eq_some_iff.1 hb).1
        · cases hcell
      refine ⟨len, rows, .slice (some ⟨b, o, none⟩) len cap, by omega, fun i hi => (hr i (by omega)).1, .inr ⟨b, o, cap, rfl, fun hn => ?_⟩, .slice b o len cap cap ⟨b, 0, false⟩ (by simp [rho0, hlt]) rfl hl hm⟩
      have hlen : ∀ i, i < len → (rows i).length = ks.length := fun i hi => (hr i (by omega)).1.1
      obtain ⟨_, cs, q1, q2⟩ := st0_cells (W := W) (b := b) (off := o) (flat_length len hlen) (Nat.mul_pos hn hpos) (fun j v hv => by
        obtain ⟨i, q, h1, rfl, h3⟩ := flat_get len hlen j v hv
        have := (hr i (by omega)).2 q v h3
        rwa [add_none] at this) (by
        rw [List.all_eq_true]
        intro v hv
        obtain ⟨i, hi, hv⟩ := List.mem_flatMap.1 hv
        exact List.all_eq_true.1 (hr i (by have := List.mem_range.1 hi; omega)).1.lit v hv)
      exact ⟨cs, q1, q2⟩
end
end Go.Abs
