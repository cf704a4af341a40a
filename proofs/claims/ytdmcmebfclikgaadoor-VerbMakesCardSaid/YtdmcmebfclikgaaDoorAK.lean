/- Fields that come in: a struct of slices, as the abstract machine sees it. -/
import Derived.Test.YtdmcmebfclikgaaDoorAJ
import Derived.Deep.Strs
import Derived.DataShut
set_option linter.unusedSimpArgs false
set_option linter.unusedVariables false
set_option maxHeartbeats 4000000
set_option maxRecDepth 100000
namespace Go.Proofs.YtdmcmebfclikgaaDoor
open Go.Abs Go.IntWalk Go.Deep Go.ChangeShapes Go.WideShapes

theorem st0_san {W : World} {b off n : Nat} {vs : List Value} (hn : vs.length = n) (h0 : 0 < n) (hc : ∀ (j : Nat) (v : Value), vs[j]? = some v → W.cell? ⟨b, off + j, none⟩ = some v) :
    b < W.heap.size ∧ ∃ cs, (st0 W).objs b = some (.cells cs false) ∧ takeN cs off n = some (vs.map (san W.heap.size)) := by
  have get : ∀ (j : Nat) (v : Value), vs[j]? = some v → ∃ arr ty fr, W.heap[b]? = some (.cells arr ty fr) ∧ arr[off + j]? = some v := by
    intro j v hv
    have := hc j v hv
    simp only [World.cell?] at this
    split at this
    · rename_i arr ty fr hb; exact ⟨arr, ty, fr, hb, this⟩
    · cases this
  obtain ⟨v0, hv0⟩ : ∃ v, vs[0]? = some v := ⟨vs[0], by simp [hn, h0]⟩
  obtain ⟨arr, ty, fr, hb, _⟩ := get 0 v0 hv0
  refine ⟨(Array.getElem?_eq_some_iff.1 hb).1, arr.toList.map (san W.heap.size), by simp only [st0, hb], ?_⟩
  have at_ : ∀ (j : Nat) (v : Value), vs[j]? = some v → arr.toList[off + j]? = some v := by
    intro j v hv
    obtain ⟨arr', ty', fr', hb', h⟩ := get j v hv
    rw [hb] at hb'; cases hb'
    simpa using h
  have hlen : off + n ≤ arr.toList.length := by
    obtain ⟨v, hv⟩ : ∃ v, vs[n - 1]? = some v := ⟨vs[n - 1], by simp [hn]⟩
    have := (List.getElem?_eq_some_iff.1 (at_ _ _ hv)).1
    omega
  unfold takeN
  rw [if_pos (by rw [List.length_map]; exact hlen)]
  congr 1
  apply List.ext_getElem?
  intro j
  rw [List.getElem?_take]
  split
  · rename_i hj
    rw [List.getElem?_drop, List.getElem?_map, List.getElem?_map]
    have hv : vs[j]? = some vs[j] := by simp [hn, hj]
    rw [at_ j _ hv, hv]
  · rename_i hj
    exact (List.getElem?_eq_none (by simp; omega)).symm
section
variable {H : Type} {enc : TypeId × Value → H} {P : Program} {W : World} {held : Bool}
/-- A slice whose elements are one cell each. -/
theorem slice_san {t e : TypeId} {fuel : Nat} {v : Value} {x : DataW H × List MemPlace} (ht : P.underlying t = some (.slice e)) (hc : P.cellsOf e = 1) (h : DataW.trod enc P W 0 (fun _ => true) held fuel t [v] = some x) :
    ∃ (n : Nat) (vals : Nat → Value), n ≤ maxLen ∧ SliceAt (· < (st0 W).next) (st0 W) (san W.heap.size v) n 1 (fun i => [san W.heap.size (vals i)]) ∧ ∀ i, i < n → ∃ fuel y, DataW.trod enc P W 0 (fun _ => true) held fuel e [vals i] = some y := by
  rcases open_slice ht h with ⟨h0, _⟩ | ⟨a, len, cap, m, n, D, Pl, h0, hb, hl, hm, hmm, _, hx⟩
  · have : v = .slice none 0 0 := by simpa using h0
    subst this
    exact ⟨0, fun _ => undef, Nat.zero_le _, .inl ⟨rfl, rfl⟩, fun i hi => by omega⟩
  · have : v = .slice (some a) len cap := by simpa using h0
    subst this
    simp only [if_true] at hmm
    subst hmm
    by_cases hcap : m = 0
    · subst hcap
      have : len = 0 := by omega
      subst this
      refine ⟨0, fun _ => undef, Nat.zero_le _, ?_, fun i hi => by omega⟩
      obtain ⟨b, o, s⟩ := a
      exact .inr ⟨0, 0, none, 0, by simp [san, lit1], .inl rfl, fun h => by omega⟩
    · obtain ⟨vals, hv⟩ := choose_lt (n := m) (α := Value) (p := fun i u => W.cell? (a.add i) = some u ∧ ∃ fuel y, DataW.trod enc P W 0 (fun _ => true) held fuel e [u] = some y) (fun i hi => by
        obtain ⟨cs', h1, h2⟩ := hx i hi
        rw [hc, Nat.mul_one] at h1
        obtain ⟨_, hlen, hcell⟩ := World.cells?_some h1
        match cs', hlen with
        | [u], _ =>
          have := hcell 0 (by omega)
          rw [add_add, Nat.add_zero] at this
          exact ⟨u, by simpa using this, n, _, h2⟩)
      obtain ⟨b, o, spot⟩ := a
      have hc0 := (hv 0 (by omega)).1
      have hspot : spot = none := by simpa [Addr.add] using World.cell?_spot hc0
      subst hspot
      have hcs : ∀ (j : Nat) (v : Value), ((List.range m).map vals)[j]? = some v → W.cell? ⟨b, o + j, none⟩ = some v := by
        intro j v hj
        have hlt : j < m := by have := (List.getElem?_eq_some_iff.1 hj).1; simpa using this
        simp [hlt] at hj
        subst hj
        have := (hv j hlt).1
        rwa [add_none] at this
      obtain ⟨hbl, cs, q1, q2⟩ := st0_san (W := W) (b := b) (off := o) (vs := (List.range m).map vals) (n := m) (by simp) (by omega) hcs
      refine ⟨len, vals, by omega, .inr ⟨b, o, none, m, ?_, .inl rfl, fun hn => ⟨hbl, hbl, cs, false, q1, fun i hi => ?_⟩⟩, fun i hi => (hv i (by omega)).2⟩
      · simp only [san, lit1]
        rw [if_neg (by omega), if_pos ⟨trivial, hbl, hl, hm⟩]
      · have := takeN_sub (o' := i) (m := 1) q2 (by omega)
        rw [Nat.mul_one, this]
        congr 1
        have hi' : i < m := by omega
        apply List.ext_getElem?
        intro j
        rw [List.getElem?_take]
        cases j with
        | zero => simp [hi']
        | succ j => simp
theorem san_int (B : Nat) (k : IntKind) (n : Int) : san B (.int k n) = .int k n := rfl
theorem san_string (B : Nat) (s : ByteArray) : san B (.string s) = .string s := rfl
/-- Numbers of a kind without a sign. -/
theorem nums_san {t e : TypeId} {k : IntKind} {fuel : Nat} {v : Value} {x : DataW H × List MemPlace} (ht : P.underlying t = some (.slice e)) (he : P.underlying e = some (.int k)) (hk : k.signed = false) (hc : P.cellsOf e = 1) (h : DataW.trod enc P W 0 (fun _ => true) held fuel t [v] = some x) :
    ∃ l : List Nat, l.length ≤ maxLen ∧ (∀ x ∈ l, x < 2 ^ k.bits) ∧ SliceAt (· < (st0 W).next) (st0 W) (san W.heap.size v) l.length 1 (fun i => [.int k (l[i]?.getD 0 : Nat)]) := by
  obtain ⟨n, vals, h1, h2, h3⟩ := slice_san ht hc h
  obtain ⟨f, hf⟩ := choose_lt (n := n) (α := Nat) (p := fun i (u : Nat) => vals i = .int k u ∧ u < 2 ^ k.bits) (fun i hi => by
    obtain ⟨fu, y, hy⟩ := h3 i hi
    obtain ⟨m, e1, _, hw⟩ := DataW.trod_int he hy
    have e1 : vals i = .int k m := by simpa using e1
    have hw := (Lit.wf_int_iff k m).1 hw
    simp only [IntKind.min, IntKind.max, hk] at hw
    have p : ((2 ^ k.bits : Nat) : Int) = 2 ^ k.bits := by norm_cast
    refine ⟨m.toNat, ?_, ?_⟩
    · rw [e1]; congr 1; simp at hw; omega
    · simp at hw; omega)
  refine ⟨(List.range n).map f, by simpa using h1, ?_, ?_⟩
  · intro x hx
    obtain ⟨i, hi, rfl⟩ := List.mem_map.1 hx
    exact (hf i (by simpa using hi)).2
  · have e : ((List.range n).map f).length = n := by simp
    rw [e]
    refine h2.rows fun i hi => ?_
    rw [(hf i hi).1, san_int]
    simp [hi]
theorem texts_san {t e : TypeId} {fuel : Nat} {v : Value} {x : DataW H × List MemPlace} (ht : P.underlying t = some (.slice e)) (he : P.underlying e = some .string) (hc : P.cellsOf e = 1) (h : DataW.trod enc P W 0 (fun _ => true) held fuel t [v] = some x) :
    ∃ l : List ByteArray, l.length ≤ maxLen ∧ SliceAt (· < (st0 W).next) (st0 W) (san W.heap.size v) l.length 1 (rowT l) := by
  obtain ⟨n, vals, h1, h2, h3⟩ := slice_san ht hc h
  obtain ⟨f, hf⟩ := choose_lt (n := n) (α := ByteArray) (p := fun i u => vals i = .string u) (fun i hi => by
    obtain ⟨fu, y, hy⟩ := h3 i hi
    obtain ⟨s, e1, _, hw⟩ := DataW.trod_string he hy
    exact ⟨s, by simpa using e1⟩)
  refine ⟨(List.range n).map f, by simpa using h1, ?_⟩
  have e : ((List.range n).map f).length = n := by simp
  rw [e]
  refine h2.rows fun i hi => ?_
  rw [hf i hi, san_string]
  simp [rowT, hi]
end
/-- What the walk is told of fields that came in. -/
def CameF (W : World) (c : Array Value) : Prop :=
  ∃ (vN vS vL : Value) (lv : Nat → Value) (N : List Nat) (S : List ByteArray) (L : List (List Nat)), VRel (rho0 W.heap.size) (.agg #[vN, vS, vL]) (.agg c) ∧ FieldsAt (· < (st0 W).next) (st0 W) vN vS vL lv N S L ∧
    (∀ x ∈ N, x < 18446744073709551616) ∧ (∀ l ∈ L, ∀ x ∈ l, x < 4294967296) ∧ N.length ≤ maxLen ∧ S.length ≤ maxLen ∧ L.length ≤ maxLen
theorem fields_came {H : Type} {enc : TypeId × Value → H} {W : World} {held : Bool} {fuel : Nat} {c : Array Value} {x : DataW H × List MemPlace} (h : DataW.trod enc Tryd.prog W 0 (fun _ => true) held fuel 26 c.toList = some x) : CameF W c := by
  obtain ⟨y0, y1, y2, n, _, hl, g0, g1, g2⟩ := trod_struct3 Tryd.underlying26 h
  have c26 : Tryd.prog.cellsOf 26 = 3 := by kernel_rfl
  have c22 : Tryd.prog.cellsOf 22 = 1 := by kernel_rfl
  have c23 : Tryd.prog.cellsOf 23 = 1 := by kernel_rfl
  have c24 : Tryd.prog.cellsOf 24 = 1 := by kernel_rfl
  have c53 : Tryd.prog.cellsOf 53 = 1 := by kernel_rfl
  have c9 : Tryd.prog.cellsOf 9 = 1 := by kernel_rfl
  have c49 : Tryd.prog.cellsOf 49 = 1 := by kernel_rfl
  have c54 : Tryd.prog.cellsOf 54 = 1 := by kernel_rfl
  rw [c26] at hl
  obtain ⟨⟨cs⟩⟩ : ∃ d : Array Value, d = c := ⟨c, rfl⟩
  match c, hl with
  | ⟨[v0, v1, v2]⟩, _ =>
    have g0 : DataW.trod enc Tryd.prog W 0 (fun _ => true) held n 22 [v0] = some y0 := by simpa [c22] using g0
    have g1 : DataW.trod enc Tryd.prog W 0 (fun _ => true) held n 23 [v1] = some y1 := by simpa [c23] using g1
    have g2 : DataW.trod enc Tryd.prog W 0 (fun _ => true) held n 24 [v2] = some y2 := by simpa [c24] using g2
    obtain ⟨N, n1, n2, n3⟩ := nums_san Tryd.underlying22 Tryd.underlying53 rfl c53 g0
    obtain ⟨S, s1, s2⟩ := texts_san Tryd.underlying23 Tryd.underlying9 c9 g1
    obtain ⟨m, vals, l1, l2, l3⟩ := slice_san Tryd.underlying24 c49 g2
    obtain ⟨f, hf⟩ := choose_lt (n := m) (α := List Nat) (p := fun i l => (∀ x ∈ l, x < 2 ^ IntKind.u32.bits) ∧ SliceAt (· < (st0 W).next) (st0 W) (san W.heap.size (vals i)) l.length 1 (fun i => [.int .u32 (l[i]?.getD 0 : Nat)])) (fun i hi => by
      obtain ⟨fu, y, hy⟩ := l3 i hi
      obtain ⟨l, _, h2, h3⟩ := nums_san Tryd.underlying49 Tryd.underlying54 rfl c54 hy
      exact ⟨l, h2, h3⟩)
    refine ⟨san W.heap.size v0, san W.heap.size v1, san W.heap.size v2, fun i => san W.heap.size (vals i), N, S, (List.range m).map f, ?_, ⟨n3, s2, ?_, fun i l hl => ?_⟩, n2, ?_, n1, s1, by simpa using l1⟩
    · refine .agg _ _ rfl fun i h1 h2 => ?_
      have h1 : i < 3 := h1
      match i, h1 with
      | 0, _ => exact san_rel _ _
      | 1, _ => exact san_rel _ _
      | 2, _ => exact san_rel _ _
    · have e : ((List.range m).map f).length = m := by simp
      rw [e]
      exact l2
    · have hi : i < m := by have := (List.getElem?_eq_some_iff.1 hl).1; simpa using this
      simp [hi] at hl
      subst hl
      exact (hf i hi).2
    · intro l hl x hx
      obtain ⟨i, hi, rfl⟩ := List.mem_map.1 hl
      exact (hf i (by simpa using hi)).1 x hx
/-- What the walk is told of a message that came in. -/
def CameM (W : World) (c : Array Value) : Prop := ∃ (x : Int) (d : Array Value), c = ⟨.int .i64 x :: d.toList⟩ ∧ CameF W d
theorem msg_came {H : Type} {enc : TypeId × Value → H} {W : World} {held : Bool} {fuel : Nat} {c : Array Value} {x : DataW H × List MemPlace} (h : DataW.trod enc Tryd.prog W 0 (fun _ => true) held fuel 28 c.toList = some x) : CameM W c := by
  obtain ⟨y0, y1, n, _, hl, g0, g1⟩ := trod_struct2 Tryd.underlying28 h
  have c28 : Tryd.prog.cellsOf 28 = 4 := by kernel_rfl
  have c3 : Tryd.prog.cellsOf 3 = 1 := by kernel_rfl
  have c26 : Tryd.prog.cellsOf 26 = 3 := by kernel_rfl
  rw [c28] at hl
  match c, hl with
  | ⟨[v0, v1, v2, v3]⟩, _ =>
    have g0 : DataW.trod enc Tryd.prog W 0 (fun _ => true) held n 3 [v0] = some y0 := by simpa [c3] using g0
    have g1 : DataW.trod enc Tryd.prog W 0 (fun _ => true) held n 26 (#[v1, v2, v3] : Array Value).toList = some y1 := by simpa [c26] using g1
    obtain ⟨k, e1, _, _⟩ := DataW.trod_int Tryd.underlying3 g0
    have e1 : v0 = .int .i64 k := by simpa using e1
    subst e1
    exact ⟨k, #[v1, v2, v3], rfl, fields_came g1⟩
end Go.Proofs.YtdmcmebfclikgaaDoor
