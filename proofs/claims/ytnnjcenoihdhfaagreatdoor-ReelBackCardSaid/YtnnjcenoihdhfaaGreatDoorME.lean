/- What walks lean on: congruences that look at what comes first alone; a call by its spec. | Slices of structs that came in, with slices and texts in them. | Bytes: numbers put and taken; the document's Put and Number; bytes as texts. | A reel's codec, plainly: no program in sight. | Events in memory. | A reel's codec: is an event right; alike; copies. | A reel's codec: the bytes of events. | A reel's codec: the events of bytes (the program). -/
import Derived.Test.YtnnjcenoihdhfaaGreatDoorMC
import Derived.Test.YtnnjcenoihdhfaaGreatDoorMD
import Derived.Deep.Strs
import Derived.DataShut
import Derived.Test.YtnnjcenoihdhfaaGreatDoorProg
import Derived.Test.YtnnjcenoihdhfaaGreatDoorMA
import Derived.KernelRfl
section
set_option linter.unusedSimpArgs false
set_option linter.unusedVariables false
namespace Go.Proofs.YtnnjcenoihdhfaaGreatDoor
open Go.Abs
theorem appendE_weak {dd : Prop} {size bytes : Nat} {s s' x x' : Value} {h h' : St} {k : Cont} (e : s = s') (ex : x = x') (eh : h = h') (_t : ((0 : Nat) = 0) = dd) : appendE size bytes s x h k = appendE size bytes s' x' h' k := by rw [e, ex, eh]
theorem buildSliceE_weak {dd : Prop} {size len : Nat} {z : List Value} {p p' : List (Nat × Nat × Value)} {h h' : St} {k : Cont} (ex : p = p') (eh : h = h') (_t : ((0 : Nat) = 0) = dd) : buildSliceE size len z p h k = buildSliceE size len z p' h' k := by rw [ex, eh]
theorem mapUpdateE_weak {dd : Prop} {key : KeyMode} {m m' q q' x x' : Value} {h h' : St} {k : Cont} (em : m = m') (eq : q = q') (ex : x = x') (eh : h = h') (_t : ((0 : Nat) = 0) = dd) : mapUpdateE key m q x h k = mapUpdateE key m' q' x' h' k := by rw [em, eq, ex, eh]
theorem deleteE_weak {dd : Prop} {key : KeyMode} {m m' q q' : Value} {h h' : St} {k : Cont} (em : m = m') (eq : q = q') (eh : h = h') (_t : ((0 : Nat) = 0) = dd) : deleteE key m q h k = deleteE key m' q' h' k := by rw [em, eq, eh]
theorem makeMapE_weak {dd : Prop} {h h' : St} {k : Cont} (eh : h = h') (_t : ((0 : Nat) = 0) = dd) : makeMapE h k = makeMapE h' k := by rw [eh]
theorem copyE_weak {dd : Prop} {size : Nat} {s s' x x' : Value} {h h' : St} {k : Cont} (e : s = s') (ex : x = x') (eh : h = h') (_t : ((0 : Nat) = 0) = dd) : copyE size s x h k = copyE size s' x' h' k := by rw [e, ex, eh]
theorem clearE_weak {dd : Prop} {size : Nat} {z : List Value} {x x' : Value} {h h' : St} {k : Cont} (ex : x = x') (eh : h = h') (_t : ((0 : Nat) = 0) = dd) : clearE size z x h k = clearE size z x' h' k := by rw [ex, eh]
theorem callE_weak {dd : Prop} {C : Oracle} {f f' : Value} {a a' : List Value} {h h' : St} {k : Cont} (ef : f = f') (ea : a = a') (eh : h = h') (_t : ((0 : Nat) = 0) = dd) : callE C f a h k = callE C f' a' h' k := by rw [ef, ea, eh]
theorem cK {f : FuncId} {S : Abs.Spec} {args : List Value} {h : St} {k : Cont} : ∀ {tab : List (FuncId × Abs.Spec)}, (f, S) ∈ tab → S args h k → tabC tab f args h k
  | (g, R) :: tab, hm, H => by
    rcases List.mem_cons.1 hm with e | hm
    · cases e; exact .inl ⟨rfl, H⟩
    · exact .inr (cK hm H)
theorem guardK_undef (w : Bool) (y n : Prop) : guardK undef w y n = n := propext Iff.rfl
end Go.Proofs.YtnnjcenoihdhfaaGreatDoor
end

section
set_option linter.unusedSimpArgs false
set_option linter.unusedVariables false
set_option maxHeartbeats 4000000
namespace Go.Abs
open Go.IntWalk Go.Deep Go.ChangeShapes Go.WideShapes

theorem st0_san {W : World} {b off n : Nat} {vs : List Value} (hn : vs.length = n) (h0 : 0 < n) (hc : ∀ (j : Nat) (v : Value), vs[j]? = some v → W.cell? ⟨b, off + j, none⟩ = some v) :
    b < W.heap.size ∧ ∃ cs, (st0 W).objs b = some (.cells cs false) ∧ takeN cs off n = some (vs.map (san W.heap.size)) := by
  have get : ∀ (j : Nat) (v : Value), vs[j]? = some v → ∃ arr ty fr, W.heap[b]? = some (.cells arr ty fr) ∧ arr[off + j]? = some v := by
    intro j v hv
    have := hc j v hv
    simp only [World.cell?] at this
    split at this
    · rename_i arr ty fr hb; exact ⟨arr, ty, fr, hb, this⟩
    · cases this
  obtain ⟨v0, hv0⟩ : ∃ v, vs[0]? = some v := ⟨vs[0], by simp [hn, h0]⟩
  obtain ⟨arr, ty, fr, hb, _⟩ := get 0 v0 hv0
  refine ⟨(Array.getElem?_eq_some_iff.1 hb).1, arr.toList.map (san W.heap.size), by simp only [st0, hb], ?_⟩
  have at_ : ∀ (j : Nat) (v : Value), vs[j]? = some v → arr.toList[off + j]? = some v := by
    intro j v hv
    obtain ⟨arr', ty', fr', hb', h⟩ := get j v hv
    rw [hb] at hb'; cases hb'
    simpa using h
  have hlen : off + n ≤ arr.toList.length := by
    obtain ⟨v, hv⟩ : ∃ v, vs[n - 1]? = some v := ⟨vs[n - 1], by simp [hn]⟩
    have := (List.getElem?_eq_some_iff.1 (at_ _ _ hv)).1
    omega
  unfold takeN
  rw [if_pos (by rw [List.length_map]; exact hlen)]
  congr 1
  apply List.ext_getElem?
  intro j
  rw [List.getElem?_take]
  split
  · rename_i hj
    rw [List.getElem?_drop, List.getElem?_map, List.getElem?_map]
    have hv : vs[j]? = some vs[j] := by simp [hn, hj]
    rw [at_ j _ hv, hv]
  · rename_i hj
    exact (List.getElem?_eq_none (by simp; omega)).symm
section
variable {H : Type} {enc : TypeId × Value → H} {P : Program} {W : World} {held : Bool}
/-- A slice whose elements are so many cells each. -/
theorem slice_san {t e : TypeId} {c fuel : Nat} {v : Value} {x : DataW H × List MemPlace} (ht : P.underlying t = some (.slice e)) (hc : P.cellsOf e = c) (c0 : 0 < c) (h : DataW.trod enc P W 0 (fun _ => true) held fuel t [v] = some x) :
    ∃ (n : Nat) (rows : Nat → List Value), n ≤ maxLen ∧ SliceAt (· < (st0 W).next) (st0 W) (san W.heap.size v) n c (fun i => (rows i).map (san W.heap.size)) ∧ ∀ i, i < n → (rows i).length = c ∧ ∃ fuel y, DataW.trod enc P W 0 (fun _ => true) held fuel e (rows i) = some y := by
  rcases open_slice ht h with ⟨h0, _⟩ | ⟨a, len, cap, m, n, D, Pl, h0, hb, hl, hm, hmm, _, hx⟩
  · have : v = .slice none 0 0 := by simpa using h0
    subst this
    exact ⟨0, fun _ => [], Nat.zero_le _, .inl ⟨rfl, rfl⟩, fun i hi => by omega⟩
  · have : v = .slice (some a) len cap := by simpa using h0
    subst this
    simp only [if_true] at hmm
    subst hmm
    by_cases hcap : m = 0
    · subst hcap
      have : len = 0 := by omega
      subst this
      refine ⟨0, fun _ => [], Nat.zero_le _, ?_, fun i hi => by omega⟩
      obtain ⟨b, o, s⟩ := a
      exact .inr ⟨0, 0, none, 0, by simp [san, lit1], .inl rfl, fun h => by omega⟩
    · obtain ⟨rows, hv⟩ := choose_lt (n := m) (α := List Value) (p := fun i u => (u.length = c ∧ ∀ j v, u[j]? = some v → W.cell? (a.add (i * c + j)) = some v) ∧ ∃ fuel y, DataW.trod enc P W 0 (fun _ => true) held fuel e u = some y) (fun i hi => by
        obtain ⟨cs', h1, h2⟩ := hx i hi
        rw [hc] at h1
        obtain ⟨_, hlen, hcell⟩ := World.cells?_some h1
        refine ⟨cs', ⟨hlen, fun j v hv => ?_⟩, n, _, h2⟩
        have hlt := (List.getElem?_eq_some_iff.1 hv).1
        have := hcell j (by omega)
        rw [add_add] at this
        rw [this, hv])
      obtain ⟨b, o, spot⟩ := a
      have hl0 := (hv 0 (by omega)).1.1
      obtain ⟨v0, hv0⟩ : ∃ v, (rows 0)[0]? = some v := ⟨_, List.getElem?_eq_getElem (by omega)⟩
      have hc0 := (hv 0 (by omega)).1.2 0 v0 hv0
      have hspot : spot = none := by simpa [Addr.add] using World.cell?_spot hc0
      subst hspot
      have hlen : ∀ i, i < m → (rows i).length = c := fun i hi => (hv i hi).1.1
      have hcs : ∀ (j : Nat) (v : Value), ((List.range m).flatMap rows)[j]? = some v → W.cell? ⟨b, o + j, none⟩ = some v := by
        intro j v hj
        obtain ⟨i, q, h1, rfl, h3⟩ := flat_get m hlen j v hj
        have := (hv i h1).1.2 q v h3
        rwa [add_none] at this
      obtain ⟨hbl, cs, q1, q2⟩ := st0_san (W := W) (b := b) (off := o) (vs := (List.range m).flatMap rows) (n := m * c) (flat_length m hlen) (Nat.mul_pos (by omega) c0) hcs
      refine ⟨len, rows, by omega, .inr ⟨b, o, none, m, ?_, .inl rfl, fun hn => ⟨hbl, hbl, cs, false, q1, fun i hi => ?_⟩⟩, fun i hi => ⟨hlen i (by omega), (hv i (by omega)).2⟩⟩
      · simp only [san, lit1]
        rw [if_neg (by omega), if_pos ⟨trivial, hbl, hl, hm⟩]
      · have hle : i * c + c ≤ m * c := by
          rw [← Nat.succ_mul]; exact Nat.mul_le_mul_right _ (by omega)
        have e := takeN_sub (o' := i * c) (m := c) q2 hle
        rw [e]
        have f := takeN_flat (f := fun i => (rows i).map (san W.heap.size)) (sz := c) (List.range m) i i (fun y hy => by simpa using hlen y (by simpa using hy)) (by rw [List.getElem?_range (show i < m by omega)])
        have g := takeN_some f
        rw [List.map_flatMap]
        exact congrArg some g.2.1.symm
theorem san_int (B : Nat) (k : IntKind) (n : Int) : san B (.int k n) = .int k n := rfl
theorem san_string (B : Nat) (s : ByteArray) : san B (.string s) = .string s := rfl
/-- Bytes. -/
theorem bytes_san {t e : TypeId} {fuel : Nat} {v : Value} {x : DataW H × List MemPlace} (ht : P.underlying t = some (.slice e)) (he : P.underlying e = some (.int .u8)) (hc : P.cellsOf e = 1) (h : DataW.trod enc P W 0 (fun _ => true) held fuel t [v] = some x) :
    ∃ l : List Nat, l.length ≤ maxLen ∧ (∀ x ∈ l, x < 256) ∧ SliceAt (· < (st0 W).next) (st0 W) (san W.heap.size v) l.length 1 (fun i => [.int .u8 (l[i]?.getD 0 : Nat)]) := by
  obtain ⟨n, rows, h1, h2, h3⟩ := slice_san ht hc (by omega) h
  obtain ⟨f, hf⟩ := choose_lt (n := n) (α := Nat) (p := fun i (u : Nat) => rows i = [.int .u8 u] ∧ u < 256) (fun i hi => by
    obtain ⟨hl, fu, y, hy⟩ := h3 i hi
    obtain ⟨m, e1, _, hw⟩ := DataW.trod_int he hy
    have hw := (Lit.wf_int_iff .u8 m).1 hw
    simp [IntKind.min, IntKind.max, IntKind.signed, IntKind.bits] at hw
    refine ⟨m.toNat, ?_, by omega⟩
    rw [e1, show ((m.toNat : Nat) : Int) = m by omega])
  refine ⟨(List.range n).map f, by simpa using h1, ?_, ?_⟩
  · intro x hx
    obtain ⟨i, hi, rfl⟩ := List.mem_map.1 hx
    exact (hf i (by simpa using hi)).2
  · have e : ((List.range n).map f).length = n := by simp
    rw [e]
    refine h2.rows fun i hi => ?_
    rw [(hf i hi).1]
    simp [hi, san_int]
end
end Go.Abs
end

section
set_option linter.unusedVariables false
set_option maxRecDepth 100000
namespace Go.Proofs.YtnnjcenoihdhfaaGreatDoor
open Go.Abs
/- tiltyard/field.Put -/
def field_Put_keep : List Bool := [false, true, false, false, false, false, true, true, true, false, false, false, false, false, false, false, false, false, false, false, false, false, false, false, false, false, false, false, false]
def field_Put_mk (x1 x6 x7 x8 : Value) : List Value := [unk, x1, unk, unk, unk, unk, x6, x7, x8, unk, unk, unk, unk, unk, unk, unk, unk, unk, unk, unk, unk, unk, unk, unk, unk, unk, unk, unk, unk]
def field_Put_l0 (C : Oracle) (G : Prop → Prop) (n m0 : Nat) (x1 x6 x7 x8 : Value) (h : St) (K : Cont) : Prop := loopK Tryz.prog C G field_Put_keep m0 (pathC [true, true, false, true, false, false] (bodyOf Tryz.f19)) (field_Put_mk x1 x6 x7 x8) h (blockC 0 (seqC (fun t h => nextK G field_Put_keep (pathC [true, true, false] (bodyOf Tryz.f19)) (fun t => codeK Tryz.prog C G field_Put_keep (loopK Tryz.prog C G field_Put_keep n) (pathC [true, true, true] (bodyOf Tryz.f19)) t h (funcC Tryz.prog (Tryz.f19).results.toList K)) t) (funcC Tryz.prog (Tryz.f19).results.toList K)))
def field_Put_j1 (C : Oracle) (G : Prop → Prop) (n : Nat) (x1 x6 x7 x8 : Value) (h : St) (K : Cont) : Prop := codeK Tryz.prog C G field_Put_keep (loopK Tryz.prog C G field_Put_keep n) (pathC [true, true, true] (bodyOf Tryz.f19)) (field_Put_mk x1 x6 x7 x8) h (funcC Tryz.prog (Tryz.f19).results.toList K)
theorem field_Put_j1_eq (C : Oracle) (G : Prop → Prop) (n : Nat) (x1 x6 x7 x8 : Value) (h : St) (K : Cont) : field_Put_j1 C G n x1 x6 x7 x8 h K = (K x7 h) := by kernel_rfl
theorem field_Put_l0_eq (C : Oracle) (G : Prop → Prop) (n m0 : Nat) (x1 x6 x7 x8 : Value) (h : St) (K : Cont) : field_Put_l0 C G n (m0 + 1) x1 x6 x7 x8 h K = (bindV (binNil .geq .other x8 (.int .i64 0)) fun v17 => condK v17 (G (bindV (binNil .mul .other (.int .i64 8) x8) fun v23 => bindV (binV .shr .other x1 v23) fun v24 => bindV (wrapV .u8 v24) fun v25 => buildSliceE 1 1 [.int .u8 0] [(0 * 1, 1, v25)] h fun v26 h3 => appendE 1 1 x7 v26 h3 fun v27 h4 => G (bindV (binNil .sub .other x8 (.int .i64 1)) fun v19 => G (field_Put_l0 C G n m0 x1 x6 v27 v19 h4 K)))) (G (field_Put_j1 C G n x1 x6 x7 x8 h K))) := by kernel_rfl
def field_Put (C : Oracle) (G : Prop → Prop) (n : Nat) (a0 a1 a2 : Value) (h : St) (K : Cont) : Prop := funcK Tryz.prog C G field_Put_keep n Tryz.f19 [a0, a1, a2] h K
theorem field_Put_eq (C : Oracle) (G : Prop → Prop) (n : Nat) (a0 a1 a2 : Value) (h : St) (K : Cont) : field_Put C G n a0 a1 a2 h K = (buildSliceE 1 0 [.int .u8 0] [] h fun v9 h1 => appendE 1 1 v9 a0 h1 fun v11 h2 => bindV (minV [a2, (.int .i64 8)]) fun v13 => bindV (maxV [(.int .i64 0), v13]) fun v14 => bindV (binNil .sub .other v14 (.int .i64 1)) fun v15 => G (field_Put_l0 C G n n a1 (.slice none 0 0) v11 v15 h2 K)) := by kernel_rfl
attribute [irreducible] field_Put_l0 field_Put_j1
/- tiltyard/field.Take -/
def field_Take_keep : List Bool := [true, true, false, false, true, true, true, true, false, false, false, false, false, false, false, false, false, false, false, false, false, false, false, false, true, true, true, false, false, false, false, false, false, false, false, false, false, false, false, false, false, false]
def field_Take_mk (x0 x1 x4 x5 x6 x7 x24 x25 x26 : Value) : List Value := [x0, x1, unk, unk, x4, x5, x6, x7, unk, unk, unk, unk, unk, unk, unk, unk, unk, unk, unk, unk, unk, unk, unk, unk, x24, x25, x26, unk, unk, unk, unk, unk, unk, unk, unk, unk, unk, unk, unk, unk, unk, unk]
def field_Take_l0 (C : Oracle) (G : Prop → Prop) (n m0 : Nat) (x0 x1 x4 x5 x6 x7 x24 x25 x26 : Value) (h : St) (K : Cont) : Prop := loopK Tryz.prog C G field_Take_keep m0 (pathC [true, true, true, false, true, false, false] (bodyOf Tryz.f31)) (field_Take_mk x0 x1 x4 x5 x6 x7 x24 x25 x26) h (blockC 0 (seqC (fun t h => nextK G field_Take_keep (pathC [true, true, true, false] (bodyOf Tryz.f31)) (fun t => codeK Tryz.prog C G field_Take_keep (loopK Tryz.prog C G field_Take_keep n) (pathC [true, true, true, true] (bodyOf Tryz.f31)) t h (funcC Tryz.prog (Tryz.f31).results.toList K)) t) (funcC Tryz.prog (Tryz.f31).results.toList K)))
def field_Take_j1 (C : Oracle) (G : Prop → Prop) (n : Nat) (x0 x1 x4 x5 x6 x7 x24 x25 x26 : Value) (h : St) (K : Cont) : Prop := codeK Tryz.prog C G field_Take_keep (loopK Tryz.prog C G field_Take_keep n) (pathC [true, true, true, true] (bodyOf Tryz.f31)) (field_Take_mk x0 x1 x4 x5 x6 x7 x24 x25 x26) h (funcC Tryz.prog (Tryz.f31).results.toList K)
theorem field_Take_j1_eq (C : Oracle) (G : Prop → Prop) (n : Nat) (x0 x1 x4 x5 x6 x7 x24 x25 x26 : Value) (h : St) (K : Cont) : field_Take_j1 C G n x0 x1 x4 x5 x6 x7 x24 x25 x26 h K = (buildSliceE 1 0 [.int .u8 0] [] h fun v37 h7 => bindV (cutS 1 x0 (some x1) none) fun v40 => appendE 1 1 v37 v40 h7 fun v41 h8 => K (.tuple #[x7, v41, (.bool true)]) h8) := by kernel_rfl
theorem field_Take_l0_eq (C : Oracle) (G : Prop → Prop) (n m0 : Nat) (x0 x1 x4 x5 x6 x7 x24 x25 x26 : Value) (h : St) (K : Cont) : field_Take_l0 C G n (m0 + 1) x0 x1 x4 x5 x6 x7 x24 x25 x26 h K = (bindV (binV .lss .other x26 x25) fun v27 => condK v27 (G (bindV (idxS 1 x24 x26) fun v28 => bindV (loadV false 1 v28 h) fun v29 => bindV (binNil .shl .other x7 (.int .u64 8)) fun v31 => bindV (wrapV .u64 v29) fun v33 => bindV (binV .or .other v31 v33) fun v34 => G (bindV (binNil .add .other x26 (.int .i64 1)) fun v35 => G (field_Take_l0 C G n m0 x0 x1 x4 x5 x6 v34 x24 x25 v35 h K)))) (G (field_Take_j1 C G n x0 x1 x4 x5 x6 x7 x24 x25 x26 h K))) := by kernel_rfl
def field_Take (C : Oracle) (G : Prop → Prop) (n : Nat) (a0 a1 : Value) (h : St) (K : Cont) : Prop := funcK Tryz.prog C G field_Take_keep n Tryz.f31 [a0, a1] h K
theorem field_Take_eq (C : Oracle) (G : Prop → Prop) (n : Nat) (a0 a1 : Value) (h : St) (K : Cont) : field_Take C G n a0 a1 h K = (bindV (binNil .lss .other a1 (.int .i64 1)) fun v11 => groupK v11 false [undef, undef] h (fun J1 => bindV (binNil .gtr .other a1 (.int .i64 8)) fun v14 => J1 [a1, v14] h) fun xs2 h3 => G (bindV (pickV v11 (.bool true) (getT xs2 1)) fun v15 => groupK v15 false [undef, undef, undef, undef] h3 (fun J4 => bindV (lenS a0) fun v18 => bindV (binV .lss .other v18 a1) fun v20 => J4 [a0, v18, a1, v20] h3) fun xs5 h6 => G (bindV (pickV v15 (.bool true) (getT xs5 3)) fun v21 => condK v21 (K (.tuple #[(.int .u64 0), (.slice none 0 0), (.bool false)]) h6) (G (bindV (cutS 1 a0 none (some a1)) fun v24 => bindV (lenS v24) fun v25 => G (field_Take_l0 C G n n a0 a1 (.int .u64 0) (.slice none 0 0) (.bool false) (.int .u64 0) v24 v25 (.int .i64 0) h6 K)))))) := by kernel_rfl
attribute [irreducible] field_Take_l0 field_Take_j1
/- tiltyard/tiltyardref01.Put -/
def tiltyardref01_Put_keep : List Bool := [true, false, false, false, true, true, true, false, false, false, false, false, false, false, false, false, false, false, false, false, false, false, false, false]
def tiltyardref01_Put_mk (x0 x4 x5 x6 : Value) : List Value := [x0, unk, unk, unk, x4, x5, x6, unk, unk, unk, unk, unk, unk, unk, unk, unk, unk, unk, unk, unk, unk, unk, unk, unk]
def tiltyardref01_Put_l0 (C : Oracle) (G : Prop → Prop) (n m0 : Nat) (x0 x4 x5 x6 : Value) (h : St) (K : Cont) : Prop := loopK Tryz.prog C G tiltyardref01_Put_keep m0 (pathC [true, true, false, true, false, false] (bodyOf Tryz.f20)) (tiltyardref01_Put_mk x0 x4 x5 x6) h (blockC 0 (seqC (fun t h => nextK G tiltyardref01_Put_keep (pathC [true, true, false] (bodyOf Tryz.f20)) (fun t => codeK Tryz.prog C G tiltyardref01_Put_keep (loopK Tryz.prog C G tiltyardref01_Put_keep n) (pathC [true, true, true] (bodyOf Tryz.f20)) t h (funcC Tryz.prog (Tryz.f20).results.toList K)) t) (funcC Tryz.prog (Tryz.f20).results.toList K)))
def tiltyardref01_Put_j1 (C : Oracle) (G : Prop → Prop) (n : Nat) (x0 x4 x5 x6 : Value) (h : St) (K : Cont) : Prop := codeK Tryz.prog C G tiltyardref01_Put_keep (loopK Tryz.prog C G tiltyardref01_Put_keep n) (pathC [true, true, true] (bodyOf Tryz.f20)) (tiltyardref01_Put_mk x0 x4 x5 x6) h (funcC Tryz.prog (Tryz.f20).results.toList K)
theorem tiltyardref01_Put_j1_eq (C : Oracle) (G : Prop → Prop) (n : Nat) (x0 x4 x5 x6 : Value) (h : St) (K : Cont) : tiltyardref01_Put_j1 C G n x0 x4 x5 x6 h K = (K x5 h) := by kernel_rfl
theorem tiltyardref01_Put_l0_eq (C : Oracle) (G : Prop → Prop) (n m0 : Nat) (x0 x4 x5 x6 : Value) (h : St) (K : Cont) : tiltyardref01_Put_l0 C G n (m0 + 1) x0 x4 x5 x6 h K = (bindV (binNil .geq .other x6 (.int .i64 0)) fun v12 => condK v12 (G (bindV (binNil .rem .other x0 (.int .u64 256)) fun v18 => bindV (wrapV .u8 v18) fun v19 => bindV (idxS 1 x5 x6) fun v20 => storeE 1 v20 v19 h fun _ h3 => bindV (binNil .quo .other x0 (.int .u64 256)) fun v22 => G (bindV (binNil .sub .other x6 (.int .i64 1)) fun v14 => G (tiltyardref01_Put_l0 C G n m0 v22 x4 x5 v14 h3 K)))) (G (tiltyardref01_Put_j1 C G n x0 x4 x5 x6 h K))) := by kernel_rfl
def tiltyardref01_Put (C : Oracle) (G : Prop → Prop) (n : Nat) (a0 a1 : Value) (h : St) (K : Cont) : Prop := funcK Tryz.prog C G tiltyardref01_Put_keep n Tryz.f20 [a0, a1] h K
theorem tiltyardref01_Put_eq (C : Oracle) (G : Prop → Prop) (n : Nat) (a0 a1 : Value) (h : St) (K : Cont) : tiltyardref01_Put C G n a0 a1 h K = (makeSliceE 1 1 [.int .u8 0] a1 a1 h fun v8 h1 => bindV (binNil .sub .other a1 (.int .i64 1)) fun v10 => G (tiltyardref01_Put_l0 C G n n a0 (.slice none 0 0) v8 v10 h1 K)) := by kernel_rfl
attribute [irreducible] tiltyardref01_Put_l0 tiltyardref01_Put_j1
/- tiltyard/tiltyardref01.Number -/
def tiltyardref01_Number_keep : List Bool := [true, false, true, true, true, false, false, false, false, false, false, false, false, false, false, false, false, false, false, false]
def tiltyardref01_Number_mk (x0 x2 x3 x4 : Value) : List Value := [x0, unk, x2, x3, x4, unk, unk, unk, unk, unk, unk, unk, unk, unk, unk, unk, unk, unk, unk, unk]
def tiltyardref01_Number_l0 (C : Oracle) (G : Prop → Prop) (n m0 : Nat) (x0 x2 x3 x4 : Value) (h : St) (K : Cont) : Prop := loopK Tryz.prog C G tiltyardref01_Number_keep m0 (pathC [true, true, false, true, false, false] (bodyOf Tryz.f24)) (tiltyardref01_Number_mk x0 x2 x3 x4) h (blockC 0 (seqC (fun t h => nextK G tiltyardref01_Number_keep (pathC [true, true, false] (bodyOf Tryz.f24)) (fun t => codeK Tryz.prog C G tiltyardref01_Number_keep (loopK Tryz.prog C G tiltyardref01_Number_keep n) (pathC [true, true, true] (bodyOf Tryz.f24)) t h (funcC Tryz.prog (Tryz.f24).results.toList K)) t) (funcC Tryz.prog (Tryz.f24).results.toList K)))
def tiltyardref01_Number_j1 (C : Oracle) (G : Prop → Prop) (n : Nat) (x0 x2 x3 x4 : Value) (h : St) (K : Cont) : Prop := codeK Tryz.prog C G tiltyardref01_Number_keep (loopK Tryz.prog C G tiltyardref01_Number_keep n) (pathC [true, true, true] (bodyOf Tryz.f24)) (tiltyardref01_Number_mk x0 x2 x3 x4) h (funcC Tryz.prog (Tryz.f24).results.toList K)
theorem tiltyardref01_Number_j1_eq (C : Oracle) (G : Prop → Prop) (n : Nat) (x0 x2 x3 x4 : Value) (h : St) (K : Cont) : tiltyardref01_Number_j1 C G n x0 x2 x3 x4 h K = (K x3 h) := by kernel_rfl
theorem tiltyardref01_Number_l0_eq (C : Oracle) (G : Prop → Prop) (n m0 : Nat) (x0 x2 x3 x4 : Value) (h : St) (K : Cont) : tiltyardref01_Number_l0 C G n (m0 + 1) x0 x2 x3 x4 h K = (bindV (lenS x0) fun v7 => bindV (binV .lss .other x4 v7) fun v8 => condK v8 (G (bindV (binNil .mul .other x3 (.int .u64 256)) fun v12 => bindV (idxS 1 x0 x4) fun v15 => bindV (loadV false 1 v15 h) fun v16 => bindV (wrapV .u64 v16) fun v17 => bindV (binV .add .other v12 v17) fun v18 => G (bindV (binNil .add .other x4 (.int .i64 1)) fun v10 => G (tiltyardref01_Number_l0 C G n m0 x0 x2 v18 v10 h K)))) (G (tiltyardref01_Number_j1 C G n x0 x2 x3 x4 h K))) := by kernel_rfl
def tiltyardref01_Number (C : Oracle) (G : Prop → Prop) (n : Nat) (a0 : Value) (h : St) (K : Cont) : Prop := funcK Tryz.prog C G tiltyardref01_Number_keep n Tryz.f24 [a0] h K
theorem tiltyardref01_Number_eq (C : Oracle) (G : Prop → Prop) (n : Nat) (a0 : Value) (h : St) (K : Cont) : tiltyardref01_Number C G n a0 h K = (G (tiltyardref01_Number_l0 C G n n a0 (.int .u64 0) (.int .u64 0) (.int .i64 0) h K)) := by kernel_rfl
attribute [irreducible] tiltyardref01_Number_l0 tiltyardref01_Number_j1
end Go.Proofs.YtnnjcenoihdhfaaGreatDoor
end

section
set_option linter.unusedVariables false
set_option maxRecDepth 100000
namespace Go.Proofs.YtnnjcenoihdhfaaGreatDoor
open Go.Abs
/- tiltyard/reel.Right -/
def r_Right_keep : List Bool := [false, true, true, true, true, true, false, false, false, false, false, false, false, false, false, false, false, true, true, false, false, false, true, false, false, false, false, false, false, true, false, false, false, false, false, false, true, false, false, false, false, false, false, false, false, false]
def r_Right_mk (x1 x2 x3 x4 x5 x17 x18 x22 x29 x36 : Value) : List Value := [unk, x1, x2, x3, x4, x5, unk, unk, unk, unk, unk, unk, unk, unk, unk, unk, unk, x17, x18, unk, unk, unk, x22, unk, unk, unk, unk, unk, unk, x29, unk, unk, unk, unk, unk, unk, x36, unk, unk, unk, unk, unk, unk, unk, unk, unk]
def r_Right_j0 (C : Oracle) (G : Prop → Prop) (n : Nat) (x1 x2 x3 x4 x5 x17 x18 x22 x29 x36 : Value) (h : St) (K : Cont) : Prop := codeK Tryz.prog C G r_Right_keep (loopK Tryz.prog C G r_Right_keep n) (pathC [true, true, false, true, false, true] (bodyOf Tryz.f7)) (r_Right_mk x1 x2 x3 x4 x5 x17 x18 x22 x29 x36) h (blockC 0 (seqC (fun t h => nextK G r_Right_keep (pathC [true, true, false] (bodyOf Tryz.f7)) (fun t => codeK Tryz.prog C G r_Right_keep (loopK Tryz.prog C G r_Right_keep n) (pathC [true, true, true] (bodyOf Tryz.f7)) t h (funcC Tryz.prog (Tryz.f7).results.toList K)) t) (funcC Tryz.prog (Tryz.f7).results.toList K)))
def r_Right_j1 (C : Oracle) (G : Prop → Prop) (n : Nat) (x1 x2 x3 x4 x5 x17 x18 x22 x29 x36 : Value) (h : St) (K : Cont) : Prop := codeK Tryz.prog C G r_Right_keep (loopK Tryz.prog C G r_Right_keep n) (pathC [true, true, false, true, false, true, true, true] (bodyOf Tryz.f7)) (r_Right_mk x1 x2 x3 x4 x5 x17 x18 x22 x29 x36) h (blockC 0 (seqC (fun t h => nextK G r_Right_keep (pathC [true, true, false] (bodyOf Tryz.f7)) (fun t => codeK Tryz.prog C G r_Right_keep (loopK Tryz.prog C G r_Right_keep n) (pathC [true, true, true] (bodyOf Tryz.f7)) t h (funcC Tryz.prog (Tryz.f7).results.toList K)) t) (funcC Tryz.prog (Tryz.f7).results.toList K)))
def r_Right_j2 (C : Oracle) (G : Prop → Prop) (n : Nat) (x1 x2 x3 x4 x5 x17 x18 x22 x29 x36 : Value) (h : St) (K : Cont) : Prop := codeK Tryz.prog C G r_Right_keep (loopK Tryz.prog C G r_Right_keep n) (pathC [true, true, false, true, false, true, true, true, true, true] (bodyOf Tryz.f7)) (r_Right_mk x1 x2 x3 x4 x5 x17 x18 x22 x29 x36) h (blockC 0 (seqC (fun t h => nextK G r_Right_keep (pathC [true, true, false] (bodyOf Tryz.f7)) (fun t => codeK Tryz.prog C G r_Right_keep (loopK Tryz.prog C G r_Right_keep n) (pathC [true, true, true] (bodyOf Tryz.f7)) t h (funcC Tryz.prog (Tryz.f7).results.toList K)) t) (funcC Tryz.prog (Tryz.f7).results.toList K)))
def r_Right_j3 (C : Oracle) (G : Prop → Prop) (n : Nat) (x1 x2 x3 x4 x5 x17 x18 x22 x29 x36 : Value) (h : St) (K : Cont) : Prop := codeK Tryz.prog C G r_Right_keep (loopK Tryz.prog C G r_Right_keep n) (pathC [true, true, false, true, false, true, true, true, true, true, true, true] (bodyOf Tryz.f7)) (r_Right_mk x1 x2 x3 x4 x5 x17 x18 x22 x29 x36) h (blockC 0 (seqC (fun t h => nextK G r_Right_keep (pathC [true, true, false] (bodyOf Tryz.f7)) (fun t => codeK Tryz.prog C G r_Right_keep (loopK Tryz.prog C G r_Right_keep n) (pathC [true, true, true] (bodyOf Tryz.f7)) t h (funcC Tryz.prog (Tryz.f7).results.toList K)) t) (funcC Tryz.prog (Tryz.f7).results.toList K)))
def r_Right_j4 (C : Oracle) (G : Prop → Prop) (n : Nat) (x1 x2 x3 x4 x5 x17 x18 x22 x29 x36 : Value) (h : St) (K : Cont) : Prop := codeK Tryz.prog C G r_Right_keep (loopK Tryz.prog C G r_Right_keep n) (pathC [true, true, true] (bodyOf Tryz.f7)) (r_Right_mk x1 x2 x3 x4 x5 x17 x18 x22 x29 x36) h (funcC Tryz.prog (Tryz.f7).results.toList K)
theorem r_Right_j4_eq (C : Oracle) (G : Prop → Prop) (n : Nat) (x1 x2 x3 x4 x5 x17 x18 x22 x29 x36 : Value) (h : St) (K : Cont) : r_Right_j4 C G n x1 x2 x3 x4 x5 x17 x18 x22 x29 x36 h K = (K (.bool false) h) := by kernel_rfl
theorem r_Right_j3_eq (C : Oracle) (G : Prop → Prop) (n : Nat) (x1 x2 x3 x4 x5 x17 x18 x22 x29 x36 : Value) (h : St) (K : Cont) : r_Right_j3 C G n x1 x2 x3 x4 x5 x17 x18 x22 x29 x36 h K = (condK x36 (groupK x4 true [undef, undef, undef, undef] h (fun J8 => bindV (offV 3 x1) fun v41 => bindV (loadV false 1 v41 h) fun v42 => bindV (lenS v42) fun v43 => bindV (binNil .leq .other v43 (.int .i64 65535)) fun v44 => J8 [v41, v42, v43, v44] h) fun xs9 h10 => G (bindV (pickV x4 (getT xs9 3) (.bool false)) fun v45 => K v45 h10)) (G (r_Right_j4 C G n x1 x2 x3 x4 x5 x17 x18 x22 x29 x36 h K))) := by kernel_rfl
theorem r_Right_j2_eq (C : Oracle) (G : Prop → Prop) (n : Nat) (x1 x2 x3 x4 x5 x17 x18 x22 x29 x36 : Value) (h : St) (K : Cont) : r_Right_j2 C G n x1 x2 x3 x4 x5 x17 x18 x22 x29 x36 h K = (condK x29 (groupK x4 true [undef] h (fun J5 => J5 [x5] h) fun xs6 h7 => G (bindV (pickV x4 (getT xs6 0) (.bool false)) fun v35 => K v35 h7)) (bindV (binNil .eql .other x17 (.int .i64 5)) fun v37 => condK v37 (G (r_Right_j3 C G n x1 x2 x3 x4 x5 x17 x18 x22 x29 v37 h K)) (bindV (binNil .eql .other x17 (.int .i64 6)) fun v38 => G (r_Right_j3 C G n x1 x2 x3 x4 x5 x17 x18 x22 x29 v38 h K)))) := by kernel_rfl
theorem r_Right_j1_eq (C : Oracle) (G : Prop → Prop) (n : Nat) (x1 x2 x3 x4 x5 x17 x18 x22 x29 x36 : Value) (h : St) (K : Cont) : r_Right_j1 C G n x1 x2 x3 x4 x5 x17 x18 x22 x29 x36 h K = (condK x22 (groupK x3 true [undef] h (fun J2 => J2 [x5] h) fun xs3 h4 => G (bindV (pickV x3 (getT xs3 0) (.bool false)) fun v28 => K v28 h4)) (bindV (binNil .eql .other x17 (.int .i64 3)) fun v30 => condK v30 (G (r_Right_j2 C G n x1 x2 x3 x4 x5 x17 x18 x22 v30 x36 h K)) (bindV (binNil .eql .other x17 (.int .i64 4)) fun v31 => G (r_Right_j2 C G n x1 x2 x3 x4 x5 x17 x18 x22 v31 x36 h K)))) := by kernel_rfl
theorem r_Right_j0_eq (C : Oracle) (G : Prop → Prop) (n : Nat) (x1 x2 x3 x4 x5 x17 x18 x22 x29 x36 : Value) (h : St) (K : Cont) : r_Right_j0 C G n x1 x2 x3 x4 x5 x17 x18 x22 x29 x36 h K = (condK x18 (K x5 h) (bindV (binNil .eql .other x17 (.int .i64 2)) fun v23 => condK v23 (G (r_Right_j1 C G n x1 x2 x3 x4 x5 x17 x18 v23 x29 x36 h K)) (bindV (binNil .eql .other x17 (.int .i64 7)) fun v24 => G (r_Right_j1 C G n x1 x2 x3 x4 x5 x17 x18 v24 x29 x36 h K)))) := by kernel_rfl
def r_Right (C : Oracle) (G : Prop → Prop) (n : Nat) (a0 : Value) (h : St) (K : Cont) : Prop := funcK Tryz.prog C G r_Right_keep n Tryz.f7 [a0] h K
theorem r_Right_eq (C : Oracle) (G : Prop → Prop) (n : Nat) (a0 : Value) (h : St) (K : Cont) : r_Right C G n a0 h K = (boxE a0 h fun v1 h1 => bindV (offV 1 v1) fun v6 => bindV (loadV false 1 v6 h1) fun v7 => (True) ∧ bindV (binNil .eql .other v7 (.int .u32 0)) fun v8 => bindV (offV 2 v1) fun v9 => bindV (loadV false 1 v9 h1) fun v10 => (True) ∧ bindV (binNil .eql .other v10 (.int .u64 0)) fun v11 => bindV (offV 3 v1) fun v12 => bindV (loadV false 1 v12 h1) fun v13 => (True) ∧ bindV (lenS v13) fun v14 => bindV (binNil .eql .other v14 (.int .i64 0)) fun v15 => bindV (offV 0 v1) fun v16 => bindV (loadV false 1 v16 h1) fun v17 => bindV (binNil .eql .other v17 (.int .i64 1)) fun v19 => condK v19 (G (r_Right_j0 C G n v1 (.bool false) v8 v11 v15 v17 v19 undef undef undef h1 K)) (bindV (binNil .eql .other v17 (.int .i64 8)) fun v20 => G (r_Right_j0 C G n v1 (.bool false) v8 v11 v15 v17 v20 undef undef undef h1 K))) := by kernel_rfl
attribute [irreducible] r_Right_j0 r_Right_j1 r_Right_j2 r_Right_j3 r_Right_j4
/- tiltyard/reel.Encode -/
def r_Encode_keep : List Bool := [false, false, true, true, true, false, true, true, true, true, false, false, false, false, false, false, false, false, false, false, false, false, false, false, false, false, false, false, false, false, false, false, false, false, false, false, false, false, false, false, false, false]
def r_Encode_mk (x2 x3 x4 x6 x7 x8 x9 : Value) : List Value := [unk, unk, x2, x3, x4, unk, x6, x7, x8, x9, unk, unk, unk, unk, unk, unk, unk, unk, unk, unk, unk, unk, unk, unk, unk, unk, unk, unk, unk, unk, unk, unk, unk, unk, unk, unk, unk, unk, unk, unk, unk, unk]
def r_Encode_l0 (C : Oracle) (G : Prop → Prop) (n m0 : Nat) (x2 x3 x4 x6 x7 x8 x9 : Value) (h : St) (K : Cont) : Prop := loopK Tryz.prog C G r_Encode_keep m0 (pathC [true, true, false, true, false, false] (bodyOf Tryz.f10)) (r_Encode_mk x2 x3 x4 x6 x7 x8 x9) h (blockC 0 (seqC (fun t h => nextK G r_Encode_keep (pathC [true, true, false] (bodyOf Tryz.f10)) (fun t => codeK Tryz.prog C G r_Encode_keep (loopK Tryz.prog C G r_Encode_keep n) (pathC [true, true, true] (bodyOf Tryz.f10)) t h (funcC Tryz.prog (Tryz.f10).results.toList K)) t) (funcC Tryz.prog (Tryz.f10).results.toList K)))
def r_Encode_j1 (C : Oracle) (G : Prop → Prop) (n : Nat) (x2 x3 x4 x6 x7 x8 x9 : Value) (h : St) (K : Cont) : Prop := codeK Tryz.prog C G r_Encode_keep (loopK Tryz.prog C G r_Encode_keep n) (pathC [true, true, true] (bodyOf Tryz.f10)) (r_Encode_mk x2 x3 x4 x6 x7 x8 x9) h (funcC Tryz.prog (Tryz.f10).results.toList K)
theorem r_Encode_j1_eq (C : Oracle) (G : Prop → Prop) (n : Nat) (x2 x3 x4 x6 x7 x8 x9 : Value) (h : St) (K : Cont) : r_Encode_j1 C G n x2 x3 x4 x6 x7 x8 x9 h K = (K (.tuple #[x4, (.int .i64 0)]) h) := by kernel_rfl
theorem r_Encode_l0_eq (C : Oracle) (G : Prop → Prop) (n m0 : Nat) (x2 x3 x4 x6 x7 x8 x9 : Value) (h : St) (K : Cont) : r_Encode_l0 C G n (m0 + 1) x2 x3 x4 x6 x7 x8 x9 h K = (bindV (binV .lss .other x9 x8) fun v10 => condK v10 (G (bindV (idxS 4 x7 x9) fun v11 => bindV (loadV true 4 v11 h) fun v12 => allocE (some [.int .i64 0, .int .u32 0, .int .u64 0, .slice none 0 0]) h fun v6 h1 => storeE 4 v6 v12 h1 fun _ h3 => bindV (loadV true 4 v6 h3) fun v13 => C 7 [v13] h3 fun v14 h4 => bindV (unV .not v14) fun v15 => condK v15 (K (.tuple #[(.slice none 0 0), (.int .i64 2)]) h4) (G (bindV (offV 0 v6) fun v17 => bindV (loadV false 1 v17 h4) fun v18 => bindV (wrapV .u64 v18) fun v19 => C 19 [x4, v19, (.int .i64 1)] h4 fun v20 h5 => bindV (offV 1 v6) fun v22 => bindV (loadV false 1 v22 h5) fun v23 => bindV (wrapV .u64 v23) fun v24 => C 19 [v20, v24, (.int .i64 4)] h5 fun v25 h6 => bindV (offV 2 v6) fun v27 => bindV (loadV false 1 v27 h6) fun v28 => C 19 [v25, v28, (.int .i64 8)] h6 fun v29 h7 => bindV (offV 3 v6) fun v31 => bindV (loadV false 1 v31 h7) fun v32 => bindV (lenS v32) fun v33 => bindV (wrapV .u64 v33) fun v34 => C 19 [v29, v34, (.int .i64 2)] h7 fun v35 h8 => bindV (offV 3 v6) fun v37 => bindV (loadV false 1 v37 h8) fun v38 => appendE 1 1 v35 v38 h8 fun v39 h9 => G (bindV (binNil .add .other x9 (.int .i64 1)) fun v40 => G (r_Encode_l0 C G n m0 x2 x3 v39 v6 x7 x8 v40 h9 K)))))) (G (r_Encode_j1 C G n x2 x3 x4 x6 x7 x8 x9 h K))) := by kernel_rfl
def r_Encode (C : Oracle) (G : Prop → Prop) (n : Nat) (a0 : Value) (h : St) (K : Cont) : Prop := funcK Tryz.prog C G r_Encode_keep n Tryz.f10 [a0] h K
theorem r_Encode_eq (C : Oracle) (G : Prop → Prop) (n : Nat) (a0 : Value) (h : St) (K : Cont) : r_Encode C G n a0 h K = (bindV (lenS a0) fun v8 => G (r_Encode_l0 C G n n (.slice none 0 0) (.int .i64 0) (.slice none 0 0) undef a0 v8 (.int .i64 0) h K)) := by kernel_rfl
attribute [irreducible] r_Encode_l0 r_Encode_j1
/- tiltyard/reel.next -/
def r_next_keep : List Bool := [true, false, true, true, true, true, true, false, true, true, false, true, true, true, false, false, false, false, false, false, false, false, false, false, false, false, false, false, false, false, false, false, false, false, false, false, false, false, false, false, false, false, false, false, false, false, false, false, false, false, false, false, false, false, false, false, false, false, false, false, false, false]
def r_next_mk (x0 x2 x3 x4 x5 x6 x8 x9 x11 x12 x13 : Value) : List Value := [x0, unk, x2, x3, x4, x5, x6, unk, x8, x9, unk, x11, x12, x13, unk, unk, unk, unk, unk, unk, unk, unk, unk, unk, unk, unk, unk, unk, unk, unk, unk, unk, unk, unk, unk, unk, unk, unk, unk, unk, unk, unk, unk, unk, unk, unk, unk, unk, unk, unk, unk, unk, unk, unk, unk, unk, unk, unk, unk, unk, unk, unk]
def r_next_l0 (C : Oracle) (G : Prop → Prop) (n m0 : Nat) (x0 x2 x3 x4 x5 x6 x8 x9 x11 x12 x13 : Value) (h : St) (K : Cont) : Prop := loopK Tryz.prog C G r_next_keep m0 (pathC [true, true, false, true, false, false] (bodyOf Tryz.f23)) (r_next_mk x0 x2 x3 x4 x5 x6 x8 x9 x11 x12 x13) h (blockC 0 (seqC (fun t h => nextK G r_next_keep (pathC [true, true, false] (bodyOf Tryz.f23)) (fun t => codeK Tryz.prog C G r_next_keep (loopK Tryz.prog C G r_next_keep n) (pathC [true, true, true] (bodyOf Tryz.f23)) t h (funcC Tryz.prog (Tryz.f23).results.toList K)) t) (funcC Tryz.prog (Tryz.f23).results.toList K)))
def r_next_j1 (C : Oracle) (G : Prop → Prop) (n : Nat) (x0 x2 x3 x4 x5 x6 x8 x9 x11 x12 x13 : Value) (h : St) (K : Cont) : Prop := codeK Tryz.prog C G r_next_keep (loopK Tryz.prog C G r_next_keep n) (pathC [true, true, true] (bodyOf Tryz.f23)) (r_next_mk x0 x2 x3 x4 x5 x6 x8 x9 x11 x12 x13) h (funcC Tryz.prog (Tryz.f23).results.toList K)
theorem r_next_j1_eq (C : Oracle) (G : Prop → Prop) (n : Nat) (x0 x2 x3 x4 x5 x6 x8 x9 x11 x12 x13 : Value) (h : St) (K : Cont) : r_next_j1 C G n x0 x2 x3 x4 x5 x6 x8 x9 x11 x12 x13 h K = (bindV (lenS x0) fun v33 => bindV (wrapV .u64 v33) fun v34 => bindV (idxA 4 1 x5 (.int .i64 3)) fun v35 => bindV (loadV false 1 v35 h) fun v36 => bindV (binV .lss .other v34 v36) fun v37 => condK v37 (bindV (buildV [.int .i64 0, .int .u32 0, .int .u64 0, .slice none 0 0] (some [])) fun v38 => storeE 4 x2 v38 h fun _ h10 => bindV (loadV true 4 x2 h10) fun r11 => K (.tuple #[r11, (.slice none 0 0), (.int .i64 3)]) h10) (G (G ((bindV (idxA 4 1 x5 (.int .i64 0)) fun v39 => bindV (loadV false 1 v39 h) fun v40 => (True) ∧ bindV (wrapV .i64 v40) fun v41 => bindV (idxA 4 1 x5 (.int .i64 1)) fun v42 => bindV (loadV false 1 v42 h) fun v43 => (True) ∧ bindV (wrapV .u32 v43) fun v44 => bindV (idxA 4 1 x5 (.int .i64 2)) fun v45 => bindV (loadV false 1 v45 h) fun v46 => (True) ∧ bindV (idxA 4 1 x5 (.int .i64 3)) fun v48 => bindV (loadV false 1 v48 h) fun v49 => (True) ∧ bindV (cutS 1 x0 none (some v49)) fun v50 => C 32 [v50] h fun v51 h12 => (True ∧ (loadV false 1 v45 h12 = some v46) ∧ (loadV false 1 v42 h12 = some v43) ∧ (loadV false 1 v39 h12 = some v40) ∧ True) ∧ bindV (buildV [.int .i64 0, .int .u32 0, .int .u64 0, .slice none 0 0] (some [(0, 1, v41), (1, 1, v44), (2, 1, v46), (3, 1, v51)])) fun v52 => allocE (some [.int .i64 0, .int .u32 0, .int .u64 0, .slice none 0 0]) h12 fun v11 h13 => (True ∧ (loadV false 1 v45 h13 = some v46) ∧ (loadV false 1 v42 h13 = some v43) ∧ (loadV false 1 v39 h13 = some v40) ∧ True) ∧ storeE 4 v11 v52 h13 fun _ h15 => (True ∧ True ∧ True ∧ True ∧ True) ∧ bindV (loadV true 4 v11 h15) fun v53 => C 7 [v53] h15 fun v54 h16 => bindV (unV .not v54) fun v55 => condK v55 (bindV (buildV [.int .i64 0, .int .u32 0, .int .u64 0, .slice none 0 0] (some [])) fun v56 => storeE 4 x2 v56 h16 fun _ h18 => bindV (loadV true 4 x2 h18) fun r19 => K (.tuple #[r19, (.slice none 0 0), (.int .i64 2)]) h18) (G (bindV (loadV true 4 v11 h16) fun v57 => (True) ∧ bindV (idxA 4 1 x5 (.int .i64 3)) fun v59 => bindV (loadV false 1 v59 h16) fun v60 => (True) ∧ bindV (cutS 1 x0 (some v60) none) fun v61 => storeE 4 x2 v57 h16 fun _ h21 => ((loadV false 1 v59 h21 = some v60) ∧ True ∧ True) ∧ bindV (loadV true 4 x2 h21) fun r22 => K (.tuple #[r22, v61, (.int .i64 0)]) h21))) ∧ (bindV (idxA 4 1 x5 (.int .i64 0)) fun v39 => bindV (loadV false 1 v39 h) fun v40 => (True) ∧ bindV (wrapV .i64 v40) fun v41 => bindV (idxA 4 1 x5 (.int .i64 1)) fun v42 => bindV (loadV false 1 v42 h) fun v43 => (True) ∧ bindV (wrapV .u32 v43) fun v44 => bindV (idxA 4 1 x5 (.int .i64 2)) fun v45 => bindV (loadV false 1 v45 h) fun v46 => (True) ∧ bindV (idxA 4 1 x5 (.int .i64 3)) fun v48 => bindV (loadV false 1 v48 h) fun v49 => (True) ∧ bindV (cutS 1 x0 none (some v49)) fun v50 => allocE (some [.int .i64 0, .int .u32 0, .int .u64 0, .slice none 0 0]) h fun v11 h23 => ((loadV false 1 v48 h23 = some v49) ∧ (loadV false 1 v45 h23 = some v46) ∧ (loadV false 1 v42 h23 = some v43) ∧ (loadV false 1 v39 h23 = some v40) ∧ True) ∧ C 32 [v50] h23 fun v51 h24 => (True ∧ (loadV false 1 v45 h24 = some v46) ∧ (loadV false 1 v42 h24 = some v43) ∧ (loadV false 1 v39 h24 = some v40) ∧ True) ∧ bindV (buildV [.int .i64 0, .int .u32 0, .int .u64 0, .slice none 0 0] (some [(0, 1, v41), (1, 1, v44), (2, 1, v46), (3, 1, v51)])) fun v52 => storeE 4 v11 v52 h24 fun _ h26 => (True ∧ True ∧ True ∧ True ∧ True) ∧ bindV (loadV true 4 v11 h26) fun v53 => C 7 [v53] h26 fun v54 h27 => bindV (unV .not v54) fun v55 => condK v55 (bindV (buildV [.int .i64 0, .int .u32 0, .int .u64 0, .slice none 0 0] (some [])) fun v56 => storeE 4 x2 v56 h27 fun _ h29 => bindV (loadV true 4 x2 h29) fun r30 => K (.tuple #[r30, (.slice none 0 0), (.int .i64 2)]) h29) (G (bindV (loadV true 4 v11 h27) fun v57 => (True) ∧ bindV (idxA 4 1 x5 (.int .i64 3)) fun v59 => bindV (loadV false 1 v59 h27) fun v60 => (True) ∧ bindV (cutS 1 x0 (some v60) none) fun v61 => storeE 4 x2 v57 h27 fun _ h32 => ((loadV false 1 v59 h32 = some v60) ∧ True ∧ True) ∧ bindV (loadV true 4 x2 h32) fun r33 => K (.tuple #[r33, v61, (.int .i64 0)]) h32))))))) := by kernel_rfl
theorem r_next_l0_eq (C : Oracle) (G : Prop → Prop) (n m0 : Nat) (x0 x2 x3 x4 x5 x6 x8 x9 x11 x12 x13 : Value) (h : St) (K : Cont) : r_next_l0 C G n (m0 + 1) x0 x2 x3 x4 x5 x6 x8 x9 x11 x12 x13 h K = (bindV (binNil .lss .other x13 (.int .i64 4)) fun v14 => condK v14 (G (bindV (idxV 4 1 false x12 x13) fun v16 => C 31 [x0, v16] h fun v20 h3 => bindV (extV 0 v20) fun v21 => bindV (extV 1 v20) fun v22 => bindV (extV 2 v20) fun v23 => bindV (unV .not v23) fun v25 => condK v25 (bindV (buildV [.int .i64 0, .int .u32 0, .int .u64 0, .slice none 0 0] (some [])) fun v26 => storeE 4 x2 v26 h3 fun _ h5 => bindV (loadV true 4 x2 h5) fun r6 => K (.tuple #[r6, (.slice none 0 0), (.int .i64 3)]) h5) (G (bindV (idxA 4 1 x5 x13) fun v30 => storeE 1 v30 v21 h3 fun _ h8 => G (bindV (binNil .add .other x13 (.int .i64 1)) fun v31 => G (r_next_l0 C G n m0 v22 x2 x3 x4 x5 x13 v21 v22 x11 x12 v31 h8 K)))))) (G (r_next_j1 C G n x0 x2 x3 x4 x5 x6 x8 x9 x11 x12 x13 h K))) := by kernel_rfl
def r_next (C : Oracle) (G : Prop → Prop) (n : Nat) (a0 : Value) (h : St) (K : Cont) : Prop := funcK Tryz.prog C G r_next_keep n Tryz.f23 [a0] h K
theorem r_next_eq (C : Oracle) (G : Prop → Prop) (n : Nat) (a0 : Value) (h : St) (K : Cont) : r_next C G n a0 h K = (allocE (some [.int .i64 0, .int .u32 0, .int .u64 0, .slice none 0 0]) h fun v2 h1 => allocE (some [.int .u64 0, .int .u64 0, .int .u64 0, .int .u64 0]) h1 fun v5 h2 => bindV (buildV [.int .i64 0, .int .i64 0, .int .i64 0, .int .i64 0] (some [(0, 1, (.int .i64 1)), (1, 1, (.int .i64 4)), (2, 1, (.int .i64 8)), (3, 1, (.int .i64 2))])) fun v12 => G (r_next_l0 C G n n a0 v2 (.slice none 0 0) (.int .i64 0) v5 undef undef undef undef v12 (.int .i64 0) h2 K)) := by kernel_rfl
attribute [irreducible] r_next_l0 r_next_j1
/- tiltyard/reel.Decode -/
def r_Decode_keep : List Bool := [true, false, true, true, true, true, true, true, false, false, false, false, false, false, false, false, false, false, false, false, false, false, false, false, false, false, false, false, false]
def r_Decode_mk (x0 x2 x3 x4 x5 x6 x7 : Value) : List Value := [x0, unk, x2, x3, x4, x5, x6, x7, unk, unk, unk, unk, unk, unk, unk, unk, unk, unk, unk, unk, unk, unk, unk, unk, unk, unk, unk, unk, unk]
def r_Decode_l0 (C : Oracle) (G : Prop → Prop) (n m0 : Nat) (x0 x2 x3 x4 x5 x6 x7 : Value) (h : St) (K : Cont) : Prop := loopK Tryz.prog C G r_Decode_keep m0 (pathC [true, true, false, false, false] (bodyOf Tryz.f13)) (r_Decode_mk x0 x2 x3 x4 x5 x6 x7) h (blockC 0 (seqC (fun t h => nextK G r_Decode_keep (pathC [true, true, false] (bodyOf Tryz.f13)) (fun t => codeK Tryz.prog C G r_Decode_keep (loopK Tryz.prog C G r_Decode_keep n) (pathC [true, true, true] (bodyOf Tryz.f13)) t h (funcC Tryz.prog (Tryz.f13).results.toList K)) t) (funcC Tryz.prog (Tryz.f13).results.toList K)))
def r_Decode_j1 (C : Oracle) (G : Prop → Prop) (n : Nat) (x0 x2 x3 x4 x5 x6 x7 : Value) (h : St) (K : Cont) : Prop := codeK Tryz.prog C G r_Decode_keep (loopK Tryz.prog C G r_Decode_keep n) (pathC [true, true, true] (bodyOf Tryz.f13)) (r_Decode_mk x0 x2 x3 x4 x5 x6 x7) h (funcC Tryz.prog (Tryz.f13).results.toList K)
theorem r_Decode_j1_eq (C : Oracle) (G : Prop → Prop) (n : Nat) (x0 x2 x3 x4 x5 x6 x7 : Value) (h : St) (K : Cont) : r_Decode_j1 C G n x0 x2 x3 x4 x5 x6 x7 h K = (K (.tuple #[x5, (.int .i64 0), (.int .i64 0)]) h) := by kernel_rfl
theorem r_Decode_l0_eq (C : Oracle) (G : Prop → Prop) (n m0 : Nat) (x0 x2 x3 x4 x5 x6 x7 : Value) (h : St) (K : Cont) : r_Decode_l0 C G n (m0 + 1) x0 x2 x3 x4 x5 x6 x7 h K = (bindV (lenS x0) fun v10 => bindV (binNil .gtr .other v10 (.int .i64 0)) fun v11 => condK v11 (G (C 23 [x0] h fun v14 h1 => bindV (extV 0 v14) fun v15 => bindV (extV 1 v14) fun v16 => bindV (extV 2 v14) fun v17 => allocE (some [.int .i64 0, .int .u32 0, .int .u64 0, .slice none 0 0]) h1 fun v6 h2 => storeE 4 v6 v15 h2 fun _ h4 => bindV (binNil .neq .other v17 (.int .i64 0)) fun v19 => condK v19 (bindV (lenS x5) fun v21 => K (.tuple #[(.slice none 0 0), v21, v17]) h4) (G (bindV (loadV true 4 v6 h4) fun v24 => buildSliceE 4 1 [.int .i64 0, .int .u32 0, .int .u64 0, .slice none 0 0] [(0 * 4, 4, v24)] h4 fun v25 h5 => appendE 4 48 x5 v25 h5 fun v26 h6 => G (r_Decode_l0 C G n m0 v16 x2 x3 x4 v26 v6 v16 h6 K))))) (G (r_Decode_j1 C G n x0 x2 x3 x4 x5 x6 x7 h K))) := by kernel_rfl
def r_Decode (C : Oracle) (G : Prop → Prop) (n : Nat) (a0 : Value) (h : St) (K : Cont) : Prop := funcK Tryz.prog C G r_Decode_keep n Tryz.f13 [a0] h K
theorem r_Decode_eq (C : Oracle) (G : Prop → Prop) (n : Nat) (a0 : Value) (h : St) (K : Cont) : r_Decode C G n a0 h K = (G (r_Decode_l0 C G n n a0 (.slice none 0 0) (.int .i64 0) (.int .i64 0) (.slice none 0 0) undef undef h K)) := by kernel_rfl
attribute [irreducible] r_Decode_l0 r_Decode_j1
/- bytes.Clone -/
def b_Clone_keep : List Bool := [true, false, true, false, false, false, false, false]
def b_Clone_mk (x0 x2 : Value) : List Value := [x0, unk, x2, unk, unk, unk, unk, unk]
def b_Clone (C : Oracle) (G : Prop → Prop) (n : Nat) (a0 : Value) (h : St) (K : Cont) : Prop := funcK Tryz.prog C G b_Clone_keep n Tryz.f32 [a0] h K
theorem b_Clone_eq (C : Oracle) (G : Prop → Prop) (n : Nat) (a0 : Value) (h : St) (K : Cont) : b_Clone C G n a0 h K = (bindV (binNil .eql .slice a0 (.slice none 0 0)) fun v4 => condK v4 (K (.slice none 0 0) h) (G (buildSliceE 1 0 [.int .u8 0] [] h fun v5 h1 => appendE 1 1 v5 a0 h1 fun v7 h2 => K v7 h2))) := by kernel_rfl
/- tiltyard/tiltyardref27.Right -/
def q_Right_keep : List Bool := [false, true, true, false, false, false, false, false, false, false, false, false, false, false, false, false, false, false, false, false, false, false, false, false, false, false, false, false, false, false, false, false, false, false, false, false, false, false, false, false, false, false, false, false, false, false, false, false, false, false, false, false, false, false, false, false, false]
def q_Right_mk (x1 x2 : Value) : List Value := [unk, x1, x2, unk, unk, unk, unk, unk, unk, unk, unk, unk, unk, unk, unk, unk, unk, unk, unk, unk, unk, unk, unk, unk, unk, unk, unk, unk, unk, unk, unk, unk, unk, unk, unk, unk, unk, unk, unk, unk, unk, unk, unk, unk, unk, unk, unk, unk, unk, unk, unk, unk, unk, unk, unk, unk, unk]
def q_Right (C : Oracle) (G : Prop → Prop) (n : Nat) (a0 : Value) (h : St) (K : Cont) : Prop := funcK Tryz.prog C G q_Right_keep n Tryz.f9 [a0] h K
theorem q_Right_eq (C : Oracle) (G : Prop → Prop) (n : Nat) (a0 : Value) (h : St) (K : Cont) : q_Right C G n a0 h K = (boxE a0 h fun v1 h1 => bindV (offV 0 v1) fun v3 => bindV (loadV false 1 v3 h1) fun v4 => bindV (binNil .lss .other v4 (.int .i64 1)) fun v5 => groupK v5 false [undef, undef, undef] h1 (fun J2 => bindV (offV 0 v1) fun v7 => bindV (loadV false 1 v7 h1) fun v8 => bindV (binNil .gtr .other v8 (.int .i64 8)) fun v9 => J2 [v7, v8, v9] h1) fun xs3 h4 => G (bindV (pickV v5 (.bool true) (getT xs3 2)) fun v10 => groupK v10 false [undef, undef, undef, undef] h4 (fun J5 => bindV (offV 3 v1) fun v12 => bindV (loadV false 1 v12 h4) fun v13 => bindV (lenS v13) fun v14 => bindV (binNil .gtr .other v14 (.int .i64 65535)) fun v15 => J5 [v12, v13, v14, v15] h4) fun xs6 h7 => G (bindV (pickV v10 (.bool true) (getT xs6 3)) fun v16 => condK v16 (K (.bool false) h7) (G (bindV (offV 3 v1) fun v17 => bindV (loadV false 1 v17 h7) fun v18 => bindV (lenS v18) fun v19 => bindV (binNil .gtr .other v19 (.int .i64 0)) fun v20 => groupK v20 true [undef, undef, undef] h7 (fun J8 => bindV (offV 0 v1) fun v22 => bindV (loadV false 1 v22 h7) fun v23 => bindV (binNil .neq .other v23 (.int .i64 5)) fun v24 => J8 [v22, v23, v24] h7) fun xs9 h10 => G (bindV (pickV v20 (getT xs9 2) (.bool false)) fun v25 => groupK v25 true [undef, undef, undef] h10 (fun J11 => bindV (offV 0 v1) fun v27 => bindV (loadV false 1 v27 h10) fun v28 => bindV (binNil .neq .other v28 (.int .i64 6)) fun v29 => J11 [v27, v28, v29] h10) fun xs12 h13 => G (bindV (pickV v25 (getT xs12 2) (.bool false)) fun v30 => condK v30 (K (.bool false) h13) (G (bindV (offV 2 v1) fun v31 => bindV (loadV false 1 v31 h13) fun v32 => bindV (binNil .neq .other v32 (.int .u64 0)) fun v33 => groupK v33 true [undef, undef, undef] h13 (fun J14 => bindV (offV 0 v1) fun v35 => bindV (loadV false 1 v35 h13) fun v36 => bindV (binNil .geq .other v36 (.int .i64 3)) fun v37 => J14 [v35, v36, v37] h13) fun xs15 h16 => G (bindV (pickV v33 (getT xs15 2) (.bool false)) fun v38 => groupK v38 true [undef, undef, undef] h16 (fun J17 => bindV (offV 0 v1) fun v40 => bindV (loadV false 1 v40 h16) fun v41 => bindV (binNil .leq .other v41 (.int .i64 6)) fun v42 => J17 [v40, v41, v42] h16) fun xs18 h19 => G (bindV (pickV v38 (getT xs18 2) (.bool false)) fun v43 => condK v43 (K (.bool false) h19) (G (bindV (offV 1 v1) fun v44 => bindV (loadV false 1 v44 h19) fun v45 => bindV (binNil .eql .other v45 (.int .u32 0)) fun v46 => groupK v46 false [undef, undef, undef, undef] h19 (fun J20 => bindV (offV 0 v1) fun v48 => bindV (loadV false 1 v48 h19) fun v49 => bindV (binNil .neq .other v49 (.int .i64 2)) fun v50 => J20 [v48, v49, v50, v50] h19) fun xs21 h22 => G (groupK (getT xs21 3) true [undef, undef, undef] h22 (fun J23 => bindV (offV 0 v1) fun v52 => bindV (loadV false 1 v52 h22) fun v53 => bindV (binNil .neq .other v53 (.int .i64 7)) fun v54 => J23 [v52, v53, v54] h22) fun xs24 h25 => G (groupK v46 false [undef] h25 (fun J26 => bindV (pickV (getT xs21 3) (getT xs24 2) (.bool false)) fun v55 => J26 [v55] h25) fun xs27 h28 => G (bindV (pickV v46 (.bool true) (getT xs27 0)) fun v56 => K v56 h28)))))))))))))))) := by kernel_rfl
/- tiltyard/tiltyardref27.Encode -/
def q_Encode_keep : List Bool := [true, false, true, true, true, true, true, false, false, false, false, false, false, false, false, false, false, false, false, false, false, false, false, false, false, false, false, false, false, false, false, false, false, false, false, false, false, false, false, false, false, false, false, false, false, false, false, false, false]
def q_Encode_mk (x0 x2 x3 x4 x5 x6 : Value) : List Value := [x0, unk, x2, x3, x4, x5, x6, unk, unk, unk, unk, unk, unk, unk, unk, unk, unk, unk, unk, unk, unk, unk, unk, unk, unk, unk, unk, unk, unk, unk, unk, unk, unk, unk, unk, unk, unk, unk, unk, unk, unk, unk, unk, unk, unk, unk, unk, unk, unk]
def q_Encode_l0 (C : Oracle) (G : Prop → Prop) (n m0 : Nat) (x0 x2 x3 x4 x5 x6 : Value) (h : St) (K : Cont) : Prop := loopK Tryz.prog C G q_Encode_keep m0 (pathC [true, true, false, true, false, false] (bodyOf Tryz.f11)) (q_Encode_mk x0 x2 x3 x4 x5 x6) h (blockC 0 (seqC (fun t h => nextK G q_Encode_keep (pathC [true, true, false] (bodyOf Tryz.f11)) (fun t => codeK Tryz.prog C G q_Encode_keep (loopK Tryz.prog C G q_Encode_keep n) (pathC [true, true, true] (bodyOf Tryz.f11)) t h (funcC Tryz.prog (Tryz.f11).results.toList K)) t) (funcC Tryz.prog (Tryz.f11).results.toList K)))
def q_Encode_j1 (C : Oracle) (G : Prop → Prop) (n : Nat) (x0 x2 x3 x4 x5 x6 : Value) (h : St) (K : Cont) : Prop := codeK Tryz.prog C G q_Encode_keep (loopK Tryz.prog C G q_Encode_keep n) (pathC [true, true, true] (bodyOf Tryz.f11)) (q_Encode_mk x0 x2 x3 x4 x5 x6) h (funcC Tryz.prog (Tryz.f11).results.toList K)
theorem q_Encode_j1_eq (C : Oracle) (G : Prop → Prop) (n : Nat) (x0 x2 x3 x4 x5 x6 : Value) (h : St) (K : Cont) : q_Encode_j1 C G n x0 x2 x3 x4 x5 x6 h K = (K (.tuple #[x4, (.int .i64 0)]) h) := by kernel_rfl
theorem q_Encode_l0_eq (C : Oracle) (G : Prop → Prop) (n m0 : Nat) (x0 x2 x3 x4 x5 x6 : Value) (h : St) (K : Cont) : q_Encode_l0 C G n (m0 + 1) x0 x2 x3 x4 x5 x6 h K = (bindV (lenS x0) fun v9 => bindV (binV .lss .other x5 v9) fun v10 => condK v10 (G (bindV (idxS 4 x0 x5) fun v15 => bindV (loadV true 4 v15 h) fun v16 => allocE (some [.int .i64 0, .int .u32 0, .int .u64 0, .slice none 0 0]) h fun v6 h1 => storeE 4 v6 v16 h1 fun _ h3 => bindV (loadV true 4 v6 h3) fun v17 => C 9 [v17] h3 fun v18 h4 => bindV (unV .not v18) fun v19 => condK v19 (K (.tuple #[(.slice none 0 0), (.int .i64 2)]) h4) (G (bindV (offV 0 v6) fun v21 => bindV (loadV false 1 v21 h4) fun v22 => bindV (wrapV .u8 v22) fun v23 => buildSliceE 1 1 [.int .u8 0] [(0 * 1, 1, v23)] h4 fun v24 h5 => appendE 1 1 x4 v24 h5 fun v25 h6 => bindV (offV 1 v6) fun v27 => bindV (loadV false 1 v27 h6) fun v28 => bindV (wrapV .u64 v28) fun v29 => C 20 [v29, (.int .i64 4)] h6 fun v30 h7 => appendE 1 1 v25 v30 h7 fun v31 h8 => bindV (offV 2 v6) fun v33 => bindV (loadV false 1 v33 h8) fun v34 => C 20 [v34, (.int .i64 8)] h8 fun v35 h9 => appendE 1 1 v31 v35 h9 fun v36 h10 => bindV (offV 3 v6) fun v38 => bindV (loadV false 1 v38 h10) fun v39 => bindV (lenS v39) fun v40 => bindV (wrapV .u64 v40) fun v41 => C 20 [v41, (.int .i64 2)] h10 fun v42 h11 => appendE 1 1 v36 v42 h11 fun v43 h12 => bindV (offV 3 v6) fun v45 => bindV (loadV false 1 v45 h12) fun v46 => appendE 1 1 v43 v46 h12 fun v47 h13 => G (bindV (binNil .add .other x5 (.int .i64 1)) fun v12 => G (q_Encode_l0 C G n m0 x0 x2 x3 v47 v12 v6 h13 K)))))) (G (q_Encode_j1 C G n x0 x2 x3 x4 x5 x6 h K))) := by kernel_rfl
def q_Encode (C : Oracle) (G : Prop → Prop) (n : Nat) (a0 : Value) (h : St) (K : Cont) : Prop := funcK Tryz.prog C G q_Encode_keep n Tryz.f11 [a0] h K
theorem q_Encode_eq (C : Oracle) (G : Prop → Prop) (n : Nat) (a0 : Value) (h : St) (K : Cont) : q_Encode C G n a0 h K = (G (q_Encode_l0 C G n n a0 (.slice none 0 0) (.int .i64 0) (.slice none 0 0) (.int .i64 0) undef h K)) := by kernel_rfl
attribute [irreducible] q_Encode_l0 q_Encode_j1
/- tiltyard/tiltyardref27.Same -/
def q_Same_keep : List Bool := [false, false, false, false, true, false, false, false, false, false, false, false, false, false, false, false, false, false, false, false, false, false, false, false, false, false, false, false, false, false, false, false, false]
def q_Same_mk (x4 : Value) : List Value := [unk, unk, unk, unk, x4, unk, unk, unk, unk, unk, unk, unk, unk, unk, unk, unk, unk, unk, unk, unk, unk, unk, unk, unk, unk, unk, unk, unk, unk, unk, unk, unk, unk]
def q_Same (C : Oracle) (G : Prop → Prop) (n : Nat) (a0 a1 : Value) (h : St) (K : Cont) : Prop := funcK Tryz.prog C G q_Same_keep n Tryz.f25 [a0, a1] h K
theorem q_Same_eq (C : Oracle) (G : Prop → Prop) (n : Nat) (a0 a1 : Value) (h : St) (K : Cont) : q_Same C G n a0 a1 h K = (boxE a0 h fun v2 h1 => boxE a1 h1 fun v3 h2 => bindV (offV 0 v2) fun v5 => bindV (loadV false 1 v5 h2) fun v6 => bindV (offV 0 v3) fun v7 => bindV (loadV false 1 v7 h2) fun v8 => bindV (binV .eql .other v6 v8) fun v9 => groupK v9 true [undef, undef, undef, undef, undef] h2 (fun J3 => bindV (offV 1 v2) fun v11 => bindV (loadV false 1 v11 h2) fun v12 => bindV (offV 1 v3) fun v13 => bindV (loadV false 1 v13 h2) fun v14 => bindV (binV .eql .other v12 v14) fun v15 => J3 [v11, v12, v13, v14, v15] h2) fun xs4 h5 => G (bindV (pickV v9 (getT xs4 4) (.bool false)) fun v16 => groupK v16 true [undef, undef, undef, undef, undef] h5 (fun J6 => bindV (offV 2 v2) fun v18 => bindV (loadV false 1 v18 h5) fun v19 => bindV (offV 2 v3) fun v20 => bindV (loadV false 1 v20 h5) fun v21 => bindV (binV .eql .other v19 v21) fun v22 => J6 [v18, v19, v20, v21, v22] h5) fun xs7 h8 => G (bindV (pickV v16 (getT xs7 4) (.bool false)) fun v23 => groupK v23 true [undef, undef, undef, undef, undef, undef, undef] h8 (fun J9 => bindV (offV 3 v2) fun v25 => bindV (loadV false 1 v25 h8) fun v26 => bindV (textOf v26 h8) fun v27 => bindV (offV 3 v3) fun v28 => bindV (loadV false 1 v28 h8) fun v29 => bindV (textOf v29 h8) fun v30 => bindV (binV .eql .other v27 v30) fun v31 => J9 [v25, v26, v27, v28, v29, v30, v31] h8) fun xs10 h11 => G (bindV (pickV v23 (getT xs10 6) (.bool false)) fun v32 => K v32 h11)))) := by kernel_rfl
/- tiltyard/tiltyardlaw27.Own -/
def w_Own_keep : List Bool := [true, false, true, true, true, false, false, false, false, false, false, false, false, false, false, false, false, false, false, false, false, false, false, false, false, false, false, false, false, false, false]
def w_Own_mk (x0 x2 x3 x4 : Value) : List Value := [x0, unk, x2, x3, x4, unk, unk, unk, unk, unk, unk, unk, unk, unk, unk, unk, unk, unk, unk, unk, unk, unk, unk, unk, unk, unk, unk, unk, unk, unk, unk]
def w_Own_l0 (C : Oracle) (G : Prop → Prop) (n m0 : Nat) (x0 x2 x3 x4 : Value) (h : St) (K : Cont) : Prop := loopK Tryz.prog C G w_Own_keep m0 (pathC [true, true, false, true, false, false] (bodyOf Tryz.f8)) (w_Own_mk x0 x2 x3 x4) h (blockC 0 (seqC (fun t h => nextK G w_Own_keep (pathC [true, true, false] (bodyOf Tryz.f8)) (fun t => codeK Tryz.prog C G w_Own_keep (loopK Tryz.prog C G w_Own_keep n) (pathC [true, true, true] (bodyOf Tryz.f8)) t h (funcC Tryz.prog (Tryz.f8).results.toList K)) t) (funcC Tryz.prog (Tryz.f8).results.toList K)))
def w_Own_j1 (C : Oracle) (G : Prop → Prop) (n : Nat) (x0 x2 x3 x4 : Value) (h : St) (K : Cont) : Prop := codeK Tryz.prog C G w_Own_keep (loopK Tryz.prog C G w_Own_keep n) (pathC [true, true, true] (bodyOf Tryz.f8)) (w_Own_mk x0 x2 x3 x4) h (funcC Tryz.prog (Tryz.f8).results.toList K)
theorem w_Own_j1_eq (C : Oracle) (G : Prop → Prop) (n : Nat) (x0 x2 x3 x4 : Value) (h : St) (K : Cont) : w_Own_j1 C G n x0 x2 x3 x4 h K = (K x3 h) := by kernel_rfl
theorem w_Own_l0_eq (C : Oracle) (G : Prop → Prop) (n m0 : Nat) (x0 x2 x3 x4 : Value) (h : St) (K : Cont) : w_Own_l0 C G n (m0 + 1) x0 x2 x3 x4 h K = (bindV (lenS x0) fun v8 => bindV (binV .lss .other x4 v8) fun v9 => condK v9 (G (bindV (idxS 4 x0 x4) fun v14 => bindV (loadV true 4 v14 h) fun v15 => allocE (some [.int .i64 0, .int .u32 0, .int .u64 0, .slice none 0 0]) h fun v5 h1 => storeE 4 v5 v15 h1 fun _ h3 => bindV (offV 0 v5) fun v17 => bindV (loadV false 1 v17 h3) fun v18 => (True) ∧ bindV (offV 1 v5) fun v19 => bindV (loadV false 1 v19 h3) fun v20 => (True) ∧ bindV (offV 2 v5) fun v21 => bindV (loadV false 1 v21 h3) fun v22 => (True) ∧ buildSliceE 1 0 [.int .u8 0] [] h3 fun v23 h4 => ((loadV false 1 v21 h4 = some v22) ∧ (loadV false 1 v19 h4 = some v20) ∧ (loadV false 1 v17 h4 = some v18) ∧ True) ∧ bindV (offV 3 v5) fun v24 => bindV (loadV false 1 v24 h4) fun v25 => ((loadV false 1 v24 h3 = some v25) ∧ True) ∧ appendE 1 1 v23 v25 h4 fun v26 h5 => (True ∧ (loadV false 1 v21 h5 = some v22) ∧ (loadV false 1 v19 h5 = some v20) ∧ (loadV false 1 v17 h5 = some v18) ∧ True) ∧ bindV (buildV [.int .i64 0, .int .u32 0, .int .u64 0, .slice none 0 0] (some [(0, 1, v18), (1, 1, v20), (2, 1, v22), (3, 1, v26)])) fun v27 => buildSliceE 4 1 [.int .i64 0, .int .u32 0, .int .u64 0, .slice none 0 0] [(0 * 4, 4, v27)] h5 fun v28 h6 => (True ∧ True ∧ True ∧ True ∧ True) ∧ appendE 4 48 x3 v28 h6 fun v29 h7 => (True ∧ True ∧ True ∧ True ∧ True) ∧ G (bindV (binNil .add .other x4 (.int .i64 1)) fun v11 => G (w_Own_l0 C G n m0 x0 x2 v29 v11 h7 K)))) (G (w_Own_j1 C G n x0 x2 x3 x4 h K))) := by kernel_rfl
def w_Own (C : Oracle) (G : Prop → Prop) (n : Nat) (a0 : Value) (h : St) (K : Cont) : Prop := funcK Tryz.prog C G w_Own_keep n Tryz.f8 [a0] h K
theorem w_Own_eq (C : Oracle) (G : Prop → Prop) (n : Nat) (a0 : Value) (h : St) (K : Cont) : w_Own C G n a0 h K = (G (w_Own_l0 C G n n a0 (.slice none 0 0) (.slice none 0 0) (.int .i64 0) h K)) := by kernel_rfl
attribute [irreducible] w_Own_l0 w_Own_j1
/- tiltyard/tiltyardlaw27.same -/
def w_same_keep : List Bool := [true, true, false, false, true, true, false, false, false, false, false, false, false, false, false, false, false, false, false, false, false, false, false, false, false, false, false, false, false, false, false, false, false, false, false, false, false, false, false, false, false, false, false, false]
def w_same_mk (x0 x1 x4 x5 : Value) : List Value := [x0, x1, unk, unk, x4, x5, unk, unk, unk, unk, unk, unk, unk, unk, unk, unk, unk, unk, unk, unk, unk, unk, unk, unk, unk, unk, unk, unk, unk, unk, unk, unk, unk, unk, unk, unk, unk, unk, unk, unk, unk, unk, unk, unk]
def w_same_l0 (C : Oracle) (G : Prop → Prop) (n m0 : Nat) (x0 x1 x4 x5 : Value) (h : St) (K : Cont) : Prop := loopK Tryz.prog C G w_same_keep m0 (pathC [true, true, false, true, false, false] (bodyOf Tryz.f15)) (w_same_mk x0 x1 x4 x5) h (blockC 0 (seqC (fun t h => nextK G w_same_keep (pathC [true, true, false] (bodyOf Tryz.f15)) (fun t => codeK Tryz.prog C G w_same_keep (loopK Tryz.prog C G w_same_keep n) (pathC [true, true, true] (bodyOf Tryz.f15)) t h (funcC Tryz.prog (Tryz.f15).results.toList K)) t) (funcC Tryz.prog (Tryz.f15).results.toList K)))
def w_same_j1 (C : Oracle) (G : Prop → Prop) (n : Nat) (x0 x1 x4 x5 : Value) (h : St) (K : Cont) : Prop := codeK Tryz.prog C G w_same_keep (loopK Tryz.prog C G w_same_keep n) (pathC [true, true, true] (bodyOf Tryz.f15)) (w_same_mk x0 x1 x4 x5) h (funcC Tryz.prog (Tryz.f15).results.toList K)
theorem w_same_j1_eq (C : Oracle) (G : Prop → Prop) (n : Nat) (x0 x1 x4 x5 : Value) (h : St) (K : Cont) : w_same_j1 C G n x0 x1 x4 x5 h K = (K (.bool true) h) := by kernel_rfl
theorem w_same_l0_eq (C : Oracle) (G : Prop → Prop) (n m0 : Nat) (x0 x1 x4 x5 : Value) (h : St) (K : Cont) : w_same_l0 C G n (m0 + 1) x0 x1 x4 x5 h K = (bindV (lenS x0) fun v13 => bindV (binV .lss .other x5 v13) fun v14 => condK v14 (G (bindV (idxS 4 x0 x5) fun v19 => bindV (offV 0 v19) fun v20 => bindV (loadV false 1 v20 h) fun v21 => (True) ∧ bindV (idxS 4 x0 x5) fun v24 => bindV (offV 1 v24) fun v25 => bindV (loadV false 1 v25 h) fun v26 => (True) ∧ bindV (idxS 4 x0 x5) fun v29 => bindV (offV 2 v29) fun v30 => bindV (loadV false 1 v30 h) fun v31 => (True) ∧ bindV (idxS 4 x0 x5) fun v34 => bindV (offV 3 v34) fun v35 => bindV (loadV false 1 v35 h) fun v36 => (True) ∧ bindV (buildV [.int .i64 0, .int .u32 0, .int .u64 0, .slice none 0 0] (some [(0, 1, v21), (1, 1, v26), (2, 1, v31), (3, 1, v36)])) fun v37 => bindV (idxS 4 x1 x5) fun v40 => bindV (loadV true 4 v40 h) fun v41 => (True) ∧ C 25 [v37, v41] h fun v42 h1 => (True ∧ True ∧ True ∧ True ∧ True ∧ True) ∧ bindV (unV .not v42) fun v43 => condK v43 (K (.bool false) h1) (G (bindV (binNil .add .other x5 (.int .i64 1)) fun v16 => G (w_same_l0 C G n m0 x0 x1 x4 v16 h1 K))))) (G (w_same_j1 C G n x0 x1 x4 x5 h K))) := by kernel_rfl
def w_same (C : Oracle) (G : Prop → Prop) (n : Nat) (a0 a1 : Value) (h : St) (K : Cont) : Prop := funcK Tryz.prog C G w_same_keep n Tryz.f15 [a0, a1] h K
theorem w_same_eq (C : Oracle) (G : Prop → Prop) (n : Nat) (a0 a1 : Value) (h : St) (K : Cont) : w_same C G n a0 a1 h K = (bindV (lenS a0) fun v7 => bindV (lenS a1) fun v9 => bindV (binV .neq .other v7 v9) fun v10 => condK v10 (K (.bool false) h) (G (G (w_same_l0 C G n n a0 a1 (.bool false) (.int .i64 0) h K)))) := by kernel_rfl
attribute [irreducible] w_same_l0 w_same_j1
end Go.Proofs.YtnnjcenoihdhfaaGreatDoor
end

section
set_option linter.unusedVariables false
set_option maxRecDepth 100000
namespace Go.Proofs.YtnnjcenoihdhfaaGreatDoor
open Go.Abs
/- tiltyard/reel.Tell -/
def r_Tell_keep : List Bool := [false, false, true, true, false, false, false, false, false, false, true, true, true, false, false, false, false, false, false, false, false, false, false, false, false, false, false, false, false, false, false, false, false, false, false, false, false, false, false, false, false, false, false, false, false, false, false, false, true, true, true, false, false, false, false, false, false, false, false, false, false, false, false, false, false, false, false, false, false, false, false, false, false, false, false, false, false, false, false, false, false, false]
def r_Tell_mk (x2 x3 x10 x11 x12 x48 x49 x50 : Value) : List Value := [unk, unk, x2, x3, unk, unk, unk, unk, unk, unk, x10, x11, x12, unk, unk, unk, unk, unk, unk, unk, unk, unk, unk, unk, unk, unk, unk, unk, unk, unk, unk, unk, unk, unk, unk, unk, unk, unk, unk, unk, unk, unk, unk, unk, unk, unk, unk, unk, x48, x49, x50, unk, unk, unk, unk, unk, unk, unk, unk, unk, unk, unk, unk, unk, unk, unk, unk, unk, unk, unk, unk, unk, unk, unk, unk, unk, unk, unk, unk, unk, unk, unk]
def r_Tell_l0 (C : Oracle) (G : Prop → Prop) (n m0 : Nat) (x2 x3 x10 x11 x12 x48 x49 x50 : Value) (h : St) (K : Cont) : Prop := loopK Tryz.prog C G r_Tell_keep m0 (pathC [true, true, false, true, false, false] (bodyOf Tryz.f17)) (r_Tell_mk x2 x3 x10 x11 x12 x48 x49 x50) h (blockC 0 (seqC (fun t h => nextK G r_Tell_keep (pathC [true, true, false] (bodyOf Tryz.f17)) (fun t => codeK Tryz.prog C G r_Tell_keep (loopK Tryz.prog C G r_Tell_keep n) (pathC [true, true, true] (bodyOf Tryz.f17)) t h (funcC Tryz.prog (Tryz.f17).results.toList K)) t) (funcC Tryz.prog (Tryz.f17).results.toList K)))
def r_Tell_l1 (C : Oracle) (G : Prop → Prop) (n m0 m1 : Nat) (x2 x3 x10 x11 x12 x48 x49 x50 : Value) (h : St) (K : Cont) : Prop := loopK Tryz.prog C G r_Tell_keep m1 (pathC [true, true, false, true, false, false, true, true, false, false, true, true, true, true, true, true, true, true, false, false] (bodyOf Tryz.f17)) (r_Tell_mk x2 x3 x10 x11 x12 x48 x49 x50) h (blockC 2 (blockC 1 (seqC (fun t h => nextK G r_Tell_keep (pathC [true, true, false, true, false, false, true, true, false] (bodyOf Tryz.f17)) (fun t => codeK Tryz.prog C G r_Tell_keep (loopK Tryz.prog C G r_Tell_keep m0) (pathC [true, true, false, true, false, false, true, true, true] (bodyOf Tryz.f17)) t h (loopC G r_Tell_keep (fun t h => loopK Tryz.prog C G r_Tell_keep m0 (pathC [true, true, false, true, false, false] (bodyOf Tryz.f17)) t h (blockC 0 (seqC (fun t h => nextK G r_Tell_keep (pathC [true, true, false] (bodyOf Tryz.f17)) (fun t => codeK Tryz.prog C G r_Tell_keep (loopK Tryz.prog C G r_Tell_keep n) (pathC [true, true, true] (bodyOf Tryz.f17)) t h (funcC Tryz.prog (Tryz.f17).results.toList K)) t) (funcC Tryz.prog (Tryz.f17).results.toList K)))) (blockC 0 (seqC (fun t h => nextK G r_Tell_keep (pathC [true, true, false] (bodyOf Tryz.f17)) (fun t => codeK Tryz.prog C G r_Tell_keep (loopK Tryz.prog C G r_Tell_keep n) (pathC [true, true, true] (bodyOf Tryz.f17)) t h (funcC Tryz.prog (Tryz.f17).results.toList K)) t) (funcC Tryz.prog (Tryz.f17).results.toList K))))) t) (loopC G r_Tell_keep (fun t h => loopK Tryz.prog C G r_Tell_keep m0 (pathC [true, true, false, true, false, false] (bodyOf Tryz.f17)) t h (blockC 0 (seqC (fun t h => nextK G r_Tell_keep (pathC [true, true, false] (bodyOf Tryz.f17)) (fun t => codeK Tryz.prog C G r_Tell_keep (loopK Tryz.prog C G r_Tell_keep n) (pathC [true, true, true] (bodyOf Tryz.f17)) t h (funcC Tryz.prog (Tryz.f17).results.toList K)) t) (funcC Tryz.prog (Tryz.f17).results.toList K)))) (blockC 0 (seqC (fun t h => nextK G r_Tell_keep (pathC [true, true, false] (bodyOf Tryz.f17)) (fun t => codeK Tryz.prog C G r_Tell_keep (loopK Tryz.prog C G r_Tell_keep n) (pathC [true, true, true] (bodyOf Tryz.f17)) t h (funcC Tryz.prog (Tryz.f17).results.toList K)) t) (funcC Tryz.prog (Tryz.f17).results.toList K)))))))
def r_Tell_j2 (C : Oracle) (G : Prop → Prop) (n : Nat) (x2 x3 x10 x11 x12 x48 x49 x50 : Value) (h : St) (K : Cont) : Prop := codeK Tryz.prog C G r_Tell_keep (loopK Tryz.prog C G r_Tell_keep n) (pathC [true, true, true] (bodyOf Tryz.f17)) (r_Tell_mk x2 x3 x10 x11 x12 x48 x49 x50) h (funcC Tryz.prog (Tryz.f17).results.toList K)
def r_Tell_j3 (C : Oracle) (G : Prop → Prop) (n m0 : Nat) (x2 x3 x10 x11 x12 x48 x49 x50 : Value) (h : St) (K : Cont) : Prop := codeK Tryz.prog C G r_Tell_keep (loopK Tryz.prog C G r_Tell_keep m0) (pathC [true, true, false, true, false, false, true, true, true] (bodyOf Tryz.f17)) (r_Tell_mk x2 x3 x10 x11 x12 x48 x49 x50) h (loopC G r_Tell_keep (fun t h => loopK Tryz.prog C G r_Tell_keep m0 (pathC [true, true, false, true, false, false] (bodyOf Tryz.f17)) t h (blockC 0 (seqC (fun t h => nextK G r_Tell_keep (pathC [true, true, false] (bodyOf Tryz.f17)) (fun t => codeK Tryz.prog C G r_Tell_keep (loopK Tryz.prog C G r_Tell_keep n) (pathC [true, true, true] (bodyOf Tryz.f17)) t h (funcC Tryz.prog (Tryz.f17).results.toList K)) t) (funcC Tryz.prog (Tryz.f17).results.toList K)))) (blockC 0 (seqC (fun t h => nextK G r_Tell_keep (pathC [true, true, false] (bodyOf Tryz.f17)) (fun t => codeK Tryz.prog C G r_Tell_keep (loopK Tryz.prog C G r_Tell_keep n) (pathC [true, true, true] (bodyOf Tryz.f17)) t h (funcC Tryz.prog (Tryz.f17).results.toList K)) t) (funcC Tryz.prog (Tryz.f17).results.toList K))))
theorem r_Tell_j3_eq (C : Oracle) (G : Prop → Prop) (n m0 : Nat) (x2 x3 x10 x11 x12 x48 x49 x50 : Value) (h : St) (K : Cont) : r_Tell_j3 C G n m0 x2 x3 x10 x11 x12 x48 x49 x50 h K = (bindV (binNil .add .other x12 (.int .i64 1)) fun v80 => G (r_Tell_l0 C G n m0 x2 x3 x10 x11 v80 x48 x49 x50 h K)) := by kernel_rfl
theorem r_Tell_j2_eq (C : Oracle) (G : Prop → Prop) (n : Nat) (x2 x3 x10 x11 x12 x48 x49 x50 : Value) (h : St) (K : Cont) : r_Tell_j2 C G n x2 x3 x10 x11 x12 x48 x49 x50 h K = (K x3 h) := by kernel_rfl
theorem r_Tell_l1_eq (C : Oracle) (G : Prop → Prop) (n m0 m1 : Nat) (x2 x3 x10 x11 x12 x48 x49 x50 : Value) (h : St) (K : Cont) : r_Tell_l1 C G n m0 (m1 + 1) x2 x3 x10 x11 x12 x48 x49 x50 h K = (bindV (binV .lss .other x50 x49) fun v51 => condK v51 (G (bindV (idxS 4 x48 x50) fun v52 => bindV (loadV true 4 v52 h) fun v53 => allocE (some [.bool false, .int .u32 0, .slice none 0 0, .bool false]) h fun v9 h8 => storeE 4 v9 v53 h8 fun _ h10 => bindV (offV 0 v9) fun v55 => bindV (loadV false 1 v55 h10) fun v56 => C 26 [v56] h10 fun v57 h11 => C 19 [x3, v57, (.int .i64 1)] h11 fun v58 h12 => bindV (offV 1 v9) fun v60 => bindV (loadV false 1 v60 h12) fun v61 => bindV (wrapV .u64 v61) fun v62 => C 19 [v58, v62, (.int .i64 4)] h12 fun v63 h13 => bindV (offV 3 v9) fun v65 => bindV (loadV false 1 v65 h13) fun v66 => C 26 [v66] h13 fun v67 h14 => C 19 [v63, v67, (.int .i64 1)] h14 fun v68 h15 => bindV (offV 2 v9) fun v70 => bindV (loadV false 1 v70 h15) fun v71 => bindV (lenS v71) fun v72 => bindV (wrapV .u64 v72) fun v73 => C 19 [v68, v73, (.int .i64 4)] h15 fun v74 h16 => bindV (offV 2 v9) fun v76 => bindV (loadV false 1 v76 h16) fun v77 => appendE 1 1 v74 v77 h16 fun v78 h17 => G (bindV (binNil .add .other x50 (.int .i64 1)) fun v79 => G (r_Tell_l1 C G n m0 m1 x2 v78 x10 x11 x12 x48 x49 v79 h17 K)))) (G (r_Tell_j3 C G n m0 x2 x3 x10 x11 x12 x48 x49 x50 h K))) := by kernel_rfl
theorem r_Tell_l0_eq (C : Oracle) (G : Prop → Prop) (n m0 : Nat) (x2 x3 x10 x11 x12 x48 x49 x50 : Value) (h : St) (K : Cont) : r_Tell_l0 C G n (m0 + 1) x2 x3 x10 x11 x12 x48 x49 x50 h K = (bindV (binV .lss .other x12 x11) fun v13 => condK v13 (G (bindV (idxS 3 x10 x12) fun v14 => bindV (loadV true 3 v14 h) fun v15 => allocE (some [.int .i64 0, .string ByteArray.empty, .slice none 0 0]) h fun v5 h1 => storeE 3 v5 v15 h1 fun _ h3 => bindV (offV 1 v5) fun v16 => bindV (loadV false 1 v16 h3) fun v17 => bindV (offV 1 v5) fun v18 => bindV (loadV false 1 v18 h3) fun v19 => bindV (lenT v19) fun v20 => bindV (minV [v20, (.int .i64 255)]) fun v21 => bindV (cutT v17 none (some v21)) fun v22 => bindV (offV 2 v5) fun v23 => bindV (loadV false 1 v23 h3) fun v24 => bindV (offV 2 v5) fun v25 => bindV (loadV false 1 v25 h3) fun v26 => bindV (lenS v26) fun v27 => bindV (minV [v27, (.int .i64 65535)]) fun v28 => bindV (cutS 4 v24 none (some v28)) fun v29 => bindV (offV 0 v5) fun v31 => bindV (loadV false 1 v31 h3) fun v32 => bindV (wrapV .u64 v32) fun v33 => C 19 [x3, v33, (.int .i64 1)] h3 fun v34 h4 => bindV (lenT v22) fun v37 => bindV (wrapV .u64 v37) fun v38 => C 19 [v34, v38, (.int .i64 1)] h4 fun v39 h5 => appendE 1 1 v39 v22 h5 fun v42 h6 => bindV (lenS v29) fun v45 => bindV (wrapV .u64 v45) fun v46 => C 19 [v42, v46, (.int .i64 2)] h6 fun v47 h7 => bindV (lenS v29) fun v49 => G (r_Tell_l1 C G n m0 m0 x2 v47 x10 x11 x12 v29 v49 (.int .i64 0) h7 K))) (G (r_Tell_j2 C G n x2 x3 x10 x11 x12 x48 x49 x50 h K))) := by kernel_rfl
def r_Tell (C : Oracle) (G : Prop → Prop) (n : Nat) (a0 : Value) (h : St) (K : Cont) : Prop := funcK Tryz.prog C G r_Tell_keep n Tryz.f17 [a0] h K
theorem r_Tell_eq (C : Oracle) (G : Prop → Prop) (n : Nat) (a0 : Value) (h : St) (K : Cont) : r_Tell C G n a0 h K = (bindV (lenS a0) fun v11 => G (r_Tell_l0 C G n n (.slice none 0 0) (.slice none 0 0) a0 v11 (.int .i64 0) undef undef undef h K)) := by kernel_rfl
attribute [irreducible] r_Tell_l0 r_Tell_l1 r_Tell_j2 r_Tell_j3
/- tiltyard/reel.flag -/
def r_flag_keep : List Bool := [false, false, true, false]
def r_flag_mk (x2 : Value) : List Value := [unk, unk, x2, unk]
def r_flag (C : Oracle) (G : Prop → Prop) (n : Nat) (a0 : Value) (h : St) (K : Cont) : Prop := funcK Tryz.prog C G r_flag_keep n Tryz.f26 [a0] h K
theorem r_flag_eq (C : Oracle) (G : Prop → Prop) (n : Nat) (a0 : Value) (h : St) (K : Cont) : r_flag C G n a0 h K = (condK a0 (K (.int .u64 1) h) (G (K (.int .u64 0) h))) := by kernel_rfl
/- tiltyard/tiltyardref27.Tell -/
def q_Tell_keep : List Bool := [true, false, true, true, true, true, true, false, false, false, false, false, false, false, false, false, false, false, false, false, false, false, false, false, false, false, false, false, false, false, false, false, false, false, false, false, false, false, false, false, false, false, false, false, false, false, false, false, false, false, false, false, false, false, false, false, false, false, false, false, false, false, false, false, false, false, false, false, false, false, false, false, false, false, false, false, false, false, false, false, false, false, false, false, false, false, false, false, false, false, false, false, false, false, false, false, false, false]
def q_Tell_mk (x0 x2 x3 x4 x5 x6 : Value) : List Value := [x0, unk, x2, x3, x4, x5, x6, unk, unk, unk, unk, unk, unk, unk, unk, unk, unk, unk, unk, unk, unk, unk, unk, unk, unk, unk, unk, unk, unk, unk, unk, unk, unk, unk, unk, unk, unk, unk, unk, unk, unk, unk, unk, unk, unk, unk, unk, unk, unk, unk, unk, unk, unk, unk, unk, unk, unk, unk, unk, unk, unk, unk, unk, unk, unk, unk, unk, unk, unk, unk, unk, unk, unk, unk, unk, unk, unk, unk, unk, unk, unk, unk, unk, unk, unk, unk, unk, unk, unk, unk, unk, unk, unk, unk, unk, unk, unk, unk]
def q_Tell_l0 (C : Oracle) (G : Prop → Prop) (n m0 : Nat) (x0 x2 x3 x4 x5 x6 : Value) (h : St) (K : Cont) : Prop := loopK Tryz.prog C G q_Tell_keep m0 (pathC [true, true, false, true, false, false] (bodyOf Tryz.f18)) (q_Tell_mk x0 x2 x3 x4 x5 x6) h (blockC 0 (seqC (fun t h => nextK G q_Tell_keep (pathC [true, true, false] (bodyOf Tryz.f18)) (fun t => codeK Tryz.prog C G q_Tell_keep (loopK Tryz.prog C G q_Tell_keep n) (pathC [true, true, true] (bodyOf Tryz.f18)) t h (funcC Tryz.prog (Tryz.f18).results.toList K)) t) (funcC Tryz.prog (Tryz.f18).results.toList K)))
def q_Tell_j1 (C : Oracle) (G : Prop → Prop) (n m0 : Nat) (x0 x2 x3 x4 x5 x6 : Value) (h : St) (K : Cont) : Prop := codeK Tryz.prog C G q_Tell_keep (loopK Tryz.prog C G q_Tell_keep m0) (pathC [true, true, false, true, false, false, true, false, false, true, true] (bodyOf Tryz.f18)) (q_Tell_mk x0 x2 x3 x4 x5 x6) h (blockC 1 (seqC (fun t h => nextK G q_Tell_keep (pathC [true, true, false, true, false, false, true, false] (bodyOf Tryz.f18)) (fun t => codeK Tryz.prog C G q_Tell_keep (loopK Tryz.prog C G q_Tell_keep m0) (pathC [true, true, false, true, false, false, true, true] (bodyOf Tryz.f18)) t h (loopC G q_Tell_keep (fun t h => loopK Tryz.prog C G q_Tell_keep m0 (pathC [true, true, false, true, false, false] (bodyOf Tryz.f18)) t h (blockC 0 (seqC (fun t h => nextK G q_Tell_keep (pathC [true, true, false] (bodyOf Tryz.f18)) (fun t => codeK Tryz.prog C G q_Tell_keep (loopK Tryz.prog C G q_Tell_keep n) (pathC [true, true, true] (bodyOf Tryz.f18)) t h (funcC Tryz.prog (Tryz.f18).results.toList K)) t) (funcC Tryz.prog (Tryz.f18).results.toList K)))) (blockC 0 (seqC (fun t h => nextK G q_Tell_keep (pathC [true, true, false] (bodyOf Tryz.f18)) (fun t => codeK Tryz.prog C G q_Tell_keep (loopK Tryz.prog C G q_Tell_keep n) (pathC [true, true, true] (bodyOf Tryz.f18)) t h (funcC Tryz.prog (Tryz.f18).results.toList K)) t) (funcC Tryz.prog (Tryz.f18).results.toList K))))) t) (loopC G q_Tell_keep (fun t h => loopK Tryz.prog C G q_Tell_keep m0 (pathC [true, true, false, true, false, false] (bodyOf Tryz.f18)) t h (blockC 0 (seqC (fun t h => nextK G q_Tell_keep (pathC [true, true, false] (bodyOf Tryz.f18)) (fun t => codeK Tryz.prog C G q_Tell_keep (loopK Tryz.prog C G q_Tell_keep n) (pathC [true, true, true] (bodyOf Tryz.f18)) t h (funcC Tryz.prog (Tryz.f18).results.toList K)) t) (funcC Tryz.prog (Tryz.f18).results.toList K)))) (blockC 0 (seqC (fun t h => nextK G q_Tell_keep (pathC [true, true, false] (bodyOf Tryz.f18)) (fun t => codeK Tryz.prog C G q_Tell_keep (loopK Tryz.prog C G q_Tell_keep n) (pathC [true, true, true] (bodyOf Tryz.f18)) t h (funcC Tryz.prog (Tryz.f18).results.toList K)) t) (funcC Tryz.prog (Tryz.f18).results.toList K))))))
def q_Tell_j2 (C : Oracle) (G : Prop → Prop) (n : Nat) (x0 x2 x3 x4 x5 x6 : Value) (h : St) (K : Cont) : Prop := codeK Tryz.prog C G q_Tell_keep (loopK Tryz.prog C G q_Tell_keep n) (pathC [true, true, true] (bodyOf Tryz.f18)) (q_Tell_mk x0 x2 x3 x4 x5 x6) h (funcC Tryz.prog (Tryz.f18).results.toList K)
def q_Tell_j3 (C : Oracle) (G : Prop → Prop) (n m0 : Nat) (x0 x2 x3 x4 x5 x6 : Value) (h : St) (K : Cont) : Prop := codeK Tryz.prog C G q_Tell_keep (loopK Tryz.prog C G q_Tell_keep m0) (pathC [true, true, false, true, false, false, true, false, false, true, true, true] (bodyOf Tryz.f18)) (q_Tell_mk x0 x2 x3 x4 x5 x6) h (blockC 1 (seqC (fun t h => nextK G q_Tell_keep (pathC [true, true, false, true, false, false, true, false] (bodyOf Tryz.f18)) (fun t => codeK Tryz.prog C G q_Tell_keep (loopK Tryz.prog C G q_Tell_keep m0) (pathC [true, true, false, true, false, false, true, true] (bodyOf Tryz.f18)) t h (loopC G q_Tell_keep (fun t h => loopK Tryz.prog C G q_Tell_keep m0 (pathC [true, true, false, true, false, false] (bodyOf Tryz.f18)) t h (blockC 0 (seqC (fun t h => nextK G q_Tell_keep (pathC [true, true, false] (bodyOf Tryz.f18)) (fun t => codeK Tryz.prog C G q_Tell_keep (loopK Tryz.prog C G q_Tell_keep n) (pathC [true, true, true] (bodyOf Tryz.f18)) t h (funcC Tryz.prog (Tryz.f18).results.toList K)) t) (funcC Tryz.prog (Tryz.f18).results.toList K)))) (blockC 0 (seqC (fun t h => nextK G q_Tell_keep (pathC [true, true, false] (bodyOf Tryz.f18)) (fun t => codeK Tryz.prog C G q_Tell_keep (loopK Tryz.prog C G q_Tell_keep n) (pathC [true, true, true] (bodyOf Tryz.f18)) t h (funcC Tryz.prog (Tryz.f18).results.toList K)) t) (funcC Tryz.prog (Tryz.f18).results.toList K))))) t) (loopC G q_Tell_keep (fun t h => loopK Tryz.prog C G q_Tell_keep m0 (pathC [true, true, false, true, false, false] (bodyOf Tryz.f18)) t h (blockC 0 (seqC (fun t h => nextK G q_Tell_keep (pathC [true, true, false] (bodyOf Tryz.f18)) (fun t => codeK Tryz.prog C G q_Tell_keep (loopK Tryz.prog C G q_Tell_keep n) (pathC [true, true, true] (bodyOf Tryz.f18)) t h (funcC Tryz.prog (Tryz.f18).results.toList K)) t) (funcC Tryz.prog (Tryz.f18).results.toList K)))) (blockC 0 (seqC (fun t h => nextK G q_Tell_keep (pathC [true, true, false] (bodyOf Tryz.f18)) (fun t => codeK Tryz.prog C G q_Tell_keep (loopK Tryz.prog C G q_Tell_keep n) (pathC [true, true, true] (bodyOf Tryz.f18)) t h (funcC Tryz.prog (Tryz.f18).results.toList K)) t) (funcC Tryz.prog (Tryz.f18).results.toList K))))))
def q_Tell_l4 (C : Oracle) (G : Prop → Prop) (n m0 m1 : Nat) (x0 x2 x3 x4 x5 x6 : Value) (h : St) (K : Cont) : Prop := loopK Tryz.prog C G q_Tell_keep m1 (pathC [true, true, false, true, false, false, true, false, false, true, true, true, true, true, true, true, false, false] (bodyOf Tryz.f18)) (q_Tell_mk x0 x2 x3 x4 x5 x6) h (blockC 2 (blockC 1 (seqC (fun t h => nextK G q_Tell_keep (pathC [true, true, false, true, false, false, true, false] (bodyOf Tryz.f18)) (fun t => codeK Tryz.prog C G q_Tell_keep (loopK Tryz.prog C G q_Tell_keep m0) (pathC [true, true, false, true, false, false, true, true] (bodyOf Tryz.f18)) t h (loopC G q_Tell_keep (fun t h => loopK Tryz.prog C G q_Tell_keep m0 (pathC [true, true, false, true, false, false] (bodyOf Tryz.f18)) t h (blockC 0 (seqC (fun t h => nextK G q_Tell_keep (pathC [true, true, false] (bodyOf Tryz.f18)) (fun t => codeK Tryz.prog C G q_Tell_keep (loopK Tryz.prog C G q_Tell_keep n) (pathC [true, true, true] (bodyOf Tryz.f18)) t h (funcC Tryz.prog (Tryz.f18).results.toList K)) t) (funcC Tryz.prog (Tryz.f18).results.toList K)))) (blockC 0 (seqC (fun t h => nextK G q_Tell_keep (pathC [true, true, false] (bodyOf Tryz.f18)) (fun t => codeK Tryz.prog C G q_Tell_keep (loopK Tryz.prog C G q_Tell_keep n) (pathC [true, true, true] (bodyOf Tryz.f18)) t h (funcC Tryz.prog (Tryz.f18).results.toList K)) t) (funcC Tryz.prog (Tryz.f18).results.toList K))))) t) (loopC G q_Tell_keep (fun t h => loopK Tryz.prog C G q_Tell_keep m0 (pathC [true, true, false, true, false, false] (bodyOf Tryz.f18)) t h (blockC 0 (seqC (fun t h => nextK G q_Tell_keep (pathC [true, true, false] (bodyOf Tryz.f18)) (fun t => codeK Tryz.prog C G q_Tell_keep (loopK Tryz.prog C G q_Tell_keep n) (pathC [true, true, true] (bodyOf Tryz.f18)) t h (funcC Tryz.prog (Tryz.f18).results.toList K)) t) (funcC Tryz.prog (Tryz.f18).results.toList K)))) (blockC 0 (seqC (fun t h => nextK G q_Tell_keep (pathC [true, true, false] (bodyOf Tryz.f18)) (fun t => codeK Tryz.prog C G q_Tell_keep (loopK Tryz.prog C G q_Tell_keep n) (pathC [true, true, true] (bodyOf Tryz.f18)) t h (funcC Tryz.prog (Tryz.f18).results.toList K)) t) (funcC Tryz.prog (Tryz.f18).results.toList K)))))))
def q_Tell_j5 (C : Oracle) (G : Prop → Prop) (n m0 : Nat) (x0 x2 x3 x4 x5 x6 : Value) (h : St) (K : Cont) : Prop := codeK Tryz.prog C G q_Tell_keep (loopK Tryz.prog C G q_Tell_keep m0) (pathC [true, true, false, true, false, false, true, true] (bodyOf Tryz.f18)) (q_Tell_mk x0 x2 x3 x4 x5 x6) h (loopC G q_Tell_keep (fun t h => loopK Tryz.prog C G q_Tell_keep m0 (pathC [true, true, false, true, false, false] (bodyOf Tryz.f18)) t h (blockC 0 (seqC (fun t h => nextK G q_Tell_keep (pathC [true, true, false] (bodyOf Tryz.f18)) (fun t => codeK Tryz.prog C G q_Tell_keep (loopK Tryz.prog C G q_Tell_keep n) (pathC [true, true, true] (bodyOf Tryz.f18)) t h (funcC Tryz.prog (Tryz.f18).results.toList K)) t) (funcC Tryz.prog (Tryz.f18).results.toList K)))) (blockC 0 (seqC (fun t h => nextK G q_Tell_keep (pathC [true, true, false] (bodyOf Tryz.f18)) (fun t => codeK Tryz.prog C G q_Tell_keep (loopK Tryz.prog C G q_Tell_keep n) (pathC [true, true, true] (bodyOf Tryz.f18)) t h (funcC Tryz.prog (Tryz.f18).results.toList K)) t) (funcC Tryz.prog (Tryz.f18).results.toList K))))
theorem q_Tell_j5_eq (C : Oracle) (G : Prop → Prop) (n m0 : Nat) (x0 x2 x3 x4 x5 x6 : Value) (h : St) (K : Cont) : q_Tell_j5 C G n m0 x0 x2 x3 x4 x5 x6 h K = (bindV (binNil .add .other x4 (.int .i64 1)) fun v13 => G (q_Tell_l0 C G n m0 x0 x2 x3 v13 x5 x6 h K)) := by kernel_rfl
theorem q_Tell_l4_eq (C : Oracle) (G : Prop → Prop) (n m0 m1 : Nat) (x0 x2 x3 x4 x5 x6 : Value) (h : St) (K : Cont) : q_Tell_l4 C G n m0 (m1 + 1) x0 x2 x3 x4 x5 x6 h K = (bindV (offV 2 x5) fun v57 => bindV (loadV false 1 v57 h) fun v58 => bindV (lenS v58) fun v59 => bindV (binV .lss .other x6 v59) fun v60 => condK v60 (G (bindV (offV 2 x5) fun v63 => bindV (loadV false 1 v63 h) fun v64 => bindV (idxS 4 v64 x6) fun v66 => bindV (loadV true 4 v66 h) fun v67 => allocE (some [.bool false, .int .u32 0, .slice none 0 0, .bool false]) h fun v7 h14 => storeE 4 v7 v67 h14 fun _ h16 => bindV (offV 0 v7) fun v69 => bindV (loadV false 1 v69 h16) fun v70 => C 27 [v70] h16 fun v71 h17 => buildSliceE 1 1 [.int .u8 0] [(0 * 1, 1, v71)] h17 fun v72 h18 => appendE 1 1 x3 v72 h18 fun v73 h19 => bindV (offV 1 v7) fun v75 => bindV (loadV false 1 v75 h19) fun v76 => bindV (wrapV .u64 v76) fun v77 => C 20 [v77, (.int .i64 4)] h19 fun v78 h20 => appendE 1 1 v73 v78 h20 fun v79 h21 => bindV (offV 3 v7) fun v81 => bindV (loadV false 1 v81 h21) fun v82 => C 27 [v82] h21 fun v83 h22 => buildSliceE 1 1 [.int .u8 0] [(0 * 1, 1, v83)] h22 fun v84 h23 => appendE 1 1 v79 v84 h23 fun v85 h24 => bindV (offV 2 v7) fun v87 => bindV (loadV false 1 v87 h24) fun v88 => bindV (lenS v88) fun v89 => bindV (wrapV .u64 v89) fun v90 => C 20 [v90, (.int .i64 4)] h24 fun v91 h25 => appendE 1 1 v85 v91 h25 fun v92 h26 => bindV (offV 2 v7) fun v94 => bindV (loadV false 1 v94 h26) fun v95 => appendE 1 1 v92 v95 h26 fun v96 h27 => G (bindV (binNil .add .other x6 (.int .i64 1)) fun v62 => G (q_Tell_l4 C G n m0 m1 x0 x2 v96 x4 x5 v62 h27 K)))) (G (q_Tell_j5 C G n m0 x0 x2 x3 x4 x5 x6 h K))) := by kernel_rfl
theorem q_Tell_j3_eq (C : Oracle) (G : Prop → Prop) (n m0 : Nat) (x0 x2 x3 x4 x5 x6 : Value) (h : St) (K : Cont) : q_Tell_j3 C G n m0 x0 x2 x3 x4 x5 x6 h K = (bindV (offV 0 x5) fun v35 => bindV (loadV false 1 v35 h) fun v36 => bindV (wrapV .u8 v36) fun v37 => bindV (offV 1 x5) fun v38 => bindV (loadV false 1 v38 h) fun v39 => bindV (lenT v39) fun v40 => bindV (wrapV .u8 v40) fun v41 => buildSliceE 1 2 [.int .u8 0] [(0 * 1, 1, v37), (1 * 1, 1, v41)] h fun v42 h8 => appendE 1 1 x3 v42 h8 fun v43 h9 => bindV (offV 1 x5) fun v45 => bindV (loadV false 1 v45 h9) fun v46 => toBytesE v46 h9 fun v47 h10 => appendE 1 1 v43 v47 h10 fun v48 h11 => bindV (offV 2 x5) fun v50 => bindV (loadV false 1 v50 h11) fun v51 => bindV (lenS v51) fun v52 => bindV (wrapV .u64 v52) fun v53 => C 20 [v53, (.int .i64 2)] h11 fun v54 h12 => appendE 1 1 v48 v54 h12 fun v55 h13 => G (q_Tell_l4 C G n m0 m0 x0 x2 v55 x4 x5 (.int .i64 0) h13 K)) := by kernel_rfl
theorem q_Tell_j2_eq (C : Oracle) (G : Prop → Prop) (n : Nat) (x0 x2 x3 x4 x5 x6 : Value) (h : St) (K : Cont) : q_Tell_j2 C G n x0 x2 x3 x4 x5 x6 h K = (K x3 h) := by kernel_rfl
theorem q_Tell_j1_eq (C : Oracle) (G : Prop → Prop) (n m0 : Nat) (x0 x2 x3 x4 x5 x6 : Value) (h : St) (K : Cont) : q_Tell_j1 C G n m0 x0 x2 x3 x4 x5 x6 h K = (bindV (offV 2 x5) fun v26 => bindV (loadV false 1 v26 h) fun v27 => bindV (lenS v27) fun v28 => bindV (binNil .gtr .other v28 (.int .i64 65535)) fun v29 => condK v29 (bindV (offV 2 x5) fun v30 => bindV (loadV false 1 v30 h) fun v31 => bindV (cutS 4 v31 none (some (.int .i64 65535))) fun v32 => bindV (offV 2 x5) fun v33 => storeE 1 v33 v32 h fun _ h7 => G (q_Tell_j3 C G n m0 x0 x2 x3 x4 x5 x6 h7 K)) (G (q_Tell_j3 C G n m0 x0 x2 x3 x4 x5 x6 h K))) := by kernel_rfl
theorem q_Tell_l0_eq (C : Oracle) (G : Prop → Prop) (n m0 : Nat) (x0 x2 x3 x4 x5 x6 : Value) (h : St) (K : Cont) : q_Tell_l0 C G n (m0 + 1) x0 x2 x3 x4 x5 x6 h K = (bindV (lenS x0) fun v10 => bindV (binV .lss .other x4 v10) fun v11 => condK v11 (G (bindV (idxS 3 x0 x4) fun v16 => bindV (loadV true 3 v16 h) fun v17 => allocE (some [.int .i64 0, .string ByteArray.empty, .slice none 0 0]) h fun v5 h1 => storeE 3 v5 v17 h1 fun _ h3 => bindV (offV 1 v5) fun v18 => bindV (loadV false 1 v18 h3) fun v19 => bindV (lenT v19) fun v20 => bindV (binNil .gtr .other v20 (.int .i64 255)) fun v21 => condK v21 (bindV (offV 1 v5) fun v22 => bindV (loadV false 1 v22 h3) fun v23 => bindV (cutT v23 none (some (.int .i64 255))) fun v24 => bindV (offV 1 v5) fun v25 => storeE 1 v25 v24 h3 fun _ h5 => G (q_Tell_j1 C G n m0 x0 x2 x3 x4 v5 x6 h5 K)) (G (q_Tell_j1 C G n m0 x0 x2 x3 x4 v5 x6 h3 K)))) (G (q_Tell_j2 C G n x0 x2 x3 x4 x5 x6 h K))) := by kernel_rfl
def q_Tell (C : Oracle) (G : Prop → Prop) (n : Nat) (a0 : Value) (h : St) (K : Cont) : Prop := funcK Tryz.prog C G q_Tell_keep n Tryz.f18 [a0] h K
theorem q_Tell_eq (C : Oracle) (G : Prop → Prop) (n : Nat) (a0 : Value) (h : St) (K : Cont) : q_Tell C G n a0 h K = (G (q_Tell_l0 C G n n a0 (.slice none 0 0) (.slice none 0 0) (.int .i64 0) undef undef h K)) := by kernel_rfl
attribute [irreducible] q_Tell_l0 q_Tell_j1 q_Tell_j2 q_Tell_j3 q_Tell_l4 q_Tell_j5
/- tiltyard/tiltyardref27.yes -/
def q_yes_keep : List Bool := [false, false, true, false]
def q_yes_mk (x2 : Value) : List Value := [unk, unk, x2, unk]
def q_yes (C : Oracle) (G : Prop → Prop) (n : Nat) (a0 : Value) (h : St) (K : Cont) : Prop := funcK Tryz.prog C G q_yes_keep n Tryz.f27 [a0] h K
theorem q_yes_eq (C : Oracle) (G : Prop → Prop) (n : Nat) (a0 : Value) (h : St) (K : Cont) : q_yes C G n a0 h K = (condK a0 (K (.int .u8 1) h) (G (K (.int .u8 0) h))) := by kernel_rfl
/- tiltyard/tiltyardlaw27.answer -/
def w_answer_keep : List Bool := [false, true, true, true, true, false, false, false, false, false, false, false, false, false, false, false, false, false, false, false, false, false, false, false, false, false, false, false, false, false, false, false, false, false, false, false, false, false, false, false]
def w_answer_mk (x1 x2 x3 x4 : Value) : List Value := [unk, x1, x2, x3, x4, unk, unk, unk, unk, unk, unk, unk, unk, unk, unk, unk, unk, unk, unk, unk, unk, unk, unk, unk, unk, unk, unk, unk, unk, unk, unk, unk, unk, unk, unk, unk, unk, unk, unk, unk]
def w_answer_l0 (C : Oracle) (G : Prop → Prop) (n m0 : Nat) (x1 x2 x3 x4 : Value) (h : St) (K : Cont) : Prop := loopK Tryz.prog C G w_answer_keep m0 (pathC [true, true, false, true, false, false] (bodyOf Tryz.f16)) (w_answer_mk x1 x2 x3 x4) h (blockC 0 (seqC (fun t h => nextK G w_answer_keep (pathC [true, true, false] (bodyOf Tryz.f16)) (fun t => codeK Tryz.prog C G w_answer_keep (loopK Tryz.prog C G w_answer_keep n) (pathC [true, true, true] (bodyOf Tryz.f16)) t h (funcC Tryz.prog (Tryz.f16).results.toList K)) t) (funcC Tryz.prog (Tryz.f16).results.toList K)))
def w_answer_j1 (C : Oracle) (G : Prop → Prop) (n : Nat) (x1 x2 x3 x4 : Value) (h : St) (K : Cont) : Prop := codeK Tryz.prog C G w_answer_keep (loopK Tryz.prog C G w_answer_keep n) (pathC [true, true, true] (bodyOf Tryz.f16)) (w_answer_mk x1 x2 x3 x4) h (funcC Tryz.prog (Tryz.f16).results.toList K)
theorem w_answer_j1_eq (C : Oracle) (G : Prop → Prop) (n : Nat) (x1 x2 x3 x4 : Value) (h : St) (K : Cont) : w_answer_j1 C G n x1 x2 x3 x4 h K = (bindV (loadV true 3 x3 h) fun v39 => storeE 3 x2 v39 h fun _ h16 => bindV (loadV true 3 x2 h16) fun r17 => K r17 h16) := by kernel_rfl
theorem w_answer_l0_eq (C : Oracle) (G : Prop → Prop) (n m0 : Nat) (x1 x2 x3 x4 : Value) (h : St) (K : Cont) : w_answer_l0 C G n (m0 + 1) x1 x2 x3 x4 h K = (bindV (offV 2 x1) fun v12 => bindV (loadV false 1 v12 h) fun v13 => bindV (lenS v13) fun v14 => bindV (binV .lss .other x4 v14) fun v15 => condK v15 (G (bindV (offV 2 x1) fun v18 => bindV (loadV false 1 v18 h) fun v19 => bindV (idxS 4 v19 x4) fun v21 => bindV (loadV true 4 v21 h) fun v22 => allocE (some [.bool false, .int .u32 0, .slice none 0 0, .bool false]) h fun v5 h6 => storeE 4 v5 v22 h6 fun _ h8 => bindV (offV 2 x3) fun v23 => bindV (loadV false 1 v23 h8) fun v24 => (True) ∧ bindV (offV 0 v5) fun v25 => bindV (loadV false 1 v25 h8) fun v26 => (True) ∧ bindV (offV 1 v5) fun v27 => bindV (loadV false 1 v27 h8) fun v28 => (True) ∧ buildSliceE 1 0 [.int .u8 0] [] h8 fun v29 h9 => ((loadV false 1 v27 h9 = some v28) ∧ (loadV false 1 v25 h9 = some v26) ∧ (loadV false 1 v23 h9 = some v24) ∧ True) ∧ bindV (offV 2 v5) fun v30 => bindV (loadV false 1 v30 h9) fun v31 => ((loadV false 1 v30 h8 = some v31) ∧ True) ∧ appendE 1 1 v29 v31 h9 fun v32 h10 => (True ∧ (loadV false 1 v27 h10 = some v28) ∧ (loadV false 1 v25 h10 = some v26) ∧ (loadV false 1 v23 h10 = some v24) ∧ True) ∧ bindV (offV 3 v5) fun v33 => bindV (loadV false 1 v33 h10) fun v34 => ((loadV false 1 v33 h9 = some v34) ∧ (loadV false 1 v33 h8 = some v34) ∧ True) ∧ bindV (buildV [.bool false, .int .u32 0, .slice none 0 0, .bool false] (some [(0, 1, v26), (1, 1, v28), (2, 1, v32), (3, 1, v34)])) fun v35 => buildSliceE 4 1 [.bool false, .int .u32 0, .slice none 0 0, .bool false] [(0 * 4, 4, v35)] h10 fun v36 h11 => (True ∧ True ∧ True ∧ True ∧ (loadV false 1 v23 h11 = some v24) ∧ True) ∧ appendE 4 40 v24 v36 h11 fun v37 h12 => (True ∧ True ∧ True ∧ True ∧ True ∧ True) ∧ bindV (offV 2 x3) fun v38 => storeE 1 v38 v37 h12 fun _ h14 => (True ∧ True ∧ True ∧ True ∧ True ∧ True) ∧ G (bindV (binNil .add .other x4 (.int .i64 1)) fun v17 => G (w_answer_l0 C G n m0 x1 x2 x3 v17 h14 K)))) (G (w_answer_j1 C G n x1 x2 x3 x4 h K))) := by kernel_rfl
def w_answer (C : Oracle) (G : Prop → Prop) (n : Nat) (a0 : Value) (h : St) (K : Cont) : Prop := funcK Tryz.prog C G w_answer_keep n Tryz.f16 [a0] h K
theorem w_answer_eq (C : Oracle) (G : Prop → Prop) (n : Nat) (a0 : Value) (h : St) (K : Cont) : w_answer C G n a0 h K = (boxE a0 h fun v1 h1 => allocE (some [.int .i64 0, .string ByteArray.empty, .slice none 0 0]) h1 fun v2 h2 => bindV (offV 0 v1) fun v6 => bindV (loadV false 1 v6 h2) fun v7 => bindV (offV 1 v1) fun v8 => bindV (loadV false 1 v8 h2) fun v9 => bindV (buildV [.int .i64 0, .string ByteArray.empty, .slice none 0 0] (some [(0, 1, v7), (1, 1, v9)])) fun v10 => allocE (some [.int .i64 0, .string ByteArray.empty, .slice none 0 0]) h2 fun v3 h3 => storeE 3 v3 v10 h3 fun _ h5 => G (w_answer_l0 C G n n v1 v2 v3 (.int .i64 0) h5 K)) := by kernel_rfl
attribute [irreducible] w_answer_l0 w_answer_j1
end Go.Proofs.YtnnjcenoihdhfaaGreatDoor
end

section
set_option linter.unusedVariables false
set_option maxRecDepth 100000
namespace Go.Proofs.YtnnjcenoihdhfaaGreatDoor
open Go.Abs
/- tiltyard/tiltyardlaw27.ReelWrites -/
def w_Writes_keep : List Bool := [true, false, true, true, false, false, false, false, false, false, false, false, false, false, false, false, false, false, false, false, false, false, false, false, false, false, false, false, false, false, false, false, false, false, false, false, false, false, false, false, false, false, false, false, false, false, false, false, false, false, false, false, false, false, false, false, false, false, false, false, false, false, false]
def w_Writes_mk (x0 x2 x3 : Value) : List Value := [x0, unk, x2, x3, unk, unk, unk, unk, unk, unk, unk, unk, unk, unk, unk, unk, unk, unk, unk, unk, unk, unk, unk, unk, unk, unk, unk, unk, unk, unk, unk, unk, unk, unk, unk, unk, unk, unk, unk, unk, unk, unk, unk, unk, unk, unk, unk, unk, unk, unk, unk, unk, unk, unk, unk, unk, unk, unk, unk, unk, unk, unk, unk]
def w_Writes_l0 (C : Oracle) (G : Prop → Prop) (n m0 : Nat) (x0 x2 x3 : Value) (h : St) (K : Cont) : Prop := loopK Tryz.prog C G w_Writes_keep m0 (pathC [true, true, false, true, false, false] (bodyOf Tryz.f3)) (w_Writes_mk x0 x2 x3) h (blockC 0 (seqC (fun t h => nextK G w_Writes_keep (pathC [true, true, false] (bodyOf Tryz.f3)) (fun t => codeK Tryz.prog C G w_Writes_keep (loopK Tryz.prog C G w_Writes_keep n) (pathC [true, true, true] (bodyOf Tryz.f3)) t h (funcC Tryz.prog (Tryz.f3).results.toList K)) t) (funcC Tryz.prog (Tryz.f3).results.toList K)))
def w_Writes_j1 (C : Oracle) (G : Prop → Prop) (n : Nat) (x0 x2 x3 : Value) (h : St) (K : Cont) : Prop := codeK Tryz.prog C G w_Writes_keep (loopK Tryz.prog C G w_Writes_keep n) (pathC [true, true, true] (bodyOf Tryz.f3)) (w_Writes_mk x0 x2 x3) h (funcC Tryz.prog (Tryz.f3).results.toList K)
theorem w_Writes_j1_eq (C : Oracle) (G : Prop → Prop) (n : Nat) (x0 x2 x3 : Value) (h : St) (K : Cont) : w_Writes_j1 C G n x0 x2 x3 h K = (C 8 [x0] h fun v41 h4 => C 10 [v41] h4 fun v42 h5 => bindV (extV 0 v42) fun v43 => bindV (extV 1 v42) fun v44 => C 11 [x0] h5 fun v47 h6 => bindV (extV 0 v47) fun v48 => bindV (extV 1 v47) fun v49 => bindV (textOf v43 h6) fun v51 => bindV (textOf v48 h6) fun v53 => bindV (binV .eql .other v51 v53) fun v54 => groupK v54 true [undef, undef, undef] h6 (fun J7 => bindV (binV .eql .other v44 v49) fun v58 => J7 [v44, v49, v58] h6) fun xs8 h9 => G (bindV (pickV v54 (getT xs8 2) (.bool false)) fun v59 => groupK v59 true [undef] h9 (fun J10 => C 12 [] h9 fun v61 h13 => J10 [v61] h13) fun xs11 h12 => G (bindV (pickV v59 (getT xs11 0) (.bool false)) fun v62 => K v62 h12))) := by kernel_rfl
theorem w_Writes_l0_eq (C : Oracle) (G : Prop → Prop) (n m0 : Nat) (x0 x2 x3 : Value) (h : St) (K : Cont) : w_Writes_l0 C G n (m0 + 1) x0 x2 x3 h K = (bindV (lenS x0) fun v13 => bindV (binV .lss .other x3 v13) fun v14 => condK v14 (G (bindV (idxS 4 x0 x3) fun v19 => bindV (offV 3 v19) fun v20 => bindV (loadV false 1 v20 h) fun v21 => bindV (lenS v21) fun v22 => bindV (binNil .gtr .other v22 (.int .i64 70000)) fun v23 => condK v23 (K (.bool true) h) (G (bindV (binNil .add .other x3 (.int .i64 1)) fun v27 => bindV (cutS 4 x0 (some x3) (some v27)) fun v28 => C 8 [v28] h fun v29 h1 => (True) ∧ bindV (idxS 4 v29 (.int .i64 0)) fun v30 => bindV (loadV true 4 v30 h1) fun v31 => (True ∧ True) ∧ C 7 [v31] h1 fun v32 h2 => (True ∧ True) ∧ bindV (idxS 4 x0 x3) fun v35 => bindV (loadV true 4 v35 h2) fun v36 => ((loadV true 4 v35 h1 = some v36) ∧ (loadV true 4 v35 h = some v36) ∧ True) ∧ C 9 [v36] h2 fun v37 h3 => (True ∧ True ∧ True) ∧ bindV (binV .neq .bool v32 v37) fun v38 => condK v38 (K (.bool false) h3) (G (bindV (binNil .add .other x3 (.int .i64 1)) fun v16 => G (w_Writes_l0 C G n m0 x0 x2 v16 h3 K))))))) (G (w_Writes_j1 C G n x0 x2 x3 h K))) := by kernel_rfl
def w_Writes (C : Oracle) (G : Prop → Prop) (n : Nat) (a0 : Value) (h : St) (K : Cont) : Prop := funcK Tryz.prog C G w_Writes_keep n Tryz.f3 [a0] h K
theorem w_Writes_eq (C : Oracle) (G : Prop → Prop) (n : Nat) (a0 : Value) (h : St) (K : Cont) : w_Writes C G n a0 h K = (bindV (lenS a0) fun v9 => bindV (binNil .gtr .other v9 (.int .i64 40)) fun v10 => condK v10 (K (.bool true) h) (G (G (w_Writes_l0 C G n n a0 (.bool false) (.int .i64 0) h K)))) := by kernel_rfl
attribute [irreducible] w_Writes_l0 w_Writes_j1
/- tiltyard/tiltyardlaw27.ReelReads -/
def w_Reads_keep : List Bool := [true, false, true, false, false, false, false, false, false, false, false, false, false, false, false, false, false, false, false, false, false, false, false, false, false, false, false, false, false, false, false, false, false, false, false, false, false, false, false, false]
def w_Reads_mk (x0 x2 : Value) : List Value := [x0, unk, x2, unk, unk, unk, unk, unk, unk, unk, unk, unk, unk, unk, unk, unk, unk, unk, unk, unk, unk, unk, unk, unk, unk, unk, unk, unk, unk, unk, unk, unk, unk, unk, unk, unk, unk, unk, unk, unk]
def w_Reads (C : Oracle) (G : Prop → Prop) (n : Nat) (a0 : Value) (h : St) (K : Cont) : Prop := funcK Tryz.prog C G w_Reads_keep n Tryz.f4 [a0] h K
theorem w_Reads_eq (C : Oracle) (G : Prop → Prop) (n : Nat) (a0 : Value) (h : St) (K : Cont) : w_Reads C G n a0 h K = (bindV (lenS a0) fun v10 => bindV (binNil .gtr .other v10 (.int .i64 5000)) fun v11 => condK v11 (K (.bool true) h) (G (C 13 [a0] h fun v14 h1 => bindV (extV 0 v14) fun v15 => bindV (extV 1 v14) fun v16 => bindV (extV 2 v14) fun v17 => C 14 [a0] h1 fun v20 h2 => bindV (extV 0 v20) fun v21 => bindV (extV 1 v20) fun v22 => bindV (extV 2 v20) fun v23 => C 15 [v15, v21] h2 fun v26 h3 => groupK v26 true [undef, undef, undef] h3 (fun J4 => bindV (binV .eql .other v16 v22) fun v30 => J4 [v16, v22, v30] h3) fun xs5 h6 => G (bindV (pickV v26 (getT xs5 2) (.bool false)) fun v31 => groupK v31 true [undef, undef, undef] h6 (fun J7 => bindV (binV .eql .other v17 v23) fun v35 => J7 [v17, v23, v35] h6) fun xs8 h9 => G (bindV (pickV v31 (getT xs8 2) (.bool false)) fun v36 => groupK v36 true [undef] h9 (fun J10 => C 12 [] h9 fun v38 h13 => J10 [v38] h13) fun xs11 h12 => G (bindV (pickV v36 (getT xs11 0) (.bool false)) fun v39 => K v39 h12)))))) := by kernel_rfl
/- tiltyard/tiltyardlaw27.ReelTells -/
def w_Tells_keep : List Bool := [true, false, true, true, true, true, false, false, false, false, false, false, false, false, false, false, false, false, false, false, false, false, false, false, false, false, false, false, false, false, false, false, false, false, false, false, false, false, false, false, false, false, false, false, false, false, false, false, false, false, false, false, false, false, false, false, false, false, false, false, false, false, false, false, false, false, false, false, false, false]
def w_Tells_mk (x0 x2 x3 x4 x5 : Value) : List Value := [x0, unk, x2, x3, x4, x5, unk, unk, unk, unk, unk, unk, unk, unk, unk, unk, unk, unk, unk, unk, unk, unk, unk, unk, unk, unk, unk, unk, unk, unk, unk, unk, unk, unk, unk, unk, unk, unk, unk, unk, unk, unk, unk, unk, unk, unk, unk, unk, unk, unk, unk, unk, unk, unk, unk, unk, unk, unk, unk, unk, unk, unk, unk, unk, unk, unk, unk, unk, unk, unk]
def w_Tells_l0 (C : Oracle) (G : Prop → Prop) (n m0 : Nat) (x0 x2 x3 x4 x5 : Value) (h : St) (K : Cont) : Prop := loopK Tryz.prog C G w_Tells_keep m0 (pathC [true, true, true, false, true, false, false] (bodyOf Tryz.f5)) (w_Tells_mk x0 x2 x3 x4 x5) h (blockC 0 (seqC (fun t h => nextK G w_Tells_keep (pathC [true, true, true, false] (bodyOf Tryz.f5)) (fun t => codeK Tryz.prog C G w_Tells_keep (loopK Tryz.prog C G w_Tells_keep n) (pathC [true, true, true, true] (bodyOf Tryz.f5)) t h (funcC Tryz.prog (Tryz.f5).results.toList K)) t) (funcC Tryz.prog (Tryz.f5).results.toList K)))
def w_Tells_l1 (C : Oracle) (G : Prop → Prop) (n m0 m1 : Nat) (x0 x2 x3 x4 x5 : Value) (h : St) (K : Cont) : Prop := loopK Tryz.prog C G w_Tells_keep m1 (pathC [true, true, true, false, true, false, false, true, false, false, true, false, true, false, false] (bodyOf Tryz.f5)) (w_Tells_mk x0 x2 x3 x4 x5) h (blockC 2 (seqC (fun t h => nextK G w_Tells_keep (pathC [true, true, true, false, true, false, false, true, false, false, true, false] (bodyOf Tryz.f5)) (fun t => codeK Tryz.prog C G w_Tells_keep (loopK Tryz.prog C G w_Tells_keep m0) (pathC [true, true, true, false, true, false, false, true, false, false, true, true] (bodyOf Tryz.f5)) t h (blockC 1 (seqC (fun t h => nextK G w_Tells_keep (pathC [true, true, true, false, true, false, false, true, false] (bodyOf Tryz.f5)) (fun t => codeK Tryz.prog C G w_Tells_keep (loopK Tryz.prog C G w_Tells_keep m0) (pathC [true, true, true, false, true, false, false, true, true] (bodyOf Tryz.f5)) t h (loopC G w_Tells_keep (fun t h => loopK Tryz.prog C G w_Tells_keep m0 (pathC [true, true, true, false, true, false, false] (bodyOf Tryz.f5)) t h (blockC 0 (seqC (fun t h => nextK G w_Tells_keep (pathC [true, true, true, false] (bodyOf Tryz.f5)) (fun t => codeK Tryz.prog C G w_Tells_keep (loopK Tryz.prog C G w_Tells_keep n) (pathC [true, true, true, true] (bodyOf Tryz.f5)) t h (funcC Tryz.prog (Tryz.f5).results.toList K)) t) (funcC Tryz.prog (Tryz.f5).results.toList K)))) (blockC 0 (seqC (fun t h => nextK G w_Tells_keep (pathC [true, true, true, false] (bodyOf Tryz.f5)) (fun t => codeK Tryz.prog C G w_Tells_keep (loopK Tryz.prog C G w_Tells_keep n) (pathC [true, true, true, true] (bodyOf Tryz.f5)) t h (funcC Tryz.prog (Tryz.f5).results.toList K)) t) (funcC Tryz.prog (Tryz.f5).results.toList K))))) t) (loopC G w_Tells_keep (fun t h => loopK Tryz.prog C G w_Tells_keep m0 (pathC [true, true, true, false, true, false, false] (bodyOf Tryz.f5)) t h (blockC 0 (seqC (fun t h => nextK G w_Tells_keep (pathC [true, true, true, false] (bodyOf Tryz.f5)) (fun t => codeK Tryz.prog C G w_Tells_keep (loopK Tryz.prog C G w_Tells_keep n) (pathC [true, true, true, true] (bodyOf Tryz.f5)) t h (funcC Tryz.prog (Tryz.f5).results.toList K)) t) (funcC Tryz.prog (Tryz.f5).results.toList K)))) (blockC 0 (seqC (fun t h => nextK G w_Tells_keep (pathC [true, true, true, false] (bodyOf Tryz.f5)) (fun t => codeK Tryz.prog C G w_Tells_keep (loopK Tryz.prog C G w_Tells_keep n) (pathC [true, true, true, true] (bodyOf Tryz.f5)) t h (funcC Tryz.prog (Tryz.f5).results.toList K)) t) (funcC Tryz.prog (Tryz.f5).results.toList K))))))) t) (blockC 1 (seqC (fun t h => nextK G w_Tells_keep (pathC [true, true, true, false, true, false, false, true, false] (bodyOf Tryz.f5)) (fun t => codeK Tryz.prog C G w_Tells_keep (loopK Tryz.prog C G w_Tells_keep m0) (pathC [true, true, true, false, true, false, false, true, true] (bodyOf Tryz.f5)) t h (loopC G w_Tells_keep (fun t h => loopK Tryz.prog C G w_Tells_keep m0 (pathC [true, true, true, false, true, false, false] (bodyOf Tryz.f5)) t h (blockC 0 (seqC (fun t h => nextK G w_Tells_keep (pathC [true, true, true, false] (bodyOf Tryz.f5)) (fun t => codeK Tryz.prog C G w_Tells_keep (loopK Tryz.prog C G w_Tells_keep n) (pathC [true, true, true, true] (bodyOf Tryz.f5)) t h (funcC Tryz.prog (Tryz.f5).results.toList K)) t) (funcC Tryz.prog (Tryz.f5).results.toList K)))) (blockC 0 (seqC (fun t h => nextK G w_Tells_keep (pathC [true, true, true, false] (bodyOf Tryz.f5)) (fun t => codeK Tryz.prog C G w_Tells_keep (loopK Tryz.prog C G w_Tells_keep n) (pathC [true, true, true, true] (bodyOf Tryz.f5)) t h (funcC Tryz.prog (Tryz.f5).results.toList K)) t) (funcC Tryz.prog (Tryz.f5).results.toList K))))) t) (loopC G w_Tells_keep (fun t h => loopK Tryz.prog C G w_Tells_keep m0 (pathC [true, true, true, false, true, false, false] (bodyOf Tryz.f5)) t h (blockC 0 (seqC (fun t h => nextK G w_Tells_keep (pathC [true, true, true, false] (bodyOf Tryz.f5)) (fun t => codeK Tryz.prog C G w_Tells_keep (loopK Tryz.prog C G w_Tells_keep n) (pathC [true, true, true, true] (bodyOf Tryz.f5)) t h (funcC Tryz.prog (Tryz.f5).results.toList K)) t) (funcC Tryz.prog (Tryz.f5).results.toList K)))) (blockC 0 (seqC (fun t h => nextK G w_Tells_keep (pathC [true, true, true, false] (bodyOf Tryz.f5)) (fun t => codeK Tryz.prog C G w_Tells_keep (loopK Tryz.prog C G w_Tells_keep n) (pathC [true, true, true, true] (bodyOf Tryz.f5)) t h (funcC Tryz.prog (Tryz.f5).results.toList K)) t) (funcC Tryz.prog (Tryz.f5).results.toList K))))))))
def w_Tells_j2 (C : Oracle) (G : Prop → Prop) (n : Nat) (x0 x2 x3 x4 x5 : Value) (h : St) (K : Cont) : Prop := codeK Tryz.prog C G w_Tells_keep (loopK Tryz.prog C G w_Tells_keep n) (pathC [true, true, true, true] (bodyOf Tryz.f5)) (w_Tells_mk x0 x2 x3 x4 x5) h (funcC Tryz.prog (Tryz.f5).results.toList K)
def w_Tells_j3 (C : Oracle) (G : Prop → Prop) (n m0 : Nat) (x0 x2 x3 x4 x5 : Value) (h : St) (K : Cont) : Prop := codeK Tryz.prog C G w_Tells_keep (loopK Tryz.prog C G w_Tells_keep m0) (pathC [true, true, true, false, true, false, false, true, false, false, true, true] (bodyOf Tryz.f5)) (w_Tells_mk x0 x2 x3 x4 x5) h (blockC 1 (seqC (fun t h => nextK G w_Tells_keep (pathC [true, true, true, false, true, false, false, true, false] (bodyOf Tryz.f5)) (fun t => codeK Tryz.prog C G w_Tells_keep (loopK Tryz.prog C G w_Tells_keep m0) (pathC [true, true, true, false, true, false, false, true, true] (bodyOf Tryz.f5)) t h (loopC G w_Tells_keep (fun t h => loopK Tryz.prog C G w_Tells_keep m0 (pathC [true, true, true, false, true, false, false] (bodyOf Tryz.f5)) t h (blockC 0 (seqC (fun t h => nextK G w_Tells_keep (pathC [true, true, true, false] (bodyOf Tryz.f5)) (fun t => codeK Tryz.prog C G w_Tells_keep (loopK Tryz.prog C G w_Tells_keep n) (pathC [true, true, true, true] (bodyOf Tryz.f5)) t h (funcC Tryz.prog (Tryz.f5).results.toList K)) t) (funcC Tryz.prog (Tryz.f5).results.toList K)))) (blockC 0 (seqC (fun t h => nextK G w_Tells_keep (pathC [true, true, true, false] (bodyOf Tryz.f5)) (fun t => codeK Tryz.prog C G w_Tells_keep (loopK Tryz.prog C G w_Tells_keep n) (pathC [true, true, true, true] (bodyOf Tryz.f5)) t h (funcC Tryz.prog (Tryz.f5).results.toList K)) t) (funcC Tryz.prog (Tryz.f5).results.toList K))))) t) (loopC G w_Tells_keep (fun t h => loopK Tryz.prog C G w_Tells_keep m0 (pathC [true, true, true, false, true, false, false] (bodyOf Tryz.f5)) t h (blockC 0 (seqC (fun t h => nextK G w_Tells_keep (pathC [true, true, true, false] (bodyOf Tryz.f5)) (fun t => codeK Tryz.prog C G w_Tells_keep (loopK Tryz.prog C G w_Tells_keep n) (pathC [true, true, true, true] (bodyOf Tryz.f5)) t h (funcC Tryz.prog (Tryz.f5).results.toList K)) t) (funcC Tryz.prog (Tryz.f5).results.toList K)))) (blockC 0 (seqC (fun t h => nextK G w_Tells_keep (pathC [true, true, true, false] (bodyOf Tryz.f5)) (fun t => codeK Tryz.prog C G w_Tells_keep (loopK Tryz.prog C G w_Tells_keep n) (pathC [true, true, true, true] (bodyOf Tryz.f5)) t h (funcC Tryz.prog (Tryz.f5).results.toList K)) t) (funcC Tryz.prog (Tryz.f5).results.toList K))))))
def w_Tells_j4 (C : Oracle) (G : Prop → Prop) (n m0 : Nat) (x0 x2 x3 x4 x5 : Value) (h : St) (K : Cont) : Prop := codeK Tryz.prog C G w_Tells_keep (loopK Tryz.prog C G w_Tells_keep m0) (pathC [true, true, true, false, true, false, false, true, true] (bodyOf Tryz.f5)) (w_Tells_mk x0 x2 x3 x4 x5) h (loopC G w_Tells_keep (fun t h => loopK Tryz.prog C G w_Tells_keep m0 (pathC [true, true, true, false, true, false, false] (bodyOf Tryz.f5)) t h (blockC 0 (seqC (fun t h => nextK G w_Tells_keep (pathC [true, true, true, false] (bodyOf Tryz.f5)) (fun t => codeK Tryz.prog C G w_Tells_keep (loopK Tryz.prog C G w_Tells_keep n) (pathC [true, true, true, true] (bodyOf Tryz.f5)) t h (funcC Tryz.prog (Tryz.f5).results.toList K)) t) (funcC Tryz.prog (Tryz.f5).results.toList K)))) (blockC 0 (seqC (fun t h => nextK G w_Tells_keep (pathC [true, true, true, false] (bodyOf Tryz.f5)) (fun t => codeK Tryz.prog C G w_Tells_keep (loopK Tryz.prog C G w_Tells_keep n) (pathC [true, true, true, true] (bodyOf Tryz.f5)) t h (funcC Tryz.prog (Tryz.f5).results.toList K)) t) (funcC Tryz.prog (Tryz.f5).results.toList K))))
theorem w_Tells_j4_eq (C : Oracle) (G : Prop → Prop) (n m0 : Nat) (x0 x2 x3 x4 x5 : Value) (h : St) (K : Cont) : w_Tells_j4 C G n m0 x0 x2 x3 x4 x5 h K = (bindV (binNil .add .other x4 (.int .i64 1)) fun v14 => G (w_Tells_l0 C G n m0 x0 x2 x3 v14 x5 h K)) := by kernel_rfl
theorem w_Tells_j3_eq (C : Oracle) (G : Prop → Prop) (n m0 : Nat) (x0 x2 x3 x4 x5 : Value) (h : St) (K : Cont) : w_Tells_j3 C G n m0 x0 x2 x3 x4 x5 h K = (bindV (idxS 3 x0 x4) fun v55 => bindV (loadV true 3 v55 h) fun v56 => C 16 [v56] h fun v57 h10 => buildSliceE 3 1 [.int .i64 0, .string ByteArray.empty, .slice none 0 0] [(0 * 3, 3, v57)] h10 fun v58 h11 => appendE 3 48 x3 v58 h11 fun v59 h12 => G (w_Tells_j4 C G n m0 x0 x2 v59 x4 x5 h12 K)) := by kernel_rfl
theorem w_Tells_j2_eq (C : Oracle) (G : Prop → Prop) (n : Nat) (x0 x2 x3 x4 x5 : Value) (h : St) (K : Cont) : w_Tells_j2 C G n x0 x2 x3 x4 x5 h K = (C 17 [x3] h fun v61 h4 => (True) ∧ bindV (textOf v61 h4) fun v62 => (True ∧ True) ∧ C 18 [x0] h4 fun v64 h5 => ((textOf v61 h5 = some v62) ∧ True) ∧ bindV (textOf v64 h5) fun v65 => (True ∧ True ∧ True) ∧ bindV (binV .eql .other v62 v65) fun v66 => groupK v66 true [undef] h5 (fun J6 => C 12 [] h5 fun v68 h9 => (True ∧ True ∧ True) ∧ J6 [v68] h9) fun xs7 h8 => G (bindV (pickV v66 (getT xs7 0) (.bool false)) fun v69 => K v69 h8)) := by kernel_rfl
theorem w_Tells_l1_eq (C : Oracle) (G : Prop → Prop) (n m0 m1 : Nat) (x0 x2 x3 x4 x5 : Value) (h : St) (K : Cont) : w_Tells_l1 C G n m0 (m1 + 1) x0 x2 x3 x4 x5 h K = (bindV (idxS 3 x0 x4) fun v34 => bindV (offV 2 v34) fun v35 => bindV (loadV false 1 v35 h) fun v36 => bindV (lenS v36) fun v37 => bindV (binV .lss .other x5 v37) fun v38 => condK v38 (G (bindV (idxS 3 x0 x4) fun v43 => bindV (offV 2 v43) fun v44 => bindV (loadV false 1 v44 h) fun v45 => bindV (idxS 4 v45 x5) fun v47 => bindV (offV 2 v47) fun v48 => bindV (loadV false 1 v48 h) fun v49 => bindV (lenS v49) fun v50 => bindV (binNil .gtr .other v50 (.int .i64 3000)) fun v51 => condK v51 (K (.bool true) h) (G (bindV (binNil .add .other x5 (.int .i64 1)) fun v40 => G (w_Tells_l1 C G n m0 m1 x0 x2 x3 x4 v40 h K))))) (G (w_Tells_j3 C G n m0 x0 x2 x3 x4 x5 h K))) := by kernel_rfl
theorem w_Tells_l0_eq (C : Oracle) (G : Prop → Prop) (n m0 : Nat) (x0 x2 x3 x4 x5 : Value) (h : St) (K : Cont) : w_Tells_l0 C G n (m0 + 1) x0 x2 x3 x4 x5 h K = (bindV (lenS x0) fun v11 => bindV (binV .lss .other x4 v11) fun v12 => condK v12 (G (bindV (idxS 3 x0 x4) fun v17 => bindV (offV 2 v17) fun v18 => bindV (loadV false 1 v18 h) fun v19 => bindV (lenS v19) fun v20 => bindV (binNil .gtr .other v20 (.int .i64 20)) fun v21 => groupK v21 false [undef, undef, undef, undef, undef, undef, undef] h (fun J1 => bindV (idxS 3 x0 x4) fun v25 => bindV (offV 1 v25) fun v26 => bindV (loadV false 1 v26 h) fun v27 => bindV (lenT v27) fun v28 => bindV (binNil .gtr .other v28 (.int .i64 3000)) fun v29 => J1 [x0, x4, v25, v26, v27, v28, v29] h) fun xs2 h3 => G (bindV (pickV v21 (.bool true) (getT xs2 6)) fun v30 => condK v30 (K (.bool true) h3) (G (G (w_Tells_l1 C G n m0 m0 x0 x2 x3 x4 (.int .i64 0) h3 K)))))) (G (w_Tells_j2 C G n x0 x2 x3 x4 x5 h K))) := by kernel_rfl
def w_Tells (C : Oracle) (G : Prop → Prop) (n : Nat) (a0 : Value) (h : St) (K : Cont) : Prop := funcK Tryz.prog C G w_Tells_keep n Tryz.f5 [a0] h K
theorem w_Tells_eq (C : Oracle) (G : Prop → Prop) (n : Nat) (a0 : Value) (h : St) (K : Cont) : w_Tells C G n a0 h K = (bindV (lenS a0) fun v7 => bindV (binNil .gtr .other v7 (.int .i64 20)) fun v8 => condK v8 (K (.bool true) h) (G (G (w_Tells_l0 C G n n a0 (.bool false) (.slice none 0 0) (.int .i64 0) undef h K)))) := by kernel_rfl
attribute [irreducible] w_Tells_l0 w_Tells_l1 w_Tells_j2 w_Tells_j3 w_Tells_j4
/- tiltyard/tiltyardlaw27.ReelBack -/
def w_Back_keep : List Bool := [true, true, false, false, true, true, false, false, false, false, false, true, false, false, false, false, false, false, false, false, false, false, false, false, false, false, false, false, false, false, false, false, false, false, false, false, false, false, false, false, false, false, false, false, false, false, false, false, false, false, false, false, false, false, false, false, false, false, false, false, false, false, false, false, false, false, false, false, false, false, false, false, false, false, false, false, false, false, false, false, false, false, false, false, false, false, false, false, false, false]
def w_Back_mk (x0 x1 x4 x5 x11 : Value) : List Value := [x0, x1, unk, unk, x4, x5, unk, unk, unk, unk, unk, x11, unk, unk, unk, unk, unk, unk, unk, unk, unk, unk, unk, unk, unk, unk, unk, unk, unk, unk, unk, unk, unk, unk, unk, unk, unk, unk, unk, unk, unk, unk, unk, unk, unk, unk, unk, unk, unk, unk, unk, unk, unk, unk, unk, unk, unk, unk, unk, unk, unk, unk, unk, unk, unk, unk, unk, unk, unk, unk, unk, unk, unk, unk, unk, unk, unk, unk, unk, unk, unk, unk, unk, unk, unk, unk, unk, unk, unk, unk]
def w_Back_l0 (C : Oracle) (G : Prop → Prop) (n m0 : Nat) (x0 x1 x4 x5 x11 : Value) (h : St) (K : Cont) : Prop := loopK Tryz.prog C G w_Back_keep m0 (pathC [true, true, false, true, false, false] (bodyOf Tryz.f6)) (w_Back_mk x0 x1 x4 x5 x11) h (blockC 0 (seqC (fun t h => nextK G w_Back_keep (pathC [true, true, false] (bodyOf Tryz.f6)) (fun t => codeK Tryz.prog C G w_Back_keep (loopK Tryz.prog C G w_Back_keep n) (pathC [true, true, true] (bodyOf Tryz.f6)) t h (funcC Tryz.prog (Tryz.f6).results.toList K)) t) (funcC Tryz.prog (Tryz.f6).results.toList K)))
def w_Back_j1 (C : Oracle) (G : Prop → Prop) (n : Nat) (x0 x1 x4 x5 x11 : Value) (h : St) (K : Cont) : Prop := codeK Tryz.prog C G w_Back_keep (loopK Tryz.prog C G w_Back_keep n) (pathC [true, true, true] (bodyOf Tryz.f6)) (w_Back_mk x0 x1 x4 x5 x11) h (funcC Tryz.prog (Tryz.f6).results.toList K)
def w_Back_j2 (C : Oracle) (G : Prop → Prop) (n : Nat) (x0 x1 x4 x5 x11 : Value) (h : St) (K : Cont) : Prop := codeK Tryz.prog C G w_Back_keep (loopK Tryz.prog C G w_Back_keep n) (pathC [true, true, true, true, true] (bodyOf Tryz.f6)) (w_Back_mk x0 x1 x4 x5 x11) h (funcC Tryz.prog (Tryz.f6).results.toList K)
theorem w_Back_j2_eq (C : Oracle) (G : Prop → Prop) (n : Nat) (x0 x1 x4 x5 x11 : Value) (h : St) (K : Cont) : w_Back_j2 C G n x0 x1 x4 x5 x11 h K = (C 13 [x1] h fun v61 h11 => bindV (extV 0 v61) fun v62 => bindV (extV 1 v61) fun v63 => bindV (extV 2 v61) fun v64 => bindV (binNil .eql .other v64 (.int .i64 0)) fun v66 => condK v66 (C 10 [v62] h11 fun v69 h12 => bindV (extV 0 v69) fun v70 => bindV (extV 1 v69) fun v71 => bindV (binNil .eql .other v71 (.int .i64 0)) fun v73 => groupK v73 true [undef, undef, undef, undef, undef] h12 (fun J13 => bindV (textOf v70 h12) fun v76 => bindV (textOf x1 h12) fun v78 => bindV (binV .eql .other v76 v78) fun v79 => J13 [v70, v76, x1, v78, v79] h12) fun xs14 h15 => G (bindV (pickV v73 (getT xs14 4) (.bool false)) fun v80 => groupK v80 true [undef] h15 (fun J16 => C 12 [] h15 fun v82 h19 => J16 [v82] h19) fun xs17 h18 => G (bindV (pickV v80 (getT xs17 0) (.bool false)) fun v83 => K v83 h18))) (G (bindV (lenS v62) fun v85 => bindV (binNil .eql .other v85 (.int .i64 0)) fun v86 => groupK v86 true [undef] h11 (fun J20 => C 12 [] h11 fun v88 h23 => J20 [v88] h23) fun xs21 h22 => G (bindV (pickV v86 (getT xs21 0) (.bool false)) fun v89 => K v89 h22)))) := by kernel_rfl
theorem w_Back_j1_eq (C : Oracle) (G : Prop → Prop) (n : Nat) (x0 x1 x4 x5 x11 : Value) (h : St) (K : Cont) : w_Back_j1 C G n x0 x1 x4 x5 x11 h K = (C 8 [x0] h fun v39 h4 => C 10 [v39] h4 fun v40 h5 => bindV (extV 0 v40) fun v41 => bindV (extV 1 v40) fun v42 => bindV (binNil .eql .other v42 (.int .i64 0)) fun v44 => condK v44 (C 13 [v41] h5 fun v47 h6 => bindV (extV 0 v47) fun v48 => bindV (extV 1 v47) fun v49 => bindV (extV 2 v47) fun v50 => bindV (binNil .neq .other v50 (.int .i64 0)) fun v52 => groupK v52 false [undef, undef, undef, undef] h6 (fun J7 => C 15 [v48, x0] h6 fun v56 h10 => bindV (unV .not v56) fun v57 => J7 [v48, x0, v56, v57] h10) fun xs8 h9 => G (bindV (pickV v52 (.bool true) (getT xs8 3)) fun v58 => condK v58 (K (.bool false) h9) (G (w_Back_j2 C G n x0 x1 x4 x5 x11 h9 K)))) (G (w_Back_j2 C G n x0 x1 x4 x5 x11 h5 K))) := by kernel_rfl
theorem w_Back_l0_eq (C : Oracle) (G : Prop → Prop) (n m0 : Nat) (x0 x1 x4 x5 x11 : Value) (h : St) (K : Cont) : w_Back_l0 C G n (m0 + 1) x0 x1 x4 x5 x11 h K = (bindV (lenS x0) fun v26 => bindV (binV .lss .other x5 v26) fun v27 => condK v27 (G (bindV (idxS 4 x0 x5) fun v32 => bindV (offV 3 v32) fun v33 => bindV (loadV false 1 v33 h) fun v34 => bindV (lenS v34) fun v35 => bindV (binNil .gtr .other v35 (.int .i64 70000)) fun v36 => condK v36 (K (.bool true) h) (G (bindV (binNil .add .other x5 (.int .i64 1)) fun v29 => G (w_Back_l0 C G n m0 x0 x1 x4 v29 x11 h K))))) (G (w_Back_j1 C G n x0 x1 x4 x5 x11 h K))) := by kernel_rfl
def w_Back (C : Oracle) (G : Prop → Prop) (n : Nat) (a0 a1 : Value) (h : St) (K : Cont) : Prop := funcK Tryz.prog C G w_Back_keep n Tryz.f6 [a0, a1] h K
theorem w_Back_eq (C : Oracle) (G : Prop → Prop) (n : Nat) (a0 a1 : Value) (h : St) (K : Cont) : w_Back C G n a0 a1 h K = (bindV (lenS a0) fun v17 => bindV (binNil .gtr .other v17 (.int .i64 40)) fun v18 => groupK v18 false [undef, undef, undef] h (fun J1 => bindV (lenS a1) fun v21 => bindV (binNil .gtr .other v21 (.int .i64 5000)) fun v22 => J1 [a1, v21, v22] h) fun xs2 h3 => G (bindV (pickV v18 (.bool true) (getT xs2 2)) fun v23 => condK v23 (K (.bool true) h3) (G (G (w_Back_l0 C G n n a0 a1 (.bool false) (.int .i64 0) undef h3 K))))) := by kernel_rfl
attribute [irreducible] w_Back_l0 w_Back_j1 w_Back_j2
end Go.Proofs.YtnnjcenoihdhfaaGreatDoor
end

section
set_option linter.unusedSimpArgs false
set_option linter.unusedVariables false
set_option maxHeartbeats 4000000
namespace Go.Proofs.YtnnjcenoihdhfaaGreatDoor
open Go.Abs Go.IntWalk

theorem mixed : Tryz.prog.follows .mixedOrders = true := by kernel_rfl
theorem u64_wrap (x : Nat) (h : x < 18446744073709551616) : IntKind.u64.wrap (x : Int) = (x : Int) := u64_in _ (by omega)
theorem inc {i : Nat} (h : i ≤ 1000000000000) : IntKind.i64.wrap ((i : Int) + 1) = ((i + 1 : Nat) : Int) := by rw [i64_in _ (by omega)]; omega
def bc (b : Nat) : Value := .int .u8 b
theorem one_bc : ∀ l : List Nat, allOne (l.map bc) = true
  | [] => rfl
  | b :: l => by simp [bc, one_bc l]
theorem u8_wrap (x : Nat) : IntKind.u8.wrap (x : Int) = ((x % 256 : Nat) : Int) := by rw [IntKind.wrap_u8]; omega
theorem shr_nat (s : Shp) (n k : Nat) (h : k ≤ 8) : binV .shr s (.int .u64 n) (.int .i64 ((8 * k : Nat) : Int)) = some (.int .u64 ((n / 256 ^ k : Nat) : Int)) := by
  have h1 : ¬ (((8 * k : Nat) : Int) < 0) := by omega
  have h2 : min (8 * k) 64 = 8 * k := by omega
  have h3 : (2 : Int) ^ (8 * k) = ((256 ^ k : Nat) : Int) := by
    rw [Int.pow_mul]; norm_cast
  simp only [binV, isShift, shiftV, h1, if_false, Int.toNat_natCast, IntKind.bits, h2, h3]
  congr 2
  rw [Int.fdiv_eq_ediv_of_nonneg _ (Int.natCast_nonneg _)]
  norm_cast
/-- A number's bytes, the highest first. -/
def putB (n : Nat) : Nat → List Nat
  | 0 => []
  | w + 1 => (n / 256 ^ w % 256) :: putB n w
theorem putB_length (n : Nat) : ∀ w, (putB n w).length = w
  | 0 => rfl
  | w + 1 => by simp [putB, putB_length n w]
/-- Bytes as a text. -/
def bytesText (l : List Nat) : ByteArray := ⟨(l.map UInt8.ofNat).toArray⟩
def rowC (l : List Nat) (i : Nat) : List Value := [bc (l[i]?.getD 0)]
theorem bytesOf_map : ∀ l : List Nat, bytesOf (l.map bc) = some (l.map UInt8.ofNat)
  | [] => rfl
  | b :: l => by
    have := bytesOf_map l
    simp only [List.map_cons, bytesOf, this]
    rfl
theorem takeN_rows {cs : List Value} {off n : Nat} {x : Nat → Value} (h : ∀ i, i < n → takeN cs (off + i) 1 = some [x i]) (hn : 0 < n) : takeN cs off n = some ((List.range n).map x) := by
  have hl : off + n ≤ cs.length := by have := (takeN_some (h (n - 1) (by omega))).1; omega
  unfold takeN
  rw [if_pos hl]
  congr 1
  apply List.ext_getElem?
  intro j
  rw [List.getElem?_take]
  split
  · rename_i hj
    have := takeN_get (h j hj) (j := 0) (by omega)
    rw [List.getElem?_drop]
    simpa [hj] using this
  · rename_i hj
    rw [List.getElem?_eq_none (by simp; omega)]
theorem range_map (l : List Nat) : (List.range l.length).map (fun i => bc (l[i]?.getD 0)) = l.map bc := by
  apply List.ext_getElem?
  intro j
  by_cases hj : j < l.length
  · simp [hj]
  · simp [hj]
theorem text_slice {B : Nat → Prop} {h : St} {v : Value} {l : List Nat} (s : SliceAt B h v l.length 1 (rowC l)) : textOf v h = some (.string (bytesText l)) := by
  rcases s with ⟨rfl, hl⟩ | ⟨b, off, sp, c, rfl, _, hs⟩
  · have : l = [] := List.eq_nil_of_length_eq_zero hl
    subst this
    rfl
  · cases hn : l.length with
    | zero =>
      have : l = [] := List.eq_nil_of_length_eq_zero hn
      subst this
      rfl
    | succ n =>
      obtain ⟨_, _, cs, own, g3, g4⟩ := hs (by omega)
      have := takeN_rows (cs := cs) (off := off) (n := n + 1) (x := fun i => bc (l[i]?.getD 0)) (fun i hi => by have := g4 i (by omega); rwa [Nat.mul_one] at this) (by omega)
      rw [← hn, range_map, hn] at this
      simp only [textOf, g3, this, Option.bind_some, bytesOf_map]
      rfl
theorem map_flat (l : List Nat) : l.map bc = l.flatMap fun b => [bc b] := by
  induction l with
  | nil => rfl
  | cons x l ih => rw [List.map_cons, List.flatMap_cons, ih]; rfl
theorem own_bytes {B : Nat → Prop} {h : St} {v : Value} {l : List Nat} (s : OwnS B h v 1 (l.map bc) l.length) : SliceAt B h v l.length 1 (rowC l) := by
  rw [map_flat] at s
  exact s.slice (fun _ _ => rfl) (fun i x hx => by simp [rowC, hx])
theorem newCells_bytes {B : Nat → Prop} {h : St} {v : Value} {l : List Nat} (s : SliceAt B h v l.length 1 (rowC l)) : newCells 1 v h = some (l.map bc, l.length) := by
  rcases s with ⟨rfl, hl⟩ | ⟨b, off, sp, c, rfl, _, hs⟩
  · have : l = [] := List.eq_nil_of_length_eq_zero hl
    subst this
    rfl
  · cases hn : l.length with
    | zero =>
      have : l = [] := List.eq_nil_of_length_eq_zero hn
      subst this
      rfl
    | succ n =>
      obtain ⟨_, _, cs, own, g3, g4⟩ := hs (by omega)
      have := takeN_rows (cs := cs) (off := off) (n := n + 1) (x := fun i => bc (l[i]?.getD 0)) (fun i hi => by have := g4 i (by omega); rwa [Nat.mul_one] at this) (by omega)
      rw [← hn, range_map, hn] at this
      simp only [newCells, g3, Nat.mul_one, this, Option.map_some]
/-- 'append([]byte{}, b...)' -/
theorem append_new {B : Nat → Prop} {h : St} {v : Value} {l : List Nat} (s : SliceAt B h v l.length 1 (rowC l)) (hl : l.length ≤ 1000000000000) {k : Cont}
    (hk : ∀ h' v', Chg h h' [] → OwnS (h.next ≤ ·) h' v' 1 (l.map bc) l.length → k v' h') : buildSliceE 1 0 [.int .u8 0] [] h fun v9 h1 => appendE 1 1 v9 v h1 k := by
  simp [buildSliceE, fillL, repL]
  have c1 := Chg.push (h := h) (.cells [] true) []
  refine append_own' (B := (h.next ≤ ·)) (cs := []) (n := 0) (new := l.map bc) (m := l.length) (by simp) (.inr ⟨h.next, rfl, Nat.le_refl _, by simp, push_at _ _, rfl⟩) (newCells_bytes (s.chg c1 (by simp))) (by simp) (one_bc _) (by omega) (by omega) fun h' v' c o => ?_
  exact hk h' v' (((c1.toP (D := (h.next ≤ ·)) (by simp)).step c).list (by intro i hi hh; omega)) (by simpa using o)

theorem put_l0 {n nn N0 : Nat} {x6 : Value} {K : Cont} {h0 : St} : ∀ (w m0 : Nat) (h : St) (out : List Nat) (x7 : Value), w ≤ 8 → w < m0 → N0 ≤ h.next → out.length + w ≤ 1000000000000 → ChgP (N0 ≤ ·) h0 h → OwnS (N0 ≤ ·) h x7 1 (out.map bc) out.length →
    (∀ h' v', ChgP (N0 ≤ ·) h0 h' → OwnS (N0 ≤ ·) h' v' 1 ((out ++ putB n w).map bc) (out ++ putB n w).length → K v' h') →
    field_Put_l0 (tabC []) idG nn m0 (.int .u64 n) x6 x7 (.int .i64 ((w : Int) - 1)) h K := by
  intro w
  induction w with
  | zero =>
    intro m0 h out x7 hw hm hN ho c s H
    obtain ⟨m0, rfl⟩ : ∃ m, m0 = m + 1 := ⟨m0 - 1, by omega⟩
    rw [field_Put_l0_eq]
    simp
    rw [field_Put_j1_eq]
    exact H h x7 c (by simpa [putB] using s)
  | succ w ih =>
    intro m0 h out x7 hw hm hN ho c s H
    obtain ⟨m0, rfl⟩ : ∃ m, m0 = m + 1 := ⟨m0 - 1, by omega⟩
    rw [field_Put_l0_eq]
    have e0 : (((w + 1 : Nat) : Int) - 1) = (w : Int) := by omega
    have e1 : 8 * (w : Int) = ((8 * w : Nat) : Int) := by omega
    rw [e0]
    have hge : (0 : Int) ≤ w := Int.natCast_nonneg w
    simp (disch := omega) only [binNil_int, binV_geq, bindV_some, condK_bool, idG_eq, ge_iff_le, hge, decide_true, if_true, binV_mul, i64_in]
    rw [e1, shr_nat _ _ _ (by omega)]
    simp only [bindV_some, wrapV_int, u8_wrap]
    simp [buildSliceE, fillL, repL, allOne_eq]
    have s5 := s.chgP (D := fun _ => False) ((ChgP.refl _ h).of_push (o := .cells [.int .u8 ((n / 256 ^ w % 256 : Nat) : Int)] true)) (fun _ h => h.elim)
    refine append_own' (B := (N0 ≤ ·)) (new := [.int .u8 ((n / 256 ^ w % 256 : Nat) : Int)]) (m := 1) (by simp; omega) s5 (by simp [newCells]) rfl rfl (by omega) (by omega) fun h7 v7 c7 o7 => ?_
    have e3 : IntKind.i64.wrap ((w : Int) - 1) = (w : Int) - 1 := i64_in _ (by omega)
    have n7 := c7.1
    simp only [e3]
    refine ih m0 h7 (out ++ [n / 256 ^ w % 256]) v7 (by omega) (by omega) (by simp at n7; omega) (by simp; omega) ((c.of_push).step c7) (by simpa [bc] using o7) fun h' v' c' o' => H h' v' c' ?_
    rw [List.append_assoc] at o'
    exact o'
def putO : Abs.Spec := fun args h k => ∃ (B : Nat → Prop) (v : Value) (l : List Nat) (n w : Nat), args = [v, .int .u64 n, .int .i64 w] ∧ w ≤ 8 ∧ l.length ≤ 1000000000 ∧ SliceAt B h v l.length 1 (rowC l) ∧
  ∀ h' v', Chg h h' [] → OwnS (h.next ≤ ·) h' v' 1 ((l ++ putB n w).map bc) (l ++ putB n w).length → k v' h'
theorem putO_good : SpecGood Tryz.prog (19, putO) := by
  refine spec_good mixed Tryz.func19 (by kernel_rfl) (by kernel_rfl) (tab := []) (by simp) (keep := field_Put_keep) ?_
  rintro args h k ⟨B, v, l, n, w, rfl, hw, hl, s, H⟩
  refine ⟨9, ?_⟩
  show field_Put (tabC []) idG 9 v (.int .u64 n) (.int .i64 w) h _
  rw [field_Put_eq]
  refine append_new s (by omega) fun h1 v1 c1 o1 => ?_
  have m1 : (if (8 : Int) < w then (8 : Int) else w) = w := by rw [if_neg (by omega)]
  have m2 : (if (w : Int) > 0 then (w : Int) else 0) = w := by split <;> omega
  have e3 : IntKind.i64.wrap ((w : Int) - 1) = (w : Int) - 1 := i64_in _ (by omega)
  simp only [minV, m1, maxV, if_true, m2, bindV_some, binNil_int, binV_sub, e3, idG_eq]
  refine put_l0 (N0 := h.next) (h0 := h) w 9 h1 l v1 hw (by omega) c1.1 (by omega) (c1.toP (by simp)) o1 fun h' v' c' o' => ⟨_, St.le.refl _, H h' v' (c'.list (by intro i hi hh; omega)) o'⟩

/-! ### what bytes come to -/
def numB (l : List Nat) : Nat := l.foldl (fun n c => n * 256 + c) 0
theorem numB_snoc (l : List Nat) (c : Nat) : numB (l ++ [c]) = numB l * 256 + c := by simp [numB]
theorem foldB (l : List Nat) : ∀ a, l.foldl (fun n c => n * 256 + c) a = a * 256 ^ l.length + numB l := by
  induction l with
  | nil => intro a; simp [numB]
  | cons c l ih =>
    intro a
    simp only [List.foldl_cons, numB, List.length_cons]
    rw [ih, ih (0 * 256 + c), Nat.pow_succ]
    rw [Nat.add_mul, Nat.zero_mul, Nat.zero_add, Nat.mul_assoc, Nat.mul_comm 256]
    omega
theorem numB_cons (c : Nat) (l : List Nat) : numB (c :: l) = c * 256 ^ l.length + numB l := by
  have := foldB l c
  simpa [numB] using this
theorem numB_lt : ∀ l : List Nat, (∀ c ∈ l, c < 256) → numB l < 256 ^ l.length
  | [], _ => by simp [numB]
  | c :: l, h => by
    have h1 := numB_lt l fun c hc => h c (by simp [hc])
    have h2 := h c (by simp)
    rw [numB_cons, List.length_cons, Nat.pow_succ]
    have : c * 256 ^ l.length + 256 ^ l.length ≤ 256 * 256 ^ l.length := by
      rw [← Nat.succ_mul]; exact Nat.mul_le_mul_right _ h2
    rw [Nat.mul_comm 256] at this
    omega
theorem putB_lt (n : Nat) : ∀ w, ∀ c ∈ putB n w, c < 256
  | 0, c, h => by simp [putB] at h
  | w + 1, c, h => by
    simp only [putB, List.mem_cons] at h
    rcases h with rfl | h
    · exact Nat.mod_lt _ (by omega)
    · exact putB_lt n w c h
theorem numB_putB (n : Nat) : ∀ w, numB (putB n w) = n % 256 ^ w
  | 0 => by simp [putB, numB, Nat.mod_one]
  | w + 1 => by
    rw [putB, numB_cons, putB_length, numB_putB n w, Nat.pow_succ, Nat.mod_mul, Nat.mul_comm (256 ^ w)]
    omega
theorem putB_mod (n m : Nat) : ∀ w, w ≤ m → putB (n % 256 ^ m) w = putB n w
  | 0, _ => rfl
  | w + 1, h => by
    rw [putB, putB, putB_mod n m w (by omega)]
    congr 1
    obtain ⟨d, rfl⟩ : ∃ d, m = w + 1 + d := ⟨m - (w + 1), by omega⟩
    have e : 256 ^ (w + 1 + d) = 256 ^ w * (256 * 256 ^ d) := by rw [Nat.pow_add, Nat.pow_succ, Nat.mul_assoc]
    rw [e, Nat.mod_mul_right_div_self, Nat.mod_mul_right_mod]
theorem putB_add (n v : Nat) : ∀ w, putB n (w + v) = putB (n / 256 ^ v) w ++ putB n v
  | 0 => by simp [putB]
  | w + 1 => by
    have e : w + 1 + v = (w + v) + 1 := by omega
    rw [e, putB, putB, putB_add n v w, Nat.div_div_eq_div_mul, ← Nat.pow_add, Nat.add_comm v w]
    rfl

theorem shl8 (s : Shp) (a : Nat) (h : a * 256 < 18446744073709551616) : binV .shl s (.int .u64 a) (.int .u64 8) = some (.int .u64 ((a * 256 : Nat) : Int)) := by
  have e : (a : Int) * 2 ^ 8 = ((a * 256 : Nat) : Int) := by rw [Int.natCast_mul]; rfl
  simp only [binV, isShift, shiftV]
  rw [if_neg (by decide)]
  have e2 : min (Int.toNat 8) IntKind.u64.bits = 8 := by decide
  rw [e2, e, u64_wrap _ h]
theorem or8 (s : Shp) (a c : Nat) (h : a * 256 + c < 18446744073709551616) (hc : c < 256) : binV .or s (.int .u64 ((a * 256 : Nat) : Int)) (.int .u64 c) = some (.int .u64 ((a * 256 + c : Nat) : Int)) := by
  have e : (BitVec.ofInt IntKind.u64.bits ((a * 256 : Nat) : Int) ||| BitVec.ofInt IntKind.u64.bits (c : Int)).toNat = a * 256 + c := by
    show (BitVec.ofInt 64 ((a * 256 : Nat) : Int) ||| BitVec.ofInt 64 (c : Int)).toNat = a * 256 + c
    have q1 : a * 256 % 18446744073709551616 = a * 256 := Nat.mod_eq_of_lt (Nat.lt_of_le_of_lt (Nat.le_add_right _ _) h)
    have q2 : c % 18446744073709551616 = c := Nat.mod_eq_of_lt (Nat.lt_trans hc (by decide))
    have p : (2 : Nat) ^ 64 = 18446744073709551616 := by decide
    rw [BitVec.ofInt_natCast, BitVec.ofInt_natCast, BitVec.toNat_or, BitVec.toNat_ofNat, BitVec.toNat_ofNat, p, q1, q2]
    have := Nat.shiftLeft_add_eq_or_of_lt (i := 8) (b := c) (show c < 2 ^ 8 from hc) a
    rw [Nat.shiftLeft_eq] at this
    exact this.symm
  simp only [binV, isShift, intV, if_true, e]
  rw [u64_wrap _ h]
def takeO : Abs.Spec := fun args h k => ∃ (B : Nat → Prop) (v : Value) (l : List Nat) (w : Nat), args = [v, .int .i64 w] ∧ 1 ≤ w ∧ w ≤ 8 ∧ l.length ≤ 1000000000 ∧ (∀ c ∈ l, c < 256) ∧ SliceAt B h v l.length 1 (rowC l) ∧
  (l.length < w → k (.tuple #[.int .u64 0, .slice none 0 0, .bool false]) h) ∧
  (w ≤ l.length → ∀ h' v', Chg h h' [] → OwnS (h.next ≤ ·) h' v' 1 ((l.drop w).map bc) (l.drop w).length → k (.tuple #[.int .u64 (numB (l.take w)), v', .bool true]) h')
theorem pow256_le {i : Nat} (h : i ≤ 7) : 256 ^ i ≤ 72057594037927936 := by
  have := Nat.pow_le_pow_right (n := 256) (by omega) h
  simpa using this
theorem take_l0 {B : Nat → Prop} {nn w : Nat} {v v24 x4 x5 x6 : Value} {l : List Nat} {K : Cont} {h : St} (hw : w ≤ 8) (hwl : w ≤ l.length) (hl : l.length ≤ 1000000000) (hx : ∀ c ∈ l, c < 256) (s : SliceAt B h v l.length 1 (rowC l)) (s4 : SliceAt B h v24 w 1 (rowC l))
    (H : ∀ h' v', Chg h h' [] → OwnS (h.next ≤ ·) h' v' 1 ((l.drop w).map bc) (l.drop w).length → K (.tuple #[.int .u64 (numB (l.take w)), v', .bool true]) h') :
    ∀ (d i m0 : Nat), i + d = w → d < m0 → field_Take_l0 (tabC []) idG nn m0 v (.int .i64 w) x4 x5 x6 (.int .u64 (numB (l.take i))) v24 (.int .i64 w) (.int .i64 i) h K := by
  intro d
  induction d with
  | zero =>
    intro i m0 hi hm
    obtain ⟨m0, rfl⟩ : ∃ m, m0 = m + 1 := ⟨m0 - 1, by omega⟩
    rw [field_Take_l0_eq]
    have e : i = w := by omega
    subst e
    simp only [bindV_some, binV_lss, condK_bool, Int.lt_irrefl, decide_false, Bool.false_eq_true, if_false, idG_eq]
    rw [field_Take_j1_eq]
    obtain ⟨v', hcut, s'⟩ := s.cut (lo := some (.int .i64 i)) (hi := none) (loHi_lo (l := i) hwl) hwl (Nat.le_refl _)
    have hc1 : cutS 1 v (some (.int .i64 (i : Int))) none = some v' := hcut
    simp only [hc1, bindV_some]
    have el : (l.drop i).length = l.length - i := by simp
    have s2 : SliceAt B h v' (l.drop i).length 1 (rowC (l.drop i)) := by
      rw [el]
      exact s'.rows fun j hj => by simp [rowC]
    exact append_new s2 (by omega) fun h' v' c o => H h' v' c o
  | succ d ih =>
    intro i m0 hi hm
    obtain ⟨m0, rfl⟩ : ∃ m, m0 = m + 1 := ⟨m0 - 1, by omega⟩
    rw [field_Take_l0_eq]
    have hlt : (i : Int) < w := by omega
    obtain ⟨b, o, g1, g2, g3, cs, own, g4, g5⟩ := s4.idx (Int.natCast_nonneg i) hlt .i64
    have g6 := takeN_get g5 (j := 0) (by omega)
    have hi' : i < l.length := by omega
    have hg : l[i]?.getD 0 = l[i] := by rw [List.getElem?_eq_getElem hi']; rfl
    have hc := hx l[i] (List.getElem_mem _)
    simp only [rowC, Int.toNat_natCast, hg, Nat.add_zero, List.getElem?_cons_zero] at g6
    have hlt2 := numB_lt (l.take i) fun c hc => hx c (List.mem_of_mem_take hc)
    have hp := pow256_le (i := i) (by omega)
    have hli : (l.take i).length = i := by simp; omega
    rw [hli] at hlt2
    have j1 : IntKind.i64.wrap ((i : Int) + 1) = ((i + 1 : Nat) : Int) := by rw [i64_in _ (by omega)]; omega
    have et : l.take (i + 1) = l.take i ++ [l[i]] := by rw [List.take_succ_eq_append_getElem hi']
    simp only [binV_lss, bindV_some, condK_bool, hlt, decide_true, if_true, idG_eq, g1, loadV_ptr, g4, loadM_cells, partV_one, g6, bc, binNil_int, shl8 _ _ (show numB (l.take i) * 256 < _ by omega), wrapV_int, u64_wrap l[i] (by omega), or8 _ _ _ (show numB (l.take i) * 256 + l[i] < _ by omega) hc, binV_add, j1]
    rw [← numB_snoc, ← et]
    exact ih (i + 1) m0 (by omega) (by omega)
theorem takeO_good : SpecGood Tryz.prog (31, takeO) := by
  refine spec_good mixed Tryz.func31 (by kernel_rfl) (by kernel_rfl) (tab := []) (by simp) (keep := field_Take_keep) ?_
  rintro args h k ⟨B, v, l, w, rfl, h1, h8, hl, hx, s, Hn, H⟩
  refine ⟨9, ?_⟩
  show field_Take (tabC []) idG 9 v (.int .i64 w) h _
  rw [field_Take_eq, s.len]
  have n1 : ¬ (w : Int) < 1 := by omega
  have n2 : ¬ (8 : Int) < w := by omega
  by_cases hwl : w ≤ l.length
  · have n3 : ¬ (l.length : Int) < w := by omega
    obtain ⟨v', hcut, s'⟩ := s.cut (lo := none) (hi := some (.int .i64 w)) (loHi_hi (e := w) hwl) (Nat.zero_le _) hwl
    have hc1 : cutS 1 v none (some (.int .i64 (w : Int))) = some v' := hcut
    have s2 : SliceAt B h v' w 1 (rowC l) := by
      have := s'.rows (row' := rowC l) (fun i hi => by simp)
      simpa using this
    simp [n1, n2, n3, groupK_eq, getT, hc1, s2.len]
    have e : numB (l.take 0) = 0 := by simp [numB]
    have := take_l0 (nn := 9) (x4 := .int .u64 0) (x5 := .slice none 0 0) (x6 := .bool false) h8 hwl hl hx s s2 (K := fun v h1 => ∃ h2, St.le h2 h1 ∧ k v h2) (fun h' v' c o => ⟨_, St.le.refl _, H hwl h' v' c o⟩) w 0 9 (by omega) (by omega)
    rw [e] at this
    exact this
  · have n3 : (l.length : Int) < w := by omega
    simp [n1, n2, n3, groupK_eq, getT]
    exact ⟨_, St.le.refl _, Hn (by omega)⟩
def refNumO : Abs.Spec := fun args h k => ∃ (V : Nat → Prop) (v : Value) (l : List Nat), args = [v] ∧ l.length ≤ 8 ∧ (∀ c ∈ l, c < 256) ∧ SliceAt V h v l.length 1 (rowC l) ∧ k (.int .u64 (numB l)) h
theorem refNum_l0 {B : Nat → Prop} {nn : Nat} {v x2 : Value} {l : List Nat} {K : Cont} {h : St} {C : Oracle} (hl : l.length ≤ 8) (hx : ∀ c ∈ l, c < 256) (s4 : SliceAt B h v l.length 1 (rowC l)) (H : K (.int .u64 (numB l)) h) :
    ∀ (d i m0 : Nat), i + d = l.length → d < m0 → tiltyardref01_Number_l0 C idG nn m0 v x2 (.int .u64 (numB (l.take i))) (.int .i64 i) h K := by
  intro d
  induction d with
  | zero =>
    intro i m0 hi hm
    obtain ⟨m0, rfl⟩ : ∃ m, m0 = m + 1 := ⟨m0 - 1, by omega⟩
    rw [tiltyardref01_Number_l0_eq, s4.len]
    have e : i = l.length := by omega
    subst e
    simp only [bindV_some, binV_lss, condK_bool, Int.lt_irrefl, decide_false, Bool.false_eq_true, if_false, idG_eq]
    rw [tiltyardref01_Number_j1_eq, List.take_length]
    exact H
  | succ d ih =>
    intro i m0 hi hm
    obtain ⟨m0, rfl⟩ : ∃ m, m0 = m + 1 := ⟨m0 - 1, by omega⟩
    rw [tiltyardref01_Number_l0_eq, s4.len]
    have hlt : (i : Int) < l.length := by omega
    obtain ⟨b, o, g1, g2, g3, cs, own, g4, g5⟩ := s4.idx (Int.natCast_nonneg i) hlt .i64
    have g6 := takeN_get g5 (j := 0) (by omega)
    have hi' : i < l.length := by omega
    have hg : l[i]?.getD 0 = l[i] := by rw [List.getElem?_eq_getElem hi']; rfl
    have hc := hx l[i] (List.getElem_mem _)
    simp only [rowC, Int.toNat_natCast, hg, Nat.add_zero, List.getElem?_cons_zero] at g6
    have hlt2 := numB_lt (l.take i) fun c hc => hx c (List.mem_of_mem_take hc)
    have hp := pow256_le (i := i) (by omega)
    have hli : (l.take i).length = i := by simp; omega
    rw [hli] at hlt2
    have et : l.take (i + 1) = l.take i ++ [l[i]] := by rw [List.take_succ_eq_append_getElem hi']
    have w1 : IntKind.u64.wrap ((numB (l.take i) : Int) * 256) = ((numB (l.take i) * 256 : Nat) : Int) := by
      have : (numB (l.take i) : Int) * 256 = ((numB (l.take i) * 256 : Nat) : Int) := by rw [Int.natCast_mul]; rfl
      rw [this]; exact u64_wrap _ (by omega)
    have w2 : IntKind.u64.wrap (((numB (l.take i) * 256 : Nat) : Int) + (l[i] : Int)) = ((numB (l.take i) * 256 + l[i] : Nat) : Int) := by
      rw [← Int.natCast_add]; exact u64_wrap _ (by omega)
    simp only [binV_lss, bindV_some, condK_bool, hlt, decide_true, if_true, idG_eq, g1, loadV_ptr, g4, loadM_cells, partV_one, g6, bc, binNil_int, binV_mul, w1, wrapV_int, u64_wrap l[i] (by omega), binV_add, w2, inc (show i ≤ 1000000000000 by omega)]
    rw [← numB_snoc, ← et]
    exact ih (i + 1) m0 (by omega) (by omega)
theorem refNumO_good : SpecGood Tryz.prog (24, refNumO) := by
  refine spec_good mixed Tryz.func24 (by kernel_rfl) (by kernel_rfl) (tab := []) (by simp) (keep := tiltyardref01_Number_keep) ?_
  rintro args h k ⟨V, v, l, rfl, hl, hx, s, H⟩
  refine ⟨9, ?_⟩
  show tiltyardref01_Number (tabC []) idG 9 v h _
  rw [tiltyardref01_Number_eq]
  simp only [idG_eq]
  have e : numB (l.take 0) = 0 := by simp [numB]
  have := refNum_l0 (nn := 9) (x2 := .int .u64 0) (C := tabC []) (K := fun v h1 => ∃ h2, St.le h2 h1 ∧ k v h2) hl hx s ⟨_, St.le.refl _, H⟩ l.length 0 9 (by omega) (by omega)
  rw [e] at this
  exact this

theorem rem_nat (s : Shp) (k : IntKind) (a b : Nat) (h : b ≠ 0) : binV .rem s (.int k a) (.int k b) = some (.int k ((a % b : Nat) : Int)) := by
  simp only [binV, isShift, intV, if_true]
  rw [if_neg (by omega), Int.tmod_eq_emod_of_nonneg (by omega)]
  norm_cast
def refPutO : Abs.Spec := fun args h k => ∃ (n w : Nat), args = [.int .u64 n, .int .i64 w] ∧ n < 18446744073709551616 ∧ w ≤ 8 ∧ ∀ h' v', Chg h h' [] → OwnS (h.next ≤ ·) h' v' 1 ((putB n w).map bc) w → k v' h'
theorem quo_nat (s : Shp) (k : IntKind) (a b : Nat) (h : b ≠ 0) (hw : k.wrap ((a / b : Nat) : Int) = ((a / b : Nat) : Int)) : binV .quo s (.int k a) (.int k b) = some (.int k ((a / b : Nat) : Int)) := by
  simp only [binV, isShift, intV, if_true]
  rw [if_neg (by omega), Int.tdiv_eq_ediv_of_nonneg (by omega)]
  have e : (a : Int) / (b : Int) = ((a / b : Nat) : Int) := by norm_cast
  rw [e, hw]
theorem put_cells (n w j : Nat) : ((List.replicate (j + 1) 0 ++ putB n w).map bc).take j ++ [bc (n / 256 ^ w % 256)] ++ ((List.replicate (j + 1) 0 ++ putB n w).map bc).drop (j + 1) = (List.replicate j 0 ++ putB n (w + 1)).map bc := by
  have e1 : (List.replicate (j + 1) 0 ++ putB n w).map bc = (List.replicate j (bc 0)) ++ (bc 0 :: (putB n w).map bc) := by
    rw [List.replicate_succ', List.append_assoc, List.map_append, List.map_replicate]; rfl
  rw [e1]
  have l1 : (List.replicate j (bc 0)).length = j := by simp
  have e2 : (List.replicate j (bc 0) ++ (bc 0 :: (putB n w).map bc)).take j = List.replicate j (bc 0) := by rw [List.take_left' l1]
  have e3 : (List.replicate j (bc 0) ++ (bc 0 :: (putB n w).map bc)).drop (j + 1) = (putB n w).map bc := by
    have : j + 1 = (List.replicate j (bc 0)).length + 1 := by rw [l1]
    rw [this, List.drop_append]
    simp
  rw [e2, e3, putB]
  simp
theorem refPut_l0 {n nn w0 q : Nat} {x4 : Value} {h0 : St} {K : Cont} (hn : n < 18446744073709551616) (hw0 : w0 ≤ 8)
    (H : ∀ h', Chg h0 h' [q] → h'.objs q = some (.cells ((putB n w0).map bc) true) → K (.slice (some ⟨q, 0, some 1⟩) w0 0) h') :
    ∀ (j m0 w : Nat) (h : St), j + w = w0 → j < m0 → Chg h0 h [q] → h.objs q = some (.cells ((List.replicate j 0 ++ putB n w).map bc) true) →
      tiltyardref01_Put_l0 (tabC []) idG nn m0 (.int .u64 ((n / 256 ^ w : Nat) : Int)) x4 (.slice (some ⟨q, 0, some 1⟩) w0 0) (.int .i64 ((j : Int) - 1)) h K := by
  intro j
  induction j with
  | zero =>
    intro m0 w h hj hm c o
    obtain ⟨m0, rfl⟩ : ∃ m, m0 = m + 1 := ⟨m0 - 1, by omega⟩
    rw [tiltyardref01_Put_l0_eq]
    have e : w = w0 := by omega
    subst e
    simp
    rw [tiltyardref01_Put_j1_eq]
    exact H h c (by simpa using o)
  | succ j ih =>
    intro m0 w h hj hm c o
    obtain ⟨m0, rfl⟩ : ∃ m, m0 = m + 1 := ⟨m0 - 1, by omega⟩
    rw [tiltyardref01_Put_l0_eq]
    have e0 : (((j + 1 : Nat) : Int) - 1) = (j : Int) := by omega
    rw [e0]
    have hge : (0 : Int) ≤ j := Int.natCast_nonneg j
    have hlt : (j : Int) < w0 := by omega
    have r1 := rem_nat .other .u64 (n / 256 ^ w) 256 (by omega)
    have hd : n / 256 ^ w / 256 = n / 256 ^ (w + 1) := by rw [Nat.div_div_eq_div_mul, Nat.pow_succ]
    have hle : n / 256 ^ (w + 1) ≤ n := Nat.div_le_self _ _
    have r2 := quo_nat .other .u64 (n / 256 ^ w) 256 (by omega) (by rw [hd]; exact u64_wrap _ (Nat.lt_of_le_of_lt hle hn))
    rw [hd] at r2
    have r1' : binV .rem .other (.int .u64 ((n / 256 ^ w : Nat) : Int)) (.int .u64 256) = some (.int .u64 ((n / 256 ^ w % 256 : Nat) : Int)) := r1
    have r2' : binV .quo .other (.int .u64 ((n / 256 ^ w : Nat) : Int)) (.int .u64 256) = some (.int .u64 ((n / 256 ^ (w + 1) : Nat) : Int)) := r2
    have w8 : IntKind.u8.wrap ((n / 256 ^ w % 256 : Nat) : Int) = ((n / 256 ^ w % 256 : Nat) : Int) := by rw [u8_wrap, Nat.mod_mod]
    have w1 : IntKind.i64.wrap ((j : Int) - 1) = (j : Int) - 1 := i64_in _ (by omega)
    have hx : idxS 1 (.slice (some ⟨q, 0, some 1⟩) w0 0) (.int .i64 (j : Int)) = some (.pointer (some ⟨q, j, none⟩)) := by simp [idxS, hlt]
    simp only [binNil_int, binV_geq, bindV_some, condK_bool, ge_iff_le, hge, decide_true, if_true, idG_eq, r1', wrapV_int, w8, hx, storeE_ptr, o, storeM_cells, r2', binV_sub, w1]
    refine ⟨⟨rfl, by simp, rfl⟩, ?_⟩
    have pc := put_cells n w j
    have pc' : ((List.replicate (j + 1) 0 ++ putB n w).map bc).take j ++ (Value.int .u8 ((n / 256 ^ w % 256 : Nat) : Int)).cells.toList ++ ((List.replicate (j + 1) 0 ++ putB n w).map bc).drop (j + 1) = (List.replicate j 0 ++ putB n (w + 1)).map bc := pc
    rw [pc']
    exact ih m0 (w + 1) _ (by omega) (by omega) (Chg.of_set c (.inl (by simp))) (set_at _ _ _)
theorem refPutO_good : SpecGood Tryz.prog (20, refPutO) := by
  refine spec_good mixed Tryz.func20 (by kernel_rfl) (by kernel_rfl) (tab := []) (by simp) (keep := tiltyardref01_Put_keep) ?_
  rintro args h k ⟨n, w, rfl, hnn, hw, H⟩
  refine ⟨9, ?_⟩
  show tiltyardref01_Put (tabC []) idG 9 (.int .u64 n) (.int .i64 w) h _
  rw [tiltyardref01_Put_eq]
  have w1 : IntKind.i64.wrap ((w : Int) - 1) = (w : Int) - 1 := i64_in _ (by omega)
  have hr : repL [Value.int .u8 0] w = (List.replicate w 0 ++ putB n 0).map bc := by
    have : ∀ w, repL [Value.int .u8 0] w = (List.replicate w 0).map bc := by
      intro w; induction w with
      | zero => rfl
      | succ w ih => simp only [repL, ih, List.replicate_succ, List.map_cons]; rfl
    rw [this]; simp [putB]
  simp only [makeSliceE, Int.toNat_natCast, binNil_int, binV_sub, bindV_some, w1, idG_eq]
  refine ⟨⟨by omega, by omega, by omega, by omega⟩, ?_⟩
  have e : ((n : Nat) : Int) = ((n / 256 ^ 0 : Nat) : Int) := by simp
  rw [hr, e]
  refine refPut_l0 (q := h.next) (h0 := h.push (.cells ((List.replicate w 0 ++ putB n 0).map bc) true)) hnn hw ?_ w 9 0 _ (by omega) (by omega) (Chg.refl _ _) (push_at _ _)
  intro h' c o
  have n1 := c.1
  refine ⟨_, St.le.refl _, H h' _ (((Chg.push _ []).toP (D := fun i => h.next ≤ i) (by simp) |>.step (c.toP (by simp))).list (by intro i hi hh; omega)) (.inr ⟨h.next, rfl, Nat.le_refl _, by simp at n1; omega, o, by simp [putB_length]⟩)⟩
end Go.Proofs.YtnnjcenoihdhfaaGreatDoor
end

section
set_option linter.unusedSimpArgs false
set_option linter.unusedVariables false
set_option maxHeartbeats 4000000
namespace Go.Proofs.YtnnjcenoihdhfaaGreatDoor

theorem putB_numB : ∀ (l : List Nat), (∀ x ∈ l, x < 256) → putB (numB l) l.length = l
  | [], _ => rfl
  | c :: l, h => by
    have ih := putB_numB l fun x hx => h x (by simp [hx])
    have hl := numB_lt l fun x hx => h x (by simp [hx])
    have hc := h c (by simp)
    have hp : 0 < 256 ^ l.length := Nat.lt_of_le_of_lt (Nat.zero_le _) hl
    rw [List.length_cons, putB, numB_cons]
    have e1 : (c * 256 ^ l.length + numB l) / 256 ^ l.length = c := by
      rw [Nat.add_comm, Nat.add_mul_div_right _ _ hp, Nat.div_eq_of_lt hl, Nat.zero_add]
    have e2 : putB (c * 256 ^ l.length + numB l) l.length = putB (numB l) l.length := by
      rw [← putB_mod (c * 256 ^ l.length + numB l) l.length l.length (Nat.le_refl _), Nat.add_comm, Nat.add_mul_mod_self_right, Nat.mod_eq_of_lt hl]
    rw [e1, e2, ih, Nat.mod_eq_of_lt hc]
structure Ev where
  k : Int
  i : Nat
  n : Nat
  b : List Nat
deriving DecidableEq
def okE (e : Ev) : Bool := decide (((e.k = 1 ∨ e.k = 8) ∧ e.b.length = 0) ∨ ((e.k = 2 ∨ e.k = 7) ∧ e.i = 0 ∧ e.b.length = 0) ∨ ((e.k = 3 ∨ e.k = 4) ∧ e.n = 0 ∧ e.b.length = 0) ∨ ((e.k = 5 ∨ e.k = 6) ∧ e.n = 0 ∧ e.b.length ≤ 65535))
def encE (e : Ev) : List Nat := putB e.k.toNat 1 ++ (putB e.i 4 ++ (putB e.n 8 ++ (putB e.b.length 2 ++ e.b)))
def encL (l : List Ev) : List Nat × Nat := if l.all okE = true then (l.flatMap encE, 0) else ([], 2)
def decE (b : List Nat) : Ev := ⟨(numB (b.take 1) : Nat), numB ((b.drop 1).take 4), numB ((b.drop 5).take 8), (b.drop 15).take (numB ((b.drop 13).take 2))⟩
def lenE (b : List Nat) : Nat := 15 + numB ((b.drop 13).take 2)
def stepE (b : List Nat) : Nat := if b.length < 15 then 3 else if b.length < lenE b then 3 else if okE (decE b) = true then 0 else 2
def decR : Nat → List Nat → List Ev → List Ev × Nat × Nat
  | 0, _, out => (out, 0, 0)
  | f + 1, b, out => if b.length = 0 then (out, 0, 0) else if stepE b ≠ 0 then ([], out.length, stepE b) else decR f (b.drop (lenE b)) (out ++ [decE b])
def decL (b : List Nat) : List Ev × Nat × Nat := decR b.length b []
/-- What is within an event's kinds. -/
def InE (e : Ev) : Prop := e.i < 4294967296 ∧ e.n < 18446744073709551616 ∧ ∀ x ∈ e.b, x < 256
theorem ok_k {e : Ev} (h : okE e = true) : 1 ≤ e.k ∧ e.k ≤ 8 ∧ e.b.length ≤ 65535 := by
  unfold okE at h
  simp only [decide_eq_true_eq] at h
  omega
theorem enc_len (e : Ev) : (encE e).length = 15 + e.b.length := by
  unfold encE
  simp only [List.length_append, putB_length]; omega
theorem take_pre {α : Type} {a b : List α} {n : Nat} (h : a.length = n) : (a ++ b).take n = a := by rw [← h]; exact List.take_left' rfl
theorem drop_pre {α : Type} {a b : List α} {n : Nat} (h : a.length = n) : (a ++ b).drop n = b := by rw [← h]; exact List.drop_left' rfl
theorem enc_parts (e : Ev) (r : List Nat) : (encE e ++ r).take 1 = putB e.k.toNat 1 ∧ ((encE e ++ r).drop 1).take 4 = putB e.i 4 ∧ ((encE e ++ r).drop 5).take 8 = putB e.n 8 ∧ ((encE e ++ r).drop 13).take 2 = putB e.b.length 2 ∧ (encE e ++ r).drop 15 = e.b ++ r := by
  have l1 := putB_length e.k.toNat 1
  have l4 := putB_length e.i 4
  have l8 := putB_length e.n 8
  have l2 := putB_length e.b.length 2
  have d1 : (encE e ++ r).drop 1 = putB e.i 4 ++ (putB e.n 8 ++ (putB e.b.length 2 ++ (e.b ++ r))) := by
    unfold encE; simp only [List.append_assoc]; exact drop_pre l1
  have d5 : (encE e ++ r).drop 5 = putB e.n 8 ++ (putB e.b.length 2 ++ (e.b ++ r)) := by
    rw [show 5 = 1 + 4 from rfl, ← List.drop_drop, d1]; exact drop_pre l4
  have d13 : (encE e ++ r).drop 13 = putB e.b.length 2 ++ (e.b ++ r) := by
    rw [show 13 = 5 + 8 from rfl, ← List.drop_drop, d5]; exact drop_pre l8
  have d15 : (encE e ++ r).drop 15 = e.b ++ r := by
    rw [show 15 = 13 + 2 from rfl, ← List.drop_drop, d13]; exact drop_pre l2
  refine ⟨?_, ?_, ?_, ?_, d15⟩
  · unfold encE; simp only [List.append_assoc]; exact take_pre l1
  · rw [d1]; exact take_pre l4
  · rw [d5]; exact take_pre l8
  · rw [d13]; exact take_pre l2
theorem dec_enc {e : Ev} (ok : okE e = true) (h : InE e) (r : List Nat) : decE (encE e ++ r) = e ∧ lenE (encE e ++ r) = 15 + e.b.length ∧ stepE (encE e ++ r) = 0 ∧ (encE e ++ r).drop (lenE (encE e ++ r)) = r := by
  obtain ⟨k1, k8, bl⟩ := ok_k ok
  obtain ⟨hi, hn, hb⟩ := h
  obtain ⟨p1, p2, p3, p4, p5⟩ := enc_parts e r
  have q4 : numB (putB e.b.length 2) = e.b.length := by rw [numB_putB]; exact Nat.mod_eq_of_lt (by omega)
  have de : decE (encE e ++ r) = e := by
    unfold decE
    rw [p1, p2, p3, p4, p5, q4, numB_putB, numB_putB, numB_putB, take_pre rfl]
    have h1 : e.k.toNat % 256 ^ 1 = e.k.toNat := Nat.mod_eq_of_lt (by omega)
    have h2 : e.i % 256 ^ 4 = e.i := Nat.mod_eq_of_lt (by omega)
    have h3 : e.n % 256 ^ 8 = e.n := Nat.mod_eq_of_lt (by omega)
    rw [h1, h2, h3]
    obtain ⟨k, i, n, b⟩ := e
    simp only [Ev.mk.injEq, and_true]
    simp only at k1
    omega
  have le : lenE (encE e ++ r) = 15 + e.b.length := by unfold lenE; rw [p4, q4]
  have ll : (encE e ++ r).length = 15 + e.b.length + r.length := by rw [List.length_append, enc_len]
  refine ⟨de, le, ?_, ?_⟩
  · unfold stepE
    rw [if_neg (by omega), le, if_neg (by omega), de, if_pos ok]
  · rw [le, ← enc_len, drop_pre rfl]
theorem decR_enc : ∀ (l : List Ev) (f : Nat) (out : List Ev), l.all okE = true → (∀ e ∈ l, InE e) → (l.flatMap encE).length ≤ f → decR f (l.flatMap encE) out = (out ++ l, 0, 0)
  | [], f, out, _, _, _ => by
    cases f with
    | zero => simp [decR]
    | succ f => simp [decR]
  | e :: l, f, out, ok, h, hf => by
    rw [List.all_cons, Bool.and_eq_true] at ok
    rw [List.flatMap_cons] at hf ⊢
    have el := enc_len e
    rw [List.length_append] at hf
    obtain ⟨f, rfl⟩ : ∃ g, f = g + 1 := ⟨f - 1, by omega⟩
    obtain ⟨d1, d2, d3, d4⟩ := dec_enc ok.1 (h e (by simp)) (l.flatMap encE)
    have ne : ¬ (encE e ++ l.flatMap encE).length = 0 := by rw [List.length_append]; omega
    unfold decR
    rw [if_neg ne, if_neg (by rw [d3]; simp), d4, d1, decR_enc l f (out ++ [e]) ok.2 (fun x hx => h x (by simp [hx])) (by omega)]
    simp
/-- What is encoded is decoded to what it was. -/
theorem dec_encL {l : List Ev} (ok : l.all okE = true) (h : ∀ e ∈ l, InE e) : decL (l.flatMap encE) = (l, 0, 0) := by
  unfold decL
  rw [decR_enc l _ [] ok h (Nat.le_refl _)]; simp
theorem enc_dec {b : List Nat} (hb : ∀ x ∈ b, x < 256) (h0 : stepE b = 0) : okE (decE b) = true ∧ InE (decE b) ∧ encE (decE b) = b.take (lenE b) ∧ lenE b ≤ b.length ∧ 15 ≤ lenE b := by
  unfold stepE at h0
  by_cases c1 : b.length < 15
  · rw [if_pos c1] at h0; cases h0
  rw [if_neg c1] at h0
  by_cases c2 : b.length < lenE b
  · rw [if_pos c2] at h0; cases h0
  rw [if_neg c2] at h0
  have c3 : okE (decE b) = true := by
    by_cases c3 : okE (decE b) = true
    · exact c3
    · rw [if_neg c3] at h0; cases h0
  have sub : ∀ (i n : Nat), ∀ x ∈ (b.drop i).take n, x < 256 := fun i n x hx => hb x (List.mem_of_mem_drop (List.mem_of_mem_take hx))
  have ln : ∀ (i n : Nat), i + n ≤ b.length → ((b.drop i).take n).length = n := fun i n h => by rw [List.length_take, List.length_drop]; omega
  have l0 : (b.take 1).length = 1 := by rw [List.length_take]; omega
  have s0 : ∀ x ∈ b.take 1, x < 256 := fun x hx => hb x (List.mem_of_mem_take hx)
  have hl : 15 ≤ lenE b := by unfold lenE; omega
  have lb : ((b.drop 15).take (numB ((b.drop 13).take 2))).length = numB ((b.drop 13).take 2) := ln _ _ (by unfold lenE at c2; omega)
  refine ⟨c3, ⟨?_, ?_, sub _ _⟩, ?_, by omega, hl⟩
  · have := numB_lt _ (sub 1 4); rw [ln 1 4 (by omega)] at this; exact this
  · have := numB_lt _ (sub 5 8); rw [ln 5 8 (by omega)] at this; exact this
  · have e1 : putB (numB (b.take 1)) 1 = b.take 1 := by
      have := putB_numB _ s0; rw [l0] at this; exact this
    have e2 : putB (numB ((b.drop 1).take 4)) 4 = (b.drop 1).take 4 := by
      have := putB_numB _ (sub 1 4); rw [ln 1 4 (by omega)] at this; exact this
    have e3 : putB (numB ((b.drop 5).take 8)) 8 = (b.drop 5).take 8 := by
      have := putB_numB _ (sub 5 8); rw [ln 5 8 (by omega)] at this; exact this
    have e4 : putB (numB ((b.drop 13).take 2)) 2 = (b.drop 13).take 2 := by
      have := putB_numB _ (sub 13 2); rw [ln 13 2 (by omega)] at this; exact this
    unfold encE decE
    simp only [Int.toNat_natCast]
    rw [e1, e2, e3, lb, e4]
    have join : ∀ (i n m : Nat), (b.drop i).take n ++ (b.drop (i + n)).take m = (b.drop i).take (n + m) := fun i n m => by
      rw [List.take_add, List.drop_drop]
    have j4 := join 13 2 (numB ((b.drop 13).take 2))
    have j3 := join 5 8 (2 + numB ((b.drop 13).take 2))
    have j2 := join 1 4 (8 + (2 + numB ((b.drop 13).take 2)))
    have j1 := join 0 1 (4 + (8 + (2 + numB ((b.drop 13).take 2))))
    rw [List.drop_zero] at j1
    rw [j4, j3, j2, j1]
    unfold lenE
    congr 1; omega
theorem decR_some : ∀ (f : Nat) (b : List Nat) (out l : List Ev) (k : Nat), (∀ x ∈ b, x < 256) → b.length ≤ f → decR f b out = (l, k, 0) → ∃ r, l = out ++ r ∧ r.flatMap encE = b ∧ r.all okE = true ∧ ∀ e ∈ r, InE e
  | 0, b, out, l, k, hb, hf, h => by
    have : b = [] := List.eq_nil_of_length_eq_zero (by omega)
    subst this
    simp [decR] at h
    exact ⟨[], by simp [h.1], rfl, rfl, by simp⟩
  | f + 1, b, out, l, k, hb, hf, h => by
    unfold decR at h
    by_cases c1 : b.length = 0
    · rw [if_pos c1] at h
      have : b = [] := List.eq_nil_of_length_eq_zero c1
      subst this
      simp at h
      exact ⟨[], by simp [h.1], rfl, rfl, by simp⟩
    rw [if_neg c1] at h
    by_cases c2 : stepE b ≠ 0
    · rw [if_pos c2] at h
      simp at h
      exact absurd h.2.2 c2
    rw [if_neg c2] at h
    obtain ⟨e1, e2, e3, e4, e5⟩ := enc_dec hb (by omega)
    obtain ⟨r, r1, r2, r3, r4⟩ := decR_some f (b.drop (lenE b)) (out ++ [decE b]) l k (fun x hx => hb x (List.mem_of_mem_drop hx)) (by rw [List.length_drop]; omega) h
    refine ⟨decE b :: r, by rw [r1]; simp, ?_, by rw [List.all_cons, e1, r3]; rfl, fun e he => ?_⟩
    · rw [List.flatMap_cons, r2, e3, List.take_append_drop]
    · rcases List.mem_cons.1 he with rfl | he
      · exact e2
      · exact r4 e he
theorem decR_fail : ∀ (f : Nat) (b : List Nat) (out l : List Ev) (k c : Nat), decR f b out = (l, k, c) → c ≠ 0 → l = []
  | 0, b, out, l, k, c, h, hc => by
    simp [decR] at h
    exact absurd h.2.2.symm hc
  | f + 1, b, out, l, k, c, h, hc => by
    unfold decR at h
    by_cases c1 : b.length = 0
    · rw [if_pos c1] at h; simp at h; exact absurd h.2.2.symm hc
    rw [if_neg c1] at h
    by_cases c2 : stepE b ≠ 0
    · rw [if_pos c2] at h; simp at h; exact h.1
    rw [if_neg c2] at h
    exact decR_fail f _ _ l k c h hc
end Go.Proofs.YtnnjcenoihdhfaaGreatDoor
end

section
set_option linter.unusedSimpArgs false
set_option linter.unusedVariables false
set_option maxHeartbeats 4000000
namespace Go.Proofs.YtnnjcenoihdhfaaGreatDoor
open Go.Abs Go.IntWalk

theorem unV_not (b : Bool) : unV .not (.bool b) = some (.bool (!b)) := rfl
theorem eqN (k : IntKind) (a b : Nat) : binV .eql .other (.int k (a : Int)) (.int k (b : Int)) = some (.bool (decide (a = b))) := by
  rw [binV_eql, show decide ((a : Int) = (b : Int)) = decide (a = b) from decide_eq_decide.2 (by omega)]
theorem neN (k : IntKind) (a b : Nat) : binV .neq .other (.int k (a : Int)) (.int k (b : Int)) = some (.bool (!decide (a = b))) := by
  rw [binV_neq, show decide ((a : Int) ≠ (b : Int)) = (!decide (a = b)) by by_cases h : a = b <;> simp [h]; omega]
/-- Bytes as they lie. -/
abbrev By (B : Nat → Prop) (h : St) (v : Value) (l : List Nat) : Prop := SliceAt B h v l.length 1 (rowC l)
/-- Bytes of one's own. -/
abbrev ByO (B : Nat → Prop) (h : St) (v : Value) (l : List Nat) : Prop := OwnS B h v 1 (l.map bc) l.length
theorem By.chg0 {B : Nat → Prop} {h h' : St} {v : Value} {l : List Nat} (s : By B h v l) (c : Chg h h' []) : By B h' v l := SliceAt.chg s c (by simp)
theorem By.nil {B : Nat → Prop} {h : St} : By B h (.slice none 0 0) [] := .inl ⟨rfl, rfl⟩
theorem ByO.nil {B : Nat → Prop} {h : St} : ByO B h (.slice none 0 0) [] := .inl ⟨rfl, rfl, rfl⟩
/-- Bytes put behind bytes of one's own. -/
theorem append_byB {B0 B : Nat → Prop} {h : St} {v x : Value} {L l : List Nat} {k : Cont} (hB : ∀ i, h.next ≤ i → B0 i) (s : ByO B0 h v L) (t : By B h x l) (few : L.length + l.length ≤ 1000000000000)
    (hk : ∀ h' v', ChgP B0 h h' → ByO B0 h' v' (L ++ l) → k v' h') : appendE 1 1 v x h k := by
  refine append_own' (B := B0) (hB _ (Nat.le_refl _)) s (newCells_bytes t) (by simp) (one_bc _) (by omega) (by omega) fun h' v' c o => hk h' v' c ?_
  unfold ByO
  rw [List.map_append, List.length_append]; exact o
theorem append_by {n0 : Nat} {B : Nat → Prop} {h : St} {v x : Value} {L l : List Nat} {k : Cont} (hn : n0 ≤ h.next) (s : ByO (fun i => n0 ≤ i) h v L) (t : By B h x l) (few : L.length + l.length ≤ 1000000000000)
    (hk : ∀ h' v', ChgP (fun i => n0 ≤ i) h h' → ByO (fun i => n0 ≤ i) h' v' (L ++ l) → k v' h') : appendE 1 1 v x h k := append_byB (fun i hi => Nat.le_trans hn hi) s t few hk
/-- A byte put behind bytes of one's own. -/
theorem push_byB {B0 : Nat → Prop} {h : St} {v : Value} {L : List Nat} {c : Nat} {k : Cont} (hB : ∀ i, h.next ≤ i → B0 i) (s : ByO B0 h v L) (few : L.length ≤ 1000000000000)
    (hk : ∀ h' v', ChgP B0 h h' → ByO B0 h' v' (L ++ [c]) → k v' h') : buildSliceE 1 1 [.int .u8 0] [(0 * 1, 1, .int .u8 (c : Int))] h fun v2 h2 => appendE 1 1 v v2 h2 k := by
  refine append_row (B := B0) hB s rfl rfl rfl rfl (by omega) (by omega) fun h5 out5 c5 s5 => hk h5 out5 c5 ?_
  unfold ByO; rw [List.map_append, List.length_append]; exact s5
theorem fresh_out {h0 h h' : St} (c : Chg h0 h []) (d : ChgP (fun i => h0.next ≤ i) h h') : Chg h0 h' [] := ((c.nil (fun i => h0.next ≤ i)).step d).list fun j h1 h2 => by omega
/-! ### events -/
def zEv : Ev := ⟨0, 0, 0, []⟩
def evV (e : Ev) (sv : Value) : Value := .agg #[.int .i64 e.k, .int .u32 (e.i : Int), .int .u64 (e.n : Int), sv]
def cellsV (p : Ev × Value) : List Value := [.int .i64 p.1.k, .int .u32 (p.1.i : Int), .int .u64 (p.1.n : Int), p.2]
theorem len_V (p : Ev × Value) : (cellsV p).length = 4 := rfl
def EvsAt (B : Nat → Prop) (h : St) (v : Value) (P : List (Ev × Value)) : Prop :=
  SliceAt B h v P.length 4 (fun i => cellsV (P[i]?.getD (zEv, .slice none 0 0))) ∧ ∀ p ∈ P, By B h p.2 p.1.b
/-- Events of one's own. -/
def EvsO (n0 : Nat) (h : St) (v : Value) (P : List (Ev × Value)) : Prop :=
  (v = .slice none 0 0 ∧ P = []) ∨ ∃ q, v = .slice (some ⟨q, 0, some 4⟩) P.length 0 ∧ n0 ≤ q ∧ q < h.next ∧ h.objs q = some (.cells (P.flatMap cellsV) true) ∧ ∀ p ∈ P, By (fun j => n0 ≤ j ∧ j ≠ q) h p.2 p.1.b
theorem flat4 (P : List (Ev × Value)) : (P.flatMap cellsV).length = P.length * 4 := by
  induction P with
  | nil => rfl
  | cons p P ih => rw [List.flatMap_cons, List.length_append, ih, List.length_cons, len_V]; omega
def evs (P : List (Ev × Value)) : List Ev := P.map (·.1)
theorem EvsO.look {n0 : Nat} {h : St} {v : Value} {P : List (Ev × Value)} (s : EvsO n0 h v P) : EvsAt (fun j => n0 ≤ j) h v P := by
  rcases s with ⟨rfl, rfl⟩ | ⟨q, rfl, h1, h2, h3, h4⟩
  · exact ⟨.inl ⟨rfl, rfl⟩, by simp⟩
  · have o : OwnS (fun j => n0 ≤ j) h (.slice (some ⟨q, 0, some 4⟩) P.length 0) 4 (P.flatMap cellsV) P.length := .inr ⟨q, rfl, h1, h2, h3, flat4 P⟩
    exact ⟨o.slice (fun y _ => len_V y) (fun i x hx => by rw [hx]; rfl), fun p hp => SliceAt.imp (h4 p hp) fun _ _ h => h.1⟩
theorem EvsAt.chg0 {B : Nat → Prop} {h h' : St} {v : Value} {P : List (Ev × Value)} (s : EvsAt B h v P) (c : Chg h h' []) : EvsAt B h' v P := ⟨SliceAt.chg s.1 c (by simp), fun p hp => (s.2 p hp).chg0 c⟩
theorem EvsO.chg0 {n0 : Nat} {h h' : St} {v : Value} {P : List (Ev × Value)} (s : EvsO n0 h v P) (c : Chg h h' []) : EvsO n0 h' v P := by
  rcases s with ⟨rfl, rfl⟩ | ⟨q, rfl, h1, h2, h3, h4⟩
  · exact .inl ⟨rfl, rfl⟩
  · exact .inr ⟨q, rfl, h1, Nat.lt_of_lt_of_le h2 c.1, c.at0 h2 h3, fun p hp => (h4 p hp).chg0 c⟩
theorem EvsO.imp {n0 n1 : Nat} {h : St} {v : Value} {P : List (Ev × Value)} (s : EvsO n0 h v P) (hn : n1 ≤ n0) : EvsO n1 h v P := by
  rcases s with ⟨rfl, rfl⟩ | ⟨q, rfl, h1, h2, h3, h4⟩
  · exact .inl ⟨rfl, rfl⟩
  · exact .inr ⟨q, rfl, by omega, h2, h3, fun p hp => SliceAt.imp (h4 p hp) fun j _ hj => ⟨by omega, hj.2⟩⟩
theorem EvsAt.imp {B B' : Nat → Prop} {h : St} {v : Value} {P : List (Ev × Value)} (s : EvsAt B h v P) (hB : ∀ i, i < h.next → B i → B' i) : EvsAt B' h v P := ⟨SliceAt.imp s.1 hB, fun p hp => SliceAt.imp (s.2 p hp) hB⟩
theorem EvsO.nil {n0 : Nat} {h : St} : EvsO n0 h (.slice none 0 0) [] := .inl ⟨rfl, rfl⟩
theorem evs_at {B : Nat → Prop} {h0 : St} {v : Value} {P : List (Ev × Value)} (s : EvsAt B h0 v P) {i : Nat} (hi : i < P.length) (k : IntKind) :
    ∃ b o, idxS 4 v (.int k i) = some (.pointer (some ⟨b, o, none⟩)) ∧ ∀ h, Chg h0 h [] → loadV false 1 (.pointer (some ⟨b, o, none⟩)) h = some (.int .i64 P[i].1.k) ∧ loadV false 1 (.pointer (some ⟨b, o + 1, none⟩)) h = some (.int .u32 (P[i].1.i : Int)) ∧
      loadV false 1 (.pointer (some ⟨b, o + 2, none⟩)) h = some (.int .u64 (P[i].1.n : Int)) ∧ loadV false 1 (.pointer (some ⟨b, o + 3, none⟩)) h = some P[i].2 ∧ loadV true 4 (.pointer (some ⟨b, o, none⟩)) h = some (evV P[i].1 P[i].2) := by
  obtain ⟨b, o, g1, g2, g3, cs, own, g4, g5⟩ := s.1.idx (i := (i : Int)) (by omega) (by omega) k
  have e : cellsV (P[(i : Int).toNat]?.getD (zEv, .slice none 0 0)) = cellsV P[i] := by simp [hi]
  rw [e] at g5
  refine ⟨b, o, g1, fun h c => ?_⟩
  have g := c.at0 g3 g4
  have e0 : cs[o]? = some (.int .i64 P[i].1.k) := row_cell g5 0 (by omega)
  have e1 : cs[o + 1]? = some (.int .u32 (P[i].1.i : Int)) := row_cell g5 1 (by omega)
  have e2 : cs[o + 2]? = some (.int .u64 (P[i].1.n : Int)) := row_cell g5 2 (by omega)
  have e3 : cs[o + 3]? = some P[i].2 := row_cell g5 3 (by omega)
  refine ⟨?_, ?_, ?_, ?_, ?_⟩
  · simp only [loadV_ptr, g, loadM_cells, partV_one, e0]
  · simp only [loadV_ptr, g, loadM_cells, partV_one, e1]
  · simp only [loadV_ptr, g, loadM_cells, partV_one, e2]
  · simp only [loadV_ptr, g, loadM_cells, partV_one, e3]
  · simp only [loadV_ptr, g, loadM_cells, partV_agg, g5, Option.map_some]; rfl
theorem append_rowC {B : Nat → Prop} {h : St} {v x : Value} {sz n bytes : Nat} {cs z : List Value} {k : Cont} {Q : St → Prop} (hB : ∀ i, h.next ≤ i → B i) (s : OwnS B h v sz cs n) (hz : z.length = sz) (hx : x.cells.size = sz) (h1 : allOne x.cells.toList = true) (hu : isUnk x = false)
    (hb : (n + 1) * bytes ≤ 140737488355328) (hb' : n + 1 ≤ 140737488355328) (hQ : ∀ h2, Chg h h2 [] → Q h2) (hk : ∀ h' v', ChgP B h h' → OwnS B h' v' sz (cs ++ x.cells.toList) (n + 1) → k v' h') : buildSliceE sz 1 z [(0 * sz, sz, x)] h fun v2 h2 => Q h2 ∧ appendE sz bytes v v2 h2 k := by
  have hl : x.cells.toList.length = sz := by simpa using hx
  have hf : fillL [(0 * sz, sz, x)] (repL z 1) = some x.cells.toList := by
    simp only [fillL, repL, List.append_nil, Nat.zero_mul, Nat.zero_add]
    rw [if_pos ⟨hx, by omega⟩, List.take_zero, List.nil_append, ← hz, List.drop_length, List.append_nil]
  refine buildSliceE_in x.cells.toList hf h1 (by simp [hu]) fun h2 c2 n2 o2 => ⟨hQ h2 c2, ?_⟩
  have hn : newCells sz (.slice (some ⟨h.next, 0, some sz⟩) 1 0) h2 = some (x.cells.toList, 1) := by
    simp only [newCells, o2, Nat.one_mul]
    unfold takeN
    rw [if_pos (by omega), List.drop_zero, ← hl, List.take_length]
    rfl
  have s2 := s.chg c2 (by simp)
  exact append_own' (hB _ (by omega)) s2 hn (by omega) h1 hb hb' fun h' v' c s' => hk h' v' ((c2.nil B).step c) s'
theorem EvsO.opens {n0 : Nat} {h0 h : St} {v sv : Value} {P : List (Ev × Value)} {e : Ev} (hn : n0 ≤ h0.next) (c : Chg h0 h []) (s : EvsO n0 h0 v P) (t : By (fun j => h0.next ≤ j) h sv e.b) :
    ∃ B : Nat → Prop, (∀ i, h.next ≤ i → B i) ∧ OwnS B h v 4 (P.flatMap cellsV) P.length ∧ ∀ h5 out5, ChgP B h h5 → OwnS B h5 out5 4 (P.flatMap cellsV ++ cellsV (e, sv)) (P.length + 1) → ChgP (fun i => n0 ≤ i ∧ (i < h0.next ∨ h.next ≤ i)) h h5 ∧ EvsO n0 h5 out5 (P ++ [(e, sv)]) := by
  have m := c.1
  have e2 : (P ++ [(e, sv)]).flatMap cellsV = P.flatMap cellsV ++ cellsV (e, sv) := by simp
  -- the rows lie in one block, or nowhere
  obtain ⟨B, hB, hB2, so, sb⟩ : ∃ B : Nat → Prop, (∀ i, h.next ≤ i → B i) ∧ (∀ i, B i → n0 ≤ i ∧ (i < h0.next ∨ h.next ≤ i)) ∧ OwnS B h v 4 (P.flatMap cellsV) P.length ∧ ∀ p ∈ P, By (fun j => n0 ≤ j ∧ ¬ B j) h p.2 p.1.b := by
    rcases s with ⟨rfl, rfl⟩ | ⟨q, rfl, h1, h2, h3, h4⟩
    · exact ⟨fun i => h.next ≤ i, fun _ h => h, fun i hi => ⟨by omega, .inr hi⟩, .inl ⟨rfl, rfl, rfl⟩, by simp⟩
    · refine ⟨fun i => i = q ∨ h.next ≤ i, fun _ h => .inr h, fun i hi => by rcases hi with rfl | hi <;> omega, .inr ⟨q, rfl, .inl rfl, by omega, c.at0 h2 h3, flat4 P⟩, fun p hp => ?_⟩
      exact SliceAt.imp ((h4 p hp).chg0 c) fun j hj hb => ⟨hb.1, fun hh => by rcases hh with hh | hh; exact hb.2 hh; omega⟩
  refine ⟨B, hB, so, fun h5 out5 c5 s5 => ⟨c5.mono fun i _ hi => hB2 i hi, ?_⟩⟩
  have s5 : OwnS B h5 out5 4 ((P ++ [(e, sv)]).flatMap cellsV) (P ++ [(e, sv)]).length := by rw [e2, List.length_append]; exact s5
  have keep : ∀ {x : Value} {l : List Nat}, By (fun j => n0 ≤ j ∧ ¬ B j) h x l → By (fun j => n0 ≤ j ∧ ¬ B j ∧ j < h.next) h5 x l := fun {x l} y =>
    SliceAt.chgP (SliceAt.imp y fun j hj hb => (⟨hb.1, hb.2, hj⟩ : n0 ≤ j ∧ ¬ B j ∧ j < h.next)) c5 fun j h1 h2 => h2.2.1 h1
  rcases s5 with ⟨_, h2, _⟩ | ⟨q, e5, bq, qn, oq, _⟩
  · rw [List.length_append] at h2; simp at h2
  · refine .inr ⟨q, e5, (hB2 q bq).1, qn, oq, fun p hp => ?_⟩
    have ne : ∀ j, ¬ B j → j ≠ q := fun j hj h => hj (h ▸ bq)
    rcases List.mem_append.1 hp with hp | hp
    · exact SliceAt.imp (keep (sb p hp)) fun j _ hb => ⟨hb.1, ne j hb.2.1⟩
    · rw [List.mem_singleton] at hp
      subst hp
      have t' : By (fun j => n0 ≤ j ∧ ¬ B j) h sv e.b := SliceAt.imp t fun j hj hb => ⟨by omega, fun hh => by have := (hB2 j hh).2; omega⟩
      exact SliceAt.imp (keep t') fun j _ hb => ⟨hb.1, ne j hb.2.1⟩
/-- An event put behind events of one's own. -/
theorem push_ev {n0 : Nat} {h0 h : St} {v sv : Value} {P : List (Ev × Value)} {e : Ev} {k : Cont} (hn : n0 ≤ h0.next) (c : Chg h0 h []) (s : EvsO n0 h0 v P) (t : By (fun j => h0.next ≤ j) h sv e.b) (few : P.length ≤ 100000000)
    (hk : ∀ h' v', ChgP (fun i => n0 ≤ i ∧ (i < h0.next ∨ h.next ≤ i)) h h' → EvsO n0 h' v' (P ++ [(e, sv)]) → k v' h') : buildSliceE 4 1 [.int .i64 0, .int .u32 0, .int .u64 0, .slice none 0 0] [(0 * 4, 4, evV e sv)] h fun v2 h2 => appendE 4 48 v v2 h2 k := by
  have z := t.one
  obtain ⟨B, hB, so, fin⟩ := EvsO.opens hn c s t
  exact append_row (B := B) hB so rfl rfl (by show allOne [_, _, _, sv] = true; simp [allOne, z]) rfl (by omega) (by omega) fun h5 out5 c5 s5 => hk h5 out5 (fin h5 out5 c5 s5).1 (fin h5 out5 c5 s5).2
theorem push_evC {n0 : Nat} {h0 h : St} {v sv : Value} {P : List (Ev × Value)} {e : Ev} {k : Cont} {Q R : St → Prop} (hn : n0 ≤ h0.next) (c : Chg h0 h []) (s : EvsO n0 h0 v P) (t : By (fun j => h0.next ≤ j) h sv e.b) (few : P.length ≤ 100000000) (hQ : ∀ h2, Chg h h2 [] → Q h2)
    (hk : ∀ h' v', ChgP (fun i => n0 ≤ i ∧ (i < h0.next ∨ h.next ≤ i)) h h' → EvsO n0 h' v' (P ++ [(e, sv)]) → R h' ∧ k v' h') : buildSliceE 4 1 [.int .i64 0, .int .u32 0, .int .u64 0, .slice none 0 0] [(0 * 4, 4, evV e sv)] h fun v2 h2 => Q h2 ∧ appendE 4 48 v v2 h2 fun v3 h3 => R h3 ∧ k v3 h3 := by
  have z := t.one
  obtain ⟨B, hB, so, fin⟩ := EvsO.opens hn c s t
  exact append_rowC (B := B) hB so rfl rfl (by show allOne [_, _, _, sv] = true; simp [allOne, z]) rfl (by omega) (by omega) hQ fun h5 out5 c5 s5 => hk h5 out5 (fin h5 out5 c5 s5).1 (fin h5 out5 c5 s5).2
/-- A box of one's own that holds an event. -/
def BxE (h : St) (b : Nat) (e : Ev) (sv : Value) : Prop := b < h.next ∧ h.objs b = some (.cells (cellsV (e, sv)) true)
theorem BxE.chg0 {h h' : St} {b : Nat} {e : Ev} {sv : Value} (x : BxE h b e sv) (c : Chg h h' []) : BxE h' b e sv := ⟨Nat.lt_of_lt_of_le x.1 c.1, c.at0 x.1 x.2⟩
theorem BxE.ld {h : St} {b : Nat} {e : Ev} {sv : Value} (x : BxE h b e sv) : loadV false 1 (.pointer (some ⟨b, 0, none⟩)) h = some (.int .i64 e.k) ∧ loadV false 1 (.pointer (some ⟨b, 1, none⟩)) h = some (.int .u32 (e.i : Int)) ∧
    loadV false 1 (.pointer (some ⟨b, 2, none⟩)) h = some (.int .u64 (e.n : Int)) ∧ loadV false 1 (.pointer (some ⟨b, 3, none⟩)) h = some sv ∧ loadV true 4 (.pointer (some ⟨b, 0, none⟩)) h = some (evV e sv) := by
  obtain ⟨_, o⟩ := x
  have tk : takeN (cellsV (e, sv)) 0 4 = some (cellsV (e, sv)) := rfl
  refine ⟨?_, ?_, ?_, ?_, ?_⟩
  · simp only [loadV_ptr, o, loadM_cells, partV_one]; rfl
  · simp only [loadV_ptr, o, loadM_cells, partV_one]; rfl
  · simp only [loadV_ptr, o, loadM_cells, partV_one]; rfl
  · simp only [loadV_ptr, o, loadM_cells, partV_one]; rfl
  · simp only [loadV_ptr, o, loadM_cells, partV_agg, tk, Option.map_some]; rfl
theorem box_ev {B : Nat → Prop} {h : St} {e : Ev} {sv : Value} {k : Cont} (t : By B h sv e.b) (K : ∀ h', Chg h h' [] → h'.next = h.next + 1 → BxE h' h.next e sv → k (.pointer (some ⟨h.next, 0, none⟩)) h') : boxE (evV e sv) h k := by
  have z := t.one
  refine boxE_in (by show allOne [_, _, _, sv] = true; simp [allOne, z]) fun h' c n o => K h' c n ⟨by omega, o⟩
end Go.Proofs.YtnnjcenoihdhfaaGreatDoor
end

section
set_option linter.unusedSimpArgs false
set_option linter.unusedVariables false
set_option maxHeartbeats 4000000
namespace Go.Proofs.YtnnjcenoihdhfaaGreatDoor
open Go.Abs Go.IntWalk
attribute [local congr] bindV_weak condK_weak guardK_weak groupK_weak allocE_weak boxE_weak storeE_weak storeM_weak tabC_weak ite_weak idG_weak appendE_weak buildSliceE_weak mapUpdateE_weak deleteE_weak makeMapE_weak copyE_weak clearE_weak callE_weak

theorem qk (k n : Int) : binNil .eql .other (.int .i64 k) (.int .i64 n) = some (.bool (decide (k = n))) := by rw [binNil_int, binV_eql]
theorem nk (k n : Int) : binNil .neq .other (.int .i64 k) (.int .i64 n) = some (.bool (!decide (k = n))) := by
  rw [binNil_int, binV_neq, show decide (k ≠ n) = (!decide (k = n)) by by_cases h : k = n <;> simp [h]]
theorem len0 (n : Nat) : binNil .eql .other (.int .i64 (n : Int)) (.int .i64 0) = some (.bool (decide (n = 0))) := by
  rw [qk, show decide ((n : Int) = 0) = decide (n = 0) from decide_eq_decide.2 (by omega)]
/-! ### is it right? -/
def rRightO : Abs.Spec := fun args h k => ∃ (B : Nat → Prop) (e : Ev) (sv : Value), args = [evV e sv] ∧ By B h sv e.b ∧ ∀ h', Chg h h' [] → k (.bool (okE e)) h'
theorem rRightO_good : SpecGood Tryz.prog (7, rRightO) := by
  refine spec_good mixed Tryz.func7 (by kernel_rfl) (by kernel_rfl) (tab := []) (by simp) (keep := r_Right_keep) ?_
  rintro args h k ⟨B, e, sv, rfl, t, H⟩
  refine ⟨0, ?_⟩
  show r_Right (tabC _) idG 0 (evV e sv) h _
  rw [r_Right_eq]
  refine box_ev t fun h1 c1 n1 x => ?_
  obtain ⟨f0, f1, f2, f3, f4⟩ := x.ld
  have tl := SliceAt.len t
  have H := H h1 c1
  have qi : binNil .eql .other (.int .u32 (e.i : Int)) (.int .u32 0) = some (.bool (decide (e.i = 0))) := by rw [binNil_int]; exact eqN .u32 e.i 0
  have qn : binNil .eql .other (.int .u64 (e.n : Int)) (.int .u64 0) = some (.bool (decide (e.n = 0))) := by rw [binNil_int]; exact eqN .u64 e.n 0
  have fin : ∀ b, okE e = b → ∃ h2, St.le h2 h1 ∧ k (.bool b) h2 := fun b hb => ⟨h1, St.le.refl _, hb ▸ H⟩
  have g2 : ∀ (bi bl : Bool), okE e = (bi && bl) → groupK (.bool bi) true [undef] h1 (fun J => J [.bool bl] h1) (fun xs h4 => idG (bindV (pickV (.bool bi) (getT xs 0) (.bool false)) fun v => ∃ h2, St.le h2 h4 ∧ k v h2)) := by
    intro bi bl hb
    cases bi with
    | true =>
      simp only [groupK_eq, guardK_bool, if_true, idG_eq, getT, pickV_bool, bindV_some]
      exact fin bl (by simpa using hb)
    | false =>
      simp only [groupK_eq, guardK_bool, Bool.false_eq_true, if_false, idG_eq, pickV_bool, bindV_some]
      exact fin false (by simpa using hb)
  have o1 : e.k = 1 ∨ e.k = 8 → okE e = decide (e.b.length = 0) := fun h => decide_eq_decide.2 (by omega)
  have o2 : e.k = 2 ∨ e.k = 7 → okE e = (decide (e.i = 0) && decide (e.b.length = 0)) := fun h => by
    rw [← Bool.decide_and]; exact decide_eq_decide.2 (by omega)
  have o3 : e.k = 3 ∨ e.k = 4 → okE e = (decide (e.n = 0) && decide (e.b.length = 0)) := fun h => by
    rw [← Bool.decide_and]; exact decide_eq_decide.2 (by omega)
  have o5 : e.k = 5 ∨ e.k = 6 → okE e = (decide (e.n = 0) && decide (e.b.length ≤ 65535)) := fun h => by
    rw [← Bool.decide_and]; exact decide_eq_decide.2 (by omega)
  simp only [offV_ptr, Nat.zero_add, bindV_some, f1]
  refine ⟨trivial, ?_⟩
  simp only [qi, bindV_some, offV_ptr, Nat.zero_add, f2]
  refine ⟨trivial, ?_⟩
  simp only [qn, bindV_some, offV_ptr, Nat.zero_add, f3]
  refine ⟨trivial, ?_⟩
  simp only [tl, len0, bindV_some, offV_ptr, Nat.zero_add, f0]
  simp only [qk, bindV_some]
  by_cases k1 : e.k = 1
  · simp only [decide_eq_true k1, condK_bool, if_true, idG_eq]
    rw [r_Right_j0_eq]
    simp only [condK_bool, if_true]
    exact fin _ (o1 (.inl k1))
  simp only [decide_eq_false k1, condK_bool, Bool.false_eq_true, if_false, qk, bindV_some, idG_eq]
  rw [r_Right_j0_eq]
  by_cases k8 : e.k = 8
  · simp only [decide_eq_true k8, condK_bool, if_true]
    exact fin _ (o1 (.inr k8))
  simp only [decide_eq_false k8, condK_bool, Bool.false_eq_true, if_false, qk, bindV_some]
  by_cases k2 : e.k = 2
  · simp only [decide_eq_true k2, condK_bool, if_true, idG_eq]
    rw [r_Right_j1_eq]
    simp only [condK_bool, if_true]
    exact g2 _ _ (o2 (.inl k2))
  simp only [decide_eq_false k2, condK_bool, Bool.false_eq_true, if_false, qk, bindV_some, idG_eq]
  rw [r_Right_j1_eq]
  by_cases k7 : e.k = 7
  · simp only [decide_eq_true k7, condK_bool, if_true]
    exact g2 _ _ (o2 (.inr k7))
  simp only [decide_eq_false k7, condK_bool, Bool.false_eq_true, if_false, qk, bindV_some]
  by_cases k3 : e.k = 3
  · simp only [decide_eq_true k3, condK_bool, if_true, idG_eq]
    rw [r_Right_j2_eq]
    simp only [condK_bool, if_true]
    exact g2 _ _ (o3 (.inl k3))
  simp only [decide_eq_false k3, condK_bool, Bool.false_eq_true, if_false, qk, bindV_some, idG_eq]
  rw [r_Right_j2_eq]
  by_cases k4 : e.k = 4
  · simp only [decide_eq_true k4, condK_bool, if_true]
    exact g2 _ _ (o3 (.inr k4))
  simp only [decide_eq_false k4, condK_bool, Bool.false_eq_true, if_false, qk, bindV_some]
  have le : binNil .leq .other (.int .i64 (e.b.length : Int)) (.int .i64 65535) = some (.bool (decide (e.b.length ≤ 65535))) := by
    rw [binNil_int, binV_leq, show decide ((e.b.length : Int) ≤ 65535) = decide (e.b.length ≤ 65535) from decide_eq_decide.2 (by omega)]
  have g5 : (e.k = 5 ∨ e.k = 6) → groupK (.bool (decide (e.n = 0))) true [undef, undef, undef, undef] h1 (fun J8 => bindV (offV 3 (.pointer (some ⟨h.next, 0, none⟩))) fun v41 => bindV (loadV false 1 v41 h1) fun v42 => bindV (lenS v42) fun v43 => bindV (binNil .leq .other v43 (.int .i64 65535)) fun v44 => J8 [v41, v42, v43, v44] h1) (fun xs9 h10 => idG (bindV (pickV (.bool (decide (e.n = 0))) (getT xs9 3) (.bool false)) fun v45 => ∃ h2, St.le h2 h10 ∧ k v45 h2)) := by
    intro h56
    have o := o5 h56
    cases hb : decide (e.n = 0) with
    | true =>
      rw [hb] at o
      simp only [groupK_eq, guardK_bool, if_true, offV_ptr, Nat.zero_add, bindV_some, f3, tl, le, idG_eq, getT, pickV_bool]
      exact fin _ (by simpa using o)
    | false =>
      rw [hb] at o
      simp only [groupK_eq, guardK_bool, Bool.false_eq_true, if_false, idG_eq, pickV_bool, bindV_some]
      exact fin _ (by simpa using o)
  by_cases k5 : e.k = 5
  · simp only [decide_eq_true k5, condK_bool, if_true, idG_eq]
    rw [r_Right_j3_eq]
    simp only [condK_bool, if_true]
    exact g5 (.inl k5)
  simp only [decide_eq_false k5, condK_bool, Bool.false_eq_true, if_false, qk, bindV_some, idG_eq]
  rw [r_Right_j3_eq]
  by_cases k6 : e.k = 6
  · simp only [decide_eq_true k6, condK_bool, if_true]
    exact g5 (.inr k6)
  simp only [decide_eq_false k6, condK_bool, Bool.false_eq_true, if_false, idG_eq]
  rw [r_Right_j4_eq]
  exact fin _ (decide_eq_false (by omega))
def qRightO : Abs.Spec := rRightO
theorem qRightO_good : SpecGood Tryz.prog (9, qRightO) := by
  refine spec_good mixed Tryz.func9 (by kernel_rfl) (by kernel_rfl) (tab := []) (by simp) (keep := q_Right_keep) ?_
  rintro args h k ⟨B, e, sv, rfl, t, H⟩
  refine ⟨0, ?_⟩
  show q_Right (tabC _) idG 0 (evV e sv) h _
  rw [q_Right_eq]
  refine box_ev t fun h1 c1 n1 x => ?_
  obtain ⟨f0, f1, f2, f3, f4⟩ := x.ld
  have tl := SliceAt.len t
  have H := H h1 c1
  have fin : ∀ b, okE e = b → ∃ h2, St.le h2 h1 ∧ k (.bool b) h2 := fun b hb => ⟨h1, St.le.refl _, hb ▸ H⟩
  have a1 : binNil .lss .other (.int .i64 e.k) (.int .i64 1) = some (.bool (decide (e.k < 1))) := by rw [binNil_int, binV_lss]
  have a2 : binNil .gtr .other (.int .i64 e.k) (.int .i64 8) = some (.bool (decide (8 < e.k))) := by rw [binNil_int, binV_gtr]
  have a3 : binNil .gtr .other (.int .i64 (e.b.length : Int)) (.int .i64 65535) = some (.bool (decide (65535 < e.b.length))) := by
    rw [binNil_int, binV_gtr, show decide ((e.b.length : Int) > 65535) = decide (65535 < e.b.length) from decide_eq_decide.2 (by omega)]
  have a4 : binNil .gtr .other (.int .i64 (e.b.length : Int)) (.int .i64 0) = some (.bool (decide (0 < e.b.length))) := by
    rw [binNil_int, binV_gtr, show decide ((e.b.length : Int) > 0) = decide (0 < e.b.length) from decide_eq_decide.2 (by omega)]
  have a7 : binNil .neq .other (.int .u64 (e.n : Int)) (.int .u64 0) = some (.bool (!decide (e.n = 0))) := by rw [binNil_int]; exact neN .u64 e.n 0
  have a8 : binNil .geq .other (.int .i64 e.k) (.int .i64 3) = some (.bool (decide (3 ≤ e.k))) := by rw [binNil_int, binV_geq]
  have a9 : binNil .leq .other (.int .i64 e.k) (.int .i64 6) = some (.bool (decide (e.k ≤ 6))) := by rw [binNil_int, binV_leq]
  have ai : binNil .eql .other (.int .u32 (e.i : Int)) (.int .u32 0) = some (.bool (decide (e.i = 0))) := by rw [binNil_int]; exact eqN .u32 e.i 0
  simp only [offV_ptr, Nat.zero_add, bindV_some, f0, a1]
  by_cases b1 : e.k < 1
  · simp only [decide_eq_true b1, groupK_eq, guardK_bool, Bool.true_eq_false, if_false, idG_eq, pickV_bool, if_true, bindV_some, condK_bool]
    exact fin _ (decide_eq_false (by omega))
  simp only [decide_eq_false b1, groupK_eq, guardK_bool, if_true, offV_ptr, Nat.zero_add, bindV_some, f0, a2, idG_eq, getT, pickV_bool, Bool.false_eq_true, if_false]
  by_cases b2 : 8 < e.k
  · simp only [decide_eq_true b2, groupK_eq, guardK_bool, Bool.true_eq_false, if_false, idG_eq, pickV_bool, if_true, bindV_some, condK_bool]
    exact fin _ (decide_eq_false (by omega))
  simp only [decide_eq_false b2, groupK_eq, guardK_bool, if_true, offV_ptr, Nat.zero_add, bindV_some, f3, tl, a3, idG_eq, getT, pickV_bool, Bool.false_eq_true, if_false, condK_bool, decide_eq_true_eq]
  by_cases b3 : 65535 < e.b.length
  · rw [if_pos b3]
    exact fin _ (decide_eq_false (by omega))
  rw [if_neg b3]
  simp only [offV_ptr, Nat.zero_add, bindV_some, f3, tl, a4]
  -- the number, the id
  have last : (0 < e.b.length → e.k = 5 ∨ e.k = 6) → idG (bindV (offV 2 (.pointer (some ⟨h.next, 0, none⟩))) fun v31 => bindV (loadV false 1 v31 h1) fun v32 => bindV (binNil .neq .other v32 (.int .u64 0)) fun v33 => groupK v33 true [undef, undef, undef] h1 (fun J14 => bindV (offV 0 (.pointer (some ⟨h.next, 0, none⟩))) fun v35 => bindV (loadV false 1 v35 h1) fun v36 => bindV (binNil .geq .other v36 (.int .i64 3)) fun v37 => J14 [v35, v36, v37] h1) fun xs15 h16 => idG (bindV (pickV v33 (getT xs15 2) (.bool false)) fun v38 => groupK v38 true [undef, undef, undef] h16 (fun J17 => bindV (offV 0 (.pointer (some ⟨h.next, 0, none⟩))) fun v40 => bindV (loadV false 1 v40 h16) fun v41 => bindV (binNil .leq .other v41 (.int .i64 6)) fun v42 => J17 [v40, v41, v42] h16) fun xs18 h19 => idG (bindV (pickV v38 (getT xs18 2) (.bool false)) fun v43 => condK v43 (∃ h2, St.le h2 h19 ∧ k (.bool false) h2) (idG (bindV (offV 1 (.pointer (some ⟨h.next, 0, none⟩))) fun v44 => bindV (loadV false 1 v44 h19) fun v45 => bindV (binNil .eql .other v45 (.int .u32 0)) fun v46 => groupK v46 false [undef, undef, undef, undef] h19 (fun J20 => bindV (offV 0 (.pointer (some ⟨h.next, 0, none⟩))) fun v48 => bindV (loadV false 1 v48 h19) fun v49 => bindV (binNil .neq .other v49 (.int .i64 2)) fun v50 => J20 [v48, v49, v50, v50] h19) fun xs21 h22 => idG (groupK (getT xs21 3) true [undef, undef, undef] h22 (fun J23 => bindV (offV 0 (.pointer (some ⟨h.next, 0, none⟩))) fun v52 => bindV (loadV false 1 v52 h22) fun v53 => bindV (binNil .neq .other v53 (.int .i64 7)) fun v54 => J23 [v52, v53, v54] h22) fun xs24 h25 => idG (groupK v46 false [undef] h25 (fun J26 => bindV (pickV (getT xs21 3) (getT xs24 2) (.bool false)) fun v55 => J26 [v55] h25) fun xs27 h28 => idG (bindV (pickV v46 (.bool true) (getT xs27 0)) fun v56 => ∃ h2, St.le h2 h28 ∧ k v56 h2)))))))) := by
    intro hb
    have tail : ¬ (e.n ≠ 0 ∧ 3 ≤ e.k ∧ e.k ≤ 6) → idG (bindV (offV 1 (.pointer (some ⟨h.next, 0, none⟩))) fun v44 => bindV (loadV false 1 v44 h1) fun v45 => bindV (binNil .eql .other v45 (.int .u32 0)) fun v46 => groupK v46 false [undef, undef, undef, undef] h1 (fun J20 => bindV (offV 0 (.pointer (some ⟨h.next, 0, none⟩))) fun v48 => bindV (loadV false 1 v48 h1) fun v49 => bindV (binNil .neq .other v49 (.int .i64 2)) fun v50 => J20 [v48, v49, v50, v50] h1) fun xs21 h22 => idG (groupK (getT xs21 3) true [undef, undef, undef] h22 (fun J23 => bindV (offV 0 (.pointer (some ⟨h.next, 0, none⟩))) fun v52 => bindV (loadV false 1 v52 h22) fun v53 => bindV (binNil .neq .other v53 (.int .i64 7)) fun v54 => J23 [v52, v53, v54] h22) fun xs24 h25 => idG (groupK v46 false [undef] h25 (fun J26 => bindV (pickV (getT xs21 3) (getT xs24 2) (.bool false)) fun v55 => J26 [v55] h25) fun xs27 h28 => idG (bindV (pickV v46 (.bool true) (getT xs27 0)) fun v56 => ∃ h2, St.le h2 h28 ∧ k v56 h2)))) := by
      intro hn
      simp only [idG_eq, offV_ptr, Nat.zero_add, bindV_some, f1, ai]
      by_cases i0 : e.i = 0
      · simp only [decide_eq_true i0, groupK_eq, guardK_bool, Bool.true_eq_false, if_false, idG_eq, getT, pickV_bool, if_true, bindV_some]
        exact fin _ (decide_eq_true (by omega))
      simp only [decide_eq_false i0, groupK_eq, guardK_bool, if_true, offV_ptr, Nat.zero_add, bindV_some, f0, nk, idG_eq, getT, pickV_bool, Bool.false_eq_true, if_false]
      by_cases k2 : e.k = 2
      · simp only [decide_eq_true k2, Bool.not_true, groupK_eq, guardK_bool, Bool.false_eq_true, if_false, if_true, idG_eq, getT, pickV_bool, bindV_some]
        exact fin _ (decide_eq_false (by omega))
      simp only [decide_eq_false k2, Bool.not_false, groupK_eq, guardK_bool, if_true, offV_ptr, Nat.zero_add, bindV_some, f0, nk, idG_eq, getT, pickV_bool, Bool.false_eq_true, if_false]
      by_cases k7 : e.k = 7
      · simp only [decide_eq_true k7, Bool.not_true]
        exact fin _ (decide_eq_false (by omega))
      · simp only [decide_eq_false k7, Bool.not_false]
        exact fin _ (decide_eq_true (by omega))
    simp only [idG_eq, offV_ptr, Nat.zero_add, bindV_some, f2, a7]
    by_cases n0 : e.n = 0
    · simp only [decide_eq_true n0, Bool.not_true, groupK_eq, guardK_bool, Bool.false_eq_true, if_false, idG_eq, pickV_bool, bindV_some, condK_bool]
      have := tail (by omega)
      simp only [idG_eq] at this
      exact this
    simp only [decide_eq_false n0, Bool.not_false, groupK_eq, guardK_bool, if_true, offV_ptr, Nat.zero_add, bindV_some, f0, a8, idG_eq, getT, pickV_bool]
    by_cases k3 : 3 ≤ e.k
    · simp only [decide_eq_true k3, groupK_eq, guardK_bool, if_true, offV_ptr, Nat.zero_add, bindV_some, f0, a9, idG_eq, getT, pickV_bool, condK_bool, decide_eq_true_eq]
      by_cases k6 : e.k ≤ 6
      · rw [if_pos k6]
        exact fin _ (decide_eq_false (by omega))
      · rw [if_neg k6]
        have := tail (by omega)
        simp only [idG_eq] at this
        exact this
    · simp only [decide_eq_false k3, groupK_eq, guardK_bool, Bool.false_eq_true, if_false, idG_eq, pickV_bool, bindV_some, condK_bool]
      have := tail (by omega)
      simp only [idG_eq] at this
      exact this
  by_cases b4 : 0 < e.b.length
  · simp only [decide_eq_true b4, groupK_eq, guardK_bool, if_true, offV_ptr, Nat.zero_add, bindV_some, f0, nk, idG_eq, getT, pickV_bool]
    by_cases k5 : e.k = 5
    · simp only [decide_eq_true k5, Bool.not_true, groupK_eq, guardK_bool, Bool.false_eq_true, if_false, idG_eq, pickV_bool, bindV_some, condK_bool]
      have := last (fun _ => .inl k5)
      simp only [idG_eq] at this
      exact this
    simp only [decide_eq_false k5, Bool.not_false, groupK_eq, guardK_bool, if_true, offV_ptr, Nat.zero_add, bindV_some, f0, nk, idG_eq, getT, pickV_bool]
    by_cases k6 : e.k = 6
    · simp only [decide_eq_true k6, Bool.not_true, condK_bool, Bool.false_eq_true, if_false]
      have := last (fun _ => .inr k6)
      simp only [idG_eq] at this
      exact this
    · simp only [decide_eq_false k6, Bool.not_false, condK_bool, if_true]
      exact fin _ (decide_eq_false (by omega))
  · simp only [decide_eq_false b4, groupK_eq, guardK_bool, Bool.false_eq_true, if_false, idG_eq, pickV_bool, bindV_some, condK_bool]
    have := last (fun h => absurd h b4)
    simp only [idG_eq] at this
    exact this
/-! ### copies, alike -/
def bCloneO : Abs.Spec := fun args h k => ∃ (B : Nat → Prop) (v : Value) (l : List Nat), args = [v] ∧ l.length ≤ 1000000000 ∧ By B h v l ∧ ∀ h' v', Chg h h' [] → By (fun j => h.next ≤ j) h' v' l → k v' h'
theorem bCloneO_good : SpecGood Tryz.prog (32, bCloneO) := by
  refine spec_good mixed Tryz.func32 (by kernel_rfl) (by kernel_rfl) (tab := []) (by simp) (keep := b_Clone_keep) ?_
  rintro args h k ⟨B, v, l, rfl, few, t, H⟩
  refine ⟨0, ?_⟩
  show b_Clone (tabC _) idG 0 v h _
  rw [b_Clone_eq]
  rcases t with ⟨rfl, hl⟩ | ⟨b, off, sp, c, rfl, g, hs⟩
  · have : l = [] := List.eq_nil_of_length_eq_zero hl
    subst this
    have q : binNil .eql .slice (.slice none 0 0) (.slice none 0 0) = some (.bool true) := rfl
    simp only [q, bindV_some, condK_bool, if_true]
    exact ⟨h, St.le.refl _, H h _ (Chg.refl _ _) By.nil⟩
  · have q : binNil .eql .slice (.slice (some ⟨b, off, sp⟩) l.length c) (.slice none 0 0) = some (.bool false) := rfl
    simp only [q, bindV_some, condK_bool, Bool.false_eq_true, if_false, idG_eq]
    refine append_new (B := B) (.inr ⟨b, off, sp, c, rfl, g, hs⟩) (by omega) fun h' v' c o => ⟨h', St.le.refl _, H h' v' c (own_bytes o)⟩
theorem text_by {B : Nat → Prop} {h : St} {v : Value} {l : List Nat} (s : By B h v l) : textOf v h = some (.string (bytesText l)) := text_slice s
theorem binV_text (s : Shp) (a : ByteArray) : binV .eql s (.string a) (.string a) = some (.bool true) := by simp [binV, isShift, textV]
theorem eqI (k : IntKind) (a : Int) : binV .eql .other (.int k a) (.int k a) = some (.bool true) := by rw [binV_eql]; simp
def qSameO : Abs.Spec := fun args h k => ∃ (B C : Nat → Prop) (a : Ev) (sv sw : Value), args = [evV a sv, evV a sw] ∧ By B h sv a.b ∧ By C h sw a.b ∧ ∀ h', Chg h h' [] → k (.bool true) h'
theorem qSameO_good : SpecGood Tryz.prog (25, qSameO) := by
  refine spec_good mixed Tryz.func25 (by kernel_rfl) (by kernel_rfl) (tab := []) (by simp) (keep := q_Same_keep) ?_
  rintro args h k ⟨B, C, a, sv, sw, rfl, t, u, H⟩
  refine ⟨0, ?_⟩
  show q_Same (tabC _) idG 0 (evV a sv) (evV a sw) h _
  rw [q_Same_eq]
  refine box_ev t fun h1 c1 n1 x => ?_
  refine box_ev (u.chg0 c1) fun h2 c2 n2 y => ?_
  obtain ⟨f0, f1, f2, f3, f4⟩ := (x.chg0 c2).ld
  obtain ⟨g0, g1, g2, g3, g4⟩ := y.ld
  have c02 := c1.seq c2
  simp only [offV_ptr, Nat.zero_add, bindV_some, f0, f1, f2, f3, g0, g1, g2, g3, eqI, groupK_eq, guardK_bool, if_true, idG_eq, getT, pickV_bool, text_by (t.chg0 c02), text_by (u.chg0 c02), binV_text]
  exact ⟨h2, St.le.refl _, H h2 c02⟩
def sameO : Abs.Spec := fun args h k => ∃ (B C : Nat → Prop) (v w : Value) (P Q : List (Ev × Value)), args = [v, w] ∧ P.length ≤ 1000000 ∧ EvsAt B h v P ∧ EvsAt C h w Q ∧ evs P = evs Q ∧ ∀ h', Chg h h' [] → k (.bool true) h'
theorem build_ev {B : Nat → Prop} {h : St} {sv : Value} {e : Ev} {l : List Nat} (t : By B h sv l) : buildV [.int .i64 0, .int .u32 0, .int .u64 0, .slice none 0 0] (some [(0, 1, .int .i64 e.k), (1, 1, .int .u32 (e.i : Int)), (2, 1, .int .u64 (e.n : Int)), (3, 1, sv)]) = some (evV e sv) := by
  have c1 := SliceAt.cells1 t
  have u1 := SliceAt.isUnk t
  simp [buildV, fillL, c1, u1, evV]
theorem evs_len (P : List (Ev × Value)) : (evs P).length = P.length := List.length_map ..
theorem same_l0 {nn : Nat} {v w x4 : Value} {B C : Nat → Prop} {P Q : List (Ev × Value)} {h0 : St} {k : Cont} (few : P.length ≤ 1000000) (s : EvsAt B h0 v P) (u : EvsAt C h0 w Q) (eq : evs P = evs Q) (H : ∀ h', Chg h0 h' [] → k (.bool true) h') :
    ∀ (d i m0 : Nat) (h : St), i + d = P.length → d < m0 → Chg h0 h [] →
      w_same_l0 (tabC [(25, qSameO)]) idG nn m0 v w x4 (.int .i64 (i : Int)) h (fun v h1 => ∃ h2, St.le h2 h1 ∧ k v h2) := by
  have lQ : Q.length = P.length := by rw [← evs_len Q, ← eq, evs_len]
  intro d
  induction d with
  | zero =>
    intro i m0 h hi hm c
    obtain ⟨m0, rfl⟩ : ∃ m, m0 = m + 1 := ⟨m0 - 1, by omega⟩
    rw [w_same_l0_eq]
    have e' : i = P.length := by omega
    subst e'
    simp only [SliceAt.len s.1, bindV_some, binV_lss, condK_bool, Int.lt_irrefl, decide_false, Bool.false_eq_true, if_false, idG_eq]
    rw [w_same_j1_eq]
    exact ⟨h, St.le.refl _, H h c⟩
  | succ d ih =>
    intro i m0 h hi hm c
    obtain ⟨m0, rfl⟩ : ∃ m, m0 = m + 1 := ⟨m0 - 1, by omega⟩
    rw [w_same_l0_eq]
    have hlt : (i : Int) < P.length := by omega
    obtain ⟨b, o, g1, g2⟩ := evs_at s (show i < P.length by omega) .i64
    obtain ⟨b', o', g1', g2'⟩ := evs_at u (show i < Q.length by omega) .i64
    have ee : (P[i]'(by omega)).1 = (Q[i]'(by omega)).1 := by
      have h1 : (evs P)[i]'(by rw [evs_len]; omega) = (evs Q)[i]'(by rw [evs_len]; omega) := by simp only [eq]
      unfold evs at h1
      rw [List.getElem_map, List.getElem_map] at h1
      exact h1
    have tp := s.2 _ (List.getElem_mem (show i < P.length by omega))
    have tq := u.2 _ (List.getElem_mem (show i < Q.length by omega))
    obtain ⟨⟨e, sv⟩, ep⟩ : ∃ p, p = P[i]'(by omega) := ⟨_, rfl⟩
    obtain ⟨⟨e', sw⟩, eq'⟩ : ∃ p, p = Q[i]'(by omega) := ⟨_, rfl⟩
    rw [← ep] at g2 ee tp
    rw [← eq'] at g2' ee tq
    simp only at ee
    subst ee
    obtain ⟨f0, f1, f2, f3, f4⟩ := g2 h c
    obtain ⟨_, _, _, _, y4⟩ := g2' h c
    simp only at f0 f1 f2 f3 y4 tp tq
    have bv := build_ev (e := e) tp
    simp only [SliceAt.len s.1, bindV_some, binV_lss, condK_bool, hlt, decide_true, if_true, idG_eq, g1, offV_ptr, Nat.add_zero, f0]
    refine ⟨trivial, ?_⟩
    simp only [g1, offV_ptr, bindV_some, f1]
    refine ⟨trivial, ?_⟩
    simp only [g1, offV_ptr, bindV_some, f2]
    refine ⟨trivial, ?_⟩
    simp only [g1, offV_ptr, bindV_some, f3]
    refine ⟨trivial, ?_⟩
    simp only [bv, g1', y4, bindV_some]
    refine ⟨trivial, ?_⟩
    refine cK (S := qSameO) (by simp) ⟨B, C, e, sv, sw, rfl, tp.chg0 c, tq.chg0 c, fun h1 c1 => ⟨⟨trivial, trivial, trivial, trivial, trivial, trivial⟩, ?_⟩⟩
    simp only [unV_not, Bool.not_true, bindV_some, condK_bool, Bool.false_eq_true, if_false, binNil_int, binV_add, inc (show i ≤ 1000000000000 by omega), idG_eq]
    exact ih (i + 1) m0 h1 (by omega) (by omega) (c.seq c1)
theorem sameO_good : SpecGood Tryz.prog (15, sameO) := by
  refine spec_good mixed Tryz.func15 (by kernel_rfl) (by kernel_rfl) (tab := [(25, qSameO)]) (by simp [qSameO_good]) (keep := w_same_keep) ?_
  rintro args h k ⟨B, C, v, w, P, Q, rfl, few, s, u, eq, H⟩
  refine ⟨P.length + 1, ?_⟩
  show w_same (tabC _) idG _ v w h _
  rw [w_same_eq]
  have lQ : Q.length = P.length := by rw [← evs_len Q, ← eq, evs_len]
  simp only [SliceAt.len s.1, SliceAt.len u.1, lQ, neN, decide_true, Bool.not_true, bindV_some, condK_bool, Bool.false_eq_true, if_false, idG_eq]
  exact same_l0 few s u eq H P.length 0 _ h (by omega) (by omega) (Chg.refl _ _)
/-! ### events of the document, as the program's -/
def ownO : Abs.Spec := fun args h k => ∃ (B : Nat → Prop) (v : Value) (P : List (Ev × Value)), args = [v] ∧ P.length ≤ 1000000 ∧ (∀ p ∈ P, p.1.b.length ≤ 1000000000) ∧ EvsAt B h v P ∧ ∀ h' v' Q, Chg h h' [] → EvsO h.next h' v' Q → evs Q = evs P → k v' h'
theorem own_l0 {nn : Nat} {v x2 : Value} {B : Nat → Prop} {P : List (Ev × Value)} {h0 : St} {k : Cont} (few : P.length ≤ 1000000) (bl : ∀ p ∈ P, p.1.b.length ≤ 1000000000) (s : EvsAt B h0 v P) (H : ∀ h' v' Q, Chg h0 h' [] → EvsO h0.next h' v' Q → evs Q = evs P → k v' h') :
    ∀ (d i m0 : Nat) (h : St) (out : Value) (Q : List (Ev × Value)), i + d = P.length → d < m0 → Chg h0 h [] → EvsO h0.next h out Q → evs Q = evs (P.take i) →
      w_Own_l0 (tabC []) idG nn m0 v x2 out (.int .i64 (i : Int)) h (fun v h1 => ∃ h2, St.le h2 h1 ∧ k v h2) := by
  intro d
  induction d with
  | zero =>
    intro i m0 h out Q hi hm c o eq
    obtain ⟨m0, rfl⟩ : ∃ m, m0 = m + 1 := ⟨m0 - 1, by omega⟩
    rw [w_Own_l0_eq]
    have e' : i = P.length := by omega
    subst e'
    rw [List.take_length] at eq
    simp only [SliceAt.len s.1, bindV_some, binV_lss, condK_bool, Int.lt_irrefl, decide_false, Bool.false_eq_true, if_false, idG_eq]
    rw [w_Own_j1_eq]
    exact ⟨h, St.le.refl _, H h out Q c o eq⟩
  | succ d ih =>
    intro i m0 h out Q hi hm c o eq
    obtain ⟨m0, rfl⟩ : ∃ m, m0 = m + 1 := ⟨m0 - 1, by omega⟩
    rw [w_Own_l0_eq]
    have hlt : (i : Int) < P.length := by omega
    obtain ⟨b, oo, g1, g2⟩ := evs_at s (show i < P.length by omega) .i64
    have tp := s.2 _ (List.getElem_mem (show i < P.length by omega))
    have bp := bl _ (List.getElem_mem (show i < P.length by omega))
    have tak : P.take (i + 1) = P.take i ++ [P[i]] := List.take_succ_eq_append_getElem (by omega)
    obtain ⟨⟨e, sv⟩, ep⟩ : ∃ p, p = P[i]'(by omega) := ⟨_, rfl⟩
    rw [← ep] at g2 tp bp tak
    obtain ⟨_, _, _, _, f4⟩ := g2 h c
    simp only at f4 tp bp
    have lQ : Q.length ≤ 1000000 := by
      have := congrArg List.length eq
      rw [evs_len, evs_len, List.length_take] at this; omega
    have z := tp.one
    have mc := c.1
    simp only [SliceAt.len s.1, bindV_some, binV_lss, condK_bool, hlt, decide_true, if_true, idG_eq, g1, f4]
    refine allocE_in fun h1 c1 n1 o1 => ?_
    refine storeE_all o1 rfl rfl (by show allOne [_, _, _, sv] = true; simp [allOne, z]) fun h2 c2 n2 o2 => ?_
    have x2 : BxE h2 h.next e sv := ⟨by omega, o2⟩
    have c02 : Chg h h2 [] := c1.new c2 (Nat.le_refl _)
    obtain ⟨f0, f1, f2, f3, _⟩ := x2.ld
    simp only [offV_ptr, Nat.zero_add, bindV_some, f0]
    refine ⟨trivial, ?_⟩
    simp only [offV_ptr, Nat.zero_add, bindV_some, f1]
    refine ⟨trivial, ?_⟩
    simp only [offV_ptr, Nat.zero_add, bindV_some, f2]
    refine ⟨trivial, ?_⟩
    refine buildSliceE_in [] rfl rfl rfl fun h3 c3 n3 o3 => ?_
    have x3 := x2.chg0 c3
    obtain ⟨f0', f1', f2', f3', _⟩ := x3.ld
    refine ⟨⟨f2', f1', f0', trivial⟩, ?_⟩
    simp only [offV_ptr, Nat.zero_add, bindV_some, f3']
    refine ⟨⟨f3, trivial⟩, ?_⟩
    have c03 := c02.seq c3
    have so : ByO (fun j => h2.next ≤ j) h3 (.slice (some ⟨h2.next, 0, some 1⟩) 0 0) [] := .inr ⟨h2.next, rfl, Nat.le_refl _, by omega, o3, rfl⟩
    refine append_by (n0 := h2.next) (by omega) so (tp.chg0 (c.seq c03)) (by simp; omega) fun h4 sw c4 o4 => ?_
    rw [List.nil_append] at o4
    have x4 : BxE h4 h.next e sv := ⟨Nat.lt_of_lt_of_le x3.1 c4.1, c4.at x3.1 (by omega) x3.2⟩
    obtain ⟨q0, q1, q2, _, _⟩ := x4.ld
    refine ⟨⟨trivial, q2, q1, q0, trivial⟩, ?_⟩
    have t4 : By (fun j => h.next ≤ j) h4 sw e.b := SliceAt.imp (own_bytes o4) fun j _ hj => by omega
    have c04 : Chg h h4 [] := ((c03.nil (fun j => h.next ≤ j)).step (c4.mono fun j _ hj => by omega)).list fun j h1 h2 => by omega
    simp only [build_ev t4, bindV_some]
    refine push_evC (e := e) mc c04 o t4 (by omega) (fun _ _ => ⟨trivial, trivial, trivial, trivial, trivial⟩) fun h5 out5 c5 o5 => ⟨⟨trivial, trivial, trivial, trivial, trivial⟩, ?_⟩
    simp only [binNil_int, binV_add, inc (show i ≤ 1000000000000 by omega), bindV_some, idG_eq]
    refine ih (i + 1) m0 h5 out5 (Q ++ [(e, sw)]) (by omega) (by omega) ?_ o5 ?_
    · exact fresh_out (c.seq c04) (c5.mono fun _ _ h => h.1)
    · unfold evs at eq ⊢
      rw [tak, List.map_append, List.map_append, eq]; rfl
theorem ownO_good : SpecGood Tryz.prog (8, ownO) := by
  refine spec_good mixed Tryz.func8 (by kernel_rfl) (by kernel_rfl) (tab := []) (by simp) (keep := w_Own_keep) ?_
  rintro args h k ⟨B, v, P, rfl, few, bl, s, H⟩
  refine ⟨P.length + 1, ?_⟩
  show w_Own (tabC _) idG _ v h _
  rw [w_Own_eq]
  simp only [idG_eq]
  exact own_l0 few bl s H P.length 0 _ h _ [] (by omega) (by omega) (Chg.refl _ _) EvsO.nil rfl
end Go.Proofs.YtnnjcenoihdhfaaGreatDoor
end

section
set_option linter.unusedSimpArgs false
set_option linter.unusedVariables false
set_option maxHeartbeats 4000000
namespace Go.Proofs.YtnnjcenoihdhfaaGreatDoor
open Go.Abs Go.IntWalk
attribute [local congr] bindV_weak condK_weak guardK_weak groupK_weak allocE_weak boxE_weak storeE_weak storeM_weak tabC_weak ite_weak idG_weak appendE_weak buildSliceE_weak mapUpdateE_weak deleteE_weak makeMapE_weak copyE_weak clearE_weak callE_weak

theorem flat_pre {α β : Type} (f : α → List β) (L : List α) (i : Nat) : ((L.take i).flatMap f).length ≤ (L.flatMap f).length := by
  conv => rhs; rw [← List.take_append_drop i L]
  rw [List.flatMap_append, List.length_append]; omega
theorem evs_take (P : List (Ev × Value)) (i : Nat) : evs (P.take i) = (evs P).take i := by unfold evs; rw [List.map_take]
theorem all_take {l : List Ev} {i : Nat} (hi : i < l.length) (h : (l.take i).all okE = true) (ok : okE l[i] = true) : (l.take (i + 1)).all okE = true := by
  rw [List.take_succ_eq_append_getElem hi, List.all_append, h]; simp [ok]
theorem not_all {l : List Ev} {i : Nat} (hi : i < l.length) (no : okE l[i] = false) : encL l = ([], 2) := by
  unfold encL
  rw [if_neg]
  intro h
  have := List.all_eq_true.1 h _ (List.getElem_mem hi)
  rw [no] at this; cases this
theorem flat_succ {l : List Ev} {i : Nat} (hi : i < l.length) : (l.take (i + 1)).flatMap encE = (l.take i).flatMap encE ++ encE l[i] := by
  rw [List.take_succ_eq_append_getElem hi, List.flatMap_append]; simp
theorem kind_nat {e : Ev} (ok : okE e = true) : (e.k : Int) = ((e.k.toNat : Nat) : Int) ∧ e.k.toNat < 256 := by
  have := ok_k ok; omega
theorem putB1 {n : Nat} (h : n < 256) : putB n 1 = [n] := by
  unfold putB putB
  rw [show (256 : Nat) ^ 0 = 1 from rfl, Nat.div_one, Nat.mod_eq_of_lt h]
/-- The bytes of events, by a law that is shared. -/
def encO : Abs.Spec := fun args h k => ∃ (B : Nat → Prop) (v : Value) (P : List (Ev × Value)), args = [v] ∧ P.length ≤ 1000000 ∧ ((evs P).flatMap encE).length ≤ 900000000 ∧ (∀ e ∈ evs P, InE e) ∧ EvsAt B h v P ∧
  ∀ h' sv, Chg h h' [] → By (fun j => h.next ≤ j) h' sv (encL (evs P)).1 → k (.tuple #[sv, .int .i64 ((encL (evs P)).2 : Int)]) h'
def tabEn : List (FuncId × Abs.Spec) := [(7, rRightO), (19, putO)]
theorem tabEn_good : ∀ p ∈ tabEn, SpecGood Tryz.prog p := by simp [tabEn, rRightO_good, putO_good]
theorem renc_l0 {nn : Nat} {x2 x3 v : Value} {B : Nat → Prop} {P : List (Ev × Value)} {h0 : St} {k : Cont} (few : P.length ≤ 1000000) (tot : ((evs P).flatMap encE).length ≤ 900000000) (ine : ∀ e ∈ evs P, InE e) (s : EvsAt B h0 v P)
    (H : ∀ h' sv, Chg h0 h' [] → By (fun j => h0.next ≤ j) h' sv (encL (evs P)).1 → k (.tuple #[sv, .int .i64 ((encL (evs P)).2 : Int)]) h') :
    ∀ (d i m0 : Nat) (h : St) (out x6 : Value), i + d = P.length → d < m0 → Chg h0 h [] → ByO (fun j => h0.next ≤ j) h out (((evs P).take i).flatMap encE) → ((evs P).take i).all okE = true →
      r_Encode_l0 (tabC tabEn) idG nn m0 x2 x3 out x6 v (.int .i64 (P.length : Int)) (.int .i64 (i : Int)) h (fun v h1 => ∃ h2, St.le h2 h1 ∧ k v h2) := by
  have el := evs_len P
  intro d
  induction d with
  | zero =>
    intro i m0 h out x6 hi hm c o al
    obtain ⟨m0, rfl⟩ : ∃ m, m0 = m + 1 := ⟨m0 - 1, by omega⟩
    rw [r_Encode_l0_eq]
    have e' : i = P.length := by omega
    subst e'
    rw [List.take_of_length_le (by omega)] at o al
    simp only [bindV_some, binV_lss, condK_bool, Int.lt_irrefl, decide_false, Bool.false_eq_true, if_false, idG_eq]
    rw [r_Encode_j1_eq]
    have en : encL (evs P) = ((evs P).flatMap encE, 0) := by unfold encL; rw [if_pos al]
    rw [en] at H
    exact ⟨h, St.le.refl _, H h out c (own_bytes o)⟩
  | succ d ih =>
    intro i m0 h out x6 hi hm c o al
    obtain ⟨m0, rfl⟩ : ∃ m, m0 = m + 1 := ⟨m0 - 1, by omega⟩
    rw [r_Encode_l0_eq]
    have hlt : (i : Int) < P.length := by omega
    have hi' : i < (evs P).length := by omega
    obtain ⟨b, oo, g1, g2⟩ := evs_at s (show i < P.length by omega) .i64
    have tp := s.2 _ (List.getElem_mem (show i < P.length by omega))
    have ei : (evs P)[i]'hi' = (P[i]'(by omega)).1 := List.getElem_map (fun x : Ev × Value => x.1)
    have ie := ine _ (List.getElem_mem hi')
    have fs := flat_succ hi'
    have pre := flat_pre encE (evs P) i
    have pre1 := flat_pre encE (evs P) (i + 1)
    have no : okE ((evs P)[i]'hi') = false → encL (evs P) = ([], 2) := fun h => not_all hi' h
    have al1 : okE ((evs P)[i]'hi') = true → ((evs P).take (i + 1)).all okE = true := fun h => all_take hi' al h
    rw [ei] at ie fs no al1
    obtain ⟨⟨e, sv⟩, ep⟩ : ∃ p, p = P[i]'(by omega) := ⟨_, rfl⟩
    rw [← ep] at g2 tp ie fs no al1
    obtain ⟨_, _, _, _, f4⟩ := g2 h c
    simp only at f4 tp ie fs no al1
    obtain ⟨L, eL⟩ : ∃ L, L = ((evs P).take i).flatMap encE := ⟨_, rfl⟩
    rw [← eL] at o fs pre
    have z := tp.one
    have mc := c.1
    have ll := enc_len e
    rw [fs, List.length_append] at pre1
    simp only [bindV_some, binV_lss, condK_bool, hlt, decide_true, if_true, idG_eq, g1, f4]
    refine allocE_in fun h1 c1 n1 o1 => ?_
    refine storeE_all o1 rfl rfl (by show allOne [_, _, _, sv] = true; simp [allOne, z]) fun h2 c2 n2 o2 => ?_
    have x2 : BxE h2 h.next e sv := ⟨by omega, o2⟩
    have c02 : Chg h h2 [] := c1.new c2 (Nat.le_refl _)
    simp only [x2.ld.2.2.2.2, bindV_some]
    refine cK (S := rRightO) (by simp [tabEn]) ⟨B, e, sv, rfl, tp.chg0 (c.seq c02), fun h3 c3 => ?_⟩
    have c03 := c02.seq c3
    have x3 := x2.chg0 c3
    cases ok : okE e with
    | false =>
      have en := no ok
      rw [en] at H
      simp only [unV_not, Bool.not_false, bindV_some, condK_bool, if_true]
      exact ⟨h3, St.le.refl _, H h3 _ (c.seq c03) By.nil⟩
    | true =>
      have al' := al1 ok
      obtain ⟨kn, k256⟩ := kind_nat ok
      obtain ⟨ii, in_, ib⟩ := ie
      obtain ⟨k1, k8, bl⟩ := ok_k ok
      have w0 : wrapV .u64 (.int .i64 e.k) = some (.int .u64 ((e.k.toNat : Nat) : Int)) := by
        rw [kn, wrapV_int, Int.toNat_natCast, u64_wrap _ (by omega)]
      have w1 : wrapV .u64 (.int .u32 (e.i : Int)) = some (.int .u64 (e.i : Int)) := by rw [wrapV_int, u64_wrap _ (by omega)]
      have w3 : wrapV .u64 (.int .i64 (e.b.length : Int)) = some (.int .u64 (e.b.length : Int)) := by rw [wrapV_int, u64_wrap _ (by omega)]
      obtain ⟨f0, _, _, _, _⟩ := x3.ld
      simp only [unV_not, Bool.not_true, bindV_some, condK_bool, Bool.false_eq_true, if_false, idG_eq, offV_ptr, Nat.zero_add, f0, w0]
      refine cK (S := putO) (by simp [tabEn]) ⟨_, out, L, e.k.toNat, 1, rfl, by omega, by omega, own_bytes (OwnS.chg o c03 (by simp)), fun h4 v4 c4 o4 => ?_⟩
      have x4 := x3.chg0 c4
      obtain ⟨_, f1, _, _, _⟩ := x4.ld
      simp only [offV_ptr, Nat.zero_add, bindV_some, f1, w1]
      have l1 := putB_length e.k.toNat 1
      have l4 := putB_length e.i 4
      have l8 := putB_length e.n 8
      have l2 := putB_length e.b.length 2
      refine cK (S := putO) (by simp [tabEn]) ⟨_, v4, _, e.i, 4, rfl, by omega, by simp only [List.length_append]; omega, own_bytes o4, fun h5 v5 c5 o5 => ?_⟩
      have x5 := x4.chg0 c5
      obtain ⟨_, _, f2, _, _⟩ := x5.ld
      simp only [offV_ptr, Nat.zero_add, bindV_some, f2]
      refine cK (S := putO) (by simp [tabEn]) ⟨_, v5, _, e.n, 8, rfl, by omega, by simp only [List.length_append]; omega, own_bytes o5, fun h6 v6 c6 o6 => ?_⟩
      have x6 := x5.chg0 c6
      obtain ⟨_, _, _, f3, _⟩ := x6.ld
      simp only [offV_ptr, Nat.zero_add, bindV_some, f3, SliceAt.len tp, w3]
      refine cK (S := putO) (by simp [tabEn]) ⟨_, v6, _, e.b.length, 2, rfl, by omega, by simp only [List.length_append]; omega, own_bytes o6, fun h7 v7 c7 o7 => ?_⟩
      have x7 := x6.chg0 c7
      obtain ⟨_, _, _, f3, _⟩ := x7.ld
      simp only [offV_ptr, Nat.zero_add, bindV_some, f3]
      have c37 : Chg h3 h7 [] := ((c4.seq c5).seq c6).seq c7
      have c07 := c03.seq c37
      have m7 : h0.next ≤ h6.next := by have := c03.1; have := c4.1; have := c5.1; have := c6.1; omega
      refine append_by (n0 := h0.next) (by have := c7.1; omega) (OwnS.imp o7 fun j _ hj => by omega) (tp.chg0 (c.seq c07)) (by simp only [List.length_append]; omega) fun h8 v8 c8 o8 => ?_
      simp only [idG_eq, binNil_int, binV_add, inc (show i ≤ 1000000000000 by omega), bindV_some]
      refine ih (i + 1) m0 h8 v8 _ (by omega) (by omega) (fresh_out (c.seq c07) c8) ?_ al'
      rw [fs]
      have : L ++ putB e.k.toNat 1 ++ putB e.i 4 ++ putB e.n 8 ++ putB e.b.length 2 ++ e.b = L ++ encE e := by unfold encE; simp only [List.append_assoc]
      rw [this] at o8
      exact o8
theorem rencO_good : SpecGood Tryz.prog (10, encO) := by
  refine spec_good mixed Tryz.func10 (by kernel_rfl) (by kernel_rfl) (tab := tabEn) tabEn_good (keep := r_Encode_keep) ?_
  rintro args h k ⟨B, v, P, rfl, few, tot, ine, s, H⟩
  refine ⟨P.length + 1, ?_⟩
  show r_Encode (tabC _) idG _ v h _
  rw [r_Encode_eq]
  simp only [SliceAt.len s.1, bindV_some, idG_eq]
  exact renc_l0 few tot ine s H P.length 0 _ h _ _ (by omega) (by omega) (Chg.refl _ _) ByO.nil rfl
/-! ### the document's -/
def tabQe : List (FuncId × Abs.Spec) := [(9, qRightO), (20, refPutO)]
theorem tabQe_good : ∀ p ∈ tabQe, SpecGood Tryz.prog p := by simp [tabQe, qRightO_good, refPutO_good]
theorem qenc_l0 {nn : Nat} {x2 x3 v : Value} {B : Nat → Prop} {P : List (Ev × Value)} {h0 : St} {k : Cont} (few : P.length ≤ 1000000) (tot : ((evs P).flatMap encE).length ≤ 900000000) (ine : ∀ e ∈ evs P, InE e) (s : EvsAt B h0 v P)
    (H : ∀ h' sv, Chg h0 h' [] → By (fun j => h0.next ≤ j) h' sv (encL (evs P)).1 → k (.tuple #[sv, .int .i64 ((encL (evs P)).2 : Int)]) h') :
    ∀ (d i m0 : Nat) (h : St) (out0 x6 : Value), i + d = P.length → d < m0 → Chg h0 h [] → ByO (fun j => h0.next ≤ j) h out0 (((evs P).take i).flatMap encE) → ((evs P).take i).all okE = true →
      q_Encode_l0 (tabC tabQe) idG nn m0 v x2 x3 out0 (.int .i64 (i : Int)) x6 h (fun v h1 => ∃ h2, St.le h2 h1 ∧ k v h2) := by
  have el := evs_len P
  intro d
  induction d with
  | zero =>
    intro i m0 h out0 x6 hi hm c o al
    obtain ⟨m0, rfl⟩ : ∃ m, m0 = m + 1 := ⟨m0 - 1, by omega⟩
    rw [q_Encode_l0_eq]
    have e' : i = P.length := by omega
    subst e'
    rw [List.take_of_length_le (by omega)] at o al
    simp only [SliceAt.len s.1, bindV_some, binV_lss, condK_bool, Int.lt_irrefl, decide_false, Bool.false_eq_true, if_false, idG_eq]
    rw [q_Encode_j1_eq]
    have en : encL (evs P) = ((evs P).flatMap encE, 0) := by unfold encL; rw [if_pos al]
    rw [en] at H
    exact ⟨h, St.le.refl _, H h out0 c (own_bytes o)⟩
  | succ d ih =>
    intro i m0 h out0 x6 hi hm c o al
    obtain ⟨m0, rfl⟩ : ∃ m, m0 = m + 1 := ⟨m0 - 1, by omega⟩
    rw [q_Encode_l0_eq]
    have hlt : (i : Int) < P.length := by omega
    have hi' : i < (evs P).length := by omega
    obtain ⟨b, oo, g1, g2⟩ := evs_at s (show i < P.length by omega) .i64
    have tp := s.2 _ (List.getElem_mem (show i < P.length by omega))
    have ei : (evs P)[i]'hi' = (P[i]'(by omega)).1 := List.getElem_map (fun x : Ev × Value => x.1)
    have ie := ine _ (List.getElem_mem hi')
    have fs := flat_succ hi'
    have pre := flat_pre encE (evs P) i
    have pre1 := flat_pre encE (evs P) (i + 1)
    have no : okE ((evs P)[i]'hi') = false → encL (evs P) = ([], 2) := fun h => not_all hi' h
    have al1 : okE ((evs P)[i]'hi') = true → ((evs P).take (i + 1)).all okE = true := fun h => all_take hi' al h
    rw [ei] at ie fs no al1
    obtain ⟨⟨e, sv⟩, ep⟩ : ∃ p, p = P[i]'(by omega) := ⟨_, rfl⟩
    rw [← ep] at g2 tp ie fs no al1
    obtain ⟨_, _, _, _, f4⟩ := g2 h c
    simp only at f4 tp ie fs no al1
    obtain ⟨L, eL⟩ : ∃ L, L = ((evs P).take i).flatMap encE := ⟨_, rfl⟩
    rw [← eL] at o fs pre
    have z := tp.one
    have mc := c.1
    have ll := enc_len e
    rw [fs, List.length_append] at pre1
    simp only [SliceAt.len s.1, bindV_some, binV_lss, condK_bool, hlt, decide_true, if_true, idG_eq, g1, f4]
    refine allocE_in fun h1 c1 n1 o1 => ?_
    refine storeE_all o1 rfl rfl (by show allOne [_, _, _, sv] = true; simp [allOne, z]) fun h2 c2 n2 o2 => ?_
    have x2 : BxE h2 h.next e sv := ⟨by omega, o2⟩
    have c02 : Chg h h2 [] := c1.new c2 (Nat.le_refl _)
    simp only [x2.ld.2.2.2.2, bindV_some]
    refine cK (S := qRightO) (by simp [tabQe]) ⟨B, e, sv, rfl, tp.chg0 (c.seq c02), fun h3 c3 => ?_⟩
    have c03 := c02.seq c3
    have x3 := x2.chg0 c3
    cases ok : okE e with
    | false =>
      have en := no ok
      rw [en] at H
      simp only [unV_not, Bool.not_false, bindV_some, condK_bool, if_true]
      exact ⟨h3, St.le.refl _, H h3 _ (c.seq c03) By.nil⟩
    | true =>
      have al' := al1 ok
      obtain ⟨kn, k256⟩ := kind_nat ok
      obtain ⟨ii, in_, ib⟩ := ie
      obtain ⟨k1, k8, bl⟩ := ok_k ok
      have w0 : wrapV .u8 (.int .i64 e.k) = some (.int .u8 ((e.k.toNat : Nat) : Int)) := by
        rw [kn, wrapV_int, Int.toNat_natCast, u8_wrap, Nat.mod_eq_of_lt k256]
      have w1 : wrapV .u64 (.int .u32 (e.i : Int)) = some (.int .u64 (e.i : Int)) := by rw [wrapV_int, u64_wrap _ (by omega)]
      have w3 : wrapV .u64 (.int .i64 (e.b.length : Int)) = some (.int .u64 (e.b.length : Int)) := by rw [wrapV_int, u64_wrap _ (by omega)]
      have l4 := putB_length e.i 4
      have l8 := putB_length e.n 8
      have l2 := putB_length e.b.length 2
      -- bytes of one's own that were put anew
      have asBy : ∀ {hh : St} {n : Nat} {x : Value} {n' w : Nat}, OwnS (fun j => n ≤ j) hh x 1 ((putB n' w).map bc) w → By (fun j => n ≤ j) hh x (putB n' w) := fun {hh n x n' w} q => by
        have : OwnS (fun j => n ≤ j) hh x 1 ((putB n' w).map bc) (putB n' w).length := by rw [putB_length]; exact q
        exact own_bytes this
      obtain ⟨f0, _, _, _, _⟩ := x3.ld
      simp only [unV_not, Bool.not_true, bindV_some, condK_bool, Bool.false_eq_true, if_false, idG_eq, offV_ptr, Nat.zero_add, f0, w0]
      have step : ∀ {ha hb : St}, ChgP (fun j => h0.next ≤ j ∧ j ≠ h.next) ha hb → BxE ha h.next e sv → BxE hb h.next e sv := fun {ha hb} cc x => ⟨Nat.lt_of_lt_of_le x.1 cc.1, cc.at x.1 (fun hh => hh.2 rfl) x.2⟩
      have out : ∀ {ha hb : St}, Chg h0 ha [] → ChgP (fun j => h0.next ≤ j ∧ j ≠ h.next) ha hb → Chg h0 hb [] := fun {ha hb} ca cc => fresh_out ca (cc.mono fun _ _ h => h.1)
      have o3 : ByO (fun j => h0.next ≤ j ∧ j ≠ h.next) h3 out0 L := OwnS.chg (OwnS.imp o fun j hj hb => (⟨hb, by omega⟩ : h0.next ≤ j ∧ j ≠ h.next)) c03 (by simp)
      have m3 := c03.1
      have x3n := x3.1
      have hB : ∀ {ha : St}, h.next < ha.next → ∀ i, ha.next ≤ i → h0.next ≤ i ∧ i ≠ h.next := fun {ha} hn i hi => ⟨by omega, by omega⟩
      refine push_byB (B0 := fun j => h0.next ≤ j ∧ j ≠ h.next) (hB x3n) o3 (by omega) fun h4 v4 c4 o4 => ?_
      have x4 := step c4 x3
      have e4 := out (c.seq c03) c4
      obtain ⟨_, f1, _, _, _⟩ := x4.ld
      simp only [offV_ptr, Nat.zero_add, bindV_some, f1, w1]
      refine cK (S := refPutO) (by simp [tabQe]) ⟨e.i, 4, rfl, by omega, by omega, fun h5 p5 c5 q5 => ?_⟩
      have x5 := x4.chg0 c5
      refine append_byB (B0 := fun j => h0.next ≤ j ∧ j ≠ h.next) (hB x5.1) (OwnS.chg o4 c5 (by simp)) (asBy q5) (by simp only [List.length_append, List.length_cons, List.length_nil]; omega) fun h6 v6 c6 o6 => ?_
      have x6 := step c6 x5
      have e6 := out (e4.seq c5) c6
      obtain ⟨_, _, f2, _, _⟩ := x6.ld
      simp only [offV_ptr, Nat.zero_add, bindV_some, f2]
      refine cK (S := refPutO) (by simp [tabQe]) ⟨e.n, 8, rfl, by omega, by omega, fun h7 p7 c7 q7 => ?_⟩
      have x7 := x6.chg0 c7
      refine append_byB (B0 := fun j => h0.next ≤ j ∧ j ≠ h.next) (hB x7.1) (OwnS.chg o6 c7 (by simp)) (asBy q7) (by simp only [List.length_append, List.length_cons, List.length_nil]; omega) fun h8 v8 c8 o8 => ?_
      have x8 := step c8 x7
      have e8 := out (e6.seq c7) c8
      obtain ⟨_, _, _, f3, _⟩ := x8.ld
      simp only [offV_ptr, Nat.zero_add, bindV_some, f3, SliceAt.len tp, w3]
      refine cK (S := refPutO) (by simp [tabQe]) ⟨e.b.length, 2, rfl, by omega, by omega, fun h9 p9 c9 q9 => ?_⟩
      have x9 := x8.chg0 c9
      refine append_byB (B0 := fun j => h0.next ≤ j ∧ j ≠ h.next) (hB x9.1) (OwnS.chg o8 c9 (by simp)) (asBy q9) (by simp only [List.length_append, List.length_cons, List.length_nil]; omega) fun h10 v10 c10 o10 => ?_
      have x10 := step c10 x9
      have e10 := out (e8.seq c9) c10
      obtain ⟨_, _, _, f3, _⟩ := x10.ld
      simp only [offV_ptr, Nat.zero_add, bindV_some, f3]
      refine append_byB (B0 := fun j => h0.next ≤ j ∧ j ≠ h.next) (hB x10.1) o10 (tp.chg0 e10) (by simp only [List.length_append, List.length_cons, List.length_nil]; omega) fun h11 v11 c11 o11 => ?_
      simp only [idG_eq, binNil_int, binV_add, inc (show i ≤ 1000000000000 by omega), bindV_some]
      refine ih (i + 1) m0 h11 v11 _ (by omega) (by omega) (out e10 c11) ?_ al'
      rw [fs]
      have : L ++ [e.k.toNat] ++ putB e.i 4 ++ putB e.n 8 ++ putB e.b.length 2 ++ e.b = L ++ encE e := by unfold encE; rw [putB1 k256]; simp only [List.append_assoc]
      rw [this] at o11
      exact OwnS.imp o11 fun _ _ h => h.1
theorem qencO_good : SpecGood Tryz.prog (11, encO) := by
  refine spec_good mixed Tryz.func11 (by kernel_rfl) (by kernel_rfl) (tab := tabQe) tabQe_good (keep := q_Encode_keep) ?_
  rintro args h k ⟨B, v, P, rfl, few, tot, ine, s, H⟩
  refine ⟨P.length + 1, ?_⟩
  show q_Encode (tabC _) idG _ v h _
  rw [q_Encode_eq]
  simp only [idG_eq]
  exact qenc_l0 few tot ine s H P.length 0 _ h _ _ (by omega) (by omega) (Chg.refl _ _) ByO.nil rfl
end Go.Proofs.YtnnjcenoihdhfaaGreatDoor
end

section
set_option linter.unusedSimpArgs false
set_option linter.unusedVariables false
set_option maxHeartbeats 4000000
namespace Go.Proofs.YtnnjcenoihdhfaaGreatDoor
open Go.Abs Go.IntWalk
attribute [local congr] bindV_weak condK_weak guardK_weak groupK_weak allocE_weak boxE_weak storeE_weak storeM_weak tabC_weak ite_weak idG_weak appendE_weak buildSliceE_weak mapUpdateE_weak deleteE_weak makeMapE_weak copyE_weak clearE_weak callE_weak

theorem cut_by {B : Nat → Prop} {h : St} {v : Value} {L : List Nat} (s : By B h v L) {l e : Nat} (h1 : l ≤ e) (h2 : e ≤ L.length) {k k' : IntKind} :
    ∃ v', cutS 1 v (some (.int k (l : Int))) (some (.int k' (e : Int))) = some v' ∧ By B h v' ((L.drop l).take (e - l)) := by
  obtain ⟨v', g1, g2⟩ := SliceAt.cut s (loHi_both (k := k) (k' := k') h1 h2) h1 h2
  refine ⟨v', g1, ?_⟩
  have el : ((L.drop l).take (e - l)).length = e - l := by rw [List.length_take, List.length_drop]; omega
  unfold By
  rw [el]
  exact g2.rows fun i hi => by simp [rowC, List.getElem?_take, List.getElem?_drop, hi]
theorem cut_lo {B : Nat → Prop} {h : St} {v : Value} {L : List Nat} (s : By B h v L) {l : Nat} (h1 : l ≤ L.length) {k : IntKind} :
    ∃ v', cutS 1 v (some (.int k (l : Int))) none = some v' ∧ By B h v' (L.drop l) := by
  obtain ⟨v', g1, g2⟩ := SliceAt.cut s (loHi_lo (k := k) h1) h1 (Nat.le_refl _)
  refine ⟨v', g1, ?_⟩
  have el : (L.drop l).length = L.length - l := by rw [List.length_drop]
  unfold By
  rw [el]
  exact g2.rows fun i hi => by simp [rowC, List.getElem?_drop]
theorem cut_hi {B : Nat → Prop} {h : St} {v : Value} {L : List Nat} (s : By B h v L) {e : Nat} (h1 : e ≤ L.length) {k : IntKind} :
    ∃ v', cutS 1 v none (some (.int k (e : Int))) = some v' ∧ By B h v' (L.take e) := by
  obtain ⟨v', g1, g2⟩ := SliceAt.cut s (loHi_hi (k := k) h1) (Nat.zero_le _) h1
  refine ⟨v', g1, ?_⟩
  have el : (L.take e).length = e - 0 := by rw [List.length_take]; omega
  unfold By
  rw [el]
  exact g2.rows fun i hi => by
    have : i < e := by omega
    simp [rowC, List.getElem?_take, this]
theorem zEv_build : buildV [.int .i64 0, .int .u32 0, .int .u64 0, .slice none 0 0] (some []) = some (evV zEv (.slice none 0 0)) := rfl
theorem put_ev {B : Nat → Prop} {h : St} {b : Nat} {cs : List Value} {e : Ev} {sv : Value} {k : Cont} (t : By B h sv e.b) (o : h.objs b = some (.cells cs true)) (l : cs.length = 4) (bn : b < h.next) (K : ∀ h', Chg h h' [b] → h'.next = h.next → BxE h' b e sv → k undef h') : storeE 4 (.pointer (some ⟨b, 0, none⟩)) (evV e sv) h k := by
  have z := SliceAt.one t
  exact storeE_all o rfl l (by show allOne [_, _, _, sv] = true; simp [allOne, z]) fun h' c n o' => K h' c n ⟨by omega, o'⟩
theorem step_ok {b : List Nat} (hb : ∀ x ∈ b, x < 256) : InE (decE b) := by
  have sub : ∀ (i n : Nat), ∀ x ∈ (b.drop i).take n, x < 256 := fun i n x hx => hb x (List.mem_of_mem_drop (List.mem_of_mem_take hx))
  have ln : ∀ (i n : Nat), ((b.drop i).take n).length ≤ n := fun i n => by rw [List.length_take]; omega
  have up : ∀ (l : List Nat) (n : Nat), (∀ x ∈ l, x < 256) → l.length ≤ n → numB l < 256 ^ n := fun l n h1 h2 => Nat.lt_of_lt_of_le (numB_lt l h1) (Nat.pow_le_pow_right (by omega) h2)
  exact ⟨up _ 4 (sub 1 4) (ln 1 4), up _ 8 (sub 5 8) (ln 5 8), sub _ _⟩
/-! ### the next event -/
def nextO : Abs.Spec := fun args h k => ∃ (B : Nat → Prop) (v : Value) (l : List Nat), args = [v] ∧ l.length ≤ 1000000000 ∧ (∀ x ∈ l, x < 256) ∧ By B h v l ∧
  (stepE l = 0 → ∀ h' sv v', Chg h h' [] → By (fun j => h.next ≤ j) h' sv (decE l).b → By (fun j => h.next ≤ j) h' v' (l.drop (lenE l)) → k (.tuple #[evV (decE l) sv, v', .int .i64 0]) h') ∧
  (stepE l ≠ 0 → ∀ h', Chg h h' [] → k (.tuple #[evV zEv (.slice none 0 0), .slice none 0 0, .int .i64 (stepE l : Int)]) h')
def tabNx : List (FuncId × Abs.Spec) := [(31, takeO), (32, bCloneO), (7, rRightO)]
theorem tabNx_good : ∀ p ∈ tabNx, SpecGood Tryz.prog p := by simp [tabNx, takeO_good, bCloneO_good, rRightO_good]
def arr4 : Value := .agg #[.int .i64 1, .int .i64 4, .int .i64 8, .int .i64 2]
def n4 (a b c d : Nat) : List Value := [.int .u64 (a : Int), .int .u64 (b : Int), .int .u64 (c : Int), .int .u64 (d : Int)]
/-- One number taken. -/
theorem next_one {nn m0 q p : Nat} {x3 x4 x6 x8 x9 x11 v : Value} {l : List Nat} {w j : Nat} {B : Nat → Prop} {h : St} {k : Cont} {cs : List Value} (few : l.length ≤ 1000000000) (lt : ∀ x ∈ l, x < 256) (s : By B h v l)
    (hj : j < 4) (hw : idxV 4 1 false arr4 (.int .i64 (j : Int)) = some (.int .i64 (w : Int))) (h1 : 1 ≤ w) (h8 : w ≤ 8) (op : h.objs p = some (.cells cs true)) (cl : cs.length = 4) (pn : p < h.next) (oq : ∃ zs, zs.length = 4 ∧ h.objs q = some (.cells zs true)) (qn : q < h.next) (pq : p ≠ q)
    (short : l.length < w → ∀ h', Chg h h' [q] → k (.tuple #[evV zEv (.slice none 0 0), .slice none 0 0, .int .i64 3]) h')
    (go : w ≤ l.length → ∀ h' v' y6 y8 y9, Chg h h' [p] → By (fun i => h.next ≤ i) h' v' (l.drop w) → h'.objs p = some (.cells (cs.set j (.int .u64 (numB (l.take w) : Int))) true) →
      r_next_l0 (tabC tabNx) idG nn m0 v' (.pointer (some ⟨q, 0, none⟩)) x3 x4 (.pointer (some ⟨p, 0, none⟩)) y6 y8 y9 x11 arr4 (.int .i64 ((j + 1 : Nat) : Int)) h' (fun v h1 => ∃ h2, St.le h2 h1 ∧ k v h2)) :
    r_next_l0 (tabC tabNx) idG nn (m0 + 1) v (.pointer (some ⟨q, 0, none⟩)) x3 x4 (.pointer (some ⟨p, 0, none⟩)) x6 x8 x9 x11 arr4 (.int .i64 (j : Int)) h (fun v h1 => ∃ h2, St.le h2 h1 ∧ k v h2) := by
  rw [r_next_l0_eq]
  have l4 : binNil .lss .other (.int .i64 (j : Int)) (.int .i64 4) = some (.bool true) := by
    rw [binNil_int, binV_lss, decide_eq_true (show (j : Int) < 4 by omega)]
  simp only [l4, bindV_some, condK_bool, if_true, idG_eq, hw]
  refine cK (S := takeO) (by simp [tabNx]) ⟨B, v, l, w, rfl, h1, h8, few, lt, s, fun sh => ?_, fun wl h1' v' c1 o1 => ?_⟩
  · have x0 : extV 0 (.tuple #[.int .u64 0, .slice none 0 0, .bool false]) = some (.int .u64 0) := rfl
    have x1 : extV 1 (.tuple #[.int .u64 0, .slice none 0 0, .bool false]) = some (.slice none 0 0) := rfl
    have x2 : extV 2 (.tuple #[.int .u64 0, .slice none 0 0, .bool false]) = some (.bool false) := rfl
    simp only [x0, x1, x2, unV_not, Bool.not_false, bindV_some, condK_bool, if_true, zEv_build]
    obtain ⟨zs, zl, oq⟩ := oq
    refine put_ev (B := fun _ => True) By.nil oq zl qn fun h2 c2 n2 x2 => ?_
    simp only [x2.ld.2.2.2.2, bindV_some]
    exact ⟨h2, St.le.refl _, short sh h2 c2⟩
  · have x0 : extV 0 (.tuple #[.int .u64 (numB (l.take w) : Int), v', .bool true]) = some (.int .u64 (numB (l.take w) : Int)) := rfl
    have x1 : extV 1 (.tuple #[.int .u64 (numB (l.take w) : Int), v', .bool true]) = some v' := rfl
    have x2 : extV 2 (.tuple #[.int .u64 (numB (l.take w) : Int), v', .bool true]) = some (.bool true) := rfl
    have ia : idxA 4 1 (.pointer (some ⟨p, 0, none⟩)) (.int .i64 (j : Int)) = some (.pointer (some ⟨p, j, none⟩)) := by
      match j, hj with
      | 0, _ | 1, _ | 2, _ | 3, _ => rfl
    simp only [x0, x1, x2, unV_not, Bool.not_true, bindV_some, condK_bool, Bool.false_eq_true, if_false, idG_eq, ia]
    refine storeE_in (c1.at0 pn op) (cs.set j (.int .u64 (numB (l.take w) : Int))) rfl (by omega) rfl ?_ fun h2 c2 n2 o2 => ?_
    · rw [List.set_eq_take_append_cons_drop, if_pos (by omega)]; simp
    · simp only [idG_eq, binNil_int, binV_add, inc (show j ≤ 1000000000000 by omega), bindV_some]
      have t1 := own_bytes o1
      exact go wl h2 v' _ _ _ (Chg.trans c1 c2 (by simp) (by simp)) (SliceAt.chg (SliceAt.imp t1 fun i hi hb => (⟨hb, by omega⟩ : h.next ≤ i ∧ i ≠ p)) c2 (by simp) |>.imp fun _ _ h => h.1) o2
theorem next_tail {p q b : Nat} {v sv : Value} {r : List Nat} {B C : Nat → Prop} {e : Ev} {h0 h : St} {k : Cont} {n0 n1 n2 n3 : Nat} (c : Chg h0 h []) (x : BxE h b e sv) (t : By C h sv e.b) (s : By B h v r) (op : h.objs p = some (.cells (n4 n0 n1 n2 n3) true)) (pn : p < h.next) (oq : ∃ zs, zs.length = 4 ∧ h.objs q = some (.cells zs true)) (qn : q < h.next) (pq : p ≠ q) (q0 : h0.next ≤ q) (bq : b ≠ q) (tq : ∀ j, C j → j ≠ q) (sq : ∀ j, B j → j ≠ q) (n3r : n3 ≤ r.length)
    (bad : okE e = false → ∀ h', Chg h0 h' [] → k (.tuple #[evV zEv (.slice none 0 0), .slice none 0 0, .int .i64 2]) h')
    (good : okE e = true → ∀ h' v', Chg h0 h' [] → By C h' sv e.b → By B h' v' (r.drop n3) → k (.tuple #[evV e sv, v', .int .i64 0]) h') :
    bindV (loadV true 4 (.pointer (some ⟨b, 0, none⟩)) h) fun v53 => tabC tabNx 7 [v53] h fun v54 h16 => bindV (unV .not v54) fun v55 => condK v55 (bindV (buildV [.int .i64 0, .int .u32 0, .int .u64 0, .slice none 0 0] (some [])) fun v56 => storeE 4 (.pointer (some ⟨q, 0, none⟩)) v56 h16 fun _ h18 => bindV (loadV true 4 (.pointer (some ⟨q, 0, none⟩)) h18) fun r19 => ∃ h2, St.le h2 h18 ∧ k (.tuple #[r19, (.slice none 0 0), (.int .i64 2)]) h2)
      (idG (bindV (loadV true 4 (.pointer (some ⟨b, 0, none⟩)) h16) fun v57 => (True) ∧ bindV (idxA 4 1 (.pointer (some ⟨p, 0, none⟩)) (.int .i64 3)) fun v59 => bindV (loadV false 1 v59 h16) fun v60 => (True) ∧ bindV (cutS 1 v (some v60) none) fun v61 => storeE 4 (.pointer (some ⟨q, 0, none⟩)) v57 h16 fun _ h21 => ((loadV false 1 v59 h21 = some v60) ∧ True ∧ True) ∧ bindV (loadV true 4 (.pointer (some ⟨q, 0, none⟩)) h21) fun r22 => ∃ h2, St.le h2 h21 ∧ k (.tuple #[r22, v61, (.int .i64 0)]) h2)) := by
  have l3 : ∀ h', h'.objs p = some (.cells (n4 n0 n1 n2 n3) true) → loadV false 1 (.pointer (some ⟨p, 3, none⟩)) h' = some (.int .u64 (n3 : Int)) := fun h' o => by
    simp only [loadV_ptr, o, loadM_cells, partV_one]; rfl
  have i3 : idxA 4 1 (.pointer (some ⟨p, 0, none⟩)) (.int .i64 3) = some (.pointer (some ⟨p, 3, none⟩)) := rfl
  obtain ⟨zs, zl, oq⟩ := oq
  simp only [x.ld.2.2.2.2, bindV_some]
  refine cK (S := rRightO) (by simp [tabNx]) ⟨C, e, sv, rfl, t, fun h1 c1 => ?_⟩
  have c01 := c.seq c1
  have x1 := x.chg0 c1
  have m1 := c1.1
  cases ok : okE e with
  | false =>
    simp only [unV_not, Bool.not_false, bindV_some, condK_bool, if_true, zEv_build]
    refine put_ev (B := fun _ => True) By.nil (c1.at0 qn oq) zl (by omega) fun h2 c2 n2 x2 => ?_
    simp only [x2.ld.2.2.2.2, bindV_some]
    exact ⟨h2, St.le.refl _, bad ok h2 (c01.new c2 q0)⟩
  | true =>
    have op1 := c1.at0 pn op
    obtain ⟨v', g1, g2⟩ := cut_lo (s.chg0 c1) n3r (k := .u64)
    simp only [unV_not, Bool.not_true, bindV_some, condK_bool, Bool.false_eq_true, if_false, idG_eq, x1.ld.2.2.2.2]
    refine ⟨trivial, ?_⟩
    simp only [i3, l3 h1 op1, bindV_some]
    refine ⟨trivial, ?_⟩
    simp only [g1, bindV_some]
    refine put_ev (t.chg0 c1) (c1.at0 qn oq) zl (by omega) fun h2 c2 n2 x2 => ⟨⟨l3 h2 (c2.at1 (by omega) pq op1), trivial, trivial⟩, ?_⟩
    simp only [x2.ld.2.2.2.2, bindV_some]
    exact ⟨h2, St.le.refl _, good ok h2 v' (c01.new c2 q0) (SliceAt.chg (t.chg0 c1) c2 (by simp; exact fun hh => tq q hh rfl)) (SliceAt.chg g2 c2 (by simp; exact fun hh => sq q hh rfl))⟩
theorem nextO_good : SpecGood Tryz.prog (23, nextO) := by
  refine spec_good mixed Tryz.func23 (by kernel_rfl) (by kernel_rfl) (tab := tabNx) tabNx_good (keep := r_next_keep) ?_
  rintro args h k ⟨B, v, l, rfl, few, lt, s, H1, H2⟩
  refine ⟨6, ?_⟩
  show r_next (tabC _) idG 6 v h _
  rw [r_next_eq]
  refine allocE_in fun h1 c1 n1 o1 => ?_
  refine allocE_in fun h2 c2 n2 o2 => ?_
  have ba : buildV [.int .i64 0, .int .i64 0, .int .i64 0, .int .i64 0] (some [(0, 1, .int .i64 1), (1, 1, .int .i64 4), (2, 1, .int .i64 8), (3, 1, .int .i64 2)]) = some arr4 := rfl
  simp only [ba, bindV_some, idG_eq]
  have c02 := c1.seq c2
  have oq2 : h2.objs h.next = some (.cells [.int .i64 0, .int .u32 0, .int .u64 0, .slice none 0 0] true) := c2.at0 (by omega) o1
  have sh : ∀ {hx : St}, Chg h hx [] → l.length < 15 → ∀ h', Chg hx h' [h.next] → k (.tuple #[evV zEv (.slice none 0 0), .slice none 0 0, .int .i64 3]) h' := fun {hx} cx hl h' c => by
    have st : stepE l = 3 := by unfold stepE; rw [if_pos hl]
    have := H2 (by omega) h' (cx.new c (Nat.le_refl _))
    rw [st] at this
    exact this
  -- the four numbers
  refine next_one (j := 0) (w := 1) few lt (s.chg0 c02) (by omega) rfl (by omega) (by omega) o2 rfl (by omega) ⟨_, rfl, oq2⟩ (by omega) (by omega) (fun hl => sh c02 (by omega)) fun w1 h3 v3 y6 y8 y9 c3 s3 o3 => ?_
  have m3 := c3.1
  have c03 : Chg h h3 [] := c02.new c3 (by omega)
  have oq3 := c3.at1 (by omega) (by omega) oq2
  have lt1 : ∀ n, ∀ x ∈ l.drop n, x < 256 := fun n x hx => lt x (List.mem_of_mem_drop hx)
  have ld : ∀ n, (l.drop n).length = l.length - n := fun n => List.length_drop ..
  refine next_one (j := 1) (w := 4) (by rw [ld]; omega) (lt1 1) s3 (by omega) rfl (by omega) (by omega) o3 rfl (by omega) ⟨_, rfl, oq3⟩ (by omega) (by omega) (fun hl => sh c03 (by rw [ld] at hl; omega)) fun w2 h4 v4 y6 y8 y9 c4 s4 o4 => ?_
  rw [ld] at w2
  rw [List.drop_drop] at s4
  have m4 := c4.1
  have c04 : Chg h h4 [] := c03.new c4 (by omega)
  have oq4 := c4.at1 (by omega) (by omega) oq3
  refine next_one (j := 2) (w := 8) (by rw [ld]; omega) (lt1 (1 + 4)) s4 (by omega) rfl (by omega) (by omega) o4 rfl (by omega) ⟨_, rfl, oq4⟩ (by omega) (by omega) (fun hl => sh c04 (by rw [ld] at hl; omega)) fun w3 h5 v5 y6 y8 y9 c5 s5 o5 => ?_
  rw [ld] at w3
  rw [List.drop_drop] at s5
  have m5 := c5.1
  have c05 : Chg h h5 [] := c04.new c5 (by omega)
  have oq5 := c5.at1 (by omega) (by omega) oq4
  refine next_one (j := 3) (w := 2) (by rw [ld]; omega) (lt1 (1 + 4 + 8)) s5 (by omega) rfl (by omega) (by omega) o5 rfl (by omega) ⟨_, rfl, oq5⟩ (by omega) (by omega) (fun hl => sh c05 (by rw [ld] at hl; omega)) fun w4 h6 v6 y6 y8 y9 c6 s6 o6 => ?_
  rw [ld] at w4
  rw [List.drop_drop] at s6
  have m6 := c6.1
  have c06 : Chg h h6 [] := c05.new c6 (by omega)
  have oq6 := c6.at1 (by omega) (by omega) oq5
  obtain ⟨n0, en0⟩ : ∃ n, n = numB (l.take 1) := ⟨_, rfl⟩
  obtain ⟨n1', en1⟩ : ∃ n, n = numB ((l.drop 1).take 4) := ⟨_, rfl⟩
  obtain ⟨n2', en2⟩ : ∃ n, n = numB ((l.drop (1 + 4)).take 8) := ⟨_, rfl⟩
  obtain ⟨n3, en3⟩ : ∃ n, n = numB ((l.drop (1 + 4 + 8)).take 2) := ⟨_, rfl⟩
  rw [← en0, ← en1, ← en2, ← en3] at o6
  have o6 : h6.objs h1.next = some (.cells (n4 n0 n1' n2' n3) true) := o6
  have s6 : By (fun i => h5.next ≤ i) h6 v6 (l.drop 15) := s6
  have ie := step_ok lt
  have dk : (decE l).k = (n0 : Int) := by rw [en0]; rfl
  have di : (decE l).i = n1' := en1.symm
  have dn : (decE l).n = n2' := en2.symm
  have db : (decE l).b = (l.drop 15).take n3 := by rw [en3]; rfl
  have le3 : lenE l = 15 + n3 := by rw [en3]; rfl
  have n0lt : n0 < 256 := by
    have := numB_lt (l.take 1) fun x hx => lt x (List.mem_of_mem_take hx)
    rw [List.length_take] at this
    have h2 : (256 : Nat) ^ (min 1 l.length) ≤ 256 ^ 1 := Nat.pow_le_pow_right (by omega) (by omega)
    omega
  have l15 : ¬ l.length < 15 := by omega
  -- behind the numbers
  rw [r_next_l0_eq]
  have l4 : binNil .lss .other (.int .i64 ((3 + 1 : Nat) : Int)) (.int .i64 4) = some (.bool false) := rfl
  simp only [l4, bindV_some, condK_bool, Bool.false_eq_true, if_false, idG_eq]
  rw [r_next_j1_eq]
  have i0 : idxA 4 1 (.pointer (some ⟨h1.next, 0, none⟩)) (.int .i64 0) = some (.pointer (some ⟨h1.next, 0, none⟩)) := rfl
  have i1 : idxA 4 1 (.pointer (some ⟨h1.next, 0, none⟩)) (.int .i64 1) = some (.pointer (some ⟨h1.next, 1, none⟩)) := rfl
  have i2 : idxA 4 1 (.pointer (some ⟨h1.next, 0, none⟩)) (.int .i64 2) = some (.pointer (some ⟨h1.next, 2, none⟩)) := rfl
  have i3 : idxA 4 1 (.pointer (some ⟨h1.next, 0, none⟩)) (.int .i64 3) = some (.pointer (some ⟨h1.next, 3, none⟩)) := rfl
  have lds : ∀ h', h'.objs h1.next = some (.cells (n4 n0 n1' n2' n3) true) → loadV false 1 (.pointer (some ⟨h1.next, 0, none⟩)) h' = some (.int .u64 (n0 : Int)) ∧ loadV false 1 (.pointer (some ⟨h1.next, 1, none⟩)) h' = some (.int .u64 (n1' : Int)) ∧ loadV false 1 (.pointer (some ⟨h1.next, 2, none⟩)) h' = some (.int .u64 (n2' : Int)) ∧ loadV false 1 (.pointer (some ⟨h1.next, 3, none⟩)) h' = some (.int .u64 (n3 : Int)) := fun h' o => by
    refine ⟨?_, ?_, ?_, ?_⟩ <;> (simp only [loadV_ptr, o, loadM_cells, partV_one]; rfl)
  obtain ⟨a0, a1, a2, a3⟩ := lds h6 o6
  have wl : wrapV .u64 (.int .i64 ((l.drop 15).length : Int)) = some (.int .u64 ((l.drop 15).length : Int)) := by rw [wrapV_int, u64_wrap _ (by rw [ld]; omega)]
  have ls : binV .lss .other (.int .u64 ((l.drop 15).length : Int)) (.int .u64 (n3 : Int)) = some (.bool (decide ((l.drop 15).length < n3))) := by
    rw [binV_lss, show decide (((l.drop 15).length : Int) < (n3 : Int)) = decide ((l.drop 15).length < n3) from decide_eq_decide.2 (by omega)]
  simp only [SliceAt.len s6, wl, i3, a3, ls, bindV_some, condK_bool, decide_eq_true_eq]
  by_cases sh3 : (l.drop 15).length < n3
  · rw [if_pos sh3]
    simp only [zEv_build, bindV_some]
    refine put_ev (B := fun _ => True) By.nil oq6 rfl (by omega) fun h7 c7 n7 x7 => ?_
    simp only [x7.ld.2.2.2.2, bindV_some]
    have st : stepE l = 3 := by
      unfold stepE
      rw [if_neg l15, le3, if_pos (by rw [ld] at sh3; omega)]
    have := H2 (by omega) h7 (c06.new c7 (Nat.le_refl _))
    rw [st] at this
    exact ⟨h7, St.le.refl _, this⟩
  rw [if_neg sh3]
  have stp : stepE l = if okE (decE l) = true then 0 else 2 := by
    unfold stepE
    rw [if_neg l15, le3, if_neg (by rw [ld] at sh3; omega)]
  have w0 : wrapV .i64 (.int .u64 (n0 : Int)) = some (.int .i64 (decE l).k) := by rw [wrapV_int, dk, i64_in _ (by omega)]
  have w1' : wrapV .u32 (.int .u64 (n1' : Int)) = some (.int .u32 ((decE l).i : Int)) := by
    rw [wrapV_int, di, IntKind.wrap_u32]
    have := ie.1
    rw [di] at this
    congr 2; omega
  obtain ⟨vc, cut1, cut2⟩ := cut_hi s6 (e := n3) (by omega) (k := .u64)
  have fin2 : ∀ {C : Nat → Prop} {hx : St} {b : Nat} {sw : Value}, Chg h hx [] → BxE hx b (decE l) sw → By C hx sw (decE l).b → (∀ j, C j → h.next < j) → By (fun i => h5.next ≤ i) hx v6 (l.drop 15) → hx.objs h1.next = some (.cells (n4 n0 n1' n2' n3) true) → h1.next < hx.next → (∃ zs, zs.length = 4 ∧ hx.objs h.next = some (.cells zs true)) → b ≠ h.next → _ := fun {C hx b sw} cx x t hC s op pn oq bq =>
    next_tail (k := k) (h0 := h) cx x t s op pn oq (by omega) (by omega) (Nat.le_refl _) bq (fun j hj => by have := hC j hj; omega) (fun j hj => by omega) (by omega)
      (fun no h' c' => by
        have st : stepE l = 2 := by rw [stp, if_neg (by rw [no]; simp)]
        have := H2 (by omega) h' c'
        rw [st] at this
        exact this)
      (fun ok h' v' c' tt ss => H1 (by rw [stp, if_pos ok]) h' sw v' c' (SliceAt.imp tt fun j _ hj => by have := hC j hj; omega) (by rw [le3, ← List.drop_drop]; exact SliceAt.imp ss fun j _ hj => by omega))
  simp only [idG_eq]
  refine ⟨?_, ?_⟩
  · simp only [i0, a0, bindV_some]
    refine ⟨trivial, ?_⟩
    simp only [w0, i1, a1, bindV_some]
    refine ⟨trivial, ?_⟩
    simp only [w1', i2, a2, bindV_some]
    refine ⟨trivial, ?_⟩
    simp only [i3, a3, bindV_some]
    refine ⟨trivial, ?_⟩
    simp only [cut1, bindV_some]
    refine cK (S := bCloneO) (by simp [tabNx]) ⟨_, vc, _, rfl, by rw [List.length_take, ld]; omega, cut2, fun h7 sw c7 t7 => ?_⟩
    have m7 := c7.1
    rw [← db] at t7
    obtain ⟨d0, d1, d2, _⟩ := lds h7 (c7.at0 (by omega) o6)
    refine ⟨⟨trivial, d2, d1, d0, trivial⟩, ?_⟩
    have bv := build_ev (e := decE l) t7
    rw [dn] at bv
    simp only [bv, bindV_some]
    refine allocE_in fun h8 c8 n8 o8 => ?_
    have o68 := c8.at0 (by omega) (c7.at0 (by omega) o6)
    obtain ⟨d0, d1, d2, _⟩ := lds h8 o68
    refine ⟨⟨trivial, d2, d1, d0, trivial⟩, ?_⟩
    have t8 := t7.chg0 c8
    refine put_ev t8 o8 rfl (by omega) fun h9 c9 n9 x9 => ⟨⟨trivial, trivial, trivial, trivial, trivial⟩, ?_⟩
    have c69 : Chg h6 h9 [] := (c7.seq c8).new c9 (by omega)
    exact fin2 (C := fun j => h6.next ≤ j ∧ j < h7.next) (c06.seq c69) x9 (SliceAt.chg (By.chg0 (SliceAt.imp t7 fun j hj hb => (⟨hb, hj⟩ : h6.next ≤ j ∧ j < h7.next)) c8) c9 (by simp)) (fun j hj => by omega) (s6.chg0 c69) (c69.at0 (by omega) o6) (by omega) ⟨_, rfl, c69.at0 (by omega) oq6⟩ (by omega)
  · simp only [i0, a0, bindV_some]
    refine ⟨trivial, ?_⟩
    simp only [w0, i1, a1, bindV_some]
    refine ⟨trivial, ?_⟩
    simp only [w1', i2, a2, bindV_some]
    refine ⟨trivial, ?_⟩
    simp only [i3, a3, bindV_some]
    refine ⟨trivial, ?_⟩
    simp only [cut1, bindV_some]
    refine allocE_in fun h7 c7 n7 o7 => ?_
    have o67 := c7.at0 (by omega) o6
    obtain ⟨d0, d1, d2, d3⟩ := lds h7 o67
    refine ⟨⟨d3, d2, d1, d0, trivial⟩, ?_⟩
    refine cK (S := bCloneO) (by simp [tabNx]) ⟨_, vc, _, rfl, by rw [List.length_take, ld]; omega, cut2.chg0 c7, fun h8 sw c8 t8 => ?_⟩
    have m8 := c8.1
    rw [← db] at t8
    obtain ⟨d0, d1, d2, _⟩ := lds h8 (c8.at0 (by omega) o67)
    refine ⟨⟨trivial, d2, d1, d0, trivial⟩, ?_⟩
    have bv := build_ev (e := decE l) t8
    rw [dn] at bv
    simp only [bv, bindV_some]
    refine put_ev t8 (c8.at0 (by omega) o7) rfl (by omega) fun h9 c9 n9 x9 => ⟨⟨trivial, trivial, trivial, trivial, trivial⟩, ?_⟩
    have c69 : Chg h6 h9 [] := (c7.seq c8).new c9 (by omega)
    exact fin2 (C := fun j => h7.next ≤ j) (c06.seq c69) x9 (SliceAt.chg t8 c9 (by simp; omega)) (fun j hj => by omega) (s6.chg0 c69) (c69.at0 (by omega) o6) (by omega) ⟨_, rfl, c69.at0 (by omega) oq6⟩ (by omega)
/-! ### Decode -/
def decO : Abs.Spec := fun args h k => ∃ (B : Nat → Prop) (v : Value) (l : List Nat), args = [v] ∧ l.length ≤ 900000000 ∧ (∀ x ∈ l, x < 256) ∧ By B h v l ∧
  ∀ h' v' P, Chg h h' [] → EvsO h.next h' v' P → evs P = (decL l).1 → k (.tuple #[v', .int .i64 ((decL l).2.1 : Int), .int .i64 ((decL l).2.2 : Int)]) h'
theorem rdec_l0 {nn : Nat} {x2 x3 x4 : Value} {T : List Ev × Nat × Nat} {h0 : St} {k : Cont} (H : ∀ h' v' P, Chg h0 h' [] → EvsO h0.next h' v' P → evs P = T.1 → k (.tuple #[v', .int .i64 (T.2.1 : Int), .int .i64 (T.2.2 : Int)]) h') :
    ∀ (f m0 : Nat) (h : St) (B : Nat → Prop) (v : Value) (r : List Nat) (out : Value) (P : List (Ev × Value)) (x6 x7 : Value), r.length ≤ f → f < m0 → Chg h0 h [] → By B h v r → (∀ x ∈ r, x < 256) → r.length + 15 * P.length ≤ 900000000 → EvsO h0.next h out P → decR f r (evs P) = T →
      r_Decode_l0 (tabC [(23, nextO)]) idG nn m0 v x2 x3 x4 out x6 x7 h (fun v h1 => ∃ h2, St.le h2 h1 ∧ k v h2) := by
  have gt : ∀ n : Nat, binNil .gtr .other (.int .i64 (n : Int)) (.int .i64 0) = some (.bool (decide (0 < n))) := fun n => by
    rw [binNil_int, binV_gtr, show decide ((n : Int) > 0) = decide (0 < n) from decide_eq_decide.2 (by omega)]
  intro f
  induction f with
  | zero =>
    intro m0 h B v r out P x6 x7 hf hm c s lt few o eq
    obtain ⟨m0, rfl⟩ : ∃ m, m0 = m + 1 := ⟨m0 - 1, by omega⟩
    rw [r_Decode_l0_eq]
    have e : decR 0 r (evs P) = (evs P, 0, 0) := rfl
    rw [e] at eq
    subst eq
    simp only [SliceAt.len s, gt, decide_eq_false (show ¬ 0 < r.length by omega), bindV_some, condK_bool, Bool.false_eq_true, if_false, idG_eq]
    rw [r_Decode_j1_eq]
    exact ⟨h, St.le.refl _, H h out P c o rfl⟩
  | succ f ih =>
    intro m0 h B v r out P x6 x7 hf hm c s lt few o eq
    obtain ⟨m0, rfl⟩ : ∃ m, m0 = m + 1 := ⟨m0 - 1, by omega⟩
    rw [r_Decode_l0_eq]
    unfold decR at eq
    by_cases r0 : r.length = 0
    · rw [if_pos r0] at eq
      subst eq
      simp only [SliceAt.len s, gt, decide_eq_false (show ¬ 0 < r.length by omega), bindV_some, condK_bool, Bool.false_eq_true, if_false, idG_eq]
      rw [r_Decode_j1_eq]
      exact ⟨h, St.le.refl _, H h out P c o rfl⟩
    rw [if_neg r0] at eq
    simp only [SliceAt.len s, gt, decide_eq_true (show 0 < r.length by omega), bindV_some, condK_bool, if_true, idG_eq]
    have x0 : ∀ a b c : Value, extV 0 (.tuple #[a, b, c]) = some a := extV_three0
    have x1 : ∀ a b c : Value, extV 1 (.tuple #[a, b, c]) = some b := extV_three1
    have x2' : ∀ a b c : Value, extV 2 (.tuple #[a, b, c]) = some c := extV_three2
    have mc := c.1
    refine cK (S := nextO) (by simp) ⟨B, v, r, rfl, by omega, lt, s, fun st h1 sv v' c1 t1 s1 => ?_, fun st h1 c1 => ?_⟩
    · rw [if_neg (by omega)] at eq
      obtain ⟨_, ie, _, e4, e5⟩ := enc_dec lt st
      simp only [x0, x1, x2', bindV_some]
      refine allocE_in fun h2 c2 n2 o2 => ?_
      have m1 := c1.1
      have t2 : By (fun j => h.next ≤ j ∧ j < h1.next) h2 sv (decE r).b := By.chg0 (SliceAt.imp t1 fun j hj hb => (⟨hb, hj⟩ : h.next ≤ j ∧ j < h1.next)) c2
      have s2 : By (fun j => h.next ≤ j ∧ j < h1.next) h2 v' (r.drop (lenE r)) := By.chg0 (SliceAt.imp s1 fun j hj hb => (⟨hb, hj⟩ : h.next ≤ j ∧ j < h1.next)) c2
      refine put_ev t2 o2 rfl (by omega) fun h3 c3 n3 y3 => ?_
      have c03 : Chg h h3 [] := (c1.seq c2).new c3 (by omega)
      have q0 : binNil .neq .other (.int .i64 0) (.int .i64 0) = some (.bool false) := rfl
      simp only [q0, bindV_some, condK_bool, Bool.false_eq_true, if_false, idG_eq, y3.ld.2.2.2.2]
      have t3 : By (fun j => h.next ≤ j) h3 sv (decE r).b := SliceAt.imp (SliceAt.chg t2 c3 (by simp)) fun _ _ h => h.1
      have s3 : By (fun j => h.next ≤ j ∧ j < h3.next) h3 v' (r.drop (lenE r)) := SliceAt.imp (SliceAt.chg s2 c3 (by simp)) fun j hj h => ⟨h.1, hj⟩
      refine push_ev (n0 := h0.next) mc c03 o t3 (by omega) fun h4 out4 c4 o4 => ?_
      simp only [idG_eq]
      refine ih m0 h4 (fun j => h.next ≤ j ∧ j < h3.next) v' (r.drop (lenE r)) out4 (P ++ [(decE r, sv)]) _ _ (by rw [List.length_drop]; omega) (by omega) (fresh_out (c.seq c03) (c4.mono fun _ _ h => h.1)) (SliceAt.chgP s3 c4 fun j h1 h2 => by omega) (fun x hx => lt x (List.mem_of_mem_drop hx)) (by rw [List.length_drop, List.length_append]; simp; omega) o4 ?_
      have : evs (P ++ [(decE r, sv)]) = evs P ++ [decE r] := by unfold evs; rw [List.map_append]; rfl
      rw [this]; exact eq
    · rw [if_pos st] at eq
      subst eq
      simp only [x0, x1, x2', bindV_some]
      refine allocE_in fun h2 c2 n2 o2 => ?_
      have m1 := c1.1
      refine put_ev (B := fun _ => True) By.nil o2 rfl (by omega) fun h3 c3 n3 y3 => ?_
      have q0 : binNil .neq .other (.int .i64 (stepE r : Int)) (.int .i64 0) = some (.bool true) := by rw [nk, decide_eq_false (by omega)]; rfl
      have lo := SliceAt.len o.look.1
      simp only [q0, bindV_some, condK_bool, if_true, lo]
      have c03 : Chg h h3 [] := (c1.seq c2).new c3 (by omega)
      have := H h3 (.slice none 0 0) [] (c.seq c03) EvsO.nil rfl
      rw [evs_len] at this
      exact ⟨h3, St.le.refl _, this⟩
theorem rdecO_good : SpecGood Tryz.prog (13, decO) := by
  refine spec_good mixed Tryz.func13 (by kernel_rfl) (by kernel_rfl) (tab := [(23, nextO)]) (by simp [nextO_good]) (keep := r_Decode_keep) ?_
  rintro args h k ⟨B, v, l, rfl, few, lt, s, H⟩
  refine ⟨l.length + 1, ?_⟩
  show r_Decode (tabC _) idG _ v h _
  rw [r_Decode_eq]
  simp only [idG_eq]
  exact rdec_l0 (T := decL l) H l.length _ h B v l _ [] _ _ (Nat.le_refl _) (by omega) (Chg.refl _ _) s lt (by simp; omega) EvsO.nil rfl
end Go.Proofs.YtnnjcenoihdhfaaGreatDoor
end
