/- The document's pool, walked: made, read, changed. -/
import Derived.Test.YtomjbkembmimbaaG
import Derived.Test.YtomjbkembmimbaaE
import Derived.Test.YtomjbkembmimbaaGenR
set_option linter.unusedSimpArgs false
set_option linter.unusedVariables false
set_option maxHeartbeats 4000000
namespace Go.Proofs.Ytomjbkembmimbaa
open Go.Abs Go.IntWalk
attribute [local congr] bindV_weak condK_weak guardK_weak groupK_weak allocE_weak boxE_weak storeE_weak storeM_weak tabC_weak ite_weak idG_weak

theorem guardK_undef (w : Bool) (y n : Prop) : guardK undef w y n = n := propext Iff.rfl
def ptr (b : Nat) : Value := .pointer (some ⟨b, 0, none⟩)
def rowI (A : List Inst) (i : Nat) : List Value := cellsI (A[i]?.getD .zero)
theorem rowI_at {A : List Inst} {i : Nat} (h : i < A.length) : rowI A i = cellsI A[i] := by simp [rowI, h]
def encR (s : Value) (beat : Int) : Value := .agg #[s, .int .i64 beat]
theorem OwnS.rows {B : Nat → Prop} {h : St} {v : Value} {A : List Inst} (s : OwnS B h v 3 (flat A) A.length) : SliceAt B h v A.length 3 (rowI A) :=
  s.slice (fun _ _ => rfl) fun i x hx => by simp [rowI, hx]

/-! ### Get -/
def refGetS : Abs.Spec := fun args h k => ∃ (B : Nat → Prop) (s : Value) (A : List Inst) (beat : Int) (id : Nat), args = [encR s beat, .int .u32 id] ∧ id < 4294967296 ∧ A.length ≤ 16 ∧ SliceAt B h s A.length 3 (rowI A) ∧
  ∀ h', Chg h h' [] → k (.tuple #[encI (instZ (some (A, beat)) id), .bool (atZ (some (A, beat)) id).isSome]) h'
theorem refGet_l0 {B : Nat → Prop} {s x5 : Value} {A : List Inst} {beat : Int} {id p2 p4 nn : Nat} {h : St} {K : Cont} {cs : List Value} (hA : A.length ≤ 16) (hid : id < 4294967296) (o2 : h.objs p2 = some (.cells [s, .int .i64 beat] true)) (o4 : h.objs p4 = some (.cells cs true)) (hcs : cs.length = 3) (sl : SliceAt B h s A.length 3 (rowI A))
    (H : ∀ h', Chg h h' [p4] → K (.tuple #[encI (instZ (some (A, beat)) id), .bool (atZ (some (A, beat)) id).isSome]) h') :
    ∀ (d i m0 : Nat), i + d = A.length → d < m0 → (∀ j, j < i → j + 1 ≠ id) → tiltyardref21_Get_l0 (tabC []) idG nn m0 (.int .u32 id) (ptr p2) (ptr p4) x5 (.int .i64 i) h K := by
  intro d
  induction d with
  | zero =>
    intro i m0 hi hm hn
    obtain ⟨m0, rfl⟩ : ∃ m, m0 = m + 1 := ⟨m0 - 1, by omega⟩
    rw [tiltyardref21_Get_l0_eq]
    have e : i = A.length := by omega
    subst e
    have ha : atZ (some (A, beat)) id = none := by
      simp only [atZ]
      rw [if_neg]
      intro hc
      exact hn (id - 1) (by omega) (by omega)
    have hz : instZ (some (A, beat)) id = .zero := by simp [instZ, ha]
    rw [ha, hz] at H
    simp [ptr, o2, sl.len]
    rw [tiltyardref21_Get_j1_eq]
    simp [ptr, o4, hcs, buildV, fillL]
    exact H _ (Chg.set _ (by simp))
  | succ d ih =>
    intro i m0 hi hm hn
    obtain ⟨m0, rfl⟩ : ∃ m, m0 = m + 1 := ⟨m0 - 1, by omega⟩
    rw [tiltyardref21_Get_l0_eq]
    have hlt : (i : Int) < A.length := by omega
    have hi' : i < A.length := by omega
    obtain ⟨b, o, g1, g2, g3, cs', own, g4, g5⟩ := sl.idx (Int.natCast_nonneg i) hlt .i64
    rw [Int.toNat_natCast, rowI_at hi'] at g5
    have w1 : IntKind.u32.wrap (i : Int) = i := u32_in _ (by omega)
    have w2 : IntKind.u32.wrap ((i : Int) + 1) = ((i + 1 : Nat) : Int) := by rw [u32_in _ (by omega)]; omega
    have inc : IntKind.i64.wrap ((i : Int) + 1) = ((i + 1 : Nat) : Int) := by rw [i64_in _ (by omega)]; omega
    have ic : ((i : Int) + 1) = ((i + 1 : Nat) : Int) := by omega
    by_cases hx : i + 1 = id
    · have ha : atZ (some (A, beat)) id = some i := by
        simp only [atZ]
        rw [if_pos (by omega)]
        congr 1
        omega
      have hz : instZ (some (A, beat)) id = A[i] := by simp [instZ, ha, getA, hi']
      rw [ha, hz] at H
      have hx' : ((i + 1 : Nat) : Int) = (id : Int) := by omega
      simp only [ptr, offV_ptr, bindV_some, loadV_ptr, o2, loadM_cells, partV_one, Nat.add_zero, List.getElem?_cons_zero, sl.len, binV_lss, hlt, decide_true, condK_bool, if_true, idG_eq, wrapV_int, w1, binNil_int, binV_add, w2, binV_eql, hx', g1, g4, partV_agg, g5, Option.map_some, storeE_ptr, o4, storeM_cells, cells_agg]
      refine ⟨⟨rfl, by omega, rfl⟩, ?_⟩
      simp [hcs, cellsI]
      exact H _ (Chg.set _ (by simp))
    · have hx' : ¬ ((i + 1 : Nat) : Int) = (id : Int) := by omega
      simp only [ptr, offV_ptr, bindV_some, loadV_ptr, o2, loadM_cells, partV_one, Nat.add_zero, List.getElem?_cons_zero, sl.len, binV_lss, hlt, decide_true, condK_bool, if_true, idG_eq, wrapV_int, w1, binNil_int, binV_add, w2, binV_eql, hx', decide_false, Bool.false_eq_true, if_false, inc]
      exact ih (i + 1) m0 (by omega) (by omega) (fun j hj => if hji : j = i then by subst hji; exact hx else hn j (by omega))
theorem refGetS_good : SpecGood Try.prog (33, refGetS) := by
  refine spec_good mixed Try.func33 (by kernel_rfl) (by kernel_rfl) (tab := []) (by simp) (keep := tiltyardref21_Get_keep) ?_
  rintro args h k ⟨B, s, A, beat, id, rfl, hid, hA, sl, H⟩
  refine ⟨20, ?_⟩
  show tiltyardref21_Get (tabC []) idG 20 (encR s beat) (.int .u32 id) h _
  rw [tiltyardref21_Get_eq]
  have cc := sl.cells1
  have c1 := Chg.push (h := h) (.cells [s, .int .i64 beat] true) []
  have c2 : Chg h ((h.push (.cells [s, .int .i64 beat] true)).push (.cells [.int .i64 0, .int .u32 0, .int .i64 0] true)) [] := c1.of_push
  simp only [encR, boxE_eq, cells_agg, allocE_some, push_next, idG_eq]
  refine ⟨by simp [sl.one], ?_⟩
  refine refGet_l0 (beat := beat) (p2 := h.next) (p4 := h.next + 1) (cs := [.int .i64 0, .int .u32 0, .int .i64 0]) hA hid ?_ (push_at1 _ _ _) rfl (sl.chg c2 (by simp)) ?_ A.length 0 20 (by omega) (by omega) (by omega)
  · rw [push_ne (by simp)]; exact push_at _ _
  · exact fun h' c => ⟨_, St.le.refl _, H h' (c2.of_chg c (by simp))⟩

/-! ### With -/
def refWithS : Abs.Spec := fun args h k => ∃ (B : Nat → Prop) (s : Value) (A : List Inst) (beat : Int) (id i : Nat) (x : Inst), args = [encR s beat, .int .u32 id, encI x] ∧ id < 4294967296 ∧ A.length ≤ 16 ∧ SliceAt B h s A.length 3 (rowI A) ∧ atZ (some (A, beat)) id = some i ∧
  ∀ h' s', Chg h h' [] → SliceAt (h.next ≤ ·) h' s' (A.set i x).length 3 (rowI (A.set i x)) → k (encR s' beat) h'
theorem take_set_eq {A : List Inst} {i k : Nat} {x : Inst} (hk : k < A.length) : (A.set i x).take (k + 1) = (A.set i x).take k ++ [if i = k then x else A[k]] := by
  rw [List.take_add_one, List.getElem?_set]
  by_cases h : i = k
  · subst h; simp [hk]
  · simp [h, hk]
theorem flat_snoc (A : List Inst) (x : Inst) : flat (A ++ [x]) = flat A ++ cellsI x := by simp [flat]
theorem refWith_l0 {B : Nat → Prop} {s : Value} {A : List Inst} {beat : Int} {id ix p3 p5 p6 p7 nn : Nat} {x : Inst} {h0 : St} {K : Cont} (hA : A.length ≤ 16) (hid : id < 4294967296) (hix : ix + 1 = id) (d3 : h0.next ≤ p3) (d5 : h0.next ≤ p5) (d6 : h0.next ≤ p6) (d7 : h0.next ≤ p7) (e1 : p3 < p5) (e2 : p5 < p6) (e3 : p6 < p7) (sl : SliceAt B h0 s A.length 3 (rowI A)) (hB : ∀ i, B i → i < h0.next)
    (H : ∀ h' s', Chg h0 h' [] → SliceAt (h0.next ≤ ·) h' s' A.length 3 (rowI (A.set ix x)) → K (encR s' beat) h') :
    ∀ (d k m0 : Nat) (h : St) (s' : Value) (c6 : List Value), k + d = A.length → d < m0 → Chg h0 h [] → p7 < h.next → h.objs p3 = some (.cells [s, .int .i64 beat] true) → h.objs p5 = some (.cells (cellsI x) true) → h.objs p6 = some (.cells c6 true) → c6.length = 2 → h.objs p7 = some (.cells [s', .int .i64 beat] true) →
      OwnS (fun i => h0.next ≤ i ∧ i ≠ p3 ∧ i ≠ p5 ∧ i ≠ p6 ∧ i ≠ p7) h s' 3 (flat ((A.set ix x).take k)) k → tiltyardref21_With_l0 (tabC []) idG nn m0 (.int .u32 id) (ptr p3) (ptr p5) (ptr p6) (ptr p7) (.int .i64 k) h K := by
  intro d
  induction d with
  | zero =>
    intro k m0 h s' c6 hk hm c hp7 o3 o5 o6 h6 o7 own
    obtain ⟨m0, rfl⟩ : ∃ m, m0 = m + 1 := ⟨m0 - 1, by omega⟩
    rw [tiltyardref21_With_l0_eq]
    have e : k = A.length := by omega
    subst e
    have hrow : SliceAt (fun i => h0.next ≤ i ∧ i ≠ p3 ∧ i ≠ p5 ∧ i ≠ p6 ∧ i ≠ p7) h s' A.length 3 (rowI (A.set ix x)) := by
      have e : (A.set ix x).take A.length = A.set ix x := by rw [List.take_of_length_le (by simp)]
      rw [e] at own
      have := OwnS.rows (A := A.set ix x) (by rw [List.length_set]; exact own)
      rwa [List.length_set] at this
    simp [ptr, o3, sl.len]
    rw [tiltyardref21_With_j2_eq]
    simp [ptr, o6, o7, h6]
    refine ⟨by simp [own.one], ?_⟩
    exact H _ _ (c.of_set (.inr d6)) ((hrow.chgP (D := (· = p6)) ((Chg.set (S := [p6]) _ (by simp)).toP (by simp)) (by rintro i rfl h; exact h.2.2.2.1 rfl)).imp fun i _ h => h.1)
  | succ d ih =>
    intro k m0 h s' c6 hk hm c hp7 o3 o5 o6 h6 o7 own
    obtain ⟨m0, rfl⟩ : ∃ m, m0 = m + 1 := ⟨m0 - 1, by omega⟩
    rw [tiltyardref21_With_l0_eq]
    have hlt : (k : Int) < A.length := by omega
    have hk' : k < A.length := by omega
    have slh := sl.chg c (by simp)
    obtain ⟨b, o, g1, g2, g3, cs', own', g4, g5⟩ := slh.idx (Int.natCast_nonneg k) hlt .i64
    rw [Int.toNat_natCast, rowI_at hk'] at g5
    have w1 : IntKind.u32.wrap (k : Int) = k := u32_in _ (by omega)
    have w2 : IntKind.u32.wrap ((k : Int) + 1) = ((k + 1 : Nat) : Int) := by rw [u32_in _ (by omega)]; omega
    have inc : IntKind.i64.wrap ((k : Int) + 1) = ((k + 1 : Nat) : Int) := by rw [i64_in _ (by omega)]; omega
    have r1 := c.1
    -- one more row
    have nx : ∀ (y : Inst) (h2 : St) (v' : Value), y = (if ix = k then x else A[k]) → ChgP (fun i => h0.next ≤ i ∧ i ≠ p3 ∧ i ≠ p5 ∧ i ≠ p6 ∧ i ≠ p7) h h2 → OwnS (fun i => h0.next ≤ i ∧ i ≠ p3 ∧ i ≠ p5 ∧ i ≠ p6 ∧ i ≠ p7) h2 v' 3 (flat ((A.set ix x).take k) ++ cellsI y) (k + 1) →
        tiltyardref21_With_j1 (tabC []) idG nn m0 (.int .u32 id) (ptr p3) (ptr p5) (ptr p6) (ptr p7) (.int .i64 k) (h2.set p7 (.cells [v', .int .i64 beat] true)) K := by
      intro y h2 v' hy q1 q2
      rw [tiltyardref21_With_j1_eq]
      simp only [binNil_int, binV_add, bindV_some, inc, idG_eq]
      have m := q1.1
      have q0 : Chg h0 h2 [] := ((c.toP (D := (h0.next ≤ ·)) (by simp)).step (q1.mono fun i _ h => h.1)).list (by intro i hi hh; omega)
      refine ih (k + 1) m0 _ v' c6 (by omega) (by omega) (q0.of_set (.inr d7)) (by simp; omega) ?_ ?_ ?_ h6 (set_at _ _ _) ?_
      · rw [set_ne (by omega)]; exact q1.at (by omega) (by simp) o3
      · rw [set_ne (by omega)]; exact q1.at (by omega) (by simp) o5
      · rw [set_ne (by omega)]; exact q1.at (by omega) (by simp) o6
      · rw [take_set_eq hk', flat_snoc, ← hy]
        exact q2.chgP (D := (· = p7)) ((Chg.set (S := [p7]) _ (by simp)).toP (by simp)) (by rintro i rfl h; exact h.2.2.2.2 rfl)
    -- what is appended
    have ap : ∀ (y : Inst) (K' : Cont), (∀ h2 v', ChgP (fun i => h0.next ≤ i ∧ i ≠ p3 ∧ i ≠ p5 ∧ i ≠ p6 ∧ i ≠ p7) h h2 → OwnS (fun i => h0.next ≤ i ∧ i ≠ p3 ∧ i ≠ p5 ∧ i ≠ p6 ∧ i ≠ p7) h2 v' 3 (flat ((A.set ix x).take k) ++ cellsI y) (k + 1) → K' v' h2) →
        appendE 3 24 s' (.slice (some ⟨h.next, 0, some 3⟩) 1 0) (h.push (.cells (cellsI y) true)) K' := by
      intro y K' hK
      have c1 : ChgP (fun i => h0.next ≤ i ∧ i ≠ p3 ∧ i ≠ p5 ∧ i ≠ p6 ∧ i ≠ p7) h (h.push (.cells (cellsI y) true)) := (ChgP.refl _ _).of_push
      have o1 := own.chg (Chg.push (h := h) (.cells (cellsI y) true) []) (by simp)
      refine append_own' (B := fun i => h0.next ≤ i ∧ i ≠ p3 ∧ i ≠ p5 ∧ i ≠ p6 ∧ i ≠ p7) (new := cellsI y) (m := 1) (by simp; omega) o1 (by simp [newCells, cellsI]) rfl rfl (by omega) (by omega) fun h2 v2 c2 o2 => hK h2 v2 (c1.step c2) o2
    have cl1 : ∀ v' : Value, OwnS (fun i => h0.next ≤ i ∧ i ≠ p3 ∧ i ≠ p5 ∧ i ≠ p6 ∧ i ≠ p7) h s' 3 (flat ((A.set ix x).take k)) k → True := fun _ _ => trivial
    by_cases hx : k + 1 = id
    · have hx' : ((k + 1 : Nat) : Int) = (id : Int) := by omega
      simp only [ptr, offV_ptr, bindV_some, loadV_ptr, o3, loadM_cells, partV_one, Nat.add_zero, List.getElem?_cons_zero, sl.len, binV_lss, hlt, decide_true, condK_bool, if_true, idG_eq, wrapV_int, w1, binNil_int, binV_add, w2, binV_eql, hx', o7, o5, partV_agg, takeN_lit3, cellsI, Option.map_some]
      simp [buildSliceE, fillL, repL, allOne_eq]
      refine ap x _ fun h2 v' c2 o2 => ?_
      have o7' := c2.at (by omega) (by simp) o7
      simp only [offV_ptr, bindV_some, Nat.zero_add, storeE_ptr, o7', storeM_cells, o2.cells1]
      refine ⟨⟨by simp [o2.cells1], by simp, by simp [o2.cells1, o2.one]⟩, ?_⟩
      exact nx x h2 v' (by rw [if_pos (by omega)]) c2 o2
    · have hx' : ¬ ((k + 1 : Nat) : Int) = (id : Int) := by omega
      simp only [ptr, offV_ptr, bindV_some, loadV_ptr, o3, loadM_cells, partV_one, Nat.add_zero, List.getElem?_cons_zero, sl.len, binV_lss, hlt, decide_true, condK_bool, if_true, idG_eq, wrapV_int, w1, binNil_int, binV_add, w2, binV_eql, hx', decide_false, Bool.false_eq_true, if_false, o7, true_and, g1, g4, partV_agg, g5, cellsI, Option.map_some]
      simp [buildSliceE, fillL, repL, allOne_eq]
      have o71 := (Chg.push (h := h) (.cells (cellsI A[k]) true) []).at (by omega) (by simp) o7
      simp only [cellsI] at o71
      refine ⟨by simp [o71], ?_⟩
      refine ap A[k] _ fun h2 v' c2 o2 => ?_
      have o7' := c2.at (by omega) (by simp) o7
      simp only [offV_ptr, bindV_some, Nat.zero_add, storeE_ptr, o7', storeM_cells, o2.cells1, and_self, true_and]
      refine ⟨⟨by simp [o2.cells1], by simp, by simp [o2.cells1, o2.one]⟩, ?_⟩
      exact nx A[k] h2 v' (by rw [if_neg (by omega)]) c2 o2
theorem refWithS_good : SpecGood Try.prog (34, refWithS) := by
  refine spec_good mixed Try.func34 (by kernel_rfl) (by kernel_rfl) (tab := []) (by simp) (keep := tiltyardref21_With_keep) ?_
  rintro args h k ⟨B, s, A, beat, id, i, x, rfl, hid, hA, sl, ha, H⟩
  refine ⟨20, ?_⟩
  show tiltyardref21_With (tabC []) idG 20 (encR s beat) (.int .u32 id) (encI x) h _
  rw [tiltyardref21_With_eq]
  obtain ⟨A', b', e', hi, hi2, _⟩ := at_some ha
  cases e'
  rw [List.length_set] at H
  have e3 : (((h.push (.cells [s, .int .i64 beat] true)).push (.cells [.int .i64 x.st, .int .u32 x.m, .int .i64 x.last] true)).push (.cells [.slice none 0 0, .int .i64 0] true)).objs h.next = some (.cells [s, .int .i64 beat] true) := by
    rw [push_ne (by simp; omega), push_ne (by simp)]; exact push_at _ _
  simp [encR, encI, sl.one, buildV, fillL, e3]
  have sl' : SliceAt (fun i => B i ∧ i < h.next) h s A.length 3 (rowI A) := sl.imp fun i h1 h2 => ⟨h2, h1⟩
  refine refWith_l0 (h0 := h) (beat := beat) (ix := i) (x := x) (p3 := h.next) (p5 := h.next + 1) (p6 := h.next + 1 + 1) (p7 := h.next + 1 + 1 + 1) hA hid hi2 (by omega) (by omega) (by omega) (by omega) (by omega) (by omega) (by omega) sl' (fun i h => h.2) (fun h' s' c sl2 => ⟨_, St.le.refl _, H h' s' c sl2⟩)
    A.length 0 20 _ (.slice none 0 0) [.slice none 0 0, .int .i64 0] (by omega) (by omega) ?_ ?_ ?_ ?_ ?_ rfl ?_ ?_
  · exact ((((Chg.push _ _).of_push).of_push).of_push).of_set (.inr (by omega))
  · simp
  · rw [set_ne (by omega), push_ne (by simp; omega)]; exact e3
  · rw [set_ne (by omega), push_ne (by simp; try omega), push_ne (by simp; try omega)]; exact push_at (h.push _) _
  · rw [set_ne (by omega), push_ne (by simp)]; exact push_at ((h.push _).push _) _
  · exact set_at _ _ _
  · exact .inl ⟨rfl, rfl, by simp [flat]⟩

/-! ### New -/
def refNewS : Abs.Spec := fun args h k => ∃ many beat : Int, args = [.int .i64 many, .int .i64 beat] ∧
  ∀ h' s', Chg h h' [] → SliceAt (h.next ≤ ·) h' s' (List.replicate (min (max many 0) 16).toNat Inst.zero).length 3 (rowI (List.replicate (min (max many 0) 16).toNat Inst.zero)) → k (encR s' beat) h'
theorem refNew_l0 {many beat : Int} {p4 p5 nn : Nat} {h0 : St} {K : Cont} (d4 : h0.next ≤ p4) (e4 : p4 < p5) (H : ∀ h' s', Chg h0 h' [] → SliceAt (h0.next ≤ ·) h' s' (List.replicate (min (max many 0) 16).toNat Inst.zero).length 3 (rowI (List.replicate (min (max many 0) 16).toNat Inst.zero)) → K (encR s' beat) h') :
    ∀ (d i m0 : Nat) (h : St) (s' : Value) (c4 : List Value), i + d = (min (max many 0) 16).toNat → d < m0 → Chg h0 h [] → p5 < h.next → h.objs p4 = some (.cells c4 true) → c4.length = 2 → h.objs p5 = some (.cells [s', .int .i64 beat] true) → OwnS (fun i => h0.next ≤ i ∧ i ≠ p4 ∧ i ≠ p5) h s' 3 (flat (List.replicate i Inst.zero)) i →
      tiltyardref21_New_l0 (tabC []) idG nn m0 (.int .i64 many) (ptr p4) (ptr p5) (.int .i64 i) h K := by
  intro d
  induction d with
  | zero =>
    intro i m0 h s' c4 hi hm c hp5 o4 h4 o5 own
    obtain ⟨m0, rfl⟩ : ∃ m, m0 = m + 1 := ⟨m0 - 1, by omega⟩
    rw [tiltyardref21_New_l0_eq]
    have e : i = (min (max many 0) 16).toNat := by omega
    have fin : tiltyardref21_New_j1 (tabC []) idG nn (.int .i64 many) (ptr p4) (ptr p5) (.int .i64 i) h K := by
      rw [tiltyardref21_New_j1_eq]
      have hrow : SliceAt (fun i => h0.next ≤ i ∧ i ≠ p4 ∧ i ≠ p5) h s' (List.replicate i Inst.zero).length 3 (rowI (List.replicate i Inst.zero)) := OwnS.rows (by simpa using own)
      simp [ptr, o4, o5, h4]
      refine ⟨by simp [own.one], ?_⟩
      rw [← e] at H
      exact H _ _ (c.of_set (.inr d4)) ((hrow.chgP (D := (· = p4)) ((Chg.set (S := [p4]) _ (by simp)).toP (by simp)) (by rintro i rfl h; exact h.2.1 rfl)).imp fun i _ h => h.1)
    by_cases c1 : (i : Int) < many
    · have c2 : ¬ (i : Int) < 16 := by omega
      simp [groupK_eq, c1, c2, getT]
      exact fin
    · simp [groupK_eq, c1, getT]
      exact fin
  | succ d ih =>
    intro i m0 h s' c4 hi hm c hp5 o4 h4 o5 own
    obtain ⟨m0, rfl⟩ : ∃ m, m0 = m + 1 := ⟨m0 - 1, by omega⟩
    rw [tiltyardref21_New_l0_eq]
    have c1 : (i : Int) < many := by omega
    have c2 : (i : Int) < 16 := by omega
    have inc : IntKind.i64.wrap ((i : Int) + 1) = ((i + 1 : Nat) : Int) := by rw [i64_in _ (by omega)]; omega
    have r1 := c.1
    simp [groupK_eq, c1, c2, getT, ptr, o5, buildV, fillL, repL, buildSliceE, allOne_eq]
    have k1 : ChgP (fun i => h0.next ≤ i ∧ i ≠ p4 ∧ i ≠ p5) h (h.push (.cells [.int .i64 0, .int .u32 0, .int .i64 0] true)) := (ChgP.refl _ _).of_push
    have o1 := own.chg (Chg.push (h := h) (.cells [.int .i64 0, .int .u32 0, .int .i64 0] true) []) (by simp)
    refine append_own' (B := fun i => h0.next ≤ i ∧ i ≠ p4 ∧ i ≠ p5) (new := cellsI .zero) (m := 1) (by simp; omega) o1 (by simp [newCells, cellsI, Inst.zero]) rfl rfl (by omega) (by omega) fun h2 v2 c2 o2 => ?_
    have cc := k1.step c2
    have o5' := cc.at (by omega) (by simp) o5
    have o4' := cc.at (by omega) (by simp) o4
    have m := cc.1
    have q0 : Chg h0 h2 [] := ((c.toP (D := (h0.next ≤ ·)) (by simp)).step (cc.mono fun i _ h => h.1)).list (by intro i hi hh; omega)
    simp [o5', o2.cells1, o2.one, inc]
    refine ih (i + 1) m0 _ v2 c4 (by omega) (by omega) (q0.of_set (.inr (by omega))) (by simp; omega) ?_ h4 (set_at _ _ _) ?_
    · rw [set_ne (by omega)]; exact o4'
    · rw [List.replicate_succ', flat_snoc]
      exact o2.chgP (D := (· = p5)) ((Chg.set (S := [p5]) _ (by simp)).toP (by simp)) (by rintro i rfl h; exact h.2.2 rfl)
theorem refNewS_good : SpecGood Try.prog (18, refNewS) := by
  refine spec_good mixed Try.func18 (by kernel_rfl) (by kernel_rfl) (tab := []) (by simp) (keep := tiltyardref21_New_keep) ?_
  rintro args h k ⟨many, beat, rfl, H⟩
  refine ⟨20, ?_⟩
  show tiltyardref21_New (tabC []) idG 20 (.int .i64 many) (.int .i64 beat) h _
  rw [tiltyardref21_New_eq]
  simp [buildV, fillL]
  refine refNew_l0 (h0 := h) (many := many) (beat := beat) (p4 := h.next) (p5 := h.next + 1) (by omega) (by omega) (fun h' s' c sl2 => ⟨_, St.le.refl _, H h' s' c sl2⟩)
    (min (max many 0) 16).toNat 0 20 _ (.slice none 0 0) [.slice none 0 0, .int .i64 0] (by omega) (by omega) ?_ ?_ ?_ rfl ?_ ?_
  · exact ((Chg.push _ _).of_push).of_set (.inr (by omega))
  · simp
  · rw [set_ne (by omega), push_ne (by simp)]; exact push_at _ _
  · exact set_at _ _ _
  · exact .inl ⟨rfl, rfl, by simp [flat]⟩

/-! ### Right, Least, Same -/
def refRightS : Abs.Spec := fun args h k => ∃ m : Int, args = [.int .u32 m] ∧ k (.bool (decide (m ≠ 0) && decide (m ≤ 2147483647))) h
theorem refRightS_good : SpecGood Try.prog (35, refRightS) := by
  refine spec_good mixed Try.func35 (by kernel_rfl) (by kernel_rfl) (tab := []) (by simp) (keep := tiltyardref07_Right_keep) ?_
  rintro args h k ⟨m, rfl, H⟩
  refine ⟨0, ?_⟩
  show tiltyardref07_Right (tabC []) idG 0 (.int .u32 m) h _
  rw [tiltyardref07_Right_eq]
  by_cases c : m = 0
  · simp [groupK_eq, getT, c] at H ⊢
    exact ⟨_, St.le.refl _, H⟩
  · simp [groupK_eq, getT, c] at H ⊢
    exact ⟨_, St.le.refl _, H⟩
def refLeastS : Abs.Spec := fun args h k => ∃ (B : Nat → Prop) (s : Value) (A : List Inst) (beat : Int), args = [encR s beat] ∧ A.length ≤ 16 ∧ SliceAt B h s A.length 3 (rowI A) ∧
  ∀ h', Chg h h' [] → k (.int .u32 (leastL A 0)) h'
theorem refLeast_l0 {B : Nat → Prop} {s x2 : Value} {A : List Inst} {beat : Int} {p nn : Nat} {h : St} {K : Cont} (hA : A.length ≤ 16) (o2 : h.objs p = some (.cells [s, .int .i64 beat] true)) (sl : SliceAt B h s A.length 3 (rowI A)) :
    ∀ (d i m0 : Nat), i + d = A.length → d < m0 → K (.int .u32 (leastL (A.drop i) i)) h → tiltyardref21_Least_l0 (tabC []) idG nn m0 (ptr p) x2 (.int .i64 i) h K := by
  intro d
  induction d with
  | zero =>
    intro i m0 hi hm H
    obtain ⟨m0, rfl⟩ : ∃ m, m0 = m + 1 := ⟨m0 - 1, by omega⟩
    rw [tiltyardref21_Least_l0_eq]
    have e : i = A.length := by omega
    subst e
    rw [List.drop_length] at H
    simp [ptr, o2, sl.len]
    rw [tiltyardref21_Least_j1_eq]
    exact H
  | succ d ih =>
    intro i m0 hi hm H
    obtain ⟨m0, rfl⟩ : ∃ m, m0 = m + 1 := ⟨m0 - 1, by omega⟩
    rw [tiltyardref21_Least_l0_eq]
    have hlt : (i : Int) < A.length := by omega
    have hi' : i < A.length := by omega
    have hd : A.drop i = A[i] :: A.drop (i + 1) := List.drop_eq_getElem_cons hi'
    rw [hd] at H
    simp only [leastL] at H
    obtain ⟨b, o, g1, g2, g3, cs', own, g4, g5⟩ := sl.idx (Int.natCast_nonneg i) hlt .i64
    rw [Int.toNat_natCast, rowI_at hi'] at g5
    have g6 := takeN_get g5 (j := 0) (by omega)
    simp only [cellsI, List.getElem?_cons_zero, Nat.add_zero] at g6
    have w1 : IntKind.u32.wrap (i : Int) = i := u32_in _ (by omega)
    have w2 : IntKind.u32.wrap ((i : Int) + 1) = ((i + 1 : Nat) : Int) := by rw [u32_in _ (by omega)]; omega
    have inc : IntKind.i64.wrap ((i : Int) + 1) = ((i + 1 : Nat) : Int) := by rw [i64_in _ (by omega)]; omega
    by_cases h1 : A[i].st = 1
    · rw [if_pos h1] at H
      simp only [ptr, offV_ptr, bindV_some, loadV_ptr, o2, loadM_cells, partV_one, Nat.add_zero, List.getElem?_cons_zero, sl.len, binV_lss, hlt, decide_true, condK_bool, if_true, idG_eq, g1, g4, g6, binNil_int, binV_eql, h1, wrapV_int, w1, binV_add, w2]
      exact H
    · rw [if_neg h1] at H
      simp only [ptr, offV_ptr, bindV_some, loadV_ptr, o2, loadM_cells, partV_one, Nat.add_zero, List.getElem?_cons_zero, sl.len, binV_lss, hlt, decide_true, condK_bool, if_true, idG_eq, g1, g4, g6, binNil_int, binV_eql, h1, decide_false, Bool.false_eq_true, if_false, binV_add, inc]
      exact ih (i + 1) m0 (by omega) (by omega) H
theorem refLeastS_good : SpecGood Try.prog (36, refLeastS) := by
  refine spec_good mixed Try.func36 (by kernel_rfl) (by kernel_rfl) (tab := []) (by simp) (keep := tiltyardref21_Least_keep) ?_
  rintro args h k ⟨B, s, A, beat, rfl, hA, sl, H⟩
  refine ⟨20, ?_⟩
  show tiltyardref21_Least (tabC []) idG 20 (encR s beat) h _
  rw [tiltyardref21_Least_eq]
  have c1 := Chg.push (h := h) (.cells [s, .int .i64 beat] true) []
  simp [encR, sl.one]
  exact refLeast_l0 (beat := beat) hA (push_at _ _) (sl.chg c1 (by simp)) A.length 0 20 (by omega) (by omega) ⟨_, St.le.refl _, by simpa using H _ c1⟩
def rowU (l : List Nat) (i : Nat) : List Value := [uc (l[i]?.getD 0)]
def sameS : Abs.Spec := fun args h k => ∃ (B B' : Nat → Prop) (v w : Value) (l : List Nat), args = [v, w] ∧ l.length ≤ 1000 ∧ SliceAt B h v l.length 1 (rowU l) ∧ SliceAt B' h w l.length 1 (rowU l) ∧ k (.bool true) h
theorem same_l0 {B B' : Nat → Prop} {v w x4 : Value} {l : List Nat} {nn : Nat} {h : St} {K : Cont} (hl : l.length ≤ 1000) (s : SliceAt B h v l.length 1 (rowU l)) (s' : SliceAt B' h w l.length 1 (rowU l)) (H : K (.bool true) h) :
    ∀ (d i m0 : Nat), i + d = l.length → d < m0 → tiltyardref07_Same_l0 (tabC []) idG nn m0 v w x4 (.int .i64 i) h K := by
  intro d
  induction d with
  | zero =>
    intro i m0 hi hm
    obtain ⟨m0, rfl⟩ : ∃ m, m0 = m + 1 := ⟨m0 - 1, by omega⟩
    rw [tiltyardref07_Same_l0_eq]
    have e : i = l.length := by omega
    subst e
    simp [s.len]
    rw [tiltyardref07_Same_j1_eq]
    exact H
  | succ d ih =>
    intro i m0 hi hm
    obtain ⟨m0, rfl⟩ : ∃ m, m0 = m + 1 := ⟨m0 - 1, by omega⟩
    rw [tiltyardref07_Same_l0_eq]
    have hlt : (i : Int) < l.length := by omega
    have inc : IntKind.i64.wrap ((i : Int) + 1) = ((i + 1 : Nat) : Int) := by rw [i64_in _ (by omega)]; omega
    obtain ⟨b, o, g1, g2, g3, cs, own, g4, g5⟩ := s.idx (Int.natCast_nonneg i) hlt .i64
    obtain ⟨b', o', g1', g2', g3', cs', own', g4', g5'⟩ := s'.idx (Int.natCast_nonneg i) hlt .i64
    have g6 := takeN_get g5 (j := 0) (by omega)
    have g6' := takeN_get g5' (j := 0) (by omega)
    simp only [rowU, Int.toNat_natCast, Nat.add_zero, List.getElem?_cons_zero] at g6 g6'
    simp only [s.len, bindV_some, binV_lss, hlt, decide_true, condK_bool, if_true, idG_eq, g1, loadV_ptr, g4, loadM_cells, partV_one, g6, true_and, g1', g4', g6', uc, binV_neq, ne_eq, not_true_eq_false, decide_false, Bool.false_eq_true, if_false, binNil_int, binV_add, inc]
    exact ih (i + 1) m0 (by omega) (by omega)
theorem sameS_good : SpecGood Try.prog (37, sameS) := by
  refine spec_good mixed Try.func37 (by kernel_rfl) (by kernel_rfl) (tab := []) (by simp) (keep := tiltyardref07_Same_keep) ?_
  rintro args h k ⟨B, B', v, w, l, rfl, hl, s, s', H⟩
  refine ⟨1001, ?_⟩
  show tiltyardref07_Same (tabC []) idG 1001 v w h _
  rw [tiltyardref07_Same_eq]
  simp [s.len, s'.len]
  exact same_l0 hl s s' ⟨_, St.le.refl _, H⟩ l.length 0 1001 (by omega) (by omega)
end Go.Proofs.Ytomjbkembmimbaa
