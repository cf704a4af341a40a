/- The pool: one instance, moved, touched, bared. -/
import Derived.Test.YtomjbkembmimbaaAbsLv
import Derived.Test.YtomjbkembmimbaaAbsSl
import Derived.Test.YtomjbkembmimbaaGenA
set_option linter.unusedSimpArgs false
set_option linter.unusedVariables false
set_option maxHeartbeats 4000000
namespace Go.Proofs.Ytomjbkembmimbaa
open Go.Abs Go.IntWalk

theorem mixed : Try.prog.follows .mixedOrders = true := by kernel_rfl
structure Inst where
  st : Int
  m : Int
  last : Int
deriving DecidableEq
def Inst.zero : Inst := ⟨0, 0, 0⟩
def cellsI (x : Inst) : List Value := [.int .i64 x.st, .int .u32 x.m, .int .i64 x.last]
def encI (x : Inst) : Value := .agg #[.int .i64 x.st, .int .u32 x.m, .int .i64 x.last]
def flat (A : List Inst) : List Value := A.flatMap cellsI
theorem flat_len : ∀ A : List Inst, (flat A).length = A.length * 3
  | [] => rfl
  | x :: A => by
    have := flat_len A
    simp only [flat, List.flatMap_cons, List.length_append, List.length_cons] at this ⊢
    rw [this]; simp [cellsI]; omega
theorem flat_at : ∀ (A : List Inst) (i : Nat) (x : Inst), A[i]? = some x → (flat A)[i * 3]? = some (.int .i64 x.st) ∧ (flat A)[i * 3 + 1]? = some (.int .u32 x.m) ∧ (flat A)[i * 3 + 2]? = some (.int .i64 x.last)
  | [], i, x, h => by simp at h
  | y :: A, 0, x, h => by simp at h; subst h; exact ⟨rfl, rfl, rfl⟩
  | y :: A, i + 1, x, h => by
    have ih := flat_at A i x (by simpa using h)
    have e : (i + 1) * 3 = i * 3 + 3 := by omega
    rw [e]
    exact ih
theorem flat_take {A : List Inst} {i : Nat} {x : Inst} (h : A[i]? = some x) : takeN (flat A) (i * 3) 3 = some (cellsI x) := takeN_flat A i x (fun _ _ => rfl) h
theorem set_as (l : List Value) (k : Nat) (v : Value) (hk : k < l.length) : l.take k ++ [v] ++ l.drop (k + 1) = l.set k v := by
  rw [List.set_eq_take_append_cons_drop, if_pos hk]; simp
theorem flat_set0 : ∀ (A : List Inst) (i : Nat) (x : Inst) (v : Int), A[i]? = some x → (flat A).set (i * 3) (.int .i64 v) = flat (A.set i { x with st := v })
  | [], i, x, v, h => by simp at h
  | y :: A, 0, x, v, h => by simp at h; subst h; rfl
  | y :: A, i + 1, x, v, h => by
    have ih := flat_set0 A i x v (by simpa using h)
    have e : (i + 1) * 3 = i * 3 + 3 := by omega
    rw [e]
    show _ = cellsI y ++ flat (A.set i { x with st := v })
    rw [← ih]
    rfl
theorem flat_set1 : ∀ (A : List Inst) (i : Nat) (x : Inst) (v : Int), A[i]? = some x → (flat A).set (i * 3 + 1) (.int .u32 v) = flat (A.set i { x with m := v })
  | [], i, x, v, h => by simp at h
  | y :: A, 0, x, v, h => by simp at h; subst h; rfl
  | y :: A, i + 1, x, v, h => by
    have ih := flat_set1 A i x v (by simpa using h)
    have e : (i + 1) * 3 + 1 = i * 3 + 1 + 3 := by omega
    rw [e]
    show _ = cellsI y ++ flat (A.set i { x with m := v })
    rw [← ih]
    rfl
theorem flat_set2 : ∀ (A : List Inst) (i : Nat) (x : Inst) (v : Int), A[i]? = some x → (flat A).set (i * 3 + 2) (.int .i64 v) = flat (A.set i { x with last := v })
  | [], i, x, v, h => by simp at h
  | y :: A, 0, x, v, h => by simp at h; subst h; rfl
  | y :: A, i + 1, x, v, h => by
    have ih := flat_set2 A i x v (by simpa using h)
    have e : (i + 1) * 3 + 2 = i * 3 + 2 + 3 := by omega
    rw [e]
    show _ = cellsI y ++ flat (A.set i { x with last := v })
    rw [← ih]
    rfl

/-- A pool, or none. -/
def PAt (h : St) (v : Value) (q : Nat) : Option (List Inst × Int) → Prop
  | none => v = .pointer none
  | some (A, beat) => ∃ p, v = .pointer (some ⟨p, 0, none⟩) ∧ p < h.next ∧ q < h.next ∧ p ≠ q ∧ A.length ≤ 16 ∧ h.objs p = some (.cells [.slice (some ⟨q, 0, some 3⟩) A.length 0, .int .i64 beat] true) ∧ h.objs q = some (.cells (flat A) true)
abbrev Pl := Option (List Inst × Int)
theorem PAt.chg {h h' : St} {v : Value} {q : Nat} {P : Pl} (p : PAt h v q P) {S : List Nat} (c : Chg h h' S) (hS : ∀ i ∈ S, h.next ≤ i) : PAt h' v q P := by
  match P, p with
  | none, p => exact p
  | some (A, beat), ⟨p, h1, h2, h3, h4, h5, h6, h7⟩ => exact ⟨p, h1, Nat.lt_of_lt_of_le h2 c.1, Nat.lt_of_lt_of_le h3 c.1, h4, h5, c.at h2 (fun hi => by have := hS _ hi; omega) h6, c.at h3 (fun hi => by have := hS _ hi; omega) h7⟩
/-- Where an instance stands. -/
def atZ (P : Pl) (id : Nat) : Option Nat :=
  match P with
  | none => none
  | some (A, _) => if 1 ≤ id ∧ id ≤ A.length then some (id - 1) else none
/-- The address of a place. -/
def pl (q : Nat) : Option Nat → Value
  | none => .pointer none
  | some i => .pointer (some ⟨q, i * 3, none⟩)
def getA (P : Pl) (i : Nat) : Inst := match P with | none => .zero | some (A, _) => A[i]?.getD .zero
def setA (P : Pl) (i : Nat) (x : Inst) : Pl := match P with | none => none | some (A, b) => some (A.set i x, b)
theorem at_some {P : Pl} {id i : Nat} (h : atZ P id = some i) : ∃ A b, P = some (A, b) ∧ i < A.length ∧ i + 1 = id ∧ A[i]? = some (getA P i) := by
  match P, h with
  | some (A, b), h =>
    simp only [atZ] at h
    split at h
    · rename_i hc
      cases h
      refine ⟨A, b, rfl, by omega, by omega, ?_⟩
      have : id - 1 < A.length := by omega
      simp [getA, this]
    · cases h
theorem pl_get {h : St} {v : Value} {q : Nat} {P : Pl} {id i : Nat} (p : PAt h v q P) (ha : atZ P id = some i) : q < h.next ∧ ∃ A, h.objs q = some (.cells (flat A) true) ∧ A[i]? = some (getA P i) ∧ i < A.length ∧ ∀ (x : Inst) (h' : St), Chg h h' [q] → h'.objs q = some (.cells (flat (A.set i x)) true) → PAt h' v q (setA P i x) := by
  obtain ⟨A, b, rfl, h1, h2, h3⟩ := at_some ha
  obtain ⟨p, k1, k2, k3, k4, k5, k6, k7⟩ := p
  refine ⟨k3, A, k7, h3, h1, fun x h' c ho => ⟨p, k1, Nat.lt_of_lt_of_le k2 c.1, Nat.lt_of_lt_of_le k3 c.1, k4, by simpa using k5, ?_, ho⟩⟩
  rw [List.length_set]
  exact c.at k2 (by simpa using k4) k6

def atS : Abs.Spec := fun args h k => ∃ (v : Value) (q : Nat) (P : Pl) (id : Nat), args = [v, .int .u32 id] ∧ id < 4294967296 ∧ PAt h v q P ∧ k (pl q (atZ P id)) h
theorem atS_good : SpecGood Try.prog (23, atS) := by
  refine spec_good mixed Try.func23 (by kernel_rfl) (by kernel_rfl) (tab := []) (by simp) (keep := pool_Pool_at_keep) ?_
  rintro args h k ⟨v, q, P, id, rfl, hid, p, H⟩
  refine ⟨0, ?_⟩
  show pool_Pool_at (tabC []) idG 0 v (.int .u32 id) h _
  rw [pool_Pool_at_eq]
  match P, p with
  | none, p =>
    have p : v = .pointer none := p
    subst p
    simp [groupK_eq]
    exact ⟨_, St.le.refl _, H⟩
  | some (A, beat), ⟨p, h1, h2, h3, h4, h5, h6, h7⟩ =>
    subst h1
    have w1 : IntKind.u64.wrap (id : Int) = id := u64_in _ (by omega)
    have w2 : IntKind.u64.wrap (A.length : Int) = A.length := u64_in _ (by omega)
    by_cases c1 : id < 1
    · have c1' : (id : Int) < 1 := by omega
      have e : atZ (some (A, beat)) id = none := by simp [atZ]; omega
      rw [e] at H
      simp [groupK_eq, c1', getT]
      exact ⟨_, St.le.refl _, H⟩
    · have c1' : ¬ (id : Int) < 1 := by omega
      by_cases c2 : A.length < id
      · have c2' : (A.length : Int) < id := by omega
        have e : atZ (some (A, beat)) id = none := by simp [atZ]; omega
        rw [e] at H
        simp [groupK_eq, c1', getT, w1, w2, h6, c2']
        exact ⟨_, St.le.refl _, H⟩
      · have c2' : ¬ (A.length : Int) < id := by omega
        have e : atZ (some (A, beat)) id = some (id - 1) := by simp [atZ]; omega
        rw [e] at H
        have w3 : IntKind.u32.wrap ((id : Int) - 1) = ((id - 1 : Nat) : Int) := by rw [u32_in _ (by omega)]; omega
        have c3 : ((id - 1 : Nat) : Int) < A.length := by omega
        simp only [binNil_ptr_eql, Option.isNone_some, bindV_some, groupK_eq, guardK_bool, if_true, if_false, binNil_int, binV_lss, c1', decide_false, Bool.false_eq_true, getT, pickV_bool, idG_eq, wrapV_int, w1, w2, nilV_ptr, offV_ptr, loadV_ptr, h6, loadM_cells, partV_one, Nat.add_zero, List.getElem?_cons_zero, lenS_slice, binV_gtr, gt_iff_lt, c2', condK_bool, binV_sub, w3, idxS, Int.natCast_nonneg, c3, and_self, Int.toNat_natCast, Nat.zero_add]
        exact ⟨_, St.le.refl _, H⟩

/-- Numbers, by the row. -/
def rowZ (l : List Int) (i : Nat) : List Value := [.int .i64 (l[i]?.getD 0)]
def idxZ (x : Int) : List Int → Nat → Int
  | [], _ => -1
  | y :: l, i => if x = y then i else idxZ x l (i + 1)
theorem idxZ_mem (x : Int) : ∀ (l : List Int) (i : Nat), (0 ≤ idxZ x l i ↔ x ∈ l)
  | [], i => by simp [idxZ]
  | y :: l, i => by
    simp only [idxZ]
    split
    · rename_i h; subst h; simp
    · rename_i h
      rw [idxZ_mem x l (i + 1)]
      simp [h]
def indexS : Abs.Spec := fun args h k => ∃ (B : Nat → Prop) (v : Value) (l : List Int) (x : Int), args = [v, .int .i64 x] ∧ l.length ≤ 1000 ∧ SliceAt B h v l.length 1 (rowZ l) ∧ k (.int .i64 (idxZ x l 0)) h
theorem index_l0 {B : Nat → Prop} {v x4 : Value} {l : List Int} {x : Int} {nn : Nat} {h : St} {K : Cont} (hl : l.length ≤ 1000) (s : SliceAt B h v l.length 1 (rowZ l)) :
    ∀ (d i m0 : Nat), i + d = l.length → d < m0 → K (.int .i64 (idxZ x (l.drop i) i)) h → slices_Index_l0 (tabC []) idG nn m0 v (.int .i64 x) x4 (.int .i64 l.length) (.int .i64 i) h K := by
  intro d
  induction d with
  | zero =>
    intro i m0 hi hm H
    obtain ⟨m0, rfl⟩ : ∃ m, m0 = m + 1 := ⟨m0 - 1, by omega⟩
    rw [slices_Index_l0_eq]
    have e : i = l.length := by omega
    subst e
    rw [List.drop_length] at H
    simp only [bindV_some, binV_lss, condK_bool, Int.lt_irrefl, decide_false, Bool.false_eq_true, if_false, idG_eq]
    rw [slices_Index_j1_eq]
    exact H
  | succ d ih =>
    intro i m0 hi hm H
    obtain ⟨m0, rfl⟩ : ∃ m, m0 = m + 1 := ⟨m0 - 1, by omega⟩
    rw [slices_Index_l0_eq]
    have hlt : (i : Int) < l.length := by omega
    have hi' : i < l.length := by omega
    obtain ⟨b, o, g1, g2, g3, cs, own, g4, g5⟩ := s.idx (Int.natCast_nonneg i) hlt .i64
    have g6 := takeN_get g5 (j := 0) (by omega)
    have hg : l[i]?.getD 0 = l[i] := by rw [List.getElem?_eq_getElem hi']; rfl
    simp only [rowZ, Int.toNat_natCast, hg, Nat.add_zero, List.getElem?_cons_zero] at g6
    have hd : l.drop i = l[i] :: l.drop (i + 1) := List.drop_eq_getElem_cons hi'
    rw [hd] at H
    simp only [idxZ] at H
    have inc : IntKind.i64.wrap ((i : Int) + 1) = ((i + 1 : Nat) : Int) := by rw [i64_in _ (by omega)]; omega
    by_cases hx : x = l[i]
    · rw [if_pos hx] at H
      simp only [bindV_some, binV_lss, condK_bool, hlt, decide_true, if_true, idG_eq, g1, loadV_ptr, g4, loadM_cells, partV_one, g6, binV_eql, hx]
      exact H
    · rw [if_neg hx] at H
      simp only [bindV_some, binV_lss, condK_bool, hlt, decide_true, if_true, idG_eq, g1, loadV_ptr, g4, loadM_cells, partV_one, g6, binV_eql, hx, decide_false, Bool.false_eq_true, if_false, binNil_int, binV_add, inc]
      exact ih (i + 1) m0 (by omega) (by omega) H
theorem indexS_good : SpecGood Try.prog (40, indexS) := by
  refine spec_good mixed Try.func40 (by kernel_rfl) (by kernel_rfl) (tab := []) (by simp) (keep := slices_Index_keep) ?_
  rintro args h k ⟨B, v, l, x, rfl, hl, s, H⟩
  refine ⟨1001, ?_⟩
  show slices_Index (tabC []) idG 1001 v (.int .i64 x) h _
  rw [slices_Index_eq, s.len]
  simp only [bindV_some, idG_eq]
  exact index_l0 hl s l.length 0 1001 (by omega) (by omega) ⟨_, St.le.refl _, by simpa using H⟩
def containsS : Abs.Spec := fun args h k => ∃ (B : Nat → Prop) (v : Value) (l : List Int) (x : Int), args = [v, .int .i64 x] ∧ l.length ≤ 1000 ∧ SliceAt B h v l.length 1 (rowZ l) ∧ k (.bool (decide (x ∈ l))) h
theorem containsS_good : SpecGood Try.prog (39, containsS) := by
  refine spec_good mixed Try.func39 (by kernel_rfl) (by kernel_rfl) (tab := [(40, indexS)]) (by simpa using indexS_good) (keep := slices_Contains_keep) ?_
  rintro args h k ⟨B, v, l, x, rfl, hl, s, H⟩
  refine ⟨0, ?_⟩
  show slices_Contains (tabC [(40, indexS)]) idG 0 v (.int .i64 x) h _
  rw [slices_Contains_eq]
  refine .inl ⟨rfl, B, v, l, x, rfl, hl, s, ?_⟩
  have e := idxZ_mem x l 0
  simp only [binNil_int, binV_geq, bindV_some, ge_iff_le, e]
  exact ⟨_, St.le.refl _, H⟩

/-- A move: where it was made, the error, the pool then. -/
def moveZ (P : Pl) (id : Nat) (to : Int) (fr : List Int) : Option Nat × Int × Pl :=
  match atZ P id with
  | none => (none, 12, P)
  | some i => if (getA P i).st ∈ fr then (some i, 0, setA P i { getA P i with st := to }) else (none, 24, P)
def moveS : Abs.Spec := fun args h k => ∃ (B : Nat → Prop) (v w : Value) (q : Nat) (P : Pl) (id : Nat) (to : Int) (fr : List Int), args = [v, .int .u32 id, .int .i64 to, w] ∧ id < 4294967296 ∧ PAt h v q P ∧ fr.length ≤ 1000 ∧ SliceAt B h w fr.length 1 (rowZ fr) ∧
  ∀ h', Chg h h' [q] → PAt h' v q (moveZ P id to fr).2.2 → k (.tuple #[pl q (moveZ P id to fr).1, .int .i64 (moveZ P id to fr).2.1]) h'
theorem moveS_good : SpecGood Try.prog (28, moveS) := by
  refine spec_good mixed Try.func28 (by kernel_rfl) (by kernel_rfl) (tab := [(23, atS), (39, containsS)]) (by simp [atS_good, containsS_good]) (keep := pool_Pool_move_keep) ?_
  rintro args h k ⟨B, v, w, q, P, id, to, fr, rfl, hid, p, hf, s, H⟩
  refine ⟨0, ?_⟩
  show pool_Pool_move (tabC [(23, atS), (39, containsS)]) idG 0 v (.int .u32 id) (.int .i64 to) w h _
  rw [pool_Pool_move_eq]
  refine .inl ⟨rfl, v, q, P, id, rfl, hid, p, ?_⟩
  cases ha : atZ P id with
  | none =>
    have e : moveZ P id to fr = (none, 12, P) := by simp only [moveZ, ha]
    rw [e] at H
    simp [pl]
    exact ⟨_, St.le.refl _, H h (Chg.refl _ _) p⟩
  | some i =>
    obtain ⟨hq, A, k1, k2, k3, k4⟩ := pl_get p ha
    obtain ⟨f0, _, _⟩ := flat_at A i _ k2
    simp only [pl, binNil_ptr_eql, Option.isNone_some, bindV_some, condK_bool, Bool.false_eq_true, if_false, nilV_ptr, offV_ptr, loadV_ptr, k1, loadM_cells, partV_one, Nat.add_zero, f0]
    refine .inr (.inl ⟨rfl, B, w, fr, _, rfl, hf, s, ?_⟩)
    by_cases hm : (getA P i).st ∈ fr
    · have e : moveZ P id to fr = (some i, 0, setA P i { getA P i with st := to }) := by simp only [moveZ, ha, if_pos hm]
      rw [e] at H
      have hlen : i * 3 < (flat A).length := by rw [flat_len]; omega
      simp only [hm, decide_true, unV_not, Bool.not_true, bindV_some, condK_bool, Bool.false_eq_true, if_false, idG_eq, nilV_ptr, offV_ptr, Nat.add_zero, storeE_ptr, k1, storeM_cells, cells_int]
      refine ⟨⟨rfl, by omega, rfl⟩, _, St.le.refl _, ?_⟩
      have e2 : (flat A).take (i * 3) ++ (#[Value.int .i64 to] : Array Value).toList ++ (flat A).drop (i * 3 + 1) = flat (A.set i { getA P i with st := to }) := by
        rw [← flat_set0 A i _ to k2, ← set_as _ _ _ hlen]
      rw [e2]
      exact H _ (Chg.set _ (by simp)) (k4 _ _ (Chg.set _ (by simp)) (set_at _ _ _))
    · have e : moveZ P id to fr = (none, 24, P) := by simp only [moveZ, ha, if_neg hm]
      rw [e] at H
      simp [hm]
      exact ⟨_, St.le.refl _, H h (Chg.refl _ _) p⟩
def touchS : Abs.Spec := fun args h k => ∃ (v : Value) (q : Nat) (P : Pl) (id : Nat) (o : Option Nat) (e now : Int), args = [pl q o, .int .i64 e, .int .i64 now] ∧ PAt h v q P ∧ (o = none ∨ o = atZ P id) ∧
  ∀ h', Chg h h' [q] → PAt h' v q (match o with | none => P | some i => setA P i { getA P i with last := now }) → k (.int .i64 e) h'
theorem touchS_good : SpecGood Try.prog (29, touchS) := by
  refine spec_good mixed Try.func29 (by kernel_rfl) (by kernel_rfl) (tab := []) (by simp) (keep := pool_touched_keep) ?_
  rintro args h k ⟨v, q, P, id, o, e, now, rfl, p, ho, H⟩
  refine ⟨0, ?_⟩
  show pool_touched (tabC []) idG 0 (pl q o) (.int .i64 e) (.int .i64 now) h _
  rw [pool_touched_eq]
  cases o with
  | none =>
    simp [pl]
    rw [pool_touched_j0_eq]
    exact ⟨_, St.le.refl _, H h (Chg.refl _ _) p⟩
  | some i =>
    have ha : atZ P id = some i := by rcases ho with ho | ho; cases ho; exact ho.symm
    obtain ⟨hq, A, k1, k2, k3, k4⟩ := pl_get p ha
    have hlen : i * 3 + 2 < (flat A).length := by rw [flat_len]; omega
    simp only [pl, binNil_ptr_neq, Option.isNone_some, Bool.not_false, bindV_some, condK_bool, if_true, nilV_ptr, offV_ptr, storeE_ptr, k1, storeM_cells, cells_int, idG_eq]
    refine ⟨⟨rfl, by omega, rfl⟩, ?_⟩
    have e2 : (flat A).take (i * 3 + 2) ++ (#[Value.int .i64 now] : Array Value).toList ++ (flat A).drop (i * 3 + 2 + 1) = flat (A.set i { getA P i with last := now }) := by
      rw [← flat_set2 A i _ now k2, ← set_as _ _ _ hlen]
    rw [e2, pool_touched_j0_eq]
    exact ⟨_, St.le.refl _, H _ (Chg.set _ (by simp)) (k4 _ _ (Chg.set _ (by simp)) (set_at _ _ _))⟩
def bareS : Abs.Spec := fun args h k => ∃ (v : Value) (q : Nat) (P : Pl) (id : Nat) (o : Option Nat) (e : Int), args = [pl q o, .int .i64 e] ∧ PAt h v q P ∧ (o = none ∨ o = atZ P id) ∧
  ∀ h', Chg h h' [q] → PAt h' v q (match o with | none => P | some i => setA P i { getA P i with m := 0 }) → k (.tuple #[.int .u32 (match o with | none => 0 | some i => (getA P i).m), .int .i64 e]) h'
theorem bareS_good : SpecGood Try.prog (30, bareS) := by
  refine spec_good mixed Try.func30 (by kernel_rfl) (by kernel_rfl) (tab := []) (by simp) (keep := pool_bare_keep) ?_
  rintro args h k ⟨v, q, P, id, o, e, rfl, p, ho, H⟩
  refine ⟨0, ?_⟩
  show pool_bare (tabC []) idG 0 (pl q o) (.int .i64 e) h _
  rw [pool_bare_eq]
  cases o with
  | none =>
    simp [pl]
    exact ⟨_, St.le.refl _, H h (Chg.refl _ _) p⟩
  | some i =>
    have ha : atZ P id = some i := by rcases ho with ho | ho; cases ho; exact ho.symm
    obtain ⟨hq, A, k1, k2, k3, k4⟩ := pl_get p ha
    obtain ⟨_, f1, _⟩ := flat_at A i _ k2
    have hlen : i * 3 + 1 < (flat A).length := by rw [flat_len]; omega
    simp only [pl, binNil_ptr_eql, Option.isNone_some, bindV_some, condK_bool, Bool.false_eq_true, if_false, nilV_ptr, offV_ptr, loadV_ptr, k1, loadM_cells, partV_one, f1, storeE_ptr, storeM_cells, cells_int, idG_eq]
    refine ⟨⟨rfl, by omega, rfl⟩, _, St.le.refl _, ?_⟩
    have e2 : (flat A).take (i * 3 + 1) ++ (#[Value.int .u32 0] : Array Value).toList ++ (flat A).drop (i * 3 + 1 + 1) = flat (A.set i { getA P i with m := 0 }) := by
      rw [← flat_set1 A i _ 0 k2, ← set_as _ _ _ hlen]
    rw [e2]
    exact H _ (Chg.set _ (by simp)) (k4 _ _ (Chg.set _ (by simp)) (set_at _ _ _))
end Go.Proofs.Ytomjbkembmimbaa
