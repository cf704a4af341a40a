/- 'PoolMatch', walked. -/
import Derived.Test.YtomjbkembmimbaaG
import Derived.Test.YtomjbkembmimbaaGenM
set_option linter.unusedSimpArgs false
set_option linter.unusedVariables false
set_option maxHeartbeats 4000000
namespace Go.Proofs.Ytomjbkembmimbaa
open Go.Abs Go.IntWalk

attribute [local congr] bindV_weak condK_weak guardK_weak groupK_weak allocE_weak boxE_weak storeE_weak storeM_weak tabC_weak ite_weak idG_weak

theorem guardK_undef (w : Bool) (y n : Prop) : guardK undef w y n = n := propext Iff.rfl
theorem PAt.other {h h' : St} {v : Value} {q p : Nat} {P : Pl} {S : List Nat} (a : PAt h v q P) (hv : v = .pointer (some ⟨p, 0, none⟩)) (c : Chg h h' S) (hS : ∀ i ∈ S, i ≠ p ∧ i ≠ q) : PAt h' v q P := by
  subst hv
  match P, a with
  | some (A, beat), ⟨p', h1, h2, h3, h4, h5, h6, h7⟩ =>
    cases h1
    exact ⟨p, rfl, Nat.lt_of_lt_of_le h2 c.1, Nat.lt_of_lt_of_le h3 c.1, h4, h5, c.at h2 (fun hi => (hS _ hi).1 rfl) h6, c.at h3 (fun hi => (hS _ hi).2 rfl) h7⟩
def cellsA (a : Act) : List Value := [.int .u8 a.d, .int .u32 a.id, .int .u32 a.m, .int .i64 a.now]
def ptr (b : Nat) : Value := .pointer (some ⟨b, 0, none⟩)
def tabM : List (FuncId × Abs.Spec) := [(7, newS), (8, instS), (9, doS), (10, awakeS)]
theorem tabM_good : ∀ p ∈ tabM, SpecGood Try.prog p := by simp [tabM, newS_good, instS_good, doS_good, awakeS_good]
theorem match_j2 {x0 x2 x3 x5 x10 x12 : Value} {b4 b6 b7 b11 nn m0 : Nat} {h : St} {K : Cont} {a : Act} {was x : Inst} {hc : List Value} {hm : Int}
    (o4 : h.objs b4 = some (.cells hc true)) (hid : a.id < 4) (hg : hc[a.id]? = some (.int .u32 hm)) (o6 : h.objs b6 = some (.cells (cellsA a) true)) (o7 : h.objs b7 = some (.cells (cellsI was) true)) (o11 : h.objs b11 = some (.cells (cellsI x) true))
    (k1 : (x.st = 2 ∨ x.st = 3 ∨ x.st = 4) → x.m = hm) (k2 : ¬ (x.st = 2 ∨ x.st = 3 ∨ x.st = 4) → x.m = 0) (k3 : x.st = 4 → was.st = 4 ∨ was.st = 3)
    (H : tiltyardlaw21_PoolMatch_j1 (tabC tabM) idG nn m0 x0 x2 x3 (ptr b4) x5 (ptr b6) (ptr b7) x10 (ptr b11) x12 h K) :
    tiltyardlaw21_PoolMatch_j2 (tabC tabM) idG nn m0 x0 x2 x3 (ptr b4) x5 (ptr b6) (ptr b7) x10 (ptr b11) x12 h K := by
  rw [tiltyardlaw21_PoolMatch_j2_eq]
  have hid' : ((a.id : Nat) : Int) < 4 := by omega
  by_cases c4 : x.st = 4
  · have e1 := k1 (by simp [c4])
    have e3 := k3 c4
    by_cases w4 : was.st = 4
    · simp [ptr, o4, o6, o7, o11, cellsI, cellsA, groupK_eq, getT, c4, e1, idxA, hid', hg, w4]
      exact H
    · have w3 : was.st = 3 := by simpa [w4] using e3
      simp [ptr, o4, o6, o7, o11, cellsI, cellsA, groupK_eq, getT, c4, e1, idxA, hid', hg, w4, w3]
      exact H
  · by_cases c2 : x.st = 2
    · have e1 := k1 (by simp [c2])
      simp [ptr, o4, o6, o7, o11, cellsI, cellsA, groupK_eq, getT, c4, c2, e1, idxA, hid', hg]
      exact H
    · by_cases c3 : x.st = 3
      · have e1 := k1 (by simp [c3])
        simp [ptr, o4, o6, o7, o11, cellsI, cellsA, groupK_eq, getT, c4, c2, c3, e1, idxA, hid', hg]
        exact H
      · have e1 := k2 (by simp [c2, c3, c4])
        simp [ptr, o4, o6, o7, o11, cellsI, cellsA, groupK_eq, getT, c4, c2, c3, e1, idxA, hid', hg]
        exact H
def Act.zero : Act := ⟨0, 0, 0, 0⟩
def rowAct (L : List Act) (i : Nat) : List Value := cellsA (L[i]?.getD .zero)
def u32s (l : List Int) : List Value := l.map (.int .u32)
/-- What holds of the instances and of what was held. -/
def InvA (A : List Inst) (Hl : List Int) : Prop := A.length = 3 ∧ Hl.length = 4 ∧ ∀ (j : Nat) (x : Inst), A[j]? = some x → okI x ∧ ((x.st = 2 ∨ x.st = 3 ∨ x.st = 4) → Hl[j + 1]? = some x.m)
theorem InvA.step {A : List Inst} {Hl : List Int} (h : InvA A Hl) {a : Act} {i : Nat} {x : Inst} (hi : i + 1 = a.id) (hx : A[i]? = some x) :
    InvA (A.set i (doI x a).2.2) (if a.d = 2 ∧ (doI x a).2.1 = 0 then Hl.set a.id a.m else Hl) := by
  obtain ⟨h1, h2, h3⟩ := h
  obtain ⟨k1, k2⟩ := h3 i x hx
  refine ⟨by simpa using h1, by split <;> simpa using h2, fun j y hy => ?_⟩
  have hlt : i < A.length := (List.getElem?_eq_some_iff.1 hx).1
  by_cases hj : i = j
  · subst hj
    rw [List.getElem?_set_self hlt] at hy
    cases hy
    refine ⟨doI_ok k1, fun hs => ?_⟩
    rcases doI_match k1 hs with ⟨m1, m2, m3⟩ | ⟨m1, m2, m3⟩
    · rw [if_pos ⟨m1, m2⟩, m3, hi, List.getElem?_set_self (by omega)]
    · rw [if_neg m1, m3]
      exact k2 m2
  · rw [List.getElem?_set_ne hj] at hy
    obtain ⟨y1, y2⟩ := h3 j y hy
    refine ⟨y1, fun hs => ?_⟩
    split
    · rw [List.getElem?_set_ne (by omega)]; exact y2 hs
    · exact y2 hs
theorem match_l0 {L : List Act} {v x0 x2 : Value} {q p b4 nn : Nat} {h0 : St} {K : Cont} (hL : L.length ≤ 80) (hid : ∀ a ∈ L, a.id < 4294967296) (hv : v = ptr p) (s0 : SliceAt (· < h0.next) h0 x0 L.length 4 (rowAct L)) (hq : h0.next ≤ q) (hp : h0.next ≤ p) (hb : h0.next ≤ b4) (n1 : b4 ≠ p) (n2 : b4 ≠ q) (HK : ∀ h', K (.bool true) h') :
    ∀ (d i m0 : Nat) (h : St) (A : List Inst) (Hl : List Int) (x6 x7 x10 x11 x12 : Value), i + d = L.length → d < m0 → ChgP (h0.next ≤ ·) h0 h → PAt h v q (some (A, 5)) → b4 < h.next → h.objs b4 = some (.cells (u32s Hl) true) → InvA A Hl →
      tiltyardlaw21_PoolMatch_l0 (tabC tabM) idG nn m0 x0 x2 v (ptr b4) (.int .i64 (i : Int)) x6 x7 x10 x11 x12 h K := by
  intro d
  induction d with
  | zero =>
    intro i m0 h A Hl x6 x7 x10 x11 x12 hi hm c pa hb4 o4 inv
    obtain ⟨m0, rfl⟩ : ∃ m, m0 = m + 1 := ⟨m0 - 1, by omega⟩
    rw [tiltyardlaw21_PoolMatch_l0_eq]
    have e : i = L.length := by omega
    subst e
    have s := s0.chgP c (fun i h => by omega)
    simp only [s.len, bindV_some, binV_lss, condK_bool, Int.lt_irrefl, decide_false, Bool.false_eq_true, if_false, idG_eq]
    rw [tiltyardlaw21_PoolMatch_j3_eq]
    exact .inr (.inr (.inr (.inl ⟨rfl, rfl, fun h' _ => HK h'⟩)))
  | succ d ih =>
    intro i m0 h A Hl x6 x7 x10 x11 x12 hi hm c pa hb4 o4 inv
    obtain ⟨m0, rfl⟩ : ∃ m, m0 = m + 1 := ⟨m0 - 1, by omega⟩
    rw [tiltyardlaw21_PoolMatch_l0_eq]
    have hlt : (i : Int) < L.length := by omega
    have hi' : i < L.length := by omega
    have s := s0.chgP c (fun i h => by omega)
    obtain ⟨b, o, g1, g2, g3, cs, own, g4, g5⟩ := s.idx (Int.natCast_nonneg i) hlt .i64
    obtain ⟨a, ha⟩ : ∃ a, a = L[i] := ⟨_, rfl⟩
    have hrow : rowAct L (i : Int).toNat = cellsA a := by simp [rowAct, hi', ha]
    rw [hrow] at g5
    have hida : a.id < 4294967296 := hid a (by rw [ha]; exact List.getElem_mem _)
    have inc : IntKind.i64.wrap ((i : Int) + 1) = ((i + 1 : Nat) : Int) := by rw [i64_in _ (by omega)]; omega
    -- what comes next
    have nx : ∀ (h' : St) (A' : List Inst) (Hl' : List Int) (x6 x7 x10 x11 x12 : Value), ChgP (h0.next ≤ ·) h0 h' → PAt h' v q (some (A', 5)) → b4 < h'.next → h'.objs b4 = some (.cells (u32s Hl') true) → InvA A' Hl' →
        tiltyardlaw21_PoolMatch_j1 (tabC tabM) idG nn m0 x0 x2 v (ptr b4) (.int .i64 (i : Int)) x6 x7 x10 x11 x12 h' K := by
      intro h' A' Hl' x6 x7 x10 x11 x12 q1 q2 q3 q4 q5
      rw [tiltyardlaw21_PoolMatch_j1_eq]
      simp only [binNil_int, binV_add, bindV_some, inc, idG_eq]
      exact ih (i + 1) m0 h' A' Hl' _ _ _ _ _ (by omega) (by omega) q1 q2 q3 q4 q5
    simp only [s.len, bindV_some, binV_lss, condK_bool, hlt, decide_true, if_true, idG_eq, g1, loadV_ptr, g4, loadM_cells, partV_agg, g5, Option.map_some, allocE_some, storeE_ptr, push_at, storeM_cells, cells_agg, List.take_zero, Nat.add_zero]
    refine ⟨⟨rfl, by simp [cellsA], rfl⟩, ?_⟩
    obtain ⟨h1, hh1⟩ : ∃ g, g = (h.push (.cells [.int .u8 0, .int .u32 0, .int .u32 0, .int .i64 0] true)).set h.next (.cells (cellsA a) true) := ⟨_, rfl⟩
    have cg : Chg h h1 [] := by rw [hh1]; exact Chg.of_set (Chg.push _ []) (.inr (Nat.le_refl _))
    have a1 : h1.objs h.next = some (.cells (cellsA a) true) := by rw [hh1]; exact set_at _ _ _
    have n1' : h.next + 1 ≤ h1.next := by rw [hh1]; simp
    have e1 : (h.push (.cells [.int .u8 0, .int .u32 0, .int .u32 0, .int .i64 0] true)).set h.next (.cells ([] ++ (cellsA a).toArray.toList ++ List.drop (0 + 4) [.int .u8 0, .int .u32 0, .int .u32 0, .int .i64 0]) true) = h1 := by rw [hh1]; rfl
    rw [e1]
    have p1 := pa.chg cg (by simp)
    have c1 : ChgP (h0.next ≤ ·) h0 h1 := c.of_chg cg (by simp)
    have o1 := cg.at hb4 (by simp) o4
    simp only [offV_ptr, bindV_some, loadV_ptr, a1, loadM_cells, partV_one, Nat.zero_add, cellsA, List.getElem?_cons_succ, List.getElem?_cons_zero]
    refine .inr (.inl ⟨rfl, v, q, _, a.id, rfl, hida, p1, fun h2 cg2 => ?_⟩)
    have p2 := p1.chg cg2 (by simp)
    have o2 := cg2.at (by omega) (by simp) o1
    have a2 := cg2.at (by omega) (by simp) a1
    have n2' := cg2.1
    simp only [extV_two0, extV_two1, bindV_some, allocE_some, encI, storeE_ptr, push_at, storeM_cells, cells_agg, List.take_zero, Nat.add_zero]
    refine ⟨⟨rfl, by simp, rfl⟩, ?_⟩
    obtain ⟨was, hwas⟩ : ∃ w, w = instZ (some (A, 5)) a.id := ⟨_, rfl⟩
    rw [← hwas]
    obtain ⟨h3, hh3⟩ : ∃ g, g = (h2.push (.cells [.int .i64 0, .int .u32 0, .int .i64 0] true)).set h2.next (.cells (cellsI was) true) := ⟨_, rfl⟩
    have cg3 : Chg h2 h3 [] := by rw [hh3]; exact Chg.of_set (Chg.push _ []) (.inr (Nat.le_refl _))
    have b3 : h3.objs h2.next = some (.cells (cellsI was) true) := by rw [hh3]; exact set_at _ _ _
    have n3' : h2.next + 1 ≤ h3.next := by rw [hh3]; simp
    have e3 : (h2.push (.cells [.int .i64 0, .int .u32 0, .int .i64 0] true)).set h2.next (.cells ([] ++ (#[Value.int .i64 was.st, .int .u32 was.m, .int .i64 was.last] : Array Value).toList ++ List.drop (0 + 3) [.int .i64 0, .int .u32 0, .int .i64 0]) true) = h3 := by rw [hh3]; rfl
    rw [e3]
    have p3 := p2.chg cg3 (by simp)
    have o3 := cg3.at (by omega) (by simp) o2
    have a3 := cg3.at (by omega) (by simp) a2
    simp only [a3, loadM_cells, partV_agg, cellsA, takeN_lit4, Option.map_some, bindV_some]
    refine .inr (.inr (.inl ⟨rfl, v, q, _, a, rfl, hida, p3, fun h4 cg4 p4 => ?_⟩))
    obtain ⟨pp, hpv, hpn, qn, hpq, _⟩ := id pa
    have hpp : pp = p := by rw [hv] at hpv; cases hpv; rfl
    subst hpp
    have m1 := cg.1
    have m2 := cg2.1
    have m3 := cg3.1
    have m4 := cg4.1
    have o4' := cg4.at (by omega) (by simp; omega) o3
    have a4 := cg4.at (by omega) (by simp; omega) a3
    have b4' := cg4.at (by omega) (by simp; omega) b3
    have c4 : ChgP (h0.next ≤ ·) h0 h4 := (((c1.of_chg cg2 (by simp)).of_chg cg3 (by simp))).of_chg cg4 (by simp; omega)
    simp only [extV_two0, extV_two1, bindV_some, offV_ptr, loadV_ptr, a4, loadM_cells, partV_one, Nat.zero_add, cellsA, List.getElem?_cons_succ, List.getElem?_cons_zero]
    refine .inr (.inl ⟨rfl, v, q, _, a.id, rfl, hida, p4, fun h5 cg5 => ?_⟩)
    have m5 := cg5.1
    have p5 := p4.chg cg5 (by simp)
    have o5 := cg5.at (by omega) (by simp) o4'
    have a5 := cg5.at (by omega) (by simp) a4
    have b5 := cg5.at (by omega) (by simp) b4'
    simp only [extV_two0, extV_two1, bindV_some, allocE_some, encI, storeE_ptr, push_at, storeM_cells, cells_agg, List.take_zero, Nat.add_zero]
    refine ⟨⟨rfl, by simp, rfl⟩, ?_⟩
    obtain ⟨x, hx⟩ : ∃ w, w = instZ (doZ (some (A, 5)) a).2.2 a.id := ⟨_, rfl⟩
    rw [← hx]
    obtain ⟨h6, hh6⟩ : ∃ g, g = (h5.push (.cells [.int .i64 0, .int .u32 0, .int .i64 0] true)).set h5.next (.cells (cellsI x) true) := ⟨_, rfl⟩
    have cg6 : Chg h5 h6 [] := by rw [hh6]; exact Chg.of_set (Chg.push _ []) (.inr (Nat.le_refl _))
    have x6' : h6.objs h5.next = some (.cells (cellsI x) true) := by rw [hh6]; exact set_at _ _ _
    have e6 : (h5.push (.cells [.int .i64 0, .int .u32 0, .int .i64 0] true)).set h5.next (.cells ([] ++ (#[Value.int .i64 x.st, .int .u32 x.m, .int .i64 x.last] : Array Value).toList ++ List.drop (0 + 3) [.int .i64 0, .int .u32 0, .int .i64 0]) true) = h6 := by rw [hh6]; rfl
    rw [e6]
    have m6 := cg6.1
    have n6' : h5.next + 1 ≤ h6.next := by rw [hh6]; simp
    have p6 := p5.chg cg6 (by simp)
    have o6 := cg6.at (by omega) (by simp) o5
    have a6 := cg6.at (by omega) (by simp) a5
    have b6 := cg6.at (by omega) (by simp) b5
    have c6 : ChgP (h0.next ≤ ·) h0 h6 := (c4.of_chg cg5 (by simp)).of_chg cg6 (by simp)
    cases hat : atZ (some (A, 5)) a.id with
    | none =>
      have d0 := do_miss hat
      have x0' : x = Inst.zero := by rw [hx, d0]; simp only [instZ, hat]
      rw [d0] at p6
      simp [d0, hat, groupK_eq, getT, x6', x0', cellsI, Inst.zero, buildV, fillL, binV, eqV, eqAll, eqCk]
      exact nx h6 A Hl _ _ _ _ _ c6 p6 (by omega) o6 inv
    | some j =>
      obtain ⟨A', b', hA, hjl, hj, hget⟩ := at_some hat
      cases hA
      have hwas' : was = getA (some (A, 5)) j := by rw [hwas]; simp only [instZ, hat]
      rw [← hwas'] at hget
      obtain ⟨iv1, iv2, iv3⟩ := id inv
      obtain ⟨ok0, _⟩ := iv3 j was hget
      have d1 := do_some (a := a) hat (by rw [← hwas']; exact ok0.1)
      rw [← hwas'] at d1
      have hx' : x = (doI was a).2.2 := by
        rw [hx, d1]
        simp only [instZ, at_set, hat]
        rw [getA_set hat]
      have stp := inv.step (a := a) hj hget
      have id3 : a.id < 4 := by omega
      have p7 : PAt h6 v q (some (A.set j x, 5)) := by rw [d1] at p6; rw [hx']; exact p6
      have pn : pp < h6.next := by omega
      rw [← hx'] at stp
      obtain ⟨e, he⟩ : ∃ e, e = (doI was a).2.1 := ⟨_, rfl⟩
      rw [← he] at stp
      rw [d1]
      simp only [← he]
      have hat2 : atZ (setA (some (A, 5)) j (doI was a).2.2) a.id = some j := by rw [at_set, hat]
      rw [hat2]
      have okx : okI x := by rw [hx']; exact doI_ok ok0
      have live : x.st = 4 → was.st = 4 ∨ was.st = 3 := by rw [hx']; exact doI_live
      -- the end of the step, with what is held now
      have fin : ∀ (h' : St) (Hl' : List Int) (x5 x10 x12 : Value), x5 = .int .i64 (i : Int) → Chg h6 h' [b4] → h'.objs b4 = some (.cells (u32s Hl') true) → InvA (A.set j x) Hl' →
          tiltyardlaw21_PoolMatch_j2 (tabC tabM) idG nn m0 x0 x2 v (ptr b4) x5 (ptr h.next) (ptr h2.next) x10 (ptr h5.next) x12 h' K := by
        intro h' Hl' x5 x10 x12 hx5 cc oo iv
        subst hx5
        obtain ⟨v1, v2, v3⟩ := id iv
        have hgx : (A.set j x)[j]? = some x := by rw [List.getElem?_set_self hjl]
        obtain ⟨_, w2⟩ := v3 j x hgx
        have hlt4 : a.id < Hl'.length := by omega
        have mm := cc.1
        refine match_j2 (hm := Hl'[a.id]) oo id3 (by simp [u32s, hlt4]) (cc.at (by omega) (by simp; omega) a6) (cc.at (by omega) (by simp; omega) b6) (cc.at (by omega) (by simp; omega) x6') ?_ okx.2 live ?_
        · intro hs
          have := w2 hs
          rw [hj, List.getElem?_eq_getElem hlt4] at this
          exact (Option.some.inj this).symm
        · exact nx h' (A.set j x) Hl' _ _ _ _ _ (c6.of_chg cc (by simp; omega)) (p7.other (p := pp) hv cc (by simpa using ⟨n1, n2⟩)) (by omega) oo iv
      have fl : ∀ y : Inst, binV .neq (.flat [.i, .i, .i]) (.agg #[.int .i64 y.st, .int .u32 y.m, .int .i64 y.last]) (.agg #[.int .i64 y.st, .int .u32 y.m, .int .i64 y.last]) = some (.bool false) := by
        intro y; simp [binV, eqV, eqAll, eqCk]
      by_cases e0 : e = 0
      · by_cases dd : a.d = 2
        · rw [if_pos ⟨dd, e0⟩] at stp
          have dd' : ((a.d : Nat) : Int) = 2 := by omega
          have id3' : ((a.id : Nat) : Int) < 4 := by omega
          have hlen4 : a.id + 1 ≤ (u32s Hl).length := by simp [u32s]; omega
          have hset : (u32s Hl).take a.id ++ Value.int .u32 a.m :: (u32s Hl).drop (a.id + 1) = u32s (Hl.set a.id a.m) := by
            rw [← List.singleton_append, ← List.append_assoc, set_as _ _ _ hlen4]
            simp [u32s]
          simp [groupK_eq, getT, x6', b6, a6, cellsI, cellsA, e0, dd', ptr, idxA, id3', o6, guardK_undef]
          rw [hset]
          exact ⟨hlen4, fin _ (Hl.set a.id a.m) _ _ _ rfl (Chg.set _ (by simp)) (set_at _ _ _) stp⟩
        · rw [if_neg (fun h => dd h.1)] at stp
          have dd' : ¬ ((a.d : Nat) : Int) = 2 := by omega
          simp [groupK_eq, getT, x6', b6, a6, cellsI, cellsA, e0, dd', guardK_undef]
          exact fin h6 Hl _ _ _ rfl (Chg.refl _ _) o6 stp
      · rw [if_neg (fun h => e0 h.2)] at stp
        have xw : x = was := by rw [hx']; exact doI_err (by rw [← he]; exact e0)
        have fin := fin h6 Hl
        rw [xw] at fin x6'
        have e12 : e ≠ 12 := by rw [he]; unfold doI; repeat' split
                                all_goals simp
        by_cases dd' : ((a.d : Nat) : Int) = 2
        · simp [groupK_eq, getT, x6', b6, a6, cellsI, cellsA, e0, e12, dd', guardK_undef, binV, eqV, eqAll, eqCk, isShift, intV]
          exact fin _ _ _ rfl (Chg.refl _ _) o6 (by rw [← xw]; exact stp)
        · simp [groupK_eq, getT, x6', b6, a6, cellsI, cellsA, e0, e12, dd', guardK_undef, binV, eqV, eqAll, eqCk, isShift, intV]
          exact fin _ _ _ rfl (Chg.refl _ _) o6 (by rw [← xw]; exact stp)
end Go.Proofs.Ytomjbkembmimbaa
