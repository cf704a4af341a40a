/- 'VerbMakes': the end of it. -/
import Derived.Test.YtdmcmebfclikgaaDoorLI
import Derived.Test.YtdmcmebfclikgaaDoorGenM
set_option linter.unusedSimpArgs false
set_option linter.unusedVariables false
set_option maxHeartbeats 4000000
set_option maxRecDepth 100000
namespace Go.Proofs.YtdmcmebfclikgaaDoor
open Go.Abs Go.IntWalk
attribute [local congr] bindV_w condK_w guardK_w groupK_w allocE_w boxE_w storeE_w storeM_w tabC_w ite_w idG_w appendE_w toBytesE_w buildSliceE_w

theorem xor64 (a : Int) : ∃ y : Nat, binNil .xor .other (.int .u64 a) (.int .u64 1) = some (qN y) := by
  refine ⟨(IntKind.u64.wrap (BitVec.ofInt IntKind.u64.bits a ^^^ BitVec.ofInt IntKind.u64.bits 1).toNat).toNat, ?_⟩
  have : 0 ≤ IntKind.u64.wrap (BitVec.ofInt IntKind.u64.bits a ^^^ BitVec.ofInt IntKind.u64.bits 1).toNat := by rw [IntKind.wrap_u64]; omega
  simp only [binNil_int, binV, isShift, intV, if_true, qN]
  rw [Int.toNat_of_nonneg this]
theorem xor32 (a : Int) : ∃ y : Nat, binNil .xor .other (.int .u32 a) (.int .u32 1) = some (uN y) := by
  refine ⟨(IntKind.u32.wrap (BitVec.ofInt IntKind.u32.bits a ^^^ BitVec.ofInt IntKind.u32.bits 1).toNat).toNat, ?_⟩
  have : 0 ≤ IntKind.u32.wrap (BitVec.ofInt IntKind.u32.bits a ^^^ BitVec.ofInt IntKind.u32.bits 1).toNat := by rw [IntKind.wrap_u32]; omega
  simp only [binNil_int, binV, isShift, intV, if_true, uN]
  rw [Int.toNat_of_nonneg this]
/-- The messages: that which came, and the three made of it. -/
def MkAt (lo hi : Nat) (h : St) (x : Int) (P pX pY pZ i k : Nat) (N : List Nat) (S : List ByteArray) (L : List (List Nat)) : Prop :=
  ∃ (vN vS vL zN zS zL xN yN yS yL : Value) (lv lw : Nat → Value), Glob h ∧ P < lo ∧ 5 ≤ lo ∧ lo ≤ hi ∧ (hi ≤ pX ∧ pX < h.next) ∧ (hi ≤ pY ∧ pY < h.next) ∧ (hi ≤ pZ ∧ pZ < h.next) ∧ lo ≤ h.next ∧
  h.objs P = some (.cells [.int .i64 x, vN, vS, vL] true) ∧ h.objs pX = some (.cells [.int .i64 x, xN, .slice none 0 0, .slice none 0 0] true) ∧ h.objs pY = some (.cells [.int .i64 x, yN, yS, yL] true) ∧ lenS yS = some (.int .i64 i) ∧ lenS yL = some (.int .i64 k) ∧
  h.objs pZ = some (.cells [.int .i64 x, zN, zS, zL] true) ∧ FieldsAt (· < lo) h vN vS vL lv N S L ∧ FieldsAt (hi ≤ ·) h zN zS zL lw N S L
theorem MkAt.chg {lo hi : Nat} {h h' : St} {x : Int} {P pX pY pZ i k : Nat} {N : List Nat} {S : List ByteArray} {L : List (List Nat)} (m : MkAt lo hi h x P pX pY pZ i k N S L) {T : List Nat} (c : Chg h h' T) (hT : ∀ q ∈ T, lo ≤ q ∧ q < hi) : MkAt lo hi h' x P pX pY pZ i k N S L := by
  obtain ⟨vN, vS, vL, zN, zS, zL, xN, yN, yS, yL, lv, lw, g, m1, m2, m3, m4, m5, m6, m7, o1, o2, o3, l1, l2, o4, F, G⟩ := m
  have n := c.1
  have nm : ∀ q, (q < lo ∨ hi ≤ q) → q ∉ T := fun q hq hm => by have := hT q hm; omega
  exact ⟨vN, vS, vL, zN, zS, zL, xN, yN, yS, yL, lv, lw, g.chg c (fun i hi => by have := hT i hi; omega), m1, m2, m3, by omega, by omega, by omega, by omega, c.at (by omega) (nm _ (by omega)) o1, c.at (by omega) (nm _ (by omega)) o2, c.at (by omega) (nm _ (by omega)) o3, l1, l2, c.at (by omega) (nm _ (by omega)) o4, F.chg c (fun i hi hh => by have := hT i hi; omega), G.chg c (fun i hi hh => by have := hT i hi; omega)⟩
def tabM : List (FuncId × Abs.Spec) := [(10, smallS), (19, makeS), (20, withS), (21, andS), (18, turnS), (17, msgSameS), (14, awakeS)]
theorem tabM_good : ∀ p ∈ tabM, SpecGood Tryd.prog p := by simp [tabM, smallS_good, makeS_good, withS_good, andS_good, backS_good, msgSameS_good, awakeS_good]
theorem makes_j6 {lo hi nn : Nat} {h : St} {x : Int} {P pX pY pZ i k : Nat} {N : List Nat} {S : List ByteArray} {L : List (List Nat)} {x1 x4 x7 x8 x9 x13 x14 x15 : Value} {K : Cont} (SF : SmallF N S L) (k1 : N.length ≤ 12) (k2 : S.length ≤ 12) (k3 : L.length ≤ 12) (m : MkAt lo hi h x P pX pY pZ i k N S L) (H : ∀ h', K (.bool true) h') :
    tiltyardlaw04_VerbMakes_j6 (tabC tabM) idG nn x1 (ptr P) x4 (.int .i64 i) (.int .i64 k) x7 x8 x9 (ptr pX) (ptr pY) (ptr pZ) x13 x14 x15 h K := by
  obtain ⟨vN, vS, vL, zN, zS, zL, xN, yN, yS, yL, lv, lw, g, m1, m2, m3, m4, m5, m6, m7, o1, o2, o3, l1, l2, o4, F, G⟩ := m
  rw [tiltyardlaw04_VerbMakes_j6_eq]
  have w0 : IntKind.i64.wrap 0 = 0 := by decide
  simp only [ptr, offV_ptr, bindV_some, loadV_ptr, o1, o2, o3, o4, l1, l2, loadM_cells, partV_one, partV_agg, takeN_lit4, Option.map_some, Nat.zero_add, Nat.add_zero, List.getElem?_cons_succ, List.getElem?_cons_zero, true_and, lenS_slice, Int.natCast_zero, Int.add_zero, binNil_int, binV_add, binV_eql, w0, decide_true, groupK_eq, guardK_bool, if_true, getT, pickV_bool, idG_eq]
  refine .inr (.inr (.inr (.inr (.inl ⟨rfl, x, zN, zS, zL, rfl, G.1.cells1, G.2.1.cells1, G.2.2.1.cells1, G.1.isUnk, G.2.1.isUnk, G.2.2.1.isUnk, G.1.one, G.2.1.one, G.2.2.1.one, fun h1 c1 => ?_⟩))))
  have p1 := c1.at (by omega) (by simp) o1
  simp only [ptr, loadV_ptr, o1, p1, loadM_cells, partV_agg, takeN_lit4, Option.map_some, bindV_some, true_and, and_true]
  refine .inr (.inr (.inr (.inr (.inr (.inl ⟨rfl, x, _, _, zN, zS, zL, vN, vS, vL, lw, lv, N, S, L, rfl, G.chg c1 (by simp), F.chg c1 (by simp), by omega, by omega, by omega, fun l hl => (SF.2.2 l hl).1, fun h2 c2 => ?_⟩)))))
  simp [groupK_eq, getT]
  refine .inr (.inr (.inr (.inr (.inr (.inr (.inl ⟨rfl, rfl, (g.chg c1 (by simp)).chg c2 (by simp), fun h3 c3 => ?_⟩))))))
  simp [getT]
  exact H h3
theorem set_mid {α : Type} (l : List α) (i : Nat) (x : α) (h : i < l.length) : l.take i ++ [x] ++ l.drop (i + 1) = l.set i x := by
  rw [List.set_eq_take_append_cons_drop, if_pos h]
  simp
/-- One's own numbers change in the end. -/
theorem makes_l2 {nn q : Nat} {x1 x2 x4 x5 x6 x8 x9 x10 x11 x12 x14 x15 : Value} {n : Nat} {h0 : St} {K : Cont} (hn : n ≤ 1000)
    (H : ∀ h', Chg h0 h' [q] → ∀ y, tiltyardlaw04_VerbMakes_j3 (tabC tabM) idG nn x1 x2 x4 x5 x6 (.slice (some ⟨q, 0, some 1⟩) n 0) x8 x9 x10 x11 x12 y x14 x15 h' K) :
    ∀ (d i m0 : Nat) (h : St) (N' : List Nat), i + d = n → d < m0 → N'.length = n → Chg h0 h [q] → h.objs q = some (.cells (N'.map qN) true) →
      tiltyardlaw04_VerbMakes_l2 (tabC tabM) idG nn m0 x1 x2 x4 x5 x6 (.slice (some ⟨q, 0, some 1⟩) n 0) x8 x9 x10 x11 x12 (.int .i64 i) x14 x15 h K := by
  intro d
  induction d with
  | zero =>
    intro i m0 h N' hi hm hl c o
    obtain ⟨m0, rfl⟩ : ∃ m, m0 = m + 1 := ⟨m0 - 1, by omega⟩
    rw [tiltyardlaw04_VerbMakes_l2_eq]
    have e : i = n := by omega
    subst e
    simp
    exact H h c _
  | succ d ih =>
    intro i m0 h N' hi hm hl c o
    obtain ⟨m0, rfl⟩ : ∃ m, m0 = m + 1 := ⟨m0 - 1, by omega⟩
    rw [tiltyardlaw04_VerbMakes_l2_eq]
    have hlt : (i : Int) < n := by omega
    have hi' : i < N'.length := by omega
    have inc : IntKind.i64.wrap ((i : Int) + 1) = ((i + 1 : Nat) : Int) := by rw [i64_in _ (by omega)]; omega
    have hx : idxS 1 (.slice (some ⟨q, 0, some 1⟩) n 0) (.int .i64 (i : Int)) = some (.pointer (some ⟨q, i, none⟩)) := by simp [idxS, hlt]
    have hg : (N'.map qN)[i]? = some (.int .u64 (N'[i] : Nat)) := by simp [hi', qN]
    obtain ⟨y, hy⟩ := xor64 (N'[i] : Nat)
    simp only [lenS_slice, bindV_some, binV_lss, hlt, decide_true, condK_bool, if_true, idG_eq, hx, loadV_ptr, o, loadM_cells, partV_one, hg, hy, storeE_ptr, storeM_cells]
    refine ⟨⟨rfl, by simp; omega, rfl⟩, ?_⟩
    have e : (N'.map qN).take i ++ (qN y).cells.toList ++ (N'.map qN).drop (i + 1) = (N'.set i y).map qN := by
      have := set_mid (N'.map qN) i (qN y) (by simpa using hi')
      rw [List.map_set]
      exact this
    rw [e]
    simp only [binNil_int, binV_add, bindV_some, inc, idG_eq]
    exact ih (i + 1) m0 _ (N'.set i y) (by omega) (by omega) (by simpa using hl) (c.of_set (.inl (by simp))) (set_at _ _ _)
/-- A list of one's own: so many numbers, whichever. -/
def InnerAt (E : Nat → Prop) (h : St) (v : Value) (n : Nat) : Prop :=
  (v = .slice none 0 0 ∧ n = 0) ∨ ∃ (q : Nat) (l : List Nat), v = .slice (some ⟨q, 0, some 1⟩) n 0 ∧ E q ∧ q < h.next ∧ h.objs q = some (.cells (l.map uN) true) ∧ l.length = n
theorem InnerAt.set {E : Nat → Prop} {h : St} {v : Value} {n q y i : Nat} {l : List Nat} (a : InnerAt E h v n) (o : h.objs q = some (.cells (l.map uN) true)) : InnerAt E (h.set q (.cells ((l.set i y).map uN) true)) v n := by
  rcases a with a | ⟨p, l', e, g1, g2, g3, g4⟩
  · exact .inl a
  · by_cases hp : p = q
    · subst hp
      have hl : l'.length = l.length := by
        rw [g3] at o
        have := congrArg (fun o => match o with | some (.cells cs _) => cs.length | _ => 0) o
        simpa using this
      exact .inr ⟨p, l.set i y, e, g1, g2, set_at _ _ _, by simpa using hl.symm.trans g4⟩
    · exact .inr ⟨p, l', e, g1, g2, by rw [set_ne hp]; exact g3, g4⟩
theorem InnerAt.chg {E : Nat → Prop} {h h' : St} {v : Value} {n : Nat} (a : InnerAt E h v n) {T : List Nat} (c : Chg h h' T) (hT : ∀ q ∈ T, ¬ E q) : InnerAt E h' v n := by
  rcases a with a | ⟨p, l', e, g1, g2, g3, g4⟩
  · exact .inl a
  · exact .inr ⟨p, l', e, g1, Nat.lt_of_lt_of_le g2 c.1, c.at g2 (fun hm => hT p hm g1) g3, g4⟩
/-- One list changes: others have as many numbers as before. -/
theorem makes_l5 {nn m0 : Nat} {x1 x2 x4 x5 x6 x7 x8 x9 x10 x11 x12 x13 : Value} {E Q : Nat → Prop} {ws : List Value} {ln : Nat → Nat} {k : Nat} {h0 : St} {K : Cont} (hk : k < ws.length) (hw : ws.length ≤ 1000) (hl : ln k ≤ 1000) (hEQ : ∀ q, E q → ¬ Q q)
    (H : ∀ h', ChgP E h0 h' → SliceAt Q h' x8 ws.length 1 (rowV ws) → (∀ j, j < ws.length → InnerAt E h' (ws[j]?.getD undef) (ln j)) → ∀ y, tiltyardlaw04_VerbMakes_j7 (tabC tabM) idG nn m0 x1 x2 x4 x5 x6 x7 x8 x9 x10 x11 x12 x13 (.int .i64 k) y h' K) :
    ∀ (d i m1 : Nat) (h : St), i + d = ln k → d < m1 → ChgP E h0 h → SliceAt Q h x8 ws.length 1 (rowV ws) → (∀ j, j < ws.length → InnerAt E h (ws[j]?.getD undef) (ln j)) →
      tiltyardlaw04_VerbMakes_l5 (tabC tabM) idG nn m0 m1 x1 x2 x4 x5 x6 x7 x8 x9 x10 x11 x12 x13 (.int .i64 k) (.int .i64 i) h K := by
  intro d
  induction d with
  | zero =>
    intro i m1 h hi hm c s a
    obtain ⟨m1, rfl⟩ : ∃ m, m1 = m + 1 := ⟨m1 - 1, by omega⟩
    rw [tiltyardlaw04_VerbMakes_l5_eq]
    obtain ⟨b, oo, g1, g2, g3, cs, own, g4, g5⟩ := s.idx (Int.natCast_nonneg k) (by omega) .i64
    have g6 := takeN_get g5 (j := 0) (by omega)
    simp only [rowV, Nat.add_zero, List.getElem?_cons_zero, Int.toNat_natCast] at g6
    have e : i = ln k := by omega
    subst e
    have hlen : lenS (ws[k]?.getD undef) = some (.int .i64 (ln k)) := by
      rcases a k hk with ⟨e, z⟩ | ⟨q, l, e, _⟩
      · rw [e, z]; rfl
      · rw [e]; rfl
    simp only [bindV_some, g1, loadV_ptr, g4, loadM_cells, partV_one, g6, hlen, binV_lss, Int.lt_irrefl, decide_false, condK_bool, Bool.false_eq_true, if_false, idG_eq]
    exact H h c s a _
  | succ d ih =>
    intro i m1 h hi hm c s a
    obtain ⟨m1, rfl⟩ : ∃ m, m1 = m + 1 := ⟨m1 - 1, by omega⟩
    rw [tiltyardlaw04_VerbMakes_l5_eq]
    obtain ⟨b, oo, g1, g2, g3, cs, own, g4, g5⟩ := s.idx (Int.natCast_nonneg k) (by omega) .i64
    have g6 := takeN_get g5 (j := 0) (by omega)
    simp only [rowV, Nat.add_zero, List.getElem?_cons_zero, Int.toNat_natCast] at g6
    rcases a k hk with ⟨e, z⟩ | ⟨q, l, e, e1, e2, e3, e4⟩
    · omega
    have hlt : (i : Int) < ln k := by omega
    have hi' : i < l.length := by omega
    have inc : IntKind.i64.wrap ((i : Int) + 1) = ((i + 1 : Nat) : Int) := by rw [i64_in _ (by omega)]; omega
    have hx : idxS 1 (.slice (some ⟨q, 0, some 1⟩) (ln k) 0) (.int .i64 (i : Int)) = some (.pointer (some ⟨q, i, none⟩)) := by simp [idxS, hlt]
    have hg : (l.map uN)[i]? = some (.int .u32 (l[i] : Nat)) := by simp [hi', uN]
    obtain ⟨y, hy⟩ := xor32 (l[i] : Nat)
    rw [e] at g6
    simp only [bindV_some, g1, loadV_ptr, g4, loadM_cells, partV_one, g6, lenS_slice, binV_lss, hlt, decide_true, condK_bool, if_true, idG_eq, hx, e3, hg, hy, storeE_ptr, storeM_cells]
    refine ⟨⟨rfl, by simp; omega, rfl⟩, ?_⟩
    have es : (l.map uN).take i ++ (uN y).cells.toList ++ (l.map uN).drop (i + 1) = (l.set i y).map uN := by
      have := set_mid (l.map uN) i (uN y) (by simpa using hi')
      rw [List.map_set]
      exact this
    rw [es]
    simp only [binNil_int, binV_add, bindV_some, inc, idG_eq]
    have cq : Chg h (h.set q (.cells ((l.set i y).map uN) true)) [q] := Chg.set _ (by simp)
    exact ih (i + 1) m1 _ (by omega) (by omega) (c.of_chg cq (by intro j hj; simp at hj; subst hj; exact .inl e1)) (s.chg cq (by intro j hj; simp at hj; subst hj; exact hEQ _ e1)) (fun j hj => (a j hj).set e3)
theorem makes_l4 {nn : Nat} {x1 x2 x4 x5 x6 x7 x8 x9 x10 x11 x12 x13 : Value} {E Q : Nat → Prop} {ws : List Value} {ln : Nat → Nat} {h0 : St} {K : Cont} (hw : ws.length ≤ 1000) (hl : ∀ k, k < ws.length → ln k ≤ 1000) (hEQ : ∀ q, E q → ¬ Q q)
    (H : ∀ h', ChgP E h0 h' → ∀ y y', tiltyardlaw04_VerbMakes_j6 (tabC tabM) idG nn x1 x2 x4 x5 x6 x7 x8 x9 x10 x11 x12 x13 y y' h' K) :
    ∀ (d k m0 : Nat) (h : St) (x15 : Value), k + d = ws.length → d + 1001 < m0 → ChgP E h0 h → SliceAt Q h x8 ws.length 1 (rowV ws) → (∀ j, j < ws.length → InnerAt E h (ws[j]?.getD undef) (ln j)) →
      tiltyardlaw04_VerbMakes_l4 (tabC tabM) idG nn m0 x1 x2 x4 x5 x6 x7 x8 x9 x10 x11 x12 x13 (.int .i64 k) x15 h K := by
  intro d
  induction d with
  | zero =>
    intro k m0 h x15 hi hm c s a
    obtain ⟨m0, rfl⟩ : ∃ m, m0 = m + 1 := ⟨m0 - 1, by omega⟩
    rw [tiltyardlaw04_VerbMakes_l4_eq]
    have e : k = ws.length := by omega
    subst e
    simp only [s.len, bindV_some, binV_lss, Int.lt_irrefl, decide_false, condK_bool, Bool.false_eq_true, if_false, idG_eq]
    exact H h c _ _
  | succ d ih =>
    intro k m0 h x15 hi hm c s a
    obtain ⟨m0, rfl⟩ : ∃ m, m0 = m + 1 := ⟨m0 - 1, by omega⟩
    rw [tiltyardlaw04_VerbMakes_l4_eq]
    have hlt : (k : Int) < ws.length := by omega
    have inc : IntKind.i64.wrap ((k : Int) + 1) = ((k + 1 : Nat) : Int) := by rw [i64_in _ (by omega)]; omega
    simp only [s.len, bindV_some, binV_lss, hlt, decide_true, condK_bool, if_true, idG_eq]
    have hlk := hl k (by omega)
    refine makes_l5 (E := E) (Q := Q) (ws := ws) (ln := ln) (h0 := h0) (by omega) hw hlk hEQ ?_ (ln k) 0 m0 h (by omega) (by omega) c s a
    intro h' c' s' a' y
    rw [tiltyardlaw04_VerbMakes_j7_eq]
    simp only [binNil_int, binV_add, bindV_some, inc, idG_eq]
    exact ih (k + 1) m0 h' y (by omega) (by omega) c' s' a'
end Go.Proofs.YtdmcmebfclikgaaDoor

/- 'VerbMakes': the messages that are made. -/
set_option linter.unusedSimpArgs false
set_option linter.unusedVariables false
set_option maxHeartbeats 4000000
set_option maxRecDepth 100000
namespace Go.Proofs.YtdmcmebfclikgaaDoor
open Go.Abs Go.IntWalk
attribute [local congr] bindV_w condK_w guardK_w groupK_w allocE_w boxE_w storeE_w storeM_w tabC_w ite_w idG_w appendE_w toBytesE_w buildSliceE_w

theorem MkAt.chgP {lo hi : Nat} {h h' : St} {x : Int} {P pX pY pZ i k : Nat} {N : List Nat} {S : List ByteArray} {L : List (List Nat)} (m : MkAt lo hi h x P pX pY pZ i k N S L) {D : Nat → Prop} (c : ChgP D h h') (hD : ∀ q, D q → lo ≤ q ∧ q < hi) : MkAt lo hi h' x P pX pY pZ i k N S L := by
  refine m.chg (T := (List.range hi).filter (fun q => decide (lo ≤ q))) (c.list fun q _ hq => ?_) fun q hq => ?_
  · have := hD q hq
    simp
    omega
  · simp at hq
    omega
/-- One's own numbers and lists. -/
def NumsAt (lo mid : Nat) (h : St) (v : Value) (N : List Nat) : Prop := OwnS (fun q => lo ≤ q ∧ q < mid) h v 1 (N.map qN) N.length
def ListsAt (mid hi : Nat) (h : St) (v : Value) (ws : List Value) (L : List (List Nat)) (E Q : Nat → Prop) : Prop :=
  OwnS Q h v 1 ws ws.length ∧ ws.length = L.length ∧ (∀ (j : Nat) (l : List Nat), L[j]? = some l → OwnS E h (ws[j]?.getD undef) 1 (l.map uN) l.length) ∧ (∀ q, E q → ¬ Q q) ∧ (∀ q, E q ∨ Q q → mid ≤ q ∧ q < hi)
theorem NumsAt.chg {lo mid : Nat} {h h' : St} {v : Value} {N : List Nat} (a : NumsAt lo mid h v N) {T : List Nat} (c : Chg h h' T) (hT : ∀ q ∈ T, mid ≤ q) : NumsAt lo mid h' v N := OwnS.chg a c fun i hi hh => by have := hT i hi; omega
theorem ListsAt.chg {mid hi : Nat} {h h' : St} {v : Value} {ws : List Value} {L : List (List Nat)} {E Q : Nat → Prop} (a : ListsAt mid hi h v ws L E Q) {T : List Nat} (c : Chg h h' T) (hT : ∀ q ∈ T, q < mid ∨ hi ≤ q) : ListsAt mid hi h' v ws L E Q := by
  obtain ⟨a1, a2, a3, a4, a5⟩ := a
  exact ⟨a1.chg c (fun i hi hh => by have := hT i hi; have := a5 i (.inr hh); omega), a2, fun j l hl => (a3 j l hl).chg c (fun i hi hh => by have := hT i hi; have := a5 i (.inl hh); omega), a4, a5⟩
theorem ListsAt.rows {mid hi : Nat} {h : St} {v : Value} {ws : List Value} {L : List (List Nat)} {E Q : Nat → Prop} (a : ListsAt mid hi h v ws L E Q) : SliceAt Q h v ws.length 1 (rowV ws) := by
  have o : OwnS Q h v 1 (ws.flatMap fun n => [n]) ws.length := by simpa using a.1
  exact o.slice (fun _ _ => rfl) (rowV_at _)
theorem ListsAt.inner {mid hi : Nat} {h : St} {v : Value} {ws : List Value} {L : List (List Nat)} {E Q : Nat → Prop} (a : ListsAt mid hi h v ws L E Q) {j : Nat} {l : List Nat} (hl : L[j]? = some l) : SliceAt E h (ws[j]?.getD undef) l.length 1 (rowU l) := by
  have o : OwnS E h (ws[j]?.getD undef) 1 (l.flatMap fun n => [uN n]) l.length := by rw [← List.map_eq_flatMap]; exact a.2.2.1 j l hl
  exact o.slice (fun _ _ => rfl) (rowU_at _)
theorem NumsAt.rows {lo mid : Nat} {h : St} {v : Value} {N : List Nat} (a : NumsAt lo mid h v N) : SliceAt (fun q => lo ≤ q ∧ q < mid) h v N.length 1 (rowQ N) := by
  have o : OwnS (fun q => lo ≤ q ∧ q < mid) h v 1 (N.flatMap fun n => [qN n]) N.length := by rw [← List.map_eq_flatMap]; exact a
  exact o.slice (fun _ _ => rfl) (rowQ_at _)
theorem makes_fin {lo mid hi : Nat} {h : St} {x : Int} {P pX pY pZ i k : Nat} {N : List Nat} {S : List ByteArray} {L : List (List Nat)} {x1 x4 x7 x8 x9 x14 x15 : Value} {ws : List Value} {E Q : Nat → Prop} {K : Cont} (SF : SmallF N S L) (k1 : N.length ≤ 12) (k2 : S.length ≤ 12) (k3 : L.length ≤ 12) (h1 : lo ≤ mid) (h2 : mid ≤ hi)
    (m : MkAt lo hi h x P pX pY pZ i k N S L) (nu : NumsAt lo mid h x7 N) (li : ListsAt mid hi h x8 ws L E Q) (H : ∀ h', K (.bool true) h') :
    tiltyardlaw04_VerbMakes_l2 (tabC tabM) idG 2000 2000 x1 (ptr P) x4 (.int .i64 i) (.int .i64 k) x7 x8 x9 (ptr pX) (ptr pY) (ptr pZ) (.int .i64 (0 : Nat)) x14 x15 h K := by
  have rest : ∀ (h' : St) (T : List Nat), Chg h h' T → (∀ q ∈ T, lo ≤ q ∧ q < mid) → ∀ y, tiltyardlaw04_VerbMakes_j3 (tabC tabM) idG 2000 x1 (ptr P) x4 (.int .i64 i) (.int .i64 k) x7 x8 x9 (ptr pX) (ptr pY) (ptr pZ) y x14 x15 h' K := by
    intro h' T c hT y
    rw [tiltyardlaw04_VerbMakes_j3_eq]
    simp only [idG_eq]
    have m' := m.chg c fun q hq => by have := hT q hq; omega
    have li' := li.chg c fun q hq => by have := hT q hq; omega
    obtain ⟨a1, a2, a3, a4, a5⟩ := li'
    have li' : ListsAt mid hi h' x8 ws L E Q := ⟨a1, a2, a3, a4, a5⟩
    refine makes_l4 (E := E) (Q := Q) (ws := ws) (ln := fun j => (L[j]?.getD []).length) (h0 := h') (by omega) ?_ a4 ?_ ws.length 0 2000 h' x15 (by omega) (by omega) (ChgP.refl _ _) li'.rows ?_
    · intro j hj
      have hj' : j < L.length := by omega
      simp only [List.getElem?_eq_getElem hj', Option.getD_some]
      exact (SF.2.2 _ (List.getElem_mem hj')).1
    · intro h'' c' y y'
      exact makes_j6 SF k1 k2 k3 (m'.chgP c' fun q hq => by have := a5 q (.inl hq); omega) H
    · intro j hj
      have hj' : j < L.length := by omega
      have := a3 j L[j] (List.getElem?_eq_getElem hj')
      simp only [List.getElem?_eq_getElem hj', Option.getD_some]
      rcases this with ⟨e, z, _⟩ | ⟨q, e, g1, g2, g3, g4⟩
      · exact .inl ⟨e, z⟩
      · exact .inr ⟨q, L[j], e, g1, g2, g3, rfl⟩
  rcases id nu with ⟨e, z, _⟩ | ⟨q, e, g1, g2, g3, g4⟩
  · subst e
    rw [tiltyardlaw04_VerbMakes_l2_eq]
    simp
    exact rest h [] (Chg.refl _ _) (by simp) _
  · rw [e] at rest ⊢
    refine makes_l2 (n := N.length) (q := q) (h0 := h) (by omega) (fun h' c y => rest h' [q] c (by simpa using g1) y) N.length 0 2000 h N (by omega) (by omega) rfl (Chg.refl _ _) g3

/-- The second message, and what it is made of. -/
def YAt (hi : Nat) (h : St) (x : Int) (pX pY i k : Nat) (N : List Nat) (S : List ByteArray) (L : List (List Nat)) (xN yS yL : Value) (ws : List Value) : Prop :=
  (hi ≤ pX ∧ pX < h.next) ∧ (hi ≤ pY ∧ pY < h.next) ∧ h.objs pX = some (.cells [.int .i64 x, xN, .slice none 0 0, .slice none 0 0] true) ∧ h.objs pY = some (.cells [.int .i64 x, xN, yS, yL] true) ∧ SliceAt (hi ≤ ·) h xN N.length 1 (rowQ N) ∧
  SliceAt (hi ≤ ·) h yS i 1 (rowT (S.take i)) ∧ ws.length = k ∧ SliceAt (hi ≤ ·) h yL k 1 (rowV ws) ∧ ∀ (j : Nat) (l : List Nat), (L.take k)[j]? = some l → SliceAt (hi ≤ ·) h (ws[j]?.getD undef) l.length 1 (rowU l)
theorem YAt.chg {hi : Nat} {h h' : St} {x : Int} {pX pY i k : Nat} {N : List Nat} {S : List ByteArray} {L : List (List Nat)} {xN yS yL : Value} {ws : List Value} (a : YAt hi h x pX pY i k N S L xN yS yL ws) (c : Chg h h' []) : YAt hi h' x pX pY i k N S L xN yS yL ws := by
  obtain ⟨a1, a2, a3, a4, a5, a6, a7, a8, a9⟩ := a
  have n := c.1
  exact ⟨by omega, by omega, c.at a1.2 (by simp) a3, c.at a2.2 (by simp) a4, a5.chg c (by simp), a6.chg c (by simp), a7, a8.chg c (by simp), fun j l hl => (a9 j l hl).chg c (by simp)⟩
def makesZ (C : Oracle) (G : Prop → Prop) (n : Nat) (x1 x2 x4 x5 x6 x7 x8 x9 v10 v11 x14 x15 : Value) (h17 : St) (K : Cont) : Prop := ((bindV (loadV true 4 v11 h17) fun v75 => (True) ∧ bindV (cutS 1 x8 (some x6) none) fun v78 => C 21 [v75, v78] h17 fun v79 h18 => (True ∧ True) ∧ bindV (offV 1 x2) fun v80 => bindV (offV 1 v80) fun v81 => bindV (loadV false 1 v81 h18) fun v82 => ((loadV false 1 v81 h17 = some v82) ∧ True) ∧ bindV (cutS 1 v82 (some x5) none) fun v84 => C 20 [v79, v84] h18 fun v85 h19 => (True ∧ True ∧ True) ∧ allocE (some [.int .i64 0, .slice none 0 0, .slice none 0 0, .slice none 0 0]) h19 fun v12 h20 => (True ∧ True ∧ True) ∧ storeE 4 v12 v85 h20 fun _ h22 => (True ∧ True ∧ True) ∧ G (tiltyardlaw04_VerbMakes_l2 C G n n x1 x2 x4 x5 x6 x7 x8 x9 v10 v11 v12 (.int .i64 0) x14 x15 h22 K)) ∧ (bindV (loadV true 4 v11 h17) fun v75 => (True) ∧ bindV (cutS 1 x8 (some x6) none) fun v78 => C 21 [v75, v78] h17 fun v79 h23 => (True ∧ True) ∧ bindV (offV 1 x2) fun v80 => bindV (offV 1 v80) fun v81 => bindV (loadV false 1 v81 h23) fun v82 => ((loadV false 1 v81 h17 = some v82) ∧ True) ∧ bindV (cutS 1 v82 (some x5) none) fun v84 => allocE (some [.int .i64 0, .slice none 0 0, .slice none 0 0, .slice none 0 0]) h23 fun v12 h24 => ((loadV false 1 v81 h24 = some v82) ∧ True ∧ True) ∧ C 20 [v79, v84] h24 fun v85 h25 => (True ∧ True ∧ True) ∧ storeE 4 v12 v85 h25 fun _ h27 => (True ∧ True ∧ True) ∧ G (tiltyardlaw04_VerbMakes_l2 C G n n x1 x2 x4 x5 x6 x7 x8 x9 v10 v11 v12 (.int .i64 0) x14 x15 h27 K))) ∧ (bindV (loadV true 4 v11 h17) fun v75 => (True) ∧ bindV (cutS 1 x8 (some x6) none) fun v78 => allocE (some [.int .i64 0, .slice none 0 0, .slice none 0 0, .slice none 0 0]) h17 fun v12 h28 => ((loadV true 4 v11 h28 = some v75) ∧ True) ∧ C 21 [v75, v78] h28 fun v79 h29 => (True ∧ True) ∧ bindV (offV 1 x2) fun v80 => bindV (offV 1 v80) fun v81 => bindV (loadV false 1 v81 h29) fun v82 => ((loadV false 1 v81 h28 = some v82) ∧ (loadV false 1 v81 h17 = some v82) ∧ True) ∧ bindV (cutS 1 v82 (some x5) none) fun v84 => C 20 [v79, v84] h29 fun v85 h30 => (True ∧ True ∧ True) ∧ storeE 4 v12 v85 h30 fun _ h32 => (True ∧ True ∧ True) ∧ G (tiltyardlaw04_VerbMakes_l2 C G n n x1 x2 x4 x5 x6 x7 x8 x9 v10 v11 v12 (.int .i64 0) x14 x15 h32 K))
/-- The third message, in whichever order. -/
theorem makes_z {lo mid hi : Nat} {h : St} {x : Int} {P pX pY i k : Nat} {N : List Nat} {S : List ByteArray} {L : List (List Nat)} {x1 x4 x7 x8 x9 x14 x15 vN vS vL xN yS yL : Value} {lv : Nat → Value} {ws wy : List Value} {E Q : Nat → Prop} {K : Cont} (SF : SmallF N S L) (k1 : N.length ≤ 12) (k2 : S.length ≤ 12) (k3 : L.length ≤ 12) (h1 : lo ≤ mid) (h2 : mid ≤ hi) (hhi : hi ≤ h.next) (hi5 : 5 ≤ lo) (hP : P < lo) (hi' : i ≤ S.length) (hk : k ≤ L.length)
    (g : Glob h) (oP : h.objs P = some (.cells [.int .i64 x, vN, vS, vL] true)) (F : FieldsAt (· < lo) h vN vS vL lv N S L) (nu : NumsAt lo mid h x7 N) (li : ListsAt mid hi h x8 ws L E Q) (y : YAt hi h x pX pY i k N S L xN yS yL wy) (H : ∀ h', K (.bool true) h') :
    makesZ (tabC tabM) idG 2000 x1 (ptr P) x4 (.int .i64 i) (.int .i64 k) x7 x8 x9 (ptr pX) (ptr pY) x14 x15 h K := by
  have key : ∀ (h' : St) (pZ : Nat) (zS zL : Value) (wz : List Value), Chg h h' [] → hi ≤ pZ → pZ < h'.next → h'.objs pZ = some (.cells [.int .i64 x, xN, zS, zL] true) → SliceAt (hi ≤ ·) h' zS S.length 1 (rowT S) → wz.length = L.length - k → SliceAt (hi ≤ ·) h' zL L.length 1 (rowV (wy ++ wz)) → (∀ (j : Nat) (l : List Nat), (L.drop k)[j]? = some l → SliceAt (hi ≤ ·) h' (wz[j]?.getD undef) l.length 1 (rowU l)) →
      tiltyardlaw04_VerbMakes_l2 (tabC tabM) idG 2000 2000 x1 (ptr P) x4 (.int .i64 i) (.int .i64 k) x7 x8 x9 (ptr pX) (ptr pY) (ptr pZ) (.int .i64 0) x14 x15 h' K := by
    intro h' pZ zS zL wz c hz1 hz2 oZ sS hwz sL inner
    obtain ⟨a1, a2, a3, a4, a5, a6, a7, a8, a9⟩ := y.chg c
    have n := c.1
    refine makes_fin SF k1 k2 k3 h1 h2 (ws := ws) (E := E) (Q := Q) ⟨vN, vS, vL, xN, zS, zL, xN, xN, yS, yL, lv, fun j => (wy ++ wz)[j]?.getD undef, g.chg c (by simp), hP, hi5, by omega, a1, a2, ⟨hz1, hz2⟩, by omega, c.at (by omega) (by simp) oP, a3, a4, a6.len, a8.len, oZ, F.chg c (by simp), a5, sS, sL, ?_⟩ (nu.chg c (by simp)) (li.chg c (by simp)) H
    intro j l hl
    by_cases hj : j < k
    · have e : (wy ++ wz)[j]?.getD undef = wy[j]?.getD undef := by rw [List.getElem?_append_left (by omega)]
      show SliceAt _ h' ((wy ++ wz)[j]?.getD undef) _ _ _
      rw [e]
      exact a9 j l (by rw [List.getElem?_take, if_pos hj]; exact hl)
    · have e : (wy ++ wz)[j]?.getD undef = wz[j - k]?.getD undef := by rw [List.getElem?_append_right (by omega), a7]
      show SliceAt _ h' ((wy ++ wz)[j]?.getD undef) _ _ _
      rw [e]
      exact inner (j - k) l (by rw [List.getElem?_drop]; rw [show k + (j - k) = j by omega]; exact hl)
  obtain ⟨b1, b2, b3, b4, b5, b6, b7, b8, b9⟩ := id y
  obtain ⟨w3, q1, q2⟩ := li.rows.cut (lo := some (.int .i64 k)) (hi := none) (l := k) (e := ws.length) (loHi_lo (by have := li.2.1; omega)) (by have := li.2.1; omega) (Nat.le_refl _)
  obtain ⟨w4, r1, r2⟩ := F.2.1.cut (lo := some (.int .i64 i)) (hi := none) (l := i) (e := S.length) (loHi_lo hi') hi' (Nat.le_refl _)
  have ld : (L.drop k).length = ws.length - k := by rw [List.length_drop, li.2.1]
  rw [← ld] at q2
  have sd : (S.drop i).length = S.length - i := by rw [List.length_drop]
  rw [← sd] at r2
  have r2' : SliceAt (· < lo) h w4 (S.drop i).length 1 (rowT (S.drop i)) := r2.rows fun j hj => by simp [rowT]
  -- the arguments of And
  have inner3 : ∀ (j : Nat) (l : List Nat), (L.drop k)[j]? = some l → SliceAt (fun _ => True) h (ws[k + j]?.getD undef) l.length 1 (rowU l) := fun j l hl => (li.inner (by rwa [List.getElem?_drop] at hl)).imp fun _ _ _ => trivial
  have one1 : ∀ v ∈ wy, Abs.one v = true := by
    intro v hv
    obtain ⟨j, hj, e⟩ := List.mem_iff_getElem.1 hv
    have hj' : j < (L.take k).length := by rw [List.length_take]; omega
    have := (b9 j _ (List.getElem?_eq_getElem hj')).one
    rw [List.getElem?_eq_getElem hj] at this
    simpa [e] using this
  have lenS4 : lenS yS = some (.int .i64 i) := b6.len
  have small : ∀ l ∈ L.drop k, l.length ≤ 1000000 := fun l hl => by have := (SF.2.2 l (List.mem_of_mem_drop hl)).1; omega
  have tl : (S.take i).length = i := by rw [List.length_take]; omega
  have td : S.take i ++ S.drop i = S := List.take_append_drop i S
  have sN : Sl1 xN := sl1_of b5
  have sY : Sl1 yS := sl1_of b6
  have hdk : (L.drop k).length = L.length - k := List.length_drop
  have hwl := li.2.1
  unfold makesZ
  refine ⟨⟨?_, ?_⟩, ?_⟩
  · simp only [ptr, loadV_ptr, b4, loadM_cells, partV_agg, takeN_lit4, Option.map_some, bindV_some, true_and, q1]
    refine .inr (.inr (.inr (.inl ⟨rfl, fun _ => True, x, xN, yS, yL, w3, wy, fun j => ws[k + j]?.getD undef, L.drop k, rfl, sN, sY, by omega, small, by rw [b7]; exact b8.imp fun _ _ _ => trivial, one1, (q2.imp fun _ _ _ => trivial), inner3, fun h3 zL wz c3 hz sL3 in3 => ?_⟩)))
    have n3 := c3.1
    have oP3 := c3.at (by omega) (by simp) oP
    simp only [ptr, offV_ptr, bindV_some, loadV_ptr, oP3, oP, loadM_cells, partV_one, Nat.zero_add, Nat.add_zero, List.getElem?_cons_succ, List.getElem?_cons_zero, true_and, and_true, r1]
    refine .inr (.inr (.inl ⟨rfl, fun _ => True, x, xN, yS, zL, w4, S.take i, S.drop i, rfl, sN, sl1_of sL3, by rw [List.length_take, List.length_drop]; omega, by rw [tl]; exact (b6.chg c3 (by simp)).imp fun _ _ _ => trivial, (r2'.chg c3 (by simp)).imp fun _ _ _ => trivial, fun h4 zS c4 sS4 => ?_⟩))
    have n4 := c4.1
    rw [td] at sS4
    simp only [true_and, and_true, and_self, allocE_some]
    refine storeE_new (vs := [.int .i64 x, xN, zS, zL]) rfl rfl rfl (by simp [sN.1, sS4.one, sL3.one]) ?_
    simp only [idG_eq, true_and, and_self]
    have c5 : Chg h4 ((h4.push (.cells [.int .i64 0, .slice none 0 0, .slice none 0 0, .slice none 0 0] true)).set h4.next (.cells [.int .i64 x, xN, zS, zL] true)) [] := (Chg.push _ _).of_set (.inr (Nat.le_refl _))
    have lz : (wy ++ wz).length = L.length := by rw [List.length_append]; omega
    rw [lz] at sL3
    exact key _ h4.next zS zL wz ((c3.of_chg c4 (by simp)).of_chg c5 (by simp)) (by omega) (by simp) (set_at _ _ _) ((sS4.chg c5 (by simp)).imp fun q _ hq => by omega) (by omega) (((sL3.chg c4 (by simp)).chg c5 (by simp)).imp fun q _ hq => by omega) (fun j l hl => (((in3 j l hl).chg c4 (by simp)).chg c5 (by simp)).imp fun q _ hq => by omega)
  · simp only [ptr, loadV_ptr, b4, loadM_cells, partV_agg, takeN_lit4, Option.map_some, bindV_some, true_and, q1]
    refine .inr (.inr (.inr (.inl ⟨rfl, fun _ => True, x, xN, yS, yL, w3, wy, fun j => ws[k + j]?.getD undef, L.drop k, rfl, sN, sY, by omega, small, by rw [b7]; exact b8.imp fun _ _ _ => trivial, one1, (q2.imp fun _ _ _ => trivial), inner3, fun h3 zL wz c3 hz sL3 in3 => ?_⟩)))
    have n3 := c3.1
    have oP3 := c3.at (by omega) (by simp) oP
    simp only [ptr, offV_ptr, bindV_some, loadV_ptr, oP3, oP, loadM_cells, partV_one, Nat.zero_add, Nat.add_zero, List.getElem?_cons_succ, List.getElem?_cons_zero, true_and, and_true, r1, allocE_some]
    obtain ⟨h4, hh4⟩ : ∃ z, z = h3.push (.cells [.int .i64 0, .slice none 0 0, .slice none 0 0, .slice none 0 0] true) := ⟨_, rfl⟩
    rw [← hh4]
    have c4 : Chg h3 h4 [] := by rw [hh4]; exact Chg.push _ _
    have n4 : h4.next = h3.next + 1 := by rw [hh4]; rfl
    have z4 : h4.objs h3.next = some (.cells [.int .i64 0, .slice none 0 0, .slice none 0 0, .slice none 0 0] true) := by rw [hh4]; exact push_at _ _
    have oP4 := c4.at (by omega) (by simp) oP3
    simp only [loadV_ptr, oP4, loadM_cells, partV_one, Nat.zero_add, Nat.add_zero, List.getElem?_cons_succ, List.getElem?_cons_zero, true_and, and_true]
    refine .inr (.inr (.inl ⟨rfl, fun _ => True, x, xN, yS, zL, w4, S.take i, S.drop i, rfl, sN, sl1_of sL3, by rw [List.length_take, List.length_drop]; omega, by rw [tl]; exact ((b6.chg c3 (by simp)).chg c4 (by simp)).imp fun _ _ _ => trivial, ((r2'.chg c3 (by simp)).chg c4 (by simp)).imp fun _ _ _ => trivial, fun h5 zS c5 sS5 => ?_⟩))
    have n5 := c5.1
    rw [td] at sS5
    have z5 := c5.at (by omega) (by simp) z4
    simp only [true_and, and_true, and_self]
    refine storeE_over (vs := [.int .i64 x, xN, zS, zL]) z5 rfl rfl rfl (by simp [sN.1, sS5.one, sL3.one]) ?_
    simp only [idG_eq, true_and, and_self]
    have c6 : Chg h5 (h5.set h3.next (.cells [.int .i64 x, xN, zS, zL] true)) [h3.next] := Chg.set _ (by simp)
    have c36 : Chg h3 (h5.set h3.next (.cells [.int .i64 x, xN, zS, zL] true)) [] := (c4.of_chg c5 (by simp)).of_chg c6 (by simp)
    have lz : (wy ++ wz).length = L.length := by rw [List.length_append]; omega
    rw [lz] at sL3
    have sS6 := sS5.chg c6 (by intro q hq hh; simp at hq; omega)
    exact key _ h3.next zS zL wz (c3.of_chg c36 (by simp)) (by omega) (by show h3.next < h5.next; omega) (set_at _ _ _) (sS6.imp fun q _ hq => by omega) (by omega) ((sL3.chg c36 (by simp)).imp fun q _ hq => by omega) (fun j l hl => ((in3 j l hl).chg c36 (by simp)).imp fun q _ hq => by omega)
  · simp only [ptr, loadV_ptr, b4, loadM_cells, partV_agg, takeN_lit4, Option.map_some, bindV_some, true_and, q1, allocE_some]
    obtain ⟨h2', hh2⟩ : ∃ z, z = h.push (.cells [.int .i64 0, .slice none 0 0, .slice none 0 0, .slice none 0 0] true) := ⟨_, rfl⟩
    rw [← hh2]
    have c2 : Chg h h2' [] := by rw [hh2]; exact Chg.push _ _
    have n2 : h2'.next = h.next + 1 := by rw [hh2]; rfl
    have z2 : h2'.objs h.next = some (.cells [.int .i64 0, .slice none 0 0, .slice none 0 0, .slice none 0 0] true) := by rw [hh2]; exact push_at _ _
    have oP2 := c2.at (by omega) (by simp) oP
    have b42 := c2.at (by omega) (by simp) b4
    simp only [loadV_ptr, b42, loadM_cells, partV_agg, takeN_lit4, Option.map_some, true_and, and_true]
    refine .inr (.inr (.inr (.inl ⟨rfl, fun _ => True, x, xN, yS, yL, w3, wy, fun j => ws[k + j]?.getD undef, L.drop k, rfl, sN, sY, by omega, small, by rw [b7]; exact (b8.chg c2 (by simp)).imp fun _ _ _ => trivial, one1, ((q2.chg c2 (by simp)).imp fun _ _ _ => trivial), fun j l hl => (inner3 j l hl).chg c2 (by simp), fun h3 zL wz c3 hz sL3 in3 => ?_⟩)))
    have n3 := c3.1
    have oP3 := c3.at (by omega) (by simp) oP2
    have z3 := c3.at (by omega) (by simp) z2
    simp only [ptr, offV_ptr, bindV_some, loadV_ptr, oP3, oP2, oP, loadM_cells, partV_one, Nat.zero_add, Nat.add_zero, List.getElem?_cons_succ, List.getElem?_cons_zero, true_and, and_true, r1]
    refine .inr (.inr (.inl ⟨rfl, fun _ => True, x, xN, yS, zL, w4, S.take i, S.drop i, rfl, sN, sl1_of sL3, by rw [List.length_take, List.length_drop]; omega, by rw [tl]; exact ((b6.chg c2 (by simp)).chg c3 (by simp)).imp fun _ _ _ => trivial, ((r2'.chg c2 (by simp)).chg c3 (by simp)).imp fun _ _ _ => trivial, fun h4 zS c4 sS4 => ?_⟩))
    have n4 := c4.1
    rw [td] at sS4
    have z4 := c4.at (by omega) (by simp) z3
    simp only [true_and, and_true, and_self]
    refine storeE_over (vs := [.int .i64 x, xN, zS, zL]) z4 rfl rfl rfl (by simp [sN.1, sS4.one, sL3.one]) ?_
    simp only [idG_eq, true_and, and_self]
    have c5 : Chg h4 (h4.set h.next (.cells [.int .i64 x, xN, zS, zL] true)) [h.next] := Chg.set _ (by simp)
    have lz : (wy ++ wz).length = L.length := by rw [List.length_append]; omega
    rw [lz] at sL3
    have sS5 := sS4.chg c5 (by intro q hq hh; simp at hq; omega)
    have sL5 := (sL3.chg c4 (by simp)).chg c5 (by intro q hq hh; simp at hq; omega)
    exact key _ h.next zS zL wz (((c2.of_chg c3 (by simp)).of_chg c4 (by simp)).of_chg c5 (by simp)) (by omega) (by show h.next < h4.next; omega) (set_at _ _ _) (sS5.imp fun q _ hq => by omega) (by omega) (sL5.imp fun q _ hq => by omega) (fun j l hl => (((in3 j l hl).chg c4 (by simp)).chg c5 (by intro q hq hh; simp at hq; omega)).imp fun q _ hq => by omega)
end Go.Proofs.YtdmcmebfclikgaaDoor

/- 'VerbMakes': what it answers. -/
set_option linter.unusedSimpArgs false
set_option linter.unusedVariables false
set_option maxHeartbeats 4000000
set_option maxRecDepth 100000
namespace Go.Proofs.YtdmcmebfclikgaaDoor
open Go.Abs Go.IntWalk
attribute [local congr] bindV_w condK_w guardK_w groupK_w allocE_w boxE_w storeE_w storeM_w tabC_w ite_w idG_w appendE_w toBytesE_w buildSliceE_w

theorem makes_j1 {lo mid : Nat} {h : St} {x : Int} {P i k : Nat} {N : List Nat} {S : List ByteArray} {L : List (List Nat)} {x1 x4 x7 x8 x9 x10 x11 x12 x13 x14 x15 vN vS vL : Value} {lv : Nat → Value} {ws : List Value} {E Q : Nat → Prop} {K : Cont} (SF : SmallF N S L) (k1 : N.length ≤ 12) (k2 : S.length ≤ 12) (k3 : L.length ≤ 12) (h1 : lo ≤ mid) (h2 : mid ≤ h.next) (hi5 : 5 ≤ lo) (hP : P < lo) (hi' : i ≤ S.length) (hk : k ≤ L.length)
    (g : Glob h) (oP : h.objs P = some (.cells [.int .i64 x, vN, vS, vL] true)) (F : FieldsAt (· < lo) h vN vS vL lv N S L) (nu : NumsAt lo mid h x7 N) (li : ListsAt mid h.next h x8 ws L E Q) (H : ∀ h', K (.bool true) h') :
    tiltyardlaw04_VerbMakes_j1 (tabC tabM) idG 2000 x1 (ptr P) x4 (.int .i64 i) (.int .i64 k) x7 x8 x9 x10 x11 x12 x13 x14 x15 h K := by
  rw [tiltyardlaw04_VerbMakes_j1_eq]
  simp only [ptr, offV_ptr, bindV_some, loadV_ptr, oP, loadM_cells, partV_one, Nat.zero_add, Nat.add_zero, List.getElem?_cons_zero]
  refine .inr (.inl ⟨rfl, _, x, x7, N, rfl, by omega, nu.rows, fun h9 xN c9 sN9 => ?_⟩)
  have n9 := c9.1
  simp only [allocE_some]
  refine storeE_new (vs := [.int .i64 x, xN, .slice none 0 0, .slice none 0 0]) rfl rfl rfl (by simp [sN9.one]) ?_
  obtain ⟨ha, hha⟩ : ∃ z, z = (h9.push (.cells [.int .i64 0, .slice none 0 0, .slice none 0 0, .slice none 0 0] true)).set h9.next (.cells [.int .i64 x, xN, .slice none 0 0, .slice none 0 0] true) := ⟨_, rfl⟩
  rw [← hha]
  have ca : Chg h9 ha [] := by rw [hha]; exact (Chg.push _ _).of_set (.inr (Nat.le_refl _))
  have na : ha.next = h9.next + 1 := by rw [hha]; rfl
  have oX : ha.objs h9.next = some (.cells [.int .i64 x, xN, .slice none 0 0, .slice none 0 0] true) := by rw [hha]; exact set_at _ _ _
  have cca : Chg h ha [] := c9.of_chg ca (by simp)
  have oPa := cca.at (by omega) (by simp) oP
  have Fa := F.chg cca (by simp)
  have lia := li.chg cca (by simp)
  have sNa := sN9.chg ca (by simp)
  have sN : Sl1 xN := sl1_of sN9
  have nil1 : Sl1 (.slice none 0 0) := ⟨rfl, rfl, rfl⟩
  -- the end, whichever came first
  have key : ∀ (hy : St) (pY : Nat) (yS yL : Value) (wy : List Value), Chg ha hy [] → h.next ≤ pY → pY < hy.next → hy.objs pY = some (.cells [.int .i64 x, xN, yS, yL] true) → SliceAt (h.next ≤ ·) hy yS i 1 (rowT (S.take i)) → wy.length = k → SliceAt (h.next ≤ ·) hy yL k 1 (rowV wy) → (∀ (j : Nat) (l : List Nat), (L.take k)[j]? = some l → SliceAt (h.next ≤ ·) hy (wy[j]?.getD undef) l.length 1 (rowU l)) →
      makesZ (tabC tabM) idG 2000 x1 (ptr P) x4 (.int .i64 i) (.int .i64 k) x7 x8 x9 (ptr h9.next) (ptr pY) x14 x15 hy K := by
    intro hy pY yS yL wy c hy1 hy2 oY sS hw sL inner
    have n := c.1
    have cc := cca.of_chg c (by simp)
    exact makes_z SF k1 k2 k3 h1 h2 (by omega) hi5 hP hi' hk (g.chg cc (by simp)) (cc.at (by omega) (by simp) oP) (F.chg cc (by simp)) (nu.chg cc (by simp)) (li.chg cc (by simp)) ⟨⟨by omega, by omega⟩, ⟨hy1, hy2⟩, c.at (by omega) (by simp) oX, oY, sNa.chg c (by simp), sS, hw, sL, inner⟩ H
  obtain ⟨w1, q1, q2⟩ := Fa.2.1.cut (lo := none) (hi := some (.int .i64 i)) (l := 0) (e := i) (loHi_hi hi') (by omega) hi'
  have hws := li.2.1
  obtain ⟨w2, r1, r2⟩ := lia.rows.cut (lo := none) (hi := some (.int .i64 k)) (l := 0) (e := k) (loHi_hi (by omega)) (by omega) (by omega)
  rw [Nat.sub_zero] at q2 r2
  have tl : (S.take i).length = i := by rw [List.length_take]; omega
  have tk : (L.take k).length = k := by rw [List.length_take]; omega
  have q2' : SliceAt (· < lo) ha w1 (S.take i).length 1 (rowT (S.take i)) := by
    rw [tl]
    exact q2.rows fun j hj => by simp [rowT, List.getElem?_take, hj]
  have r2' : SliceAt (fun _ => True) ha w2 (L.take k).length 1 (fun j => [ws[j]?.getD undef]) := by
    rw [tk]
    exact (r2.rows (row' := fun j => [ws[j]?.getD undef]) fun j hj => by simp [rowV]).imp fun _ _ _ => trivial
  have inner2 : ∀ (j : Nat) (l : List Nat), (L.take k)[j]? = some l → SliceAt (fun _ => True) ha (ws[j]?.getD undef) l.length 1 (rowU l) := fun j l hl => (lia.inner (by
    rw [List.getElem?_take] at hl
    split at hl
    · exact hl
    · cases hl)).imp fun _ _ _ => trivial
  have small : ∀ l ∈ L.take k, l.length ≤ 1000000 := fun l hl => by have := (SF.2.2 l (List.mem_of_mem_take hl)).1; omega
  refine ⟨⟨?_, ?_⟩, ?_⟩
  · simp only [ptr, offV_ptr, loadV_ptr, oX, oPa, loadM_cells, partV_one, partV_agg, takeN_lit4, Option.map_some, bindV_some, Nat.zero_add, Nat.add_zero, List.getElem?_cons_succ, List.getElem?_cons_zero, true_and, and_true, and_self, q1]
    refine .inr (.inr (.inl ⟨rfl, fun _ => True, x, xN, .slice none 0 0, .slice none 0 0, w1, [], S.take i, rfl, sN, nil1, by simp; omega, .inl ⟨rfl, rfl⟩, q2'.imp fun _ _ _ => trivial, fun h3 yS c3 sS3 => ?_⟩))
    have n3 := c3.1
    rw [List.nil_append, tl] at sS3
    simp only [bindV_some, true_and, and_true, and_self, r1]
    refine .inr (.inr (.inr (.inl ⟨rfl, fun _ => True, x, xN, yS, .slice none 0 0, w2, [], fun j => ws[j]?.getD undef, L.take k, rfl, sN, sl1_of sS3, by simp; omega, small, .inl ⟨rfl, rfl⟩, by simp, r2'.chg c3 (by simp), fun j l hl => (inner2 j l hl).chg c3 (by simp), fun h4 yL wy c4 hw sL4 in4 => ?_⟩)))
    have n4 := c4.1
    rw [List.nil_append] at sL4
    rw [tk] at hw
    rw [hw] at sL4
    simp only [true_and, and_true, and_self, allocE_some]
    refine storeE_new (vs := [.int .i64 x, xN, yS, yL]) rfl rfl rfl (by simp [sN.1, sS3.one, sL4.one]) ?_
    simp only [true_and, and_self]
    have c5 : Chg h4 ((h4.push (.cells [.int .i64 0, .slice none 0 0, .slice none 0 0, .slice none 0 0] true)).set h4.next (.cells [.int .i64 x, xN, yS, yL] true)) [] := (Chg.push _ _).of_set (.inr (Nat.le_refl _))
    exact key _ h4.next yS yL wy ((c3.of_chg c4 (by simp)).of_chg c5 (by simp)) (by omega) (by simp) (set_at _ _ _) (((sS3.chg c4 (by simp)).chg c5 (by simp)).imp fun q _ hq => by omega) hw ((sL4.chg c5 (by simp)).imp fun q _ hq => by omega) (fun j l hl => ((in4 j l hl).chg c5 (by simp)).imp fun q _ hq => by omega)
  · simp only [ptr, offV_ptr, loadV_ptr, oX, oPa, loadM_cells, partV_one, partV_agg, takeN_lit4, Option.map_some, bindV_some, Nat.zero_add, Nat.add_zero, List.getElem?_cons_succ, List.getElem?_cons_zero, true_and, and_true, and_self, q1]
    refine .inr (.inr (.inl ⟨rfl, fun _ => True, x, xN, .slice none 0 0, .slice none 0 0, w1, [], S.take i, rfl, sN, nil1, by simp; omega, .inl ⟨rfl, rfl⟩, q2'.imp fun _ _ _ => trivial, fun h3 yS c3 sS3 => ?_⟩))
    have n3 := c3.1
    rw [List.nil_append, tl] at sS3
    simp only [bindV_some, true_and, and_true, and_self, r1, allocE_some]
    obtain ⟨h4, hh4⟩ : ∃ z, z = h3.push (.cells [.int .i64 0, .slice none 0 0, .slice none 0 0, .slice none 0 0] true) := ⟨_, rfl⟩
    rw [← hh4]
    have c4 : Chg h3 h4 [] := by rw [hh4]; exact Chg.push _ _
    have n4 : h4.next = h3.next + 1 := by rw [hh4]; rfl
    have z4 : h4.objs h3.next = some (.cells [.int .i64 0, .slice none 0 0, .slice none 0 0, .slice none 0 0] true) := by rw [hh4]; exact push_at _ _
    refine .inr (.inr (.inr (.inl ⟨rfl, fun _ => True, x, xN, yS, .slice none 0 0, w2, [], fun j => ws[j]?.getD undef, L.take k, rfl, sN, sl1_of sS3, by simp; omega, small, .inl ⟨rfl, rfl⟩, by simp, (r2'.chg c3 (by simp)).chg c4 (by simp), fun j l hl => ((inner2 j l hl).chg c3 (by simp)).chg c4 (by simp), fun h5 yL wy c5 hw sL5 in5 => ?_⟩)))
    have n5 := c5.1
    rw [List.nil_append] at sL5
    rw [tk] at hw
    rw [hw] at sL5
    have z5 := c5.at (by omega) (by simp) z4
    simp only [true_and, and_true, and_self]
    refine storeE_over (vs := [.int .i64 x, xN, yS, yL]) z5 rfl rfl rfl (by simp [sN.1, sS3.one, sL5.one]) ?_
    simp only [true_and, and_self]
    have c6 : Chg h5 (h5.set h3.next (.cells [.int .i64 x, xN, yS, yL] true)) [h3.next] := Chg.set _ (by simp)
    have c36 : Chg h3 (h5.set h3.next (.cells [.int .i64 x, xN, yS, yL] true)) [] := (c4.of_chg c5 (by simp)).of_chg c6 (by simp)
    exact key _ h3.next yS yL wy (c3.of_chg c36 (by simp)) (by omega) (by show h3.next < h5.next; omega) (set_at _ _ _) ((sS3.chg c36 (by simp)).imp fun q _ hq => by omega) hw ((sL5.chg c6 (by intro q hq hh; simp at hq; omega)).imp fun q _ hq => by omega) (fun j l hl => ((in5 j l hl).chg c6 (by intro q hq hh; simp at hq; omega)).imp fun q _ hq => by omega)
  · simp only [ptr, offV_ptr, loadV_ptr, oX, oPa, loadM_cells, partV_one, partV_agg, takeN_lit4, Option.map_some, bindV_some, Nat.zero_add, Nat.add_zero, List.getElem?_cons_succ, List.getElem?_cons_zero, true_and, and_true, and_self, q1, allocE_some]
    obtain ⟨hb, hhb⟩ : ∃ z, z = ha.push (.cells [.int .i64 0, .slice none 0 0, .slice none 0 0, .slice none 0 0] true) := ⟨_, rfl⟩
    rw [← hhb]
    have cb : Chg ha hb [] := by rw [hhb]; exact Chg.push _ _
    have nb : hb.next = ha.next + 1 := by rw [hhb]; rfl
    have zb : hb.objs ha.next = some (.cells [.int .i64 0, .slice none 0 0, .slice none 0 0, .slice none 0 0] true) := by rw [hhb]; exact push_at _ _
    have oXb := cb.at (by omega) (by simp) oX
    have oPb := cb.at (by omega) (by simp) oPa
    simp only [loadV_ptr, oXb, oPb, loadM_cells, partV_one, partV_agg, takeN_lit4, Option.map_some, Nat.zero_add, Nat.add_zero, List.getElem?_cons_succ, List.getElem?_cons_zero, true_and, and_true, and_self]
    refine .inr (.inr (.inl ⟨rfl, fun _ => True, x, xN, .slice none 0 0, .slice none 0 0, w1, [], S.take i, rfl, sN, nil1, by simp; omega, .inl ⟨rfl, rfl⟩, (q2'.chg cb (by simp)).imp fun _ _ _ => trivial, fun h3 yS c3 sS3 => ?_⟩))
    have n3 := c3.1
    rw [List.nil_append, tl] at sS3
    have z3 := c3.at (by omega) (by simp) zb
    simp only [bindV_some, true_and, and_true, and_self, r1]
    refine .inr (.inr (.inr (.inl ⟨rfl, fun _ => True, x, xN, yS, .slice none 0 0, w2, [], fun j => ws[j]?.getD undef, L.take k, rfl, sN, sl1_of sS3, by simp; omega, small, .inl ⟨rfl, rfl⟩, by simp, (r2'.chg cb (by simp)).chg c3 (by simp), fun j l hl => ((inner2 j l hl).chg cb (by simp)).chg c3 (by simp), fun h4 yL wy c4 hw sL4 in4 => ?_⟩)))
    have n4 := c4.1
    rw [List.nil_append] at sL4
    rw [tk] at hw
    rw [hw] at sL4
    have z4 := c4.at (by omega) (by simp) z3
    simp only [true_and, and_true, and_self]
    refine storeE_over (vs := [.int .i64 x, xN, yS, yL]) z4 rfl rfl rfl (by simp [sN.1, sS3.one, sL4.one]) ?_
    simp only [true_and, and_self]
    have c5 : Chg h4 (h4.set ha.next (.cells [.int .i64 x, xN, yS, yL] true)) [ha.next] := Chg.set _ (by simp)
    have cc : Chg ha (h4.set ha.next (.cells [.int .i64 x, xN, yS, yL] true)) [] := ((cb.of_chg c3 (by simp)).of_chg c4 (by simp)).of_chg c5 (by simp)
    exact key _ ha.next yS yL wy cc (by omega) (by show ha.next < h4.next; omega) (set_at _ _ _) (((sS3.chg c4 (by simp)).chg c5 (by intro q hq hh; simp at hq; omega)).imp fun q _ hq => by omega) hw ((sL4.chg c5 (by intro q hq hh; simp at hq; omega)).imp fun q _ hq => by omega) (fun j l hl => ((in4 j l hl).chg c5 (by intro q hq hh; simp at hq; omega)).imp fun q _ hq => by omega)
end Go.Proofs.YtdmcmebfclikgaaDoor

/- 'VerbMakes': what it answers. -/
set_option linter.unusedSimpArgs false
set_option linter.unusedVariables false
set_option maxHeartbeats 4000000
set_option maxRecDepth 100000
namespace Go.Proofs.YtdmcmebfclikgaaDoor
open Go.Abs Go.IntWalk
attribute [local congr] bindV_w condK_w guardK_w groupK_w allocE_w boxE_w storeE_w storeM_w tabC_w ite_w idG_w appendE_w toBytesE_w buildSliceE_w

theorem build_none {z : List Value} (h : St) (k : Cont) : buildSliceE 1 0 z [] h k = k (.slice (some ⟨h.next, 0, some 1⟩) 0 0) (h.push (.cells [] true)) := by
  simp [buildSliceE, fillL, repL]
/-- Copies of the lists. -/
theorem makes_l0 {lo : Nat} {x : Int} {P i k : Nat} {N : List Nat} {S : List ByteArray} {L : List (List Nat)} {x1 x4 x7 x10 x11 x12 x13 x14 x15 vN vS vL : Value} {lv : Nat → Value} {h0 : St} {K : Cont} (k3 : L.length ≤ 12) (hL : ∀ l ∈ L, l.length ≤ 1000) (hlo : lo ≤ h0.next) (hP : P < lo)
    (oP : h0.objs P = some (.cells [.int .i64 x, vN, vS, vL] true)) (F : FieldsAt (· < lo) h0 vN vS vL lv N S L)
    (H : ∀ h' x8 ws (E Q : Nat → Prop), Chg h0 h' [] → ListsAt h0.next h'.next h' x8 ws L E Q → ∀ y, tiltyardlaw04_VerbMakes_j1 (tabC tabM) idG 2000 x1 (ptr P) x4 (.int .i64 i) (.int .i64 k) x7 x8 y x10 x11 x12 x13 x14 x15 h' K) :
    ∀ (d n m0 : Nat) (h : St) (x8 : Value) (ws : List Value) (E : Nat → Prop), n + d = L.length → d < m0 → Chg h0 h [] → ws.length = n → (∀ q, E q → h0.next ≤ q ∧ q < h.next) → OwnS (fun j => h0.next ≤ j ∧ ¬ E j) h x8 1 ws n → (∀ (j : Nat) (l : List Nat), j < n → L[j]? = some l → OwnS E h (ws[j]?.getD undef) 1 (l.map uN) l.length) →
      tiltyardlaw04_VerbMakes_l0 (tabC tabM) idG 2000 m0 x1 (ptr P) x4 (.int .i64 i) (.int .i64 k) x7 x8 (.int .i64 n) x10 x11 x12 x13 x14 x15 h K := by
  intro d
  induction d with
  | zero =>
    intro n m0 h x8 ws E hn hm c hw hE o inn
    obtain ⟨m0, rfl⟩ : ∃ m, m0 = m + 1 := ⟨m0 - 1, by omega⟩
    rw [tiltyardlaw04_VerbMakes_l0_eq]
    have oPh := c.at (by omega) (by simp) oP
    have Fh := F.chg c (by simp)
    have e : n = L.length := by omega
    subst e
    simp only [ptr, offV_ptr, bindV_some, loadV_ptr, oPh, loadM_cells, partV_one, Nat.zero_add, List.getElem?_cons_succ, List.getElem?_cons_zero, Fh.2.2.1.len, binV_lss, Int.lt_irrefl, decide_false, condK_bool, Bool.false_eq_true, if_false, idG_eq]
    refine H h x8 ws E (fun j => h0.next ≤ j ∧ j < h.next ∧ ¬ E j) c ⟨by rw [hw]; exact o.imp fun j hj hh => ⟨hh.1, hj, hh.2⟩, hw, fun j l hl => inn j l (List.getElem?_eq_some_iff.1 hl).1 hl, fun q hq hh => hh.2.2 hq, fun q hq => hq.elim (fun a => hE q a) fun a => ⟨a.1, a.2.1⟩⟩ _
  | succ d ih =>
    intro n m0 h x8 ws E hn hm c hw hE o inn
    obtain ⟨m0, rfl⟩ : ∃ m, m0 = m + 1 := ⟨m0 - 1, by omega⟩
    rw [tiltyardlaw04_VerbMakes_l0_eq]
    have n0 := c.1
    have oPh := c.at (by omega) (by simp) oP
    have Fh := F.chg c (by simp)
    have hlt : (n : Int) < L.length := by omega
    have hn' : n < L.length := by omega
    have inc : IntKind.i64.wrap ((n : Int) + 1) = ((n + 1 : Nat) : Int) := by rw [i64_in _ (by omega)]; omega
    simp only [ptr, offV_ptr, bindV_some, loadV_ptr, oPh, loadM_cells, partV_one, Nat.zero_add, List.getElem?_cons_succ, List.getElem?_cons_zero, Fh.2.2.1.len, binV_lss, hlt, decide_true, condK_bool, if_true, idG_eq, build_none]
    obtain ⟨h5, hh5⟩ : ∃ z, z = h.push (.cells [] true) := ⟨_, rfl⟩
    rw [← hh5]
    have c5 : Chg h h5 [] := by rw [hh5]; exact Chg.push _ _
    have n5 : h5.next = h.next + 1 := by rw [hh5]; rfl
    have q5 : h5.objs h.next = some (.cells [] true) := by rw [hh5]; exact push_at _ _
    have oP5 := c5.at (by omega) (by simp) oPh
    have F5 := Fh.chg c5 (by simp)
    obtain ⟨b, oo, g1, g2, g3, cs, own, g4, g5⟩ := F5.2.2.1.idx (Int.natCast_nonneg n) hlt .i64
    have g6 := takeN_get g5 (j := 0) (by omega)
    simp only [Nat.add_zero, List.getElem?_cons_zero, Int.toNat_natCast] at g6
    have hl : L[n]? = some L[n] := List.getElem?_eq_getElem hn'
    have sl := F5.2.2.2 n L[n] hl
    have ll := hL _ (List.getElem_mem hn')
    simp only [offV_ptr, bindV_some, loadV_ptr, oP5, loadM_cells, partV_one, Nat.zero_add, List.getElem?_cons_succ, List.getElem?_cons_zero, g1, g4, g6]
    refine append_own' (B := (h.next ≤ ·)) (by omega) (.inr ⟨h.next, rfl, Nat.le_refl _, by omega, q5, rfl⟩) (newCells_one sl (rowU_at _)) (by simp) (allOne_map (fun _ => rfl) _) (by omega) (by omega) fun h6 v6 c6 o6 => ?_
    have n6 := c6.1
    rw [List.nil_append, Nat.zero_add] at o6
    have s6 : Sl1 v6 := ⟨o6.one, o6.cells1, o6.isUnk⟩
    simp only [build_one s6]
    obtain ⟨h7, hh7⟩ : ∃ z, z = h6.push (.cells [v6] true) := ⟨_, rfl⟩
    rw [← hh7]
    have c7 : Chg h6 h7 [] := by rw [hh7]; exact Chg.push _ _
    have n7 : h7.next = h6.next + 1 := by rw [hh7]; rfl
    have q7 : h7.objs h6.next = some (.cells [v6] true) := by rw [hh7]; exact push_at _ _
    have o7 : OwnS (fun j => h0.next ≤ j ∧ ¬ (E j ∨ (h.next ≤ j ∧ j < h6.next))) h7 x8 1 ws n := by
      have a1 := o.imp (B' := fun j => h0.next ≤ j ∧ j < h.next ∧ ¬ E j) fun j hj hh => ⟨hh.1, hj, hh.2⟩
      have a2 := ((a1.chg c5 (by simp)).chgP c6 (by intro q hq hh; omega)).chg c7 (by simp)
      exact a2.imp fun j _ hh => ⟨hh.1, fun q => q.elim hh.2.2 fun q => by omega⟩
    refine append_own' (B := fun j => h0.next ≤ j ∧ ¬ (E j ∨ (h.next ≤ j ∧ j < h6.next))) ⟨by omega, fun q => q.elim (fun q => by have := hE _ q; omega) fun q => by omega⟩ o7 (one_cells q7) rfl (by simp [s6.1]) (by omega) (by omega) fun h8 v8 c8 o8 => ?_
    have n8 := c8.1
    simp only [binNil_int, binV_add, bindV_some, inc, idG_eq]
    have cc6 : Chg h h6 [] := ((c5.toP (D := (h.next ≤ ·)) (by simp)).step c6).list (by intro i hi hh; omega)
    have cc : Chg h0 h8 [] := ((((c.of_chg cc6 (by simp)).of_chg c7 (by simp)).toP (D := (h0.next ≤ ·)) (by simp)).step (c8.mono fun i _ hh => hh.1)).list (by intro i hi hh; omega)
    refine ih (n + 1) m0 h8 v8 (ws ++ [v6]) (fun j => E j ∨ (h.next ≤ j ∧ j < h6.next)) (by omega) (by omega) cc (by simp [hw]) ?_ o8 ?_
    · intro q hq
      rcases hq with hq | hq
      · have := hE _ hq; omega
      · omega
    · intro j l hj hjl
      by_cases hji : j < n
      · have e : (ws ++ [v6])[j]?.getD undef = ws[j]?.getD undef := by rw [List.getElem?_append_left (by omega)]
        rw [e]
        have a1 := (((inn j l hji hjl).imp (B' := fun q => E q ∧ q < h.next) fun q hq hh => ⟨hh, hq⟩).chg c5 (by simp)).chgP c6 (by intro q hq hh; omega)
        have a2 := (a1.chg c7 (by simp)).chgP c8 (by intro q hq hh; exact hq.2 (.inl hh.1))
        exact a2.imp fun q _ hh => .inl hh.1
      · have : j = n := by omega
        subst this
        have e : (ws ++ [v6])[j]?.getD undef = v6 := by rw [List.getElem?_append_right (by omega)]; simp [hw]
        rw [e]
        have hl' : l = L[j] := by rw [hl] at hjl; exact (Option.some.inj hjl).symm
        rw [hl']
        have a1 := ((o6.imp (B' := fun q => h.next ≤ q ∧ q < h6.next) fun q a b => ⟨b, a⟩).chg c7 (by simp)).chgP c8 (by intro q hq hh; exact hq.2 (.inr hh))
        exact a1.imp fun q _ hh => .inr hh
def makesLawS : Abs.Spec := fun args h k => ∃ (x : Int) (vN vS vL : Value) (lv : Nat → Value) (N : List Nat) (S : List ByteArray) (L : List (List Nat)) (a : Nat), args = [.agg #[.int .i64 x, vN, vS, vL], .int .u8 a] ∧ a < 256 ∧ FieldsAt (· < h.next) h vN vS vL lv N S L ∧ (∀ n ∈ N, n < 18446744073709551616) ∧ (∀ l ∈ L, ∀ n ∈ l, n < 4294967296) ∧ S.length ≤ 9223372036854775807 ∧ L.length ≤ 9223372036854775807 ∧ Glob h ∧ ∀ h', k (.bool true) h'
theorem makesLawS_good : SpecGood Tryd.prog (7, makesLawS) := by
  refine spec_good mixed Tryd.func7 (by kernel_rfl) (by kernel_rfl) tabM_good (keep := tiltyardlaw04_VerbMakes_keep) ?_
  rintro args h k ⟨x, vN, vS, vL, lv, N, S, L, a, rfl, ha, F, hN, hL, hS1, hL1, g, H⟩
  refine ⟨2000, ?_⟩
  show tiltyardlaw04_VerbMakes (tabC tabM) idG 2000 (.agg #[.int .i64 x, vN, vS, vL]) (.int .u8 a) h _
  generalize hK : (fun v h1 => ∃ h2, St.le h2 h1 ∧ k v h2 : Cont) = K
  have H : ∀ h', K (.bool true) h' := by subst hK; exact fun h' => ⟨_, St.le.refl _, H h'⟩
  clear hK
  rw [tiltyardlaw04_VerbMakes_eq]
  rw [boxE_eq]
  refine ⟨by simp [F.1.one, F.2.1.one, F.2.2.1.one], ?_⟩
  obtain ⟨h1, hh1⟩ : ∃ z, z = h.push (.cells [.int .i64 x, vN, vS, vL] true) := ⟨_, rfl⟩
  have e1 : h.push (.cells (Value.agg #[.int .i64 x, vN, vS, vL]).cells.toList true) = h1 := by rw [hh1]; rfl
  rw [e1]
  have c1 : Chg h h1 [] := by rw [hh1]; exact Chg.push _ _
  have n1 : h1.next = h.next + 1 := by rw [hh1]; rfl
  have o1 : h1.objs h.next = some (.cells [.int .i64 x, vN, vS, vL] true) := by rw [hh1]; exact push_at _ _
  have t1 : takeN [Value.int .i64 x, vN, vS, vL] (0 + 1) 3 = some [vN, vS, vL] := rfl
  have F1 := F.chg c1 (by simp)
  simp only [offV_ptr, bindV_some, loadV_ptr, o1, loadM_cells, partV_agg, t1, Option.map_some]
  refine .inl ⟨rfl, _, vN, vS, vL, lv, N, S, L, rfl, F1, hS1, hL1, fun h2 c2 => ?_⟩
  cases hsm : smallB N S L with
  | false =>
    simp
    exact H h2
  | true =>
    obtain ⟨SF, k1, k2, k3⟩ := small_F hN hL hsm
    have n2 := c2.1
    have g0 := g.1
    have o2 := c2.at (by omega) (by simp) o1
    have F2 := F1.chg c2 (by simp)
    have w0 : IntKind.i64.wrap (a : Int) = (a : Nat) := i64_in _ (by omega)
    have w1 : IntKind.i64.wrap ((S.length : Int) + 1) = ((S.length + 1 : Nat) : Int) := by rw [i64_in _ (by omega)]; omega
    have w2 : IntKind.i64.wrap ((L.length : Int) + 1) = ((L.length + 1 : Nat) : Int) := by rw [i64_in _ (by omega)]; omega
    have r1 := rem_nat .other .i64 a (S.length + 1) (by omega)
    have r2 := rem_nat .other .i64 a (L.length + 1) (by omega)
    have i1 : a % (S.length + 1) ≤ S.length := by have := Nat.mod_lt a (show 0 < S.length + 1 by omega); omega
    have i2 : a % (L.length + 1) ≤ L.length := by have := Nat.mod_lt a (show 0 < L.length + 1 by omega); omega
    simp only [unV_not, Bool.not_true, bindV_some, condK_bool, Bool.false_eq_true, if_false, idG_eq, wrapV_int, w0, offV_ptr, loadV_ptr, o2, loadM_cells, partV_one, Nat.zero_add, Nat.add_zero, List.getElem?_cons_succ, List.getElem?_cons_zero, true_and, F2.2.1.len, F2.2.2.1.len, binNil_int, binV_add, w1, w2, r1, r2, build_none]
    obtain ⟨h3, hh3⟩ : ∃ z, z = h2.push (.cells [] true) := ⟨_, rfl⟩
    rw [← hh3]
    have c3 : Chg h2 h3 [] := by rw [hh3]; exact Chg.push _ _
    have n3 : h3.next = h2.next + 1 := by rw [hh3]; rfl
    have q3 : h3.objs h2.next = some (.cells [] true) := by rw [hh3]; exact push_at _ _
    have o3 := c3.at (by omega) (by simp) o2
    have F3 := F2.chg c3 (by simp)
    simp only [offV_ptr, bindV_some, loadV_ptr, o3, loadM_cells, partV_one, Nat.zero_add, Nat.add_zero, List.getElem?_cons_succ, List.getElem?_cons_zero]
    refine append_own' (B := (h2.next ≤ ·)) (by omega) (.inr ⟨h2.next, rfl, Nat.le_refl _, by omega, q3, rfl⟩) (newCells_one F3.1 (rowQ_at _)) (by simp) (allOne_map (fun _ => rfl) _) (by omega) (by omega) fun h4 v4 c4 o4 => ?_
    have n4 := c4.1
    rw [List.nil_append, Nat.zero_add] at o4
    simp only [idG_eq]
    have c24 : Chg h2 h4 [] := ((c3.toP (D := (h2.next ≤ ·)) (by simp)).step c4).list (by intro i hi hh; omega)
    have o4' := c24.at (by omega) (by simp) o2
    have F4 : FieldsAt (· < h2.next) h4 vN vS vL lv N S L := (F2.imp (V' := (· < h2.next)) fun i hi _ => hi).chg c24 (by simp)
    have cc2 : Chg h h2 [] := c1.of_chg c2 (by simp)
    have g4 := (g.chg cc2 (by simp)).chg c24 (by simp)
    refine makes_l0 (lo := h2.next) k3 (fun l hl => (SF.2.2 l hl).1) (by omega) (by omega) o4' F4 ?_ L.length 0 2000 h4 _ [] (fun _ => False) (by omega) (by omega) (Chg.refl _ _) rfl (by simp) (.inl ⟨rfl, rfl, rfl⟩) (by intro j l hj; omega)
    intro h5 x8 ws E Q c5 li y
    have n5 := c5.1
    have nu : NumsAt h2.next h4.next h5 v4 N := (o4.imp (B' := fun q => h2.next ≤ q ∧ q < h4.next) fun q hq hh => ⟨hh, hq⟩).chg c5 (by simp)
    exact makes_j1 (lo := h2.next) (mid := h4.next) SF k1 k2 k3 (by omega) (by omega) (by omega) (by omega) i1 i2 (g4.chg c5 (by simp)) (c5.at (by omega) (by simp) o4') (F4.chg c5 (by simp)) nu li H
end Go.Proofs.YtdmcmebfclikgaaDoor
