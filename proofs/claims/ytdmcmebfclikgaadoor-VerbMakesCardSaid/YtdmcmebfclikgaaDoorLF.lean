/- The document's table, walked: kinds found, names found. -/
import Derived.Test.YtdmcmebfclikgaaDoorLE
import Derived.Test.YtdmcmebfclikgaaDoorGenT
set_option linter.unusedSimpArgs false
set_option linter.unusedVariables false
set_option maxHeartbeats 4000000
set_option maxRecDepth 100000
namespace Go.Proofs.YtdmcmebfclikgaaDoor
open Go.Abs Go.IntWalk
attribute [local congr] bindV_weak condK_weak guardK_weak groupK_weak allocE_weak boxE_weak storeE_weak storeM_weak tabC_weak ite_weak idG_weak

def cellsK (r : KRow) : List Value := [.int .i64 r.kind, .string r.name, .string r.shape]
def KRow.nil : KRow := ⟨0, none0, none0⟩
def rowK (i : Nat) : List Value := cellsK (rowsT[i]?.getD .nil)
theorem bvK (a : Int) (b c : ByteArray) : buildV [.int .i64 0, .string ByteArray.empty, .string ByteArray.empty] (some [(0, 1, .int .i64 a), (1, 1, .string b), (2, 1, .string c)]) = some (.agg #[.int .i64 a, .string b, .string c]) := by simp [buildV, fillL]
def partsL : List KRow → Nat → List (Nat × Nat × Value)
  | [], _ => []
  | r :: l, i => (i * 3, 3, .agg #[.int .i64 r.kind, .string r.name, .string r.shape]) :: partsL l (i + 1)
theorem table_fill : fillL (partsL rowsT 0) (repL [.int .i64 0, .string ByteArray.empty, .string ByteArray.empty] 67) = some (rowsT.flatMap cellsK) := by kernel_rfl
def tableS : Abs.Spec := fun args h k => args = [] ∧ ∀ h' v, Chg h h' [] → SliceAt (h.next ≤ ·) h' v 67 3 rowK → k v h'
theorem tableS_good : SpecGood Tryd.prog (43, tableS) := by
  refine spec_good mixed Tryd.func43 (by kernel_rfl) (by kernel_rfl) (tab := []) (by simp) (keep := tiltyardref04_Table_keep) ?_
  rintro args h k ⟨rfl, H⟩
  refine ⟨0, ?_⟩
  show tiltyardref04_Table (tabC []) idG 0 h _
  generalize hK : (fun v h1 => ∃ h2, St.le h2 h1 ∧ k v h2 : Cont) = K
  have H : ∀ h' v, Chg h h' [] → SliceAt (h.next ≤ ·) h' v 67 3 rowK → K v h' := by subst hK; exact fun h' v c s => ⟨_, St.le.refl _, H h' v c s⟩
  clear hK
  rw [tiltyardref04_Table_eq]
  simp only [bvK, bindV_some]
  have e : ∀ p, p = partsL rowsT 0 → buildSliceE 3 67 [.int .i64 0, .string ByteArray.empty, .string ByteArray.empty] p h (fun v h1 => K v h1) := by
    rintro p rfl
    unfold buildSliceE
    rw [table_fill]
    refine ⟨by kernel_rfl, by kernel_rfl, ?_⟩
    refine H _ _ (Chg.push _ _) ?_
    have o : OwnS (h.next ≤ ·) (h.push (.cells (rowsT.flatMap cellsK) true)) (.slice (some ⟨h.next, 0, some 3⟩) 67 0) 3 (rowsT.flatMap cellsK) 67 :=
      .inr ⟨h.next, rfl, Nat.le_refl _, by simp, push_at _ _, by kernel_rfl⟩
    have := OwnS.slice (L := rowsT) (f := cellsK) (row := rowK) (h := h.push (.cells (rowsT.flatMap cellsK) true)) o (fun _ _ => rfl) (fun i x hx => by simp [rowK, hx])
    exact this
  exact e _ (by kernel_rfl)

/-! ### a kind found -/
def rowRes (r : Option KRow) : KRow × Bool := match r with | some r => (r, true) | none => (KRow.nil, false)
def findS : Abs.Spec := fun args h k => ∃ x : Int, args = [.int .i64 x] ∧ ∀ h', Chg h h' [] → k (.tuple #[.agg #[.int .i64 (rowRes (findZ x)).1.kind, .string (rowRes (findZ x)).1.name, .string (rowRes (findZ x)).1.shape], .bool (rowRes (findZ x)).2]) h'
theorem find_step {α : Type} {p : α → Bool} {l : List α} {i : Nat} (hi : i < l.length) : (l.drop i).find? p = if p l[i] = true then some l[i] else (l.drop (i + 1)).find? p := by
  rw [List.drop_eq_getElem_cons hi, List.find?_cons]
  cases p l[i] <;> rfl
theorem rowsT_len : rowsT.length = 67 := rfl
theorem rowK_at {i : Nat} (h : i < rowsT.length) : rowK i = cellsK rowsT[i] := by simp [rowK, h]
theorem find_l0 {B : Nat → Prop} {x : Int} {x3 v : Value} {p2 nn : Nat} {h : St} {K : Cont} {cs2 : List Value} (o2 : h.objs p2 = some (.cells cs2 true)) (hc : cs2.length = 3) (sl : SliceAt B h v 67 3 rowK)
    (H : ∀ h', Chg h h' [p2] → K (.tuple #[.agg #[.int .i64 (rowRes (findZ x)).1.kind, .string (rowRes (findZ x)).1.name, .string (rowRes (findZ x)).1.shape], .bool (rowRes (findZ x)).2]) h') :
    ∀ (d i m0 : Nat), i + d = 67 → d < m0 → (rowsT.drop i).find? (fun r => r.kind == x) = findZ x → tiltyardref04_Find_l0 (tabC [(43, tableS)]) idG nn m0 (.int .i64 x) (.pointer (some ⟨p2, 0, none⟩)) x3 v (.int .i64 i) h K := by
  intro d
  induction d with
  | zero =>
    intro i m0 hi hm hf
    obtain ⟨m0, rfl⟩ : ∃ m, m0 = m + 1 := ⟨m0 - 1, by omega⟩
    rw [tiltyardref04_Find_l0_eq]
    have e : i = 67 := by omega
    subst e
    have hn : findZ x = none := by rw [← hf]; rfl
    rw [hn] at H
    have c : ¬ ((67 : Nat) : Int) < ((67 : Nat) : Int) := by omega
    simp [sl.len]
    rw [tiltyardref04_Find_j1_eq]
    simp [o2, hc, buildV, fillL]
    exact H _ (Chg.set _ (by simp))
  | succ d ih =>
    intro i m0 hi hm hf
    obtain ⟨m0, rfl⟩ : ∃ m, m0 = m + 1 := ⟨m0 - 1, by omega⟩
    rw [tiltyardref04_Find_l0_eq]
    have hlt : (i : Int) < (67 : Nat) := by omega
    have hi' : i < rowsT.length := by rw [rowsT_len]; omega
    have inc : IntKind.i64.wrap ((i : Int) + 1) = ((i + 1 : Nat) : Int) := by rw [i64_in _ (by omega)]; omega
    obtain ⟨b, o, g1, g2, g3, cs, own, g4, g5⟩ := sl.idx (Int.natCast_nonneg i) hlt .i64
    rw [Int.toNat_natCast, rowK_at hi'] at g5
    have g6 := takeN_get g5 (j := 0) (by omega)
    simp only [cellsK, Nat.add_zero, List.getElem?_cons_zero] at g6
    rw [find_step hi'] at hf
    by_cases c : rowsT[i].kind = x
    · rw [if_pos (by simp [c])] at hf
      rw [← hf] at H
      simp only [sl.len, bindV_some, binV_lss, hlt, decide_true, condK_bool, if_true, idG_eq, g1, offV_ptr, Nat.add_zero, loadV_ptr, g4, loadM_cells, partV_one, g6, binV_eql, c, partV_agg, g5, Option.map_some, storeE_ptr, o2, storeM_cells, cells_agg]
      refine ⟨⟨rfl, by omega, rfl⟩, ?_⟩
      simp [hc, cellsK]
      exact H _ (Chg.set _ (by simp))
    · rw [if_neg (by simp [c])] at hf
      simp only [sl.len, bindV_some, binV_lss, hlt, decide_true, condK_bool, if_true, idG_eq, g1, offV_ptr, Nat.add_zero, loadV_ptr, g4, loadM_cells, partV_one, g6, binV_eql, c, decide_false, Bool.false_eq_true, if_false, binNil_int, binV_add, inc]
      exact ih (i + 1) m0 (by omega) (by omega) hf
theorem findS_good : SpecGood Tryd.prog (26, findS) := by
  refine spec_good mixed Tryd.func26 (by kernel_rfl) (by kernel_rfl) (tab := [(43, tableS)]) (by simpa using tableS_good) (keep := tiltyardref04_Find_keep) ?_
  rintro args h k ⟨x, rfl, H⟩
  refine ⟨68, ?_⟩
  show tiltyardref04_Find (tabC [(43, tableS)]) idG 68 (.int .i64 x) h _
  rw [tiltyardref04_Find_eq]
  simp only [allocE_some]
  have c1 := Chg.push (h := h) (.cells [.int .i64 0, .string ByteArray.empty, .string ByteArray.empty] true) []
  refine .inl ⟨rfl, rfl, fun h2 v c2 sl => ?_⟩
  have o2 := c2.at (by simp) (by simp) (push_at h (.cells [.int .i64 0, .string ByteArray.empty, .string ByteArray.empty] true))
  exact find_l0 o2 rfl sl (fun h' c => ⟨_, St.le.refl _, H h' ((c1.of_chg c2 (by simp)).of_chg c (by simp))⟩) 67 0 68 (by omega) (by omega) rfl
def namedZ (n : ByteArray) : Int × Bool := match findName n with | some r => (r.kind, true) | none => (0, false)
def namedS : Abs.Spec := fun args h k => ∃ n : ByteArray, args = [.string n] ∧ ∀ h', Chg h h' [] → k (.tuple #[.int .i64 (namedZ n).1, .bool (namedZ n).2]) h'
theorem named_l0 {B : Nat → Prop} {x : ByteArray} {x2 x3 v : Value} {nn : Nat} {h : St} {K : Cont} (sl : SliceAt B h v 67 3 rowK) (H : K (.tuple #[.int .i64 (namedZ x).1, .bool (namedZ x).2]) h) :
    ∀ (d i m0 : Nat), i + d = 67 → d < m0 → (rowsT.drop i).find? (fun r => decide (r.name = x)) = findName x → tiltyardref04_Named_l0 (tabC [(43, tableS)]) idG nn m0 (.string x) x2 x3 v (.int .i64 i) h K := by
  intro d
  induction d with
  | zero =>
    intro i m0 hi hm hf
    obtain ⟨m0, rfl⟩ : ∃ m, m0 = m + 1 := ⟨m0 - 1, by omega⟩
    rw [tiltyardref04_Named_l0_eq]
    have e : i = 67 := by omega
    subst e
    have hn : findName x = none := by rw [← hf]; rfl
    unfold namedZ at H
    rw [hn] at H
    simp [sl.len]
    rw [tiltyardref04_Named_j1_eq]
    exact H
  | succ d ih =>
    intro i m0 hi hm hf
    obtain ⟨m0, rfl⟩ : ∃ m, m0 = m + 1 := ⟨m0 - 1, by omega⟩
    rw [tiltyardref04_Named_l0_eq]
    have hlt : (i : Int) < (67 : Nat) := by omega
    have hi' : i < rowsT.length := by rw [rowsT_len]; omega
    have inc : IntKind.i64.wrap ((i : Int) + 1) = ((i + 1 : Nat) : Int) := by rw [i64_in _ (by omega)]; omega
    obtain ⟨b, o, g1, g2, g3, cs, own, g4, g5⟩ := sl.idx (Int.natCast_nonneg i) hlt .i64
    rw [Int.toNat_natCast, rowK_at hi'] at g5
    have g6 := takeN_get g5 (j := 0) (by omega)
    have g7 := takeN_get g5 (j := 1) (by omega)
    simp only [cellsK, Nat.add_zero, List.getElem?_cons_zero, List.getElem?_cons_succ] at g6 g7
    rw [find_step hi'] at hf
    by_cases c : rowsT[i].name = x
    · rw [if_pos (by simp [c])] at hf
      unfold namedZ at H
      rw [← hf] at H
      simp only [sl.len, bindV_some, binV_lss, hlt, decide_true, condK_bool, if_true, idG_eq, g1, offV_ptr, Nat.add_zero, loadV_ptr, g4, loadM_cells, partV_one, g6, g7, text_eql, c]
      exact H
    · rw [if_neg (by simp [c])] at hf
      simp only [sl.len, bindV_some, binV_lss, hlt, decide_true, condK_bool, if_true, idG_eq, g1, offV_ptr, Nat.add_zero, loadV_ptr, g4, loadM_cells, partV_one, g6, g7, text_eql, c, decide_false, Bool.false_eq_true, if_false, binNil_int, binV_add, inc]
      exact ih (i + 1) m0 (by omega) (by omega) hf
theorem namedS_good : SpecGood Tryd.prog (27, namedS) := by
  refine spec_good mixed Tryd.func27 (by kernel_rfl) (by kernel_rfl) (tab := [(43, tableS)]) (by simpa using tableS_good) (keep := tiltyardref04_Named_keep) ?_
  rintro args h k ⟨x, rfl, H⟩
  refine ⟨68, ?_⟩
  show tiltyardref04_Named (tabC [(43, tableS)]) idG 68 (.string x) h _
  rw [tiltyardref04_Named_eq]
  refine .inl ⟨rfl, rfl, fun h2 v c2 sl => ?_⟩
  exact named_l0 sl ⟨_, St.le.refl _, H _ c2⟩ 67 0 68 (by omega) (by omega) rfl
def refSideZ (x : Int) : Int := if (rowRes (findZ x)).2 = false then 0 else if x ≤ 27 then 1 else if x ≤ 111 then 2 else if x ≤ 165 then 3 else 4
def refSideS : Abs.Spec := fun args h k => ∃ x : Int, args = [.int .i64 x] ∧ ∀ h', Chg h h' [] → k (.int .i64 (refSideZ x)) h'
theorem refSideS_good : SpecGood Tryd.prog (29, refSideS) := by
  refine spec_good mixed Tryd.func29 (by kernel_rfl) (by kernel_rfl) (tab := [(26, findS)]) (by simpa using findS_good) (keep := tiltyardref04_Side_keep) ?_
  rintro args h k ⟨x, rfl, H⟩
  refine ⟨0, ?_⟩
  show tiltyardref04_Side (tabC [(26, findS)]) idG 0 (.int .i64 x) h _
  generalize hK : (fun v h1 => ∃ h2, St.le h2 h1 ∧ k v h2 : Cont) = K
  have H : ∀ h', Chg h h' [] → K (.int .i64 (refSideZ x)) h' := by subst hK; exact fun h' c => ⟨_, St.le.refl _, H h' c⟩
  clear hK
  rw [tiltyardref04_Side_eq]
  refine .inl ⟨rfl, x, rfl, fun h1 c1 => ?_⟩
  have cc : Chg h ((h1.push (.cells [.int .i64 0, .string ByteArray.empty, .string ByteArray.empty] true)).set h1.next (.cells [.int .i64 (rowRes (findZ x)).1.kind, .string (rowRes (findZ x)).1.name, .string (rowRes (findZ x)).1.shape] true)) [] := (c1.of_push).of_set (.inr c1.1)
  have H := H _ cc
  unfold refSideZ at H
  cases hb : (rowRes (findZ x)).2 with
  | false =>
    rw [if_pos hb] at H
    simp
    exact H
  | true =>
    rw [if_neg (by simp [hb])] at H
    by_cases c1 : x ≤ 27
    · rw [if_pos c1] at H; simp [c1]; exact H
    rw [if_neg c1] at H
    by_cases c2 : x ≤ 111
    · rw [if_pos c2] at H; simp [c1, c2]; exact H
    rw [if_neg c2] at H
    by_cases c3 : x ≤ 165
    · rw [if_pos c3] at H; simp [c1, c2, c3]; exact H
    rw [if_neg c3] at H
    simp [c1, c2, c3]; exact H
end Go.Proofs.YtdmcmebfclikgaaDoor

/- Messages: made, encoded, decoded. -/
set_option linter.unusedSimpArgs false
set_option linter.unusedVariables false
set_option maxHeartbeats 4000000
set_option maxRecDepth 100000
namespace Go.Proofs.YtdmcmebfclikgaaDoor
open Go.Abs Go.IntWalk
attribute [local congr] bindV_weak condK_weak guardK_weak groupK_weak allocE_weak boxE_weak storeE_weak storeM_weak tabC_weak ite_weak idG_weak

theorem newCells_one {α : Type} {B : Nat → Prop} {h : St} {v : Value} {l : List α} {row : Nat → List Value} {f : α → Value} (s : SliceAt B h v l.length 1 row) (hr : ∀ (i : Nat) (x : α), l[i]? = some x → row i = [f x]) : newCells 1 v h = some (l.map f, l.length) := by
  rcases s with ⟨rfl, hl⟩ | ⟨b, off, sp, c, rfl, _, hs⟩
  · have : l = [] := List.eq_nil_of_length_eq_zero hl
    subst this
    rfl
  · cases hn : l.length with
    | zero =>
      have : l = [] := List.eq_nil_of_length_eq_zero hn
      subst this
      rfl
    | succ n =>
      obtain ⟨_, _, cs, own, g3, g4⟩ := hs (by omega)
      have key := takeN_rows (cs := cs) (off := off) (n := n + 1) (x := fun i => (row i).headD undef) (fun i hi => by
        have h1 := g4 i (by omega)
        have hlt : i < l.length := by omega
        rw [hr i l[i] (List.getElem?_eq_getElem hlt)] at h1 ⊢
        rwa [Nat.mul_one] at h1) (by omega)
      have e : (List.range (n + 1)).map (fun i => (row i).headD undef) = l.map f := by
        rw [← hn]
        apply List.ext_getElem?
        intro j
        by_cases hj : j < l.length
        · simp [hj, hr j l[j] (List.getElem?_eq_getElem hj)]
        · simp [hj]
      rw [e] at key
      simp only [newCells, g3, Nat.mul_one, key, Option.map_some]
@[simp] theorem binNil_slice_nil : binNil .eql .slice (.slice none 0 0) (.slice none 0 0) = some (.bool true) := rfl
@[simp] theorem binNil_slice_eql (a : Addr) (n c : Nat) : binNil .eql .slice (.slice (some a) n c) (.slice none 0 0) = some (.bool false) := rfl
def qN (n : Nat) : Value := .int .u64 n
theorem rowQ_at (N : List Nat) (i x : Nat) (h : N[i]? = some x) : rowQ N i = [qN x] := by simp [rowQ, qN, h]
theorem allOne_map {α : Type} {f : α → Value} (hf : ∀ x, Abs.one (f x) = true) : ∀ l : List α, allOne (l.map f) = true
  | [] => rfl
  | x :: l => by simp [hf x, allOne_map hf l]
/-! ### slices.Clone -/
def cloneQS : Abs.Spec := fun args h k => ∃ (B : Nat → Prop) (v : Value) (N : List Nat), args = [v] ∧ N.length ≤ 1000000 ∧ SliceAt B h v N.length 1 (rowQ N) ∧ ∀ h' v', Chg h h' [] → SliceAt (h.next ≤ ·) h' v' N.length 1 (rowQ N) → k v' h'
theorem cloneQS_good : SpecGood Tryd.prog (36, cloneQS) := by
  refine spec_good mixed Tryd.func36 (by kernel_rfl) (by kernel_rfl) (tab := []) (by simp) (keep := CloneQ_keep) ?_
  rintro args h k ⟨B, v, N, rfl, hN, s, H⟩
  refine ⟨0, ?_⟩
  show CloneQ (tabC []) idG 0 v h _
  generalize hK : (fun v h1 => ∃ h2, St.le h2 h1 ∧ k v h2 : Cont) = K
  have H : ∀ h' v', Chg h h' [] → SliceAt (h.next ≤ ·) h' v' N.length 1 (rowQ N) → K v' h' := by subst hK; exact fun h' v' c s => ⟨_, St.le.refl _, H h' v' c s⟩
  clear hK
  rw [CloneQ_eq]
  rcases id s with ⟨rfl, hl⟩ | ⟨b, off, sp, c, rfl, hsp, hs⟩
  · simp
    exact H h _ (Chg.refl _ _) (.inl ⟨rfl, hl⟩)
  · simp [buildSliceE, fillL, repL]
    have c1 := Chg.push (h := h) (.cells [] true) []
    refine append_own' (B := (h.next ≤ ·)) (cs := []) (n := 0) (new := N.map qN) (m := N.length) (by simp) (.inr ⟨h.next, rfl, Nat.le_refl _, by simp, push_at _ _, rfl⟩) (newCells_one (s.chg c1 (by simp)) (rowQ_at N)) (by simp) (allOne_map (fun _ => rfl) _) (by omega) (by omega) fun h' v' c o => ?_
    refine H h' v' (((c1.toP (D := (h.next ≤ ·)) (by simp)).step c).list (by intro i hi hh; omega)) ?_
    have o' : OwnS (h.next ≤ ·) h' v' 1 (N.flatMap fun n => [qN n]) N.length := by rw [← List.map_eq_flatMap]; simpa using o
    exact o'.slice (fun _ _ => rfl) (rowQ_at N)
/-! ### Make -/
def makeS : Abs.Spec := fun args h k => ∃ (B : Nat → Prop) (x : Int) (v : Value) (N : List Nat), args = [.int .i64 x, v] ∧ N.length ≤ 1000000 ∧ SliceAt B h v N.length 1 (rowQ N) ∧ ∀ h' v', Chg h h' [] → SliceAt (h.next ≤ ·) h' v' N.length 1 (rowQ N) → k (.agg #[.int .i64 x, v', .slice none 0 0, .slice none 0 0]) h'
theorem bvM3 (a b c : Value) (ha : a.cells = #[a]) (hb : b.cells = #[b]) (hc : c.cells = #[c]) (ka : isUnk a = false) (kb : isUnk b = false) (kc : isUnk c = false) :
    buildV [.slice none 0 0, .slice none 0 0, .slice none 0 0] (some [(0, 1, a), (1, 1, b), (2, 1, c)]) = some (.agg #[a, b, c]) := by simp [buildV, fillL, ha, hb, hc, ka, kb, kc]
theorem bvM1 (a : Value) (ha : a.cells = #[a]) (ka : isUnk a = false) :
    buildV [.slice none 0 0, .slice none 0 0, .slice none 0 0] (some [(0, 1, a)]) = some (.agg #[a, .slice none 0 0, .slice none 0 0]) := by simp [buildV, fillL, ha, ka]
theorem bvM4 (x : Int) (a b c : Value) :
    buildV [.int .i64 0, .slice none 0 0, .slice none 0 0, .slice none 0 0] (some [(0, 1, .int .i64 x), (1, 3, .agg #[a, b, c])]) = some (.agg #[.int .i64 x, a, b, c]) := by simp [buildV, fillL]
theorem makeS_good : SpecGood Tryd.prog (19, makeS) := by
  refine spec_good mixed Tryd.func19 (by kernel_rfl) (by kernel_rfl) (tab := [(36, cloneQS)]) (by simpa using cloneQS_good) (keep := verb_Make_keep) ?_
  rintro args h k ⟨B, x, v, N, rfl, hN, s, H⟩
  refine ⟨0, ?_⟩
  show verb_Make (tabC [(36, cloneQS)]) idG 0 (.int .i64 x) v h _
  generalize hK : (fun v h1 => ∃ h2, St.le h2 h1 ∧ k v h2 : Cont) = K
  have H : ∀ h' v', Chg h h' [] → SliceAt (h.next ≤ ·) h' v' N.length 1 (rowQ N) → K (.agg #[.int .i64 x, v', .slice none 0 0, .slice none 0 0]) h' := by subst hK; exact fun h' v' c s => ⟨_, St.le.refl _, H h' v' c s⟩
  clear hK
  rw [verb_Make_eq]
  simp only [allocE_some]
  have c1 := Chg.push (h := h) (.cells [.int .i64 0, .slice none 0 0, .slice none 0 0, .slice none 0 0] true) []
  refine .inl ⟨rfl, B, v, N, rfl, hN, s.chg c1 (by simp), fun h2 v2 c2 s2 => ?_⟩
  have o1 := c2.at (by simp) (by simp) (push_at h (.cells [.int .i64 0, .slice none 0 0, .slice none 0 0, .slice none 0 0] true))
  simp [bvM1 v2 s2.cells1 s2.isUnk, bvM4, o1, s2.one]
  have s3 : SliceAt (fun i => h.next + 1 ≤ i) h2 v2 N.length 1 (rowQ N) := s2
  refine H _ _ ((c1.of_chg c2 (by simp)).of_set (.inr (Nat.le_refl _))) ?_
  exact (s3.chgP (D := (· = h.next)) ((Chg.set (S := [h.next]) _ (by simp)).toP (by simp)) (by rintro i rfl h; omega)).imp fun i _ (hh : h.next + 1 ≤ i) => by omega
/-! ### slices.Concat, of bytes -/
def growBS : Abs.Spec := fun args h k => ∃ n : Nat, args = [.slice none 0 0, .int .i64 n] ∧ n ≤ 1000000 ∧ ∀ h' v', Chg h h' [] → OwnS (h.next ≤ ·) h' v' 1 [] 0 → k v' h'
theorem growBS_good : SpecGood Tryd.prog (48, growBS) := by
  refine spec_good mixed Tryd.func48 (by kernel_rfl) (by kernel_rfl) (tab := []) (by simp) (keep := GrowB_keep) ?_
  rintro args h k ⟨n, rfl, hn, H⟩
  refine ⟨0, ?_⟩
  show GrowB (tabC []) idG 0 (.slice none 0 0) (.int .i64 n) h _
  generalize hK : (fun v h1 => ∃ h2, St.le h2 h1 ∧ k v h2 : Cont) = K
  have H : ∀ h' v', Chg h h' [] → OwnS (h.next ≤ ·) h' v' 1 [] 0 → K v' h' := by subst hK; exact fun h' v' c s => ⟨_, St.le.refl _, H h' v' c s⟩
  clear hK
  have w : IntKind.i64.wrap (n : Int) = n := i64_in _ (by omega)
  have c0 : ¬ (n : Int) < 0 := by omega
  rw [GrowB_eq]
  simp [c0]
  rw [GrowB_j0_eq]
  by_cases c1 : n = 0
  · subst c1
    simp
    rw [GrowB_j1_eq]
    exact H h _ (Chg.refl _ _) (.inl ⟨rfl, rfl, rfl⟩)
  · have c2 : 0 < (n : Int) := by omega
    have w0 : IntKind.i64.wrap 0 = 0 := by decide
    have e1 : cutS 1 (.slice none 0 0) none (some (.int .i64 0)) = some (.slice none 0 0) := rfl
    have c3 : 0 < n := by omega
    simp [w0, w, c2, c3, e1, appendZ]
    refine ⟨by omega, ?_⟩
    have e2 : cutS 1 (.slice (some ⟨h.next, 0, some 1⟩) n 0) none (some (.int .i64 0)) = some (.slice (some ⟨h.next, 0, some 1⟩) 0 0) := by simp [cutS, loHi]
    simp [e2]
    rw [GrowB_j1_eq]
    exact H _ _ (Chg.push _ _) (.inr ⟨h.next, rfl, Nat.le_refl _, by simp, push_at _ _, rfl⟩)
def concatBS : Abs.Spec := fun args h k => ∃ (B : Nat → Prop) (v : Value) (ws : Nat → Value) (ls : List (List Nat)), args = [v] ∧ ls.length ≤ 1000 ∧ ls.flatten.length ≤ 1000000 ∧ SliceAt B h v ls.length 1 (fun i => [ws i]) ∧ (∀ (i : Nat) (l : List Nat), ls[i]? = some l → SliceAt B h (ws i) l.length 1 (rowC l)) ∧
  ∀ h' v', Chg h h' [] → OwnS (h.next ≤ ·) h' v' 1 (ls.flatten.map bc) ls.flatten.length → k v' h'
theorem take_flat (ls : List (List Nat)) {i : Nat} (hi : i < ls.length) : (ls.take (i + 1)).flatten = (ls.take i).flatten ++ ls[i] := by
  rw [List.take_add_one, List.getElem?_eq_getElem hi, List.flatten_append]
  simp only [Option.toList_some, List.flatten_singleton]
theorem take_flat_le (ls : List (List Nat)) (i : Nat) : (ls.take i).flatten.length ≤ ls.flatten.length := by
  have : ls.flatten = (ls.take i).flatten ++ (ls.drop i).flatten := by rw [← List.flatten_append, List.take_append_drop]
  rw [this, List.length_append]; omega
theorem concat_l0 {B : Nat → Prop} {v x0 x2 x6 x25 x26 x27 : Value} {ws : Nat → Value} {ls : List (List Nat)} {nn : Nat} {h : St} {K : Cont} (hl : ls.length ≤ 1000) (hf : ls.flatten.length ≤ 1000000) (s : SliceAt B h v ls.length 1 (fun i => [ws i])) (ss : ∀ (i : Nat) (l : List Nat), ls[i]? = some l → SliceAt B h (ws i) l.length 1 (rowC l)) :
    ∀ (d i m0 : Nat), i + d = ls.length → d < m0 → ConcatB_j2 (tabC [(48, growBS)]) idG nn x0 x2 (.int .i64 ls.flatten.length) x6 v (.int .i64 ls.length) (.int .i64 ls.length) x25 x26 x27 h K →
      ConcatB_l0 (tabC [(48, growBS)]) idG nn m0 x0 x2 (.int .i64 (ls.take i).flatten.length) x6 v (.int .i64 ls.length) (.int .i64 i) x25 x26 x27 h K := by
  intro d
  induction d with
  | zero =>
    intro i m0 hi hm H
    obtain ⟨m0, rfl⟩ : ∃ m, m0 = m + 1 := ⟨m0 - 1, by omega⟩
    rw [ConcatB_l0_eq]
    have e : i = ls.length := by omega
    subst e
    rw [List.take_length]
    simpa using H
  | succ d ih =>
    intro i m0 hi hm H
    obtain ⟨m0, rfl⟩ : ∃ m, m0 = m + 1 := ⟨m0 - 1, by omega⟩
    rw [ConcatB_l0_eq]
    have hlt : (i : Int) < ls.length := by omega
    have hi' : i < ls.length := by omega
    have inc : IntKind.i64.wrap ((i : Int) + 1) = ((i + 1 : Nat) : Int) := by rw [i64_in _ (by omega)]; omega
    obtain ⟨b, o, g1, g2, g3, cs, own, g4, g5⟩ := s.idx (Int.natCast_nonneg i) hlt .i64
    have g6 := takeN_get g5 (j := 0) (by omega)
    simp only [Nat.add_zero, List.getElem?_cons_zero, Int.toNat_natCast] at g6
    have sw := ss i ls[i] (List.getElem?_eq_getElem hi')
    have tl := take_flat_le ls (i + 1)
    have te := take_flat ls hi'
    have tsum : ((ls.take i).flatten.length : Int) + (ls[i].length : Int) = ((ls.take (i + 1)).flatten.length : Int) := by rw [te, List.length_append]; omega
    have w : IntKind.i64.wrap (((ls.take i).flatten.length : Int) + (ls[i].length : Int)) = ((ls.take (i + 1)).flatten.length : Int) := by rw [tsum, i64_in _ (by omega)]
    have nn0 : ¬ ((ls.take (i + 1)).flatten.length : Int) < 0 := by omega
    simp only [bindV_some, binV_lss, hlt, decide_true, condK_bool, if_true, idG_eq, g1, loadV_ptr, g4, loadM_cells, partV_one, g6, sw.len, binV_add, w, binNil_int, nn0, decide_false, Bool.false_eq_true, if_false]
    rw [ConcatB_j1_eq]
    simp only [binNil_int, binV_add, bindV_some, inc, idG_eq]
    exact ih (i + 1) m0 (by omega) (by omega) H
theorem concat_l3 {B : Nat → Prop} {v x0 x2 x3 x9 x10 x11 : Value} {ws : Nat → Value} {ls : List (List Nat)} {nn : Nat} {h0 : St} {K : Cont} (hB : ∀ i, B i → i < h0.next) (hl : ls.length ≤ 1000) (hf : ls.flatten.length ≤ 1000000) (s : SliceAt B h0 v ls.length 1 (fun i => [ws i])) (ss : ∀ (i : Nat) (l : List Nat), ls[i]? = some l → SliceAt B h0 (ws i) l.length 1 (rowC l))
    (H : ∀ h' v', Chg h0 h' [] → OwnS (h0.next ≤ ·) h' v' 1 (ls.flatten.map bc) ls.flatten.length → K v' h') :
    ∀ (d i m0 : Nat) (h : St) (x6 : Value), i + d = ls.length → d < m0 → Chg h0 h [] → OwnS (h0.next ≤ ·) h x6 1 ((ls.take i).flatten.map bc) (ls.take i).flatten.length →
      ConcatB_l3 (tabC [(48, growBS)]) idG nn m0 x0 x2 x3 x6 x9 x10 x11 v (.int .i64 ls.length) (.int .i64 i) h K := by
  intro d
  induction d with
  | zero =>
    intro i m0 h x6 hi hm c o
    obtain ⟨m0, rfl⟩ : ∃ m, m0 = m + 1 := ⟨m0 - 1, by omega⟩
    rw [ConcatB_l3_eq]
    have e : i = ls.length := by omega
    subst e
    rw [List.take_length] at o
    simp
    rw [ConcatB_j4_eq]
    exact H h x6 c o
  | succ d ih =>
    intro i m0 h x6 hi hm c o
    obtain ⟨m0, rfl⟩ : ∃ m, m0 = m + 1 := ⟨m0 - 1, by omega⟩
    rw [ConcatB_l3_eq]
    have hlt : (i : Int) < ls.length := by omega
    have hi' : i < ls.length := by omega
    have inc : IntKind.i64.wrap ((i : Int) + 1) = ((i + 1 : Nat) : Int) := by rw [i64_in _ (by omega)]; omega
    have sh := s.chg c (by simp)
    obtain ⟨b, oo, g1, g2, g3, cs, own, g4, g5⟩ := sh.idx (Int.natCast_nonneg i) hlt .i64
    have g6 := takeN_get g5 (j := 0) (by omega)
    simp only [Nat.add_zero, List.getElem?_cons_zero, Int.toNat_natCast] at g6
    have sw := (ss i ls[i] (List.getElem?_eq_getElem hi')).chg c (by simp)
    have tl := take_flat_le ls (i + 1)
    have te := take_flat ls hi'
    have tn : (ls.take (i + 1)).flatten.length = (ls.take i).flatten.length + ls[i].length := by rw [te, List.length_append]
    simp only [bindV_some, binV_lss, hlt, decide_true, condK_bool, if_true, idG_eq, g1, loadV_ptr, g4, loadM_cells, partV_one, g6]
    refine append_own' (B := (h0.next ≤ ·)) (new := ls[i].map bc) (m := ls[i].length) c.1 o (newCells_bytes sw) (by simp) (one_bc _) (by omega) (by omega) fun h' v' c' o' => ?_
    simp only [bindV_some, binNil_int, binV_add, inc, idG_eq]
    refine ih (i + 1) m0 h' v' (by omega) (by omega) (((c.toP (D := (h0.next ≤ ·)) (by simp)).step c').list (by intro i hi hh; omega)) ?_
    rw [te, List.map_append, List.length_append]
    exact o'
theorem concatBS_good : SpecGood Tryd.prog (31, concatBS) := by
  refine spec_good mixed Tryd.func31 (by kernel_rfl) (by kernel_rfl) (tab := [(48, growBS)]) (by simpa using growBS_good) (keep := ConcatB_keep) ?_
  rintro args h k ⟨B, v, ws, ls, rfl, hl, hf, s, ss, H⟩
  refine ⟨1001, ?_⟩
  show ConcatB (tabC [(48, growBS)]) idG 1001 v h _
  generalize hK : (fun v h1 => ∃ h2, St.le h2 h1 ∧ k v h2 : Cont) = K
  have H : ∀ h' v', Chg h h' [] → OwnS (h.next ≤ ·) h' v' 1 (ls.flatten.map bc) ls.flatten.length → K v' h' := by subst hK; exact fun h' v' c s => ⟨_, St.le.refl _, H h' v' c s⟩
  clear hK
  have s' : SliceAt (fun i => B i ∧ i < h.next) h v ls.length 1 (fun i => [ws i]) := s.imp fun i a b => ⟨b, a⟩
  have ss' : ∀ (i : Nat) (l : List Nat), ls[i]? = some l → SliceAt (fun i => B i ∧ i < h.next) h (ws i) l.length 1 (rowC l) := fun i l hil => (ss i l hil).imp fun i a b => ⟨b, a⟩
  rw [ConcatB_eq]
  simp only [s.len, bindV_some, idG_eq]
  refine concat_l0 hl hf s ss ls.length 0 1001 (by omega) (by omega) ?_
  rw [ConcatB_j2_eq]
  refine .inl ⟨rfl, _, rfl, hf, fun h2 v2 c2 o2 => ?_⟩
  simp only [s.len, bindV_some, idG_eq]
  have o2' : OwnS (h.next ≤ ·) h2 v2 1 ((ls.take 0).flatten.map bc) (ls.take 0).flatten.length := by simpa using o2
  refine concat_l3 (h0 := h) (fun i hi => hi.2) hl hf s' ss' H ls.length 0 1001 h2 v2 (by omega) (by omega) c2 o2'
end Go.Proofs.YtdmcmebfclikgaaDoor

/- Messages: encoded, decoded. -/
set_option linter.unusedSimpArgs false
set_option linter.unusedVariables false
set_option maxHeartbeats 4000000
set_option maxRecDepth 100000
namespace Go.Proofs.YtdmcmebfclikgaaDoor
open Go.Abs Go.IntWalk
attribute [local congr] bindV_weak condK_weak guardK_weak groupK_weak allocE_weak boxE_weak storeE_weak storeM_weak tabC_weak ite_weak idG_weak

theorem FieldsAt.imp {V V' : Nat → Prop} {h : St} {vN vS vL : Value} {lv : Nat → Value} {N : List Nat} {S : List ByteArray} {L : List (List Nat)} (f : FieldsAt V h vN vS vL lv N S L) (hV : ∀ i, i < h.next → V i → V' i) : FieldsAt V' h vN vS vL lv N S L :=
  ⟨f.1.imp hV, f.2.1.imp hV, f.2.2.1.imp hV, fun i l hl => (f.2.2.2 i l hl).imp hV⟩
theorem FieldsAt.chg {V : Nat → Prop} {h h' : St} {vN vS vL : Value} {lv : Nat → Value} {N : List Nat} {S : List ByteArray} {L : List (List Nat)} {X : List Nat} (f : FieldsAt V h vN vS vL lv N S L) (c : Chg h h' X) (hX : ∀ i ∈ X, ¬ V i) : FieldsAt V h' vN vS vL lv N S L :=
  f.chgP (D := (· ∈ X)) (c.toP fun _ h => h) hX
theorem isKind_range {x : Int} (h : isKind (knownZ x) = true) : 1 ≤ x ∧ x < 200 := by
  rcases Int.lt_or_le x 1 with h1 | h1
  · have : knownZ x = none0 := by
      unfold knownZ
      rw [if_neg (by omega), if_neg (by omega), if_neg (by omega), if_neg (by omega), if_neg (by omega)]
    rw [this] at h
    exact absurd h (by decide)
  · refine ⟨h1, ?_⟩
    rcases Int.lt_or_le x 200 with h2 | h2
    · exact h2
    · have : knownZ x = none0 := by
        unfold knownZ
        rw [if_neg (by omega), if_neg (by omega), if_neg (by omega), if_neg (by omega), if_neg (by omega)]
      rw [this] at h
      exact absurd h (by decide)
theorem shape_size (x : Int) : (shapeOf (knownZ x)).size ≤ 1000 := by
  have := known_size x
  unfold shapeOf
  split
  · simp; omega
  · decide
def shZ (x : Int) : List Nat := letters (shapeOf (knownZ x))
def encZ (x : Int) (N : List Nat) (S : List ByteArray) (L : List (List Nat)) : Nat × List Nat :=
  if isKind (knownZ x) = true then (if (writeZ (shZ x) N S L).1 ≠ 0 then ((writeZ (shZ x) N S L).1, []) else (0, x.toNat :: (writeZ (shZ x) N S L).2)) else (5, [])
def tabE : List (FuncId × Abs.Spec) := [(24, shapeS), (30, writeS), (31, concatBS)]
theorem writeS_good : SpecGood Tryd.prog (30, writeS) := ⟨writeS_ok, writeS_live⟩
theorem tabE_good : ∀ p ∈ tabE, SpecGood Tryd.prog p := by simp [tabE, shapeS_good, writeS_good, concatBS_good]
def encodeS : Abs.Spec := fun args h k => ∃ (x : Int) (vN vS vL : Value) (lv : Nat → Value) (N : List Nat) (S : List ByteArray) (L : List (List Nat)), args = [.agg #[.int .i64 x, vN, vS, vL]] ∧ Glob h ∧ SmallF N S L ∧ FieldsAt (· < h.next) h vN vS vL lv N S L ∧
  ∀ h' v', Chg h h' [] → OwnS (h.next ≤ ·) h' v' 1 ((encZ x N S L).2.map bc) (encZ x N S L).2.length → k (.tuple #[v', .int .i64 (encZ x N S L).1]) h'
theorem encodeS_good : SpecGood Tryd.prog (11, encodeS) := by
  refine spec_good mixed Tryd.func11 (by kernel_rfl) (by kernel_rfl) tabE_good (keep := verb_Encode_keep) ?_
  rintro args h k ⟨x, vN, vS, vL, lv, N, S, L, rfl, g, SF, F, H⟩
  refine ⟨0, ?_⟩
  show verb_Encode (tabC tabE) idG 0 (.agg #[.int .i64 x, vN, vS, vL]) h _
  generalize hK : (fun v h1 => ∃ h2, St.le h2 h1 ∧ k v h2 : Cont) = K
  have H : ∀ h' v', Chg h h' [] → OwnS (h.next ≤ ·) h' v' 1 ((encZ x N S L).2.map bc) (encZ x N S L).2.length → K (.tuple #[v', .int .i64 (encZ x N S L).1]) h' := by subst hK; exact fun h' v' c s => ⟨_, St.le.refl _, H h' v' c s⟩
  clear hK
  rw [verb_Encode_eq]
  simp only [boxE_eq, cells_agg]
  refine ⟨by simp [F.1.one, F.2.1.one, F.2.2.1.one], ?_⟩
  obtain ⟨h1, hh1⟩ : ∃ z, z = h.push (.cells [.int .i64 x, vN, vS, vL] true) := ⟨_, rfl⟩
  have e1 : h.push (.cells (#[Value.int .i64 x, vN, vS, vL] : Array Value).toList true) = h1 := by rw [hh1]
  rw [e1]
  have c1 : Chg h h1 [] := by rw [hh1]; exact Chg.push _ _
  have n1 : h1.next = h.next + 1 := by rw [hh1]; rfl
  have o1 : h1.objs h.next = some (.cells [.int .i64 x, vN, vS, vL] true) := by rw [hh1]; exact push_at _ _
  simp only [offV_ptr, bindV_some, loadV_ptr, o1, loadM_cells, partV_one, Nat.add_zero, List.getElem?_cons_zero]
  refine .inl ⟨rfl, x, rfl, g.chg c1 (by simp), ?_⟩
  unfold encZ at H
  by_cases hk : isKind (knownZ x) = true
  · rw [if_pos hk] at H
    obtain ⟨r1, r2⟩ := isKind_range hk
    have lv4 : takeN [Value.int .i64 x, vN, vS, vL] (0 + 1) 3 = some [vN, vS, vL] := rfl
    simp only [extV_two0, extV_two1, bindV_some, hk, unV_not, Bool.not_true, condK_bool, Bool.false_eq_true, if_false, idG_eq, loadV_ptr, o1, loadM_cells, partV_agg, Nat.zero_add, lv4, Option.map_some, offV_ptr]
    refine .inr (.inl ⟨rfl, shapeOf (knownZ x), vN, vS, vL, lv, N, S, L, rfl, shape_size x, SF, (F.chg c1 (by simp)).imp fun i a b => by omega, fun h2 v2 c2 o2 => ?_⟩)
    have n2 := c2.1
    have b1 := c2.at (by omega) (by simp) o1
    simp only [extV_two0, extV_two1, bindV_some, binNil_int, binV_neq]
    have esh : letters (shapeOf (knownZ x)) = shZ x := rfl
    rw [esh] at o2 ⊢
    by_cases hw : (writeZ (shZ x) N S L).1 = 0
    · rw [if_neg (by simp [hw])] at H
      obtain ⟨q1, q2, q3, q4⟩ := write_back SF hw
      have wx : IntKind.u8.wrap x = x := by simp only [IntKind.wrap, IntKind.bits, IntKind.signed]; simp; omega
      have tx : ((x.toNat : Nat) : Int) = x := by omega
      simp [hw, b1, wx, buildSliceE, fillL, repL, allOne_eq, o2.one, o2.isUnk, o2.cells1]
      have sl2 := own_bytes o2
      obtain ⟨h4, hh4⟩ : ∃ z, z = (h2.push (.cells [.int .u8 x] true)).push (.cells [.slice (some ⟨h2.next, 0, some 1⟩) 1 0, v2] true) := ⟨_, rfl⟩
      rw [← hh4]
      have c3 : Chg h2 (h2.push (.cells [.int .u8 x] true)) [] := Chg.push _ _
      have c4 : Chg h2 h4 [] := by rw [hh4]; exact c3.of_push
      have p4 : h4.objs h2.next = some (.cells [.int .u8 x] true) := by rw [hh4, push_ne (by simp)]; exact push_at _ _
      have p5 : h4.objs (h2.next + 1) = some (.cells [.slice (some ⟨h2.next, 0, some 1⟩) 1 0, v2] true) := by rw [hh4]; exact push_at (h2.push _) _
      have n4 : h4.next = h2.next + 1 + 1 := by rw [hh4]; rfl
      refine .inr (.inr (.inl ⟨rfl, fun i => i < h4.next, .slice (some ⟨h2.next + 1, 0, some 1⟩) 2 0, fun i => if i = 0 then .slice (some ⟨h2.next, 0, some 1⟩) 1 0 else v2, [[x.toNat], (writeZ (shZ x) N S L).2], rfl, by simp, by simp; omega, ?_, ?_, fun h5 v5 c5 o5 => ?_⟩))
      · refine .inr ⟨h2.next + 1, 0, some 1, 0, rfl, .inr rfl, fun _ => ⟨by omega, by omega, _, _, p5, fun i hi => ?_⟩⟩
        match i, hi with
        | 0, _ => rfl
        | 1, _ => rfl
      · intro i l hl
        match i, hl with
        | 0, hl =>
          simp at hl
          subst hl
          refine .inr ⟨h2.next, 0, some 1, 0, rfl, .inr rfl, fun _ => ⟨by omega, by omega, _, _, p4, fun j hj => ?_⟩⟩
          have : j = 0 := by simpa using hj
          subst this
          simp [rowC, bc, tx]
        | 1, hl =>
          simp at hl
          subst hl
          exact (sl2.chg c4 (by simp)).imp fun i a _ => a
      · simp only [bindV_some]
        have cc : Chg h h5 [] := ((c1.of_chg c2 (by simp)).of_chg c4 (by simp)).of_chg c5 (by simp)
        refine H h5 v5 cc ?_
        have := o5.imp (B' := (h.next ≤ ·)) fun i _ hh => by omega
        simpa using this
    · rw [if_pos hw] at H
      have we := write_err hw
      have hw' : ¬ ((writeZ (shZ x) N S L).1 : Int) = 0 := by omega
      simp only [hw', ne_eq, not_false_eq_true, decide_true, condK_bool, if_true]
      exact H h2 _ (c1.of_chg c2 (by simp)) (.inl ⟨rfl, rfl, rfl⟩)
  · rw [if_neg hk] at H
    rw [Bool.not_eq_true] at hk
    simp only [extV_two0, extV_two1, bindV_some, hk, unV_not, Bool.not_false, condK_bool, if_true]
    exact H h1 _ c1 (.inl ⟨rfl, rfl, rfl⟩)

/-! ### Decode -/
def decZ : List Nat → Nat × Int × RSt
  | [] => (3, 0, noSt)
  | c :: r => if isKind (knownZ c) = true then (if (readZ (shZ c) r).1 ≠ 0 then ((readZ (shZ c) r).1, 0, noSt) else (0, (c : Int), (readZ (shZ c) r).2)) else (5, 0, noSt)
def tabG : List (FuncId × Abs.Spec) := [(24, shapeS), (33, readS)]
theorem tabG_good : ∀ p ∈ tabG, SpecGood Tryd.prog p := by simp [tabG, shapeS_good, readS_good]
def decodeS : Abs.Spec := fun args h k => ∃ (V : Nat → Prop) (v : Value) (b : List Nat), args = [v] ∧ Glob h ∧ b.length ≤ 100000 ∧ (∀ x ∈ b, x < 256) ∧ SliceAt V h v b.length 1 (rowC b) ∧
  ∀ h' vN vS vL lv, Chg h h' [] → FieldsAt (h.next ≤ ·) h' vN vS vL lv (decZ b).2.2.N (decZ b).2.2.S (decZ b).2.2.L → k (.tuple #[.agg #[.int .i64 (decZ b).2.1, vN, vS, vL], .int .i64 (decZ b).1]) h'
theorem bvM0 : buildV [.int .i64 0, .slice none 0 0, .slice none 0 0, .slice none 0 0] (some []) = some (.agg #[.int .i64 0, .slice none 0 0, .slice none 0 0, .slice none 0 0]) := by simp [buildV, fillL]
theorem decodeS_good : SpecGood Tryd.prog (15, decodeS) := by
  refine spec_good mixed Tryd.func15 (by kernel_rfl) (by kernel_rfl) tabG_good (keep := verb_Decode_keep) ?_
  rintro args h k ⟨V, v, b, rfl, g, hb, hx, s, H⟩
  refine ⟨0, ?_⟩
  show verb_Decode (tabC tabG) idG 0 v h _
  generalize hK : (fun v h1 => ∃ h2, St.le h2 h1 ∧ k v h2 : Cont) = K
  have H : ∀ h' vN vS vL lv, Chg h h' [] → FieldsAt (h.next ≤ ·) h' vN vS vL lv (decZ b).2.2.N (decZ b).2.2.S (decZ b).2.2.L → K (.tuple #[.agg #[.int .i64 (decZ b).2.1, vN, vS, vL], .int .i64 (decZ b).1]) h' := by subst hK; exact fun h' vN vS vL lv c s => ⟨_, St.le.refl _, H h' vN vS vL lv c s⟩
  clear hK
  rw [verb_Decode_eq]
  simp only [allocE_some]
  obtain ⟨h1, hh1⟩ : ∃ z, z = h.push (.cells [.int .i64 0, .slice none 0 0, .slice none 0 0, .slice none 0 0] true) := ⟨_, rfl⟩
  rw [← hh1]
  have c1 : Chg h h1 [] := by rw [hh1]; exact Chg.push _ _
  have n1 : h1.next = h.next + 1 := by rw [hh1]; rfl
  have o1 : h1.objs h.next = some (.cells [.int .i64 0, .slice none 0 0, .slice none 0 0, .slice none 0 0] true) := by rw [hh1]; exact push_at _ _
  -- nothing, with an error
  have fail : ∀ (h' : St) (e : Nat) (c2 : List Value), (decZ b).1 = e → (decZ b).2.1 = 0 → (decZ b).2.2 = noSt → Chg h1 h' [] → h'.objs h.next = some (.cells c2 true) → c2.length = 4 →
      storeE 4 (.pointer (some ⟨h.next, 0, none⟩)) (.agg #[.int .i64 0, .slice none 0 0, .slice none 0 0, .slice none 0 0]) h' (fun _ h3 => bindV (loadV true 4 (.pointer (some ⟨h.next, 0, none⟩)) h3) fun r4 => K (.tuple #[r4, .int .i64 e]) h3) := by
    intro h' e c2 d1 d2 d3 c o hl
    rw [d1, d2, d3] at H
    simp [o, hl]
    exact H _ _ _ _ (fun _ => .slice none 0 0) ((c1.of_chg c (by simp)).of_set (.inr (Nat.le_refl _))) (nilF _ _)
  cases b with
  | nil =>
    have e0 : lenS v = some (.int .i64 0) := s.len
    simp [e0, bvM0, -storeE_ptr]
    exact fail h1 3 _ rfl rfl rfl (Chg.refl _ _) o1 rfl
  | cons c r =>
    have e0 : ¬ (((c :: r).length : Nat) : Int) = 0 := by simp; omega
    have s1 := s.chg c1 (by simp)
    obtain ⟨bb, oo, g1, g2, g3, cs, own, g4, g5⟩ := s1.idx (i := 0) (by omega) (by simp) .i64
    have g6 := takeN_get g5 (j := 0) (by omega)
    simp only [rowC, Int.toNat_zero, List.getElem?_cons_zero, Option.getD_some, Nat.add_zero, bc] at g6
    have hc : c < 256 := hx c (by simp)
    have wc : IntKind.i64.wrap (c : Int) = c := i64_in _ (by omega)
    simp only [s.len, bindV_some, binNil_int, binV_eql, e0, decide_false, condK_bool, Bool.false_eq_true, if_false, idG_eq, g1, loadV_ptr, g4, loadM_cells, partV_one, g6, wrapV_int, wc]
    refine .inl ⟨rfl, (c : Int), rfl, g.chg c1 (by simp), ?_⟩
    by_cases hk : isKind (knownZ c) = true
    · simp only [extV_two0, extV_two1, bindV_some, hk, unV_not, Bool.not_true, condK_bool, Bool.false_eq_true, if_false, idG_eq]
      obtain ⟨v', q1, q2⟩ := s1.cut (lo := some (.int .i64 1)) (hi := none) (l := 1) (e := (c :: r).length) (loHi_lo (by simp)) (by simp) (Nat.le_refl _)
      rw [q1]
      simp only [bindV_some]
      have q3 : SliceAt V h1 v' r.length 1 (rowC r) := by
        have e : (c :: r).length - 1 = r.length := by simp
        rw [e] at q2
        exact q2.rows fun i hi => by simp [rowC, Nat.add_comm 1 i]
      refine .inr (.inl ⟨rfl, fun i => V i ∧ i < h1.next, shapeOf (knownZ c), v', r, rfl, shape_size c, by simp at hb; omega, fun x hx' => hx x (by simp [hx']), q3.imp fun i a b => ⟨b, a⟩, fun i hi => hi.2, fun h2 vN vS vL lv c2 F => ?_⟩)
      have esh : letters (shapeOf (knownZ c)) = shZ c := rfl
      rw [esh] at F ⊢
      have n2 := c2.1
      have b1 := c2.at (by omega) (by simp) o1
      simp only [extV_two0, extV_two1, bindV_some, allocE_some, storeE_ptr, push_at, storeM_cells, cells_agg, List.take_zero, Nat.add_zero]
      refine ⟨⟨rfl, by simp, by simp [F.1.one, F.2.1.one, F.2.2.1.one]⟩, ?_⟩
      obtain ⟨h3, hh3⟩ : ∃ z, z = (h2.push (.cells [.slice none 0 0, .slice none 0 0, .slice none 0 0] true)).set h2.next (.cells [vN, vS, vL] true) := ⟨_, rfl⟩
      have e3 : (h2.push (.cells [.slice none 0 0, .slice none 0 0, .slice none 0 0] true)).set h2.next (.cells ([] ++ (#[vN, vS, vL] : Array Value).toList ++ List.drop (0 + 3) [.slice none 0 0, .slice none 0 0, .slice none 0 0]) true) = h3 := by rw [hh3]; rfl
      rw [e3]
      have c3 : Chg h2 h3 [] := by rw [hh3]; exact (Chg.push _ _).of_set (.inr (Nat.le_refl _))
      have o6 : h3.objs h2.next = some (.cells [vN, vS, vL] true) := by rw [hh3]; exact set_at _ _ _
      have b2 := c3.at (by omega) (by simp) b1
      have s3 := (s1.chg c2 (by simp)).chg c3 (by simp)
      have F3 := F.chg c3 (by simp)
      by_cases hw : (readZ (shZ c) r).1 = 0
      · have hd : decZ (c :: r) = (0, (c : Int), (readZ (shZ c) r).2) := by simp only [decZ, hk, if_true]; rw [if_neg (by simp [hw])]
        rw [hd] at H
        have gk := (c2.of_chg c3 (by simp)).at g3 (by simp) g4
        simp [hw, gk, g6, wc, o6, bvM4, b2, F3.1.one, F3.2.1.one, F3.2.2.1.one]
        refine H _ vN vS vL lv (((c1.of_chg c2 (by simp)).of_chg c3 (by simp)).of_set (.inr (Nat.le_refl _))) ?_
        refine (F3.chg (Chg.set (S := [h.next]) _ (by simp)) ?_).imp fun i _ (hh : h1.next ≤ i) => by omega
        intro i hi (hh : h1.next ≤ i)
        simp at hi
        omega
      · have hd : decZ (c :: r) = ((readZ (shZ c) r).1, 0, noSt) := by simp only [decZ, hk, if_true]; rw [if_pos hw]
        simp [hw, bvM0, -storeE_ptr]
        exact fail h3 _ _ (by rw [hd]) (by rw [hd]) (by rw [hd]) (c2.of_chg c3 (by simp)) b2 rfl
    · have hd : decZ (c :: r) = (5, 0, noSt) := by simp only [decZ]; rw [if_neg hk]
      rw [Bool.not_eq_true] at hk
      simp [hk, bvM0, -storeE_ptr]
      exact fail h1 5 _ (by rw [hd]) (by rw [hd]) (by rw [hd]) (Chg.refl _ _) o1 rfl
end Go.Proofs.YtdmcmebfclikgaaDoor
