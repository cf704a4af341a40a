/- The document's board: Seen, find, Status, Set, Flush. -/
import Derived.Test.YtlohiobliagaoaaBdB
import Derived.Test.YtlohiobliagaoaaGenE
set_option linter.unusedSimpArgs false
set_option linter.unusedVariables false
set_option maxHeartbeats 4000000
namespace Go.Proofs.Ytlohiobliagaoaa
open Go.Abs Go.IntWalk
attribute [local congr] bindV_weak condK_weak guardK_weak groupK_weak allocE_weak boxE_weak storeE_weak storeM_weak tabC_weak ite_weak idG_weak appendE_weak buildSliceE_weak mapUpdateE_weak deleteE_weak makeMapE_weak copyE_weak clearE_weak callE_weak

/-! ### Seen -/
def eseenO : Abs.Spec := fun args h k => ∃ s : Int, args = [.int .i64 s] ∧ ∀ h', Chg h h' [] → k (.int .i64 (seenN s : Int)) h'
theorem eseenO_good : SpecGood Try.prog (16, eseenO) := by
  refine spec_good mixed Try.func16 (by kernel_rfl) (by kernel_rfl) (tab := []) (by simp) (keep := e_Seen_keep) ?_
  rintro args h k ⟨s, rfl, H⟩
  refine ⟨0, ?_⟩
  show e_Seen (tabC _) idG 0 (.int .i64 s) h _
  rw [e_Seen_eq]
  simp only [binNil_int, binV_lss, bindV_some]
  have out : s < 0 ∨ 6 < s → ∃ h2, St.le h2 h ∧ k (.int .i64 0) h2 := fun e => by
    have : seenN s = 0 := by unfold seenN; rw [if_neg (by omega), if_neg (by omega), if_neg (by omega)]
    rw [this] at H
    exact ⟨h, St.le.refl _, H h (Chg.refl _ _)⟩
  by_cases h1 : s < 0
  · simp only [decide_eq_true h1, groupK_eq, guardK_bool, Bool.true_eq_false, if_false, idG_eq, pickV_bool, if_true, bindV_some, condK_bool]
    exact out (.inl h1)
  · simp only [decide_eq_false h1, groupK_eq, guardK_bool, if_true, idG_eq, binNil_int, binV_gtr, bindV_some, getT, pickV_bool, Bool.false_eq_true, if_false, condK_bool, decide_eq_true_eq]
    by_cases h2 : s > 6
    · rw [if_pos h2]; exact out (.inr h2)
    · rw [if_neg h2]
      simp only [idG_eq]
      refine buildSliceE_in [.int .i64 0, .int .i64 1, .int .i64 2, .int .i64 2, .int .i64 5, .int .i64 5, .int .i64 0] rfl rfl rfl fun h3 c3 n3 o3 => ?_
      have cases7 : s = 0 ∨ s = 1 ∨ s = 2 ∨ s = 3 ∨ s = 4 ∨ s = 5 ∨ s = 6 := by omega
      have key : ∀ (v : Nat), seenN s = v → (idxS 1 (.slice (some ⟨h.next, 0, some 1⟩) 7 0) (.int .i64 s)).bind (fun p => loadV false 1 p h3) = some (.int .i64 (v : Int)) →
          bindV (idxS 1 (.slice (some ⟨h.next, 0, some 1⟩) 7 0) (.int .i64 s)) fun v11 => bindV (loadV false 1 v11 h3) fun v12 => ∃ h2, St.le h2 h3 ∧ k v12 h2 := fun v e1 e2 => by
        rw [e1] at H
        cases hi : idxS 1 (.slice (some ⟨h.next, 0, some 1⟩) 7 0) (.int .i64 s) with
        | none => rw [hi] at e2; cases e2
        | some p =>
          rw [hi] at e2
          simp only [Option.bind_some] at e2
          simp only [bindV_some, e2]
          exact ⟨h3, St.le.refl _, H h3 c3⟩
      rcases cases7 with rfl | rfl | rfl | rfl | rfl | rfl | rfl
      · exact key 0 (by decide) (by simp [idxS, o3])
      · exact key 1 (by decide) (by simp [idxS, o3])
      · exact key 2 (by decide) (by simp [idxS, o3])
      · exact key 2 (by decide) (by simp [idxS, o3])
      · exact key 5 (by decide) (by simp [idxS, o3])
      · exact key 5 (by decide) (by simp [idxS, o3])
      · exact key 0 (by decide) (by simp [idxS, o3])
/-! ### rows -/
def cellsB (r : Em) : List Value := [.int .u32 (r.1 : Int), .int .i64 (r.2.1 : Int), .int .i64 (r.2.2 : Int)]
theorem len_B (r : Em) : (cellsB r).length = 3 := rfl
def EtS (E : Nat → Prop) (h : St) (lv : Value) (R : List Em) : Prop := OwnS E h lv 3 (R.flatMap cellsB) R.length
theorem EtS.chg0 {E : Nat → Prop} {h h' : St} {lv : Value} {R : List Em} (s : EtS E h lv R) (c : Chg h h' []) : EtS E h' lv R := OwnS.chg s c (by simp)
theorem EtS.at {E : Nat → Prop} {h0 : St} {lv : Value} {R : List Em} (s : EtS E h0 lv R) {i : Nat} (hi : i < R.length) (k : IntKind) :
    ∃ b o, idxS 3 lv (.int k i) = some (.pointer (some ⟨b, o, none⟩)) ∧ ∀ h, Chg h0 h [] → loadV false 1 (.pointer (some ⟨b, o, none⟩)) h = some (.int .u32 (R[i].1 : Int)) ∧ loadV false 1 (.pointer (some ⟨b, o + 1, none⟩)) h = some (.int .i64 (R[i].2.1 : Int)) ∧
      loadV false 1 (.pointer (some ⟨b, o + 2, none⟩)) h = some (.int .i64 (R[i].2.2 : Int)) := by
  obtain ⟨b, o, g1, g2, g3, cs, g4, g5⟩ := OwnS.row s (fun y _ => len_B y) (List.getElem?_eq_getElem hi) k
  refine ⟨b, o, g1, fun h c => ?_⟩
  have e0 : cs[o]? = some (.int .u32 (R[i].1 : Int)) := row_cell g5 0 (by omega)
  have e1 : cs[o + 1]? = some (.int .i64 (R[i].2.1 : Int)) := row_cell g5 1 (by omega)
  have e2 : cs[o + 2]? = some (.int .i64 (R[i].2.2 : Int)) := row_cell g5 2 (by omega)
  have g := c.at0 g3 g4
  refine ⟨?_, ?_, ?_⟩
  · simp only [loadV_ptr, g, loadM_cells, partV_one, e0]
  · simp only [loadV_ptr, g, loadM_cells, partV_one, e1]
  · simp only [loadV_ptr, g, loadM_cells, partV_one, e2]
theorem flat_setB {r' : Em} {j : Nat} {x : Value} (hj : j < 3) : ∀ (R : List Em) (i : Nat) (hi : i < R.length), cellsB r' = (cellsB R[i]).set j x → (R.flatMap cellsB).set (i * 3 + j) x = (R.set i r').flatMap cellsB
  | [], i, hi, _ => by simp at hi
  | r :: R, 0, hi, h => by
    simp only [Nat.zero_mul, Nat.zero_add, List.flatMap_cons, List.set_cons_zero]
    rw [List.set_append_left _ _ (by rw [len_B]; exact hj)]
    rw [h]; rfl
  | r :: R, i + 1, hi, h => by
    simp only [List.flatMap_cons, List.set_cons_succ]
    rw [List.set_append_right _ _ (by rw [len_B]; omega), len_B, show (i + 1) * 3 + j - 3 = i * 3 + j by omega]
    rw [flat_setB hj R i (by simpa using hi) (by simpa using h)]
/-- A cell of a row is written. -/
theorem EtS.put {E : Nat → Prop} {h : St} {lv : Value} {R : List Em} (s : EtS E h lv R) {i : Nat} (hi : i < R.length) {j : Nat} (hj : j < 3) {x : Value} (h1 : allOne [x] = true) (hc : x.cells = #[x]) {r' : Em} (hr : cellsB r' = (cellsB R[i]).set j x) :
    ∃ b o, idxS 3 lv (.int .i64 (i : Int)) = some (.pointer (some ⟨b, o, none⟩)) ∧ E b ∧ b < h.next ∧ ∀ (k : Cont), (∀ h', Chg h h' [b] → h'.next = h.next → EtS E h' lv (R.set i r') → k undef h') → storeE 1 (.pointer (some ⟨b, o + j, none⟩)) x h k := by
  rcases s with ⟨rfl, g, _⟩ | ⟨q, rfl, g2, g3, g4, g5⟩
  · omega
  · have hi' : (i : Int) < R.length := by omega
    refine ⟨q, i * 3, by simp [idxS, hi', hi], g2, g3, fun k H => ?_⟩
    refine storeE_in g4 ((R.set i r').flatMap cellsB) (by rw [hc]; rfl) (by rw [g5]; omega) (by rw [hc]; exact h1) ?_ fun h' c n' o' => H h' c n' (.inr ⟨q, ?_, g2, by omega, o', ?_⟩)
    · rw [hc, ← flat_setB hj R i hi hr, List.set_eq_take_append_cons_drop, if_pos (by rw [g5]; omega)]
      simp
    · rw [List.length_set]
    · rw [← flat_setB hj R i hi hr, List.length_set, List.length_set]; exact g5
/-- What stands in rows of a player. -/
def MR : List Em → Md
  | [], _ => (0, 0)
  | r :: R, p => if r.1 = p then r.2 else MR R p
theorem MR_cons (r : Em) (R : List Em) (p : Nat) : MR (r :: R) p = if r.1 = p then r.2 else MR R p := rfl
def NdR (R : List Em) : Prop := R.Pairwise fun x y => x.1 ≠ y.1
theorem MR_no {R : List Em} {p : Nat} (h : ∀ r ∈ R, r.1 ≠ p) : MR R p = (0, 0) := by
  induction R with
  | nil => rfl
  | cons r R ih => unfold MR; rw [if_neg (h r (by simp))]; exact ih fun x hx => h x (by simp [hx])
theorem MR_mem {R : List Em} (nd : NdR R) {r : Em} (hr : r ∈ R) : MR R r.1 = r.2 := by
  induction R with
  | nil => cases hr
  | cons x R ih =>
    obtain ⟨n1, n2⟩ := List.pairwise_cons.1 nd
    unfold MR
    rcases List.mem_cons.1 hr with rfl | hr
    · rw [if_pos rfl]
    · rw [if_neg (n1 r hr)]; exact ih n2 hr
theorem MR_in {R : List Em} {p : Nat} (h : MR R p ≠ (0, 0)) : ∃ r ∈ R, r.1 = p := by
  refine Decidable.byContradiction fun hh => h (MR_no fun r hr e => hh ⟨r, hr, e⟩)
/-! ### find, Status -/
def efindO : Abs.Spec := fun args h k => ∃ (E : Nat → Prop) (lv : Value) (R : List Em) (p : Nat), args = [lv, .int .u32 (p : Int)] ∧ R.length ≤ 100000 ∧ EtS E h lv R ∧
  (∀ (i : Nat) (hi : i < R.length), R[i].1 = p → k (.int .i64 (i : Int)) h) ∧ ((∀ r ∈ R, r.1 ≠ p) → k (.int .i64 (-1)) h)
theorem efind_l0 {nn : Nat} {lv x4 : Value} {E : Nat → Prop} {R : List Em} {p : Nat} {h : St} {k : Cont} (few : R.length ≤ 100000) (s : EtS E h lv R)
    (H1 : ∀ (i : Nat) (hi : i < R.length), R[i].1 = p → k (.int .i64 (i : Int)) h) (H2 : (∀ r ∈ R, r.1 ≠ p) → k (.int .i64 (-1)) h) :
    ∀ (d i m0 : Nat), i + d = R.length → d < m0 → (∀ r ∈ R.take i, r.1 ≠ p) → e_find_l0 (tabC []) idG nn m0 lv (.int .u32 (p : Int)) x4 (.int .i64 (i : Int)) h (fun v h1 => ∃ h2, St.le h2 h1 ∧ k v h2) := by
  intro d
  induction d with
  | zero =>
    intro i m0 hi hm no
    obtain ⟨m0, rfl⟩ : ∃ m, m0 = m + 1 := ⟨m0 - 1, by omega⟩
    rw [e_find_l0_eq]
    have e' : i = R.length := by omega
    subst e'
    rw [List.take_length] at no
    simp only [OwnS.len s, bindV_some, binV_lss, condK_bool, Int.lt_irrefl, decide_false, Bool.false_eq_true, if_false, idG_eq]
    rw [e_find_j1_eq]
    exact ⟨h, St.le.refl _, H2 no⟩
  | succ d ih =>
    intro i m0 hi hm no
    obtain ⟨m0, rfl⟩ : ∃ m, m0 = m + 1 := ⟨m0 - 1, by omega⟩
    rw [e_find_l0_eq]
    have hlt : (i : Int) < R.length := by omega
    have inc : IntKind.i64.wrap ((i : Int) + 1) = ((i + 1 : Nat) : Int) := by rw [i64_in _ (by omega)]; omega
    obtain ⟨b, o, g1, g2⟩ := s.at (show i < R.length by omega) .i64
    obtain ⟨f0, _, _⟩ := g2 h (Chg.refl _ _)
    simp only [OwnS.len s, bindV_some, binV_lss, condK_bool, hlt, decide_true, if_true, idG_eq, g1, offV_ptr, Nat.add_zero, f0, eqN]
    cases e : decide ((R[i]'(by omega)).1 = p) with
    | true =>
      simp only [decide_eq_true_eq] at e
      rw [if_pos rfl]
      exact ⟨h, St.le.refl _, H1 i (by omega) e⟩
    | false =>
      simp only [Bool.false_eq_true, if_false, idG_eq, binNil_int, binV_add, bindV_some, inc]
      refine ih (i + 1) m0 (by omega) (by omega) fun r hr => ?_
      rw [List.take_succ_eq_append_getElem (by omega)] at hr
      rcases List.mem_append.1 hr with hr | hr
      · exact no r hr
      · simp only [List.mem_singleton] at hr
        subst hr; simpa using e
theorem efindO_good : SpecGood Try.prog (30, efindO) := by
  refine spec_good mixed Try.func30 (by kernel_rfl) (by kernel_rfl) (tab := []) (by simp) (keep := e_find_keep) ?_
  rintro args h k ⟨E, lv, R, p, rfl, few, s, H1, H2⟩
  refine ⟨R.length + 1, ?_⟩
  show e_find (tabC _) idG _ lv (.int .u32 (p : Int)) h _
  rw [e_find_eq]
  simp only [idG_eq]
  exact efind_l0 few s H1 H2 R.length 0 _ (by omega) (by omega) (by simp)
theorem neg1 : binNil .lss .other (.int .i64 (-1)) (.int .i64 0) = some (.bool true) := rfl
theorem nat_neg (i : Nat) : binNil .lss .other (.int .i64 (i : Int)) (.int .i64 0) = some (.bool false) := by
  have : ¬ (i : Int) < 0 := by omega
  simp only [binNil_int, binV_lss, this, decide_false]
def estatO : Abs.Spec := fun args h k => ∃ (E : Nat → Prop) (lv : Value) (R : List Em) (p : Nat), args = [lv, .int .u32 (p : Int)] ∧ R.length ≤ 100000 ∧ NdR R ∧ EtS E h lv R ∧ k (.int .i64 ((MR R p).1 : Int)) h
theorem estatO_good : SpecGood Try.prog (14, estatO) := by
  refine spec_good mixed Try.func14 (by kernel_rfl) (by kernel_rfl) (tab := [(30, efindO)]) (by simp [efindO_good]) (keep := e_Status_keep) ?_
  rintro args h k ⟨E, lv, R, p, rfl, few, nd, s, H⟩
  refine ⟨0, ?_⟩
  show e_Status (tabC _) idG _ lv (.int .u32 (p : Int)) h _
  rw [e_Status_eq]
  refine cK (S := efindO) (by simp) ⟨E, lv, R, p, rfl, few, s, fun i hi e => ?_, fun no => ?_⟩
  · simp only [nat_neg, bindV_some, condK_bool, Bool.false_eq_true, if_false, idG_eq]
    obtain ⟨b, o, g1, g2⟩ := s.at hi .i64
    obtain ⟨_, f1, _⟩ := g2 h (Chg.refl _ _)
    simp only [g1, bindV_some, offV_ptr, f1]
    have := MR_mem nd (List.getElem_mem hi)
    rw [e] at this
    rw [this] at H
    exact ⟨h, St.le.refl _, H⟩
  · simp only [neg1, bindV_some, condK_bool, if_true]
    rw [MR_no no] at H
    exact ⟨h, St.le.refl _, H⟩
/-! ### Set -/
def OkR (R : List Em) : Prop := ∀ r ∈ R, rid r.1 ∧ r.2.1 ≤ 6 ∧ r.2.2 ≤ 6
theorem setB_right {M : Md} {p : Nat} {s : Int} (h : rightId p = true) : setB M p s = setM M p (clamp s, (M p).2) := by unfold setB; rw [if_pos h]
theorem MR_set {R : List Em} (nd : NdR R) : ∀ {i : Nat} (hi : i < R.length) (w : Mk), NdR (R.set i (R[i].1, w)) ∧ MR (R.set i (R[i].1, w)) = setM (MR R) R[i].1 w := by
  induction R with
  | nil => intro i hi; simp at hi
  | cons r R ih =>
    obtain ⟨n1, n2⟩ := List.pairwise_cons.1 nd
    intro i hi w
    cases i with
    | zero =>
      simp only [List.set_cons_zero, List.getElem_cons_zero]
      refine ⟨List.pairwise_cons.2 ⟨n1, n2⟩, ?_⟩
      funext q
      unfold setM MR
      by_cases e : q = r.1
      · rw [if_pos e.symm, if_pos e]
      · rw [if_neg (fun h => e h.symm), if_neg e]
        rw [if_neg (fun h => e h.symm)]
    | succ i =>
      have hi' : i < R.length := by simpa using hi
      obtain ⟨a1, a2⟩ := ih n2 hi' w
      simp only [List.set_cons_succ, List.getElem_cons_succ]
      refine ⟨List.pairwise_cons.2 ⟨fun y hy => ?_, a1⟩, ?_⟩
      · rcases List.mem_or_eq_of_mem_set hy with hy | hy
        · exact n1 y hy
        · subst hy
          have := n1 _ (List.getElem_mem hi')
          exact this
      · funext q
        have := congrFun a2 q
        rw [MR_cons, this]
        unfold setM
        rw [MR_cons]
        by_cases e : r.1 = q
        · have ne : q ≠ R[i].1 := fun h => n1 _ (List.getElem_mem hi') (e.trans h)
          rw [if_pos e, if_neg ne, if_pos e]
        · rw [if_neg e, if_neg e]
theorem MR_app {R : List Em} (nd : NdR R) {p : Nat} (no : ∀ r ∈ R, r.1 ≠ p) (w : Mk) : NdR (R ++ [(p, w)]) ∧ MR (R ++ [(p, w)]) = setM (MR R) p w := by
  refine ⟨?_, ?_⟩
  · unfold NdR
    rw [List.pairwise_append]
    refine ⟨nd, List.pairwise_singleton .., fun y hy z hz => ?_⟩
    simp only [List.mem_singleton] at hz
    subst hz; exact no y hy
  · funext q
    induction R with
    | nil =>
      rw [List.nil_append, MR_cons]
      unfold setM
      by_cases e : p = q
      · rw [if_pos e, if_pos e.symm]
      · rw [if_neg e, if_neg (fun h => e h.symm)]
    | cons r R ih =>
      have := ih (List.pairwise_cons.1 nd).2 fun x hx => no x (by simp [hx])
      have nr := no r (by simp)
      rw [List.cons_append, MR_cons, this]
      unfold setM
      rw [MR_cons]
      by_cases e : r.1 = q
      · rw [if_pos e, if_neg (fun h => nr (e.trans h)), if_pos e]
      · rw [if_neg e, if_neg e]
def esetO : Abs.Spec := fun args h k => ∃ (E : Nat → Prop) (lv : Value) (R : List Em) (p : Nat) (s : Int), args = [lv, .int .u32 (p : Int), .int .i64 s] ∧ R.length ≤ 300 ∧ NdR R ∧ OkR R ∧ EtS E h lv R ∧
  ∀ h' lv' R', Chg h h' [] → EtS (fun i => E i ∨ h.next ≤ i) h' lv' R' → NdR R' → OkR R' → R'.length ≤ R.length + 1 → MR R' = setB (MR R) p s → k lv' h'
def vB (r : Em) : Value := .agg (cellsB r).toArray
theorem flat_B (A : List Em) (y : Em) : (A ++ [y]).flatMap cellsB = A.flatMap cellsB ++ cellsB y := by simp
theorem one_B : ∀ R : List Em, allOne (R.flatMap cellsB) = true
  | [] => rfl
  | r :: R => by rw [List.flatMap_cons, allOne_append, one_B R]; rfl
theorem own_cells {B : Nat → Prop} {h : St} {v : Value} {sz n : Nat} {cs : List Value} (s : OwnS B h v sz cs n) : newCells sz v h = some (cs, n) ∧ cs.length = n * sz := by
  rcases s with ⟨rfl, rfl, rfl⟩ | ⟨q, rfl, g2, g3, g4, g5⟩
  · exact ⟨rfl, by simp⟩
  · refine ⟨?_, g5⟩
    cases n with
    | zero =>
      have : cs = [] := List.eq_nil_of_length_eq_zero (by omega)
      subst this; rfl
    | succ n =>
      unfold newCells
      simp only [g4]
      unfold takeN
      rw [if_pos (by omega), List.drop_zero, ← g5, List.take_length]; rfl
/-- A copy of rows. -/
theorem copyB {E : Nat → Prop} {h : St} {lv : Value} {R : List Em} (s : EtS E h lv R) (few : R.length ≤ 10000) {k : Cont} (H : ∀ h' v, Chg h h' [] → EtS (fun i => h.next ≤ i) h' v R → k v h') :
    buildSliceE 3 0 [.int .u32 0, .int .i64 0, .int .i64 0] [] h fun v19 h5 => appendE 3 24 v19 lv h5 k := by
  refine buildSliceE_in [] rfl rfl rfl fun h3 c3 n3 o3 => ?_
  obtain ⟨nc, nl⟩ := own_cells (s.chg0 c3)
  have e0 : OwnS (fun i => h.next ≤ i) h3 (.slice (some ⟨h.next, 0, some 3⟩) 0 0) 3 [] 0 := .inr ⟨h.next, rfl, Nat.le_refl _, by omega, o3, rfl⟩
  refine append_own' (B := fun i => h.next ≤ i) (by omega) e0 nc nl (one_B R) (by omega) (by omega) fun h4 lv4 c4 s4 => H h4 lv4 (fresh_out c3 c4) ?_
  rw [Nat.zero_add, List.nil_append] at s4
  exact s4
theorem eset_j0 {nn : Nat} {lv x6 x7 x8 : Value} {E : Nat → Prop} {R : List Em} {p s : Nat} {h : St} {k : Cont} (rp : rid p) (hs : s ≤ 6) (few : R.length ≤ 300) (nd : NdR R) (ok : OkR R) (e : EtS E h lv R)
    (H : ∀ h' lv' R', Chg h h' [] → EtS (fun i => E i ∨ h.next ≤ i) h' lv' R' → NdR R' → OkR R' → R'.length ≤ R.length + 1 → MR R' = setM (MR R) p (s, (MR R p).2) → k lv' h') :
    e_Set_j0 (tabC [(29, grightO), (30, efindO)]) idG nn lv (.int .u32 (p : Int)) (.int .i64 (s : Int)) x6 x7 x8 h (fun v h1 => ∃ h2, St.le h2 h1 ∧ k v h2) := by
  rw [e_Set_j0_eq]
  refine copyB e (by omega) fun h1 v1 c1 e1 => ?_
  refine cK (S := efindO) (by simp) ⟨_, v1, R, p, rfl, by omega, e1, fun i hi ei => ?_, fun no => ?_⟩
  · simp only [nat_neg, bindV_some, condK_bool, Bool.false_eq_true, if_false, idG_eq]
    obtain ⟨b, o, g1, g2, g3, g4⟩ := e1.put hi (j := 1) (by omega) (x := .int .i64 (s : Int)) rfl rfl (r' := (R[i].1, (s, R[i].2.2))) rfl
    simp only [g1, bindV_some, offV_ptr]
    refine g4 _ fun h2 c2 n2 e2 => ?_
    obtain ⟨a1, a2⟩ := MR_set nd hi (s, R[i].2.2)
    have ee := MR_mem nd (List.getElem_mem hi)
    rw [ei] at ee
    refine ⟨h2, St.le.refl _, H h2 v1 _ (c1.new c2 g2) (e2.imp fun j _ hj => .inr hj) a1 (fun r hr => ?_) (by rw [List.length_set]; omega) (by rw [a2, ei, ee])⟩
    rcases List.mem_or_eq_of_mem_set hr with hr | hr
    · exact ok r hr
    · subst hr
      have := ok _ (List.getElem_mem hi)
      exact ⟨this.1, hs, this.2.2⟩
  · have bv : buildV [.int .u32 0, .int .i64 0, .int .i64 0] (some [(0, 1, .int .u32 (p : Int)), (1, 1, .int .i64 (s : Int))]) = some (vB (p, (s, 0))) := rfl
    simp only [neg1, bv, bindV_some, condK_bool, if_true]
    refine append_row (B := fun i => h.next ≤ i) (fun j hj => by have := c1.1; omega) e1 rfl rfl rfl rfl (by omega) (by omega) fun h5 out5 c5 s5 => ?_
    obtain ⟨a1, a2⟩ := MR_app nd no (s, 0)
    have s5 : EtS (fun i => h.next ≤ i) h5 out5 (R ++ [(p, (s, 0))]) := by unfold EtS; rw [flat_B, List.length_append]; exact s5
    refine ⟨h5, St.le.refl _, H h5 out5 _ (fresh_out c1 c5) (s5.imp fun j _ hj => .inr hj) a1 (fun r hr => ?_) (by simp) (by rw [a2, MR_no no])⟩
    rcases List.mem_append.1 hr with hr | hr
    · exact ok r hr
    · simp only [List.mem_singleton] at hr
      subst hr; exact ⟨rp, hs, by show 0 ≤ 6; omega⟩
theorem esetO_good : SpecGood Try.prog (12, esetO) := by
  refine spec_good mixed Try.func12 (by kernel_rfl) (by kernel_rfl) (tab := [(29, grightO), (30, efindO)]) (by simp [grightO_good, efindO_good]) (keep := e_Set_keep) ?_
  rintro args h k ⟨E, lv, R, p, s, rfl, few, nd, ok, e, H⟩
  refine ⟨0, ?_⟩
  show e_Set (tabC _) idG 0 lv (.int .u32 (p : Int)) (.int .i64 s) h _
  rw [e_Set_eq]
  refine cK (S := grightO) (by simp) ⟨p, rfl, ?_⟩
  cases hr : rightId p with
  | false =>
    simp only [unV_not, Bool.not_false, bindV_some, condK_bool, if_true]
    exact ⟨h, St.le.refl _, H h lv R (Chg.refl _ _) (e.imp fun _ _ h => .inl h) nd ok (Nat.le_succ _) (by unfold setB; rw [hr, if_neg (by simp)])⟩
  | true =>
    rw [setB_right hr] at H
    have rp := rightId_iff.1 hr
    simp only [unV_not, Bool.not_true, bindV_some, condK_bool, Bool.false_eq_true, if_false, idG_eq, binNil_int, binV_lss]
    unfold clamp at H
    by_cases h1 : s < 0
    · rw [if_pos (.inl h1)] at H
      simp only [decide_eq_true h1, groupK_eq, guardK_bool, Bool.true_eq_false, if_false, idG_eq, pickV_bool, if_true, bindV_some, condK_bool]
      exact eset_j0 (s := 0) rp (by omega) few nd ok e H
    · simp only [decide_eq_false h1, groupK_eq, guardK_bool, if_true, idG_eq, binNil_int, binV_gtr, bindV_some, getT, pickV_bool, Bool.false_eq_true, if_false, condK_bool, decide_eq_true_eq]
      by_cases h2 : s > 6
      · rw [if_pos (.inr h2)] at H
        rw [if_pos h2]
        simp only [idG_eq]
        exact eset_j0 (s := 0) rp (by omega) few nd ok e H
      · rw [if_neg (by omega)] at H
        rw [if_neg h2]
        simp only [idG_eq]
        have es : s = (s.toNat : Int) := by omega
        rw [es]
        exact eset_j0 rp (by omega) few nd ok e H
end Go.Proofs.Ytlohiobliagaoaa
