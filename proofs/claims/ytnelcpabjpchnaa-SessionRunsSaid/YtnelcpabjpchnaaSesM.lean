/- The document's rack of ids: find, Next, Drop, Put, Ids. -/
import Derived.Test.YtnelcpabjpchnaaSesL
set_option linter.unusedSimpArgs false
set_option linter.unusedVariables false
set_option maxHeartbeats 4000000
namespace Go.Proofs.Ytnelcpabjpchnaa
open Go.Abs Go.IntWalk
attribute [local congr] bindV_weak condK_weak guardK_weak groupK_weak allocE_weak boxE_weak storeE_weak storeM_weak tabC_weak ite_weak idG_weak appendE_weak buildSliceE_weak mapUpdateE_weak deleteE_weak makeMapE_weak copyE_weak clearE_weak callE_weak

def cellsJ (q : Nat) : List Value := [.int .u32 (q : Int), .int .i64 0]
theorem len_J (x : Nat) : (cellsJ x).length = 2 := rfl
def JtS (E : Nat → Prop) (h : St) (lv : Value) (R : List Nat) : Prop := OwnS E h lv 2 (R.flatMap cellsJ) R.length
def encJ (lv : Value) (most : Nat) : Value := .agg #[lv, .int .i64 (most : Int)]
theorem JtS.chg0 {E : Nat → Prop} {h h' : St} {lv : Value} {R : List Nat} (s : JtS E h lv R) (c : Chg h h' []) : JtS E h' lv R := OwnS.chg s c (by simp)
theorem JtS.one {E : Nat → Prop} {h : St} {lv : Value} {R : List Nat} (s : JtS E h lv R) : Abs.one lv = true := OwnS.one s
theorem JtS.row0 {E : Nat → Prop} {h0 : St} {lv : Value} {R : List Nat} (s : JtS E h0 lv R) {i : Nat} (hi : i < R.length) (k : IntKind) :
    ∃ b o, idxS 2 lv (.int k i) = some (.pointer (some ⟨b, o, none⟩)) ∧ ∀ h, Chg h0 h [] → ∃ cs, h.objs b = some (.cells cs true) ∧ takeN cs o 2 = some (cellsJ R[i]) ∧ cs[o]? = some (.int .u32 (R[i] : Int)) := by
  obtain ⟨b, o, g1, g2, g3, cs, g4, g5⟩ := OwnS.row s (fun y _ => len_J y) (List.getElem?_eq_getElem hi) k
  exact ⟨b, o, g1, fun h c => ⟨cs, c.at0 g3 g4, g5, row_cell g5 0 (by omega)⟩⟩
theorem JtS.box {E : Nat → Prop} {h : St} {lv : Value} {R : List Nat} (s : JtS E h lv R) (most : Nat) {k : Cont} (K : ∀ h', Chg h h' [] → h'.next = h.next + 1 → h'.objs h.next = some (.cells [lv, .int .i64 (most : Int)] true) → k (.pointer (some ⟨h.next, 0, none⟩)) h') : boxE (encJ lv most) h k := by
  refine boxE_in ?_ K
  have h1 := s.one
  show allOne [lv, _] = true
  simp only [allOne, h1, Bool.true_and]
  rfl
theorem boxJ_load {E : Nat → Prop} {h : St} {lv : Value} {R : List Nat} (s : JtS E h lv R) {b : Nat} {most : Nat} {h' : St} (ob : h'.objs b = some (.cells [lv, .int .i64 (most : Int)] true)) : loadV true 2 (.pointer (some ⟨b, 0, none⟩)) h' = some (encJ lv most) := by
  have tk : takeN [lv, .int .i64 (most : Int)] 0 2 = some [lv, .int .i64 (most : Int)] := rfl
  simp only [loadV_ptr, ob, loadM_cells, partV_agg, tk, Option.map_some]
  rfl
/-! ### find -/
def hfindO : Abs.Spec := fun args h k => ∃ (E : Nat → Prop) (lv : Value) (most : Nat) (R : List Nat) (q : Nat), args = [encJ lv most, .int .u32 (q : Int)] ∧ R.length ≤ 100000 ∧ JtS E h lv R ∧
  (∀ h' (i : Nat), Chg h h' [] → k (.int .i64 (i : Int)) h') ∧ (∀ h', Chg h h' [] → k (.int .i64 (-1)) h')
theorem hfind_l0 {nn b : Nat} {lv x4 : Value} {E : Nat → Prop} {most : Nat} {R : List Nat} {q : Nat} {h0 h : St} {k : Cont} (few : R.length ≤ 100000) (s : JtS E h0 lv R) (ch : Chg h0 h []) (ob : h.objs b = some (.cells [lv, .int .i64 (most : Int)] true))
    (H1 : ∀ (i : Nat), k (.int .i64 (i : Int)) h) (H2 : k (.int .i64 (-1)) h) :
    ∀ (d i m0 : Nat), i + d = R.length → d < m0 → tiltyardref07_find_l0 (tabC []) idG nn m0 (.int .u32 (q : Int)) (.pointer (some ⟨b, 0, none⟩)) x4 (.int .i64 (i : Int)) h (fun v h1 => ∃ h2, St.le h2 h1 ∧ k v h2) := by
  intro d
  induction d with
  | zero =>
    intro i m0 hi hm
    obtain ⟨m0, rfl⟩ : ∃ m, m0 = m + 1 := ⟨m0 - 1, by omega⟩
    rw [tiltyardref07_find_l0_eq]
    have e' : i = R.length := by omega
    subst e'
    simp only [offV_ptr, bindV_some, loadV_ptr, ob, loadM_cells, partV_one, List.getElem?_cons_zero, Nat.zero_add, OwnS.len s, binV_lss, condK_bool, Int.lt_irrefl, decide_false, Bool.false_eq_true, if_false, idG_eq]
    rw [tiltyardref07_find_j1_eq]
    exact ⟨h, St.le.refl _, H2⟩
  | succ d ih =>
    intro i m0 hi hm
    obtain ⟨m0, rfl⟩ : ∃ m, m0 = m + 1 := ⟨m0 - 1, by omega⟩
    rw [tiltyardref07_find_l0_eq]
    have hlt : (i : Int) < R.length := by omega
    have inc : IntKind.i64.wrap ((i : Int) + 1) = ((i + 1 : Nat) : Int) := by rw [i64_in _ (by omega)]; omega
    obtain ⟨b', o, g1, g2⟩ := s.row0 (show i < R.length by omega) .i64
    obtain ⟨cs, g4, _, g5⟩ := g2 h ch
    simp only [offV_ptr, bindV_some, loadV_ptr, ob, loadM_cells, partV_one, List.getElem?_cons_zero, Nat.zero_add, OwnS.len s, binV_lss, condK_bool, hlt, decide_true, if_true, idG_eq, g1, Nat.add_zero, g4, g5, binV_eql, decide_eq_true_eq]
    by_cases e : (R[i] : Int) = (q : Int)
    · rw [if_pos e]
      exact ⟨h, St.le.refl _, H1 i⟩
    · rw [if_neg e]
      simp only [idG_eq, binNil_int, binV_add, bindV_some, inc]
      exact ih (i + 1) m0 (by omega) (by omega)
theorem hfindO_good : SpecGood Try.prog (71, hfindO) := by
  refine spec_good mixed Try.func71 (by kernel_rfl) (by kernel_rfl) (tab := []) (by simp) (keep := tiltyardref07_find_keep) ?_
  rintro args h k ⟨E, lv, most, R, q, rfl, few, s, H1, H2⟩
  refine ⟨R.length + 1, ?_⟩
  show tiltyardref07_find (tabC []) idG _ (encJ lv most) (.int .u32 (q : Int)) h _
  rw [tiltyardref07_find_eq]
  refine s.box most fun h1 c1 n1 o1 => ?_
  simp only [idG_eq]
  exact hfind_l0 few s c1 o1 (fun i => H1 h1 i c1) (H2 h1 c1) R.length 0 _ (by omega) (by omega)
/-! ### Next -/
def bestN (id : Nat) : Nat → List Nat → Nat
  | b, [] => b
  | b, x :: R => bestN id (if id < x ∧ (b = 0 ∨ x < b) then x else b) R
theorem bestN_spec (id : Nat) : ∀ (R : List Nat) (b : Nat), (b = 0 ∨ id < b) → (bestN id b R = 0 → b = 0 ∧ ∀ x ∈ R, ¬ id < x) ∧ (bestN id b R ≠ 0 → id < bestN id b R ∧ (bestN id b R = b ∨ bestN id b R ∈ R) ∧ (b ≠ 0 → bestN id b R ≤ b) ∧ ∀ x ∈ R, id < x → bestN id b R ≤ x)
  | [], b, hb => by
    refine ⟨fun h => ⟨h, by simp⟩, fun h => ⟨?_, .inl rfl, fun _ => Nat.le_refl _, by simp⟩⟩
    have h : b ≠ 0 := h
    show id < b
    omega
  | x :: R, b, hb => by
    obtain ⟨b', hb'⟩ : ∃ b', b' = (if id < x ∧ (b = 0 ∨ x < b) then x else b) := ⟨_, rfl⟩
    have e : bestN id b (x :: R) = bestN id b' R := by rw [hb']; rfl
    rw [e]
    have hbb : b' = 0 ∨ id < b' := by rw [hb']; split <;> omega
    obtain ⟨s1, s2⟩ := bestN_spec id R b' hbb
    refine ⟨fun h => ?_, fun h => ?_⟩
    · obtain ⟨h0, h1⟩ := s1 h
      rw [hb'] at h0
      split at h0
      · omega
      · rename_i hn
        refine ⟨h0, fun y hy => ?_⟩
        rcases List.mem_cons.1 hy with rfl | hy
        · exact fun hh => hn ⟨hh, .inl h0⟩
        · exact h1 y hy
    · obtain ⟨t1, t2, t3, t4⟩ := s2 h
      refine ⟨t1, ?_, fun hb0 => ?_, fun y hy hh => ?_⟩
      · rcases t2 with t2 | t2
        · rw [t2, hb']
          split
          · exact .inr (List.mem_cons_self ..)
          · exact .inl rfl
        · exact .inr (List.mem_cons_of_mem _ t2)
      · have : b' ≠ 0 ∧ b' ≤ b := by rw [hb']; split <;> omega
        have := t3 this.1; omega
      · rcases List.mem_cons.1 hy with rfl | hy
        · have : b' ≠ 0 ∧ b' ≤ y := by rw [hb']; split <;> omega
          have := t3 this.1; omega
        · exact t4 y hy hh
def hnextO : Abs.Spec := fun args h k => ∃ (E : Nat → Prop) (lv : Value) (most : Nat) (R : List Nat) (id : Nat), args = [encJ lv most, .int .u32 (id : Int)] ∧ R.length ≤ 100000 ∧ JtS E h lv R ∧
  ∀ h', Chg h h' [] → k (.tuple #[.int .u32 (bestN id 0 R : Int), .bool (decide (bestN id 0 R ≠ 0))]) h'
theorem hnext_l0 {nn b : Nat} {lv x4 x5 : Value} {E : Nat → Prop} {most : Nat} {R : List Nat} {id : Nat} {h0 h : St} {k : Cont} (few : R.length ≤ 100000) (s : JtS E h0 lv R) (ch : Chg h0 h []) (ob : h.objs b = some (.cells [lv, .int .i64 (most : Int)] true))
    (H : k (.tuple #[.int .u32 (bestN id 0 R : Int), .bool (decide (bestN id 0 R ≠ 0))]) h) :
    ∀ (d i m0 bb : Nat), i + d = R.length → d < m0 → bestN id bb (R.drop i) = bestN id 0 R → tiltyardref07_Next_l0 (tabC []) idG nn m0 (.int .u32 (id : Int)) (.pointer (some ⟨b, 0, none⟩)) x4 x5 (.int .u32 (bb : Int)) (.int .i64 (i : Int)) h (fun v h1 => ∃ h2, St.le h2 h1 ∧ k v h2) := by
  intro d
  induction d with
  | zero =>
    intro i m0 bb hi hm e
    obtain ⟨m0, rfl⟩ : ∃ m, m0 = m + 1 := ⟨m0 - 1, by omega⟩
    rw [tiltyardref07_Next_l0_eq]
    have e' : i = R.length := by omega
    subst e'
    rw [List.drop_length] at e
    have e : bb = bestN id 0 R := e
    simp only [offV_ptr, bindV_some, loadV_ptr, ob, loadM_cells, partV_one, List.getElem?_cons_zero, Nat.zero_add, OwnS.len s, binV_lss, condK_bool, Int.lt_irrefl, decide_false, Bool.false_eq_true, if_false, idG_eq]
    rw [tiltyardref07_Next_j2_eq]
    have e2 : decide ((bb : Int) ≠ 0) = decide (bestN id 0 R ≠ 0) := decide_eq_decide.2 (by rw [← e]; omega)
    simp only [binNil_int, binV_neq, bindV_some, e2]
    rw [← e] at H ⊢
    exact ⟨h, St.le.refl _, H⟩
  | succ d ih =>
    intro i m0 bb hi hm e
    obtain ⟨m0, rfl⟩ : ∃ m, m0 = m + 1 := ⟨m0 - 1, by omega⟩
    rw [tiltyardref07_Next_l0_eq]
    have hlt : (i : Int) < R.length := by omega
    have inc : IntKind.i64.wrap ((i : Int) + 1) = ((i + 1 : Nat) : Int) := by rw [i64_in _ (by omega)]; omega
    obtain ⟨b', o, g1, g2⟩ := s.row0 (show i < R.length by omega) .i64
    obtain ⟨cs, g4, _, g5⟩ := g2 h ch
    have dr : R.drop i = R[i] :: R.drop (i + 1) := List.drop_eq_getElem_cons (by omega)
    obtain ⟨x, ex⟩ : ∃ x, x = R[i] := ⟨_, rfl⟩
    rw [← ex] at g5 dr
    rw [dr] at e
    have e : bestN id (if id < x ∧ (bb = 0 ∨ x < bb) then x else bb) (R.drop (i + 1)) = bestN id 0 R := e
    have keep : ∀ y : Nat, y = (if id < x ∧ (bb = 0 ∨ x < bb) then x else bb) → tiltyardref07_Next_j1 (tabC []) idG nn m0 (.int .u32 (id : Int)) (.pointer (some ⟨b, 0, none⟩)) x4 x5 (.int .u32 (y : Int)) (.int .i64 (i : Int)) h (fun v h1 => ∃ h2, St.le h2 h1 ∧ k v h2) := by
      intro y hy
      rw [tiltyardref07_Next_j1_eq]
      simp only [binNil_int, binV_add, bindV_some, inc, idG_eq]
      exact ih (i + 1) m0 y (by omega) (by omega) (by rw [hy]; exact e)
    simp only [offV_ptr, bindV_some, loadV_ptr, ob, loadM_cells, partV_one, List.getElem?_cons_zero, Nat.zero_add, OwnS.len s, binV_lss, condK_bool, hlt, decide_true, if_true, idG_eq, g1, Nat.add_zero, g4, g5, binV_gtr, groupK_eq, guardK_bool, decide_eq_true_eq]
    by_cases h1 : id < x
    · have h1' : (x : Int) > (id : Int) := by omega
      rw [if_pos h1']
      simp only [binNil_int, binV_eql, bindV_some, idG_eq, getT, groupK_eq, guardK_bool, decide_eq_false_iff_not]
      by_cases h2 : bb = 0
      · have h2' : (bb : Int) = 0 := by omega
        rw [if_neg (by simpa using h2')]
        simp only [h1', h2', decide_true, groupK_eq, guardK_bool, if_true, pickV_bool, bindV_some, idG_eq, getT, condK_bool]
        exact keep x (by rw [if_pos ⟨h1, .inl h2⟩])
      · have h2' : ¬ (bb : Int) = 0 := by omega
        rw [if_pos h2']
        simp only [binV_lss, h1', h2', decide_true, decide_false, groupK_eq, guardK_bool, if_true, pickV_bool, bindV_some, idG_eq, getT, condK_bool, Bool.false_eq_true, if_false, decide_eq_true_eq]
        by_cases h3 : x < bb
        · have h3' : (x : Int) < (bb : Int) := by omega
          rw [if_pos h3']
          exact keep x (by rw [if_pos ⟨h1, .inr h3⟩])
        · have h3' : ¬ (x : Int) < (bb : Int) := by omega
          rw [if_neg h3']
          exact keep bb (by rw [if_neg (by omega)])
    · have h1' : ¬ (x : Int) > (id : Int) := by omega
      rw [if_neg h1']
      simp only [h1', decide_false, idG_eq, getT, groupK_eq, guardK_bool, pickV_bool, Bool.false_eq_true, if_false, bindV_some, condK_bool]
      exact keep bb (by rw [if_neg (by omega)])
theorem hnextO_good : SpecGood Try.prog (73, hnextO) := by
  refine spec_good mixed Try.func73 (by kernel_rfl) (by kernel_rfl) (tab := []) (by simp) (keep := tiltyardref07_Next_keep) ?_
  rintro args h k ⟨E, lv, most, R, id, rfl, few, s, H⟩
  refine ⟨R.length + 1, ?_⟩
  show tiltyardref07_Next (tabC []) idG _ (encJ lv most) (.int .u32 (id : Int)) h _
  rw [tiltyardref07_Next_eq]
  refine s.box most fun h1 c1 n1 o1 => ?_
  simp only [idG_eq]
  exact hnext_l0 few s c1 o1 (H h1 c1) R.length 0 _ 0 (by omega) (by omega) rfl
/-! ### Ids -/
/-- The next one of those that rise. -/
theorem next_of {R L : List Nat} (srt : L.Pairwise (· < ·)) (mem : ∀ q, q ∈ L ↔ q ∈ R) (pos : ∀ q ∈ L, 1 ≤ q) {i id : Nat} (hid : id = if i = 0 then 0 else L[i - 1]?.getD 0) (hi : i ≤ L.length) : bestN id 0 R = L[i]?.getD 0 := by
  obtain ⟨s1, s2⟩ := bestN_spec id R 0 (.inl rfl)
  have pw := List.pairwise_iff_getElem.1 srt
  have above : ∀ j (hj : j < L.length), id < L[j] ↔ i ≤ j := by
    intro j hj
    rw [hid]
    by_cases h0 : i = 0
    · rw [if_pos h0]
      have := pos _ (List.getElem_mem hj)
      omega
    · rw [if_neg h0, List.getElem?_eq_getElem (by omega), Option.getD_some]
      rcases Nat.lt_trichotomy (i - 1) j with h | h | h
      · have := pw (i - 1) j (by omega) hj h; omega
      · subst h; omega
      · have := pw j (i - 1) hj (by omega) h; omega
  by_cases hl : i < L.length
  · rw [List.getElem?_eq_getElem hl, Option.getD_some]
    have hR : L[i] ∈ R := (mem _).1 (List.getElem_mem hl)
    have lt := (above i hl).2 (Nat.le_refl _)
    have nz : bestN id 0 R ≠ 0 := fun h => (s1 h).2 _ hR lt
    obtain ⟨t1, t2, _, t4⟩ := s2 nz
    have le := t4 _ hR lt
    rcases t2 with t2 | t2
    · exact absurd t2 nz
    · obtain ⟨j, hj, ej⟩ := List.getElem_of_mem ((mem _).2 t2)
      rw [← ej] at t1 le ⊢
      have ij := (above j hj).1 t1
      by_cases e : i = j
      · subst e; rfl
      · have := pw i j hl hj (by omega); omega
  · rw [List.getElem?_eq_none (by omega), Option.getD_none]
    cases hb : bestN id 0 R with
    | zero => rfl
    | succ n =>
      obtain ⟨t1, t2, _, _⟩ := s2 (by omega)
      rcases t2 with t2 | t2
      · omega
      · obtain ⟨j, hj, ej⟩ := List.getElem_of_mem ((mem _).2 t2)
        rw [← ej] at t1
        have := (above j hj).1 t1
        omega
def hidsO : Abs.Spec := fun args h k => ∃ (E : Nat → Prop) (lv : Value) (most : Nat) (R L : List Nat), args = [encJ lv most] ∧ R.length ≤ 100000 ∧ L.length ≤ 100000 ∧ L.Pairwise (· < ·) ∧ (∀ q, q ∈ L ↔ q ∈ R) ∧ (∀ q ∈ L, 1 ≤ q) ∧ JtS E h lv R ∧
  ∀ h' sv, Chg h h' [] → OwnS (fun i => h.next ≤ i) h' sv 1 (L.map fun (q : Nat) => Value.int .u32 (q : Int)) L.length → k sv h'
theorem hids_l0 {nn b : Nat} {lv x2 : Value} {E : Nat → Prop} {most : Nat} {R L : List Nat} {h0 : St} {k : Cont} (few : R.length ≤ 100000) (lew : L.length ≤ 100000) (srt : L.Pairwise (· < ·)) (mem : ∀ q, q ∈ L ↔ q ∈ R) (pos : ∀ q ∈ L, 1 ≤ q) (s : JtS E h0 lv R) (bn : b < h0.next) (ob : h0.objs b = some (.cells [lv, .int .i64 (most : Int)] true))
    (H : ∀ h' sv, Chg h0 h' [] → OwnS (fun i => h0.next ≤ i) h' sv 1 (L.map fun (q : Nat) => Value.int .u32 (q : Int)) L.length → k sv h') :
    ∀ (d i m0 : Nat) (h : St) (out : Value), i + d = L.length → d < m0 → Chg h0 h [] → OwnS (fun i => h0.next ≤ i) h out 1 ((L.take i).map fun (q : Nat) => Value.int .u32 (q : Int)) i →
      tiltyardref07_Ids_l0 (tabC [(73, hnextO)]) idG nn m0 (.pointer (some ⟨b, 0, none⟩)) x2 out (.int .u32 ((L[i]?.getD 0 : Nat) : Int)) (.bool (decide (L[i]?.getD 0 ≠ 0))) h (fun v h1 => ∃ h2, St.le h2 h1 ∧ k v h2) := by
  intro d
  induction d with
  | zero =>
    intro i m0 h out hi hm c o
    obtain ⟨m0, rfl⟩ : ∃ m, m0 = m + 1 := ⟨m0 - 1, by omega⟩
    rw [tiltyardref07_Ids_l0_eq]
    have e' : i = L.length := by omega
    subst e'
    rw [List.take_length] at o
    rw [List.getElem?_eq_none (Nat.le_refl _), Option.getD_none]
    simp only [ne_eq, not_true_eq_false, decide_false, condK_bool, Bool.false_eq_true, if_false, idG_eq]
    rw [tiltyardref07_Ids_j1_eq]
    exact ⟨h, St.le.refl _, H h out c o⟩
  | succ d ih =>
    intro i m0 h out hi hm c o
    obtain ⟨m0, rfl⟩ : ∃ m, m0 = m + 1 := ⟨m0 - 1, by omega⟩
    rw [tiltyardref07_Ids_l0_eq]
    have hl : i < L.length := by omega
    have e : L[i]? = some L[i] := List.getElem?_eq_getElem hl
    obtain ⟨q, eq⟩ : ∃ q, q = L[i] := ⟨_, rfl⟩
    rw [← eq] at e
    rw [e, Option.getD_some]
    have hq : q ≠ 0 := by have := pos _ (List.getElem_mem hl); omega
    have m := c.1
    have hq' : decide (q ≠ 0) = true := decide_eq_true hq
    simp only [hq', condK_bool, if_true, idG_eq]
    have tak : (L.take (i + 1)).map (fun (q : Nat) => Value.int .u32 (q : Int)) = (L.take i).map (fun (q : Nat) => Value.int .u32 (q : Int)) ++ [.int .u32 (q : Int)] := by
      rw [List.take_succ_eq_append_getElem hl, List.map_append, eq]; rfl
    refine append_row (B := fun i => h0.next ≤ i) (fun j hj => by omega) o rfl rfl rfl rfl (by omega) (by omega) fun h5 out5 c5 s5 => ?_
    have c05 : Chg h0 h5 [] := ((c.nil (fun i => h0.next ≤ i)).step c5).list fun j h1 h2 => by omega
    rw [boxJ_load s (c05.at0 bn ob)]
    simp only [bindV_some]
    refine .inl ⟨rfl, E, lv, most, R, q, rfl, few, s.chg0 c05, fun h6 c6 => ?_⟩
    rw [next_of (i := i + 1) srt mem pos (by rw [if_neg (by omega), Nat.add_sub_cancel, e]; rfl) (by omega)]
    simp only [extV_two0, extV_two1, bindV_some, idG_eq]
    refine ih (i + 1) m0 h6 out5 (by omega) (by omega) (c05.seq c6) ?_
    rw [tak]
    exact OwnS.chg s5 c6 (by simp)
theorem hidsO_good : SpecGood Try.prog (53, hidsO) := by
  refine spec_good mixed Try.func53 (by kernel_rfl) (by kernel_rfl) (tab := [(73, hnextO)]) (by simp [hnextO_good]) (keep := tiltyardref07_Ids_keep) ?_
  rintro args h k ⟨E, lv, most, R, L, rfl, few, lew, srt, mem, pos, s, H⟩
  refine ⟨L.length + 1, ?_⟩
  show tiltyardref07_Ids (tabC _) idG _ (encJ lv most) h _
  rw [tiltyardref07_Ids_eq]
  refine s.box most fun h1 c1 n1 o1 => ?_
  rw [boxJ_load s o1]
  simp only [bindV_some]
  refine .inl ⟨rfl, E, lv, most, R, 0, rfl, few, s.chg0 c1, fun h2 c2 => ?_⟩
  rw [next_of (i := 0) srt mem pos (by rw [if_pos rfl]) (by omega)]
  simp only [extV_two0, extV_two1, bindV_some, idG_eq]
  have cc := c1.seq c2
  exact hids_l0 few lew srt mem pos (s.chg0 cc) (by have := c2.1; omega) (c2.at0 (by omega) o1) (fun h' sv c o => H h' sv (cc.seq c) (o.imp fun j _ hj => Nat.le_trans cc.1 hj)) L.length 0 _ h2 _ (by omega) (by omega) (Chg.refl _ _) (.inl ⟨rfl, rfl, rfl⟩)
end Go.Proofs.Ytnelcpabjpchnaa
