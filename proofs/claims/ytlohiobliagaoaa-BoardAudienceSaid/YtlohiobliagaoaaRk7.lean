/- Ids that rise; the document's rack of ids (find, Next, Ids, Drop, Put, Same); small laws. -/
import Derived.Test.YtlohiobliagaoaaAbsMap3
import Derived.Test.YtlohiobliagaoaaSrt
import Derived.Test.YtlohiobliagaoaaGenH
set_option linter.unusedSimpArgs false
set_option linter.unusedVariables false
set_option maxHeartbeats 4000000
namespace Go.Proofs.Ytlohiobliagaoaa
open Go.Abs Go.IntWalk
attribute [local congr] bindV_weak condK_weak guardK_weak groupK_weak allocE_weak boxE_weak storeE_weak storeM_weak tabC_weak ite_weak idG_weak appendE_weak buildSliceE_weak mapUpdateE_weak deleteE_weak makeMapE_weak copyE_weak clearE_weak callE_weak

/-- An id. -/
def rid (x : Nat) : Prop := 1 ≤ x ∧ x ≤ 2147483647
def rightId (id : Nat) : Bool := decide (1 ≤ id) && decide (id ≤ 2147483647)
theorem rightId_iff {x : Nat} : rightId x = true ↔ rid x := by simp [rightId, rid]
def rightO : Abs.Spec := fun args h k => ∃ id : Nat, args = [.int .u32 id] ∧ k (.bool (rightId id)) h
theorem rightO_good : SpecGood Try.prog (28, rightO) := by
  refine spec_good mixed Try.func28 (by kernel_rfl) (by kernel_rfl) (tab := []) (by simp) (keep := rack_Right_keep) ?_
  rintro args h k ⟨id, rfl, H⟩
  refine ⟨0, ?_⟩
  show rack_Right (tabC _) idG 0 (.int .u32 (id : Int)) h _
  rw [rack_Right_eq]
  simp only [binNil_int, binV_geq, binV_leq, bindV_some, groupK_eq, guardK_bool, decide_eq_true_eq]
  unfold rightId at H
  by_cases h1 : 1 ≤ id
  · have e : (id : Int) ≥ 1 := by omega
    rw [if_pos e]
    simp only [e, bindV_some, binNil_int, binV_leq, idG_eq, decide_true, pickV_bool, if_true, getT]
    have e2 : decide ((id : Int) ≤ 2147483647) = decide (id ≤ 2147483647) := decide_eq_decide.2 (by omega)
    rw [decide_eq_true h1, Bool.true_and] at H
    rw [e2]
    exact ⟨h, St.le.refl _, H⟩
  · have e : ¬ (id : Int) ≥ 1 := by omega
    rw [if_neg e]
    simp only [e, bindV_some, idG_eq, decide_false, pickV_bool, Bool.false_eq_true, if_false]
    rw [decide_eq_false h1, Bool.false_and] at H
    exact ⟨h, St.le.refl _, H⟩
theorem unV_not (b : Bool) : unV .not (.bool b) = some (.bool (!b)) := rfl
theorem topId_is : ∃ n : Nat, n = 2147483648 := ⟨_, rfl⟩
/-- Behind the greatest id (a number that is not reckoned out). -/
noncomputable def topId : Nat := Classical.choose topId_is
theorem topId_eq : topId = 2147483648 := Classical.choose_spec topId_is
/-- All ids of which something is so, rising. -/
noncomputable def ups (P : Nat → Bool) : List Nat := (List.range topId).filter P
theorem ups_mem {P : Nat → Bool} {x : Nat} : x ∈ ups P ↔ x < topId ∧ P x = true := by simp [ups]
theorem ups_rise (P : Nat → Bool) : (ups P).Pairwise (· < ·) := List.Pairwise.filter _ List.pairwise_lt_range
theorem rise_uniq : ∀ {A B : List Nat}, A.Pairwise (· < ·) → B.Pairwise (· < ·) → (∀ x, x ∈ A ↔ x ∈ B) → A = B
  | [], [], _, _, _ => rfl
  | [], b :: B, _, _, h => by have := (h b).2 (by simp); cases this
  | a :: A, [], _, _, h => by have := (h a).1 (by simp); cases this
  | a :: A, b :: B, pa, pb, h => by
    obtain ⟨a1, a2⟩ := List.pairwise_cons.1 pa
    obtain ⟨b1, b2⟩ := List.pairwise_cons.1 pb
    have e : a = b := by
      rcases List.mem_cons.1 ((h a).1 (by simp)) with e | m
      · exact e
      · rcases List.mem_cons.1 ((h b).2 (by simp)) with e | m'
        · exact e.symm
        · have := b1 _ m; have := a1 _ m'; omega
    subst e
    congr 1
    refine rise_uniq a2 b2 fun x => ⟨fun hx => ?_, fun hx => ?_⟩
    · rcases List.mem_cons.1 ((h x).1 (by simp [hx])) with e | m
      · have := a1 x hx; omega
      · exact m
    · rcases List.mem_cons.1 ((h x).2 (by simp [hx])) with e | m
      · have := b1 x hx; omega
      · exact m
theorem ups_eq {R : List Nat} {P : Nat → Bool} (s : R.Pairwise (· < ·)) (m : ∀ x, x ∈ R ↔ x < topId ∧ P x = true) : R = ups P :=
  rise_uniq s (ups_rise P) fun x => by rw [m, ups_mem]
theorem ups_congr {P Q : Nat → Bool} (h : ∀ x, x < topId → P x = Q x) : ups P = ups Q :=
  ups_eq (ups_rise P) fun x => by
    rw [ups_mem]
    constructor
    · rintro ⟨a, b⟩; exact ⟨a, by rw [← h x a]; exact b⟩
    · rintro ⟨a, b⟩; exact ⟨a, by rw [h x a]; exact b⟩
def idq (q : Nat) : Value := .int .u32 (q : Int)
theorem lt_or_rise {R : List Nat} (s : R.Pairwise (· ≤ ·)) (n : R.Nodup) : R.Pairwise (· < ·) := (s.and n).imp fun h => by have := h.1; have := h.2; omega
def OwnQ (B : Nat → Prop) (h : St) (v : Value) (R : List Nat) : Prop := OwnS B h v 1 (R.map idq) R.length
theorem ups_none : ups (fun _ => false) = [] := by simp [ups]
theorem eqN (k : IntKind) (a b : Nat) : binV .eql .other (.int k (a : Int)) (.int k (b : Int)) = some (.bool (decide (a = b))) := by
  rw [binV_eql, show decide ((a : Int) = (b : Int)) = decide (a = b) from decide_eq_decide.2 (by omega)]
theorem neN (k : IntKind) (a b : Nat) : binV .neq .other (.int k (a : Int)) (.int k (b : Int)) = some (.bool (!decide (a = b))) := by
  rw [binV_neq, show decide ((a : Int) ≠ (b : Int)) = !decide (a = b) by
    by_cases h : a = b
    · simp [h]
    · have : (a : Int) ≠ (b : Int) := by omega
      simp [h, this]]
theorem len_sub : ∀ {A B : List Nat}, A.Pairwise (· < ·) → (∀ x ∈ A, x ∈ B) → A.length ≤ B.length
  | [], _, _, _ => Nat.zero_le _
  | a :: A, B, p, h => by
    obtain ⟨p1, p2⟩ := List.pairwise_cons.1 p
    have m := h a (by simp)
    have := len_sub (B := B.erase a) p2 fun x hx => by
      have := p1 x hx
      exact (List.mem_erase_of_ne (by omega)).2 (h x (by simp [hx]))
    rw [List.length_erase_of_mem m] at this
    have : 0 < B.length := List.length_pos_of_mem m
    simp; omega
theorem ups_few {L : List Nat} : (ups fun x => decide (x ∈ L)).length ≤ L.length := len_sub (ups_rise _) fun x hx => by have := (ups_mem.1 hx).2; simpa using this
theorem own_rowq {D : Nat → Prop} {h0 : St} {v : Value} {L : List Nat} (s : OwnQ D h0 v L) {i : Nat} (hi : i < L.length) (k : IntKind) :
    ∃ b o, idxS 1 v (.int k i) = some (.pointer (some ⟨b, o, none⟩)) ∧ ∀ h, Chg h0 h [] → loadV false 1 (.pointer (some ⟨b, o, none⟩)) h = some (idq L[i]) := by
  have s' : OwnS D h0 v 1 (L.flatMap fun x => [idq x]) L.length := by
    have : (L.flatMap fun x => [idq x]) = L.map idq := by
      clear s hi
      induction L with
      | nil => rfl
      | cons x L ih => rw [List.flatMap_cons, ih, List.map_cons]; rfl
    rw [this]; exact s
  obtain ⟨b, o, g1, g2, g3, cs, g4, g5⟩ := s'.row (by simp) (List.getElem?_eq_getElem hi) k
  refine ⟨b, o, g1, fun h c => ?_⟩
  have := row_cell g5 0 (by omega)
  simp only [Nat.add_zero, List.getElem?_cons_zero] at this
  simp only [loadV_ptr, c.at0 g3 g4, loadM_cells, partV_one, this]
theorem flat_take {α β : Type} {f : α → List β} {R : List α} {i : Nat} (hi : i < R.length) : (R.take (i + 1)).flatMap f = (R.take i).flatMap f ++ f R[i] := by
  rw [List.take_succ_eq_append_getElem hi, List.flatMap_append]; simp
theorem flat_len {α β : Type} {f : α → List β} {c : Nat} : ∀ {R : List α}, (∀ x ∈ R, (f x).length ≤ c) → (R.flatMap f).length ≤ c * R.length
  | [], _ => by simp
  | x :: R, h => by
    have := flat_len (f := f) (c := c) (R := R) fun y hy => h y (by simp [hy])
    have := h x (by simp)
    rw [List.flatMap_cons, List.length_append, List.length_cons, Nat.mul_add]; omega
/-- An id put behind a row of one's own. -/
theorem push_q {n0 : Nat} {h : St} {v : Value} {L : List Nat} {x : Nat} {k : Cont} (hn : n0 ≤ h.next) (s : OwnQ (fun i => n0 ≤ i) h v L) (few : L.length ≤ 100000)
    (hk : ∀ h' v', ChgP (fun i => n0 ≤ i) h h' → OwnQ (fun i => n0 ≤ i) h' v' (L ++ [x]) → k v' h') : buildSliceE 1 1 [.int .u32 0] [(0 * 1, 1, .int .u32 (x : Int))] h fun v2 h2 => appendE 1 4 v v2 h2 k := by
  refine append_row (B := fun i => n0 ≤ i) (fun j hj => by omega) s rfl rfl rfl rfl (by omega) (by omega) fun h5 out5 c5 s5 => hk h5 out5 c5 ?_
  unfold OwnQ; rw [List.map_append, List.length_append]; exact s5
theorem fresh_out {h0 h h' : St} (c : Chg h0 h []) (d : ChgP (fun i => h0.next ≤ i) h h') : Chg h0 h' [] := ((c.nil (fun i => h0.next ≤ i)).step d).list fun j h1 h2 => by omega
theorem eqB (a b : Bool) : binV .eql .bool (.bool a) (.bool b) = some (.bool (a == b)) := by cases a <;> cases b <;> rfl
theorem append_rowC {B : Nat → Prop} {h : St} {v x : Value} {sz n bytes : Nat} {cs z : List Value} {k : Cont} {Q : St → Prop} (hB : ∀ i, h.next ≤ i → B i) (s : OwnS B h v sz cs n) (hz : z.length = sz) (hx : x.cells.size = sz) (h1 : allOne x.cells.toList = true) (hu : isUnk x = false)
    (hb : (n + 1) * bytes ≤ 140737488355328) (hb' : n + 1 ≤ 140737488355328) (hQ : ∀ h2, Chg h h2 [] → Q h2) (hk : ∀ h' v', ChgP B h h' → OwnS B h' v' sz (cs ++ x.cells.toList) (n + 1) → k v' h') : buildSliceE sz 1 z [(0 * sz, sz, x)] h fun v2 h2 => Q h2 ∧ appendE sz bytes v v2 h2 k := by
  have hl : x.cells.toList.length = sz := by simpa using hx
  have hf : fillL [(0 * sz, sz, x)] (repL z 1) = some x.cells.toList := by
    simp only [fillL, repL, List.append_nil, Nat.zero_mul, Nat.zero_add]
    rw [if_pos ⟨hx, by omega⟩, List.take_zero, List.nil_append, ← hz, List.drop_length, List.append_nil]
  refine buildSliceE_in x.cells.toList hf h1 (by simp [hu]) fun h2 c2 n2 o2 => ⟨hQ h2 c2, ?_⟩
  have hn : newCells sz (.slice (some ⟨h.next, 0, some sz⟩) 1 0) h2 = some (x.cells.toList, 1) := by
    simp only [newCells, o2, Nat.one_mul]
    unfold takeN
    rw [if_pos (by omega), List.drop_zero, ← hl, List.take_length]
    rfl
  have s2 := s.chg c2 (by simp)
  exact append_own' (hB _ (by omega)) s2 hn (by omega) h1 hb hb' fun h' v' c s' => hk h' v' ((c2.nil B).step c) s'
theorem chg_loop {h hb hc : St} {b : Nat} (c0 : Chg h hb []) (c : ChgP (fun i => i = b ∨ hb.next ≤ i) hb hc) (hb' : h.next ≤ b) : Chg h hc [] := by
  have m := c0.1
  exact ((c0.nil (fun i => h.next ≤ i)).step (c.mono fun i _ hi => by omega)).list fun j h1 h2 => by omega
def grightO : Abs.Spec := fun args h k => ∃ id : Nat, args = [.int .u32 id] ∧ k (.bool (rightId id)) h
theorem grightO_good : SpecGood Try.prog (29, grightO) := by
  refine spec_good mixed Try.func29 (by kernel_rfl) (by kernel_rfl) (tab := []) (by simp) (keep := tiltyardref07_Right_keep) ?_
  rintro args h k ⟨id, rfl, H⟩
  refine ⟨0, ?_⟩
  show tiltyardref07_Right (tabC _) idG 0 (.int .u32 (id : Int)) h _
  rw [tiltyardref07_Right_eq]
  simp only [binNil_int, binV_neq, binV_leq, bindV_some, groupK_eq, guardK_bool, decide_eq_true_eq]
  unfold rightId at H
  by_cases h1 : 1 ≤ id
  · have e : (id : Int) ≠ 0 := by omega
    rw [if_pos e]
    simp only [binNil_int, binV_leq, bindV_some, idG_eq]
    rw [decide_eq_true e]
    simp only [pickV_bool, if_true, getT, bindV_some]
    have e2 : decide ((id : Int) ≤ 2147483647) = decide (id ≤ 2147483647) := decide_eq_decide.2 (by omega)
    rw [decide_eq_true h1, Bool.true_and] at H
    rw [e2]
    exact ⟨h, St.le.refl _, H⟩
  · have e : ¬ (id : Int) ≠ 0 := by omega
    rw [if_neg e]
    rw [decide_eq_false e]
    simp only [bindV_some, idG_eq, pickV_bool, Bool.false_eq_true, if_false]
    rw [decide_eq_false h1, Bool.false_and] at H
    exact ⟨h, St.le.refl _, H⟩
def cellsJ (q : Nat) : List Value := [.int .u32 (q : Int), .int .i64 0]
theorem len_J (x : Nat) : (cellsJ x).length = 2 := rfl
def JtS (E : Nat → Prop) (h : St) (lv : Value) (R : List Nat) : Prop := OwnS E h lv 2 (R.flatMap cellsJ) R.length
def encJ (lv : Value) (most : Nat) : Value := .agg #[lv, .int .i64 (most : Int)]
theorem JtS.chg0 {E : Nat → Prop} {h h' : St} {lv : Value} {R : List Nat} (s : JtS E h lv R) (c : Chg h h' []) : JtS E h' lv R := OwnS.chg s c (by simp)
theorem JtS.one {E : Nat → Prop} {h : St} {lv : Value} {R : List Nat} (s : JtS E h lv R) : Abs.one lv = true := OwnS.one s
theorem JtS.row0 {E : Nat → Prop} {h0 : St} {lv : Value} {R : List Nat} (s : JtS E h0 lv R) {i : Nat} (hi : i < R.length) (k : IntKind) :
    ∃ b o, idxS 2 lv (.int k i) = some (.pointer (some ⟨b, o, none⟩)) ∧ ∀ h, Chg h0 h [] → ∃ cs, h.objs b = some (.cells cs true) ∧ takeN cs o 2 = some (cellsJ R[i]) ∧ cs[o]? = some (.int .u32 (R[i] : Int)) := by
  obtain ⟨b, o, g1, g2, g3, cs, g4, g5⟩ := OwnS.row s (fun y _ => len_J y) (List.getElem?_eq_getElem hi) k
  exact ⟨b, o, g1, fun h c => ⟨cs, c.at0 g3 g4, g5, row_cell g5 0 (by omega)⟩⟩
theorem JtS.box {E : Nat → Prop} {h : St} {lv : Value} {R : List Nat} (s : JtS E h lv R) (most : Nat) {k : Cont} (K : ∀ h', Chg h h' [] → h'.next = h.next + 1 → h'.objs h.next = some (.cells [lv, .int .i64 (most : Int)] true) → k (.pointer (some ⟨h.next, 0, none⟩)) h') : boxE (encJ lv most) h k := by
  refine boxE_in ?_ K
  have h1 := s.one
  show allOne [lv, _] = true
  simp only [allOne, h1, Bool.true_and]
  rfl
theorem boxJ_load {E : Nat → Prop} {h : St} {lv : Value} {R : List Nat} (s : JtS E h lv R) {b : Nat} {most : Nat} {h' : St} (ob : h'.objs b = some (.cells [lv, .int .i64 (most : Int)] true)) : loadV true 2 (.pointer (some ⟨b, 0, none⟩)) h' = some (encJ lv most) := by
  have tk : takeN [lv, .int .i64 (most : Int)] 0 2 = some [lv, .int .i64 (most : Int)] := rfl
  simp only [loadV_ptr, ob, loadM_cells, partV_agg, tk, Option.map_some]
  rfl
/-! ### find -/
def hfindO : Abs.Spec := fun args h k => ∃ (E : Nat → Prop) (lv : Value) (most : Nat) (R : List Nat) (q : Nat), args = [encJ lv most, .int .u32 (q : Int)] ∧ R.length ≤ 100000 ∧ JtS E h lv R ∧
  (∀ h' (i : Nat), Chg h h' [] → k (.int .i64 (i : Int)) h') ∧ (∀ h', Chg h h' [] → k (.int .i64 (-1)) h')
theorem hfind_l0 {nn b : Nat} {lv x4 : Value} {E : Nat → Prop} {most : Nat} {R : List Nat} {q : Nat} {h0 h : St} {k : Cont} (few : R.length ≤ 100000) (s : JtS E h0 lv R) (ch : Chg h0 h []) (ob : h.objs b = some (.cells [lv, .int .i64 (most : Int)] true))
    (H1 : ∀ (i : Nat), k (.int .i64 (i : Int)) h) (H2 : k (.int .i64 (-1)) h) :
    ∀ (d i m0 : Nat), i + d = R.length → d < m0 → tiltyardref07_find_l0 (tabC []) idG nn m0 (.int .u32 (q : Int)) (.pointer (some ⟨b, 0, none⟩)) x4 (.int .i64 (i : Int)) h (fun v h1 => ∃ h2, St.le h2 h1 ∧ k v h2) := by
  intro d
  induction d with
  | zero =>
    intro i m0 hi hm
    obtain ⟨m0, rfl⟩ : ∃ m, m0 = m + 1 := ⟨m0 - 1, by omega⟩
    rw [tiltyardref07_find_l0_eq]
    have e' : i = R.length := by omega
    subst e'
    simp only [offV_ptr, bindV_some, loadV_ptr, ob, loadM_cells, partV_one, List.getElem?_cons_zero, Nat.zero_add, OwnS.len s, binV_lss, condK_bool, Int.lt_irrefl, decide_false, Bool.false_eq_true, if_false, idG_eq]
    rw [tiltyardref07_find_j1_eq]
    exact ⟨h, St.le.refl _, H2⟩
  | succ d ih =>
    intro i m0 hi hm
    obtain ⟨m0, rfl⟩ : ∃ m, m0 = m + 1 := ⟨m0 - 1, by omega⟩
    rw [tiltyardref07_find_l0_eq]
    have hlt : (i : Int) < R.length := by omega
    have inc : IntKind.i64.wrap ((i : Int) + 1) = ((i + 1 : Nat) : Int) := by rw [i64_in _ (by omega)]; omega
    obtain ⟨b', o, g1, g2⟩ := s.row0 (show i < R.length by omega) .i64
    obtain ⟨cs, g4, _, g5⟩ := g2 h ch
    simp only [offV_ptr, bindV_some, loadV_ptr, ob, loadM_cells, partV_one, List.getElem?_cons_zero, Nat.zero_add, OwnS.len s, binV_lss, condK_bool, hlt, decide_true, if_true, idG_eq, g1, Nat.add_zero, g4, g5, binV_eql, decide_eq_true_eq]
    by_cases e : (R[i] : Int) = (q : Int)
    · rw [if_pos e]
      exact ⟨h, St.le.refl _, H1 i⟩
    · rw [if_neg e]
      simp only [idG_eq, binNil_int, binV_add, bindV_some, inc]
      exact ih (i + 1) m0 (by omega) (by omega)
theorem hfindO_good : SpecGood Try.prog (36, hfindO) := by
  refine spec_good mixed Try.func36 (by kernel_rfl) (by kernel_rfl) (tab := []) (by simp) (keep := tiltyardref07_find_keep) ?_
  rintro args h k ⟨E, lv, most, R, q, rfl, few, s, H1, H2⟩
  refine ⟨R.length + 1, ?_⟩
  show tiltyardref07_find (tabC []) idG _ (encJ lv most) (.int .u32 (q : Int)) h _
  rw [tiltyardref07_find_eq]
  refine s.box most fun h1 c1 n1 o1 => ?_
  simp only [idG_eq]
  exact hfind_l0 few s c1 o1 (fun i => H1 h1 i c1) (H2 h1 c1) R.length 0 _ (by omega) (by omega)
/-! ### Next -/
def bestN (id : Nat) : Nat → List Nat → Nat
  | b, [] => b
  | b, x :: R => bestN id (if id < x ∧ (b = 0 ∨ x < b) then x else b) R
theorem bestN_spec (id : Nat) : ∀ (R : List Nat) (b : Nat), (b = 0 ∨ id < b) → (bestN id b R = 0 → b = 0 ∧ ∀ x ∈ R, ¬ id < x) ∧ (bestN id b R ≠ 0 → id < bestN id b R ∧ (bestN id b R = b ∨ bestN id b R ∈ R) ∧ (b ≠ 0 → bestN id b R ≤ b) ∧ ∀ x ∈ R, id < x → bestN id b R ≤ x)
  | [], b, hb => by
    refine ⟨fun h => ⟨h, by simp⟩, fun h => ⟨?_, .inl rfl, fun _ => Nat.le_refl _, by simp⟩⟩
    have h : b ≠ 0 := h
    show id < b
    omega
  | x :: R, b, hb => by
    obtain ⟨b', hb'⟩ : ∃ b', b' = (if id < x ∧ (b = 0 ∨ x < b) then x else b) := ⟨_, rfl⟩
    have e : bestN id b (x :: R) = bestN id b' R := by rw [hb']; rfl
    rw [e]
    have hbb : b' = 0 ∨ id < b' := by rw [hb']; split <;> omega
    obtain ⟨s1, s2⟩ := bestN_spec id R b' hbb
    refine ⟨fun h => ?_, fun h => ?_⟩
    · obtain ⟨h0, h1⟩ := s1 h
      rw [hb'] at h0
      split at h0
      · omega
      · rename_i hn
        refine ⟨h0, fun y hy => ?_⟩
        rcases List.mem_cons.1 hy with rfl | hy
        · exact fun hh => hn ⟨hh, .inl h0⟩
        · exact h1 y hy
    · obtain ⟨t1, t2, t3, t4⟩ := s2 h
      refine ⟨t1, ?_, fun hb0 => ?_, fun y hy hh => ?_⟩
      · rcases t2 with t2 | t2
        · rw [t2, hb']
          split
          · exact .inr (List.mem_cons_self ..)
          · exact .inl rfl
        · exact .inr (List.mem_cons_of_mem _ t2)
      · have : b' ≠ 0 ∧ b' ≤ b := by rw [hb']; split <;> omega
        have := t3 this.1; omega
      · rcases List.mem_cons.1 hy with rfl | hy
        · have : b' ≠ 0 ∧ b' ≤ y := by rw [hb']; split <;> omega
          have := t3 this.1; omega
        · exact t4 y hy hh
def hnextO : Abs.Spec := fun args h k => ∃ (E : Nat → Prop) (lv : Value) (most : Nat) (R : List Nat) (id : Nat), args = [encJ lv most, .int .u32 (id : Int)] ∧ R.length ≤ 100000 ∧ JtS E h lv R ∧
  ∀ h', Chg h h' [] → k (.tuple #[.int .u32 (bestN id 0 R : Int), .bool (decide (bestN id 0 R ≠ 0))]) h'
theorem hnext_l0 {nn b : Nat} {lv x4 x5 : Value} {E : Nat → Prop} {most : Nat} {R : List Nat} {id : Nat} {h0 h : St} {k : Cont} (few : R.length ≤ 100000) (s : JtS E h0 lv R) (ch : Chg h0 h []) (ob : h.objs b = some (.cells [lv, .int .i64 (most : Int)] true))
    (H : k (.tuple #[.int .u32 (bestN id 0 R : Int), .bool (decide (bestN id 0 R ≠ 0))]) h) :
    ∀ (d i m0 bb : Nat), i + d = R.length → d < m0 → bestN id bb (R.drop i) = bestN id 0 R → tiltyardref07_Next_l0 (tabC []) idG nn m0 (.int .u32 (id : Int)) (.pointer (some ⟨b, 0, none⟩)) x4 x5 (.int .u32 (bb : Int)) (.int .i64 (i : Int)) h (fun v h1 => ∃ h2, St.le h2 h1 ∧ k v h2) := by
  intro d
  induction d with
  | zero =>
    intro i m0 bb hi hm e
    obtain ⟨m0, rfl⟩ : ∃ m, m0 = m + 1 := ⟨m0 - 1, by omega⟩
    rw [tiltyardref07_Next_l0_eq]
    have e' : i = R.length := by omega
    subst e'
    rw [List.drop_length] at e
    have e : bb = bestN id 0 R := e
    simp only [offV_ptr, bindV_some, loadV_ptr, ob, loadM_cells, partV_one, List.getElem?_cons_zero, Nat.zero_add, OwnS.len s, binV_lss, condK_bool, Int.lt_irrefl, decide_false, Bool.false_eq_true, if_false, idG_eq]
    rw [tiltyardref07_Next_j2_eq]
    have e2 : decide ((bb : Int) ≠ 0) = decide (bestN id 0 R ≠ 0) := decide_eq_decide.2 (by rw [← e]; omega)
    simp only [binNil_int, binV_neq, bindV_some, e2]
    rw [← e] at H ⊢
    exact ⟨h, St.le.refl _, H⟩
  | succ d ih =>
    intro i m0 bb hi hm e
    obtain ⟨m0, rfl⟩ : ∃ m, m0 = m + 1 := ⟨m0 - 1, by omega⟩
    rw [tiltyardref07_Next_l0_eq]
    have hlt : (i : Int) < R.length := by omega
    have inc : IntKind.i64.wrap ((i : Int) + 1) = ((i + 1 : Nat) : Int) := by rw [i64_in _ (by omega)]; omega
    obtain ⟨b', o, g1, g2⟩ := s.row0 (show i < R.length by omega) .i64
    obtain ⟨cs, g4, _, g5⟩ := g2 h ch
    have dr : R.drop i = R[i] :: R.drop (i + 1) := List.drop_eq_getElem_cons (by omega)
    obtain ⟨x, ex⟩ : ∃ x, x = R[i] := ⟨_, rfl⟩
    rw [← ex] at g5 dr
    rw [dr] at e
    have e : bestN id (if id < x ∧ (bb = 0 ∨ x < bb) then x else bb) (R.drop (i + 1)) = bestN id 0 R := e
    have keep : ∀ y : Nat, y = (if id < x ∧ (bb = 0 ∨ x < bb) then x else bb) → tiltyardref07_Next_j1 (tabC []) idG nn m0 (.int .u32 (id : Int)) (.pointer (some ⟨b, 0, none⟩)) x4 x5 (.int .u32 (y : Int)) (.int .i64 (i : Int)) h (fun v h1 => ∃ h2, St.le h2 h1 ∧ k v h2) := by
      intro y hy
      rw [tiltyardref07_Next_j1_eq]
      simp only [binNil_int, binV_add, bindV_some, inc, idG_eq]
      exact ih (i + 1) m0 y (by omega) (by omega) (by rw [hy]; exact e)
    simp only [offV_ptr, bindV_some, loadV_ptr, ob, loadM_cells, partV_one, List.getElem?_cons_zero, Nat.zero_add, OwnS.len s, binV_lss, condK_bool, hlt, decide_true, if_true, idG_eq, g1, Nat.add_zero, g4, g5, binV_gtr, groupK_eq, guardK_bool, decide_eq_true_eq]
    by_cases h1 : id < x
    · have h1' : (x : Int) > (id : Int) := by omega
      rw [if_pos h1']
      simp only [binNil_int, binV_eql, bindV_some, idG_eq, getT, groupK_eq, guardK_bool, decide_eq_false_iff_not]
      by_cases h2 : bb = 0
      · have h2' : (bb : Int) = 0 := by omega
        rw [if_neg (by simpa using h2')]
        simp only [h1', h2', decide_true, groupK_eq, guardK_bool, if_true, pickV_bool, bindV_some, idG_eq, getT, condK_bool]
        exact keep x (by rw [if_pos ⟨h1, .inl h2⟩])
      · have h2' : ¬ (bb : Int) = 0 := by omega
        rw [if_pos h2']
        simp only [binV_lss, h1', h2', decide_true, decide_false, groupK_eq, guardK_bool, if_true, pickV_bool, bindV_some, idG_eq, getT, condK_bool, Bool.false_eq_true, if_false, decide_eq_true_eq]
        by_cases h3 : x < bb
        · have h3' : (x : Int) < (bb : Int) := by omega
          rw [if_pos h3']
          exact keep x (by rw [if_pos ⟨h1, .inr h3⟩])
        · have h3' : ¬ (x : Int) < (bb : Int) := by omega
          rw [if_neg h3']
          exact keep bb (by rw [if_neg (by omega)])
    · have h1' : ¬ (x : Int) > (id : Int) := by omega
      rw [if_neg h1']
      simp only [h1', decide_false, idG_eq, getT, groupK_eq, guardK_bool, pickV_bool, Bool.false_eq_true, if_false, bindV_some, condK_bool]
      exact keep bb (by rw [if_neg (by omega)])
theorem hnextO_good : SpecGood Try.prog (40, hnextO) := by
  refine spec_good mixed Try.func40 (by kernel_rfl) (by kernel_rfl) (tab := []) (by simp) (keep := tiltyardref07_Next_keep) ?_
  rintro args h k ⟨E, lv, most, R, id, rfl, few, s, H⟩
  refine ⟨R.length + 1, ?_⟩
  show tiltyardref07_Next (tabC []) idG _ (encJ lv most) (.int .u32 (id : Int)) h _
  rw [tiltyardref07_Next_eq]
  refine s.box most fun h1 c1 n1 o1 => ?_
  simp only [idG_eq]
  exact hnext_l0 few s c1 o1 (H h1 c1) R.length 0 _ 0 (by omega) (by omega) rfl
/-! ### Ids -/
/-- The next one of those that rise. -/
theorem next_of {R L : List Nat} (srt : L.Pairwise (· < ·)) (mem : ∀ q, q ∈ L ↔ q ∈ R) (pos : ∀ q ∈ L, 1 ≤ q) {i id : Nat} (hid : id = if i = 0 then 0 else L[i - 1]?.getD 0) (hi : i ≤ L.length) : bestN id 0 R = L[i]?.getD 0 := by
  obtain ⟨s1, s2⟩ := bestN_spec id R 0 (.inl rfl)
  have pw := List.pairwise_iff_getElem.1 srt
  have above : ∀ j (hj : j < L.length), id < L[j] ↔ i ≤ j := by
    intro j hj
    rw [hid]
    by_cases h0 : i = 0
    · rw [if_pos h0]
      have := pos _ (List.getElem_mem hj)
      omega
    · rw [if_neg h0, List.getElem?_eq_getElem (by omega), Option.getD_some]
      rcases Nat.lt_trichotomy (i - 1) j with h | h | h
      · have := pw (i - 1) j (by omega) hj h; omega
      · subst h; omega
      · have := pw j (i - 1) hj (by omega) h; omega
  by_cases hl : i < L.length
  · rw [List.getElem?_eq_getElem hl, Option.getD_some]
    have hR : L[i] ∈ R := (mem _).1 (List.getElem_mem hl)
    have lt := (above i hl).2 (Nat.le_refl _)
    have nz : bestN id 0 R ≠ 0 := fun h => (s1 h).2 _ hR lt
    obtain ⟨t1, t2, _, t4⟩ := s2 nz
    have le := t4 _ hR lt
    rcases t2 with t2 | t2
    · exact absurd t2 nz
    · obtain ⟨j, hj, ej⟩ := List.getElem_of_mem ((mem _).2 t2)
      rw [← ej] at t1 le ⊢
      have ij := (above j hj).1 t1
      by_cases e : i = j
      · subst e; rfl
      · have := pw i j hl hj (by omega); omega
  · rw [List.getElem?_eq_none (by omega), Option.getD_none]
    cases hb : bestN id 0 R with
    | zero => rfl
    | succ n =>
      obtain ⟨t1, t2, _, _⟩ := s2 (by omega)
      rcases t2 with t2 | t2
      · omega
      · obtain ⟨j, hj, ej⟩ := List.getElem_of_mem ((mem _).2 t2)
        rw [← ej] at t1
        have := (above j hj).1 t1
        omega
def hidsO : Abs.Spec := fun args h k => ∃ (E : Nat → Prop) (lv : Value) (most : Nat) (R L : List Nat), args = [encJ lv most] ∧ R.length ≤ 100000 ∧ L.length ≤ 100000 ∧ L.Pairwise (· < ·) ∧ (∀ q, q ∈ L ↔ q ∈ R) ∧ (∀ q ∈ L, 1 ≤ q) ∧ JtS E h lv R ∧
  ∀ h' sv, Chg h h' [] → OwnS (fun i => h.next ≤ i) h' sv 1 (L.map fun (q : Nat) => Value.int .u32 (q : Int)) L.length → k sv h'
theorem hids_l0 {nn b : Nat} {lv x2 : Value} {E : Nat → Prop} {most : Nat} {R L : List Nat} {h0 : St} {k : Cont} (few : R.length ≤ 100000) (lew : L.length ≤ 100000) (srt : L.Pairwise (· < ·)) (mem : ∀ q, q ∈ L ↔ q ∈ R) (pos : ∀ q ∈ L, 1 ≤ q) (s : JtS E h0 lv R) (bn : b < h0.next) (ob : h0.objs b = some (.cells [lv, .int .i64 (most : Int)] true))
    (H : ∀ h' sv, Chg h0 h' [] → OwnS (fun i => h0.next ≤ i) h' sv 1 (L.map fun (q : Nat) => Value.int .u32 (q : Int)) L.length → k sv h') :
    ∀ (d i m0 : Nat) (h : St) (out : Value), i + d = L.length → d < m0 → Chg h0 h [] → OwnS (fun i => h0.next ≤ i) h out 1 ((L.take i).map fun (q : Nat) => Value.int .u32 (q : Int)) i →
      tiltyardref07_Ids_l0 (tabC [(40, hnextO)]) idG nn m0 (.pointer (some ⟨b, 0, none⟩)) x2 out (.int .u32 ((L[i]?.getD 0 : Nat) : Int)) (.bool (decide (L[i]?.getD 0 ≠ 0))) h (fun v h1 => ∃ h2, St.le h2 h1 ∧ k v h2) := by
  intro d
  induction d with
  | zero =>
    intro i m0 h out hi hm c o
    obtain ⟨m0, rfl⟩ : ∃ m, m0 = m + 1 := ⟨m0 - 1, by omega⟩
    rw [tiltyardref07_Ids_l0_eq]
    have e' : i = L.length := by omega
    subst e'
    rw [List.take_length] at o
    rw [List.getElem?_eq_none (Nat.le_refl _), Option.getD_none]
    simp only [ne_eq, not_true_eq_false, decide_false, condK_bool, Bool.false_eq_true, if_false, idG_eq]
    rw [tiltyardref07_Ids_j1_eq]
    exact ⟨h, St.le.refl _, H h out c o⟩
  | succ d ih =>
    intro i m0 h out hi hm c o
    obtain ⟨m0, rfl⟩ : ∃ m, m0 = m + 1 := ⟨m0 - 1, by omega⟩
    rw [tiltyardref07_Ids_l0_eq]
    have hl : i < L.length := by omega
    have e : L[i]? = some L[i] := List.getElem?_eq_getElem hl
    obtain ⟨q, eq⟩ : ∃ q, q = L[i] := ⟨_, rfl⟩
    rw [← eq] at e
    rw [e, Option.getD_some]
    have hq : q ≠ 0 := by have := pos _ (List.getElem_mem hl); omega
    have m := c.1
    have hq' : decide (q ≠ 0) = true := decide_eq_true hq
    simp only [hq', condK_bool, if_true, idG_eq]
    have tak : (L.take (i + 1)).map (fun (q : Nat) => Value.int .u32 (q : Int)) = (L.take i).map (fun (q : Nat) => Value.int .u32 (q : Int)) ++ [.int .u32 (q : Int)] := by
      rw [List.take_succ_eq_append_getElem hl, List.map_append, eq]; rfl
    refine append_row (B := fun i => h0.next ≤ i) (fun j hj => by omega) o rfl rfl rfl rfl (by omega) (by omega) fun h5 out5 c5 s5 => ?_
    have c05 : Chg h0 h5 [] := ((c.nil (fun i => h0.next ≤ i)).step c5).list fun j h1 h2 => by omega
    rw [boxJ_load s (c05.at0 bn ob)]
    simp only [bindV_some]
    refine .inl ⟨rfl, E, lv, most, R, q, rfl, few, s.chg0 c05, fun h6 c6 => ?_⟩
    rw [next_of (i := i + 1) srt mem pos (by rw [if_neg (by omega), Nat.add_sub_cancel, e]; rfl) (by omega)]
    simp only [extV_two0, extV_two1, bindV_some, idG_eq]
    refine ih (i + 1) m0 h6 out5 (by omega) (by omega) (c05.seq c6) ?_
    rw [tak]
    exact OwnS.chg s5 c6 (by simp)
theorem hidsO_good : SpecGood Try.prog (24, hidsO) := by
  refine spec_good mixed Try.func24 (by kernel_rfl) (by kernel_rfl) (tab := [(40, hnextO)]) (by simp [hnextO_good]) (keep := tiltyardref07_Ids_keep) ?_
  rintro args h k ⟨E, lv, most, R, L, rfl, few, lew, srt, mem, pos, s, H⟩
  refine ⟨L.length + 1, ?_⟩
  show tiltyardref07_Ids (tabC _) idG _ (encJ lv most) h _
  rw [tiltyardref07_Ids_eq]
  refine s.box most fun h1 c1 n1 o1 => ?_
  rw [boxJ_load s o1]
  simp only [bindV_some]
  refine .inl ⟨rfl, E, lv, most, R, 0, rfl, few, s.chg0 c1, fun h2 c2 => ?_⟩
  rw [next_of (i := 0) srt mem pos (by rw [if_pos rfl]) (by omega)]
  simp only [extV_two0, extV_two1, bindV_some, idG_eq]
  have cc := c1.seq c2
  exact hids_l0 few lew srt mem pos (s.chg0 cc) (by have := c2.1; omega) (c2.at0 (by omega) o1) (fun h' sv c o => H h' sv (cc.seq c) (o.imp fun j _ hj => Nat.le_trans cc.1 hj)) L.length 0 _ h2 _ (by omega) (by omega) (Chg.refl _ _) (.inl ⟨rfl, rfl, rfl⟩)
def OutJ (n0 b : Nat) (h : St) (most : Nat) (A : List Nat) : Prop := b < n0 ∧ n0 ≤ h.next ∧ ∃ lvo, h.objs b = some (.cells [lvo, .int .i64 (most : Int)] true) ∧ JtS (fun i => n0 ≤ i) h lvo A
theorem flat_J (A : List Nat) (y : Nat) : (A ++ [y]).flatMap cellsJ = A.flatMap cellsJ ++ cellsJ y := by simp
def zJ : List Value := [.int .u32 0, .int .i64 0]
section
variable {n0 b : Nat} {h : St} {most : Nat} {A : List Nat} {y : Nat} {lvo : Value} {K : St → Prop}
theorem outJ_store {h2 : St} {v2 : Value} (bn : b < n0) (nn : n0 ≤ h.next) (ob : h.objs b = some (.cells [lvo, .int .i64 (most : Int)] true)) (c : ChgP (fun i => n0 ≤ i) h h2) (s : JtS (fun i => n0 ≤ i) h2 v2 (A ++ [y]))
    (hK : ∀ h', ChgP (fun i => i = b ∨ n0 ≤ i) h h' → OutJ n0 b h' most (A ++ [y]) → K h') : bindV (offV 0 (.pointer (some ⟨b, 0, none⟩))) fun v3 => storeE 1 v3 v2 h2 fun _ h3 => K h3 := by
  have ob2 := c.at (i := b) (by omega) (by omega) ob
  have m2 := c.1
  have h1 := s.one
  have c1 : v2.cells = #[v2] := OwnS.cells1 s
  simp only [offV_ptr, bindV_some, Nat.zero_add]
  refine storeE_in ob2 [v2, .int .i64 (most : Int)] (by rw [c1]; rfl) (by simp) (by rw [c1]; show allOne [v2] = true; simp only [allOne, h1, Bool.and_true]) (by rw [c1]; rfl) fun h3 c3 n3 o3 => ?_
  exact hK h3 ((c.mono fun i _ hi => .inr hi).of_chg c3 (by simp)) ⟨bn, by omega, v2, o3, OwnS.chg s c3 (by simp; omega)⟩
theorem outJ_push (o : OutJ n0 b h most A) (ob : h.objs b = some (.cells [lvo, .int .i64 (most : Int)] true)) (few : A.length ≤ 1000000) (hK : ∀ h', ChgP (fun i => i = b ∨ n0 ≤ i) h h' → OutJ n0 b h' most (A ++ [y]) → K h') :
    buildSliceE 2 1 zJ [(0 * 2, 2, .agg (cellsJ y).toArray)] h fun v1 h1 => appendE 2 16 lvo v1 h1 fun v2 h2 => bindV (offV 0 (.pointer (some ⟨b, 0, none⟩))) fun v3 => storeE 1 v3 v2 h2 fun _ h3 => K h3 := by
  obtain ⟨bn, nn, lvo', ob', s⟩ := o
  rw [ob] at ob'
  cases ob'
  refine append_row (B := fun i => n0 ≤ i) (fun j hj => by omega) s rfl rfl rfl rfl (by omega) (by omega) fun h2 v2 c2 s2 => ?_
  exact outJ_store bn nn ob c2 (by unfold JtS; rw [flat_J, List.length_append]; exact s2) hK
theorem outJ_pushC {Q : St → Prop} {R R' : Prop} (o : OutJ n0 b h most A) (ob : h.objs b = some (.cells [lvo, .int .i64 (most : Int)] true)) (few : A.length ≤ 1000000) (hQ : ∀ h2, Chg h h2 [] → Q h2) (hR : R) (hR' : R') (hK : ∀ h', ChgP (fun i => i = b ∨ n0 ≤ i) h h' → OutJ n0 b h' most (A ++ [y]) → K h') :
    buildSliceE 2 1 zJ [(0 * 2, 2, .agg (cellsJ y).toArray)] h fun v1 h1 => Q h1 ∧ appendE 2 16 lvo v1 h1 fun v2 h2 => R ∧ bindV (offV 0 (.pointer (some ⟨b, 0, none⟩))) fun v3 => storeE 1 v3 v2 h2 fun _ h3 => R' ∧ K h3 := by
  obtain ⟨bn, nn, lvo', ob', s⟩ := o
  rw [ob] at ob'
  cases ob'
  refine append_rowC (B := fun i => n0 ≤ i) (fun j hj => by omega) s rfl rfl rfl rfl (by omega) (by omega) hQ fun h2 v2 c2 s2 => ⟨hR, ?_⟩
  exact outJ_store (K := fun h => R' ∧ K h) bn nn ob c2 (by unfold JtS; rw [flat_J, List.length_append]; exact s2) fun h' c o => ⟨hR', hK h' c o⟩
end
/-- A box with a rack is answered with. -/
theorem answerJ {E : Nat → Prop} {h : St} {lv : Value} {M : List Nat} (s : JtS E h lv M) {r : Nat} {most : Nat} {z : List Value} {K : Cont} (lz : z.length = 2) (orr : h.objs r = some (.cells z true))
    (hK : ∀ h', Chg h h' [r] → K (encJ lv most) h') :
    storeE 2 (.pointer (some ⟨r, 0, none⟩)) (encJ lv most) h fun _ h16 => bindV (loadV true 2 (.pointer (some ⟨r, 0, none⟩)) h16) fun r17 => K r17 h16 := by
  have h1 := s.one
  refine storeE_all orr rfl lz (by show allOne [lv, _] = true; simp only [allOne, h1, Bool.true_and]; rfl) fun h5 c5 n5 o5 => ?_
  have o5 : h5.objs r = some (.cells [lv, .int .i64 (most : Int)] true) := o5
  rw [boxJ_load s o5]
  simp only [bindV_some]
  exact hK h5 c5
/-! ### Drop -/
def dropR (R : List Nat) (q : Nat) : List Nat := R.filter fun x => decide (x ≠ q)
def hdropO : Abs.Spec := fun args h k => ∃ (E : Nat → Prop) (lv : Value) (most : Nat) (R : List Nat) (q : Nat), args = [encJ lv most, .int .u32 (q : Int)] ∧ R.length ≤ 100000 ∧ JtS E h lv R ∧
  ∀ h' lv', Chg h h' [] → JtS (fun i => h.next ≤ i) h' lv' (dropR R q) → k (encJ lv' most) h'
theorem hdrop_l0 {nn b2 b4 b5 q : Nat} {lv : Value} {E : Nat → Prop} {most : Nat} {R : List Nat} {h0 hb : St} {k : Cont} (few : R.length ≤ 100000) (s : JtS E h0 lv R) (c0 : Chg h0 hb []) (n2 : h0.next ≤ b2) (n4 : h0.next ≤ b4) (n25 : b2 < b5) (n45 : b4 < b5) (n5 : b5 < hb.next)
    (o2 : hb.objs b2 = some (.cells [lv, .int .i64 (most : Int)] true)) (o4 : ∃ z, z.length = 2 ∧ hb.objs b4 = some (.cells z true))
    (H : ∀ h' lv', Chg h0 h' [] → JtS (fun i => h0.next ≤ i) h' lv' (dropR R q) → k (encJ lv' most) h') :
    ∀ (d i m0 : Nat) (h : St), i + d = R.length → d < m0 → ChgP (fun j => j = b5 ∨ hb.next ≤ j) hb h → OutJ hb.next b5 h most (dropR (R.take i) q) →
      tiltyardref07_Drop_l0 (tabC []) idG nn m0 (.int .u32 (q : Int)) (.pointer (some ⟨b2, 0, none⟩)) (.pointer (some ⟨b4, 0, none⟩)) (.pointer (some ⟨b5, 0, none⟩)) (.int .i64 (i : Int)) h (fun v h1 => ∃ h2, St.le h2 h1 ∧ k v h2) := by
  obtain ⟨z4, lz4, o4⟩ := o4
  have mb := c0.1
  intro d
  induction d with
  | zero =>
    intro i m0 h hi hm ch out
    obtain ⟨m0, rfl⟩ : ∃ m, m0 = m + 1 := ⟨m0 - 1, by omega⟩
    rw [tiltyardref07_Drop_l0_eq]
    have e' : i = R.length := by omega
    subst e'
    rw [List.take_length] at out
    have o2' := ch.at (by omega) (by omega) o2
    have o4' := ch.at (by omega) (by omega) o4
    have cc := chg_loop c0 ch (by omega)
    simp only [offV_ptr, bindV_some, loadV_ptr, o2', loadM_cells, partV_one, List.getElem?_cons_zero, Nat.zero_add, OwnS.len s, binV_lss, condK_bool, Int.lt_irrefl, decide_false, Bool.false_eq_true, if_false, idG_eq]
    rw [tiltyardref07_Drop_j2_eq]
    obtain ⟨bn, nn', lvo, ob, so⟩ := out
    rw [boxJ_load so ob]
    simp only [bindV_some]
    refine answerJ so lz4 o4' fun h' c' => ?_
    exact ⟨h', St.le.refl _, H h' lvo (cc.new c' (by omega)) (OwnS.imp (OwnS.chg so c' (by simp; omega)) fun j _ hj => Nat.le_trans mb hj)⟩
  | succ d ih =>
    intro i m0 h hi hm ch out
    obtain ⟨m0, rfl⟩ : ∃ m, m0 = m + 1 := ⟨m0 - 1, by omega⟩
    rw [tiltyardref07_Drop_l0_eq]
    have hlt : (i : Int) < R.length := by omega
    have inc : IntKind.i64.wrap ((i : Int) + 1) = ((i + 1 : Nat) : Int) := by rw [i64_in _ (by omega)]; omega
    have o2' := ch.at (by omega) (by omega) o2
    have cc := chg_loop c0 ch (by omega)
    obtain ⟨b', o', g1, g2⟩ := s.row0 (show i < R.length by omega) .i64
    obtain ⟨cs, g4, g3, g5⟩ := g2 h cc
    obtain ⟨x, ex⟩ : ∃ x, x = R[i] := ⟨_, rfl⟩
    rw [← ex] at g3 g5
    have tak : R.take (i + 1) = R.take i ++ [x] := by rw [ex]; exact List.take_succ_eq_append_getElem (by omega)
    simp only [offV_ptr, bindV_some, loadV_ptr, o2', loadM_cells, partV_one, List.getElem?_cons_zero, Nat.zero_add, OwnS.len s, binV_lss, condK_bool, hlt, decide_true, if_true, idG_eq, g1, Nat.add_zero, g4, g5, binV_neq, decide_eq_true_eq]
    by_cases e : x = q
    · have e' : ¬ (x : Int) ≠ (q : Int) := by omega
      rw [if_neg e']
      simp only [idG_eq]
      rw [tiltyardref07_Drop_j1_eq]
      simp only [binNil_int, binV_add, bindV_some, inc, idG_eq]
      refine ih (i + 1) m0 h (by omega) (by omega) ch ?_
      have : dropR (R.take (i + 1)) q = dropR (R.take i) q := by
        unfold dropR; rw [tak, List.filter_append, List.filter_cons_of_neg (by simp [e])]; simp
      rw [this]; exact out
    · have e' : (x : Int) ≠ (q : Int) := by omega
      rw [if_pos e']
      have out' := out
      obtain ⟨bn, nn', lvo, ob, _⟩ := out'
      simp only [offV_ptr, bindV_some, loadV_ptr, ob, loadM_cells, partV_one, List.getElem?_cons_zero, Nat.zero_add]
      refine ⟨trivial, ?_⟩
      simp only [offV_ptr, bindV_some, loadV_ptr, o2', loadM_cells, partV_one, List.getElem?_cons_zero, Nat.zero_add]
      refine ⟨trivial, ?_⟩
      simp only [g1, bindV_some, loadV_ptr, g4, loadM_cells, partV_agg, g3, Option.map_some]
      refine ⟨trivial, ?_⟩
      have tl : (dropR (R.take i) q).length ≤ 1000000 := Nat.le_trans (List.length_filter_le ..) (by rw [List.length_take]; omega)
      refine outJ_pushC out ob tl (fun h2 c2 => ⟨trivial, trivial, ?_, trivial⟩) ⟨trivial, trivial, trivial, trivial⟩ ⟨trivial, trivial, trivial, trivial⟩ fun h4 c4 out4 => ?_
      · simp only [loadV_ptr, c2.at0 (show b5 < h.next by omega) ob, loadM_cells, partV_one, List.getElem?_cons_zero]
      · simp only [idG_eq]
        rw [tiltyardref07_Drop_j1_eq]
        simp only [binNil_int, binV_add, bindV_some, inc, idG_eq]
        refine ih (i + 1) m0 h4 (by omega) (by omega) (ch.step c4) ?_
        have : dropR (R.take (i + 1)) q = dropR (R.take i) q ++ [x] := by
          unfold dropR; rw [tak, List.filter_append, List.filter_cons_of_pos (by simp [e])]; simp
        rw [this]; exact out4
theorem encJ_build (most : Nat) : buildV [.slice none 0 0, .int .i64 0] (some [(1, 1, .int .i64 (most : Int))]) = some (encJ (.slice none 0 0) most) := rfl
theorem hdropO_good : SpecGood Try.prog (37, hdropO) := by
  refine spec_good mixed Try.func37 (by kernel_rfl) (by kernel_rfl) (tab := []) (by simp) (keep := tiltyardref07_Drop_keep) ?_
  rintro args h k ⟨E, lv, most, R, q, rfl, few, s, H⟩
  refine ⟨R.length + 1, ?_⟩
  show tiltyardref07_Drop (tabC []) idG _ (encJ lv most) (.int .u32 (q : Int)) h _
  rw [tiltyardref07_Drop_eq]
  refine s.box most fun h1 c1 n1 o1 => ?_
  refine allocE_in fun h2 c2 n2 o2 => ?_
  have o12 := c2.at0 (by omega) o1
  simp only [offV_ptr, bindV_some, loadV_ptr, o12, loadM_cells, partV_one, List.getElem?_cons_zero, List.getElem?_cons_succ, Nat.zero_add, encJ_build]
  refine allocE_in fun h3 c3 n3 o3 => ?_
  refine storeE_all o3 rfl rfl rfl fun h4 c4 n4 o4 => ?_
  have o4 : h4.objs h2.next = some (.cells [.slice none 0 0, .int .i64 (most : Int)] true) := o4
  have m2 := c2.1
  have o14 := c4.at1 (by omega) (by omega) (c3.at0 (by omega) o12)
  have o24 := c4.at1 (by omega) (by omega) (c3.at0 (by omega) o2)
  have c04 : Chg h h4 [] := ((c1.seq c2).seq c3).new c4 (by omega)
  simp only [idG_eq]
  exact hdrop_l0 (b2 := h.next) (b4 := h1.next) (b5 := h2.next) few s c04 (Nat.le_refl _) (by omega) (by omega) (by omega) (by omega) o14 ⟨_, rfl, o24⟩ H R.length 0 _ h4 (by omega) (by omega) (ChgP.refl _ _) ⟨by omega, Nat.le_refl _, _, o4, .inl ⟨rfl, rfl, rfl⟩⟩
/-! ### Put -/
def hputO : Abs.Spec := fun args h k => ∃ (E : Nat → Prop) (lv : Value) (most : Nat) (R : List Nat) (q : Nat), args = [encJ lv most, .int .u32 (q : Int), .int .i64 0] ∧ rightId q = true ∧ R.length < most ∧ R.length ≤ 100000 ∧ JtS E h lv R ∧
  ∀ h' lv', Chg h h' [] → JtS (fun i => h.next ≤ i) h' lv' (dropR R q ++ [q]) → k (.tuple #[encJ lv' most, .int .i64 0]) h'
def tabJp : List (FuncId × Abs.Spec) := [(29, grightO), (36, hfindO), (37, hdropO)]
theorem hputO_good : SpecGood Try.prog (21, hputO) := by
  refine spec_good mixed Try.func21 (by kernel_rfl) (by kernel_rfl) (tab := tabJp) (by simp [tabJp, grightO_good, hfindO_good, hdropO_good]) (keep := tiltyardref07_Put_keep) ?_
  rintro args h k ⟨E, lv, most, R, q, rfl, hr, hm, few, s, H⟩
  refine ⟨0, ?_⟩
  show tiltyardref07_Put (tabC _) idG _ (encJ lv most) (.int .u32 (q : Int)) (.int .i64 0) h _
  rw [tiltyardref07_Put_eq]
  refine s.box most fun h1 c1 n1 o1 => ?_
  refine allocE_in fun h2 c2 n2 o2 => ?_
  have o12 := c2.at0 (by omega) o1
  have c02 := c1.seq c2
  refine cK (S := grightO) (by simp [tabJp]) ⟨q, rfl, ?_⟩
  simp only [hr, unV_not, Bool.not_true, bindV_some, condK_bool, Bool.false_eq_true, if_false, idG_eq]
  rw [boxJ_load s o12]
  simp only [bindV_some]
  -- behind the search
  have rest : ∀ h3, Chg h2 h3 [] → bindV (loadV true 2 (.pointer (some ⟨h.next, 0, none⟩)) h3) fun v26 => tabC tabJp 37 [v26, .int .u32 (q : Int)] h3 fun v28 h14 => allocE (some [.slice none 0 0, .int .i64 0]) h14 fun v8 h15 => storeE 2 v8 v28 h15 fun _ h17 => bindV (offV 0 v8) fun v29 => bindV (loadV false 1 v29 h17) fun v30 => bindV (buildV [.int .u32 0, .int .i64 0] (some [(0, 1, .int .u32 (q : Int)), (1, 1, .int .i64 0)])) fun v33 => buildSliceE 2 1 [.int .u32 0, .int .i64 0] [(0 * 2, 2, v33)] h17 fun v34 h18 => appendE 2 16 v30 v34 h18 fun v35 h19 => bindV (offV 0 v8) fun v36 => storeE 1 v36 v35 h19 fun _ h21 => bindV (loadV true 2 v8 h21) fun v37 => storeE 2 (.pointer (some ⟨h1.next, 0, none⟩)) v37 h21 fun _ h23 => bindV (loadV true 2 (.pointer (some ⟨h1.next, 0, none⟩)) h23) fun r24 => ∃ h2, St.le h2 h23 ∧ k (.tuple #[r24, .int .i64 0]) h2 := by
    intro h3 c3
    have m3 := c3.1
    have c03 := c02.seq c3
    rw [boxJ_load s (c3.at0 (by omega) o12)]
    simp only [bindV_some]
    refine cK (S := hdropO) (by simp [tabJp]) ⟨E, lv, most, R, q, rfl, few, s.chg0 c03, fun h4 lv4 c4 s4 => ?_⟩
    have m4 := c4.1
    have h1' := s4.one
    refine allocE_in fun h5 c5 n5 o5 => ?_
    refine storeE_all o5 rfl rfl (by show allOne [lv4, _] = true; simp only [allOne, h1', Bool.true_and]; rfl) fun h6 c6 n6 o6 => ?_
    have o6 : h6.objs h4.next = some (.cells [lv4, .int .i64 (most : Int)] true) := o6
    have c46 : Chg h4 h6 [] := c5.new c6 (Nat.le_refl _)
    have bv : buildV [.int .u32 0, .int .i64 0] (some [(0, 1, .int .u32 (q : Int)), (1, 1, .int .i64 0)]) = some (.agg (cellsJ q).toArray) := rfl
    have o2b : h6.objs h1.next = some (.cells [.slice none 0 0, .int .i64 0] true) := c46.at0 (by omega) (c4.at0 (by omega) (c3.at0 (by omega) o2))
    simp only [offV_ptr, bindV_some, loadV_ptr, o6, loadM_cells, partV_one, List.getElem?_cons_zero, Nat.zero_add, bv]
    have dl : (dropR R q).length ≤ R.length := List.length_filter_le ..
    have s6 : JtS (fun i => h3.next ≤ i ∧ i ≠ h4.next) h6 lv4 (dropR R q) := JtS.chg0 (OwnS.imp s4 (B' := fun i => h3.next ≤ i ∧ i ≠ h4.next) fun i hi hh => ⟨hh, by omega⟩) c46
    refine append_row (B := fun i => h3.next ≤ i ∧ i ≠ h4.next) (fun j hj => ⟨by omega, by omega⟩) s6 rfl rfl rfl rfl (by omega) (by omega) fun h7 v7 c7 s7 => ?_
    have s7 : JtS (fun i => h3.next ≤ i ∧ i ≠ h4.next) h7 v7 (dropR R q ++ [q]) := by unfold JtS; rw [flat_J, List.length_append]; exact s7
    have o7 := c7.at (by omega) (fun hh => hh.2 rfl) o6
    have o2c := c7.at (by omega) (fun hh => by omega) o2b
    have m7 := c7.1
    have c71 : v7.cells = #[v7] := OwnS.cells1 s7
    have h7' := s7.one
    simp only [offV_ptr, bindV_some, Nat.zero_add]
    refine storeE_in o7 [v7, .int .i64 (most : Int)] (by rw [c71]; rfl) (by simp) (by rw [c71]; show allOne [v7] = true; simp only [allOne, h7', Bool.and_true]) (by rw [c71]; rfl) fun h8 c8 n8 o8 => ?_
    have s8 : JtS (fun i => h3.next ≤ i ∧ i ≠ h4.next) h8 v7 (dropR R q ++ [q]) := OwnS.chg s7 c8 (by simp)
    rw [boxJ_load s8 o8]
    simp only [bindV_some]
    refine answerJ (K := fun r24 h23 => ∃ h2, St.le h2 h23 ∧ k (.tuple #[r24, .int .i64 0]) h2) s8 rfl (c8.at1 (by omega) (by omega) o2c) fun h9 c9 => ?_
    have c06 : Chg h h6 [] := (c03.seq c4).seq c46
    have m03 := c03.1
    have c09 : Chg h h9 [] := (((c06.nil (fun i => h.next ≤ i)).step (c7.mono fun i _ hi => by omega)).of_chg c8 (by simp; omega) |>.of_chg c9 (by simp; omega)).list fun j h1 h2 => by omega
    exact ⟨h9, St.le.refl _, H h9 v7 c09 (OwnS.imp (OwnS.chg s8 c9 (by simp; omega)) fun j _ hj => by omega)⟩
  refine cK (S := hfindO) (by simp [tabJp]) ⟨E, lv, most, R, q, rfl, few, s.chg0 c02, fun h3 i c3 => ?_, fun h3 c3 => ?_⟩
  · have nl : ¬ (i : Int) < 0 := by omega
    simp only [binNil_int, binV_lss, nl, decide_false, bindV_some, groupK_eq, guardK_bool, Bool.false_eq_true, if_false, idG_eq, pickV_bool, condK_bool]
    exact rest h3 c3
  · have lt : (-1 : Int) < 0 := by omega
    have o13 := c3.at0 (by omega) o12
    have ng : ¬ (R.length : Int) ≥ (most : Int) := by omega
    simp only [binNil_int, binV_lss, lt, decide_true, bindV_some, groupK_eq, guardK_bool, if_true, offV_ptr, loadV_ptr, o13, loadM_cells, partV_one, List.getElem?_cons_zero, List.getElem?_cons_succ, Nat.zero_add, OwnS.len s, binV_geq, ng, decide_false, idG_eq, getT, pickV_bool, condK_bool, Bool.false_eq_true, if_false]
    have r := rest h3 c3
    rw [loadV_ptr, o13, loadM_cells] at r
    exact r
theorem own_rowI {D : Nat → Prop} {h : St} {v : Value} {L : List Int} (s : OwnS D h v 1 (L.map (.int .u32)) L.length) {i : Nat} (hi : i < L.length) (k : IntKind) :
    ∃ b o, idxS 1 v (.int k i) = some (.pointer (some ⟨b, o, none⟩)) ∧ ∃ cs, h.objs b = some (.cells cs true) ∧ cs[o]? = some (.int .u32 L[i]) := by
  have s' : OwnS D h v 1 (L.flatMap fun x => [Value.int .u32 x]) L.length := by
    have : (L.flatMap fun x => [Value.int .u32 x]) = L.map (.int .u32) := by
      clear s hi
      induction L with
      | nil => rfl
      | cons x L ih => rw [List.flatMap_cons, ih, List.map_cons]; rfl
    rw [this]; exact s
  obtain ⟨b, o, g1, g2, g3, cs, g4, g5⟩ := s'.row (by simp) (List.getElem?_eq_getElem hi) k
  exact ⟨b, o, g1, cs, g4, by have := row_cell g5 0 (by omega); simpa using this⟩
def sameO : Abs.Spec := fun args h k => ∃ (D E : Nat → Prop) (v w : Value) (A B : List Int), args = [v, w] ∧ A.length ≤ 1000000 ∧ OwnS D h v 1 (A.map (.int .u32)) A.length ∧ OwnS E h w 1 (B.map (.int .u32)) B.length ∧ k (.bool (decide (A = B))) h
theorem same_l0 {nn : Nat} {v w x4 : Value} {D E : Nat → Prop} {A B : List Int} {h : St} {k : Cont} (few : A.length ≤ 1000000) (ll : A.length = B.length) (s : OwnS D h v 1 (A.map (.int .u32)) A.length) (t : OwnS E h w 1 (B.map (.int .u32)) B.length) (H : k (.bool (decide (A = B))) h) :
    ∀ (d i m0 : Nat), i + d = A.length → d < m0 → A.take i = B.take i →
      tiltyardref07_Same_l0 (tabC []) idG nn m0 v w x4 (.int .i64 (i : Int)) h (fun v h1 => ∃ h2, St.le h2 h1 ∧ k v h2) := by
  intro d
  induction d with
  | zero =>
    intro i m0 hi hm e
    obtain ⟨m0, rfl⟩ : ∃ m, m0 = m + 1 := ⟨m0 - 1, by omega⟩
    rw [tiltyardref07_Same_l0_eq]
    have e' : i = A.length := by omega
    subst e'
    rw [List.take_length, ll, List.take_length] at e
    simp only [s.len, bindV_some, binV_lss, condK_bool, Int.lt_irrefl, decide_false, Bool.false_eq_true, if_false, idG_eq]
    rw [tiltyardref07_Same_j1_eq]
    rw [decide_eq_true e] at H
    exact ⟨h, St.le.refl _, H⟩
  | succ d ih =>
    intro i m0 hi hm e
    obtain ⟨m0, rfl⟩ : ∃ m, m0 = m + 1 := ⟨m0 - 1, by omega⟩
    rw [tiltyardref07_Same_l0_eq]
    have hlt : (i : Int) < A.length := by omega
    have inc : IntKind.i64.wrap ((i : Int) + 1) = ((i + 1 : Nat) : Int) := by rw [i64_in _ (by omega)]; omega
    obtain ⟨b, o, g1, cs, g4, g5⟩ := own_rowI s (show i < A.length by omega) .i64
    obtain ⟨b', o', g1', cs', g4', g5'⟩ := own_rowI t (show i < B.length by omega) .i64
    simp only [s.len, bindV_some, binV_lss, condK_bool, hlt, decide_true, if_true, idG_eq, g1, loadV_ptr, g4, loadM_cells, partV_one, g5]
    refine ⟨trivial, ?_⟩
    simp only [bindV_some, g1', loadV_ptr, g4', loadM_cells, partV_one, g5']
    refine ⟨trivial, ?_⟩
    simp only [binV_neq, bindV_some, condK_bool, decide_eq_true_eq]
    by_cases ne : A[i] = B[i]
    · rw [if_neg (by simpa using ne)]
      simp only [idG_eq, binNil_int, binV_add, bindV_some, inc]
      refine ih (i + 1) m0 (by omega) (by omega) ?_
      rw [List.take_succ_eq_append_getElem (by omega), List.take_succ_eq_append_getElem (by omega), e, ne]
    · rw [if_pos ne]
      have : ¬ A = B := fun e => ne (by subst e; rfl)
      rw [decide_eq_false this] at H
      exact ⟨h, St.le.refl _, H⟩
theorem sameO_good : SpecGood Try.prog (23, sameO) := by
  refine spec_good mixed Try.func23 (by kernel_rfl) (by kernel_rfl) (tab := []) (by simp) (keep := tiltyardref07_Same_keep) ?_
  rintro args h k ⟨D, E, v, w, A, B, rfl, few, s, t, H⟩
  refine ⟨A.length + 1, ?_⟩
  show tiltyardref07_Same (tabC _) idG _ v w h _
  rw [tiltyardref07_Same_eq]
  simp only [s.len, t.len, bindV_some, binV_neq, condK_bool, decide_eq_true_eq]
  by_cases ll : A.length = B.length
  · rw [if_neg (by omega)]
    simp only [idG_eq]
    exact same_l0 few ll s t H A.length 0 _ (by omega) (by omega) rfl
  · rw [if_pos (by omega)]
    have : ¬ A = B := fun e => ll (by subst e; rfl)
    rw [decide_eq_false this] at H
    exact ⟨h, St.le.refl _, H⟩
theorem same_q {D E : Nat → Prop} {h : St} {v w : Value} {L : List Nat} {k : Cont} (few : L.length ≤ 1000000) (s : OwnQ D h v L) (t : OwnQ E h w L) (H : k (.bool true) h) : sameO [v, w] h k := by
  have e1 : L.map idq = (L.map fun n : Nat => (n : Int)).map (Value.int .u32) := by rw [List.map_map]; rfl
  have e2 : (L.map fun n : Nat => (n : Int)).length = L.length := List.length_map ..
  refine ⟨D, E, v, w, L.map fun n : Nat => (n : Int), L.map fun n : Nat => (n : Int), rfl, by rw [e2]; exact few, by rw [e2, ← e1]; exact s, by rw [e2, ← e1]; exact t, ?_⟩
  rw [decide_eq_true rfl]; exact H
end Go.Proofs.Ytlohiobliagaoaa
