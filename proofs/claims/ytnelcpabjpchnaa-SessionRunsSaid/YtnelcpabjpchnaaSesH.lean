/- The document's connections: Find, Conn, with, Conns, Idle. -/
import Derived.Test.YtnelcpabjpchnaaSesE
import Derived.Test.YtnelcpabjpchnaaSesF
set_option linter.unusedSimpArgs false
set_option linter.unusedVariables false
set_option maxHeartbeats 4000000
namespace Go.Proofs.Ytnelcpabjpchnaa
open Go.Abs Go.IntWalk
attribute [local congr] bindV_weak condK_weak guardK_weak groupK_weak allocE_weak boxE_weak storeE_weak storeM_weak tabC_weak ite_weak idG_weak appendE_weak buildSliceE_weak mapUpdateE_weak deleteE_weak makeMapE_weak copyE_weak clearE_weak callE_weak

def cellsK (x : Lk) : List Value := [.int .u32 (x.conn : Int), .int .u32 (x.player : Int), .int .i64 x.last]
theorem len_K (x : Lk) : (cellsK x).length = 3 := rfl
/-- Connections of the document. -/
def RtS (E : Nat → Prop) (h : St) (lv : Value) (M : List Lk) : Prop := OwnS E h lv 3 (M.flatMap cellsK) M.length
def encR (lv : Value) (most : Nat) (idle : Int) : Value := .agg #[lv, .int .i64 (most : Int), .int .i64 idle]
theorem RtS.chg0 {E : Nat → Prop} {h h' : St} {lv : Value} {M : List Lk} (s : RtS E h lv M) (c : Chg h h' []) : RtS E h' lv M := OwnS.chg s c (by simp)
theorem RtS.one {E : Nat → Prop} {h : St} {lv : Value} {M : List Lk} (s : RtS E h lv M) : Abs.one lv = true := OwnS.one s
theorem RtS.cells1 {E : Nat → Prop} {h : St} {lv : Value} {M : List Lk} (s : RtS E h lv M) : lv.cells = #[lv] := OwnS.cells1 s
/-- A row of it. -/
theorem RtS.row {E : Nat → Prop} {h0 : St} {lv : Value} {M : List Lk} (s : RtS E h0 lv M) {i : Nat} (hi : i < M.length) (k : IntKind) :
    ∃ b o, idxS 3 lv (.int k i) = some (.pointer (some ⟨b, o, none⟩)) ∧ E b ∧ b < h0.next ∧ ∀ h (D : Nat → Prop), ChgP D h0 h → ¬ D b → ∃ cs, h.objs b = some (.cells cs true) ∧ takeN cs o 3 = some (cellsK M[i]) ∧ cs[o]? = some (.int .u32 (M[i].conn : Int)) ∧ cs[o + 1]? = some (.int .u32 (M[i].player : Int)) ∧ cs[o + 2]? = some (.int .i64 M[i].last) := by
  obtain ⟨b, o, g1, g2, g3, cs, g4, g5⟩ := OwnS.row s (fun y _ => len_K y) (List.getElem?_eq_getElem hi) k
  refine ⟨b, o, g1, g2, g3, fun h D c hb => ⟨cs, c.at g3 hb g4, g5, ?_, ?_, ?_⟩⟩
  · exact row_cell g5 0 (by omega)
  · exact row_cell g5 1 (by omega)
  · exact row_cell g5 2 (by omega)
theorem RtS.row0 {E : Nat → Prop} {h0 : St} {lv : Value} {M : List Lk} (s : RtS E h0 lv M) {i : Nat} (hi : i < M.length) (k : IntKind) :
    ∃ b o, idxS 3 lv (.int k i) = some (.pointer (some ⟨b, o, none⟩)) ∧ ∀ h, Chg h0 h [] → ∃ cs, h.objs b = some (.cells cs true) ∧ takeN cs o 3 = some (cellsK M[i]) ∧ cs[o]? = some (.int .u32 (M[i].conn : Int)) ∧ cs[o + 1]? = some (.int .u32 (M[i].player : Int)) ∧ cs[o + 2]? = some (.int .i64 M[i].last) := by
  obtain ⟨b, o, g1, g2, g3, g4⟩ := s.row hi k
  exact ⟨b, o, g1, fun h c => g4 h (fun _ => False) (c.nil _) (by simp)⟩
theorem RtS.box {E : Nat → Prop} {h : St} {lv : Value} {M : List Lk} (s : RtS E h lv M) (most : Nat) (idle : Int) {k : Cont} (K : ∀ h', Chg h h' [] → h'.next = h.next + 1 → h'.objs h.next = some (.cells [lv, .int .i64 (most : Int), .int .i64 idle] true) → k (.pointer (some ⟨h.next, 0, none⟩)) h') : boxE (encR lv most idle) h k := by
  refine boxE_in ?_ K
  have h1 := s.one
  show allOne [lv, _, _] = true
  simp only [allOne, h1, Bool.true_and]
  rfl
theorem getL_idx {M : List Lk} (r : Rise M) {c i : Nat} {x : Lk} (hi : M[i]? = some x) (hc : x.conn = c) : getL M c = some x ∧ dropL M c = M.eraseIdx i := by
  subst hc
  have hx : x ∈ M := List.mem_of_getElem? hi
  refine ⟨getL_at r hx, ?_⟩
  induction M generalizing i with
  | nil => cases hx
  | cons y M ih =>
    obtain ⟨r1, r2⟩ := List.pairwise_cons.1 r
    rw [dropL]
    cases i with
    | zero =>
      simp at hi
      subst hi
      rw [if_pos rfl]; rfl
    | succ i =>
      simp at hi
      have hx : x ∈ M := List.mem_of_getElem? hi
      have := r1 x hx
      rw [if_neg (by omega), List.eraseIdx_cons_succ, ih r2 hi hx]
theorem getL_not {M : List Lk} {c : Nat} (h : ∀ x ∈ M, x.conn ≠ c) : getL M c = none := by
  cases hg : getL M c with
  | none => rfl
  | some x => exact absurd (getL_some hg).2 (h x (getL_some hg).1)
/-! ### Find -/
def rfindO : Abs.Spec := fun args h k => ∃ (E : Nat → Prop) (lv : Value) (most : Nat) (idle : Int) (M : List Lk) (c : Nat), args = [encR lv most idle, .int .u32 (c : Int)] ∧ M.length ≤ 1000000 ∧ RtS E h lv M ∧
  (∀ h' (i : Nat) (x : Lk), Chg h h' [] → M[i]? = some x → x.conn = c → k (.int .i64 (i : Int)) h') ∧ (∀ h', Chg h h' [] → (∀ x ∈ M, x.conn ≠ c) → k (.int .i64 (-1)) h')
theorem rfind_l0 {nn b : Nat} {lv x4 : Value} {E : Nat → Prop} {most : Nat} {idle : Int} {M : List Lk} {c : Nat} {h0 h : St} {k : Cont} (few : M.length ≤ 1000000) (s : RtS E h0 lv M) (ch : Chg h0 h []) (ob : h.objs b = some (.cells [lv, .int .i64 (most : Int), .int .i64 idle] true))
    (H1 : ∀ (i : Nat) (x : Lk), M[i]? = some x → x.conn = c → k (.int .i64 (i : Int)) h) (H2 : (∀ x ∈ M, x.conn ≠ c) → k (.int .i64 (-1)) h) :
    ∀ (d i m0 : Nat), i + d = M.length → d < m0 → (∀ x ∈ M.take i, x.conn ≠ c) → tiltyardref10_Find_l0 (tabC []) idG nn m0 (.int .u32 (c : Int)) (.pointer (some ⟨b, 0, none⟩)) x4 (.int .i64 (i : Int)) h (fun v h1 => ∃ h2, St.le h2 h1 ∧ k v h2) := by
  intro d
  induction d with
  | zero =>
    intro i m0 hi hm no
    obtain ⟨m0, rfl⟩ : ∃ m, m0 = m + 1 := ⟨m0 - 1, by omega⟩
    rw [tiltyardref10_Find_l0_eq]
    have e' : i = M.length := by omega
    subst e'
    rw [List.take_length] at no
    simp only [offV_ptr, bindV_some, loadV_ptr, ob, loadM_cells, partV_one, List.getElem?_cons_zero, Nat.zero_add, OwnS.len s, binV_lss, condK_bool, Int.lt_irrefl, decide_false, Bool.false_eq_true, if_false, idG_eq]
    rw [tiltyardref10_Find_j1_eq]
    exact ⟨h, St.le.refl _, H2 no⟩
  | succ d ih =>
    intro i m0 hi hm no
    obtain ⟨m0, rfl⟩ : ∃ m, m0 = m + 1 := ⟨m0 - 1, by omega⟩
    rw [tiltyardref10_Find_l0_eq]
    have hlt : (i : Int) < M.length := by omega
    have inc : IntKind.i64.wrap ((i : Int) + 1) = ((i + 1 : Nat) : Int) := by rw [i64_in _ (by omega)]; omega
    obtain ⟨b', o, g1, g2⟩ := s.row0 (show i < M.length by omega) .i64
    obtain ⟨cs, g4, _, g5, _⟩ := g2 h ch
    have ei : M[i]? = some M[i] := List.getElem?_eq_getElem (by omega)
    simp only [offV_ptr, bindV_some, loadV_ptr, ob, loadM_cells, partV_one, List.getElem?_cons_zero, Nat.zero_add, OwnS.len s, binV_lss, condK_bool, hlt, decide_true, if_true, idG_eq, g1, Nat.add_zero, g4, g5, binV_eql, decide_eq_true_eq]
    by_cases e : M[i].conn = c
    · have e' : (M[i].conn : Int) = (c : Int) := by omega
      rw [if_pos e']
      exact ⟨h, St.le.refl _, H1 i _ ei e⟩
    · have e' : ¬ (M[i].conn : Int) = (c : Int) := by omega
      rw [if_neg e']
      simp only [idG_eq, binNil_int, binV_add, bindV_some, inc]
      refine ih (i + 1) m0 (by omega) (by omega) fun x hx => ?_
      rw [List.take_succ_eq_append_getElem (by omega)] at hx
      rcases List.mem_append.1 hx with hx | hx
      · exact no x hx
      · rw [List.mem_singleton.1 hx]; exact e
theorem rfindO_good : SpecGood Try.prog (40, rfindO) := by
  refine spec_good mixed Try.func40 (by kernel_rfl) (by kernel_rfl) (tab := []) (by simp) (keep := tiltyardref10_Find_keep) ?_
  rintro args h k ⟨E, lv, most, idle, M, c, rfl, few, s, H1, H2⟩
  refine ⟨M.length + 1, ?_⟩
  show tiltyardref10_Find (tabC []) idG _ (encR lv most idle) (.int .u32 (c : Int)) h _
  rw [tiltyardref10_Find_eq]
  refine s.box most idle fun h1 c1 n1 o1 => ?_
  simp only [idG_eq]
  exact rfind_l0 few s c1 o1 (fun i x => H1 h1 i x c1) (H2 h1 c1) M.length 0 _ (by omega) (by omega) (by simp)
/-! ### Conn -/
def rconnO : Abs.Spec := fun args h k => ∃ (E : Nat → Prop) (lv : Value) (most : Nat) (idle : Int) (M : List Lk) (p : Nat), args = [encR lv most idle, .int .u32 (p : Int)] ∧ M.length ≤ 1000000 ∧ RtS E h lv M ∧ ∀ h', Chg h h' [] → k (.int .u32 (connOf M p)) h'
theorem rconn_l0 {nn b : Nat} {lv x4 : Value} {E : Nat → Prop} {most : Nat} {idle : Int} {M : List Lk} {p : Nat} {h0 h : St} {k : Cont} (few : M.length ≤ 1000000) (s : RtS E h0 lv M) (ch : Chg h0 h []) (ob : h.objs b = some (.cells [lv, .int .i64 (most : Int), .int .i64 idle] true)) (H : k (.int .u32 (connOf M p)) h) :
    ∀ (d i m0 : Nat), i + d = M.length → d < m0 → connOf M p = firstC ((M.drop i).filter (isAt p)) → tiltyardref10_Conn_l0 (tabC []) idG nn m0 (.int .u32 (p : Int)) (.pointer (some ⟨b, 0, none⟩)) x4 (.int .i64 (i : Int)) h (fun v h1 => ∃ h2, St.le h2 h1 ∧ k v h2) := by
  intro d
  induction d with
  | zero =>
    intro i m0 hi hm e
    obtain ⟨m0, rfl⟩ : ∃ m, m0 = m + 1 := ⟨m0 - 1, by omega⟩
    rw [tiltyardref10_Conn_l0_eq]
    have e' : i = M.length := by omega
    subst e'
    rw [List.drop_length] at e
    simp only [offV_ptr, bindV_some, loadV_ptr, ob, loadM_cells, partV_one, List.getElem?_cons_zero, Nat.zero_add, OwnS.len s, binV_lss, condK_bool, Int.lt_irrefl, decide_false, Bool.false_eq_true, if_false, idG_eq]
    rw [tiltyardref10_Conn_j1_eq]
    rw [e] at H
    exact ⟨h, St.le.refl _, H⟩
  | succ d ih =>
    intro i m0 hi hm e
    obtain ⟨m0, rfl⟩ : ∃ m, m0 = m + 1 := ⟨m0 - 1, by omega⟩
    rw [tiltyardref10_Conn_l0_eq]
    have hlt : (i : Int) < M.length := by omega
    have inc : IntKind.i64.wrap ((i : Int) + 1) = ((i + 1 : Nat) : Int) := by rw [i64_in _ (by omega)]; omega
    obtain ⟨b', o, g1, g2⟩ := s.row0 (show i < M.length by omega) .i64
    obtain ⟨cs, g4, _, g5, g6, _⟩ := g2 h ch
    have dr : M.drop i = M[i] :: M.drop (i + 1) := List.drop_eq_getElem_cons (by omega)
    obtain ⟨x, ex⟩ : ∃ x, x = M[i] := ⟨_, rfl⟩
    rw [← ex] at g5 g6 dr
    rw [dr] at e
    have go : isAt p x = false → tiltyardref10_Conn_l0 (tabC []) idG nn m0 (.int .u32 (p : Int)) (.pointer (some ⟨b, 0, none⟩)) x4 (.int .i64 ((i + 1 : Nat) : Int)) h (fun v h1 => ∃ h2, St.le h2 h1 ∧ k v h2) := fun hf => by
      refine ih (i + 1) m0 (by omega) (by omega) ?_
      rw [e, List.filter_cons_of_neg (by rw [hf]; simp)]
    simp only [offV_ptr, bindV_some, loadV_ptr, ob, loadM_cells, partV_one, List.getElem?_cons_zero, Nat.zero_add, OwnS.len s, binV_lss, condK_bool, hlt, decide_true, if_true, idG_eq, binNil_int, binV_neq, groupK_eq, guardK_bool, decide_eq_true_eq]
    by_cases hp : p = 0
    · have hp' : ¬ (p : Int) ≠ 0 := by omega
      rw [if_neg hp']
      simp only [hp', decide_false, idG_eq, pickV_bool, Bool.false_eq_true, if_false, bindV_some, condK_bool, binNil_int, binV_add, inc]
      exact go (by simp [isAt, hp])
    · have hp' : (p : Int) ≠ 0 := by omega
      rw [if_pos hp']
      simp only [offV_ptr, bindV_some, loadV_ptr, ob, loadM_cells, partV_one, List.getElem?_cons_zero, Nat.zero_add, g1, g4, g6, binV_eql, idG_eq, getT]
      rw [decide_eq_true hp']
      simp only [pickV_bool, if_true, bindV_some, condK_bool, decide_eq_true_eq]
      by_cases hx : x.player = p
      · have hx' : (x.player : Int) = (p : Int) := by omega
        rw [if_pos hx']
        simp only [offV_ptr, bindV_some, loadV_ptr, ob, loadM_cells, partV_one, List.getElem?_cons_zero, Nat.zero_add, g1, Nat.add_zero, g4, g5]
        rw [List.filter_cons_of_pos (by simp [isAt, hp, hx])] at e
        have e : connOf M p = x.conn := e
        rw [e] at H
        exact ⟨h, St.le.refl _, H⟩
      · have hx' : ¬ (x.player : Int) = (p : Int) := by omega
        rw [if_neg hx']
        simp only [idG_eq, binNil_int, binV_add, bindV_some, inc]
        exact go (by simp [isAt, hx])
theorem rconnO_good : SpecGood Try.prog (41, rconnO) := by
  refine spec_good mixed Try.func41 (by kernel_rfl) (by kernel_rfl) (tab := []) (by simp) (keep := tiltyardref10_Conn_keep) ?_
  rintro args h k ⟨E, lv, most, idle, M, p, rfl, few, s, H⟩
  refine ⟨M.length + 1, ?_⟩
  show tiltyardref10_Conn (tabC []) idG _ (encR lv most idle) (.int .u32 (p : Int)) h _
  rw [tiltyardref10_Conn_eq]
  refine s.box most idle fun h1 c1 n1 o1 => ?_
  simp only [idG_eq]
  exact rconn_l0 few s c1 o1 (H h1 c1) M.length 0 _ (by omega) (by omega) rfl
/-! ### Conns -/
def rconnsO : Abs.Spec := fun args h k => ∃ (E : Nat → Prop) (lv : Value) (most : Nat) (idle : Int) (M : List Lk), args = [encR lv most idle] ∧ M.length ≤ 1000000 ∧ RtS E h lv M ∧
  ∀ h' sv, Chg h h' [] → OwnS (fun i => h.next ≤ i) h' sv 1 (M.map idv) M.length → k sv h'
theorem rconns_l0 {nn b : Nat} {lv x2 : Value} {E : Nat → Prop} {most : Nat} {idle : Int} {M : List Lk} {h0 : St} {k : Cont} (few : M.length ≤ 1000000) (s : RtS E h0 lv M) (bn : b < h0.next) (ob : h0.objs b = some (.cells [lv, .int .i64 (most : Int), .int .i64 idle] true))
    (H : ∀ h' sv, Chg h0 h' [] → OwnS (fun i => h0.next ≤ i) h' sv 1 (M.map idv) M.length → k sv h') :
    ∀ (d i m0 : Nat) (h : St) (out : Value), i + d = M.length → d < m0 → Chg h0 h [] → OwnS (fun i => h0.next ≤ i) h out 1 ((M.take i).map idv) i →
      tiltyardref10_Conns_l0 (tabC []) idG nn m0 (.pointer (some ⟨b, 0, none⟩)) x2 out (.int .i64 (i : Int)) h (fun v h1 => ∃ h2, St.le h2 h1 ∧ k v h2) := by
  intro d
  induction d with
  | zero =>
    intro i m0 h out hi hm c o
    obtain ⟨m0, rfl⟩ : ∃ m, m0 = m + 1 := ⟨m0 - 1, by omega⟩
    rw [tiltyardref10_Conns_l0_eq]
    have e' : i = M.length := by omega
    subst e'
    rw [List.take_length] at o
    have ob' := c.at0 bn ob
    simp only [offV_ptr, bindV_some, loadV_ptr, ob', loadM_cells, partV_one, List.getElem?_cons_zero, Nat.zero_add, OwnS.len s, binV_lss, condK_bool, Int.lt_irrefl, decide_false, Bool.false_eq_true, if_false, idG_eq]
    rw [tiltyardref10_Conns_j1_eq]
    exact ⟨h, St.le.refl _, H h out c o⟩
  | succ d ih =>
    intro i m0 h out hi hm c o
    obtain ⟨m0, rfl⟩ : ∃ m, m0 = m + 1 := ⟨m0 - 1, by omega⟩
    rw [tiltyardref10_Conns_l0_eq]
    have hlt : (i : Int) < M.length := by omega
    have inc : IntKind.i64.wrap ((i : Int) + 1) = ((i + 1 : Nat) : Int) := by rw [i64_in _ (by omega)]; omega
    obtain ⟨b', o', g1, g2⟩ := s.row0 (show i < M.length by omega) .i64
    obtain ⟨cs, g4, _, g5, _⟩ := g2 h c
    have ob' := c.at0 bn ob
    have m := c.1
    simp only [offV_ptr, bindV_some, loadV_ptr, ob', loadM_cells, partV_one, List.getElem?_cons_zero, Nat.zero_add, OwnS.len s, binV_lss, condK_bool, hlt, decide_true, if_true, idG_eq, g1, Nat.add_zero, g4, g5]
    have tak : (M.take (i + 1)).map idv = (M.take i).map idv ++ [.int .u32 (M[i].conn : Int)] := by
      rw [List.take_succ_eq_append_getElem (by omega), List.map_append]; rfl
    refine append_row (B := fun i => h0.next ≤ i) (fun j hj => by omega) o rfl rfl rfl rfl (by omega) (by omega) fun h5 out5 c5 s5 => ?_
    have c05 : Chg h0 h5 [] := ((c.nil (fun i => h0.next ≤ i)).step c5).list fun j h1 h2 => by omega
    simp only [idG_eq, binNil_int, binV_add, bindV_some, inc]
    refine ih (i + 1) m0 h5 out5 (by omega) (by omega) c05 ?_
    rw [tak]
    exact s5
theorem rconnsO_good : SpecGood Try.prog (43, rconnsO) := by
  refine spec_good mixed Try.func43 (by kernel_rfl) (by kernel_rfl) (tab := []) (by simp) (keep := tiltyardref10_Conns_keep) ?_
  rintro args h k ⟨E, lv, most, idle, M, rfl, few, s, H⟩
  refine ⟨M.length + 1, ?_⟩
  show tiltyardref10_Conns (tabC []) idG _ (encR lv most idle) h _
  rw [tiltyardref10_Conns_eq]
  refine s.box most idle fun h1 c1 n1 o1 => ?_
  simp only [idG_eq]
  exact rconns_l0 few (s.chg0 c1) (by omega) o1 (fun h' sv c o => H h' sv (c1.seq c) (o.imp fun j _ hj => Nat.le_trans c1.1 hj)) M.length 0 _ h1 _ (by omega) (by omega) (Chg.refl _ _) (.inl ⟨rfl, rfl, rfl⟩)
/-! ### times, Idle -/
def radd (a s : Int) : Int := if s ≤ 0 then a else if 0 < a ∧ s > IntKind.i64.wrap (9223372036854775807 - a) then 9223372036854775807 else IntKind.i64.wrap (a + s)
def raddO : Abs.Spec := fun args h k => ∃ a s : Int, args = [.int .i64 a, .int .i64 s] ∧ k (.int .i64 (radd a s)) h
theorem raddO_good : SpecGood Try.prog (54, raddO) := by
  refine spec_good mixed Try.func54 (by kernel_rfl) (by kernel_rfl) (tab := []) (by simp) (keep := tiltyardref08_Add_keep) ?_
  rintro args h k ⟨a, s, rfl, H⟩
  refine ⟨0, ?_⟩
  show tiltyardref08_Add (tabC _) idG 0 (.int .i64 a) (.int .i64 s) h _
  rw [tiltyardref08_Add_eq]
  unfold radd at H
  simp only [binNil_int, binV_leq, bindV_some, condK_bool, decide_eq_true_eq]
  by_cases h1 : s ≤ 0
  · rw [if_pos h1] at H ⊢
    exact ⟨h, St.le.refl _, H⟩
  · rw [if_neg h1] at H ⊢
    simp only [idG_eq, binNil_int, binV_gtr, bindV_some, groupK_eq, guardK_bool, decide_eq_true_eq]
    by_cases h2 : a > 0
    · rw [if_pos h2]
      simp only [binNil_int, binV_sub, binV_gtr, bindV_some, idG_eq, getT]
      rw [decide_eq_true h2]
      simp only [pickV_bool, if_true, bindV_some, condK_bool, decide_eq_true_eq]
      by_cases h3 : s > IntKind.i64.wrap (9223372036854775807 - a)
      · rw [if_pos h3]
        rw [if_pos ⟨h2, h3⟩] at H
        exact ⟨h, St.le.refl _, H⟩
      · rw [if_neg h3]
        rw [if_neg (fun hh => h3 hh.2)] at H
        simp only [idG_eq, binV_add, bindV_some]
        exact ⟨h, St.le.refl _, H⟩
    · rw [if_neg h2]
      rw [if_neg (fun hh => h2 hh.1)] at H
      simp only [idG_eq, h2, decide_false, pickV_bool, Bool.false_eq_true, if_false, bindV_some, condK_bool, binV_add]
      exact ⟨h, St.le.refl _, H⟩
theorem radd_eq {a s : Int} (ha : In64 a) (hs : In64 s) : radd a s = tadd a s := by
  rw [tadd_eq ha hs]
  unfold radd
  unfold In64 at ha hs
  by_cases h1 : s ≤ 0
  · rw [if_pos h1, if_pos h1]
  · rw [if_neg h1, if_neg h1]
    by_cases h2 : 0 < a
    · rw [i64_keeps (show In64 (9223372036854775807 - a) by unfold In64; omega)]
      by_cases h3 : s > 9223372036854775807 - a
      · rw [if_pos ⟨h2, h3⟩, if_pos (by omega)]
      · rw [if_neg (fun hh => h3 hh.2), if_neg (by omega), i64_keeps (by unfold In64; omega)]
    · rw [if_neg (fun hh => h2 hh.1), if_neg (by omega), i64_keeps (by unfold In64; omega)]
def risIdle (idle now : Int) (x : Lk) : Bool := decide (radd x.last idle ≤ now)
def ridleO : Abs.Spec := fun args h k => ∃ (E : Nat → Prop) (lv : Value) (most : Nat) (idle : Int) (M : List Lk) (now : Int), args = [encR lv most idle, .int .i64 now] ∧ M.length ≤ 1000000 ∧ RtS E h lv M ∧
  ∀ h' sv, Chg h h' [] → OwnS (fun i => h.next ≤ i) h' sv 1 ((M.filter (risIdle idle now)).map idv) (M.filter (risIdle idle now)).length → k sv h'
def tabRi : List (FuncId × Abs.Spec) := [(54, raddO)]
theorem ridle_l0 {nn b : Nat} {lv x4 : Value} {E : Nat → Prop} {most : Nat} {idle now : Int} {M : List Lk} {h0 : St} {k : Cont} (few : M.length ≤ 1000000) (s : RtS E h0 lv M) (bn : b < h0.next) (ob : h0.objs b = some (.cells [lv, .int .i64 (most : Int), .int .i64 idle] true))
    (H : ∀ h' sv, Chg h0 h' [] → OwnS (fun i => h0.next ≤ i) h' sv 1 ((M.filter (risIdle idle now)).map idv) (M.filter (risIdle idle now)).length → k sv h') :
    ∀ (d i m0 : Nat) (h : St) (out : Value), i + d = M.length → d < m0 → Chg h0 h [] → OwnS (fun i => h0.next ≤ i) h out 1 (((M.take i).filter (risIdle idle now)).map idv) ((M.take i).filter (risIdle idle now)).length →
      tiltyardref10_Idle_l0 (tabC tabRi) idG nn m0 (.int .i64 now) (.pointer (some ⟨b, 0, none⟩)) x4 out (.int .i64 (i : Int)) h (fun v h1 => ∃ h2, St.le h2 h1 ∧ k v h2) := by
  intro d
  induction d with
  | zero =>
    intro i m0 h out hi hm c o
    obtain ⟨m0, rfl⟩ : ∃ m, m0 = m + 1 := ⟨m0 - 1, by omega⟩
    rw [tiltyardref10_Idle_l0_eq]
    have e' : i = M.length := by omega
    subst e'
    rw [List.take_length] at o
    have ob' := c.at0 bn ob
    simp only [offV_ptr, bindV_some, loadV_ptr, ob', loadM_cells, partV_one, List.getElem?_cons_zero, Nat.zero_add, OwnS.len s, binV_lss, condK_bool, Int.lt_irrefl, decide_false, Bool.false_eq_true, if_false, idG_eq]
    rw [tiltyardref10_Idle_j2_eq]
    exact ⟨h, St.le.refl _, H h out c o⟩
  | succ d ih =>
    intro i m0 h out hi hm c o
    obtain ⟨m0, rfl⟩ : ∃ m, m0 = m + 1 := ⟨m0 - 1, by omega⟩
    rw [tiltyardref10_Idle_l0_eq]
    have hlt : (i : Int) < M.length := by omega
    have inc : IntKind.i64.wrap ((i : Int) + 1) = ((i + 1 : Nat) : Int) := by rw [i64_in _ (by omega)]; omega
    obtain ⟨b', o', g1, g2⟩ := s.row0 (show i < M.length by omega) .i64
    obtain ⟨cs, g4, _, g5, g6, g7⟩ := g2 h c
    have ob' := c.at0 bn ob
    have m := c.1
    obtain ⟨x, ex⟩ : ∃ x, x = M[i] := ⟨_, rfl⟩
    rw [← ex] at g5 g7
    have tak : M.take (i + 1) = M.take i ++ [x] := by rw [ex]; exact List.take_succ_eq_append_getElem (by omega)
    have lle : ((M.take i).filter (risIdle idle now)).length ≤ i := Nat.le_trans (List.length_filter_le ..) (by rw [List.length_take]; omega)
    simp only [offV_ptr, bindV_some, loadV_ptr, ob', loadM_cells, partV_one, List.getElem?_cons_zero, Nat.zero_add, OwnS.len s, binV_lss, condK_bool, hlt, decide_true, if_true, idG_eq]
    refine ⟨trivial, ?_⟩
    simp only [g1, offV_ptr, bindV_some, loadV_ptr, g4, loadM_cells, partV_one, g7]
    refine ⟨trivial, ?_⟩
    simp only [offV_ptr, bindV_some, loadV_ptr, ob', loadM_cells, partV_one, List.getElem?_cons_zero, List.getElem?_cons_succ, Nat.zero_add]
    refine ⟨trivial, ?_⟩
    refine .inl ⟨rfl, x.last, idle, rfl, ⟨trivial, trivial, trivial, trivial⟩, ?_⟩
    simp only [binV_leq, bindV_some, condK_bool]
    cases hp : risIdle idle now x with
    | true =>
      have hp' : decide (radd x.last idle ≤ now) = true := hp
      rw [if_pos hp']
      simp only [offV_ptr, bindV_some, loadV_ptr, ob', loadM_cells, partV_one, List.getElem?_cons_zero, Nat.zero_add, g1, Nat.add_zero, g4, g5]
      have ext : ((M.take (i + 1)).filter (risIdle idle now)).map idv = ((M.take i).filter (risIdle idle now)).map idv ++ [.int .u32 (x.conn : Int)] := by
        rw [tak, List.filter_append, List.map_append, List.filter_cons_of_pos hp]; rfl
      have extl : ((M.take (i + 1)).filter (risIdle idle now)).length = ((M.take i).filter (risIdle idle now)).length + 1 := by
        rw [tak, List.filter_append, List.filter_cons_of_pos hp]; simp
      refine append_row (B := fun i => h0.next ≤ i) (fun j hj => by omega) o rfl rfl rfl rfl (by omega) (by omega) fun h5 out5 c5 s5 => ?_
      have c05 : Chg h0 h5 [] := ((c.nil (fun i => h0.next ≤ i)).step c5).list fun j h1 h2 => by omega
      simp only [idG_eq]
      rw [tiltyardref10_Idle_j1_eq]
      simp only [binNil_int, binV_add, bindV_some, inc, idG_eq]
      refine ih (i + 1) m0 h5 out5 (by omega) (by omega) c05 ?_
      rw [ext, extl]
      exact s5
    | false =>
      have hp' : ¬ decide (radd x.last idle ≤ now) = true := by have : decide (radd x.last idle ≤ now) = false := hp; rw [this]; simp
      have same : (M.take (i + 1)).filter (risIdle idle now) = (M.take i).filter (risIdle idle now) := by
        rw [tak, List.filter_append, List.filter_cons_of_neg (by rw [hp]; simp)]; simp
      rw [if_neg hp']
      simp only [idG_eq]
      rw [tiltyardref10_Idle_j1_eq]
      simp only [binNil_int, binV_add, bindV_some, inc, idG_eq]
      refine ih (i + 1) m0 h out (by omega) (by omega) c ?_
      rw [same]
      exact o
theorem ridleO_good : SpecGood Try.prog (45, ridleO) := by
  refine spec_good mixed Try.func45 (by kernel_rfl) (by kernel_rfl) (tab := tabRi) (by simp [tabRi, raddO_good]) (keep := tiltyardref10_Idle_keep) ?_
  rintro args h k ⟨E, lv, most, idle, M, now, rfl, few, s, H⟩
  refine ⟨M.length + 1, ?_⟩
  show tiltyardref10_Idle (tabC tabRi) idG _ (encR lv most idle) (.int .i64 now) h _
  rw [tiltyardref10_Idle_eq]
  refine s.box most idle fun h1 c1 n1 o1 => ?_
  simp only [idG_eq]
  exact ridle_l0 few (s.chg0 c1) (by omega) o1 (fun h' sv c o => H h' sv (c1.seq c) (o.imp fun j _ hj => Nat.le_trans c1.1 hj)) M.length 0 _ h1 _ (by omega) (by omega) (Chg.refl _ _) (.inl ⟨rfl, rfl, rfl⟩)
end Go.Proofs.Ytnelcpabjpchnaa
