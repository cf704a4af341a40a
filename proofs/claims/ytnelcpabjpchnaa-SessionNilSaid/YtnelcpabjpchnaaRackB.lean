/- A rack: its rows, plainly; where an id stands. -/
import Derived.Test.YtnelcpabjpchnaaRackA
set_option linter.unusedSimpArgs false
set_option linter.unusedVariables false
set_option maxHeartbeats 4000000
namespace Go.Proofs.Ytnelcpabjpchnaa
open Go.Abs Go.IntWalk
attribute [local congr] bindV_weak condK_weak guardK_weak groupK_weak allocE_weak boxE_weak storeE_weak storeM_weak tabC_weak ite_weak idG_weak appendE_weak buildSliceE_weak mapUpdateE_weak deleteE_weak makeMapE_weak copyE_weak clearE_weak callE_weak

/-! ### plainly -/
abbrev Rk := Nat × List Value
def rowC (x : Rk) : List Value := .int .u32 x.1 :: x.2
structure RkL (L : List Rk) : Prop where
  len : ∀ x ∈ L, x.2.length = 2
  one : ∀ x ∈ L, allOne x.2 = true
  rise : L.Pairwise fun x y => x.1 < y.1
  few : L.length ≤ 90000
  ids : ∀ x ∈ L, 1 ≤ x.1 ∧ x.1 ≤ 2147483647
theorem RkL.row {L : List Rk} (r : RkL L) : ∀ x ∈ L, (rowC x).length = 3 := fun x hx => by simp [rowC, r.len x hx]
theorem RkL.flat1 {L : List Rk} (r : RkL L) : allOne (L.flatMap rowC) = true := by
  rw [← allOne_eq, List.all_eq_true]
  intro v hv
  obtain ⟨x, hx, hv⟩ := List.mem_flatMap.1 hv
  have := r.one x hx
  rw [← allOne_eq, List.all_eq_true] at this
  rcases List.mem_cons.1 hv with rfl | hv
  · rfl
  · exact this v hv
def rkGet : List Rk → Nat → Option (List Value)
  | [], _ => none
  | x :: L, id => if x.1 = id then some x.2 else rkGet L id
def rkPut : List Rk → Nat → List Value → List Rk
  | [], id, c => [(id, c)]
  | x :: L, id, c => if id < x.1 then (id, c) :: x :: L else if x.1 = id then (id, c) :: L else x :: rkPut L id c
def rkDrop : List Rk → Nat → List Rk
  | [], _ => []
  | x :: L, id => if x.1 = id then L else x :: rkDrop L id
/-- Where an id stands, or would. -/
structure Stand (L : List Rk) (id : Nat) (A B : List Rk) : Prop where
  eq : L = A ++ B
  lo : ∀ x ∈ A, x.1 < id
  hi : ∀ x ∈ B, id ≤ x.1
def headId (B : List Rk) (id : Nat) : Bool := match B with | [] => false | x :: _ => decide (x.1 = id)
theorem Stand.get {L A B : List Rk} {id : Nat} (s : Stand L id A B) : rkGet L id = rkGet B id := by
  obtain ⟨rfl, lo, hi⟩ := s
  induction A with
  | nil => rfl
  | cons a A ih =>
    have := lo a (List.mem_cons_self ..)
    rw [List.cons_append, rkGet, if_neg (by omega)]
    exact ih (fun x hx => lo x (List.mem_cons_of_mem _ hx))
theorem Stand.put {L A B : List Rk} {id : Nat} {c : List Value} (s : Stand L id A B) : rkPut L id c = A ++ rkPut B id c := by
  obtain ⟨rfl, lo, hi⟩ := s
  induction A with
  | nil => rfl
  | cons a A ih =>
    have := lo a (List.mem_cons_self ..)
    rw [List.cons_append, rkPut, if_neg (by omega), if_neg (by omega), ih (fun x hx => lo x (List.mem_cons_of_mem _ hx)), List.cons_append]
theorem Stand.drop {L A B : List Rk} {id : Nat} (s : Stand L id A B) : rkDrop L id = A ++ rkDrop B id := by
  obtain ⟨rfl, lo, hi⟩ := s
  induction A with
  | nil => rfl
  | cons a A ih =>
    have := lo a (List.mem_cons_self ..)
    rw [List.cons_append, rkDrop, if_neg (by omega), ih (fun x hx => lo x (List.mem_cons_of_mem _ hx)), List.cons_append]
theorem rkGet_none : ∀ {B : List Rk} {id : Nat}, (∀ x ∈ B, id < x.1) → rkGet B id = none
  | [], _, _ => rfl
  | x :: B, id, h => by
    have := h x (List.mem_cons_self ..)
    rw [rkGet, if_neg (by omega)]
    exact rkGet_none fun y hy => h y (List.mem_cons_of_mem _ hy)
/-- What stands behind is found at the head, or not at all. -/
theorem Stand.found {L A B : List Rk} {id : Nat} (s : Stand L id A B) (r : RkL L) : (headId B id = true → ∃ c B', B = (id, c) :: B' ∧ rkGet L id = some c) ∧ (headId B id = false → rkGet L id = none ∧ ∀ x ∈ B, id < x.1) := by
  have g := s.get
  cases B with
  | nil => exact ⟨fun h => by simp [headId] at h, fun _ => ⟨g, by simp⟩⟩
  | cons x B =>
    simp only [headId, decide_eq_true_eq, decide_eq_false_iff_not]
    refine ⟨fun h => ?_, fun h => ?_⟩
    · subst h
      exact ⟨x.2, B, rfl, by rw [g, rkGet, if_pos rfl]⟩
    · have h0 := s.hi x (List.mem_cons_self ..)
      have p := r.rise
      rw [s.eq] at p
      have p := (List.pairwise_append.1 p).2.1
      have a : ∀ y ∈ x :: B, id < y.1 := by
        intro y hy
        rcases List.mem_cons.1 hy with rfl | hy
        · omega
        · have := (List.pairwise_cons.1 p).1 y hy
          omega
      exact ⟨by rw [g]; exact rkGet_none a, a⟩
theorem rkPut_in {B' : List Rk} {id : Nat} {c c' : List Value} : rkPut ((id, c') :: B') id c = (id, c) :: B' := by
  rw [rkPut, if_neg (by simp), if_pos rfl]
theorem rkPut_out : ∀ {B : List Rk} {id : Nat} {c : List Value}, (∀ x ∈ B, id < x.1) → rkPut B id c = (id, c) :: B
  | [], _, _, _ => rfl
  | x :: B, id, c, h => by rw [rkPut, if_pos (h x (List.mem_cons_self ..))]
theorem rkDrop_in {B' : List Rk} {id : Nat} {c' : List Value} : rkDrop ((id, c') :: B') id = B' := by rw [rkDrop, if_pos rfl]
theorem rkDrop_out : ∀ {B : List Rk} {id : Nat}, (∀ x ∈ B, id < x.1) → rkDrop B id = B
  | [], _, _ => rfl
  | x :: B, id, h => by
    have := h x (List.mem_cons_self ..)
    rw [rkDrop, if_neg (by omega), rkDrop_out fun y hy => h y (List.mem_cons_of_mem _ hy)]
theorem stand_exists : ∀ (L : List Rk) (id : Nat), L.Pairwise (fun x y => x.1 < y.1) → ∃ A B, Stand L id A B
  | [], id, _ => ⟨[], [], rfl, by simp, by simp⟩
  | x :: L, id, p => by
    obtain ⟨p1, p2⟩ := List.pairwise_cons.1 p
    by_cases h : x.1 < id
    · obtain ⟨A, B, e, lo, hi⟩ := stand_exists L id p2
      exact ⟨x :: A, B, by rw [e]; rfl, fun y hy => by rcases List.mem_cons.1 hy with rfl | hy; exact h; exact lo y hy, hi⟩
    · refine ⟨[], x :: L, rfl, by simp, fun y hy => ?_⟩
      rcases List.mem_cons.1 hy with rfl | hy
      · omega
      · have := p1 y hy; omega
theorem RkL.put {L : List Rk} {id : Nat} {c : List Value} (r : RkL L) (h1 : 1 ≤ id) (h2 : id ≤ 2147483647) (lc : c.length = 2) (oc : allOne c = true) (few : (rkPut L id c).length ≤ 90000) : RkL (rkPut L id c) := by
  obtain ⟨A, B, s⟩ := stand_exists L id r.rise
  have e := s.put (c := c)
  have f := s.found r
  have pr := r.rise
  rw [s.eq] at pr
  obtain ⟨pA, pB, pAB⟩ := List.pairwise_append.1 pr
  have inA : ∀ x ∈ A, x ∈ L := fun x hx => by rw [s.eq]; exact List.mem_append_left _ hx
  have inB : ∀ x ∈ B, x ∈ L := fun x hx => by rw [s.eq]; exact List.mem_append_right _ hx
  have mem : ∀ x ∈ rkPut L id c, x ∈ L ∨ x = (id, c) := by
    intro x hx
    rw [e] at hx
    cases hh : headId B id with
    | true =>
      obtain ⟨c', B', eB, _⟩ := f.1 hh
      rw [eB, rkPut_in] at hx
      rcases List.mem_append.1 hx with hx | hx
      · exact .inl (inA x hx)
      · rcases List.mem_cons.1 hx with rfl | hx
        · exact .inr rfl
        · exact .inl (inB x (by rw [eB]; exact List.mem_cons_of_mem _ hx))
    | false =>
      rw [rkPut_out (f.2 hh).2] at hx
      rcases List.mem_append.1 hx with hx | hx
      · exact .inl (inA x hx)
      · rcases List.mem_cons.1 hx with rfl | hx
        · exact .inr rfl
        · exact .inl (inB x hx)
  refine ⟨fun x hx => ?_, fun x hx => ?_, ?_, few, fun x hx => ?_⟩
  · rcases mem x hx with h | rfl
    · exact r.len x h
    · exact lc
  · rcases mem x hx with h | rfl
    · exact r.one x h
    · exact oc
  · rw [e]
    cases hh : headId B id with
    | true =>
      obtain ⟨c', B', eB, _⟩ := f.1 hh
      rw [eB, rkPut_in]
      rw [eB] at pB pAB
      refine List.pairwise_append.2 ⟨pA, List.pairwise_cons.2 ⟨(List.pairwise_cons.1 pB).1, (List.pairwise_cons.1 pB).2⟩, fun x hx y hy => ?_⟩
      rcases List.mem_cons.1 hy with rfl | hy
      · exact s.lo x hx
      · exact pAB x hx y (List.mem_cons_of_mem _ hy)
    | false =>
      have a := (f.2 hh).2
      rw [rkPut_out a]
      refine List.pairwise_append.2 ⟨pA, List.pairwise_cons.2 ⟨a, pB⟩, fun x hx y hy => ?_⟩
      rcases List.mem_cons.1 hy with rfl | hy
      · exact s.lo x hx
      · exact pAB x hx y hy
  · rcases mem x hx with h | rfl
    · exact r.ids x h
    · exact ⟨h1, h2⟩
theorem RkL.sub {L M : List Rk} (r : RkL L) (s : M.Sublist L) : RkL M :=
  ⟨fun x hx => r.len x (s.subset hx), fun x hx => r.one x (s.subset hx), r.rise.sublist s, Nat.le_trans s.length_le r.few, fun x hx => r.ids x (s.subset hx)⟩
theorem rkDrop_sub : ∀ (L : List Rk) (id : Nat), (rkDrop L id).Sublist L
  | [], _ => .slnil
  | x :: L, id => by
    rw [rkDrop]
    split
    · exact List.sublist_cons_self ..
    · exact (rkDrop_sub L id).cons_cons x
/-! ### Compare, and by what the rows are sought -/
def rcmp (x y : Nat) : Int := if x < y then -1 else if y < x then 1 else 0
def cmpO : Abs.Spec := fun args h k => ∃ x y : Nat, args = [.int .u32 x, .int .u32 y] ∧ k (.int .i64 (rcmp x y)) h
theorem cmpO_good : SpecGood Try.prog (57, cmpO) := by
  refine spec_good mixed Try.func57 (by kernel_rfl) (by kernel_rfl) (tab := [(74, nanS)]) (by simp [nanS_good]) (keep := cmp_Compare_keep) ?_
  rintro args h k ⟨x, y, rfl, H⟩
  refine ⟨0, ?_⟩
  show cmp_Compare (tabC _) idG 0 (.int .u32 (x : Int)) (.int .u32 (y : Int)) h _
  rw [cmp_Compare_eq]
  refine .inl ⟨rfl, _, rfl, .inl ⟨rfl, _, rfl, ?_⟩⟩
  simp only [condK_bool, Bool.false_eq_true, if_false, idG_eq, binV_lss, binV_gtr, bindV_some, decide_eq_true_eq]
  unfold rcmp at H
  by_cases h1 : x < y
  · have : (x : Int) < y := by omega
    rw [if_pos this]
    rw [if_pos h1] at H
    exact ⟨h, St.le.refl _, H⟩
  · have : ¬ (x : Int) < y := by omega
    rw [if_neg this]
    rw [if_neg h1] at H
    simp only [idG_eq, binV_gtr, bindV_some, condK_bool, decide_eq_true_eq]
    by_cases h2 : y < x
    · have : (x : Int) > y := by omega
      rw [if_pos this]
      rw [if_pos h2] at H
      exact ⟨h, St.le.refl _, H⟩
    · have : ¬ (x : Int) > y := by omega
      rw [if_neg this]
      rw [if_neg h2] at H
      exact ⟨h, St.le.refl _, H⟩
def at1O : Abs.Spec := fun args h k => ∃ (x y : Nat) (c : List Value), args = [.agg (rowC (x, c)).toArray, .int .u32 y] ∧ allOne c = true ∧ ∀ h', Chg h h' [] → k (.int .i64 (rcmp x y)) h'
theorem at1O_good : SpecGood Try.prog (56, at1O) := by
  refine spec_good mixed Try.func56 (by kernel_rfl) (by kernel_rfl) (tab := [(57, cmpO)]) (by simp [cmpO_good]) (keep := rack_at1_keep) ?_
  rintro args h k ⟨x, y, c, rfl, h1, H⟩
  refine ⟨0, ?_⟩
  show rack_at1 (tabC _) idG 0 (.agg (rowC (x, c)).toArray) (.int .u32 (y : Int)) h _
  rw [rack_at1_eq]
  refine boxE_in (by simp only [Value.cells, rowC, allOne, h1, one, Bool.and_true]) fun h1 c1 n1 o1 => ?_
  simp only [offV_ptr, bindV_some, loadV_ptr, o1, loadM_cells, partV_one, Value.cells, rowC, List.getElem?_cons_zero, Nat.zero_add]
  exact .inl ⟨rfl, x, y, rfl, h1, St.le.refl _, H h1 c1⟩
/-! ### the search -/
def seekO : Abs.Spec := fun args h k => ∃ (D : Nat → Prop) (v : Value) (L : List Rk) (id : Nat), args = [v, .int .u32 id, .func (.func 56) #[] #[]] ∧ RkL L ∧ OwnS D h v 3 (L.flatMap rowC) L.length ∧
  ∀ h' A B, Chg h h' [] → Stand L id A B → k (.tuple #[.int .i64 A.length, .bool (headId B id)]) h'
def tabSk : List (FuncId × Abs.Spec) := [(56, at1O)]
theorem row_at {D : Nat → Prop} {h h' : St} {v : Value} {L : List Rk} (r : RkL L) (s : OwnS D h v 3 (L.flatMap rowC) L.length) (c : Chg h h' []) {i : Nat} (hi : i < L.length) (k : IntKind) :
    ∃ b o, idxS 3 v (.int k i) = some (.pointer (some ⟨b, o, none⟩)) ∧ D b ∧ b < h.next ∧ ∃ cs, h'.objs b = some (.cells cs true) ∧ takeN cs o 3 = some (rowC L[i]) := by
  obtain ⟨b, o, g1, g2, g3, cs, g4, g5⟩ := s.row r.row (List.getElem?_eq_getElem hi) k
  exact ⟨b, o, g1, g2, g3, cs, c.at0 g3 g4, g5⟩
theorem seek_j1 {nn : Nat} {v x6 x7 : Value} {id i : Nat} {D : Nat → Prop} {L : List Rk} {h0 h : St} {k : Cont} {x8 x10 : Value} (r : RkL L) (s : OwnS D h0 v 3 (L.flatMap rowC) L.length) (c : Chg h0 h [])
    (hi : i ≤ L.length) (st : Stand L id (L.take i) (L.drop i)) (e8 : x8 = .int .i64 (L.length : Int))
    (H : ∀ h' A B, Chg h0 h' [] → Stand L id A B → k (.tuple #[.int .i64 A.length, .bool (headId B id)]) h') :
    rack_Search_j1 (tabC tabSk) idG nn v (.int .u32 id) (.func (.func 56) #[] #[]) x6 x7 x8 (.int .i64 (i : Int)) x10 h (fun v h1 => ∃ h2, St.le h2 h1 ∧ k v h2) := by
  subst e8
  rw [rack_Search_j1_eq]
  simp only [binV_lss, bindV_some, groupK_eq, guardK_bool, decide_eq_true_eq]
  have la : (L.take i).length = i := by rw [List.length_take]; omega
  by_cases hl : i < L.length
  · have hl' : (i : Int) < L.length := by omega
    rw [if_pos hl']
    obtain ⟨b, o, g1, g2, g3, cs, g4, g5⟩ := row_at r s c hl .i64
    simp only [g1, bindV_some, loadV_ptr, g4, loadM_cells, partV_agg, g5, Option.map_some, callE, List.nil_append, List.append_nil]
    refine .inl ⟨rfl, L[i].1, id, L[i].2, rfl, r.one _ (List.getElem_mem hl), fun h' c' => ?_⟩
    simp only [binNil_int, binV_eql, bindV_some, idG_eq, decide_true, pickV_bool, if_true, hl', getT]
    have dr : L.drop i = L[i] :: L.drop (i + 1) := List.drop_eq_getElem_cons hl
    have := H h' _ _ (c.seq c') st
    rw [la, dr] at this
    have e : decide (rcmp L[i].1 id = 0) = headId (L[i] :: L.drop (i + 1)) id := by
      show _ = decide (L[i].1 = id)
      unfold rcmp
      refine decide_eq_decide.2 ?_
      split
      · omega
      · split <;> omega
    rw [e]
    exact ⟨h', St.le.refl _, this⟩
  · have hl' : ¬ (i : Int) < L.length := by omega
    rw [if_neg hl']
    have := H h _ _ c st
    rw [la, List.drop_of_length_le (by omega)] at this
    simp only [idG_eq, hl', decide_false, pickV_bool, Bool.false_eq_true, if_false, bindV_some]
    exact ⟨h, St.le.refl _, this⟩
theorem half_of {x : Nat} (h : x < 1000000) : binNil .shr .other (.int .u64 (x : Int)) (.int .u64 1) = some (.int .u64 ((x / 2 : Nat) : Int)) := by
  simp [binNil, binV, isShift, shiftV, IntKind.wrap, IntKind.signed, IntKind.bits, Int.shiftRight_eq_div_pow]
  rw [Int.fdiv_eq_ediv_of_nonneg _ (by omega)]
theorem seek_l0 {nn : Nat} {v x6 x7 : Value} {id : Nat} {D : Nat → Prop} {L : List Rk} {h0 : St} {k : Cont} {x8 : Value} (r : RkL L) (s : OwnS D h0 v 3 (L.flatMap rowC) L.length) (e8 : x8 = .int .i64 (L.length : Int))
    (H : ∀ h' A B, Chg h0 h' [] → Stand L id A B → k (.tuple #[.int .i64 A.length, .bool (headId B id)]) h') :
    ∀ (d i j m0 : Nat) (h : St), j - i ≤ d → d < m0 → i ≤ j → j ≤ L.length → (∀ x ∈ L.take i, x.1 < id) → (∀ x ∈ L.drop j, id ≤ x.1) → Chg h0 h [] →
      rack_Search_l0 (tabC tabSk) idG nn m0 v (.int .u32 id) (.func (.func 56) #[] #[]) x6 x7 x8 (.int .i64 (i : Int)) (.int .i64 (j : Int)) h (fun v h1 => ∃ h2, St.le h2 h1 ∧ k v h2) := by
  intro d
  induction d with
  | zero =>
    intro i j m0 h hd hm hij hj lo hi c
    obtain ⟨m0, rfl⟩ : ∃ m, m0 = m + 1 := ⟨m0 - 1, by omega⟩
    rw [rack_Search_l0_eq]
    have : i = j := by omega
    subst this
    simp only [binV_lss, bindV_some, condK_bool, Int.lt_irrefl, decide_false, Bool.false_eq_true, if_false, idG_eq]
    exact seek_j1 r s c hj ⟨(List.take_append_drop ..).symm, lo, hi⟩ e8 H
  | succ d ih =>
    intro i j m0 h hd hm hij hj lo hi c
    obtain ⟨m0, rfl⟩ : ∃ m, m0 = m + 1 := ⟨m0 - 1, by omega⟩
    by_cases e : i = j
    · subst e
      rw [rack_Search_l0_eq]
      simp only [binV_lss, bindV_some, condK_bool, Int.lt_irrefl, decide_false, Bool.false_eq_true, if_false, idG_eq]
      exact seek_j1 r s c hj ⟨(List.take_append_drop ..).symm, lo, hi⟩ e8 H
    rw [rack_Search_l0_eq]
    have few := r.few
    have lt : (i : Int) < j := by omega
    have w1 : IntKind.i64.wrap ((i : Int) + j) = ((i + j : Nat) : Int) := by rw [i64_in _ (by omega)]; omega
    have w2 : IntKind.u64.wrap ((i + j : Nat) : Int) = ((i + j : Nat) : Int) := u64_of (by omega)
    obtain ⟨m, hmm⟩ : ∃ m, m = (i + j) / 2 := ⟨_, rfl⟩
    have w3 : IntKind.i64.wrap ((m : Nat) : Int) = (m : Int) := i64_in _ (by omega)
    have mi : i ≤ m := by omega
    have mj : m < j := by omega
    obtain ⟨b, o, g1, g2, g3, cs, g4, g5⟩ := row_at r s c (show m < L.length by omega) .i64
    simp only [binV_lss, bindV_some, condK_bool, lt, decide_true, if_true, idG_eq, binV_add, w1, wrapV_int, w2, half_of (show i + j < 1000000 by omega), ← hmm, w3, g1, loadV_ptr, g4, loadM_cells, partV_agg, g5, Option.map_some, callE, List.nil_append, List.append_nil]
    refine .inl ⟨rfl, L[m].1, id, L[m].2, rfl, r.one _ (List.getElem_mem _), fun h' c' => ?_⟩
    have pw := List.pairwise_iff_getElem.1 r.rise
    simp only [binNil_int, binV_lss, bindV_some]
    by_cases hl : L[m].1 < id
    · have e1 : rcmp L[m].1 id < 0 := by unfold rcmp; rw [if_pos hl]; omega
      have w4 : IntKind.i64.wrap ((m : Int) + 1) = ((m + 1 : Nat) : Int) := by rw [i64_in _ (by omega)]; omega
      simp only [e1, decide_true, if_true, binV_add, bindV_some, w4, condK_bool, binNil_int, idG_eq]
      refine ih (m + 1) j m0 h' (by omega) (by omega) (by omega) hj ?_ hi (c.seq c')
      intro x hx
      obtain ⟨t, ht, rfl⟩ := List.getElem_of_mem hx
      rw [List.length_take] at ht
      rw [List.getElem_take]
      by_cases e : t = m
      · subst e; exact hl
      · have := pw t m (by omega) (by omega) (by omega)
        omega
    · have e1 : ¬ rcmp L[m].1 id < 0 := by unfold rcmp; rw [if_neg hl]; split <;> omega
      simp only [e1, decide_false, Bool.false_eq_true, if_false, condK_bool, idG_eq]
      refine ih i m m0 h' (by omega) (by omega) (by omega) (by omega) lo ?_ (c.seq c')
      intro x hx
      obtain ⟨t, ht, rfl⟩ := List.getElem_of_mem hx
      rw [List.length_drop] at ht
      rw [List.getElem_drop]
      by_cases e : t = 0
      · subst e; simp only [Nat.add_zero]; omega
      · have := pw m (m + t) (by omega) (by omega) (by omega)
        omega
theorem seekO_good : SpecGood Try.prog (55, seekO) := by
  refine spec_good mixed Try.func55 (by kernel_rfl) (by kernel_rfl) (tab := tabSk) (by simp [tabSk, at1O_good]) (keep := rack_Search_keep) ?_
  rintro args h k ⟨D, v, L, id, rfl, r, s, H⟩
  refine ⟨L.length + 1, ?_⟩
  show rack_Search (tabC _) idG _ v (.int .u32 (id : Int)) (.func (.func 56) #[] #[]) h _
  rw [rack_Search_eq]
  simp only [s.len, bindV_some, idG_eq]
  exact seek_l0 r s rfl H L.length 0 L.length _ h (by omega) (by omega) (by omega) (Nat.le_refl _) (by simp) (by simp) (Chg.refl _ _)
end Go.Proofs.Ytnelcpabjpchnaa
