/- The queue of timers: finding, the first one, what is due, setting. -/
import Derived.Test.YtaoeeoboaiknjaaE
set_option linter.unusedSimpArgs false
set_option linter.unusedVariables false
set_option maxHeartbeats 4000000
namespace Go.Proofs.Ytaoeeoboaiknjaa
open Go.Abs Go.IntWalk
attribute [local congr] bindV_weak condK_weak guardK_weak groupK_weak allocE_weak boxE_weak storeE_weak storeM_weak tabC_weak ite_weak idG_weak appendE_weak buildSliceE_weak invokeE_weak mapUpdateE_weak deleteE_weak makeMapE_weak

/-! ### plainly -/
structure Tm where
  kind : Int
  id : Int
  at_ : Int
deriving DecidableEq
def tm (x : It) : Tm := ⟨x.kind, x.id, x.at_⟩
def cellsT (t : Tm) : List Value := [.int .i64 t.kind, .int .u32 t.id, .int .i64 t.at_]
def encT (t : Tm) : Value := .agg #[.int .i64 t.kind, .int .u32 t.id, .int .i64 t.at_]
def Tm.zero : Tm := ⟨0, 0, 0⟩
def bestT : Tm → List Tm → Tm
  | b, [] => b
  | b, y :: l => bestT (if y.at_ < b.at_ then y else b) l
def firstT : List Tm → Option Tm
  | [] => none
  | x :: l => some (bestT x l)
def bestI : It → List It → It
  | b, [] => b
  | b, y :: l => bestI (if y.at_ < b.at_ then y else b) l
theorem best_map : ∀ (l : List It) (b : It), tm (bestI b l) = bestT (tm b) (l.map tm)
  | [], b => rfl
  | y :: l, b => by
    simp only [bestI, List.map_cons, bestT, best_map l]
    congr 1
    show tm (if y.at_ < b.at_ then y else b) = if y.at_ < b.at_ then tm y else tm b
    split <;> rfl
theorem bestI_le : ∀ (l : List It) (b : It), (b :: l).Pairwise (fun x y : It => x.seq < y.seq) → bestI b l ∈ b :: l ∧ ∀ y ∈ b :: l, leT (bestI b l) y
  | [], b, _ => ⟨by simp [bestI], by intro y hy; simp at hy; subst hy; exact leT.refl _⟩
  | y :: l, b, pw => by
    have p1 := List.pairwise_cons.1 pw
    have p2 := List.pairwise_cons.1 p1.2
    simp only [bestI]
    split
    · rename_i lt
      obtain ⟨m1, m2⟩ := bestI_le l y p1.2
      refine ⟨List.mem_cons_of_mem _ m1, fun z hz => ?_⟩
      rcases List.mem_cons.1 hz with rfl | hz
      · exact (m2 y (by simp)).trans (leT_of_lt (.inl lt))
      · exact m2 z hz
    · rename_i lt
      have pb : (b :: l).Pairwise (fun x y : It => x.seq < y.seq) := List.pairwise_cons.2 ⟨fun z hz => p1.1 z (by simp [hz]), p2.2⟩
      obtain ⟨m1, m2⟩ := bestI_le l b pb
      refine ⟨?_, fun z hz => ?_⟩
      · rcases List.mem_cons.1 m1 with h | h
        · rw [h]; simp
        · exact List.mem_cons_of_mem _ (List.mem_cons_of_mem _ h)
      · rcases List.mem_cons.1 hz with rfl | hz
        · exact m2 _ (by simp)
        · rcases List.mem_cons.1 hz with rfl | hz
          · have := p1.1 z (by simp)
            exact (m2 b (by simp)).trans (by unfold leT; omega)
          · exact m2 z (by simp [hz])
theorem seq_inj : ∀ {L : List It}, L.Pairwise (fun x y : It => x.seq < y.seq) → ∀ x ∈ L, ∀ y ∈ L, x.seq = y.seq → x = y
  | [], _, x, hx, _, _, _ => by simp at hx
  | a :: L, pw, x, hx, y, hy, e => by
    have p := List.pairwise_cons.1 pw
    rcases List.mem_cons.1 hx with hx1 | hx1
    · rcases List.mem_cons.1 hy with hy1 | hy1
      · rw [hx1, hy1]
      · have := p.1 y hy1; rw [hx1] at e; omega
    · rcases List.mem_cons.1 hy with hy1 | hy1
      · have := p.1 x hx1; rw [hy1] at e; omega
      · exact seq_inj p.2 x hx1 y hy1 e
/-- The first of the timers. -/
def firstI : List It → Option It
  | [] => none
  | x :: l => some (bestI x l)
theorem first_map (L : List It) : (firstI L).map tm = firstT (L.map tm) := by
  cases L with
  | nil => rfl
  | cons x l => simp [firstI, firstT, best_map]
theorem firstI_eq {L : List It} {x : It} (pw : L.Pairwise (fun x y : It => x.seq < y.seq)) (hx : x ∈ L) (hl : ∀ y ∈ L, leT x y) : firstI L = some x := by
  cases L with
  | nil => simp at hx
  | cons b l =>
    obtain ⟨m1, m2⟩ := bestI_le l b pw
    have a := hl _ m1
    have c := m2 x hx
    have e : (bestI b l).seq = x.seq := by unfold leT at a c; omega
    rw [firstI, seq_inj pw _ m1 x hx e]
theorem firstI_mem {L : List It} {x : It} (h : firstI L = some x) : x ∈ L := by
  cases L with
  | nil => cases h
  | cons b l =>
    have : ∀ (l : List It) (b : It), bestI b l ∈ b :: l := by
      intro l
      induction l with
      | nil => intro b; simp [bestI]
      | cons y l ih =>
        intro b
        simp only [bestI]
        split
        · have := ih y; simp only [List.mem_cons] at this ⊢; rcases this with h | h
          · exact .inr (.inl h)
          · exact .inr (.inr h)
        · have := ih b; simp only [List.mem_cons] at this ⊢; rcases this with h | h
          · exact .inl h
          · exact .inr (.inr h)
    cases h
    exact this l b

/-! ### when is it due -/
def findS : Abs.Spec := fun args h k => ∃ D Q L s kd id, args = [ptr Q, .int .i64 kd, .int .u32 id] ∧ QS D h Q L s ∧
  k (.tuple #[.int .i64 (((L.map tm).find? fun t => decide (kd = t.kind) && decide (id = t.id)).elim 0 Tm.at_), .bool ((L.map tm).find? fun t => decide (kd = t.kind) && decide (id = t.id)).isSome]) h
theorem findI {A C : List It} {x : It} {kd id : Int} (px : isT kd id x = true) (pA : ∀ y ∈ A, isT kd id y = false) : ((A ++ x :: C).map tm).find? (fun t => decide (kd = t.kind) && decide (id = t.id)) = some (tm x) := by
  rw [List.find?_map, List.find?_append]
  have e : A.find? ((fun t : Tm => decide (kd = t.kind) && decide (id = t.id)) ∘ tm) = none := by
    rw [List.find?_eq_none]
    intro y hy
    have := pA y hy
    intro h; simp only [Function.comp, tm] at h; exact Bool.noConfusion (this.symm.trans h)
  rw [e]
  have : ((fun t : Tm => decide (kd = t.kind) && decide (id = t.id)) ∘ tm) x = true := px
  simp only [Option.none_or, List.find?_cons_of_pos this, Option.map_some]
theorem findS_good : SpecGood Try.prog (20, findS) := by
  refine spec_good mixed Try.func20 (by kernel_rfl) (by kernel_rfl) (tab := []) (by simp) (keep := timer_Queue_Find_keep) ?_
  rintro args h k ⟨D, Q, L, s, kd, id, rfl, ⟨sv, m, f, hs, hf, mm, ma, pw, sq⟩, H⟩
  refine ⟨0, ?_⟩
  show timer_Queue_Find (tabC []) idG 0 (ptr Q) (.int .i64 kd) (.int .u32 id) h _
  rw [timer_Queue_Find_eq]
  obtain ⟨b1, b2, b3, a, it, inj⟩ := hs
  have hb : buildV [.int .i64 0, .int .u32 0] (some [(0, 1, .int .i64 kd), (1, 1, .int .u32 id)]) = some (keyV kd id) := rfl
  simp only [ptr, binNil_ptr_eql, bindV_some, Option.isNone, condK_bool, Bool.false_eq_true, if_false, idG_eq]
  simp only [nilV_ptr, offV_ptr, bindV_some, loadV_ptr, Nat.zero_add, b3, loadM_cells, partV_one, List.getElem?_cons_succ, List.getElem?_cons_zero, hb]
  rcases ma.look (key_nil kd id) (fun x _ => key_cmp kd id x) (.pointer none) true with ⟨A, x, C, rfl, px, pA, e⟩ | ⟨pL, e⟩
  · have hx : Mem f (A ++ x :: C).length x := (mm x).2 (by simp)
    obtain ⟨p, hp, fp⟩ := hx
    obtain ⟨i1, i2, i3, oi⟩ := it p hp
    rw [fp] at i1 i2 i3 oi
    rw [findI px pA] at H
    simp only [e, bindV_some, outV_true, evT, extV_two0, extV_two1, unV_not, Bool.not_true, condK_bool, Bool.false_eq_true, if_false, idG_eq]
    simp only [ptr, nilV_ptr, offV_ptr, bindV_some, Nat.zero_add, loadV_ptr, oi, itemC, loadM_cells, partV_one, List.getElem?_cons_succ, List.getElem?_cons_zero]
    exact ⟨h, St.le.refl _, H⟩
  · have e2 : (L.map tm).find? (fun t => decide (kd = t.kind) && decide (id = t.id)) = none := by
      rw [List.find?_eq_none]
      intro t ht
      obtain ⟨x, hx, rfl⟩ := List.mem_map.1 ht
      have := pL x hx
      intro h; simp only [tm] at h; exact Bool.noConfusion (this.symm.trans h)
    rw [e2] at H
    simp only [e, bindV_some, outV_true, extV_two0, extV_two1, unV_not, Bool.not_false, condK_bool, if_true]
    exact ⟨h, St.le.refl _, H⟩
/-! ### the first one -/
def tabN : List (FuncId × Abs.Spec) := [(14, lenS)]
theorem tabN_good : ∀ p ∈ tabN, SpecGood Try.prog p := by simp [tabN, lenS_good]
def nextS : Abs.Spec := fun args h k => ∃ D Q L s, args = [ptr Q] ∧ (∀ i, D i → i < h.next) ∧ QS D h Q L s ∧ ∀ h', Chg h h' [] → k (.tuple #[encT ((firstI L).elim .zero tm), .bool (firstI L).isSome]) h'
theorem nextS_good : SpecGood Try.prog (22, nextS) := by
  refine spec_good mixed Try.func22 (by kernel_rfl) (by kernel_rfl) (tab := tabN) tabN_good (keep := timer_Queue_Next_keep) ?_
  rintro args h k ⟨D, Q, L, s, rfl, hD, q, H⟩
  refine ⟨0, ?_⟩
  show timer_Queue_Next (tabC tabN) idG 0 (ptr Q) h _
  rw [timer_Queue_Next_eq]
  simp only [allocE_some]
  obtain ⟨h1, hh1⟩ : ∃ z, z = h.push (.cells [.int .i64 0, .int .u32 0, .int .i64 0] true) := ⟨_, rfl⟩
  rw [← hh1]
  have c1 : Chg h h1 [] := by rw [hh1]; exact Chg.push _ _
  have o1 : h1.objs h.next = some (.cells [.int .i64 0, .int .u32 0, .int .i64 0] true) := by rw [hh1]; exact push_at _ _
  have q1 := q.chgP (c1.toP (D := fun _ => False) (by simp)) (by simp)
  refine .inl ⟨rfl, D, Q, L, s, rfl, q1, ?_⟩
  obtain ⟨sv, m, f, hs, hf, mm, ma, pw, sq⟩ := q1
  obtain ⟨b1, b2, b3, a, it, inj⟩ := hs
  have hb : buildV [.int .i64 0, .int .u32 0, .int .i64 0] (some []) = some (encT .zero) := rfl
  simp only [binNil_int, binV_eql, bindV_some, condK_bool]
  cases L with
  | nil =>
    simp only [List.length_nil, Int.natCast_zero, Int.cast_ofNat_Int, decide_true, if_true, hb, bindV_some, encT, storeE_ptr, o1, storeM_cells, cells_agg]
    refine ⟨⟨rfl, by simp, rfl⟩, ?_⟩
    simp only [loadV_ptr, set_at, loadM_cells, partV_agg]
    exact ⟨_, St.le.refl _, H _ (c1.of_set (.inr (Nat.le_refl _)))⟩
  | cons b l =>
    have hl : ¬ (((b :: l).length : Nat) : Int) = 0 := by simp; omega
    have pos : 0 < (b :: l).length := by simp
    obtain ⟨x, hx⟩ : ∃ x, x = f 0 := ⟨_, rfl⟩
    have fx : firstI (b :: l) = some x := by
      refine firstI_eq (pw.imp fun h => h.1) ((mm x).1 ⟨0, pos, hx.symm⟩) fun y hy => ?_
      obtain ⟨p, hp, e⟩ := (mm y).2 hy
      rw [hx, ← e]
      exact heap_first hf p hp
    rw [fx] at H
    obtain ⟨aq, cs, rfl, a1, a2, a3, a4, a5, a6, a7, ix⟩ := a.idx pos
    obtain ⟨i1, i2, i3, oi⟩ := it 0 pos
    rw [← hx] at i1 i2 i3 oi
    have g0 := a6 0 pos
    rw [← hx] at g0
    have ix0 := ix 0 pos
    have ne : x.blk ≠ h.next := by have := hD _ i2.1; omega
    simp only [hl, decide_false, Bool.false_eq_true, if_false, idG_eq]
    simp only [ptr, nilV_ptr, offV_ptr, bindV_some, loadV_ptr, Nat.zero_add, b3, loadM_cells, partV_one, List.getElem?_cons_succ, List.getElem?_cons_zero]
    have ix0' : idxS 1 (.slice (some ⟨aq, 0, some 1⟩) (b :: l).length 0) (.int .i64 0) = some (.pointer (some ⟨aq, 0, none⟩)) := ix0
    have tk : takeN (itemC x ((0 : Nat) : Int)) 0 3 = some (cellsT (tm x)) := rfl
    simp only [ix0', bindV_some, loadV_ptr, a4, loadM_cells, partV_one, g0, ptr, nilV_ptr, offV_ptr, Nat.zero_add, oi, partV_agg, tk, Option.map_some, storeE_ptr, o1, storeM_cells, cells_agg]
    refine ⟨⟨rfl, by simp, rfl⟩, ?_⟩
    simp only [loadV_ptr, set_at, loadM_cells, partV_agg]
    exact ⟨_, St.le.refl _, H _ (c1.of_set (.inr (Nat.le_refl _)))⟩
end Go.Proofs.Ytaoeeoboaiknjaa
