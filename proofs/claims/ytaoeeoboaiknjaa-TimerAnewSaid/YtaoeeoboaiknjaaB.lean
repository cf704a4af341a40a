/- The heap as it lies: its length, which of two is less, two exchanged. -/
import Derived.Test.YtaoeeoboaiknjaaA
import Derived.Test.YtaoeeoboaiknjaaAbsSl
set_option linter.unusedSimpArgs false
set_option linter.unusedVariables false
set_option maxHeartbeats 4000000
namespace Go.Proofs.Ytaoeeoboaiknjaa
open Go.Abs Go.IntWalk
theorem appendE_weak {dd : Prop} {size bytes : Nat} {s s' x x' : Value} {h h' : St} {k : Cont} (e : s = s') (ex : x = x') (eh : h = h') (_t : ((0 : Nat) = 0) = dd) : appendE size bytes s x h k = appendE size bytes s' x' h' k := by rw [e, ex, eh]
theorem buildSliceE_weak {dd : Prop} {size len : Nat} {z : List Value} {p p' : List (Nat × Nat × Value)} {h h' : St} {k : Cont} (ex : p = p') (eh : h = h') (_t : ((0 : Nat) = 0) = dd) : buildSliceE size len z p h k = buildSliceE size len z p' h' k := by rw [ex, eh]
theorem invokeE_weak {dd : Prop} {P : Program} {C : Oracle} {name : String} {r r' : Value} {a a' : List Value} {h h' : St} {k : Cont} (er : r = r') (ea : a = a') (eh : h = h') (_t : ((0 : Nat) = 0) = dd) : invokeE P C name r a h k = invokeE P C name r' a' h' k := by rw [er, ea, eh]
theorem mapUpdateE_weak {dd : Prop} {key : KeyMode} {m m' q q' x x' : Value} {h h' : St} {k : Cont} (em : m = m') (eq : q = q') (ex : x = x') (eh : h = h') (_t : ((0 : Nat) = 0) = dd) : mapUpdateE key m q x h k = mapUpdateE key m' q' x' h' k := by rw [em, eq, ex, eh]
theorem deleteE_weak {dd : Prop} {key : KeyMode} {m m' q q' : Value} {h h' : St} {k : Cont} (em : m = m') (eq : q = q') (eh : h = h') (_t : ((0 : Nat) = 0) = dd) : deleteE key m q h k = deleteE key m' q' h' k := by rw [em, eq, eh]
theorem makeMapE_weak {dd : Prop} {h h' : St} {k : Cont} (eh : h = h') (_t : ((0 : Nat) = 0) = dd) : makeMapE h k = makeMapE h' k := by rw [eh]
attribute [local congr] bindV_weak condK_weak guardK_weak groupK_weak allocE_weak boxE_weak storeE_weak storeM_weak tabC_weak ite_weak idG_weak appendE_weak buildSliceE_weak invokeE_weak

theorem mixed : Try.prog.follows .mixedOrders = true := by kernel_rfl
def ptr (p : Nat) : Value := .pointer (some ⟨p, 0, none⟩)
theorem meth_len : methOf Try.prog 68 "Len" = some (44, some (false, 1)) := by kernel_rfl
theorem meth_less : methOf Try.prog 68 "Less" = some (45, some (false, 1)) := by kernel_rfl
theorem meth_swap : methOf Try.prog 68 "Swap" = some (46, some (false, 1)) := by kernel_rfl
theorem meth_pop : methOf Try.prog 68 "Pop" = some (47, none) := by kernel_rfl
theorem meth_push : methOf Try.prog 68 "Push" = some (48, none) := by kernel_rfl
theorem inv_len (C : Oracle) (v : Value) (a : List Value) (h : St) (k : Cont) : invokeE Try.prog C "Len" (.iface 68 v) a h k = (bindV (loadV false 1 v h) fun x => C 44 (x :: a) h k) := by simp only [invokeE, meth_len]
theorem inv_less (C : Oracle) (v : Value) (a : List Value) (h : St) (k : Cont) : invokeE Try.prog C "Less" (.iface 68 v) a h k = (bindV (loadV false 1 v h) fun x => C 45 (x :: a) h k) := by simp only [invokeE, meth_less]
theorem inv_swap (C : Oracle) (v : Value) (a : List Value) (h : St) (k : Cont) : invokeE Try.prog C "Swap" (.iface 68 v) a h k = (bindV (loadV false 1 v h) fun x => C 46 (x :: a) h k) := by simp only [invokeE, meth_swap]
theorem inv_pop (C : Oracle) (v : Value) (a : List Value) (h : St) (k : Cont) : invokeE Try.prog C "Pop" (.iface 68 v) a h k = C 47 (v :: a) h k := by simp only [invokeE, meth_pop]
theorem inv_push (C : Oracle) (v : Value) (a : List Value) (h : St) (k : Cont) : invokeE Try.prog C "Push" (.iface 68 v) a h k = C 48 (v :: a) h k := by simp only [invokeE, meth_push]

def itemC (x : It) (k : Int) : List Value := [.int .i64 x.kind, .int .u32 x.id, .int .i64 x.at_, .int .i64 x.seq, .int .i64 k]
/-- The row of pointers. -/
def ArrS (D : Nat → Prop) (h : St) (Q : Nat) (sv : Value) (f : Nat → It) (n : Nat) : Prop :=
  (sv = .slice none 0 0 ∧ n = 0) ∨ ∃ q cs, sv = .slice (some ⟨q, 0, some 1⟩) n 0 ∧ D q ∧ q ≠ Q ∧ q < h.next ∧ h.objs q = some (.cells cs true) ∧ n ≤ cs.length ∧ (∀ k, k < n → cs[k]? = some (ptr (f k).blk)) ∧ ∀ k, k < n → (f k).blk ≠ q
def ItemsS (D : Nat → Prop) (h : St) (Q : Nat) (f : Nat → It) (n : Nat) : Prop :=
  (∀ k, k < n → (f k).blk < h.next ∧ D (f k).blk ∧ (f k).blk ≠ Q ∧ h.objs (f k).blk = some (.cells (itemC (f k) k) true)) ∧ ∀ i j, i < n → j < n → (f i).blk = (f j).blk → i = j
/-- The queue, as the heap sees it. -/
def HS (D : Nat → Prop) (h : St) (Q : Nat) (sv mv sq : Value) (f : Nat → It) (n : Nat) : Prop :=
  Q < h.next ∧ D Q ∧ h.objs Q = some (.cells [sv, mv, sq] true) ∧ ArrS D h Q sv f n ∧ ItemsS D h Q f n
theorem ArrS.idx {D : Nat → Prop} {h : St} {Q : Nat} {sv : Value} {f : Nat → It} {n : Nat} (a : ArrS D h Q sv f n) {k : Nat} (hk : k < n) : ∃ q cs, sv = .slice (some ⟨q, 0, some 1⟩) n 0 ∧ D q ∧ q ≠ Q ∧ q < h.next ∧ h.objs q = some (.cells cs true) ∧ n ≤ cs.length ∧ (∀ k, k < n → cs[k]? = some (ptr (f k).blk)) ∧ (∀ k, k < n → (f k).blk ≠ q) ∧ ∀ k : Nat, k < n → idxS 1 sv (.int .i64 k) = some (.pointer (some ⟨q, k, none⟩)) := by
  rcases a with ⟨_, rfl⟩ | ⟨q, cs, rfl, a1, a2, a3, a4, a5, a6, a7⟩
  · omega
  · exact ⟨q, cs, rfl, a1, a2, a3, a4, a5, a6, a7, fun k hk => by
      have : (k : Int) < n := by omega
      simp [idxS, this]⟩
theorem ArrS.len {D : Nat → Prop} {h : St} {Q : Nat} {sv : Value} {f : Nat → It} {n : Nat} (a : ArrS D h Q sv f n) : lenS sv = some (.int .i64 n) := by
  rcases a with ⟨rfl, rfl⟩ | ⟨q, cs, rfl, _⟩ <;> rfl

def lenHS : Abs.Spec := fun args h k => ∃ (a : Option Addr) (n c : Nat), args = [.slice a n c] ∧ k (.int .i64 n) h
theorem lenHS_good : SpecGood Try.prog (44, lenHS) := by
  refine spec_good mixed Try.func44 (by kernel_rfl) (by kernel_rfl) (tab := []) (by simp) (keep := timer_heaped_Len_keep) ?_
  rintro args h k ⟨a, n, c, rfl, H⟩
  refine ⟨0, ?_⟩
  show timer_heaped_Len (tabC []) idG 0 (.slice a n c) h _
  rw [timer_heaped_Len_eq]
  simp only [lenS_slice, bindV_some]
  exact ⟨h, St.le.refl _, H⟩
def lessS : Abs.Spec := fun args h k => ∃ (D : Nat → Prop) (Q : Nat) (sv mv sq : Value) (f : Nat → It) (n i j : Nat), args = [sv, .int .i64 i, .int .i64 j] ∧ i < n ∧ j < n ∧ HS D h Q sv mv sq f n ∧ k (.bool (decide (ltT (f i) (f j)))) h
theorem lessS_good : SpecGood Try.prog (45, lessS) := by
  refine spec_good mixed Try.func45 (by kernel_rfl) (by kernel_rfl) (tab := []) (by simp) (keep := timer_heaped_Less_keep) ?_
  rintro args h k ⟨D, Q, sv, mv, sq, f, n, i, j, rfl, hi, hj, ⟨_, _, _, a, it, _⟩, H⟩
  refine ⟨0, ?_⟩
  show timer_heaped_Less (tabC []) idG 0 sv (.int .i64 i) (.int .i64 j) h _
  rw [timer_heaped_Less_eq]
  obtain ⟨q, cs, rfl, a1, a2, a3, a4, a5, a6, a7, ix⟩ := a.idx hi
  obtain ⟨_, _, _, oi⟩ := it i hi
  obtain ⟨_, _, _, oj⟩ := it j hj
  have fin : ∀ b, b = decide (ltT (f i) (f j)) → ∃ h2, St.le h2 h ∧ k (.bool b) h2 := fun b hb => ⟨h, St.le.refl _, by rw [hb]; exact H⟩
  simp only [ix i hi, ix j hj, bindV_some, loadV_ptr, a4, loadM_cells, partV_one, a6 i hi, a6 j hj, ptr, nilV_ptr, offV_ptr, oi, oj, itemC, Nat.zero_add, Nat.add_zero, List.getElem?_cons_succ, List.getElem?_cons_zero, true_and, binV_neq]
  by_cases e : (f i).at_ = (f j).at_
  · simp only [e, ne_eq, not_true_eq_false, decide_false, condK_bool, Bool.false_eq_true, if_false, idG_eq, ix i hi, ix j hj, bindV_some, loadV_ptr, a4, loadM_cells, partV_one, a6 i hi, a6 j hj, ptr, nilV_ptr, offV_ptr, oi, oj, itemC, Nat.zero_add, Nat.add_zero, List.getElem?_cons_succ, List.getElem?_cons_zero, true_and, binV_lss]
    exact fin _ (decide_eq_decide.2 (by unfold ltT; omega))
  · simp only [e, ne_eq, not_false_eq_true, decide_true, condK_bool, if_true, ix i hi, ix j hj, bindV_some, loadV_ptr, a4, loadM_cells, partV_one, a6 i hi, a6 j hj, ptr, nilV_ptr, offV_ptr, oi, oj, itemC, Nat.zero_add, Nat.add_zero, List.getElem?_cons_succ, List.getElem?_cons_zero, true_and, binV_lss]
    exact fin _ (decide_eq_decide.2 (by unfold ltT; omega))
def swapS : Abs.Spec := fun args h k => ∃ (D : Nat → Prop) (Q : Nat) (sv mv sq : Value) (f : Nat → It) (n i j : Nat), args = [sv, .int .i64 i, .int .i64 j] ∧ i < n ∧ j < n ∧ i ≠ j ∧ HS D h Q sv mv sq f n ∧ ∀ h', ChgP D h h' → HS D h' Q sv mv sq (swapF f i j) n → k (.tuple #[]) h'
theorem swapS_good : SpecGood Try.prog (46, swapS) := by
  refine spec_good mixed Try.func46 (by kernel_rfl) (by kernel_rfl) (tab := []) (by simp) (keep := timer_heaped_Swap_keep) ?_
  rintro args h k ⟨D, Q, sv, mv, sq, f, n, i, j, rfl, hi, hj, hij, ⟨b1, b2, b3, a, it, inj⟩, H⟩
  refine ⟨0, ?_⟩
  show timer_heaped_Swap (tabC []) idG 0 sv (.int .i64 i) (.int .i64 j) h _
  rw [timer_heaped_Swap_eq]
  obtain ⟨q, cs, rfl, a1, a2, a3, a4, a5, a6, a7, ix⟩ := a.idx hi
  obtain ⟨i1, i2, i3, oi⟩ := it i hi
  obtain ⟨j1, j2, j3, oj⟩ := it j hj
  have qi := a7 i hi; have qj := a7 j hj
  have bij : (f i).blk ≠ (f j).blk := fun e => hij (inj i j hi hj e)
  simp only [ix i hi, ix j hj, bindV_some, loadV_ptr, a4, loadM_cells, partV_one, a6 i hi, a6 j hj, true_and, storeE_ptr, storeM_cells, ptr]
  refine ⟨⟨rfl, by omega, rfl⟩, ?_⟩
  obtain ⟨c1, hc1⟩ : ∃ z, z = cs.take i ++ (Value.pointer (some ⟨(f j).blk, 0, none⟩)).cells.toList ++ cs.drop (i + 1) := ⟨_, rfl⟩
  rw [← hc1]
  have e1 : c1 = cs.set i (ptr (f j).blk) := by
    rw [hc1, List.set_eq_take_append_cons_drop, if_pos (by omega)]
    simp [ptr, Value.cells]
  have l1 : c1.length = cs.length := by rw [e1]; simp
  simp only [bindV_some, set_at, storeE_ptr, storeM_cells]
  refine ⟨⟨rfl, by omega, rfl⟩, ?_⟩
  obtain ⟨c2, hc2⟩ : ∃ z, z = c1.take j ++ (Value.pointer (some ⟨(f i).blk, 0, none⟩)).cells.toList ++ c1.drop (j + 1) := ⟨_, rfl⟩
  rw [← hc2]
  have e2 : c2 = (cs.set i (ptr (f j).blk)).set j (ptr (f i).blk) := by
    rw [hc2, e1, List.set_eq_take_append_cons_drop (i := j), if_pos (by simp; omega)]
    simp [ptr, Value.cells]
  have l2 : c2.length = cs.length := by rw [e2]; simp
  have gi : c2[i]? = some (ptr (f j).blk) := by
    rw [e2, List.getElem?_set_ne (by omega), List.getElem?_set_self (by omega)]
  have gj : c2[j]? = some (ptr (f i).blk) := by
    rw [e2, List.getElem?_set_self (by simp; omega)]
  obtain ⟨h4, hh4⟩ : ∃ z, z = (h.set q (.cells c1 true)).set q (.cells c2 true) := ⟨_, rfl⟩
  rw [← hh4]
  have o4 : h4.objs q = some (.cells c2 true) := by rw [hh4]; exact set_at _ _ _
  have n4 : h4.next = h.next := by rw [hh4]; rfl
  have ne4 : ∀ b, b ≠ q → h4.objs b = h.objs b := fun b hb => by rw [hh4, set_ne hb, set_ne hb]
  have oi4 := (ne4 _ qi).trans oi
  have oj4 := (ne4 _ qj).trans oj
  simp only [ix i hi, ix j hj, bindV_some, loadV_ptr, o4, loadM_cells, partV_one, gi, gj, true_and, ptr, nilV_ptr, offV_ptr, storeE_ptr, oj4, storeM_cells, itemC]
  refine ⟨⟨rfl, by simp, rfl⟩, ?_⟩
  have ec1 : List.take (0 + 4) [Value.int .i64 (f j).kind, .int .u32 (f j).id, .int .i64 (f j).at_, .int .i64 (f j).seq, .int .i64 (j : Int)] ++ (Value.int .i64 (i : Int)).cells.toList ++ List.drop (0 + 4 + 1) [Value.int .i64 (f j).kind, .int .u32 (f j).id, .int .i64 (f j).at_, .int .i64 (f j).seq, .int .i64 (j : Int)] = itemC (f j) i := rfl
  rw [ec1]
  have oi6 : (h4.set (f j).blk (.cells (itemC (f j) i) true)).objs (f i).blk = some (.cells (itemC (f i) i) true) := by rw [set_ne bij]; exact oi4
  simp only [bindV_some, nilV_ptr, offV_ptr, storeE_ptr, oi6, storeM_cells, true_and]
  refine ⟨⟨rfl, by simp [itemC], rfl⟩, ?_⟩
  have ec2 : List.take (0 + 4) (itemC (f i) i) ++ (Value.int .i64 (j : Int)).cells.toList ++ List.drop (0 + 4 + 1) (itemC (f i) i) = itemC (f i) j := rfl
  rw [ec2]
  obtain ⟨h8, hh8⟩ : ∃ z, z = (h4.set (f j).blk (.cells (itemC (f j) i) true)).set (f i).blk (.cells (itemC (f i) j) true) := ⟨_, rfl⟩
  rw [← hh8]
  have n8 : h8.next = h.next := by rw [hh8]; exact n4
  have ne8 : ∀ b, b ≠ (f i).blk → b ≠ (f j).blk → h8.objs b = h4.objs b := fun b h1 h2 => by rw [hh8, set_ne h1, set_ne h2]
  have o8i : h8.objs (f i).blk = some (.cells (itemC (f i) j) true) := by rw [hh8]; exact set_at _ _ _
  have o8j : h8.objs (f j).blk = some (.cells (itemC (f j) i) true) := by rw [hh8, set_ne (Ne.symm bij)]; exact set_at _ _ _
  refine ⟨h8, St.le.refl _, H h8 ⟨by omega, fun b hb hn => ?_⟩ ⟨by omega, b2, ?_, .inr ⟨q, c2, rfl, a1, a2, by omega, ?_, by omega, fun m hm => ?_, fun m hm => ?_⟩, fun m hm => ?_, fun m m' hm hm' e => ?_⟩⟩
  · rw [ne8 b (fun e => hn (e ▸ i2)) (fun e => hn (e ▸ j2))]
    exact ne4 b (fun e => hn (e ▸ a1))
  · rw [ne8 Q (Ne.symm i3) (Ne.symm j3), ne4 Q (Ne.symm a2)]
    exact b3
  · rw [ne8 q (Ne.symm qi) (Ne.symm qj)]
    exact o4
  · by_cases mi : m = i
    · subst mi; rw [swap_l]; exact gi
    · by_cases mj : m = j
      · subst mj; rw [swap_r]; exact gj
      · rw [swap_o f mi mj, e2, List.getElem?_set_ne (by omega), List.getElem?_set_ne (by omega)]
        exact a6 m hm
  · by_cases mi : m = i
    · subst mi; rw [swap_l]; exact qj
    · by_cases mj : m = j
      · subst mj; rw [swap_r]; exact qi
      · rw [swap_o f mi mj]; exact a7 m hm
  · by_cases mi : m = i
    · subst mi; rw [swap_l]; exact ⟨by omega, j2, j3, o8j⟩
    · by_cases mj : m = j
      · subst mj; rw [swap_r]; exact ⟨by omega, i2, i3, o8i⟩
      · rw [swap_o f mi mj]
        obtain ⟨m1, m2, m3, m4⟩ := it m hm
        have e1 : (f m).blk ≠ (f i).blk := fun e => mi (inj m i hm hi e)
        have e2 : (f m).blk ≠ (f j).blk := fun e => mj (inj m j hm hj e)
        exact ⟨by omega, m2, m3, by rw [ne8 _ e1 e2, ne4 _ (a7 m hm)]; exact m4⟩
  · have blkS : ∀ m, m < n → ∃ m', m' < n ∧ (swapF f i j m).blk = (f m').blk ∧ m' = (if m = i then j else if m = j then i else m) := by
      intro m hm
      refine ⟨if m = i then j else if m = j then i else m, ?_, ?_, rfl⟩
      · split; exact hj; split; exact hi; exact hm
      · unfold swapF; split; rfl; split; rfl; rfl
    obtain ⟨p, p1, p2, p3⟩ := blkS m hm
    obtain ⟨p', p1', p2', p3'⟩ := blkS m' hm'
    rw [p2, p2'] at e
    have := inj p p' p1 p1' e
    rw [p3, p3'] at this
    split at this <;> split at this <;> (try split at this) <;> (try split at this) <;> omega
end Go.Proofs.Ytaoeeoboaiknjaa
