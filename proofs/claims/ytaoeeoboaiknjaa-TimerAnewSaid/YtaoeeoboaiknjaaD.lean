/- The library's heap: one put in, one taken out. -/
import Derived.Test.YtaoeeoboaiknjaaC
set_option linter.unusedSimpArgs false
set_option linter.unusedVariables false
set_option maxHeartbeats 4000000
namespace Go.Proofs.Ytaoeeoboaiknjaa
open Go.Abs Go.IntWalk
attribute [local congr] bindV_weak condK_weak guardK_weak groupK_weak allocE_weak boxE_weak storeE_weak storeM_weak tabC_weak ite_weak idG_weak appendE_weak buildSliceE_weak invokeE_weak

theorem ArrS.chgP {D E : Nat → Prop} {h h' : St} {Q : Nat} {sv : Value} {f : Nat → It} {n : Nat} (a : ArrS D h Q sv f n) (c : ChgP E h h') (hE : ∀ i, E i → ¬ D i) : ArrS D h' Q sv f n := by
  rcases a with a | ⟨q, cs, a0, a1, a2, a3, a4, a5, a6, a7⟩
  · exact .inl a
  · exact .inr ⟨q, cs, a0, a1, a2, Nat.lt_of_lt_of_le a3 c.1, c.at a3 (fun e => hE _ e a1) a4, a5, a6, a7⟩
theorem ItemsS.chgP {D E : Nat → Prop} {h h' : St} {Q : Nat} {f : Nat → It} {n : Nat} (a : ItemsS D h Q f n) (c : ChgP E h h') (hE : ∀ i, E i → ¬ D i) : ItemsS D h' Q f n := by
  refine ⟨fun k hk => ?_, a.2⟩
  obtain ⟨a1, a2, a3, a4⟩ := a.1 k hk
  exact ⟨Nat.lt_of_lt_of_le a1 c.1, a2, a3, c.at a1 (fun e => hE _ e a2) a4⟩
theorem HS.chgP {D E : Nat → Prop} {h h' : St} {Q : Nat} {sv mv sq : Value} {f : Nat → It} {n : Nat} (a : HS D h Q sv mv sq f n) (c : ChgP E h h') (hE : ∀ i, E i → ¬ D i) : HS D h' Q sv mv sq f n := by
  obtain ⟨a1, a2, a3, a4, a5⟩ := a
  exact ⟨Nat.lt_of_lt_of_le a1 c.1, a2, c.at a1 (fun e => hE _ e a2) a3, a4.chgP c hE, a5.chgP c hE⟩
theorem HS.imp {D E : Nat → Prop} {h : St} {Q : Nat} {sv mv sq : Value} {f : Nat → It} {n : Nat} (a : HS D h Q sv mv sq f n) (hE : ∀ i, i < h.next → D i → E i) : HS E h Q sv mv sq f n := by
  obtain ⟨a1, a2, a3, a4, a5, a6⟩ := a
  refine ⟨a1, hE _ a1 a2, a3, ?_, fun k hk => ?_, a6⟩
  · rcases a4 with a | ⟨q, cs, a0, a1, a2, a3, a4⟩
    · exact .inl a
    · exact .inr ⟨q, cs, a0, hE _ a3 a1, a2, a3, a4⟩
  · obtain ⟨b1, b2, b3, b4⟩ := a5 k hk
    exact ⟨b1, hE _ b1 b2, b3, b4⟩
theorem HS.congr {D : Nat → Prop} {h : St} {Q : Nat} {sv mv sq : Value} {f g : Nat → It} {n : Nat} (a : HS D h Q sv mv sq f n) (e : ∀ k, k < n → g k = f k) : HS D h Q sv mv sq g n := by
  obtain ⟨a1, a2, a3, a4, a5, a6⟩ := a
  refine ⟨a1, a2, a3, ?_, fun k hk => by rw [e k hk]; exact a5 k hk, fun i j hi hj => by rw [e i hi, e j hj]; exact a6 i j hi hj⟩
  rcases a4 with a | ⟨q, cs, a0, a1, a2, a3, a4, a5, a6, a7⟩
  · exact .inl a
  · exact .inr ⟨q, cs, a0, a1, a2, a3, a4, a5, fun k hk => by rw [e k hk]; exact a6 k hk, fun k hk => by rw [e k hk]; exact a7 k hk⟩

def popS : Abs.Spec := fun args h k => ∃ (D : Nat → Prop) (Q : Nat) (sv mv sq : Value) (f : Nat → It) (n : Nat), args = [ptr Q] ∧ n ≤ 1000000 ∧ HS D h Q sv mv sq f (n + 1) ∧
  ∀ h' sv', ChgP D h h' → HS D h' Q sv' mv sq f n → k (.iface 62 (ptr (f n).blk)) h'
theorem popS_good : SpecGood Try.prog (47, popS) := by
  refine spec_good mixed Try.func47 (by kernel_rfl) (by kernel_rfl) (tab := []) (by simp) (keep := timer_heaped_Pop_keep) ?_
  rintro args h k ⟨D, Q, sv, mv, sq, f, n, rfl, hn, ⟨b1, b2, b3, a, it, inj⟩, H⟩
  refine ⟨0, ?_⟩
  show timer_heaped_Pop (tabC []) idG 0 (ptr Q) h _
  rw [timer_heaped_Pop_eq]
  obtain ⟨q, cs, rfl, a1, a2, a3, a4, a5, a6, a7, ix⟩ := a.idx (k := n) (by omega)
  have e : IntKind.i64.wrap (((n + 1 : Nat) : Int) - 1) = (n : Int) := by rw [i64_in _ (by omega)]; omega
  have hc : cutS 1 (.slice (some ⟨q, 0, some 1⟩) (n + 1) 0) none (some (.int .i64 (n : Int))) = some (.slice (some ⟨q, 0, some 1⟩) n 0) := by
    simp only [cutS, if_true, loHi_hi (n := n + 1) (e := n) (k := .i64) (by omega), Option.map_some]
    simp
  simp only [ptr, nilV_ptr, bindV_some, loadV_ptr, b3, loadM_cells, partV_one, List.getElem?_cons_zero, lenS_slice, binNil_int, binV_sub, e, ix n (by omega), a4, a6 n (by omega), hc, storeE_ptr, storeM_cells, ifaceV, cells_slice]
  refine ⟨⟨rfl, by simp, rfl⟩, h.set Q _, St.le.refl _, H _ (.slice (some ⟨q, 0, some 1⟩) n 0) ⟨Nat.le_refl _, fun i hi hn => set_ne fun e => hn (e ▸ b2)⟩ ⟨b1, b2, set_at _ _ _, .inr ⟨q, cs, rfl, a1, a2, a3, (set_ne a2).trans a4, by omega, fun k hk => a6 k (by omega), fun k hk => a7 k (by omega)⟩, fun k hk => ?_, fun i j hi hj => inj i j (by omega) (by omega)⟩⟩
  obtain ⟨c1, c2, c3, c4⟩ := it k (by omega)
  exact ⟨c1, c2, c3, (set_ne c3).trans c4⟩

def putF (f : Nat → It) (n : Nat) (x : It) : Nat → It := fun k => if k = n then x else f k
theorem putF_at (f : Nat → It) (n : Nat) (x : It) : putF f n x n = x := by simp [putF]
theorem putF_ne (f : Nat → It) {n k : Nat} (x : It) (h : k ≠ n) : putF f n x k = f k := by simp [putF, h]
def pushS : Abs.Spec := fun args h k => ∃ (D : Nat → Prop) (Q : Nat) (sv mv sq : Value) (f : Nat → It) (n : Nat) (x : It) (k0 : Int), args = [ptr Q, .iface 62 (ptr x.blk)] ∧ n < 1000000 ∧ HS D h Q sv mv sq f n ∧
  x.blk < h.next ∧ D x.blk ∧ x.blk ≠ Q ∧ h.objs x.blk = some (.cells (itemC x k0) true) ∧ (∀ k, k < n → (f k).blk ≠ x.blk) ∧ (∀ q, sv = .slice (some ⟨q, 0, some 1⟩) n 0 → q ≠ x.blk) ∧ (∀ i, h.next ≤ i → D i) ∧
  ∀ h' sv', ChgP D h h' → HS D h' Q sv' mv sq (putF f n x) (n + 1) → k (.tuple #[]) h'
theorem pushS_good : SpecGood Try.prog (48, pushS) := by
  refine spec_good mixed Try.func48 (by kernel_rfl) (by kernel_rfl) (tab := []) (by simp) (keep := timer_heaped_Push_keep) ?_
  rintro args h k ⟨D, Q, sv, mv, sq, f, n, x, k0, rfl, hn, ⟨b1, b2, b3, a, it, inj⟩, x1, x2, x3, x4, x5, x6, hD, H⟩
  refine ⟨0, ?_⟩
  show timer_heaped_Push (tabC []) idG 0 (ptr Q) (.iface 62 (ptr x.blk)) h _
  rw [timer_heaped_Push_eq]
  have ha : assertV 62 (some (.pointer none)) true (.iface 62 (ptr x.blk)) = some (.tuple #[ptr x.blk, .bool true]) := rfl
  simp only [ha, bindV_some, extV_two0, extV_two1, condK_bool, if_true]
  simp only [ptr, bindV_some, nilV_ptr, offV_ptr, loadV_ptr, b3, loadM_cells, partV_one, List.getElem?_cons_zero, a.len, storeE_ptr, x4, storeM_cells, Nat.zero_add, itemC]
  refine ⟨⟨rfl, by simp, rfl⟩, ?_⟩
  have e1 : List.take 4 [Value.int .i64 x.kind, .int .u32 x.id, .int .i64 x.at_, .int .i64 x.seq, .int .i64 k0] ++ (Value.int .i64 (n : Int)).cells.toList ++ List.drop (4 + 1) [Value.int .i64 x.kind, .int .u32 x.id, .int .i64 x.at_, .int .i64 x.seq, .int .i64 k0] = itemC x n := rfl
  rw [e1]
  obtain ⟨h1, hh1⟩ : ∃ z, z = h.set x.blk (.cells (itemC x n) true) := ⟨_, rfl⟩
  rw [← hh1]
  have n1 : h1.next = h.next := by rw [hh1]; rfl
  have ne1 : ∀ b, b ≠ x.blk → h1.objs b = h.objs b := fun b hb => by rw [hh1, set_ne hb]
  have o1 : h1.objs x.blk = some (.cells (itemC x n) true) := by rw [hh1]; exact set_at _ _ _
  have q1 := (ne1 Q (Ne.symm x3)).trans b3
  simp only [nilV_ptr, bindV_some, loadV_ptr, q1, loadM_cells, partV_one, List.getElem?_cons_zero]
  have fl : fillL [(0 * 1, 1, Value.pointer (some ⟨x.blk, 0, none⟩))] (repL [.pointer none] 1) = some [ptr x.blk] := rfl
  simp only [buildSliceE, fl]
  refine ⟨rfl, rfl, ?_⟩
  change appendE 1 8 sv _ (h1.push (.cells [ptr x.blk] true)) _
  obtain ⟨h2, hh2⟩ : ∃ z, z = h1.push (.cells [ptr x.blk] true) := ⟨_, rfl⟩
  rw [← hh2]
  have n2 : h2.next = h.next + 1 := by rw [hh2]; simp [n1]
  have ne2 : ∀ b, b < h.next → h2.objs b = h1.objs b := fun b hb => by rw [hh2, push_ne (by omega)]
  have t2 : h2.objs h1.next = some (.cells [ptr x.blk] true) := by rw [hh2]; exact push_at _ _
  have nc : newCells 1 (.slice (some ⟨h1.next, 0, some 1⟩) 1 0) h2 = some ([ptr x.blk], 1) := by
    simp [newCells, t2, takeN]
  -- the row, with one more
  have done : ∀ (h3 : St) (q : Nat) (cs : List Value), q = h2.next → h3.next = h2.next + 1 → h3.objs q = some (.cells cs true) → n + 1 ≤ cs.length → (∀ k, k < n → cs[k]? = some (ptr (f k).blk)) → cs[n]? = some (ptr x.blk) →
      (∀ b, b < h.next → (∀ p, sv = .slice (some ⟨p, 0, some 1⟩) n 0 → b ≠ p) → h3.objs b = h2.objs b) →
      bindV (nilV (.pointer (some ⟨Q, 0, none⟩))) fun v26 => storeE 1 v26 (.slice (some ⟨q, 0, some 1⟩) (n + 1) 0) h3 fun _ h6 => ∃ h2, St.le h2 h6 ∧ k (.tuple #[]) h2 := by
    intro h3 q cs hq n3 o3 hl hg hx ne3
    have old : ∀ b, b < h.next → (∀ p, sv = .slice (some ⟨p, 0, some 1⟩) n 0 → b ≠ p) → b ≠ x.blk → h3.objs b = h.objs b := fun b hb hp hx => by rw [ne3 b hb hp, ne2 b hb, ne1 b hx]
    have nq : ∀ p, sv = .slice (some ⟨p, 0, some 1⟩) n 0 → D p ∧ p ≠ Q ∧ ∀ k, k < n → (f k).blk ≠ p := by
      rintro p rfl
      rcases a with ⟨e, _⟩ | ⟨p', cs', e, a1, a2, a3, a4, a5, a6, a7⟩
      · cases e
      · cases e; exact ⟨a1, a2, a7⟩
    have qq := (old Q b1 (fun p hp => Ne.symm (nq p hp).2.1) (Ne.symm x3)).trans b3
    simp only [nilV_ptr, bindV_some, storeE_ptr, qq, storeM_cells, cells_slice]
    refine ⟨⟨rfl, by simp, rfl⟩, h3.set Q _, St.le.refl _, H _ (.slice (some ⟨q, 0, some 1⟩) (n + 1) 0) ⟨by simp; omega, fun i hi hn => ?_⟩ ⟨by simp; omega, b2, set_at _ _ _, .inr ⟨q, cs, rfl, hD _ (by omega), by omega, by simp; omega, (set_ne (by omega)).trans o3, hl, fun m hm => ?_, fun m hm => ?_⟩, fun m hm => ?_, fun i j hi hj e => ?_⟩⟩
    · rw [set_ne (show i ≠ Q from fun e => hn (e ▸ b2))]
      exact old i hi (fun p hp e => hn (e ▸ (nq p hp).1)) (fun e => hn (e ▸ x2))
    · by_cases e : m = n
      · subst e; rw [putF_at]; exact hx
      · rw [putF_ne f x e]; exact hg m (by omega)
    · by_cases e : m = n
      · subst e; rw [putF_at]; omega
      · rw [putF_ne f x e]
        have := (it m (by omega)).1
        omega
    · by_cases e : m = n
      · subst e; rw [putF_at]
        refine ⟨by simp; omega, x2, x3, ?_⟩
        rw [set_ne x3, ne3 _ x1 (fun p hp => Ne.symm (x6 p hp)), ne2 _ x1]
        exact o1
      · rw [putF_ne f x e]
        obtain ⟨c1, c2, c3, c4⟩ := it m (by omega)
        refine ⟨by simp; omega, c2, c3, ?_⟩
        rw [set_ne c3, old _ c1 (fun p hp => (nq p hp).2.2 m (by omega)) (x5 m (by omega))]
        exact c4
    · by_cases ei : i = n
      · subst ei
        rw [putF_at] at e
        by_cases ej : j = i
        · exact ej.symm
        · rw [putF_ne f x ej] at e
          exact absurd e.symm (x5 j (by omega))
      · rw [putF_ne f x ei] at e
        by_cases ej : j = n
        · subst ej
          rw [putF_at] at e
          exact absurd e (x5 i (by omega))
        · rw [putF_ne f x ej] at e
          exact inj i j (by omega) (by omega) e
  unfold appendE
  rw [nc]
  rcases a with ⟨rfl, rfl⟩ | ⟨p, cs, rfl, a1, a2, a3, a4, a5, a6, a7⟩
  · refine ⟨⟨rfl, by omega, by omega⟩, ?_⟩
    exact done _ h2.next [ptr x.blk] rfl rfl (push_at _ _) (by simp) (fun k hk => by omega) rfl fun b hb _ => push_ne (by omega)
  · have a4' : h2.objs p = some (.cells cs true) := by rw [ne2 p a3, ne1 p (x6 p rfl)]; exact a4
    simp only [a4']
    refine ⟨⟨rfl, trivial, trivial, by omega, by omega, by omega⟩, ?_⟩
    have lt : (cs.take (n * 1)).length = n := by simp; omega
    refine done _ h2.next _ rfl rfl (by exact push_at (h2.kill p) _) (by simp; omega) (fun k hk => ?_) ?_ fun b hb hp => ?_
    · rw [List.getElem?_append_left (by omega), List.getElem?_take, if_pos (by omega)]
      exact a6 k hk
    · rw [List.getElem?_append_right (by omega), lt, Nat.sub_self]; rfl
    · rw [push_ne (by simp; omega), kill_ne (hp p rfl)]

theorem mem_put {f : Nat → It} {n : Nat} {x y : It} : Mem (putF f n x) (n + 1) y ↔ Mem f n y ∨ y = x := by
  constructor
  · rintro ⟨k, hk, e⟩
    by_cases kn : k = n
    · subst kn; rw [putF_at] at e; exact .inr e.symm
    · rw [putF_ne f x kn] at e; exact .inl ⟨k, by omega, e⟩
  · rintro (⟨k, hk, e⟩ | e)
    · exact ⟨k, by omega, by rw [putF_ne f x (by omega)]; exact e⟩
    · exact ⟨n, by omega, by rw [putF_at]; exact e.symm⟩
theorem heap_put {f : Nat → It} {n : Nat} {x : It} (u : HeapF f n) : HeapF (putF f n x) n := fun k k0 kn => by
  have : par k < k := by unfold par; omega
  rw [putF_ne f x (by omega), putF_ne f x (by omega)]
  exact u k k0 kn
def tabP : List (FuncId × Abs.Spec) := [(44, lenHS), (48, pushS), (26, upS)]
theorem tabP_good : ∀ p ∈ tabP, SpecGood Try.prog p := by simp [tabP, lenHS_good, pushS_good, upS_good]
theorem HS.len {D : Nat → Prop} {h : St} {Q : Nat} {sv mv sq : Value} {f : Nat → It} {n : Nat} (s : HS D h Q sv mv sq f n) : ∃ a c, sv = .slice a n c := by
  obtain ⟨_, _, _, a, _⟩ := s
  rcases a with ⟨rfl, rfl⟩ | ⟨q, cs, rfl, _⟩ <;> exact ⟨_, _, rfl⟩
def putS : Abs.Spec := fun args h k => ∃ (D : Nat → Prop) (Q : Nat) (sv mv sq : Value) (f : Nat → It) (n : Nat) (x : It) (k0 : Int), args = [.iface 68 (ptr Q), .iface 62 (ptr x.blk)] ∧ n < 1000000 ∧ HS D h Q sv mv sq f n ∧ HeapF f n ∧
  x.blk < h.next ∧ D x.blk ∧ x.blk ≠ Q ∧ h.objs x.blk = some (.cells (itemC x k0) true) ∧ (∀ k, k < n → (f k).blk ≠ x.blk) ∧ (∀ q, sv = .slice (some ⟨q, 0, some 1⟩) n 0 → q ≠ x.blk) ∧ (∀ i, h.next ≤ i → D i) ∧
  ∀ h' sv' f', ChgP D h h' → HS D h' Q sv' mv sq f' (n + 1) → HeapF f' (n + 1) → (∀ y, Mem f' (n + 1) y ↔ Mem f n y ∨ y = x) → k (.tuple #[]) h'
theorem putS_good : SpecGood Try.prog (24, putS) := by
  refine spec_good mixed Try.func24 (by kernel_rfl) (by kernel_rfl) (tab := tabP) tabP_good (keep := heap_Push_keep) ?_
  rintro args h k ⟨D, Q, sv, mv, sq, f, n, x, k0, rfl, hn, hs, hf, x1, x2, x3, x4, x5, x6, hD, H⟩
  refine ⟨0, ?_⟩
  show heap_Push (tabC tabP) idG 0 (.iface 68 (ptr Q)) (.iface 62 (ptr x.blk)) h _
  rw [heap_Push_eq]
  simp only [inv_push]
  refine .inr (.inl ⟨rfl, D, Q, sv, mv, sq, f, n, x, k0, rfl, hn, hs, x1, x2, x3, x4, x5, x6, hD, fun h1 sv1 c1 hs1 => ?_⟩)
  simp only [inv_len, hs1.load, bindV_some]
  obtain ⟨a, c, e⟩ := hs1.len
  refine .inl ⟨rfl, a, n + 1, c, by rw [e], ?_⟩
  have e1 : IntKind.i64.wrap (((n + 1 : Nat) : Int) - 1) = (n : Int) := by rw [i64_in _ (by omega)]; omega
  simp only [binNil_int, binV_sub, bindV_some, e1]
  refine .inr (.inr (.inl ⟨rfl, D, Q, sv1, mv, sq, _, n + 1, n + 1, n, rfl, by omega, by omega, by omega, hs1, heap_push (heap_put hf), fun h2 f' c2 hs2 hf2 m2 _ => ?_⟩))
  exact ⟨h2, St.le.refl _, H h2 sv1 f' (c1.step c2) hs2 hf2 fun y => (m2 y).trans mem_put⟩

theorem mem_out {f : Nat → It} {n i : Nat} (inj : ∀ a b, a < n + 1 → b < n + 1 → (f a).blk = (f b).blk → a = b) (hi : i < n) (y : It) : Mem (swapF f i n) n y ↔ Mem f (n + 1) y ∧ y ≠ f i := by
  constructor
  · rintro ⟨k, hk, e⟩
    by_cases ki : k = i
    · subst ki
      rw [swap_l] at e
      exact ⟨⟨n, by omega, e⟩, fun h => by
        have := inj n k (by omega) (by omega) (by rw [e, h])
        omega⟩
    · rw [swap_o f ki (by omega)] at e
      exact ⟨⟨k, by omega, e⟩, fun h => ki (inj k i (by omega) (by omega) (by rw [e, h]))⟩
  · rintro ⟨⟨k, hk, e⟩, ne⟩
    have ki : k ≠ i := fun h => ne (by rw [← e, h])
    by_cases kn : k = n
    · subst kn; exact ⟨i, hi, by rw [swap_l]; exact e⟩
    · exact ⟨k, by omega, by rw [swap_o f ki kn]; exact e⟩
theorem mem_last {f : Nat → It} {n : Nat} (inj : ∀ a b, a < n + 1 → b < n + 1 → (f a).blk = (f b).blk → a = b) (y : It) : Mem f n y ↔ Mem f (n + 1) y ∧ y ≠ f n := by
  constructor
  · rintro ⟨k, hk, e⟩
    exact ⟨⟨k, by omega, e⟩, fun h => by
      have := inj k n (by omega) (by omega) (by rw [e, h])
      omega⟩
  · rintro ⟨⟨k, hk, e⟩, ne⟩
    have : k ≠ n := fun h => ne (by rw [← e, h])
    exact ⟨k, by omega, e⟩
def tabR : List (FuncId × Abs.Spec) := [(44, lenHS), (46, swapS), (27, downS), (26, upS), (47, popS)]
theorem tabR_good : ∀ p ∈ tabR, SpecGood Try.prog p := by simp [tabR, lenHS_good, swapS_good, downS_good, upS_good, popS_good]
def outS : Abs.Spec := fun args h k => ∃ (D : Nat → Prop) (Q : Nat) (sv mv sq : Value) (f : Nat → It) (n i : Nat), args = [.iface 68 (ptr Q), .int .i64 i] ∧ n < 1000000 ∧ i < n + 1 ∧ HS D h Q sv mv sq f (n + 1) ∧ HeapF f (n + 1) ∧
  ∀ v h' sv' f', ChgP D h h' → HS D h' Q sv' mv sq f' n → HeapF f' n → (∀ y, Mem f' n y ↔ Mem f (n + 1) y ∧ y ≠ f i) → k v h'
theorem outS_good : SpecGood Try.prog (25, outS) := by
  refine spec_good mixed Try.func25 (by kernel_rfl) (by kernel_rfl) (tab := tabR) tabR_good (keep := heap_Remove_keep) ?_
  rintro args h k ⟨D, Q, sv, mv, sq, f, n, i, rfl, hn, hi, hs, hf, H⟩
  refine ⟨0, ?_⟩
  show heap_Remove (tabC tabR) idG 0 (.iface 68 (ptr Q)) (.int .i64 i) h _
  rw [heap_Remove_eq]
  have inj := hs.2.2.2.2.2
  have fin : ∀ (h1 : St) (f1 : Nat → It), ChgP D h h1 → HS D h1 Q sv mv sq f1 (n + 1) → HeapF f1 n → (∀ y, Mem f1 n y ↔ Mem f (n + 1) y ∧ y ≠ f i) →
      heap_Remove_j0 (tabC tabR) idG 0 (.iface 68 (ptr Q)) .nilIface h1 fun v h1 => ∃ h2, St.le h2 h1 ∧ k v h2 := by
    intro h1 f1 c1 hs1 hf1 m1
    rw [heap_Remove_j0_eq]
    simp only [inv_pop]
    refine .inr (.inr (.inr (.inr (.inl ⟨rfl, D, Q, sv, mv, sq, f1, n, rfl, by omega, hs1, fun h2 sv2 c2 hs2 => ?_⟩))))
    exact ⟨h2, St.le.refl _, H _ h2 sv2 f1 (c1.step c2) hs2 hf1 m1⟩
  simp only [inv_len, hs.load, bindV_some]
  obtain ⟨a, c, e⟩ := hs.len
  refine .inl ⟨rfl, a, n + 1, c, by rw [e], ?_⟩
  have e1 : IntKind.i64.wrap (((n + 1 : Nat) : Int) - 1) = (n : Int) := by rw [i64_in _ (by omega)]; omega
  simp only [binNil_int, binV_sub, bindV_some, e1, binV_neq, condK_bool]
  by_cases en : i = n
  · subst en
    simp only [ne_eq, not_true_eq_false, decide_false, Bool.false_eq_true, if_false, idG_eq]
    exact fin h f (ChgP.refl _ _) hs (heap_init hf) (mem_last inj)
  · have en' : (n : Int) ≠ (i : Int) := by omega
    simp only [en', ne_eq, not_false_eq_true, decide_true, if_true, inv_swap, hs.load, bindV_some]
    refine .inr (.inl ⟨rfl, D, Q, sv, mv, sq, f, n + 1, i, n, rfl, by omega, by omega, en, hs, fun h1 c1 hs1 => ?_⟩)
    have hole := heap_hole hf (i := i) (by omega)
    refine .inr (.inr (.inl ⟨rfl, D, Q, sv, mv, sq, _, n + 1, n, i, rfl, by omega, by omega, by omega, hs1, hole, fun b h2 f2 c2 hs2 t2 g2 m2 l2 => ?_⟩))
    have mo := mem_out inj (i := i) (by omega)
    cases b with
    | true =>
      simp only [unV_not, bindV_some, Bool.not_true, condK_bool, Bool.false_eq_true, if_false, idG_eq]
      exact fin h2 f2 (c1.step c2) hs2 (t2 rfl) fun y => (m2 y).trans (mo y)
    | false =>
      obtain ⟨rfl, kd⟩ := g2 rfl
      simp only [unV_not, bindV_some, Bool.not_false, condK_bool, if_true]
      refine .inr (.inr (.inr (.inl ⟨rfl, D, Q, sv, mv, sq, _, n + 1, n, i, rfl, by omega, by omega, by omega, hs2, hole_up hole kd, fun h3 f3 c3 hs3 hf3 m3 l3 => ?_⟩)))
      simp only [idG_eq]
      exact fin h3 f3 ((c1.step c2).step c3) hs3 hf3 fun y => (m3 y).trans (mo y)
end Go.Proofs.Ytaoeeoboaiknjaa
