/- 'TimerOrder', walked. -/
import Derived.Test.YtaoeeoboaiknjaaL
set_option linter.unusedSimpArgs false
set_option linter.unusedVariables false
set_option maxHeartbeats 4000000
namespace Go.Proofs.Ytaoeeoboaiknjaa
open Go.Abs Go.IntWalk
attribute [local congr] bindV_weak condK_weak guardK_weak groupK_weak allocE_weak boxE_weak storeE_weak storeM_weak tabC_weak ite_weak idG_weak appendE_weak buildSliceE_weak invokeE_weak mapUpdateE_weak deleteE_weak makeMapE_weak

def tabO : List (FuncId × Abs.Spec) := [(10, awakeS), (11, newS), (12, setS), (13, dueS), (14, lenS)]
theorem tabO_good : ∀ p ∈ tabO, SpecGood Try.prog p := by simp [tabO, awakeS_good, newS_good, setS_good, dueS_good, lenS_good]
theorem guardK_undef (w : Bool) (y n : Prop) : guardK undef w y n = n := propext Iff.rfl
/-- A timer that was set at its turn. -/
def okO (T : List Int) (x : It) : Prop := ∃ i : Nat, i < T.length ∧ x.kind = ((i % 3 : Nat) : Int) ∧ x.id = (i : Int) ∧ x.at_ = T[i]?.getD 0 ∧ x.seq = (i : Int) + 1
def dueC (L : List It) (now : Int) : Nat := (L.filter fun x => decide (x.at_ ≤ now)).length
theorem dueC_split {A C : List It} {x : It} {now : Int} (h : x.at_ ≤ now) : dueC (A ++ x :: C) now = dueC (A ++ C) now + 1 := by
  unfold dueC
  simp only [List.filter_append, List.filter_cons, h, decide_true, if_true, List.length_append, List.length_cons]
  omega
theorem dueC_none {L : List It} {now : Int} (h : ∀ y ∈ L, now < y.at_) : dueC L now = 0 := by
  unfold dueC
  rw [List.length_eq_zero_iff, List.filter_eq_nil_iff]
  intro y hy
  have := h y hy
  simp; omega
theorem order_j4 {h0 : St} {Q nn due0 : Nat} {T : List Int} {v x4 x7 x8 x9 x10 x11 : Value} {now : Int} {L : List It} {s : Int} {D : Nat → Prop} {h : St} {K : Cont} (hT : T.length ≤ 40)
    (s0 : SliceAt (· < h0.next) h v T.length 1 (rowN T)) (q : QS D h Q L s) (hD : ∀ i, D i → i < h.next) (hc : dueC L now = 0) (hl : L.length + due0 = T.length) (hK : ∀ h', K (.bool true) h') :
    tiltyardlaw08_TimerOrder_j4 (tabC tabO) idG nn v (.int .i64 now) x4 (ptr Q) (.int .i64 (due0 : Int)) x7 x8 x9 x10 x11 h K := by
  rw [tiltyardlaw08_TimerOrder_j4_eq]
  refine cK (S := dueS) (by simp [tabO]) ⟨D, Q, L, s, now, rfl, by omega, hD, q, fun x h1 hx c1 q1 => ?_, fun h1 hn c1 => ?_⟩
  · obtain ⟨A, C, rfl, _, le, _⟩ := due_split q.pw hx
    rw [dueC_split le] at hc
    omega
  · have q1 := q.chgP (c1.nil fun _ => False) (by simp)
    simp only [extV_two0, extV_two1, bindV_some]
    refine allocE_in fun h2 c2 n2 o2 => ?_
    refine storeE_all o2 rfl rfl rfl fun h3 c3 n3 o3 => ?_
    have c13 : Chg h1 h3 [] := c2.new c3 (by omega)
    have q3 := q1.chgP (c13.nil fun _ => False) (by simp)
    simp only [unV_not, bindV_some, Bool.not_false, groupK_eq, guardK_bool, if_true]
    refine cK (S := lenS) (by simp [tabO]) ⟨D, Q, L, s, rfl, q3, ?_⟩
    have w : IntKind.i64.wrap ((T.length : Int) - (due0 : Int)) = (L.length : Int) := by rw [i64_in _ (by omega)]; omega
    simp only [s0.len, bindV_some, binV_sub, w, binV_eql, decide_true, idG_eq, pickV_bool, if_true, getT, groupK_eq, guardK_bool]
    refine cK (S := awakeS) (by simp [tabO]) ⟨rfl, fun h' _ => ?_⟩
    simp only [bindV_some, idG_eq, pickV_bool, if_true, getT, decide_true]
    exact hK h'
theorem order_l3 {h0 : St} {Q nn due0 b8 d0 : Nat} {T : List Int} {v x4 x7 : Value} {now : Int} {K : Cont} (hT : T.length ≤ 40) (s0 : SliceAt (· < h0.next) h0 v T.length 1 (rowN T)) (hK : ∀ h', K (.bool true) h') (h0d : h0.next ≤ d0) (hb8 : d0 ≤ b8) (hdue : due0 ≤ T.length) :
    ∀ (d k m0 : Nat) (h : St) (L : List It) (s : Int) (D : Nat → Prop) (had : Bool) (lt : Tm) (x11 : Value), k + d = due0 → d < m0 → ChgP (h0.next ≤ ·) h0 h → QS D h Q L s → (∀ i, D i → h0.next ≤ i ∧ i < d0) → b8 < h.next →
      h.objs b8 = some (.cells (cellsT lt) true) → (∀ x ∈ L, okO T x) → dueC L now = d → L.length + k = T.length → (had = true → ∀ y ∈ L, lt.at_ < y.at_ ∨ (lt.at_ = y.at_ ∧ lt.id < y.id)) →
      tiltyardlaw08_TimerOrder_l3 (tabC tabO) idG nn m0 v (.int .i64 now) x4 (ptr Q) (.int .i64 (due0 : Int)) x7 (ptr b8) (.bool had) (.int .i64 (k : Int)) x11 h K := by
  intro d
  induction d with
  | zero =>
    intro k m0 h L s D had lt x11 hk hm c q hD l8 o8 ok hc hl hl2
    obtain ⟨m0, rfl⟩ : ∃ m, m0 = m + 1 := ⟨m0 - 1, by omega⟩
    rw [tiltyardlaw08_TimerOrder_l3_eq]
    have e : k = due0 := by omega
    subst e
    simp only [binV_lss, bindV_some, condK_bool, Int.lt_irrefl, decide_false, Bool.false_eq_true, if_false, idG_eq]
    exact order_j4 hT (s0.chgP c (fun i h => by omega)) q (fun i hi => by have := hD i hi; omega) hc hl hK
  | succ d ih =>
    intro k m0 h L s D had lt x11 hk hm c q hD l8 o8 ok hc hl hl2
    obtain ⟨m0, rfl⟩ : ∃ m, m0 = m + 1 := ⟨m0 - 1, by omega⟩
    rw [tiltyardlaw08_TimerOrder_l3_eq]
    have hlt : (k : Int) < due0 := by omega
    have inc : IntKind.i64.wrap ((k : Int) + 1) = ((k + 1 : Nat) : Int) := by rw [i64_in _ (by omega)]; omega
    simp only [binV_lss, bindV_some, condK_bool, hlt, decide_true, if_true, idG_eq]
    refine cK (S := dueS) (by simp [tabO]) ⟨D, Q, L, s, now, rfl, by omega, fun i hi => by have := hD i hi; omega, q, fun x h1 hx c1 q1 => ?_, fun h1 hn c1 => ?_⟩
    · obtain ⟨A, C, rfl, out, le, less, pw⟩ := due_split q.pw hx
      rw [out] at q1
      obtain ⟨i, hi, xk, xi, xa, xs⟩ := ok x (by simp)
      have m1 := c1.1
      have o81 := c1.at l8 (fun hd => by have := hD _ hd; omega) o8
      simp only [extV_two0, extV_two1, bindV_some]
      refine allocE_in fun h2 c2 n2 o2 => ?_
      refine storeE_all o2 rfl rfl rfl fun h3 c3 n3 o3 => ?_
      have c13 : Chg h1 h3 [] := c2.new c3 (by omega)
      have q3 := q1.chgP (c13.nil fun _ => False) (by simp)
      have o83 := c13.at0 (by omega) o81
      have o3 : h3.objs h1.next = some (.cells (cellsT (tm x)) true) := o3
      have cc1 : ChgP (h0.next ≤ ·) h0 h1 := c.trans c1 (fun _ _ h => h) (fun i hi hd => by have := hD i hd; omega)
      have cc3 := cc1.seq c13
      have s3 := s0.chgP cc3 (fun i h => by omega)
      obtain ⟨tb, to, g1, g2⟩ := rowN_at s3 hi .u32
      have w1 : IntKind.i64.wrap (i : Int) = (i : Int) := i64_in _ (by omega)
      have n1 : ¬ x.at_ > now := by omega
      have n2 : ¬ (i : Int) ≥ (T.length : Int) := by omega
      simp only [unV_not, bindV_some, Bool.not_true, groupK_eq, guardK_bool, if_true]
      simp only [offV_ptr, bindV_some, loadV_ptr, o3, loadM_cells, partV_one, Nat.zero_add, cellsT, tm, List.getElem?_cons_succ, List.getElem?_cons_zero]
      refine ⟨trivial, ?_⟩
      simp only [binV_gtr, n1, decide_false, bindV_some, idG_eq, pickV_bool, Bool.false_eq_true, if_false, getT, groupK_eq, guardK_bool, if_true]
      simp only [offV_ptr, bindV_some, loadV_ptr, o3, loadM_cells, partV_one, Nat.zero_add, cellsT, tm, List.getElem?_cons_succ, List.getElem?_cons_zero]
      refine ⟨trivial, ?_⟩
      simp only [xi, wrapV_int, w1, s3.len, bindV_some, binV_geq, n2, decide_false, idG_eq, pickV_bool, Bool.false_eq_true, if_false, getT, groupK_eq, guardK_bool, if_true]
      simp only [offV_ptr, bindV_some, loadV_ptr, o3, loadM_cells, partV_one, Nat.zero_add, cellsT, tm, List.getElem?_cons_succ, List.getElem?_cons_zero]
      refine ⟨trivial, ?_⟩
      simp only [xi, g1, bindV_some, g2]
      refine ⟨trivial, ?_⟩
      simp only [offV_ptr, bindV_some, loadV_ptr, o3, loadM_cells, partV_one, Nat.zero_add, cellsT, tm, List.getElem?_cons_succ, List.getElem?_cons_zero]
      refine ⟨trivial, ?_⟩
      simp only [xa, binV_neq, ne_eq, not_true_eq_false, decide_false, bindV_some, idG_eq, pickV_bool, Bool.false_eq_true, if_false, getT, groupK_eq, guardK_bool, if_true]
      simp only [offV_ptr, bindV_some, loadV_ptr, o3, loadM_cells, partV_one, Nat.zero_add, cellsT, tm, List.getElem?_cons_succ, List.getElem?_cons_zero]
      refine ⟨trivial, ?_⟩
      simp only [offV_ptr, bindV_some, loadV_ptr, o3, loadM_cells, partV_one, Nat.zero_add, cellsT, tm, List.getElem?_cons_succ, List.getElem?_cons_zero]
      refine ⟨trivial, ?_⟩
      have rm : binV .rem .other (.int .i64 (i : Int)) (.int .i64 3) = some (.int .i64 ((i % 3 : Nat) : Int)) := rem_nat (b := 3) (by omega)
      simp only [xi, xk, wrapV_int, w1, bindV_some, binNil_int, rm, binV_neq, ne_eq, not_true_eq_false, decide_false, idG_eq, pickV_bool, Bool.false_eq_true, if_false, getT, condK_bool]
      -- the end of the step
      have fin : bindV (loadV true 3 (.pointer (some ⟨h1.next, 0, none⟩)) h3) fun v112 => storeE 3 (ptr b8) v112 h3 fun _ h38 => idG (bindV (binNil .add .other (.int .i64 (k : Int)) (.int .i64 1)) fun v48 => idG (tiltyardlaw08_TimerOrder_l3 (tabC tabO) idG nn m0 v (.int .i64 now) x4 (ptr Q) (.int .i64 (due0 : Int)) x7 (ptr b8) (.bool true) v48 (.pointer (some ⟨h1.next, 0, none⟩)) h38 K)) := by
        simp only [loadV_ptr, o3, loadM_cells, partV_agg, takeT, Option.map_some, bindV_some]
        refine storeE_all o83 rfl rfl rfl fun h4 c4 n4 o4 => ?_
        have o4 : h4.objs b8 = some (.cells (cellsT (tm x)) true) := o4
        simp only [idG_eq, binNil_int, binV_add, bindV_some, inc]
        rw [dueC_split le] at hc
        refine ih (k + 1) m0 h4 (A ++ C) s D true (tm x) _ (by omega) (by omega) (cc3.new c4 (.inl (by show h0.next ≤ b8; omega))) (q3.chgP c4.one fun i h1 h2 => by have := hD i h2; omega) hD (by omega) o4 (fun y hy => ok y ?_) (by omega) (by simp at hl ⊢; omega) (fun _ y hy => ?_)
        · simp only [List.mem_append, List.mem_cons] at hy ⊢
          rcases hy with h | h
          · exact .inl h
          · exact .inr (.inr h)
        · have lt := less y hy
          obtain ⟨j, hj, yk, yi, ya, ys⟩ := ok y (by
            simp only [List.mem_append, List.mem_cons] at hy ⊢
            rcases hy with h | h
            · exact .inl h
            · exact .inr (.inr h))
          unfold ltT at lt
          simp only [tm]
          omega
      cases had with
      | false =>
        simp only [groupK_eq, guardK_bool, Bool.false_eq_true, if_false, idG_eq, getT, guardK_undef, pickV_bool, bindV_some, condK_bool]
        exact fin
      | true =>
        have ll := hl2 rfl x (by simp)
        have z1 : ¬ x.at_ < lt.at_ := by omega
        simp only [groupK_eq, guardK_bool, if_true, offV_ptr, bindV_some, loadV_ptr, o3, ptr, o83, loadM_cells, partV_one, Nat.zero_add, cellsT, tm, List.getElem?_cons_succ, List.getElem?_cons_zero, binV_lss, z1, decide_false]
        by_cases ea : x.at_ = lt.at_
        · have z2 : ¬ x.id ≤ lt.id := by omega
          rw [xi] at z2
          simp only [idG_eq, getT, groupK_eq, guardK_bool, if_true, offV_ptr, bindV_some, loadV_ptr, o3, ptr, o83, loadM_cells, partV_one, Nat.zero_add, cellsT, tm, List.getElem?_cons_succ, List.getElem?_cons_zero, binV_eql, ea, decide_true]
          simp only [idG_eq, getT, groupK_eq, guardK_bool, if_true, offV_ptr, bindV_some, loadV_ptr, o3, ptr, o83, loadM_cells, partV_one, Nat.zero_add, cellsT, tm, List.getElem?_cons_succ, List.getElem?_cons_zero, binV_leq, xi, z2, decide_false]
          simp only [idG_eq, getT, groupK_eq, guardK_bool, if_true, bindV_some, pickV_bool, Bool.false_eq_true, if_false, condK_bool]
          exact fin
        · simp only [idG_eq, getT, groupK_eq, guardK_bool, if_true, offV_ptr, bindV_some, loadV_ptr, o3, ptr, o83, loadM_cells, partV_one, Nat.zero_add, cellsT, tm, List.getElem?_cons_succ, List.getElem?_cons_zero, binV_eql, ea, decide_false, Bool.false_eq_true, if_false]
          simp only [idG_eq, getT, groupK_eq, guardK_bool, if_true, bindV_some, pickV_bool, Bool.false_eq_true, if_false, condK_bool]
          exact fin
    · have := dueC_none (due_none q.pw hn)
      omega
theorem order_l0 {h0 : St} {Q nn : Nat} {T : List Int} {v x4 x8 x9 x10 x11 : Value} {now : Int} {K : Cont} (hT : T.length ≤ 40) (hnn : T.length < nn) (s0 : SliceAt (· < h0.next) h0 v T.length 1 (rowN T)) (hK : ∀ h', K (.bool true) h') :
    ∀ (d i m0 : Nat) (h : St) (L : List It) (D : Nat → Prop), i + d = T.length → d < m0 → ChgP (h0.next ≤ ·) h0 h → QS D h Q L i → (∀ i, D i → h0.next ≤ i ∧ i < h.next) → (∀ x ∈ L, okO T x ∧ x.id < i) → L.length = i →
      tiltyardlaw08_TimerOrder_l0 (tabC tabO) idG nn m0 v (.int .i64 now) x4 (ptr Q) (.int .i64 (dueC L now : Nat)) (.int .i64 (i : Int)) x8 x9 x10 x11 h K := by
  intro d
  induction d with
  | zero =>
    intro i m0 h L D hi hm c q hD ok hl
    obtain ⟨m0, rfl⟩ : ∃ m, m0 = m + 1 := ⟨m0 - 1, by omega⟩
    rw [tiltyardlaw08_TimerOrder_l0_eq]
    have e : i = T.length := by omega
    subst e
    simp only [s0.len, bindV_some, binV_lss, condK_bool, Int.lt_irrefl, decide_false, Bool.false_eq_true, if_false, idG_eq]
    rw [tiltyardlaw08_TimerOrder_j2_eq]
    have hb : buildV [.int .i64 0, .int .u32 0, .int .i64 0] (some []) = some (encT .zero) := rfl
    simp only [hb, bindV_some]
    refine allocE_in fun h2 c2 n2 o2 => ?_
    refine storeE_all o2 rfl rfl rfl fun h3 c3 n3 o3 => ?_
    have c03 : Chg h h3 [] := c2.new c3 (by omega)
    have le : dueC L now ≤ T.length := by rw [← hl]; exact List.length_filter_le _ _
    simp only [idG_eq]
    exact order_l3 (d0 := h.next) hT s0 hK c.1 (Nat.le_refl _) le (dueC L now) 0 nn h3 L _ D false .zero _ (by omega) (by omega) (c.seq c03) (q.chgP (c03.nil fun _ => False) (by simp)) hD (by omega) o3 (fun x hx => (ok x hx).1) rfl (by omega) (by simp)
  | succ d ih =>
    intro i m0 h L D hi hm c q hD ok hl
    obtain ⟨m0, rfl⟩ : ∃ m, m0 = m + 1 := ⟨m0 - 1, by omega⟩
    rw [tiltyardlaw08_TimerOrder_l0_eq]
    have hlt : (i : Int) < T.length := by omega
    have inc : IntKind.i64.wrap ((i : Int) + 1) = ((i + 1 : Nat) : Int) := by rw [i64_in _ (by omega)]; omega
    have rm : binV .rem .other (.int .i64 (i : Int)) (.int .i64 3) = some (.int .i64 ((i % 3 : Nat) : Int)) := rem_nat (b := 3) (by omega)
    have s1 := s0.chgP c (fun i h => by omega)
    obtain ⟨tb, to, g1, g2⟩ := rowN_at s1 (by omega : i < T.length) .i64
    have m0' := c.1
    simp only [s0.len, bindV_some, binV_lss, condK_bool, hlt, decide_true, if_true, idG_eq, binNil_int, rm, wrapV_int, u32_in i (by omega), g1, g2]
    refine cK (S := setS) (by simp [tabO]) ⟨D, Q, L, i, ((i % 3 : Nat) : Int), (i : Int), T[i]?.getD 0, rfl, by omega, by omega, by omega, fun i hi => (hD i hi).2, q, fun x h2 kx ix ax sx c2 q2 => ?_⟩
    have m2 := c2.1
    have cc2 : ChgP (h0.next ≤ ·) h0 h2 := c.trans c2 (fun _ _ h => h) (fun i hi hd => by have := hD i hd; omega)
    have s2 := s0.chgP cc2 (fun i h => by omega)
    obtain ⟨tb', to', g1', g2'⟩ := rowN_at s2 (by omega : i < T.length) .i64
    have out : outT L ((i % 3 : Nat) : Int) (i : Int) = L := outT_none fun y hy => by
      have := (ok y hy).2
      simp [isT]; omega
    rw [out] at q2
    have okx : ∀ y ∈ L ++ [x], okO T y ∧ y.id < ((i + 1 : Nat) : Int) := by
      intro y hy
      rcases List.mem_append.1 hy with hy | hy
      · have := ok y hy; exact ⟨this.1, by omega⟩
      · simp at hy; subst hy
        exact ⟨⟨i, by omega, kx, ix, ax, sx⟩, by omega⟩
    have q2' : QS (fun j => D j ∨ (h.next ≤ j ∧ j < h2.next)) h2 Q (L ++ [x]) ((i + 1 : Nat) : Int) := by
      have : (i : Int) + 1 = ((i + 1 : Nat) : Int) := by omega
      rw [this] at q2; exact q2
    have nxt : ∀ due : Nat, due = dueC (L ++ [x]) now → tiltyardlaw08_TimerOrder_j1 (tabC tabO) idG nn m0 v (.int .i64 now) x4 (ptr Q) (.int .i64 (due : Int)) (.int .i64 (i : Int)) x8 x9 x10 x11 h2 K := by
      rintro due rfl
      rw [tiltyardlaw08_TimerOrder_j1_eq]
      simp only [binNil_int, binV_add, bindV_some, inc, idG_eq]
      refine ih (i + 1) m0 h2 (L ++ [x]) _ (by omega) (by omega) cc2 q2' (fun j hj => ?_) okx (by simp [hl])
      rcases hj with h | h
      · have := hD j h; omega
      · omega
    simp only [g1', bindV_some, g2', binV_leq, condK_bool]
    have dl : dueC L now ≤ L.length := List.length_filter_le _ _
    by_cases g : T[i]?.getD 0 ≤ now
    · have e : dueC (L ++ [x]) now = dueC L now + 1 := by
        rw [dueC_split (by rw [ax]; exact g)]; simp
      have w : IntKind.i64.wrap (((dueC L now : Nat) : Int) + 1) = ((dueC L now + 1 : Nat) : Int) := by rw [i64_in _ (by omega)]; omega
      simp only [g, decide_true, if_true, binNil_int, binV_add, w, bindV_some, idG_eq]
      exact nxt _ e.symm
    · have e : dueC (L ++ [x]) now = dueC L now := by
        unfold dueC
        rw [← ax] at g
        simp [List.filter_append, g]
      simp only [g, decide_false, Bool.false_eq_true, if_false, idG_eq]
      exact nxt _ e.symm
def orderLawS : Abs.Spec := fun args h k => ∃ (T : List Int) (v : Value) (now : Int), args = [v, .int .i64 now] ∧ SliceAt (· < h.next) h v T.length 1 (rowN T) ∧ ∀ h', k (.bool true) h'
theorem orderLawS_good : SpecGood Try.prog (4, orderLawS) := by
  refine spec_good mixed Try.func4 (by kernel_rfl) (by kernel_rfl) (tab := tabO) tabO_good (keep := tiltyardlaw08_TimerOrder_keep) ?_
  rintro args h k ⟨T, v, now, rfl, s0, H⟩
  refine ⟨T.length + 1, ?_⟩
  show tiltyardlaw08_TimerOrder (tabC tabO) idG _ v (.int .i64 now) h _
  rw [tiltyardlaw08_TimerOrder_eq]
  have fin : ∀ h', ∃ h2, St.le h2 h' ∧ k (.bool true) h2 := fun h' => ⟨h', St.le.refl _, H h'⟩
  simp only [s0.len, bindV_some, binNil_int, binV_gtr, condK_bool]
  by_cases g : (T.length : Int) > 40
  · simp only [g, decide_true, if_true]
    exact fin h
  · simp only [g, decide_false, Bool.false_eq_true, if_false, idG_eq]
    refine cK (S := newS) (by simp [tabO]) ⟨rfl, fun h1 Q c1 hQ q1 => ?_⟩
    simp only [idG_eq]
    exact order_l0 (by omega) (by omega) s0 fin T.length 0 _ h1 [] _ (by omega) (by omega) (c1.nil _) q1 (fun i hi => hi) (by simp) (by simp)
end Go.Proofs.Ytaoeeoboaiknjaa
