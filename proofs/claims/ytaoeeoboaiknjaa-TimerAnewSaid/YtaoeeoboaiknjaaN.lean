/- 'TimerAnew', walked. -/
import Derived.Test.YtaoeeoboaiknjaaM
set_option linter.unusedSimpArgs false
set_option linter.unusedVariables false
set_option maxHeartbeats 4000000
namespace Go.Proofs.Ytaoeeoboaiknjaa
open Go.Abs Go.IntWalk
attribute [local congr] bindV_weak condK_weak guardK_weak groupK_weak allocE_weak boxE_weak storeE_weak storeM_weak tabC_weak ite_weak idG_weak appendE_weak buildSliceE_weak invokeE_weak mapUpdateE_weak deleteE_weak makeMapE_weak

theorem anew_j4 {Q nn : Nat} {x0 x1 x2 x6 x8 x9 x11 x12 : Value} {s : Int} {D : Nat → Prop} {h : St} {K : Cont} (q : QS D h Q [] s) (hK : ∀ h', K (.bool true) h') :
    tiltyardlaw08_TimerAnew_j4 (tabC tabO) idG nn x0 x1 x2 x6 (ptr Q) x8 x9 (.bool true) x11 x12 h K := by
  rw [tiltyardlaw08_TimerAnew_j4_eq]
  simp only [groupK_eq, guardK_bool, if_true]
  refine cK (S := lenS) (by simp [tabO]) ⟨D, Q, [], s, rfl, q, ?_⟩
  simp only [List.length_nil, Int.natCast_zero, Int.cast_ofNat_Int, binNil_int, binV_eql, bindV_some, decide_true, idG_eq, pickV_bool, if_true, getT, groupK_eq, guardK_bool]
  refine cK (S := awakeS) (by simp [tabO]) ⟨rfl, fun h' _ => ?_⟩
  simp only [bindV_some, idG_eq, pickV_bool, if_true, getT, decide_true]
  exact hK h'
theorem anew_l2 {h0 : St} {Q nn n : Nat} {v x1 x6 x8 : Value} {T : List Int} {id at_ : Int} {K : Cont} (hn : T.length = n) (hT : n ≤ 30) (s0 : SliceAt (· < h0.next) h0 v T.length 1 (rowN T)) (hK : ∀ h', K (.bool true) h') :
    ∀ (d k m0 : Nat) (h : St) (L : List It) (s : Int) (D : Nat → Prop) (seen : Bool) (x12 : Value), k + d = n → d < m0 → ChgP (h0.next ≤ ·) h0 h → QS D h Q L s → (∀ i, D i → h0.next ≤ i ∧ i < h.next) →
      L.length = d → (∀ y ∈ L, y.at_ ≤ 9223372036854775807 ∧ ((y.id = id ∧ y.at_ = at_ ∧ y.seq = (n : Int) + 1) ∨ (y.id ≠ id ∧ y.seq ≤ n))) → (seen = true → ∀ y ∈ L, at_ < y.at_ ∧ y.id ≠ id) → (seen = false → ∃ y ∈ L, y.id = id) →
      tiltyardlaw08_TimerAnew_l2 (tabC tabO) idG nn m0 v x1 (.int .i64 at_) x6 (ptr Q) x8 (.int .u32 id) (.bool seen) (.int .i64 (k : Int)) x12 h K := by
  intro d
  induction d with
  | zero =>
    intro k m0 h L s D seen x12 hk hm c q hD hl ok h1 h2
    obtain ⟨m0, rfl⟩ : ∃ m, m0 = m + 1 := ⟨m0 - 1, by omega⟩
    rw [tiltyardlaw08_TimerAnew_l2_eq]
    have e : k = n := by omega
    subst e
    have eL : L = [] := List.length_eq_zero_iff.1 hl
    subst eL
    have es : seen = true := by
      cases seen with
      | true => rfl
      | false => obtain ⟨y, hy, _⟩ := h2 rfl; simp at hy
    subst es
    rw [hn] at s0
    simp only [s0.len, binV_lss, bindV_some, condK_bool, Int.lt_irrefl, decide_false, Bool.false_eq_true, if_false, idG_eq]
    exact anew_j4 q hK
  | succ d ih =>
    intro k m0 h L s D seen x12 hk hm c q hD hl ok h1 h2
    obtain ⟨m0, rfl⟩ : ∃ m, m0 = m + 1 := ⟨m0 - 1, by omega⟩
    rw [tiltyardlaw08_TimerAnew_l2_eq]
    have hlt : (k : Int) < T.length := by omega
    have inc : IntKind.i64.wrap ((k : Int) + 1) = ((k + 1 : Nat) : Int) := by rw [i64_in _ (by omega)]; omega
    simp only [s0.len, binV_lss, bindV_some, condK_bool, hlt, decide_true, if_true, idG_eq]
    refine cK (S := dueS) (by simp [tabO]) ⟨D, Q, L, s, 9223372036854775807, rfl, by omega, fun i hi => (hD i hi).2, q, fun x h1' hx c1 q1 => ?_, fun h1' hn' c1 => ?_⟩
    · obtain ⟨A, C, rfl, out, le, less, pw⟩ := due_split q.pw hx
      rw [out] at q1
      have okx := (ok x (by simp)).2
      have sub : ∀ y ∈ A ++ C, y ∈ A ++ x :: C := fun y hy => by
        simp only [List.mem_append, List.mem_cons] at hy ⊢
        rcases hy with h | h
        · exact .inl h
        · exact .inr (.inr h)
      have m1 := c1.1
      simp only [extV_two0, extV_two1, bindV_some]
      refine allocE_in fun h2' c2 n2 o2 => ?_
      refine storeE_all o2 rfl rfl rfl fun h3 c3 n3 o3 => ?_
      have c13 : Chg h1' h3 [] := c2.new c3 (by omega)
      have q3 := q1.chgP (c13.nil fun _ => False) (by simp)
      have o3 : h3.objs h1'.next = some (.cells (cellsT (tm x)) true) := o3
      have cc1 : ChgP (h0.next ≤ ·) h0 h1' := c.trans c1 (fun _ _ h => h) (fun i hi hd => by have := hD i hd; omega)
      have cc3 := cc1.seq c13
      have nxt : ∀ seen', (seen' = true → ∀ y ∈ A ++ C, at_ < y.at_ ∧ y.id ≠ id) → (seen' = false → ∃ y ∈ A ++ C, y.id = id) → tiltyardlaw08_TimerAnew_j3 (tabC tabO) idG nn m0 v x1 (.int .i64 at_) x6 (ptr Q) x8 (.int .u32 id) (.bool seen') (.int .i64 (k : Int)) (.pointer (some ⟨h1'.next, 0, none⟩)) h3 K := by
        intro seen' g1 g2
        rw [tiltyardlaw08_TimerAnew_j3_eq]
        simp only [binNil_int, binV_add, bindV_some, inc, idG_eq]
        exact ih (k + 1) m0 h3 (A ++ C) s D seen' _ (by omega) (by omega) cc3 q3 (fun i hi => by have := hD i hi; omega) (by simp at hl ⊢; omega) (fun y hy => ok y (sub y hy)) g1 g2
      have body : condK (.bool false) (K (.bool false) h3) (idG (bindV (offV 1 (.pointer (some ⟨h1'.next, 0, none⟩))) fun v74 => bindV (loadV false 1 v74 h3) fun v75 => bindV (binV .eql .other v75 (.int .u32 id)) fun v77 => condK v77 (groupK (.bool seen) false [undef, undef, undef, undef] h3 (fun J21 => bindV (offV 2 (.pointer (some ⟨h1'.next, 0, none⟩))) fun v80 => bindV (loadV false 1 v80 h3) fun v81 => bindV (binV .neq .other v81 (.int .i64 at_)) fun v83 => J21 [v80, v81, (.int .i64 at_), v83] h3) fun xs22 h23 => idG (bindV (pickV (.bool seen) (.bool true) (getT xs22 3)) fun v84 => condK v84 (K (.bool false) h23) (idG (idG (tiltyardlaw08_TimerAnew_j3 (tabC tabO) idG nn m0 v x1 (.int .i64 at_) x6 (ptr Q) x8 (.int .u32 id) (.bool true) (.int .i64 (k : Int)) (.pointer (some ⟨h1'.next, 0, none⟩)) h23 K))))) (idG (tiltyardlaw08_TimerAnew_j3 (tabC tabO) idG nn m0 v x1 (.int .i64 at_) x6 (ptr Q) x8 (.int .u32 id) (.bool seen) (.int .i64 (k : Int)) (.pointer (some ⟨h1'.next, 0, none⟩)) h3 K)))) := by
        simp only [condK_bool, Bool.false_eq_true, if_false, idG_eq, offV_ptr, bindV_some, loadV_ptr, o3, loadM_cells, partV_one, Nat.zero_add, cellsT, tm, List.getElem?_cons_succ, List.getElem?_cons_zero, binV_eql]
        by_cases e : x.id = id
        · have es : seen = false := by
            cases seen with
            | false => rfl
            | true => exact absurd e (h1 rfl x (by simp)).2
          subst es
          have xa : x.at_ = at_ ∧ x.seq = (n : Int) + 1 := by
            rcases okx with h | h
            · exact h.2
            · exact absurd e h.1
          simp only [e, decide_true, if_true, groupK_eq, guardK_bool, offV_ptr, bindV_some, loadV_ptr, o3, loadM_cells, partV_one, Nat.zero_add, cellsT, tm, List.getElem?_cons_succ, List.getElem?_cons_zero, binV_neq, xa.1, ne_eq, not_true_eq_false, decide_false, idG_eq, pickV_bool, Bool.false_eq_true, if_false, getT, condK_bool]
          refine nxt true (fun _ y hy => ?_) (by simp)
          have lt := less y hy
          have oy := (ok y (sub y hy)).2
          unfold ltT at lt
          refine ⟨by omega, fun ey => ?_⟩
          rcases oy with h | h
          · omega
          · exact h.1 ey
        · simp only [e, decide_false, Bool.false_eq_true, if_false, idG_eq]
          refine nxt seen (fun hs y hy => h1 hs y (sub y hy)) (fun hs => ?_)
          obtain ⟨y, hy, ey⟩ := h2 hs
          refine ⟨y, ?_, ey⟩
          simp only [List.mem_append, List.mem_cons] at hy ⊢
          rcases hy with h | h | h
          · exact .inl h
          · exact absurd (h ▸ ey) e
          · exact .inr h
      cases seen with
      | false =>
        simp only [unV_not, bindV_some, Bool.not_true, groupK_eq, guardK_bool, if_true, idG_eq, getT, Bool.false_eq_true, if_false, pickV_bool]
        exact body
      | true =>
        have z : ¬ x.at_ ≤ at_ := by have := (h1 rfl x (by simp)).1; omega
        simp only [unV_not, bindV_some, Bool.not_true, groupK_eq, guardK_bool, if_true, idG_eq, getT, offV_ptr, loadV_ptr, o3, loadM_cells, partV_one, Nat.zero_add, cellsT, tm, List.getElem?_cons_succ, List.getElem?_cons_zero, binV_leq, z, decide_false, pickV_bool, Bool.false_eq_true, if_false]
        simpa only [condK_bool, Bool.false_eq_true, if_false, idG_eq, offV_ptr, bindV_some, loadV_ptr, o3, loadM_cells, partV_one, Nat.zero_add, cellsT, tm, List.getElem?_cons_succ, List.getElem?_cons_zero, binV_eql] using body
    · have := due_none q.pw hn'
      cases L with
      | nil => simp at hl
      | cons y L =>
        have a := this y (by simp)
        have b := (ok y (by simp)).1
        omega
theorem anew_l0 {h0 : St} {Q nn n a : Nat} {T : List Int} {v x6 x9 x10 x11 x12 : Value} {at_ : Int} {K : Cont} (hn : T.length = n) (hT : n ≤ 30) (n0 : 0 < n) (hnn : n < nn) (hat : at_ ≤ 9223372036854775807) (hTi : ∀ i : Nat, T[i]?.getD 0 ≤ 9223372036854775807) (s0 : SliceAt (· < h0.next) h0 v T.length 1 (rowN T)) (hK : ∀ h', K (.bool true) h') (ha : a < 256) :
    ∀ (d i m0 : Nat) (h : St) (L : List It) (D : Nat → Prop), i + d = n → d < m0 → ChgP (h0.next ≤ ·) h0 h → QS D h Q L i → (∀ i, D i → h0.next ≤ i ∧ i < h.next) → (∀ x ∈ L, x.kind = 1 ∧ 0 ≤ x.id ∧ x.id < i ∧ x.at_ ≤ 9223372036854775807) → (∀ j : Nat, j < i → ∃ x ∈ L, x.id = j) → L.length = i →
      tiltyardlaw08_TimerAnew_l0 (tabC tabO) idG nn m0 v (.int .u8 a) (.int .i64 at_) x6 (ptr Q) (.int .i64 (i : Int)) x9 x10 x11 x12 h K := by
  intro d
  induction d with
  | zero =>
    intro i m0 h L D hi hm c q hD ok ids hl
    obtain ⟨m0, rfl⟩ : ∃ m, m0 = m + 1 := ⟨m0 - 1, by omega⟩
    rw [tiltyardlaw08_TimerAnew_l0_eq]
    have e : i = n := by omega
    subst e
    rw [hn] at s0
    simp only [s0.len, bindV_some, binV_lss, condK_bool, Int.lt_irrefl, decide_false, Bool.false_eq_true, if_false, idG_eq]
    rw [tiltyardlaw08_TimerAnew_j1_eq]
    have ra : binV .rem .other (.int .i64 (a : Int)) (.int .i64 (i : Int)) = some (.int .i64 ((a % i : Nat) : Int)) := rem_nat (by omega)
    have rl : a % i < i := Nat.mod_lt _ n0
    simp only [wrapV_int, i64_in (a : Int) (by omega), s0.len, bindV_some, ra, u32_in (a % i) (by omega)]
    refine cK (S := setS) (by simp [tabO]) ⟨D, Q, L, i, 1, ((a % i : Nat) : Int), at_, rfl, by omega, by omega, by omega, fun i hi => (hD i hi).2, q, fun x h2 kx ix ax sx c2 q2 => ?_⟩
    have m2 := c2.1
    have m0' := c.1
    have cc2 : ChgP (h0.next ≤ ·) h0 h2 := c.trans c2 (fun _ _ h => h) (fun i hi hd => by have := hD i hd; omega)
    obtain ⟨y, hy, ey⟩ := ids (a % i) rl
    obtain ⟨A, C, rfl⟩ := List.append_of_mem hy
    have py := q.pw
    have hit : isT 1 ((a % i : Nat) : Int) y = true := by rw [isT_iff]; exact ⟨((ok y hy).1).symm, ey.symm⟩
    have hA : ∀ z ∈ A, isT 1 ((a % i : Nat) : Int) z = false := fun z hz => by
      have := ((List.pairwise_append.1 py).2.2 z hz y (by simp)).2
      cases e : isT 1 ((a % i : Nat) : Int) z with
      | false => rfl
      | true =>
        obtain ⟨e1, e2⟩ := isT_iff.1 e
        obtain ⟨e3, e4⟩ := isT_iff.1 hit
        rw [← e1, ← e2, isT, ← e3, ← e4] at this
        simp at this
    have out := outT_split hit hA py
    have len : (outT (A ++ y :: C) 1 ((a % i : Nat) : Int) ++ [x]).length = i := by rw [out]; simp at hl ⊢; omega
    refine cK (S := lenS) (by simp [tabO]) ⟨_, Q, _, _, rfl, q2, ?_⟩
    simp only [len, s0.len, bindV_some, binV_neq, ne_eq, not_true_eq_false, decide_false, condK_bool, Bool.false_eq_true, if_false, idG_eq]
    refine anew_l2 hn hT (hn ▸ s0) hK i 0 nn h2 _ _ _ false _ (by omega) (by omega) cc2 q2 (fun j hj => ?_) len (fun z hz => ?_) (by simp) (fun _ => ⟨x, by simp, ix⟩)
    · rcases hj with h | h
      · have := hD j h; omega
      · omega
    · rcases List.mem_append.1 hz with hz | hz
      · have hz' := List.mem_filter.1 hz
        have o := ok z hz'.1
        have ne : z.id ≠ ((a % i : Nat) : Int) := fun e => by
          have : isT 1 ((a % i : Nat) : Int) z = true := by rw [isT_iff]; exact ⟨o.1.symm, e.symm⟩
          rw [this] at hz'; simp at hz'
        obtain ⟨sv, m, f, _, _, _, _, _, sq⟩ := q
        exact ⟨o.2.2.2, .inr ⟨ne, sq z hz'.1⟩⟩
      · simp at hz; subst hz
        exact ⟨by omega, .inl ⟨ix, ax, sx⟩⟩
  | succ d ih =>
    intro i m0 h L D hi hm c q hD ok ids hl
    obtain ⟨m0, rfl⟩ : ∃ m, m0 = m + 1 := ⟨m0 - 1, by omega⟩
    rw [tiltyardlaw08_TimerAnew_l0_eq]
    have hlt : (i : Int) < T.length := by omega
    have inc : IntKind.i64.wrap ((i : Int) + 1) = ((i + 1 : Nat) : Int) := by rw [i64_in _ (by omega)]; omega
    have s1 := s0.chgP c (fun i h => by omega)
    obtain ⟨tb, to, g1, g2⟩ := rowN_at s1 (by omega : i < T.length) .i64
    simp only [s0.len, bindV_some, binV_lss, condK_bool, hlt, decide_true, if_true, idG_eq, wrapV_int, u32_in i (by omega), g1, g2]
    refine cK (S := setS) (by simp [tabO]) ⟨D, Q, L, i, 1, (i : Int), T[i]?.getD 0, rfl, by omega, by omega, by omega, fun i hi => (hD i hi).2, q, fun x h2 kx ix ax sx c2 q2 => ?_⟩
    have m2 := c2.1
    have m0' := c.1
    have cc2 : ChgP (h0.next ≤ ·) h0 h2 := c.trans c2 (fun _ _ h => h) (fun i hi hd => by have := hD i hd; omega)
    have out : outT L 1 (i : Int) = L := outT_none fun y hy => by
      have := ok y hy
      simp [isT]; omega
    rw [out] at q2
    have q2' : QS (fun j => D j ∨ (h.next ≤ j ∧ j < h2.next)) h2 Q (L ++ [x]) ((i + 1 : Nat) : Int) := by
      have : (i : Int) + 1 = ((i + 1 : Nat) : Int) := by omega
      rw [this] at q2; exact q2
    simp only [binNil_int, binV_add, bindV_some, inc, idG_eq]
    refine ih (i + 1) m0 h2 (L ++ [x]) _ (by omega) (by omega) cc2 q2' (fun j hj => ?_) (fun y hy => ?_) (fun j hj => ?_) (by simp [hl])
    · rcases hj with h | h
      · have := hD j h; omega
      · omega
    · rcases List.mem_append.1 hy with hy | hy
      · have := ok y hy; omega
      · simp at hy; subst hy
        have := hTi i
        omega
    · by_cases e : j = i
      · exact ⟨x, by simp, by rw [ix, e]⟩
      · obtain ⟨y, hy, ey⟩ := ids j (by omega)
        exact ⟨y, by simp [hy], ey⟩
def anewLawS : Abs.Spec := fun args h k => ∃ (T : List Int) (v : Value) (a : Nat) (at_ : Int), args = [v, .int .u8 a, .int .i64 at_] ∧ a < 256 ∧ at_ ≤ 9223372036854775807 ∧ (∀ i : Nat, T[i]?.getD 0 ≤ 9223372036854775807) ∧ SliceAt (· < h.next) h v T.length 1 (rowN T) ∧ ∀ h', k (.bool true) h'
theorem anewLawS_good : SpecGood Try.prog (5, anewLawS) := by
  refine spec_good mixed Try.func5 (by kernel_rfl) (by kernel_rfl) (tab := tabO) tabO_good (keep := tiltyardlaw08_TimerAnew_keep) ?_
  rintro args h k ⟨T, v, a, at_, rfl, ha, hat, hTi, s0, H⟩
  refine ⟨T.length + 1, ?_⟩
  show tiltyardlaw08_TimerAnew (tabC tabO) idG _ v (.int .u8 a) (.int .i64 at_) h _
  rw [tiltyardlaw08_TimerAnew_eq]
  have fin : ∀ h', ∃ h2, St.le h2 h' ∧ k (.bool true) h2 := fun h' => ⟨h', St.le.refl _, H h'⟩
  simp only [s0.len, bindV_some, binNil_int, binV_gtr, groupK_eq, guardK_bool]
  by_cases g : (T.length : Int) > 30
  · simp only [g, decide_true, Bool.true_eq_false, if_false, idG_eq, pickV_bool, if_true, bindV_some, condK_bool]
    exact fin h
  · simp only [g, decide_false, if_true, s0.len, bindV_some, binNil_int, binV_eql, idG_eq, pickV_bool, Bool.false_eq_true, if_false, getT, condK_bool]
    by_cases g0 : (T.length : Int) = 0
    · simp only [g0, decide_true, if_true]
      exact fin h
    · simp only [g0, decide_false, Bool.false_eq_true, if_false]
      refine cK (S := newS) (by simp [tabO]) ⟨rfl, fun h1 Q c1 hQ q1 => ?_⟩
      simp only [idG_eq]
      exact anew_l0 rfl (by omega) (by omega) (by omega) hat hTi s0 fin ha T.length 0 _ h1 [] _ (by omega) (by omega) (c1.nil _) q1 (fun i hi => hi) (by simp) (by simp) (by simp)
end Go.Proofs.Ytaoeeoboaiknjaa
