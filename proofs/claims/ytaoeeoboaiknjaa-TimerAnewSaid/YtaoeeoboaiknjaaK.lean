/- 'TimerRuns', walked. -/
import Derived.Test.YtaoeeoboaiknjaaJ
set_option linter.unusedSimpArgs false
set_option linter.unusedVariables false
set_option maxHeartbeats 4000000
namespace Go.Proofs.Ytaoeeoboaiknjaa
open Go.Abs Go.IntWalk
attribute [local congr] bindV_weak condK_weak guardK_weak groupK_weak allocE_weak boxE_weak storeE_weak storeM_weak tabC_weak ite_weak idG_weak appendE_weak buildSliceE_weak invokeE_weak mapUpdateE_weak deleteE_weak makeMapE_weak

structure Act where
  d : Int
  kd : Int
  id : Int
  at_ : Int
def Act.zero : Act := ⟨0, 0, 0, 0⟩
def cellsA (a : Act) : List Value := [.int .u8 a.d, .int .i64 a.kd, .int .u32 a.id, .int .i64 a.at_]
def rowAct (L : List Act) (i : Nat) : List Value := cellsA (L[i]?.getD .zero)
/-- Both, side by side. -/
def RunI (h0 h : St) (Q : Nat) (L : List It) (s : Int) (lv : Value) : Prop :=
  ∃ D E, (∀ i, D i → h0.next ≤ i ∧ i < h.next) ∧ (∀ i, E i → h0.next ≤ i ∧ i < h.next) ∧ (∀ i, D i → ¬ E i) ∧ QS D h Q L s ∧ RL E h lv (L.map tm)
theorem RunI.chg0 {h0 h h' : St} {Q : Nat} {L : List It} {s : Int} {lv : Value} (r : RunI h0 h Q L s lv) (c : Chg h h' []) : RunI h0 h' Q L s lv := by
  obtain ⟨D, E, r1, r2, r3, r4, r5⟩ := r
  have := c.1
  exact ⟨D, E, fun i hi => by have := r1 i hi; omega, fun i hi => by have := r2 i hi; omega, r3, r4.chgP (c.nil fun _ => False) (by simp), r5.chg0 c⟩
theorem any_out (L : List It) (kd id : Int) : L.any (isT kd id) = decide ((outTm (L.map tm) kd id).length ≠ (L.map tm).length) := by
  rw [← out_map, List.length_map, List.length_map]
  induction L with
  | nil => rfl
  | cons x L ih =>
    have le : (outT L kd id).length ≤ L.length := List.length_filter_le _ _
    rw [List.any_cons]
    cases hx : isT kd id x with
    | true =>
      have : outT (x :: L) kd id = outT L kd id := by simp [outT, hx]
      rw [this]
      simp only [Bool.true_or, List.length_cons]
      rw [eq_comm, decide_eq_true_iff]
      omega
    | false =>
      have : outT (x :: L) kd id = x :: outT L kd id := by simp [outT, hx]
      rw [this, ih]
      simp only [Bool.false_or, List.length_cons]
      congr 1
      simp
def tabK : List (FuncId × Abs.Spec) := [(10, awakeS), (11, newS), (12, setS), (13, dueS), (14, lenS), (15, rsetS), (16, clearS), (17, rclearS), (18, rdueS), (19, ownS), (20, findS), (21, rfindS), (22, nextS), (23, rfirstS)]
theorem tabK_good : ∀ p ∈ tabK, SpecGood Try.prog p := by simp [tabK, awakeS_good, newS_good, setS_good, dueS_good, lenS_good, rsetS_good, clearS_good, rclearS_good, rdueS_good, ownS_good, findS_good, rfindS_good, nextS_good, rfirstS_good]
theorem c10 {h : St} {k : Cont} (H : awakeS [] h k) : tabC tabK 10 [] h k := .inl ⟨rfl, H⟩
theorem cK {f : FuncId} {S : Abs.Spec} {args : List Value} {h : St} {k : Cont} : ∀ {tab : List (FuncId × Abs.Spec)}, (f, S) ∈ tab → S args h k → tabC tab f args h k
  | (g, R) :: tab, hm, H => by
    rcases List.mem_cons.1 hm with e | hm
    · cases e; exact .inl ⟨rfl, H⟩
    · exact .inr (cK hm H)
theorem runs_j1 {h0 : St} {Q nn m0 b6 : Nat} {x0 x2 lv x5 x8 x13 : Value} {a : Act} {L : List It} {s : Int} {h : St} {K : Cont} (hl : L.length ≤ 1000000) (h00 : h0.next ≤ h.next)
    (r : RunI h0 h Q L s lv) (o6 : h.objs b6 = some (.cells (cellsA a) true)) (l6 : b6 < h.next)
    (H : ∀ h', Chg h h' [] → tiltyardlaw08_TimerRuns_j3 (tabC tabK) idG nn m0 x0 x2 (ptr Q) lv x5 (ptr b6) x8 x13 h' K) :
    tiltyardlaw08_TimerRuns_j1 (tabC tabK) idG nn m0 x0 x2 (ptr Q) lv x5 (ptr b6) x8 x13 h K := by
  rw [tiltyardlaw08_TimerRuns_j1_eq]
  have lT : (L.map tm).length ≤ 1000000 := by simpa using hl
  simp only [ptr, offV_ptr, bindV_some, loadV_ptr, o6, loadM_cells, partV_one, Nat.zero_add, cellsA, List.getElem?_cons_succ, List.getElem?_cons_zero]
  obtain ⟨D, E, d1, d2, d3, q, rl⟩ := id r
  refine cK (S := findS) (by simp [tabK]) ⟨D, Q, L, s, a.kd, a.id, rfl, q, ?_⟩
  obtain ⟨fo, hfo⟩ : ∃ fo, fo = (L.map tm).find? (fun t => decide (a.kd = t.kind) && decide (a.id = t.id)) := ⟨_, rfl⟩
  rw [← hfo]
  simp only [extV_two0, extV_two1, ptr, offV_ptr, bindV_some, loadV_ptr, o6, loadM_cells, partV_one, Nat.zero_add, cellsA, List.getElem?_cons_succ, List.getElem?_cons_zero]
  refine cK (S := rfindS) (by simp [tabK]) ⟨E, lv, L.map tm, a.kd, a.id, rfl, lT, rl, ?_⟩
  rw [← hfo]
  simp only [extV_two0, extV_two1, bindV_some]
  refine cK (S := nextS) (by simp [tabK]) ⟨D, Q, L, s, rfl, fun i hi => (d1 i hi).2, q, fun h1 c1 => ?_⟩
  have m1 := c1.1
  obtain ⟨t, ht⟩ : ∃ t, t = (firstI L).elim Tm.zero tm := ⟨_, rfl⟩
  have e1 : (firstT (L.map tm)).elim Tm.zero id = t := by
    rw [← first_map, ht]
    cases firstI L <;> rfl
  have e2 : (firstT (L.map tm)).isSome = (firstI L).isSome := by rw [← first_map]; cases firstI L <;> rfl
  rw [← ht]
  simp only [extV_two0, extV_two1, bindV_some]
  refine allocE_in fun h2 c2 n2 o2 => ?_
  refine storeE_all o2 rfl rfl rfl fun h3 c3 n3 o3 => ?_
  have c13 : Chg h1 h3 [] := c2.new c3 (by omega)
  have c03 := c1.seq c13
  refine cK (S := rfirstS) (by simp [tabK]) ⟨E, lv, L.map tm, rfl, lT, rl.chg0 c03, fun h4 c4 => ?_⟩
  have m4 := c4.1
  have o4 := c4.at0 (by omega) o3
  rw [e1, e2]
  simp only [extV_two0, extV_two1, bindV_some]
  refine allocE_in fun h5 c5 n5 o5 => ?_
  refine storeE_all o5 rfl rfl rfl fun h6 c6 n6 o6' => ?_
  have o7 : h6.objs h1.next = some (.cells (cellsT t) true) := c6.at1 (by omega) (by omega) (c5.at0 (by omega) o4)
  have o8 : h6.objs h4.next = some (.cells (cellsT t) true) := o6'
  have c06 : Chg h h6 [] := (c03.seq c4).seq (c5.new c6 (by omega))
  have nl : ∀ (z : Tm), (.agg (cellsT z).toArray : Value) = encT z := fun _ => rfl
  simp only [binV_neq, ne_eq, not_true_eq_false, decide_false, bindV_some, groupK_eq, guardK_bool, if_true, binV_bool_neq, beq_self_eq_true, Bool.not_true]
  simp only [idG_eq, pickV_bool, if_true, Bool.false_eq_true, if_false, bindV_some, getT, groupK_eq, guardK_bool]
  simp only [loadV_ptr, o7, loadM_cells, partV_agg, takeT, Option.map_some, bindV_some]
  refine ⟨trivial, ?_⟩
  simp only [loadV_ptr, o8, loadM_cells, partV_agg, takeT, Option.map_some, bindV_some]
  refine ⟨trivial, ?_⟩
  refine cK (S := ownS) (by simp [tabK]) ⟨t, rfl, fun h7 c7 => ?_⟩
  have o9 := c7.at0 (by omega) o7
  have m7 := c7.1
  refine ⟨⟨trivial, by simp only [loadV_ptr, o9, loadM_cells, partV_agg, takeT, Option.map_some], trivial⟩, ?_⟩
  have c07 := c06.seq c7
  simp only [nl, neT, ne_eq, not_true_eq_false, decide_false, bindV_some, idG_eq, pickV_bool, Bool.false_eq_true, if_false, getT, groupK_eq, guardK_bool, if_true, binV_bool_neq, beq_self_eq_true, Bool.not_true]
  simp only [idG_eq, pickV_bool, if_true, Bool.false_eq_true, if_false, bindV_some, getT, groupK_eq, guardK_bool, decide_false]
  obtain ⟨D', E', d1', d2', d3', q', rl'⟩ := r.chg0 c07
  refine cK (S := lenS) (by simp [tabK]) ⟨D', Q, L, s, rfl, q', ?_⟩
  refine ⟨⟨trivial, trivial, trivial⟩, ?_⟩
  have ll := OwnS.len rl'
  rw [List.length_map] at ll
  simp only [ll, bindV_some, binV_neq, ne_eq, not_true_eq_false, decide_false, idG_eq, pickV_bool, Bool.false_eq_true, if_false, getT, condK_bool]
  exact H h7 c07
theorem runs_l0 {h0 : St} {Q nn : Nat} {acts : List Act} {v x2 : Value} {K : Cont} (hl : acts.length ≤ 60) (s0 : SliceAt (· < h0.next) h0 v acts.length 4 (rowAct acts)) (hK : ∀ h, K (.bool true) h) :
    ∀ (d i m0 : Nat) (h : St) (L : List It) (s : Int) (lv x6 x8 x13 : Value), i + d = acts.length → d < m0 → ChgP (h0.next ≤ ·) h0 h → RunI h0 h Q L s lv → L.length ≤ i → 0 ≤ s → s ≤ i →
      tiltyardlaw08_TimerRuns_l0 (tabC tabK) idG nn m0 v x2 (ptr Q) lv (.int .i64 (i : Int)) x6 x8 x13 h K := by
  intro d
  induction d with
  | zero =>
    intro i m0 h L s lv x6 x8 x13 hi hm c r hL hs0 hs
    obtain ⟨m0, rfl⟩ : ∃ m, m0 = m + 1 := ⟨m0 - 1, by omega⟩
    rw [tiltyardlaw08_TimerRuns_l0_eq]
    have e : i = acts.length := by omega
    subst e
    simp only [s0.len, bindV_some, binV_lss, condK_bool, Int.lt_irrefl, decide_false, Bool.false_eq_true, if_false, idG_eq]
    rw [tiltyardlaw08_TimerRuns_j2_eq]
    exact cK (S := awakeS) (by simp [tabK]) ⟨rfl, fun h' _ => hK h'⟩
  | succ d ih =>
    intro i m0 h L s lv x6 x8 x13 hi hm c r hL hs0 hs
    obtain ⟨m0, rfl⟩ : ∃ m, m0 = m + 1 := ⟨m0 - 1, by omega⟩
    rw [tiltyardlaw08_TimerRuns_l0_eq]
    have hlt : (i : Int) < acts.length := by omega
    have inc : IntKind.i64.wrap ((i : Int) + 1) = ((i + 1 : Nat) : Int) := by rw [i64_in _ (by omega)]; omega
    obtain ⟨b, o, g1, g2, g3, cs, own, g4, g5⟩ := (s0.chgP c (fun i h => by omega)).idx (Int.natCast_nonneg i) hlt .i64
    obtain ⟨a, ha⟩ : ∃ a, a = acts[i]?.getD .zero := ⟨_, rfl⟩
    have hrow : rowAct acts (i : Int).toNat = cellsA a := by rw [ha]; rfl
    rw [hrow] at g5
    simp only [s0.len, bindV_some, binV_lss, condK_bool, hlt, decide_true, if_true, idG_eq, g1, loadV_ptr, g4, loadM_cells, partV_agg, g5, Option.map_some]
    refine allocE_in fun h1 c1 n1 o1 => ?_
    refine storeE_all o1 rfl rfl rfl fun h2 c2 n2 o2 => ?_
    have o2 : h2.objs h.next = some (.cells (cellsA a) true) := o2
    have c02 : Chg h h2 [] := c1.new c2 (Nat.le_refl _)
    have cc2 := c.seq c02
    have m0' := c.1
    -- the end of a step
    have nxt : ∀ (h' : St) (L' : List It) (s' : Int) (lv' x8 x13 : Value), ChgP (h0.next ≤ ·) h0 h' → RunI h0 h' Q L' s' lv' → h'.objs h.next = some (.cells (cellsA a) true) → h.next < h'.next → L'.length ≤ i + 1 → 0 ≤ s' → s' ≤ i + 1 →
        tiltyardlaw08_TimerRuns_j1 (tabC tabK) idG nn m0 v x2 (ptr Q) lv' (.int .i64 (i : Int)) (ptr h.next) x8 x13 h' K := by
      intro h' L' s' lv' x8 x13 c' r' o' l' hL' hs0' hs'
      refine runs_j1 (by omega) (by omega) r' o' l' fun h3 c3 => ?_
      rw [tiltyardlaw08_TimerRuns_j3_eq]
      simp only [binNil_int, binV_add, bindV_some, inc, idG_eq]
      exact ih (i + 1) m0 h3 L' s' lv' _ _ _ (by omega) (by omega) (c'.seq c3) (r'.chg0 c3) hL' hs0' (by omega)
    have nl : ∀ (z : Tm), (.agg (cellsT z).toArray : Value) = encT z := fun _ => rfl
    have r2 := r.chg0 c02
    obtain ⟨D, E, d1, d2, d3, q, rl⟩ := id r
    have q := q.chgP (c02.nil fun _ => False) (by simp)
    have rl := rl.chg0 c02
    have lT : (L.map tm).length ≤ 100 := by rw [List.length_map]; omega
    have lo : ∀ a b, (outT L a b).length ≤ i := fun a b => Nat.le_trans (List.length_filter_le _ _) hL
    simp only [offV_ptr, bindV_some, loadV_ptr, o2, loadM_cells, partV_one, Nat.zero_add, cellsA, List.getElem?_cons_succ, List.getElem?_cons_zero, binNil_int, binV_eql, condK_bool]
    by_cases e0 : a.d = 0
    · simp only [e0, decide_true, if_true, ptr, offV_ptr, bindV_some, loadV_ptr, o2, loadM_cells, partV_one, Nat.zero_add, cellsA, List.getElem?_cons_succ, List.getElem?_cons_zero]
      refine cK (S := setS) (by simp [tabK]) ⟨D, Q, L, s, a.kd, a.id, a.at_, rfl, by omega, hs0, by omega, fun i hi => by have := d1 i hi; omega, q, fun x h3 kx ix ax sx c3 q3 => ?_⟩
      have m3 := c3.1
      have o3 := c3.at (i := h.next) (by omega) (fun hd => by have := d1 _ hd; omega) o2
      have rl3 := rl.chgP c3 (fun i h1 h2 => d3 i h1 h2)
      simp only [ptr, offV_ptr, bindV_some, loadV_ptr, o3, loadM_cells, partV_one, Nat.zero_add, cellsA, List.getElem?_cons_succ, List.getElem?_cons_zero]
      refine cK (S := rsetS) (by simp [tabK]) ⟨E, lv, L.map tm, a.kd, a.id, a.at_, rfl, by omega, fun i hi => by have := d2 i hi; omega, rl3, fun h4 v4 c4 r4 => ?_⟩
      have m4 := c4.1
      have q4 := q3.chgP (c4.nil fun _ => False) (by simp)
      have eT : outTm (L.map tm) a.kd a.id ++ [⟨a.kd, a.id, a.at_⟩] = (outT L a.kd a.id ++ [x]).map tm := by
        rw [List.map_append, out_map]
        simp [tm, kx, ix, ax]
      rw [eT] at r4
      simp only [idG_eq]
      refine nxt h4 (outT L a.kd a.id ++ [x]) (s + 1) v4 _ _ ?_ ⟨_, _, fun i hi => ?_, fun i hi => ?_, fun i h1 h2 => ?_, q4, r4⟩ (c4.at0 (by omega) o3) (by omega) (by have := lo a.kd a.id; simp; omega) (by omega) (by omega)
      · exact ((cc2.trans c3 (fun _ _ h => h) (fun i hi hd => by have := d1 i hd; omega))).seq c4
      · rcases hi with h | h
        · have := d1 i h; omega
        · omega
      · omega
      · rcases h1 with h | h
        · have := d1 i h; omega
        · omega
    · by_cases e1 : a.d = 1
      · simp only [e0, e1, Int.one_ne_zero, decide_false, decide_true, if_true, Bool.false_eq_true, if_false, ptr, offV_ptr, bindV_some, loadV_ptr, o2, loadM_cells, partV_one, Nat.zero_add, cellsA, List.getElem?_cons_succ, List.getElem?_cons_zero, binNil_int, binV_eql, condK_bool]
        refine cK (S := clearS) (by simp [tabK]) ⟨D, Q, L, s, a.kd, a.id, rfl, by omega, q, fun h3 c3 q3 => ?_⟩
        have m3 := c3.1
        have o3 := c3.at (i := h.next) (by omega) (fun hd => by have := d1 _ hd; omega) o2
        have rl3 := rl.chgP c3 (fun i h1 h2 => d3 i h1 h2)
        simp only [ptr, offV_ptr, bindV_some, loadV_ptr, o3, loadM_cells, partV_one, Nat.zero_add, cellsA, List.getElem?_cons_succ, List.getElem?_cons_zero]
        refine cK (S := rclearS) (by simp [tabK]) ⟨E, lv, L.map tm, a.kd, a.id, rfl, by omega, fun i hi => by have := d2 i hi; omega, rl3, fun h4 v4 c4 r4 => ?_⟩
        have m4 := c4.1
        have q4 := q3.chgP (c4.nil fun _ => False) (by simp)
        rw [← any_out]
        rw [← out_map] at r4
        simp only [extV_two0, extV_two1, bindV_some, binV_bool_neq, beq_self_eq_true, Bool.not_true, condK_bool, Bool.false_eq_true, if_false, idG_eq]
        refine nxt h4 (outT L a.kd a.id) s v4 _ _ ?_ ⟨_, _, fun i hi => ?_, fun i hi => ?_, fun i h1 h2 => ?_, q4, r4⟩ (c4.at0 (by omega) o3) (by omega) (by have := lo a.kd a.id; omega) (by omega) (by omega)
        · exact ((cc2.trans c3 (fun _ _ h => h) (fun i hi hd => by have := d1 i hd; omega))).seq c4
        · have := d1 i hi; omega
        · omega
        · have := d1 i h1; omega
      · by_cases e2 : a.d = 2
        · simp only [e0, e1, e2, show ¬ ((2 : Int) = 0) by decide, show ¬ ((2 : Int) = 1) by decide, decide_false, decide_true, if_true, Bool.false_eq_true, if_false, ptr, offV_ptr, bindV_some, loadV_ptr, o2, loadM_cells, partV_one, Nat.zero_add, cellsA, List.getElem?_cons_succ, List.getElem?_cons_zero, binNil_int, binV_eql, condK_bool]
          -- what both say, and the step's end
          have tail : ∀ (h3 : St) (L' : List It) (t : Tm) (b : Bool) (E' : Nat → Prop) (lv' : Value), ChgP D h2 h3 → QS D h3 Q L' s → L'.length ≤ i → dueT (L.map tm) a.at_ = (if b = true then some t else none) → (b = false → t = .zero ∧ L' = L) → (b = true → outTm (L.map tm) t.kind t.id = L'.map tm) →
              bindV (extV 0 (.tuple #[encT t, .bool b])) fun v87 => bindV (extV 1 (.tuple #[encT t, .bool b])) fun v88 => allocE (some [.int .i64 0, .int .u32 0, .int .i64 0]) h3 fun v10 h10 => storeE 3 v10 v87 h10 fun _ h12 => bindV (offV 3 (ptr h.next)) fun v91 => bindV (loadV false 1 v91 h12) fun v92 => tabC tabK 18 [lv, v92] h12 fun v93 h13 => bindV (extV 0 v93) fun v94 => bindV (extV 1 v93) fun v95 => bindV (extV 2 v93) fun v96 => allocE (some [.int .i64 0, .int .u32 0, .int .i64 0]) h13 fun v12 h14 => storeE 3 v12 v94 h14 fun _ h16 => bindV (binV .neq .bool v88 v96) fun v99 => groupK v99 false [undef, undef, undef, undef] h16 (fun J17 => bindV (loadV true 3 v10 h16) fun v101 => (True) ∧ bindV (loadV true 3 v12 h16) fun v102 => (True) ∧ tabC tabK 19 [v102] h16 fun v103 h20 => (True ∧ (loadV true 3 v10 h20 = some v101) ∧ True) ∧ bindV (binV .neq (.flat [.i, .i, .i]) v101 v103) fun v104 => J17 [v101, v102, v103, v104] h20) fun xs18 h19 => idG (bindV (pickV v99 (.bool true) (getT xs18 3)) fun v105 => condK v105 (K (.bool false) h19) (idG (idG (tiltyardlaw08_TimerRuns_j1 (tabC tabK) idG nn m0 v x2 (ptr Q) v95 (.int .i64 (i : Int)) (ptr h.next) x8 v95 h19 K)))) := by
            intro h3 L' t b E' lv' c3 q3 hL' hdue hb0 hb1
            have m3 := c3.1
            have o3 := c3.at (i := h.next) (by omega) (fun hd => by have := d1 _ hd; omega) o2
            have rl3 := rl.chgP c3 (fun i h1 h2 => d3 i h1 h2)
            simp only [extV_two0, extV_two1, bindV_some]
            refine allocE_in fun h4 c4 n4 o4 => ?_
            refine storeE_all o4 rfl rfl rfl fun h5 c5 n5 o5 => ?_
            have c35 : Chg h3 h5 [] := c4.new c5 (by omega)
            have o35 := c35.at0 (by omega) o3
            have o5 : h5.objs h3.next = some (.cells (cellsT t) true) := o5
            simp only [ptr, offV_ptr, bindV_some, loadV_ptr, o35, loadM_cells, partV_one, Nat.zero_add, cellsA, List.getElem?_cons_succ, List.getElem?_cons_zero]
            -- behind the document's answer
            have fin : ∀ (h6 : St) (v6 : Value), Chg h5 h6 [] → RunI h0 h6 Q L' s v6 → bindV (extV 0 (.tuple #[encT t, v6, .bool b])) fun v94 => bindV (extV 1 (.tuple #[encT t, v6, .bool b])) fun v95 => bindV (extV 2 (.tuple #[encT t, v6, .bool b])) fun v96 => allocE (some [.int .i64 0, .int .u32 0, .int .i64 0]) h6 fun v12 h14 => storeE 3 v12 v94 h14 fun _ h16 => bindV (binV .neq .bool (.bool b) v96) fun v99 => groupK v99 false [undef, undef, undef, undef] h16 (fun J17 => bindV (loadV true 3 (ptr h3.next) h16) fun v101 => (True) ∧ bindV (loadV true 3 v12 h16) fun v102 => (True) ∧ tabC tabK 19 [v102] h16 fun v103 h20 => (True ∧ (loadV true 3 (ptr h3.next) h20 = some v101) ∧ True) ∧ bindV (binV .neq (.flat [.i, .i, .i]) v101 v103) fun v104 => J17 [v101, v102, v103, v104] h20) fun xs18 h19 => idG (bindV (pickV v99 (.bool true) (getT xs18 3)) fun v105 => condK v105 (K (.bool false) h19) (idG (idG (tiltyardlaw08_TimerRuns_j1 (tabC tabK) idG nn m0 v x2 (ptr Q) v95 (.int .i64 (i : Int)) (ptr h.next) x8 v95 h19 K)))) := by
              intro h6 v6 c6 r6
              have m6 := c6.1
              simp only [extV_three0, extV_three1, extV_three2, bindV_some]
              refine allocE_in fun h7 c7 n7 o7 => ?_
              refine storeE_all o7 rfl rfl rfl fun h8 c8 n8 o8 => ?_
              have c68 : Chg h6 h8 [] := c7.new c8 (by omega)
              have o58 := c68.at0 (by omega) (c6.at0 (by omega) o5)
              have o8 : h8.objs h6.next = some (.cells (cellsT t) true) := o8
              simp only [binV_bool_neq, beq_self_eq_true, Bool.not_true, bindV_some, groupK_eq, guardK_bool, if_true]
              simp only [ptr, loadV_ptr, o58, loadM_cells, partV_agg, takeT, Option.map_some, bindV_some]
              refine ⟨trivial, ?_⟩
              simp only [loadV_ptr, o8, loadM_cells, partV_agg, takeT, Option.map_some, bindV_some]
              refine ⟨trivial, ?_⟩
              refine cK (S := ownS) (by simp [tabK]) ⟨t, rfl, fun h9 c9 => ?_⟩
              have o59 := c9.at0 (by omega) o58
              refine ⟨⟨trivial, by simp only [ptr, loadV_ptr, o59, loadM_cells, partV_agg, takeT, Option.map_some], trivial⟩, ?_⟩
              have c59 : Chg h5 h9 [] := (c6.seq c68).seq c9
              simp only [nl, neT, ne_eq, not_true_eq_false, decide_false, bindV_some, idG_eq, pickV_bool, Bool.false_eq_true, if_false, getT, condK_bool]
              refine nxt h9 L' s v6 _ _ ?_ ((r6.chg0 c68).chg0 c9) (c59.at0 (by omega) o35) (by have := c59.1; omega) (by omega) hs0 (by omega)
              exact ((cc2.trans c3 (fun _ _ h => h) (fun i hi hd => by have := d1 i hd; omega)).seq c35).seq c59
            refine cK (S := rdueS) (by simp [tabK]) ⟨E, lv, L.map tm, a.at_, rfl, by omega, fun i hi => by have := d2 i hi; omega, rl3.chg0 c35, fun t' h6 v6 ht c6 r6 => ?_, fun h6 hn c6 => ?_⟩
            · rw [ht] at hdue
              cases b with
              | false => simp at hdue
              | true =>
                simp only [if_true, Option.some.injEq] at hdue
                subst hdue
                rw [hb1 rfl] at r6
                refine fin h6 v6 c6 ⟨D, _, fun i hi => ?_, fun i hi => ?_, fun i h1 h2 => ?_, (q3.chgP (c35.nil fun _ => False) (by simp)).chgP (c6.nil fun _ => False) (by simp), r6⟩
                · have := d1 i hi; have := c6.1; omega
                · omega
                · have := d1 i h1; omega
            · rw [hn] at hdue
              cases b with
              | true => simp at hdue
              | false =>
                obtain ⟨rfl, rfl⟩ := hb0 rfl
                refine fin h6 lv c6 ⟨D, E, fun i hi => ?_, fun i hi => ?_, d3, (q3.chgP (c35.nil fun _ => False) (by simp)).chgP (c6.nil fun _ => False) (by simp), (rl3.chg0 c35).chg0 c6⟩
                · have := d1 i hi; have := c6.1; omega
                · have := d2 i hi; have := c6.1; omega
          refine cK (S := dueS) (by simp [tabK]) ⟨D, Q, L, s, a.at_, rfl, by omega, fun i hi => by have := d1 i hi; omega, q, fun x h3 hx c3 q3 => ?_, fun h3 hn c3 => ?_⟩
          · refine tail h3 (outT L x.kind x.id) (tm x) true E lv c3 q3 (lo _ _) ?_ (by simp) (fun _ => (out_map L x.kind x.id).symm)
            rw [← due_map, hx]; rfl
          · refine tail h3 L .zero false E lv (c3.nil D) (q.chgP (c3.nil fun _ => False) (by simp)) hL ?_ (fun _ => ⟨rfl, rfl⟩) (by simp)
            rw [← due_map, hn]; rfl
        · simp only [e0, e1, e2, decide_false, Bool.false_eq_true, if_false, binNil_int, binV_eql, bindV_some, condK_bool, idG_eq]
          exact nxt h2 L s lv _ _ cc2 r2 o2 (by omega) (by omega) hs0 (by omega)
def runsLawS : Abs.Spec := fun args h k => ∃ (acts : List Act) (v : Value), args = [v] ∧ SliceAt (· < h.next) h v acts.length 4 (rowAct acts) ∧ ∀ h', k (.bool true) h'
theorem runsLawS_good : SpecGood Try.prog (6, runsLawS) := by
  refine spec_good mixed Try.func6 (by kernel_rfl) (by kernel_rfl) (tab := tabK) tabK_good (keep := tiltyardlaw08_TimerRuns_keep) ?_
  rintro args h k ⟨acts, v, rfl, s0, H⟩
  refine ⟨acts.length + 1, ?_⟩
  show tiltyardlaw08_TimerRuns (tabC tabK) idG _ v h _
  rw [tiltyardlaw08_TimerRuns_eq]
  have fin : ∀ h', ∃ h2, St.le h2 h' ∧ k (.bool true) h2 := fun h' => ⟨h', St.le.refl _, H h'⟩
  simp only [s0.len, bindV_some, binNil_int, binV_gtr, condK_bool]
  by_cases g : (acts.length : Int) > 60
  · simp only [g, decide_true, if_true]
    exact fin h
  · simp only [g, decide_false, Bool.false_eq_true, if_false, idG_eq]
    refine cK (S := newS) (by simp [tabK]) ⟨rfl, fun h1 Q c1 hQ q1 => ?_⟩
    have m1 := c1.1
    simp only [ptr, binNil_ptr_eql, bindV_some, Option.isNone, condK_bool, Bool.false_eq_true, if_false, idG_eq]
    exact runs_l0 (by omega) s0 fin acts.length 0 _ h1 [] 0 _ _ _ _ (by omega) (by omega) (c1.nil _) ⟨_, fun _ => False, fun i hi => hi, fun i hi => hi.elim, fun _ _ h => h, q1, .inl ⟨rfl, rfl, rfl⟩⟩ (by simp) (by omega) (by omega)
end Go.Proofs.Ytaoeeoboaiknjaa
