/- 'BoardHides', 'BoardKnows', 'BoardRuns', walked. -/
import Derived.Test.YtlohiobliagaoaaBdE
set_option linter.unusedSimpArgs false
set_option linter.unusedVariables false
set_option maxHeartbeats 4000000
namespace Go.Proofs.Ytlohiobliagaoaa
open Go.Abs Go.IntWalk
attribute [local congr] bindV_weak condK_weak guardK_weak groupK_weak allocE_weak boxE_weak storeE_weak storeM_weak tabC_weak ite_weak idG_weak appendE_weak buildSliceE_weak mapUpdateE_weak deleteE_weak makeMapE_weak copyE_weak clearE_weak callE_weak

theorem seen_clamp (s : Int) : seenN (clamp s : Int) = seenN s := by
  unfold clamp
  split
  · rename_i h
    unfold seenN
    rw [if_neg (by omega), if_neg (by omega), if_neg (by omega), if_neg (by omega), if_neg (by omega), if_neg (by omega)]
  · have : ((s.toNat : Nat) : Int) = s := by omega
    rw [this]
/-! ### what is not seen is not told -/
def tabHi : List (FuncId × Abs.Spec) := [(7, bnewO), (11, bsetO), (10, bflO), (16, eseenO), (17, awakeO), (11, bsetN), (13, bstatN), (10, bflN)]
theorem tabHi_good : ∀ p ∈ tabHi, SpecGood Try.prog p := by simp [tabHi, bnewO_good, bsetO_good, bflO_good, eseenO_good, awakeO_good, bsetN_good, bstatN_good, bflN_good]
def hidesLawO : Abs.Spec := fun args h k => ∃ (p : Nat) (a b : Int), args = [.int .u32 (p : Int), .int .i64 a, .int .i64 b] ∧ ∀ h', k (.bool true) h'
theorem hidesLawO_good : SpecGood Try.prog (5, hidesLawO) := by
  refine spec_good mixed Try.func5 (by kernel_rfl) (by kernel_rfl) (tab := tabHi) tabHi_good (keep := w_Hides_keep) ?_
  rintro args h k ⟨p, a, b, rfl, H⟩
  refine ⟨0, ?_⟩
  show w_Hides (tabC _) idG 0 (.int .u32 (p : Int)) (.int .i64 a) (.int .i64 b) h _
  rw [w_Hides_eq]
  refine cK (S := bnewO) (by simp [tabHi]) ⟨rfl, fun h1 v c1 pv b1 => ?_⟩
  refine set_step (by simp [tabHi]) (bst_new c1 b1) fun h2 c2 s2 => ?_
  refine flush_step (by simp [tabHi]) s2 (by omega) fun h3 sv3 c3 s3 o3 l3 => ?_
  refine set_step (by simp [tabHi]) s3 fun h4 c4 s4 => ?_
  refine flush_step (by simp [tabHi]) s4 (by omega) fun h5 sv c5 s5 o5 l5 => ?_
  -- what is told
  have told : (rightId p = true ∧ seenN a ≠ seenN b → chs (setB (flM (setB (fun _ => (0, 0)) p a)) p b) = [p] ∧ setB (flM (setB (fun _ => (0, 0)) p a)) p b = one1 p (clamp b, seenN a)) ∧
      (¬ (rightId p = true ∧ seenN a ≠ seenN b) → chs (setB (flM (setB (fun _ => (0, 0)) p a)) p b) = []) := by
    cases hr : rightId p with
    | false =>
      refine ⟨fun h => (by cases h.1), fun _ => ?_⟩
      have e : ∀ (M : Md) s, setB M p s = M := fun M s => by unfold setB; rw [hr, if_neg (by simp)]
      rw [e, e, chs_flM]
    | true =>
      have e1 : setB (fun _ => (0, 0)) p a = one1 p (clamp a, 0) := by rw [setB_right hr]; rfl
      have e2 : setB (flM (one1 p (clamp a, 0))) p b = one1 p (clamp b, seenN a) := by
        rw [fl_one, setB_right hr, setM_one, one_at, seen_clamp]
      rw [e1, e2]
      have e3 := chs_one (rightId_iff.1 hr) (clamp b, seenN a)
      rw [show seenN ((clamp b, seenN a) : Mk).1 = seenN b from seen_clamp b] at e3
      refine ⟨fun h => ⟨?_, rfl⟩, fun h => ?_⟩
      · rw [e3, if_neg (fun e => h.2 e.symm)]
      · rw [e3, if_pos]
        exact Decidable.byContradiction fun hh => h ⟨rfl, fun e => hh e.symm⟩
  refine cK (S := eseenO) (by simp [tabHi]) ⟨a, rfl, fun h6 c6 => ?_⟩
  refine cK (S := eseenO) (by simp [tabHi]) ⟨b, rfl, fun h7 c7 => ?_⟩
  have c57 := c6.seq c7
  have ge : binNil .geq .other (.int .u32 (p : Int)) (.int .u32 1) = some (.bool (decide (1 ≤ p))) := by
    rw [binNil_int, binV_geq, show decide ((p : Int) ≥ 1) = decide (1 ≤ p) from decide_eq_decide.2 (by omega)]
  have le : binNil .leq .other (.int .u32 (p : Int)) (.int .u32 2147483647) = some (.bool (decide (p ≤ 2147483647))) := by
    rw [binNil_int, binV_leq, show decide ((p : Int) ≤ 2147483647) = decide (p ≤ 2147483647) from decide_eq_decide.2 (by omega)]
  simp only [eqN, ge, bindV_some]
  -- behind the two tests
  have nothing : ∀ (hx : St), chs (setB (flM (setB (fun _ => (0, 0)) p a)) p b) = [] → bindV (lenS sv) fun v42 => bindV (binNil .eql .other v42 (.int .i64 0)) fun v43 => groupK v43 true [undef] hx (fun J14 => tabC tabHi 17 [] hx fun v45 h17 => J14 [v45] h17) fun xs15 h16 => idG (bindV (pickV v43 (getT xs15 0) (.bool false)) fun v46 => ∃ h2, St.le h2 h16 ∧ k v46 h2) := fun hx e => by
    rw [e] at o5
    have z0 : binNil .eql .other (.int .i64 (([] : List Nat).length : Int)) (.int .i64 0) = some (.bool true) := rfl
    simp only [OwnS.len o5, z0, bindV_some, groupK_eq, guardK_bool, if_true]
    refine cK (S := awakeO) (by simp [tabHi]) ⟨rfl, fun h' c' => ?_⟩
    simp only [idG_eq, getT, pickV_bool, if_true, bindV_some]
    exact ⟨h', St.le.refl _, H h'⟩
  cases ee : decide (seenN a = seenN b) with
  | true =>
    have same : ¬ (rightId p = true ∧ seenN a ≠ seenN b) := fun h => h.2 (by simpa using ee)
    have no := told.2 same
    cases hg : decide (1 ≤ p) with
    | false =>
      simp only [groupK_eq, guardK_bool, Bool.false_eq_true, if_false, idG_eq, pickV_bool, bindV_some, Bool.true_eq_false, if_true, condK_bool]
      exact nothing h7 no
    | true =>
      simp only [groupK_eq, guardK_bool, le, if_true, idG_eq, pickV_bool, bindV_some, getT, Bool.true_eq_false, if_false, condK_bool]
      exact nothing h7 no
  | false =>
    have ne : seenN a ≠ seenN b := by simpa using ee
    cases hg : decide (1 ≤ p) with
    | false =>
      have hr : rightId p = false := by unfold rightId; rw [hg]; rfl
      have no := told.2 (fun h => by rw [hr] at h; cases h.1)
      simp only [groupK_eq, guardK_bool, Bool.false_eq_true, if_false, idG_eq, pickV_bool, bindV_some, if_true, unV_not, Bool.not_false, getT, condK_bool]
      exact nothing h7 no
    | true =>
      cases hl : decide (p ≤ 2147483647) with
      | false =>
        have hr : rightId p = false := by unfold rightId; rw [hg, hl]; rfl
        have no := told.2 (fun h => by rw [hr] at h; cases h.1)
        simp only [groupK_eq, guardK_bool, le, hl, if_true, idG_eq, pickV_bool, bindV_some, getT, Bool.false_eq_true, if_false, unV_not, Bool.not_false, condK_bool]
        exact nothing h7 no
      | true =>
        have hr : rightId p = true := by unfold rightId; rw [hg, hl]; rfl
        obtain ⟨t1, t2⟩ := told.1 ⟨hr, ne⟩
        rw [t1, t2] at o5
        have o5 : OwnS (fun i => h4.next ≤ i) h5 sv 2 (([p] : List Nat).flatMap (cellsC (one1 p (clamp b, seenN a)))) ([p] : List Nat).length := o5
        have sb : seenN ((one1 p (clamp b, seenN a) p).1 : Int) = seenN b := by rw [one_at]; exact seen_clamp b
        obtain ⟨bb, o, g1, g2⟩ := own_c o5 (i := 0) (by simp) .i64
        have g1 : idxS 2 sv (.int .i64 0) = some (.pointer (some ⟨bb, o, none⟩)) := g1
        have ld : ∀ hx, Chg h5 hx [] → loadV false 1 (.pointer (some ⟨bb, o, none⟩)) hx = some (.int .u32 (p : Int)) ∧ loadV false 1 (.pointer (some ⟨bb, o + 1, none⟩)) hx = some (.int .i64 (seenN b : Int)) := fun hx c => by
          obtain ⟨f0, f1, _⟩ := g2 hx c
          refine ⟨f0, ?_⟩
          have f1 : loadV false 1 (.pointer (some ⟨bb, o + 1, none⟩)) hx = some (.int .i64 (seenN ((one1 p (clamp b, seenN a) p).1 : Int) : Int)) := f1
          rw [sb] at f1
          exact f1
        have z1 : binNil .eql .other (.int .i64 (([p] : List Nat).length : Int)) (.int .i64 1) = some (.bool true) := rfl
        have e0 : ∀ (kk : IntKind) (x : Nat), binV .eql .other (.int kk (x : Int)) (.int kk (x : Int)) = some (.bool true) := fun kk x => by rw [eqN]; simp
        simp only [groupK_eq, guardK_bool, le, hl, if_true, idG_eq, pickV_bool, bindV_some, getT, Bool.false_eq_true, if_false, unV_not, Bool.not_true, condK_bool]
        refine cK (S := bsetN) (by simp [tabHi]) ⟨_, _, rfl, ?_⟩
        obtain ⟨f0, f1⟩ := ld h7 c57
        simp only [OwnS.len o5, z1, bindV_some, groupK_eq, guardK_bool, if_true, g1, offV_ptr, Nat.add_zero, f0]
        refine ⟨trivial, ?_⟩
        simp only [e0, bindV_some, idG_eq, getT, pickV_bool, if_true, groupK_eq, guardK_bool, g1, offV_ptr, f1]
        refine ⟨trivial, ?_⟩
        refine cK (S := eseenO) (by simp [tabHi]) ⟨b, rfl, fun h8 c8 => ⟨⟨(ld h8 (c57.seq c8)).2, trivial, trivial⟩, ?_⟩⟩
        simp only [e0, bindV_some, idG_eq, getT, pickV_bool, if_true, groupK_eq, guardK_bool]
        refine cK (S := bstatN) (by simp [tabHi]) ⟨_, rfl, ⟨trivial, trivial, trivial⟩, ?_⟩
        have z0 : binNil .eql .other (.int .i64 0) (.int .i64 0) = some (.bool true) := rfl
        have ln : lenS (.slice none 0 0) = some (.int .i64 0) := rfl
        simp only [z0, bindV_some, idG_eq, getT, pickV_bool, if_true, groupK_eq, guardK_bool]
        refine cK (S := bflN) (by simp [tabHi]) ⟨rfl, ⟨trivial, trivial, trivial⟩, ?_⟩
        simp only [ln, z0, bindV_some, idG_eq, getT, pickV_bool, if_true, groupK_eq, guardK_bool]
        refine cK (S := awakeO) (by simp [tabHi]) ⟨rfl, fun h' c' => ⟨⟨trivial, trivial, trivial⟩, ?_⟩⟩
        simp only [bindV_some, idG_eq, getT, pickV_bool, if_true]
        exact ⟨h', St.le.refl _, H h'⟩
/-! ### acts -/
abbrev BAct := Bool × Nat × Int
def cellsT (x : BAct) : List Value := [.bool x.1, .int .u32 (x.2.1 : Int), .int .i64 x.2.2]
def rowT (l : List BAct) (i : Nat) : List Value := cellsT (l[i]?.getD (false, 0, 0))
def BActs (h : St) (v : Value) (l : List BAct) : Prop := SliceAt (· < h.next) h v l.length 3 (rowT l)
theorem bact_at {h0 : St} {v : Value} {l : List BAct} (s : BActs h0 v l) {i : Nat} (hi : i < l.length) :
    ∃ b o, idxS 3 v (.int .i64 (i : Int)) = some (.pointer (some ⟨b, o, none⟩)) ∧ ∀ h, Chg h0 h [] → loadV true 3 (.pointer (some ⟨b, o, none⟩)) h = some (.agg #[.bool l[i].1, .int .u32 (l[i].2.1 : Int), .int .i64 l[i].2.2]) ∧
      loadV false 1 (.pointer (some ⟨b, o, none⟩)) h = some (.bool l[i].1) ∧ loadV false 1 (.pointer (some ⟨b, o + 1, none⟩)) h = some (.int .u32 (l[i].2.1 : Int)) ∧ loadV false 1 (.pointer (some ⟨b, o + 2, none⟩)) h = some (.int .i64 l[i].2.2) := by
  obtain ⟨b, o, g1, g2, g3, cs, own, g4, g5⟩ := s.idx (i := (i : Int)) (by omega) (by omega) .i64
  have e : rowT l (i : Int).toNat = cellsT l[i] := by simp [rowT, hi]
  rw [e] at g5
  refine ⟨b, o, g1, fun h c => ?_⟩
  have g := c.at0 g3 g4
  have e0 : cs[o]? = some (.bool l[i].1) := row_cell g5 0 (by omega)
  have e1 : cs[o + 1]? = some (.int .u32 (l[i].2.1 : Int)) := row_cell g5 1 (by omega)
  have e2 : cs[o + 2]? = some (.int .i64 l[i].2.2) := row_cell g5 2 (by omega)
  refine ⟨?_, ?_, ?_, ?_⟩
  · simp only [loadV_ptr, g, loadM_cells, partV_agg, g5, Option.map_some]; rfl
  · simp only [loadV_ptr, g, loadM_cells, partV_one, e0]
  · simp only [loadV_ptr, g, loadM_cells, partV_one, e1]
  · simp only [loadV_ptr, g, loadM_cells, partV_one, e2]
/-! ### who was told knows -/
def tabKn : List (FuncId × Abs.Spec) := [(7, bnewO), (11, bsetO), (10, bflO), (15, bseenO), (13, bstatO), (17, awakeO)]
theorem tabKn_good : ∀ p ∈ tabKn, SpecGood Try.prog p := by simp [tabKn, bnewO_good, bsetO_good, bflO_good, bseenO_good, bstatO_good, awakeO_good]
theorem told_set (M : Md) (p : Nat) (s : Int) (q : Nat) : (setB M p s q).2 = (M q).2 := by
  unfold setB
  split
  · unfold setM
    split
    · rename_i h; rw [h]
    · rfl
  · rfl
theorem flM_flM (M : Md) : flM (flM M) = flM M := rfl
theorem chs_nodup (M : Md) : (chs M).Nodup := (ups_rise _).imp fun h => by omega
theorem knows_l2 {nn m0 p : Nat} {x0 x4 x7 v sv : Value} {D : Nat → Prop} {M : Md} {h : St} {k : Cont} (few : (chs M).length ≤ 255) (rd : ∀ q, M q ≠ (0, 0) → rid q) (o : OwnS D h sv 2 ((chs M).flatMap (cellsC M)) (chs M).length)
    (H : ∀ x9, w_Knows_j5 (tabC tabKn) idG nn m0 x0 (.int .u32 (p : Int)) x4 v (.int .i64 (seenN (M p).1 : Int)) x7 sv x9 h k) :
    ∀ (d i m1 : Nat) (kn : Nat), i + d = (chs M).length → d < m1 → kn = (if p ∈ (chs M).take i then seenN (M p).1 else (M p).2) →
      w_Knows_l2 (tabC tabKn) idG nn m0 m1 x0 (.int .u32 (p : Int)) x4 v (.int .i64 (kn : Int)) x7 sv (.int .i64 (i : Int)) h k := by
  intro d
  induction d with
  | zero =>
    intro i m1 kn hi hm ek
    obtain ⟨m1, rfl⟩ : ∃ m, m1 = m + 1 := ⟨m1 - 1, by omega⟩
    rw [w_Knows_l2_eq]
    have e' : i = (chs M).length := by omega
    subst e'
    rw [List.take_length] at ek
    simp only [o.len, bindV_some, binV_lss, condK_bool, Int.lt_irrefl, decide_false, Bool.false_eq_true, if_false, idG_eq]
    have : kn = seenN (M p).1 := by
      rw [ek]
      split
      · rfl
      · rename_i hp
        have : chd M p = false := by
          cases hc : chd M p with
          | false => rfl
          | true =>
            have := (rd p (chd_ne hc)).2
            exact absurd (ups_mem.2 ⟨by rw [topId_eq]; omega, hc⟩) hp
        unfold chd at this
        simp at this
        exact this.symm
    rw [this]
    exact H _
  | succ d ih =>
    intro i m1 kn hi hm ek
    obtain ⟨m1, rfl⟩ : ∃ m, m1 = m + 1 := ⟨m1 - 1, by omega⟩
    rw [w_Knows_l2_eq]
    have iL : i < (chs M).length := by omega
    have hlt : (i : Int) < (chs M).length := by omega
    have inc : IntKind.i64.wrap ((i : Int) + 1) = ((i + 1 : Nat) : Int) := by rw [i64_in _ (by omega)]; omega
    obtain ⟨b, oo, g1, g2⟩ := own_c o iL .i64
    obtain ⟨f0, f1, _⟩ := g2 h (Chg.refl _ _)
    have tak : (chs M).take (i + 1) = (chs M).take i ++ [(chs M)[i]] := List.take_succ_eq_append_getElem iL
    have hx : (chs M)[i] ∈ chs M := List.getElem_mem iL
    have notin : (chs M)[i] ∉ (chs M).take i := by
      intro hm
      have nd := chs_nodup M
      rw [List.nodup_iff_pairwise_ne] at nd
      obtain ⟨j, hj, e⟩ := List.getElem_of_mem hm
      rw [List.length_take] at hj
      rw [List.getElem_take] at e
      exact List.pairwise_iff_getElem.1 nd j i (by omega) (by omega) (by omega) e
    simp only [o.len, bindV_some, binV_lss, condK_bool, hlt, decide_true, if_true, idG_eq, g1, offV_ptr, Nat.add_zero, f0, eqN]
    have next : ∀ kn' : Nat, kn' = (if p ∈ (chs M).take (i + 1) then seenN (M p).1 else (M p).2) → w_Knows_j4 (tabC tabKn) idG nn m0 m1 x0 (.int .u32 (p : Int)) x4 v (.int .i64 (kn' : Int)) x7 sv (.int .i64 (i : Int)) h k := fun kn' e => by
      rw [w_Knows_j4_eq]
      simp only [binNil_int, binV_add, bindV_some, inc, idG_eq]
      exact ih (i + 1) m1 kn' (by omega) (by omega) e
    cases e : decide ((chs M)[i] = p) with
    | false =>
      simp only [Bool.false_eq_true, if_false, idG_eq]
      refine next kn ?_
      rw [ek, tak]
      have : p ≠ (chs M)[i] := fun h => by rw [← h] at e; simp at e
      simp only [List.mem_append, List.mem_singleton, this, or_false]
    | true =>
      have ep : (chs M)[i] = p := by simpa using e
      rw [ep] at notin hx f1
      rw [if_neg notin] at ek
      have hc : chd M p = true := (ups_mem.1 hx).2
      have ne : decide (seenN ((M p).1 : Int) = kn) = false := by
        unfold chd at hc
        rw [ek]
        simpa using hc
      simp only [if_true, g1, bindV_some, offV_ptr, f1, eqN, ne, condK_bool, Bool.false_eq_true, if_false, idG_eq]
      refine next _ ?_
      rw [tak, ep, if_pos (by simp)]
end Go.Proofs.Ytlohiobliagaoaa
