/- A board's audience: the graph's Ask and Are. -/
import Derived.Test.YtlohiobliagaoaaFrC
import Derived.Test.YtlohiobliagaoaaBdE
set_option linter.unusedSimpArgs false
set_option linter.unusedVariables false
set_option maxHeartbeats 4000000
namespace Go.Proofs.Ytlohiobliagaoaa
open Go.Abs Go.IntWalk
attribute [local congr] bindV_weak condK_weak guardK_weak groupK_weak allocE_weak boxE_weak storeE_weak storeM_weak tabC_weak ite_weak idG_weak appendE_weak buildSliceE_weak mapUpdateE_weak deleteE_weak makeMapE_weak copyE_weak clearE_weak callE_weak mapEntryE_weak entryStoreE_weak rangeE_weak nextE_weak

noncomputable def fAsk (F : Fn) (a b : Nat) : Fn × Bool × Nat :=
  if wrongN a b ≠ 0 then (F, false, wrongN a b)
  else if bit (F a b) 4 = true ∨ bit (F b a) 4 = true then (F, false, 17)
  else if bit (F a b) 3 = true then (F, false, 11)
  else if bit (F b a) 1 = true then (befF F a b, true, 0)
  else if 16 ≤ cnt F a ∨ 16 ≤ cnt F b then (F, false, 10)
  else (updF F a b (F a b ||| 1), false, 0)
theorem bit_rid {F : Fn} (f : FOk F) {a b w : Nat} (h : bit (F a b) w = true) : rid a ∧ rid b := f.rd a b fun e => by rw [e, bit_zero] at h; cases h
theorem wrong_rid {a b : Nat} (h : wrongN a b = 0) : rid a ∧ rid b ∧ a ≠ b := by
  unfold wrongN at h
  split at h
  · rename_i hr
    rw [rightId_iff, rightId_iff] at hr
    split at h
    · cases h
    · exact ⟨hr.1, hr.2, by assumption⟩
  · cases h
def tabAct : List (FuncId × Abs.Spec) := [(32, fhasO), (33, befO), (44, fendO), (35, fputO), (32, fhasN)]
theorem tabAct_good : ∀ p ∈ tabAct, SpecGood Try.prog p := by simp [tabAct, fhasO_good, befO_good, fendO_good, fputO_good, fhasN_good]
/-! ### Are -/
def areO : Abs.Spec := fun args h k => ∃ (D : Nat → Prop) (v : Value) (N : Nat) (F : Fn) (a b : Nat), args = [v, .int .u32 (a : Int), .int .u32 (b : Int)] ∧ GrV D h v N F ∧ k (.bool (bit (F a b) 2)) h
theorem areO_good : SpecGood Try.prog (20, areO) := by
  refine spec_good mixed Try.func20 (by kernel_rfl) (by kernel_rfl) (tab := tabAct) tabAct_good (keep := fr_Are_keep) ?_
  rintro args h k ⟨D, v, N, F, a, b, rfl, s, H⟩
  refine ⟨0, ?_⟩
  show fr_Are (tabC _) idG 0 v (.int .u32 (a : Int)) (.int .u32 (b : Int)) h _
  rw [fr_Are_eq]
  rcases s with s | ⟨rfl, rfl⟩
  · exact cK (S := fhasO) (by simp [tabAct]) ⟨D, v, N, F, a, b, 2, rfl, by omega, s, h, St.le.refl _, H⟩
  · rw [bit_zero] at H
    exact cK (S := fhasN) (by simp [tabAct]) ⟨_, _, _, rfl, h, St.le.refl _, H⟩
def act2O (f : Fn → Nat → Nat → Fn × Bool × Nat) : Abs.Spec := fun args h k => ∃ (D : Nat → Prop) (v : Value) (N : Nat) (F : Fn) (a b : Nat), args = [v, .int .u32 (a : Int), .int .u32 (b : Int)] ∧ N ≤ 255 ∧ GrS D h v N F ∧
  ∀ h', ChgP (fun i => D i ∨ h.next ≤ i) h h' → GrS D h' v (N + 2) (f F a b).1 → k (.tuple #[.bool (f F a b).2.1, .int .i64 ((f F a b).2.2 : Int)]) h'
def tabAsk : List (FuncId × Abs.Spec) := [(32, fhasO), (33, befO), (44, fendO), (35, fputO), (31, fwrongO), (34, ffullO), (38, flinksO)]
theorem tabAsk_good : ∀ p ∈ tabAsk, SpecGood Try.prog p := by simp [tabAsk, fhasO_good, befO_good, fendO_good, fputO_good, fwrongO_good, ffullO_good, flinksO_good]
theorem isNil_g {v : Value} (g : grV v) : binNil .eql .ptr v (.pointer none) = some (.bool false) := by
  obtain ⟨g, rfl⟩ := g; rfl
theorem GrS.ptr {D : Nat → Prop} {h : St} {v : Value} {N : Nat} {F : Fn} (s : GrS D h v N F) : grV v := by
  obtain ⟨g, m, e, _⟩ := s; exact ⟨g, e⟩
theorem askO_good : SpecGood Try.prog (19, act2O fAsk) := by
  refine spec_good mixed Try.func19 (by kernel_rfl) (by kernel_rfl) (tab := tabAsk) tabAsk_good (keep := fr_Ask_keep) ?_
  rintro args h k ⟨D, v, N, F, a, b, rfl, hN, s, H⟩
  refine ⟨0, ?_⟩
  show fr_Ask (tabC _) idG 0 v (.int .u32 (a : Int)) (.int .u32 (b : Int)) h _
  rw [fr_Ask_eq, isNil_g s.ptr]
  simp only [bindV_some, condK_bool, Bool.false_eq_true, if_false, idG_eq]
  refine cK (S := fwrongO) (by simp [tabAsk]) ⟨a, b, rfl, ?_⟩
  have st : ∀ h1, Chg h h1 [] → GrS D h1 v (N + 2) F := fun h1 c => (s.chg0 c).more (by omega)
  have ch : ∀ h1, Chg h h1 [] → ChgP (fun i => D i ∨ h.next ≤ i) h h1 := fun h1 c => c.nil _
  unfold fAsk at H
  by_cases w : wrongN a b ≠ 0
  · rw [if_pos w] at H
    have w' : decide ((wrongN a b : Int) ≠ 0) = true := decide_eq_true (by omega)
    simp only [binNil_int, binV_neq, bindV_some, w', condK_bool, if_true]
    exact ⟨h, St.le.refl _, H h (ChgP.refl _ _) (st h (Chg.refl _ _))⟩
  rw [if_neg w] at H
  have w' : decide ((wrongN a b : Int) ≠ 0) = false := decide_eq_false (by omega)
  simp only [binNil_int, binV_neq, bindV_some, w', condK_bool, Bool.false_eq_true, if_false, idG_eq]
  obtain ⟨ra, rb, ab⟩ := wrong_rid (show wrongN a b = 0 by omega)
  refine cK (S := fhasO) (by simp [tabAsk]) ⟨D, v, N, F, a, b, 4, rfl, by omega, s, ?_⟩
  have blk : ∀ x : Value, bit (F a b) 4 = true ∨ bit (F b a) 4 = true → ∃ h2, St.le h2 h ∧ k (.tuple #[.bool false, .int .i64 17]) h2 := fun x e => by
    rw [if_pos e] at H
    exact ⟨h, St.le.refl _, H h (ChgP.refl _ _) (st h (Chg.refl _ _))⟩
  cases e1 : bit (F a b) 4 with
  | true =>
    simp only [bindV_some, groupK_eq, guardK_bool, if_true, Bool.true_eq_false, if_false, idG_eq, pickV_bool, condK_bool]
    exact blk undef (.inl e1)
  | false =>
  simp only [bindV_some, groupK_eq, guardK_bool, if_true, Bool.false_eq_true, if_false, idG_eq, pickV_bool, condK_bool]
  refine cK (S := fhasO) (by simp [tabAsk]) ⟨D, v, N, F, b, a, 4, rfl, by omega, s, ?_⟩
  cases e2 : bit (F b a) 4 with
  | true =>
    simp only [getT, bindV_some, groupK_eq, guardK_bool, if_true, Bool.false_eq_true, if_false, idG_eq, pickV_bool, condK_bool]
    exact blk undef (.inr e2)
  | false =>
  rw [e1, e2, if_neg (by simp)] at H
  simp only [getT, bindV_some, groupK_eq, guardK_bool, if_true, Bool.false_eq_true, if_false, idG_eq, pickV_bool, condK_bool]
  refine cK (S := fhasO) (by simp [tabAsk]) ⟨D, v, N, F, a, b, 3, rfl, by omega, s, ?_⟩
  cases e3 : bit (F a b) 3 with
  | true =>
    rw [e3, if_pos rfl] at H
    simp only [condK_bool, if_true]
    exact ⟨h, St.le.refl _, H h (ChgP.refl _ _) (st h (Chg.refl _ _))⟩
  | false =>
  rw [e3, if_neg (by simp)] at H
  simp only [condK_bool, Bool.false_eq_true, if_false]
  refine cK (S := fhasO) (by simp [tabAsk]) ⟨D, v, N, F, b, a, 1, rfl, by omega, s, ?_⟩
  cases e4 : bit (F b a) 1 with
  | true =>
    rw [e4, if_pos rfl] at H
    simp only [condK_bool, if_true]
    refine cK (S := befO) (by simp [tabAsk]) ⟨D, v, N, F, a, b, rfl, ra, rb, s, fun h1 c1 s1 => ?_⟩
    exact ⟨h1, St.le.refl _, H h1 c1 s1⟩
  | false =>
  rw [e4, if_neg (by simp)] at H
  simp only [condK_bool, Bool.false_eq_true, if_false]
  refine cK (S := ffullO) (by simp [tabAsk]) ⟨D, v, N, F, a, rfl, hN, .inl s, fun h1 c1 => ?_⟩
  by_cases f1 : 16 ≤ cnt F a
  · rw [if_pos (.inl f1)] at H
    simp only [decide_eq_true f1, groupK_eq, guardK_bool, Bool.true_eq_false, if_false, idG_eq, pickV_bool, if_true, bindV_some, condK_bool]
    exact ⟨h1, St.le.refl _, H h1 (ch h1 c1) (st h1 c1)⟩
  simp only [decide_eq_false f1, groupK_eq, guardK_bool, if_true, idG_eq, pickV_bool, Bool.false_eq_true, if_false, bindV_some, condK_bool]
  refine cK (S := ffullO) (by simp [tabAsk]) ⟨D, v, N, F, b, rfl, hN, .inl (s.chg0 c1), fun h2 c2 => ?_⟩
  have c02 := c1.seq c2
  by_cases f2 : 16 ≤ cnt F b
  · rw [if_pos (.inr f2)] at H
    simp only [decide_eq_true f2, decide_eq_false f1, getT, pickV_bool, Bool.false_eq_true, if_false, if_true, bindV_some, condK_bool]
    exact ⟨h2, St.le.refl _, H h2 (ch h2 c02) (st h2 c02)⟩
  rw [if_neg (by omega)] at H
  simp only [decide_eq_false f2, decide_eq_false f1, getT, pickV_bool, Bool.false_eq_true, if_false, bindV_some, condK_bool, idG_eq]
  refine cK (S := fputO) (by simp [tabAsk]) ⟨D, v, N, F, a, b, 1, rfl, by omega, ra, rb, s.chg0 c02, fun h3 c3 s3 => ?_⟩
  refine ⟨h3, St.le.refl _, H h3 ((ch h2 c02).out c3.outw) (s3.more (by omega))⟩
end Go.Proofs.Ytlohiobliagaoaa

/- A board's audience: walked. -/
set_option linter.unusedSimpArgs false
set_option linter.unusedVariables false
set_option maxHeartbeats 4000000
namespace Go.Proofs.Ytlohiobliagaoaa
open Go.Abs Go.IntWalk
attribute [local congr] bindV_weak condK_weak guardK_weak groupK_weak allocE_weak boxE_weak storeE_weak storeM_weak tabC_weak ite_weak idG_weak appendE_weak buildSliceE_weak mapUpdateE_weak deleteE_weak makeMapE_weak copyE_weak clearE_weak callE_weak mapEntryE_weak entryStoreE_weak rangeE_weak nextE_weak

/-! ### rows that came in -/
abbrev Pr := Nat × Nat
def cellsP (x : Pr) : List Value := [.int .u32 (x.1 : Int), .int .u32 (x.2 : Int)]
def rowP (l : List Pr) (i : Nat) : List Value := cellsP (l[i]?.getD (0, 0))
def Prs (h : St) (v : Value) (l : List Pr) : Prop := SliceAt (· < h.next) h v l.length 2 (rowP l)
theorem pr_at {h0 : St} {v : Value} {l : List Pr} (s : Prs h0 v l) {i : Nat} (hi : i < l.length) :
    ∃ b o, idxS 2 v (.int .i64 (i : Int)) = some (.pointer (some ⟨b, o, none⟩)) ∧ ∀ h, Chg h0 h [] → loadV false 1 (.pointer (some ⟨b, o, none⟩)) h = some (.int .u32 (l[i].1 : Int)) ∧ loadV false 1 (.pointer (some ⟨b, o + 1, none⟩)) h = some (.int .u32 (l[i].2 : Int)) := by
  obtain ⟨b, o, g1, g2, g3, cs, own, g4, g5⟩ := s.idx (i := (i : Int)) (by omega) (by omega) .i64
  have e : rowP l (i : Int).toNat = cellsP l[i] := by simp [rowP, hi]
  rw [e] at g5
  refine ⟨b, o, g1, fun h c => ?_⟩
  have g := c.at0 g3 g4
  have e0 : cs[o]? = some (.int .u32 (l[i].1 : Int)) := row_cell g5 0 (by omega)
  have e1 : cs[o + 1]? = some (.int .u32 (l[i].2 : Int)) := row_cell g5 1 (by omega)
  refine ⟨?_, ?_⟩
  · simp only [loadV_ptr, g, loadM_cells, partV_one, e0]
  · simp only [loadV_ptr, g, loadM_cells, partV_one, e1]
def rowN (l : List Nat) (i : Nat) : List Value := [.int .u32 ((l[i]?.getD 0 : Nat) : Int)]
def Nms (h : St) (v : Value) (l : List Nat) : Prop := SliceAt (· < h.next) h v l.length 1 (rowN l)
theorem Nms.chg0 {h h' : St} {v : Value} {l : List Nat} (s : Nms h v l) (c : Chg h h' []) : Nms h' v l := (SliceAt.chg s c (by simp)).imp fun i _ hi => Nat.lt_of_lt_of_le hi c.1
theorem nm_at {h0 : St} {v : Value} {l : List Nat} (s : Nms h0 v l) {i : Nat} (hi : i < l.length) :
    ∃ b o, idxS 1 v (.int .i64 (i : Int)) = some (.pointer (some ⟨b, o, none⟩)) ∧ ∀ h, Chg h0 h [] → loadV false 1 (.pointer (some ⟨b, o, none⟩)) h = some (.int .u32 (l[i] : Int)) := by
  obtain ⟨b, o, g1, g2, g3, cs, own, g4, g5⟩ := s.idx (i := (i : Int)) (by omega) (by omega) .i64
  have e : rowN l (i : Int).toNat = [.int .u32 (l[i] : Int)] := by simp [rowN, hi]
  rw [e] at g5
  refine ⟨b, o, g1, fun h c => ?_⟩
  have g := c.at0 g3 g4
  have e0 : cs[o]? = some (.int .u32 (l[i] : Int)) := row_cell g5 0 (by omega)
  simp only [loadV_ptr, g, loadM_cells, partV_one, e0]
/-! ### is it among them? -/
def sindexO : Abs.Spec := fun args h k => ∃ (v : Value) (l : List Nat) (x : Nat), args = [v, .int .u32 (x : Int)] ∧ l.length ≤ 100000 ∧ Nms h v l ∧ ∀ r : Int, (0 ≤ r ↔ x ∈ l) → k (.int .i64 r) h
theorem sindex_l0 {nn : Nat} {v x4 : Value} {l : List Nat} {x : Nat} {h : St} {k : Cont} (few : l.length ≤ 100000) (s : Nms h v l) (H : ∀ r : Int, (0 ≤ r ↔ x ∈ l) → k (.int .i64 r) h) :
    ∀ (d i m0 : Nat), i + d = l.length → d < m0 → x ∉ l.take i →
      s_Index_l0 (tabC []) idG nn m0 v (.int .u32 (x : Int)) x4 (.int .i64 (l.length : Int)) (.int .i64 (i : Int)) h (fun v h1 => ∃ h2, St.le h2 h1 ∧ k v h2) := by
  intro d
  induction d with
  | zero =>
    intro i m0 hi hm no
    obtain ⟨m0, rfl⟩ : ∃ m, m0 = m + 1 := ⟨m0 - 1, by omega⟩
    rw [s_Index_l0_eq]
    have e' : i = l.length := by omega
    subst e'
    rw [List.take_length] at no
    simp only [bindV_some, binV_lss, condK_bool, Int.lt_irrefl, decide_false, Bool.false_eq_true, if_false, idG_eq]
    rw [s_Index_j1_eq]
    exact ⟨h, St.le.refl _, H (-1) ⟨fun h => absurd h (by decide), fun h => absurd h no⟩⟩
  | succ d ih =>
    intro i m0 hi hm no
    obtain ⟨m0, rfl⟩ : ∃ m, m0 = m + 1 := ⟨m0 - 1, by omega⟩
    rw [s_Index_l0_eq]
    have hlt : (i : Int) < l.length := by omega
    have inc : IntKind.i64.wrap ((i : Int) + 1) = ((i + 1 : Nat) : Int) := by rw [i64_in _ (by omega)]; omega
    obtain ⟨b, o, g1, g2⟩ := nm_at s (show i < l.length by omega)
    simp only [bindV_some, binV_lss, condK_bool, hlt, decide_true, if_true, idG_eq, g1, g2 h (Chg.refl _ _), eqN, decide_eq_true_eq]
    by_cases e : x = l[i]
    · rw [if_pos e]
      exact ⟨h, St.le.refl _, H i ⟨fun _ => by rw [e]; exact List.getElem_mem _, fun _ => by omega⟩⟩
    · rw [if_neg e]
      simp only [binNil_int, binV_add, bindV_some, inc, idG_eq]
      refine ih (i + 1) m0 (by omega) (by omega) ?_
      rw [List.take_succ_eq_append_getElem (by omega), List.mem_append]
      simp only [List.mem_singleton]
      exact fun hh => hh.elim no e
theorem sindexO_good : SpecGood Try.prog (49, sindexO) := by
  refine spec_good mixed Try.func49 (by kernel_rfl) (by kernel_rfl) (tab := []) (by simp) (keep := s_Index_keep) ?_
  rintro args h k ⟨v, l, x, rfl, few, s, H⟩
  refine ⟨l.length + 1, ?_⟩
  show s_Index (tabC _) idG _ v (.int .u32 (x : Int)) h _
  rw [s_Index_eq]
  simp only [SliceAt.len s, bindV_some, idG_eq]
  exact sindex_l0 few s H l.length 0 _ (by omega) (by omega) (by simp)
def scontO : Abs.Spec := fun args h k => ∃ (v : Value) (l : List Nat) (x : Nat), args = [v, .int .u32 (x : Int)] ∧ l.length ≤ 100000 ∧ Nms h v l ∧ k (.bool (decide (x ∈ l))) h
theorem scontO_good : SpecGood Try.prog (39, scontO) := by
  refine spec_good mixed Try.func39 (by kernel_rfl) (by kernel_rfl) (tab := [(49, sindexO)]) (by simp [sindexO_good]) (keep := s_Contains_keep) ?_
  rintro args h k ⟨v, l, x, rfl, few, s, H⟩
  refine ⟨0, ?_⟩
  show s_Contains (tabC _) idG _ v (.int .u32 (x : Int)) h _
  rw [s_Contains_eq]
  refine cK (S := sindexO) (by simp) ⟨v, l, x, rfl, few, s, fun r hr => ?_⟩
  have e : decide (r ≥ 0) = decide (x ∈ l) := decide_eq_decide.2 hr
  simp only [binNil_int, binV_geq, bindV_some, e]
  exact ⟨h, St.le.refl _, H⟩
/-! ### the audience -/
theorem fieldA {s1 s2 s3 s4 : Value} (h : s1.cells = #[s1]) : fieldV 0 1 false (agg4 s1 s2 s3 s4) = some s1 := rfl
noncomputable def audL (F : Fn) (a : Nat) (l : List Nat) : List Nat := (tos F 2 a).filter fun x => decide (x ∈ l)
def baudO : Abs.Spec := fun args h k => ∃ (D : Nat → Prop) (g : Value) (N : Nat) (F : Fn) (a : Nat) (v : Value) (l : List Nat), args = [g, .int .u32 (a : Int), v] ∧ N ≤ 255 ∧ l.length ≤ 100000 ∧ GrV D h g N F ∧ Nms h v l ∧
  ∀ h' sv, Chg h h' [] → OwnQ (fun i => h.next ≤ i) h' sv (audL F a l) → (audL F a l).length ≤ 255 → k sv h'
def tabAu : List (FuncId × Abs.Spec) := [(38, flinksO), (39, scontO)]
theorem tabAu_good : ∀ p ∈ tabAu, SpecGood Try.prog p := by simp [tabAu, flinksO_good, scontO_good]
theorem baud_l0 {nn : Nat} {v x6 s1 : Value} {B : Nat → Prop} {T l : List Nat} {h0 : St} {k : Cont} (few : l.length ≤ 100000) (fewT : T.length ≤ 255) (s : Nms h0 v l) (q : OwnQ B h0 s1 T)
    (H : ∀ h' sv, Chg h0 h' [] → OwnQ (fun i => h0.next ≤ i) h' sv (T.filter fun x => decide (x ∈ l)) → k sv h') :
    ∀ (d i m0 : Nat) (h : St) (out : Value), i + d = T.length → d < m0 → Chg h0 h [] → OwnQ (fun i => h0.next ≤ i) h out ((T.take i).filter fun x => decide (x ∈ l)) →
      b_Audience_l0 (tabC tabAu) idG nn m0 v x6 out s1 (.int .i64 (T.length : Int)) (.int .i64 (i : Int)) h (fun v h1 => ∃ h2, St.le h2 h1 ∧ k v h2) := by
  intro d
  induction d with
  | zero =>
    intro i m0 h out hi hm c o
    obtain ⟨m0, rfl⟩ : ∃ m, m0 = m + 1 := ⟨m0 - 1, by omega⟩
    rw [b_Audience_l0_eq]
    have e' : i = T.length := by omega
    subst e'
    rw [List.take_length] at o
    simp only [bindV_some, binV_lss, condK_bool, Int.lt_irrefl, decide_false, Bool.false_eq_true, if_false, idG_eq]
    rw [b_Audience_j2_eq]
    exact ⟨h, St.le.refl _, H h out c o⟩
  | succ d ih =>
    intro i m0 h out hi hm c o
    obtain ⟨m0, rfl⟩ : ∃ m, m0 = m + 1 := ⟨m0 - 1, by omega⟩
    rw [b_Audience_l0_eq]
    have hlt : (i : Int) < T.length := by omega
    have inc : IntKind.i64.wrap ((i : Int) + 1) = ((i + 1 : Nat) : Int) := by rw [i64_in _ (by omega)]; omega
    obtain ⟨b, oo, g1, g2⟩ := own_rowq q (show i < T.length by omega) .i64
    have tak : T.take (i + 1) = T.take i ++ [T[i]] := List.take_succ_eq_append_getElem (by omega)
    obtain ⟨x, ex⟩ : ∃ x, x = T[i] := ⟨_, rfl⟩
    rw [← ex] at g2 tak
    have g2 : loadV false 1 (.pointer (some ⟨b, oo, none⟩)) h = some (.int .u32 (x : Int)) := g2 h c
    have lT : ((T.take i).filter fun x => decide (x ∈ l)).length ≤ 255 := by
      have h1 := List.length_filter_le (fun x => decide (x ∈ l)) (T.take i)
      rw [List.length_take] at h1; omega
    simp only [bindV_some, binV_lss, condK_bool, hlt, decide_true, if_true, idG_eq, g1, g2]
    refine cK (S := scontO) (by simp [tabAu]) ⟨v, l, x, rfl, few, s.chg0 c, ?_⟩
    cases e : decide (x ∈ l) with
    | true =>
      simp only [condK_bool, if_true]
      refine push_q (x := x) c.1 o (by omega) fun h1 out1 c1 o1 => ?_
      have c01 := fresh_out c c1
      simp only [idG_eq]
      rw [b_Audience_j1_eq]
      simp only [binNil_int, binV_add, bindV_some, inc, idG_eq]
      refine ih (i + 1) m0 h1 out1 (by omega) (by omega) c01 ?_
      rw [tak, List.filter_append, List.filter_cons_of_pos (by exact e)]
      exact o1
    | false =>
      simp only [condK_bool, Bool.false_eq_true, if_false, idG_eq]
      rw [b_Audience_j1_eq]
      simp only [binNil_int, binV_add, bindV_some, inc, idG_eq]
      refine ih (i + 1) m0 h out (by omega) (by omega) c ?_
      rw [tak, List.filter_append, List.filter_cons_of_neg (by rw [e]; simp), List.filter_nil, List.append_nil]
      exact o
theorem baudO_good : SpecGood Try.prog (22, baudO) := by
  refine spec_good mixed Try.func22 (by kernel_rfl) (by kernel_rfl) (tab := tabAu) tabAu_good (keep := b_Audience_keep) ?_
  rintro args h k ⟨D, g, N, F, a, v, l, rfl, hN, few, s, nm, H⟩
  refine ⟨256, ?_⟩
  show b_Audience (tabC _) idG _ g (.int .u32 (a : Int)) v h _
  rw [b_Audience_eq]
  refine cK (S := flinksO) (by simp [tabAu]) ⟨D, g, N, F, a, rfl, hN, s, fun h1 s1 s2 s3 s4 c1 ⟨n1, nn, q1, q2, q3, q4, l1, l2, l3, l4⟩ => ?_⟩
  simp only [fieldA (OwnS.cells1 q1), bindV_some, OwnS.len q1, idG_eq]
  have m1 := c1.1
  refine baud_l0 few l1 (nm.chg0 c1) q1 (fun h2 sv c2 o2 => ?_) (tos F 2 a).length 0 _ h1 _ (by omega) (by omega) (Chg.refl _ _) (.inl ⟨rfl, rfl, rfl⟩)
  exact H h2 sv (c1.seq c2) (OwnS.imp o2 fun j _ hj => by omega) (Nat.le_trans (List.length_filter_le ..) l1)
/-- The document's audience. -/
theorem audL_eq {F : Fn} (f : FOk F) (a : Nat) (l : List Nat) : audL F a l = ups fun x => decide (x ∈ l.filter fun y => bit (F a y) 2) := by
  refine ups_eq ((ups_rise _).filter _) fun x => ?_
  unfold audL tos
  rw [List.mem_filter, ups_mem]
  simp only [decide_eq_true_eq, List.mem_filter]
  exact ⟨fun h => ⟨h.1.1, h.2, h.1.2⟩, fun h => ⟨⟨h.1, h.2.2⟩, h.2.1⟩⟩
theorem audL_none (a : Nat) (l : List Nat) : audL (fun _ _ => 0) a l = [] := by
  unfold audL tos
  rw [show (fun y : Nat => bit 0 2) = fun _ => false from funext fun _ => bit_zero 2, ups_none]; rfl
/-! ### the law -/
theorem outD {n0 : Nat} {h0 h h' : St} (e : n0 = h0.next) (c : Chg h0 h []) (d : ChgP (fun j => n0 ≤ j) h h') : Chg h0 h' [] :=
  ((c.nil (fun j => n0 ≤ j)).step d).list fun j h1 h2 => by omega
def tabLw : List (FuncId × Abs.Spec) := [(18, fnewO), (19, act2O fAsk), (20, areO), (21, hputO), (24, hidsO), (23, sameO), (22, baudO), (17, awakeO)]
theorem tabLw_good : ∀ p ∈ tabLw, SpecGood Try.prog p := by simp [tabLw, fnewO_good, askO_good, areO_good, hputO_good, hidsO_good, sameO_good, baudO_good, awakeO_good]
theorem aud_j4 {nn p a N : Nat} {x0 x6 x8 x10 v g lv : Value} {D E : Nat → Prop} {F : Fn} {l R : List Nat} {h : St} {k : Cont} (hN : N ≤ 255) (few : l.length ≤ 40) (gs : GrS D h g N F) (nm : Nms h v l) (pn : p < h.next) (op : h.objs p = some (.cells [lv, .int .i64 ((40 : Nat) : Int)] true)) (j : JtS E h lv R)
    (mem : ∀ x, x ∈ R ↔ x ∈ l.filter fun y => bit (F a y) 2) (rl : R.length ≤ 40) (H : ∀ h', k (.bool true) h') :
    w_Aud_j4 (tabC tabLw) idG nn x0 (.int .u32 (a : Int)) v x6 g x8 (.pointer (some ⟨p, 0, none⟩)) x10 h (fun v h1 => ∃ h2, St.le h2 h1 ∧ k v h2) := by
  rw [w_Aud_j4_eq]
  have f := gs.ok
  refine cK (S := baudO) (by simp [tabLw]) ⟨D, g, N, F, a, v, l, rfl, hN, by omega, .inl gs, nm, fun h1 sv c1 o1 l1 => ?_⟩
  have j1 := j.chg0 c1
  simp only [boxJ_load j1 (c1.at0 pn op)]
  simp only [bindV_some]
  refine cK (S := hidsO) (by simp [tabLw]) ⟨_, lv, 40, R, audL F a l, rfl, by omega, by omega, (ups_rise _).filter _, fun q => ?_, fun q hq => ?_, j1, fun h2 sw c2 o2 => ?_⟩
  · rw [mem, audL_eq f, ups_mem]
    simp only [decide_eq_true_eq]
    refine ⟨fun h => h.2, fun h => ⟨?_, h⟩⟩
    have := (f.rd a q fun e => by rw [List.mem_filter, e, bit_zero] at h; simp at h).2.2
    rw [topId_eq]; omega
  · rw [audL_eq f, ups_mem] at hq
    simp only [decide_eq_true_eq] at hq
    exact (f.rd a q fun e => by rw [List.mem_filter, e, bit_zero] at hq; simp at hq).2.1
  have o1' : OwnQ (fun i => h.next ≤ i) h2 sv (audL F a l) := OwnS.chg o1 c2 (by simp)
  refine cK (S := sameO) (by simp [tabLw]) (same_q (by omega) o1' o2 ?_)
  have nm2 := nm.chg0 (c1.seq c2)
  simp only [groupK_eq, guardK_bool, if_true]
  refine cK (S := baudO) (by simp [tabLw]) ⟨D, .pointer none, 0, fun _ _ => 0, a, v, l, rfl, by omega, by omega, .inr ⟨rfl, rfl⟩, nm2, fun h3 sn c3 o3 l3 => ?_⟩
  rw [audL_none] at o3
  have z0 : binNil .eql .other (.int .i64 (([] : List Nat).length : Int)) (.int .i64 0) = some (.bool true) := rfl
  simp only [OwnS.len o3, z0, bindV_some, idG_eq, getT, pickV_bool, if_true, groupK_eq, guardK_bool]
  refine cK (S := awakeO) (by simp [tabLw]) ⟨rfl, fun h' c' => ?_⟩
  simp only [getT, idG_eq, pickV_bool, if_true, bindV_some]
  exact ⟨h', St.le.refl _, H h'⟩
theorem aud_l2 {nn p a N n1 : Nat} {x0 x6 x8 v g : Value} {F : Fn} {l : List Nat} {h0 : St} {k : Cont} (hN : N ≤ 255) (few : l.length ≤ 40) (nm : Nms h0 v l) (pn : n1 ≤ p) (n01 : h0.next ≤ n1) (H : ∀ h', k (.bool true) h') :
    ∀ (d i m0 : Nat) (h : St) (lv : Value) (R : List Nat), i + d = l.length → d < m0 → Chg h0 h [] → GrS (fun j => h0.next ≤ j ∧ j < n1) h g N F → p < h.next → h.objs p = some (.cells [lv, .int .i64 ((40 : Nat) : Int)] true) → JtS (fun j => h0.next ≤ j ∧ j ≠ p) h lv R → (∀ x, x ∈ R ↔ x ∈ (l.take i).filter fun y => bit (F a y) 2) → R.length ≤ i →
      w_Aud_l2 (tabC tabLw) idG nn m0 x0 (.int .u32 (a : Int)) v x6 g x8 (.pointer (some ⟨p, 0, none⟩)) (.int .i64 (i : Int)) h (fun v h1 => ∃ h2, St.le h2 h1 ∧ k v h2) := by
  intro d
  induction d with
  | zero =>
    intro i m0 h lv R hi hm c gs ph op j mem rl
    obtain ⟨m0, rfl⟩ : ∃ m, m0 = m + 1 := ⟨m0 - 1, by omega⟩
    rw [w_Aud_l2_eq]
    have e' : i = l.length := by omega
    subst e'
    rw [List.take_length] at mem
    simp only [SliceAt.len nm, bindV_some, binV_lss, condK_bool, Int.lt_irrefl, decide_false, Bool.false_eq_true, if_false, idG_eq]
    exact aud_j4 hN few gs (nm.chg0 c) ph op j mem (by omega) H
  | succ d ih =>
    intro i m0 h lv R hi hm c gs ph op j mem rl
    obtain ⟨m0, rfl⟩ : ∃ m, m0 = m + 1 := ⟨m0 - 1, by omega⟩
    rw [w_Aud_l2_eq]
    have hlt : (i : Int) < l.length := by omega
    have inc : IntKind.i64.wrap ((i : Int) + 1) = ((i + 1 : Nat) : Int) := by rw [i64_in _ (by omega)]; omega
    obtain ⟨b, oo, g1, g2⟩ := nm_at nm (show i < l.length by omega)
    have tak : l.take (i + 1) = l.take i ++ [l[i]] := List.take_succ_eq_append_getElem (by omega)
    obtain ⟨x, ex⟩ : ∃ x, x = l[i] := ⟨_, rfl⟩
    rw [← ex] at g2 tak
    simp only [SliceAt.len nm, bindV_some, binV_lss, condK_bool, hlt, decide_true, if_true, idG_eq, g1, g2 h c]
    refine cK (S := areO) (by simp [tabLw]) ⟨_, g, N, F, a, x, rfl, .inl gs, ?_⟩
    cases e : bit (F a x) 2 with
    | false =>
      simp only [condK_bool, Bool.false_eq_true, if_false, idG_eq]
      rw [w_Aud_j3_eq]
      simp only [binNil_int, binV_add, bindV_some, inc, idG_eq]
      refine ih (i + 1) m0 h lv R (by omega) (by omega) c gs ph op j (fun y => ?_) (by omega)
      rw [tak, List.filter_append, List.filter_cons_of_neg (by rw [e]; simp), List.filter_nil, List.append_nil]
      exact mem y
    | true =>
      have rx : rid x := (gs.ok.rd a x fun e' => by rw [e', bit_zero] at e; cases e).2
      simp only [condK_bool, if_true]
      rw [boxJ_load j op]
      simp only [bindV_some]
      refine ⟨trivial, ?_⟩
      simp only [g1, g2 h c, bindV_some]
      refine ⟨trivial, ?_⟩
      refine cK (S := hputO) (by simp [tabLw]) ⟨_, lv, 40, R, x, rfl, rightId_iff.2 rx, by omega, by omega, j, fun h1 lv1 c1 j1 => ⟨⟨trivial, trivial, trivial⟩, ?_⟩⟩
      simp only [extV_two0, extV_two1, bindV_some]
      have m1 := c1.1
      have m0' := c.1
      have z1 := j1.one
      refine storeE_all (c1.at0 ph op) rfl rfl (by show allOne [lv1, _] = true; simp only [allOne, z1, Bool.true_and]; rfl) fun h2 c2 n2 o2 => ⟨⟨trivial, trivial, trivial⟩, ?_⟩
      simp only [idG_eq]
      rw [w_Aud_j3_eq]
      simp only [binNil_int, binV_add, bindV_some, inc, idG_eq]
      refine ih (i + 1) m0 h2 lv1 (dropR R x ++ [x]) (by omega) (by omega) ((c.seq c1).new c2 (by omega)) ((gs.chg0 c1).chg c2 (by simp; omega)) (by omega) o2 ?_ (fun y => ?_) ?_
      · exact OwnS.imp (OwnS.chg j1 c2 (by simp; omega)) fun q _ hq => ⟨by omega, by omega⟩
      · rw [tak, List.filter_append, List.filter_cons_of_pos (by exact e), List.filter_nil, List.mem_append, List.mem_append, ← mem]
        unfold dropR
        rw [List.mem_filter]
        simp only [List.mem_singleton, decide_eq_true_eq]
        by_cases e : y = x
        · simp [e]
        · simp [e]
      · have : (dropR R x).length ≤ R.length := List.length_filter_le ..
        simp; omega
theorem aud_j1 {nn a N n1 : Nat} {x0 x6 x8 x9 x10 v g : Value} {F : Fn} {l : List Nat} {h0 h : St} {k : Cont} (hN : N ≤ 255) (few : l.length ≤ 40) (hn : l.length < nn) (nm : Nms h0 v l) (n01 : h0.next ≤ n1) (n1h : n1 ≤ h.next) (c : Chg h0 h []) (gs : GrS (fun j => h0.next ≤ j ∧ j < n1) h g N F) (H : ∀ h', k (.bool true) h') :
    w_Aud_j1 (tabC tabLw) idG nn x0 (.int .u32 (a : Int)) v x6 g x8 x9 x10 h (fun v h1 => ∃ h2, St.le h2 h1 ∧ k v h2) := by
  rw [w_Aud_j1_eq]
  have bl : buildV [.slice none 0 0, .int .i64 0] (some [(1, 1, .int .i64 40)]) = some (encJ (.slice none 0 0) 40) := rfl
  simp only [bl, bindV_some]
  refine allocE_in fun h1 c1 n1' o1 => ?_
  refine storeE_all o1 rfl rfl rfl fun h2 c2 n2 o2 => ?_
  have o2 : h2.objs h.next = some (.cells [.slice none 0 0, .int .i64 ((40 : Nat) : Int)] true) := o2
  simp only [idG_eq]
  have m0 := c.1
  exact aud_l2 hN few nm n1h n01 H l.length 0 _ h2 _ [] (by omega) (by omega) (c.seq (c1.new c2 (Nat.le_refl _))) (gs.chg0 (c1.new c2 (Nat.le_refl _))) (by omega) o2 (.inl ⟨rfl, rfl, rfl⟩) (by simp) (by simp)
theorem aud_l0 {nn a n1 : Nat} {vp x6 x9 x10 v g : Value} {ps : List Pr} {l : List Nat} {h0 : St} {k : Cont} (fewp : ps.length ≤ 40) (few : l.length ≤ 40) (hn : l.length < nn) (sp : Prs h0 vp ps) (nm : Nms h0 v l) (n01 : h0.next ≤ n1) (H : ∀ h', k (.bool true) h') :
    ∀ (d i m0 : Nat) (h : St) (F : Fn), i + d = ps.length → d < m0 → Chg h0 h [] → n1 ≤ h.next → GrS (fun j => h0.next ≤ j ∧ j < n1) h g (4 * i) F →
      w_Aud_l0 (tabC tabLw) idG nn m0 vp (.int .u32 (a : Int)) v x6 g (.int .i64 (i : Int)) x9 x10 h (fun v h1 => ∃ h2, St.le h2 h1 ∧ k v h2) := by
  intro d
  induction d with
  | zero =>
    intro i m0 h F hi hm c n1h gs
    obtain ⟨m0, rfl⟩ : ∃ m, m0 = m + 1 := ⟨m0 - 1, by omega⟩
    rw [w_Aud_l0_eq]
    have e' : i = ps.length := by omega
    subst e'
    simp only [SliceAt.len sp, bindV_some, binV_lss, condK_bool, Int.lt_irrefl, decide_false, Bool.false_eq_true, if_false, idG_eq]
    exact aud_j1 (by omega) few hn nm n01 n1h c gs H
  | succ d ih =>
    intro i m0 h F hi hm c n1h gs
    obtain ⟨m0, rfl⟩ : ∃ m, m0 = m + 1 := ⟨m0 - 1, by omega⟩
    rw [w_Aud_l0_eq]
    have hlt : (i : Int) < ps.length := by omega
    have inc : IntKind.i64.wrap ((i : Int) + 1) = ((i + 1 : Nat) : Int) := by rw [i64_in _ (by omega)]; omega
    obtain ⟨b, oo, g1, g2⟩ := pr_at sp (show i < ps.length by omega)
    obtain ⟨⟨x, y⟩, ex⟩ : ∃ x, x = ps[i]'(by omega) := ⟨_, rfl⟩
    rw [← ex] at g2
    obtain ⟨f0, f1⟩ := g2 h c
    simp only [SliceAt.len sp, bindV_some, binV_lss, condK_bool, hlt, decide_true, if_true, idG_eq, g1, offV_ptr, Nat.add_zero, f0]
    refine ⟨trivial, ?_⟩
    simp only [g1, offV_ptr, bindV_some, f1]
    refine ⟨trivial, ?_⟩
    refine cK (S := act2O fAsk) (by simp [tabLw]) ⟨_, g, 4 * i, F, x, y, rfl, by omega, gs, fun h1 c1 gs1 => ⟨⟨trivial, trivial, trivial⟩, ?_⟩⟩
    have m0' := c.1
    have m1 := c1.1
    have c01 : Chg h0 h1 [] := outD rfl c (c1.mono fun j _ hj => by rcases hj with hj | hj <;> omega)
    obtain ⟨f0, f1⟩ := g2 h1 c01
    simp only [g1, offV_ptr, bindV_some, f1]
    refine ⟨trivial, ?_⟩
    simp only [g1, offV_ptr, bindV_some, Nat.add_zero, f0]
    refine ⟨trivial, ?_⟩
    refine cK (S := act2O fAsk) (by simp [tabLw]) ⟨_, g, 4 * i + 2, _, y, x, rfl, by omega, gs1, fun h2 c2 gs2 => ⟨⟨trivial, trivial, trivial⟩, ?_⟩⟩
    have m2 := c2.1
    have c02 : Chg h0 h2 [] := outD rfl c01 (c2.mono fun j _ hj => by rcases hj with hj | hj <;> omega)
    simp only [idG_eq, binNil_int, binV_add, bindV_some, inc]
    exact ih (i + 1) m0 h2 _ (by omega) (by omega) c02 (by omega) (gs2.more (by omega))
def audLawO : Abs.Spec := fun args h k => ∃ (vp v : Value) (ps : List Pr) (l : List Nat) (a : Nat), args = [vp, .int .u32 (a : Int), v] ∧ Prs h vp ps ∧ Nms h v l ∧ ∀ h', k (.bool true) h'
theorem audLawO_good : SpecGood Try.prog (6, audLawO) := by
  refine spec_good mixed Try.func6 (by kernel_rfl) (by kernel_rfl) (tab := tabLw) tabLw_good (keep := w_Aud_keep) ?_
  rintro args h k ⟨vp, v, ps, l, a, rfl, sp, nm, H⟩
  refine ⟨ps.length + l.length + 1, ?_⟩
  show w_Aud (tabC _) idG _ vp (.int .u32 (a : Int)) v h _
  rw [w_Aud_eq]
  have g40 : ∀ n : Nat, binNil .gtr .other (.int .i64 (n : Int)) (.int .i64 40) = some (.bool (decide (40 < n))) := fun n => by
    rw [binNil_int, binV_gtr, show decide ((n : Int) > 40) = decide (40 < n) from decide_eq_decide.2 (by omega)]
  simp only [SliceAt.len sp, g40, bindV_some]
  by_cases fewp : 40 < ps.length
  · simp only [decide_eq_true fewp, groupK_eq, guardK_bool, Bool.true_eq_false, if_false, idG_eq, pickV_bool, if_true, bindV_some, condK_bool]
    exact ⟨h, St.le.refl _, H h⟩
  simp only [decide_eq_false fewp, groupK_eq, guardK_bool, if_true, SliceAt.len nm, g40, bindV_some, idG_eq, pickV_bool, getT, Bool.false_eq_true, if_false, condK_bool, decide_eq_true_eq]
  by_cases few : 40 < l.length
  · rw [if_pos few]
    exact ⟨h, St.le.refl _, H h⟩
  rw [if_neg few]
  refine cK (S := fnewO) (by simp [tabLw]) ⟨rfl, fun h1 g c1 gv s1 => ?_⟩
  simp only [idG_eq]
  exact aud_l0 (by omega) (by omega) (by omega) sp nm c1.1 H ps.length 0 _ h1 _ (by omega) (by omega) c1 (Nat.le_refl _) (s1.imp fun i hi hj => ⟨hj, hi⟩)
end Go.Proofs.Ytlohiobliagaoaa
