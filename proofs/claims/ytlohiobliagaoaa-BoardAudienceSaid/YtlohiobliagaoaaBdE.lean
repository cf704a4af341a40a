/- A board: alike, what the example says, 'BoardHides', 'BoardKnows', 'BoardRuns', walked. -/
import Derived.Test.YtlohiobliagaoaaBdD
import Derived.Test.YtlohiobliagaoaaGenW
set_option linter.unusedSimpArgs false
set_option linter.unusedVariables false
set_option maxHeartbeats 4000000
namespace Go.Proofs.Ytlohiobliagaoaa
open Go.Abs Go.IntWalk
attribute [local congr] bindV_weak condK_weak guardK_weak groupK_weak allocE_weak boxE_weak storeE_weak storeM_weak tabC_weak ite_weak idG_weak appendE_weak buildSliceE_weak mapUpdateE_weak deleteE_weak makeMapE_weak copyE_weak clearE_weak callE_weak

/-! ### alike -/
theorem own_c {D : Nat → Prop} {h0 : St} {v : Value} {M : Md} {Ids : List Nat} (s : OwnS D h0 v 2 (Ids.flatMap (cellsC M)) Ids.length) {i : Nat} (hi : i < Ids.length) (k : IntKind) :
    ∃ b o, idxS 2 v (.int k i) = some (.pointer (some ⟨b, o, none⟩)) ∧ ∀ h, Chg h0 h [] → loadV false 1 (.pointer (some ⟨b, o, none⟩)) h = some (.int .u32 (Ids[i] : Int)) ∧ loadV false 1 (.pointer (some ⟨b, o + 1, none⟩)) h = some (.int .i64 (seenN (M Ids[i]).1 : Int)) ∧ loadV true 2 (.pointer (some ⟨b, o, none⟩)) h = some (.agg (cellsC M Ids[i]).toArray) := by
  obtain ⟨b, o, g1, g2, g3, cs, g4, g5⟩ := OwnS.row s (fun y _ => rfl) (List.getElem?_eq_getElem hi) k
  refine ⟨b, o, g1, fun h c => ?_⟩
  have e0 : cs[o]? = some (.int .u32 (Ids[i] : Int)) := row_cell g5 0 (by omega)
  have e1 : cs[o + 1]? = some (.int .i64 (seenN (M Ids[i]).1 : Int)) := row_cell g5 1 (by omega)
  have g := c.at0 g3 g4
  refine ⟨?_, ?_, ?_⟩
  · simp only [loadV_ptr, g, loadM_cells, partV_one, e0]
  · simp only [loadV_ptr, g, loadM_cells, partV_one, e1]
  · simp only [loadV_ptr, g, loadM_cells, partV_agg, g5, Option.map_some]
theorem own_v {D : Nat → Prop} {h0 : St} {v : Value} {f : Nat → Value} {Ids : List Nat} (s : OwnS D h0 v 1 (Ids.map f) Ids.length) {i : Nat} (hi : i < Ids.length) (k : IntKind) :
    ∃ b o, idxS 1 v (.int k i) = some (.pointer (some ⟨b, o, none⟩)) ∧ ∀ h, Chg h0 h [] → loadV false 1 (.pointer (some ⟨b, o, none⟩)) h = some (f Ids[i]) := by
  have s' : OwnS D h0 v 1 (Ids.flatMap fun x => [f x]) Ids.length := by
    have : (Ids.flatMap fun x => [f x]) = Ids.map f := by
      clear s hi
      induction Ids with
      | nil => rfl
      | cons x L ih => rw [List.flatMap_cons, ih, List.map_cons]; rfl
    rw [this]; exact s
  obtain ⟨b, o, g1, g2, g3, cs, g4, g5⟩ := s'.row (by simp) (List.getElem?_eq_getElem hi) k
  refine ⟨b, o, g1, fun h c => ?_⟩
  have := row_cell g5 0 (by omega)
  simp only [Nat.add_zero, List.getElem?_cons_zero] at this
  simp only [loadV_ptr, c.at0 g3 g4, loadM_cells, partV_one, this]
def blikeO : Abs.Spec := fun args h k => ∃ (E1 E2 E3 : Nat → Prop) (v w x : Value) (M : Md) (Ids : List Nat), args = [v, w, x] ∧ Ids.length ≤ 1000 ∧ OwnS E1 h v 2 (Ids.flatMap (cellsC M)) Ids.length ∧ OwnQ E2 h w Ids ∧ OwnS E3 h x 1 (Ids.map (seenV M)) Ids.length ∧ k (.bool true) h
theorem blike_l0 {nn : Nat} {v w x x6 : Value} {E1 E2 E3 : Nat → Prop} {M : Md} {Ids : List Nat} {h : St} {k : Cont} (few : Ids.length ≤ 1000) (s : OwnS E1 h v 2 (Ids.flatMap (cellsC M)) Ids.length) (q : OwnQ E2 h w Ids) (t : OwnS E3 h x 1 (Ids.map (seenV M)) Ids.length) (H : k (.bool true) h) :
    ∀ (d i m0 : Nat), i + d = Ids.length → d < m0 → w_like_l0 (tabC []) idG nn m0 v w x x6 (.int .i64 (i : Int)) h (fun v h1 => ∃ h2, St.le h2 h1 ∧ k v h2) := by
  intro d
  induction d with
  | zero =>
    intro i m0 hi hm
    obtain ⟨m0, rfl⟩ : ∃ m, m0 = m + 1 := ⟨m0 - 1, by omega⟩
    rw [w_like_l0_eq]
    have e' : i = Ids.length := by omega
    subst e'
    simp only [s.len, bindV_some, binV_lss, condK_bool, Int.lt_irrefl, decide_false, Bool.false_eq_true, if_false, idG_eq]
    rw [w_like_j1_eq]
    exact ⟨h, St.le.refl _, H⟩
  | succ d ih =>
    intro i m0 hi hm
    obtain ⟨m0, rfl⟩ : ∃ m, m0 = m + 1 := ⟨m0 - 1, by omega⟩
    rw [w_like_l0_eq]
    have hlt : (i : Int) < Ids.length := by omega
    have inc : IntKind.i64.wrap ((i : Int) + 1) = ((i + 1 : Nat) : Int) := by rw [i64_in _ (by omega)]; omega
    obtain ⟨b, o, g1, g2⟩ := own_c s (show i < Ids.length by omega) .i64
    obtain ⟨b', o', g1', g2'⟩ := own_rowq q (show i < Ids.length by omega) .i64
    obtain ⟨b2, o2, g12, g22⟩ := own_v t (show i < Ids.length by omega) .i64
    obtain ⟨f0, f1, _⟩ := g2 h (Chg.refl _ _)
    have ff := g2' h (Chg.refl _ _)
    have fs := g22 h (Chg.refl _ _)
    simp only [s.len, bindV_some, binV_lss, condK_bool, hlt, decide_true, if_true, idG_eq, g1, offV_ptr, Nat.add_zero, f0]
    refine ⟨trivial, ?_⟩
    simp only [g1', ff, idq, bindV_some]
    refine ⟨trivial, ?_⟩
    have n0 : ∀ (kk : IntKind) (a : Nat), binV .neq .other (.int kk (a : Int)) (.int kk (a : Int)) = some (.bool false) := fun kk a => by rw [neN]; simp
    simp only [n0, bindV_some, groupK_eq, guardK_bool, if_true, g1, offV_ptr, f1]
    refine ⟨trivial, ?_⟩
    simp only [g12, fs, seenV, bindV_some]
    refine ⟨trivial, ?_⟩
    simp only [n0, bindV_some, idG_eq, getT, pickV_bool, Bool.false_eq_true, if_false, condK_bool, binNil_int, binV_add, inc]
    exact ih (i + 1) m0 (by omega) (by omega)
theorem blikeO_good : SpecGood Try.prog (9, blikeO) := by
  refine spec_good mixed Try.func9 (by kernel_rfl) (by kernel_rfl) (tab := []) (by simp) (keep := w_like_keep) ?_
  rintro args h k ⟨E1, E2, E3, v, w, x, M, Ids, rfl, few, s, q, t, H⟩
  refine ⟨Ids.length + 1, ?_⟩
  show w_like (tabC _) idG _ v w x h _
  rw [w_like_eq]
  have n0 : binV .neq .other (.int .i64 (Ids.length : Int)) (.int .i64 (Ids.length : Int)) = some (.bool false) := by rw [neN]; simp
  simp only [s.len, OwnS.len q, bindV_some, n0, condK_bool, Bool.false_eq_true, if_false, idG_eq]
  exact blike_l0 few s q t H Ids.length 0 _ (by omega) (by omega)
/-! ### a board made in a law -/
structure BSt (n0 n1 : Nat) (h : St) (v : Value) (N : Nat) (M : Md) : Prop where
  b : BdS (fun j => n0 ≤ j ∧ j < n1) h v N M
  n : n1 ≤ h.next
  m : n0 ≤ n1
theorem BSt.chg0 {n0 n1 : Nat} {h h' : St} {v : Value} {N : Nat} {M : Md} (s : BSt n0 n1 h v N M) (c : Chg h h' []) : BSt n0 n1 h' v N M := ⟨s.b.chg0 c, Nat.le_trans s.n c.1, s.m⟩
theorem BSt.more {n0 n1 : Nat} {h : St} {v : Value} {N N' : Nat} {M : Md} (s : BSt n0 n1 h v N M) (hN : N ≤ N') : BSt n0 n1 h v N' M := ⟨s.b.more hN, s.n, s.m⟩
theorem bst_new {h0 h1 : St} {v : Value} (c : Chg h0 h1 []) (s : BdS (fun i => h0.next ≤ i) h1 v 0 fun _ => (0, 0)) : BSt h0.next h1.next h1 v 0 fun _ => (0, 0) := ⟨s.imp fun i h1 h2 => ⟨h2, h1⟩, Nat.le_refl _, c.1⟩
theorem out_b {n0 n1 : Nat} {h0 h h' : St} {v : Value} {N : Nat} {M : Md} (e : n0 = h0.next) (s : BSt n0 n1 h v N M) (c : Chg h0 h []) (d : ChgP (OutB (fun j => n0 ≤ j ∧ j < n1) h) h h') : Chg h0 h' [] :=
  ((c.nil (fun j => n0 ≤ j)).step (d.mono fun j _ hj => by have := s.n; have := s.m; rcases hj with hj | hj <;> omega)).list fun j h1 h2 => by omega
/-- What lies apart of the board. -/
theorem keep_b {n0 n1 : Nat} {h h' : St} {B : Nat → Prop} {x : Value} {sz n : Nat} {cs : List Value} (hB : ∀ j, B j → ¬ (n0 ≤ j ∧ j < n1)) (s : OwnS B h x sz cs n) (d : ChgP (OutB (fun j => n0 ≤ j ∧ j < n1) h) h h') : OwnS B h' x sz cs n := by
  have := (OwnS.imp s fun j hj hb => (⟨hb, hj⟩ : B j ∧ j < h.next)).chgP d fun j hj hb => by
    have h1 := hB j hb.1
    have h2 := hb.2
    rcases hj with hj | hj
    · exact h1 hj
    · omega
  exact this.imp fun _ _ h => h.1
theorem set_step {T : List (FuncId × Abs.Spec)} (hm : (11, bsetO) ∈ T) {n0 n1 : Nat} {h : St} {v : Value} {N : Nat} {M : Md} {p : Nat} {s : Int} (st : BSt n0 n1 h v N M) {k : Cont}
    (H : ∀ h', ChgP (OutB (fun j => n0 ≤ j ∧ j < n1) h) h h' → BSt n0 n1 h' v (N + 1) (setB M p s) → k (.tuple #[]) h') : tabC T 11 [v, .int .u32 (p : Int), .int .i64 s] h k :=
  cK hm ⟨_, v, N, M, p, s, rfl, st.b, fun h' c b => H h' c ⟨b, Nat.le_trans st.n c.1, st.m⟩⟩
theorem flush_step {T : List (FuncId × Abs.Spec)} (hm : (10, bflO) ∈ T) {n0 n1 : Nat} {h : St} {v : Value} {N : Nat} {M : Md} (st : BSt n0 n1 h v N M) (few : N ≤ 255) {k : Cont}
    (H : ∀ h' sv, ChgP (OutB (fun j => n0 ≤ j ∧ j < n1) h) h h' → BSt n0 n1 h' v N (flM M) → OwnS (fun i => h.next ≤ i) h' sv 2 ((chs M).flatMap (cellsC M)) (chs M).length → (chs M).length ≤ 255 → k sv h') : tabC T 10 [v] h k :=
  cK hm ⟨_, v, N, M, rfl, few, fun j hj => Nat.lt_of_lt_of_le hj.2 st.n, st.b, fun h' sv c b o l => H h' sv c ⟨b, Nat.le_trans st.n c.1, st.m⟩ o l⟩
theorem chs_flM (M : Md) : chs (flM M) = [] := by
  unfold chs
  rw [show chd (flM M) = fun _ => false from funext fun p => by unfold chd flM; simp]
  exact ups_none
/-- One player alone. -/
def one1 (p : Nat) (x : Mk) : Md := setM (fun _ => (0, 0)) p x
theorem one_at (p : Nat) (x : Mk) : one1 p x p = x := by unfold one1 setM; rw [if_pos rfl]
theorem one_no {p q : Nat} (x : Mk) (h : q ≠ p) : one1 p x q = (0, 0) := by unfold one1 setM; rw [if_neg h]
theorem setM_one (p : Nat) (x y : Mk) : setM (one1 p x) p y = one1 p y := by unfold one1; rw [setM_setM]
theorem fl_one (p : Nat) (x : Mk) : flM (one1 p x) = one1 p (x.1, seenN x.1) := by
  funext q
  unfold flM
  by_cases h : q = p
  · subst h; rw [one_at, one_at]
  · rw [one_no _ h, one_no _ h]; rfl
theorem chs_one {p : Nat} (rp : rid p) (x : Mk) : chs (one1 p x) = if seenN x.1 = x.2 then [] else [p] := by
  unfold chs
  by_cases e : seenN x.1 = x.2
  · rw [if_pos e, show chd (one1 p x) = fun _ => false from funext fun q => ?_]
    · exact ups_none
    · unfold chd
      by_cases h : q = p
      · subst h; rw [one_at]; simp [e]
      · rw [one_no _ h]; simp [seen0']
  · rw [if_neg e]
    refine (ups_eq (List.pairwise_singleton ..) fun q => ?_).symm
    unfold chd
    constructor
    · intro h
      simp only [List.mem_singleton] at h
      subst h
      rw [one_at, topId_eq]
      have := rp.2
      exact ⟨by omega, by simp [e]⟩
    · rintro ⟨_, h⟩
      by_cases hq : q = p
      · simp [hq]
      · rw [one_no _ hq] at h; simp [seen0'] at h
def awakeO : Abs.Spec := fun args h k => args = [] ∧ ∀ h', Chg h h' [] → k (.bool true) h'
def tabAw : List (FuncId × Abs.Spec) := [(7, bnewO), (11, bsetO), (10, bflO)]
theorem tabAw_good : ∀ p ∈ tabAw, SpecGood Try.prog p := by simp [tabAw, bnewO_good, bsetO_good, bflO_good]
theorem awakeO_good : SpecGood Try.prog (17, awakeO) := by
  refine spec_good mixed Try.func17 (by kernel_rfl) (by kernel_rfl) (tab := tabAw) tabAw_good (keep := w_awake_keep) ?_
  rintro args h k ⟨rfl, H⟩
  refine ⟨0, ?_⟩
  show w_awake (tabC _) idG 0 h _
  rw [w_awake_eq]
  refine cK (S := bnewO) (by simp [tabAw]) ⟨rfl, fun h1 v c1 pv b1 => ?_⟩
  have s1 := bst_new c1 b1
  have r7 : rid 7 := by unfold rid; omega
  have m1 : setB (fun _ => (0, 0)) 7 3 = one1 7 (3, 0) := rfl
  have m2 : setB (one1 7 (3, 0)) 7 2 = one1 7 (2, 0) := by
    have : setB (one1 7 (3, 0)) 7 2 = setM (one1 7 (3, 0)) 7 (2, 0) := rfl
    rw [this, setM_one]
  refine set_step (by simp [tabAw]) (p := 7) (s := 3) s1 fun h2 c2 s2 => ?_
  rw [m1] at s2
  have d2 := out_b rfl s1 c1 c2
  refine set_step (by simp [tabAw]) (p := 7) (s := 2) s2 fun h3 c3 s3 => ?_
  rw [m2] at s3
  have d3 := out_b rfl s2 d2 c3
  refine flush_step (by simp [tabAw]) s3 (by omega) fun h4 sv c4 s4 o4 l4 => ?_
  have d4 := out_b rfl s3 d3 c4
  have ec : chs (one1 7 (2, 0)) = [7] := by rw [chs_one r7]; rfl
  rw [ec] at o4
  have l1 := OwnS.len o4
  have z1 : binNil .eql .other (.int .i64 (([7] : List Nat).length : Int)) (.int .i64 1) = some (.bool true) := rfl
  obtain ⟨b, o, g1, g2⟩ := own_c o4 (i := 0) (by simp) .i64
  have g1 : idxS 2 sv (.int .i64 0) = some (.pointer (some ⟨b, o, none⟩)) := g1
  obtain ⟨_, _, f2⟩ := g2 h4 (Chg.refl _ _)
  have f2 : loadV true 2 (.pointer (some ⟨b, o, none⟩)) h4 = some (.agg #[.int .u32 7, .int .i64 2]) := f2
  have bv : buildV [.int .u32 0, .int .i64 0] (some [(0, 1, .int .u32 7), (1, 1, .int .i64 2)]) = some (.agg #[.int .u32 7, .int .i64 2]) := rfl
  have eq : binV .eql (.flat [.i, .i]) (.agg #[.int .u32 7, .int .i64 2]) (.agg #[.int .u32 7, .int .i64 2]) = some (.bool true) := rfl
  simp only [l1, z1, bindV_some, groupK_eq, guardK_bool, if_true, g1, f2, bv, eq, idG_eq, getT, pickV_bool]
  refine flush_step (by simp [tabAw]) s4 (by omega) fun h5 sv5 c5 s5 o5 l5 => ?_
  have d5 := out_b rfl s4 d4 c5
  rw [chs_flM] at o5
  have z0 : binNil .eql .other (.int .i64 (([] : List Nat).length : Int)) (.int .i64 0) = some (.bool true) := rfl
  simp only [OwnS.len o5, z0, bindV_some, idG_eq, getT, pickV_bool, if_true]
  exact ⟨h5, St.le.refl _, H h5 d5⟩
end Go.Proofs.Ytlohiobliagaoaa
