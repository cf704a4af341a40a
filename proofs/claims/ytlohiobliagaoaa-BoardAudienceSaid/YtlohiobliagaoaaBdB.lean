/- A board: Set, Status, Flush. -/
import Derived.Test.YtlohiobliagaoaaBdA
set_option linter.unusedSimpArgs false
set_option linter.unusedVariables false
set_option maxHeartbeats 4000000
namespace Go.Proofs.Ytlohiobliagaoaa
open Go.Abs Go.IntWalk
attribute [local congr] bindV_weak condK_weak guardK_weak groupK_weak allocE_weak boxE_weak storeE_weak storeM_weak tabC_weak ite_weak idG_weak appendE_weak buildSliceE_weak mapUpdateE_weak deleteE_weak makeMapE_weak copyE_weak clearE_weak callE_weak

def clamp (s : Int) : Nat := if s < 0 ∨ 6 < s then 0 else s.toNat
theorem clamp_le (s : Int) : clamp s ≤ 6 := by unfold clamp; split <;> omega
def setB (M : Md) (p : Nat) (s : Int) : Md := if rightId p = true then setM M p (clamp s, (M p).2) else M
abbrev OutB (D : Nat → Prop) (h : St) : Nat → Prop := fun i => D i ∨ h.next ≤ i
theorem outB {D : Nat → Prop} {h h' h'' : St} (c : ChgP (OutB D h) h h') (d : ChgP (OutB D h') h' h'') : ChgP (OutB D h) h h'' :=
  c.trans d (fun _ _ h => h) fun i hi h => h.elim .inl fun h => absurd h (by have := c.1; omega)
/-! ### Set, Status -/
theorem field1 (x : Mk) : fieldV 1 1 false (mkV x) = some (.int .i64 (x.2 : Int)) := rfl
theorem field0 (x : Mk) : fieldV 0 1 false (mkV x) = some (.int .i64 (x.1 : Int)) := rfl
theorem bvM (s t : Nat) : buildV [.int .i64 0, .int .i64 0] (some [(0, 1, .int .i64 (s : Int)), (1, 1, .int .i64 (t : Int))]) = some (mkV (s, t)) := rfl
def bsetO : Abs.Spec := fun args h k => ∃ (D : Nat → Prop) (v : Value) (N : Nat) (M : Md) (p : Nat) (s : Int), args = [v, .int .u32 (p : Int), .int .i64 s] ∧ BdS D h v N M ∧
  ∀ h', ChgP (OutB D h) h h' → BdS D h' v (N + 1) (setB M p s) → k (.tuple #[]) h'
theorem bset_j0 {nn : Nat} {D : Nat → Prop} {v : Value} {N : Nat} {M : Md} {p s : Nat} {h : St} {k : Cont} (rp : rid p) (hs : s ≤ 6) (b : BdS D h v N M) (H : ∀ h', ChgP (OutB D h) h h' → BdS D h' v (N + 1) (setM M p (s, (M p).2)) → k (.tuple #[]) h') :
    b_Set_j0 (tabC [(28, rightO), (27, bputO)]) idG nn v (.int .u32 (p : Int)) (.int .i64 (s : Int)) h (fun v h1 => ∃ h2, St.le h2 h1 ∧ k v h2) := by
  rw [b_Set_j0_eq]
  have b' := b
  obtain ⟨g, m, rfl, dg, gm, gn, og, f1, f2, L, ma, im, ll, rl⟩ := b
  simp only [nilV, offV_ptr, bindV_some, loadV_ptr, og, loadM_cells, partV_one, List.getElem?_cons_zero, Nat.zero_add, lookBd ma im, field1, bvM]
  refine cK (S := bputO) (by simp) ⟨D, _, N, M, p, s, (M p).2, rfl, rp, hs, (f1 p).2, b', fun h' c' s' => ?_⟩
  exact ⟨h', St.le.refl _, H h' c' (s'.more (by split <;> omega))⟩
theorem bsetO_good : SpecGood Try.prog (11, bsetO) := by
  refine spec_good mixed Try.func11 (by kernel_rfl) (by kernel_rfl) (tab := [(28, rightO), (27, bputO)]) (by simp [rightO_good, bputO_good]) (keep := b_Set_keep) ?_
  rintro args h k ⟨D, v, N, M, p, s, rfl, b, H⟩
  refine ⟨0, ?_⟩
  show b_Set (tabC _) idG 0 v (.int .u32 (p : Int)) (.int .i64 s) h _
  rw [b_Set_eq, isNil_no b.ptr]
  simp only [bindV_some, groupK_eq, guardK_bool, if_true]
  refine cK (S := rightO) (by simp) ⟨p, rfl, ?_⟩
  unfold setB at H
  cases hr : rightId p with
  | false =>
    rw [hr, if_neg (by simp)] at H
    simp only [unV_not, Bool.not_false, bindV_some, idG_eq, getT, pickV_bool, Bool.false_eq_true, if_false, condK_bool, if_true]
    exact ⟨h, St.le.refl _, H h (ChgP.refl _ _) (b.more (by omega))⟩
  | true =>
    rw [hr, if_pos rfl] at H
    have rp := rightId_iff.1 hr
    simp only [unV_not, Bool.not_true, bindV_some, idG_eq, getT, pickV_bool, Bool.false_eq_true, if_false, condK_bool, binNil_int, binV_lss]
    unfold clamp at H
    by_cases h1 : s < 0
    · rw [if_pos (.inl h1)] at H
      simp only [decide_eq_true h1, groupK_eq, guardK_bool, Bool.true_eq_false, if_false, idG_eq, pickV_bool, if_true, bindV_some, condK_bool]
      exact bset_j0 (s := 0) rp (by omega) b H
    · simp only [decide_eq_false h1, groupK_eq, guardK_bool, if_true, idG_eq, binNil_int, binV_gtr, bindV_some, getT, pickV_bool, Bool.false_eq_true, if_false, condK_bool, decide_eq_true_eq]
      by_cases h2 : s > 6
      · rw [if_pos (.inr h2)] at H
        rw [if_pos h2]
        simp only [idG_eq]
        exact bset_j0 (s := 0) rp (by omega) b H
      · rw [if_neg (by omega)] at H
        rw [if_neg h2]
        simp only [idG_eq]
        have e : s = (s.toNat : Int) := by omega
        rw [e]
        exact bset_j0 rp (by omega) b H
def bsetN : Abs.Spec := fun args h k => ∃ (x y : Value), args = [.pointer none, x, y] ∧ k (.tuple #[]) h
theorem bsetN_good : SpecGood Try.prog (11, bsetN) := by
  refine spec_good mixed Try.func11 (by kernel_rfl) (by kernel_rfl) (tab := []) (by simp) (keep := b_Set_keep) ?_
  rintro args h k ⟨x, y, rfl, H⟩
  refine ⟨0, ?_⟩
  show b_Set (tabC _) idG 0 (.pointer none) x y h _
  rw [b_Set_eq, isNil_yes]
  simp only [bindV_some, groupK_eq, guardK_bool, Bool.true_eq_false, if_false, idG_eq, pickV_bool, if_true, condK_bool]
  exact ⟨h, St.le.refl _, H⟩
def bstatO : Abs.Spec := fun args h k => ∃ (D : Nat → Prop) (v : Value) (N : Nat) (M : Md) (p : Nat), args = [v, .int .u32 (p : Int)] ∧ BdS D h v N M ∧ k (.int .i64 ((M p).1 : Int)) h
theorem bstatO_good : SpecGood Try.prog (13, bstatO) := by
  refine spec_good mixed Try.func13 (by kernel_rfl) (by kernel_rfl) (tab := []) (by simp) (keep := b_Status_keep) ?_
  rintro args h k ⟨D, v, N, M, p, rfl, b, H⟩
  refine ⟨0, ?_⟩
  show b_Status (tabC _) idG 0 v (.int .u32 (p : Int)) h _
  rw [b_Status_eq, isNil_no b.ptr]
  obtain ⟨g, m, rfl, dg, gm, gn, og, f1, f2, L, ma, im, ll, rl⟩ := b
  simp only [bindV_some, condK_bool, Bool.false_eq_true, if_false, idG_eq, nilV, offV_ptr, loadV_ptr, og, loadM_cells, partV_one, List.getElem?_cons_zero, Nat.zero_add, lookBd ma im, field0]
  exact ⟨h, St.le.refl _, H⟩
def bstatN : Abs.Spec := fun args h k => ∃ x : Value, args = [.pointer none, x] ∧ k (.int .i64 0) h
theorem bstatN_good : SpecGood Try.prog (13, bstatN) := by
  refine spec_good mixed Try.func13 (by kernel_rfl) (by kernel_rfl) (tab := []) (by simp) (keep := b_Status_keep) ?_
  rintro args h k ⟨x, rfl, H⟩
  refine ⟨0, ?_⟩
  show b_Status (tabC _) idG 0 (.pointer none) x h _
  rw [b_Status_eq, isNil_yes]
  simp only [bindV_some, condK_bool, if_true]
  exact ⟨h, St.le.refl _, H⟩
/-! ### Flush -/
def chd (M : Md) (p : Nat) : Bool := !decide (seenN (M p).1 = (M p).2)
def flM (M : Md) : Md := fun p => ((M p).1, seenN (M p).1)
noncomputable def chs (M : Md) : List Nat := ups (chd M)
def cellsC (M : Md) (p : Nat) : List Value := [.int .u32 (p : Int), .int .i64 (seenN (M p).1 : Int)]
theorem seen0' : seenN 0 = 0 := by decide
theorem seen0 : seenN ((0 : Nat) : Int) = 0 := by decide
theorem chd_ne {M : Md} {p : Nat} (h : chd M p = true) : M p ≠ (0, 0) := fun e => by
  unfold chd at h; rw [e] at h; simp [seen0'] at h
/-- Told, those of a list. -/
def part (M : Md) (l : List Nat) : Md := fun q => if q ∈ l then flM M q else M q
theorem part_step {M : Md} {l : List Nat} {p : Nat} : part M (l ++ [p]) = setM (part M l) p (flM M p) := by
  funext q
  unfold part setM
  by_cases e : q = p
  · subst e; simp
  · simp [e]
theorem part_skip {M : Md} {l : List Nat} {p : Nat} (h : chd M p = false) : part M (l ++ [p]) = part M l := by
  funext q
  unfold part
  by_cases e : q = p
  · subst e
    have : flM M q = M q := by
      unfold chd at h
      simp at h
      unfold flM
      rw [h]
    simp [this]
  · simp [e]
theorem wf_rid {x : Nat} (h : rid x) : (Lit.int .u32 (x : Int)).wf = true := by
  unfold rid at h
  simp [Lit.wf, IntKind.min, IntKind.max, IntKind.signed, IntKind.bits]
  omega
def bflO : Abs.Spec := fun args h k => ∃ (D : Nat → Prop) (v : Value) (N : Nat) (M : Md), args = [v] ∧ N ≤ 255 ∧ (∀ i, D i → i < h.next) ∧ BdS D h v N M ∧
  ∀ h' sv, ChgP (OutB D h) h h' → BdS D h' v N (flM M) → OwnS (fun i => h.next ≤ i) h' sv 2 ((chs M).flatMap (cellsC M)) (chs M).length → (chs M).length ≤ 255 → k sv h'
def tabFl : List (FuncId × Abs.Spec) := [(26, keysO), (25, sortedO), (15, bseenO), (27, bputO)]
theorem tabFl_good : ∀ p ∈ tabFl, SpecGood Try.prog p := by simp [tabFl, keysO_good, sortedO_good, bseenO_good, bputO_good]
theorem bfl_l0 {nn N n1 : Nat} {v x2 sv : Value} {D : Nat → Prop} {M : Md} {ks : List Nat} {h0 : St} {k : Cont} (few : ks.length ≤ 255) (db : ∀ i, D i → i < h0.next) (hn1 : h0.next ≤ n1) (nd : ks.Nodup) (rk : ∀ x ∈ ks, rid x)
    (H : ∀ h' out, ChgP (OutB D h0) h0 h' → BdS D h' v N (part M ks) → OwnS (fun i => n1 ≤ i) h' out 2 ((ks.filter (chd M)).flatMap (cellsC M)) (ks.filter (chd M)).length → k out h') :
    ∀ (d i m0 : Nat) (h : St) (out : Value), i + d = ks.length → d < m0 → ChgP (OutB D h0) h0 h → n1 ≤ h.next → OwnQ (fun i => h0.next ≤ i ∧ i < n1) h sv ks → BdS D h v N (part M (ks.take i)) → OwnS (fun i => n1 ≤ i) h out 2 (((ks.take i).filter (chd M)).flatMap (cellsC M)) ((ks.take i).filter (chd M)).length →
      b_Flush_l0 (tabC tabFl) idG nn m0 v x2 out sv (.int .i64 (ks.length : Int)) (.int .i64 (i : Int)) h (fun v h1 => ∃ h2, St.le h2 h1 ∧ k v h2) := by
  intro d
  induction d with
  | zero =>
    intro i m0 h out hi hm c hn q b o
    obtain ⟨m0, rfl⟩ : ∃ m, m0 = m + 1 := ⟨m0 - 1, by omega⟩
    rw [b_Flush_l0_eq]
    have e' : i = ks.length := by omega
    subst e'
    rw [List.take_length] at b o
    simp only [bindV_some, binV_lss, condK_bool, Int.lt_irrefl, decide_false, Bool.false_eq_true, if_false, idG_eq]
    rw [b_Flush_j2_eq]
    exact ⟨h, St.le.refl _, H h out c b o⟩
  | succ d ih =>
    intro i m0 h out hi hm c hn q b o
    obtain ⟨m0, rfl⟩ : ∃ m, m0 = m + 1 := ⟨m0 - 1, by omega⟩
    rw [b_Flush_l0_eq]
    have hlt : (i : Int) < ks.length := by omega
    have inc : IntKind.i64.wrap ((i : Int) + 1) = ((i + 1 : Nat) : Int) := by rw [i64_in _ (by omega)]; omega
    obtain ⟨bb, oo, g1, g2⟩ := own_rowq q (show i < ks.length by omega) .i64
    have tak : ks.take (i + 1) = ks.take i ++ [ks[i]] := List.take_succ_eq_append_getElem (by omega)
    have fil : (ks.take (i + 1)).filter (chd M) = (ks.take i).filter (chd M) ++ if chd M (ks[i]'(by omega)) = true then [ks[i]] else [] := by
      rw [tak, List.filter_append]
      by_cases e : chd M ks[i] = true <;> simp [e]
    have notin : ks[i]'(by omega) ∉ ks.take i := by
      intro hm
      rw [List.nodup_iff_pairwise_ne] at nd
      obtain ⟨j, hj, e⟩ := List.getElem_of_mem hm
      rw [List.length_take] at hj
      rw [List.getElem_take] at e
      exact List.pairwise_iff_getElem.1 nd j i (by omega) (by omega) (by omega) e
    have rp := rk _ (List.getElem_mem (show i < ks.length by omega))
    have fl : ((ks.take i).filter (chd M)).length ≤ i := Nat.le_trans (List.length_filter_le ..) (by rw [List.length_take]; omega)
    obtain ⟨p, ep⟩ : ∃ p, p = ks[i]'(by omega) := ⟨_, rfl⟩
    rw [← ep] at g2 tak fil notin rp
    have mc := c.1
    have lp : part M (ks.take i) p = M p := by unfold part; rw [if_neg notin]
    have b0 := b
    obtain ⟨g, m, ev, dg, gm, gn, og, f1, f2, L, ma, im, ll, rl⟩ := b
    subst ev
    have lk := lookBd ma im p
    rw [lp] at lk
    simp only [bindV_some, binV_lss, condK_bool, hlt, decide_true, if_true, idG_eq, g1, g2 h (Chg.refl _ _), idq, nilV, offV_ptr, loadV_ptr, og, loadM_cells, partV_one, List.getElem?_cons_zero, Nat.zero_add, lk]
    refine allocE_in fun h1 c1 n1' o1 => ?_
    refine storeE_all o1 rfl rfl rfl fun h2 c2 n2 o2 => ?_
    have o2 : h2.objs h.next = some (.cells [.int .i64 ((M p).1 : Int), .int .i64 ((M p).2 : Int)] true) := o2
    have c02 : Chg h h2 [] := c1.new c2 (Nat.le_refl _)
    simp only [offV_ptr, bindV_some, loadV_ptr, o2, loadM_cells, partV_one, List.getElem?_cons_zero, Nat.zero_add]
    refine cK (S := bseenO) (by simp [tabFl]) ⟨_, rfl, ?_⟩
    simp only [offV_ptr, bindV_some, loadV_ptr, o2, loadM_cells, partV_one, List.getElem?_cons_zero, List.getElem?_cons_succ, Nat.zero_add, neN, condK_bool]
    have next : ∀ h3 out3, ChgP (OutB D h0) h h3 → OwnQ (fun i => h0.next ≤ i ∧ i < n1) h3 sv ks → BdS D h3 (.pointer (some ⟨g, 0, none⟩)) N (part M (ks.take (i + 1))) → OwnS (fun i => n1 ≤ i) h3 out3 2 (((ks.take (i + 1)).filter (chd M)).flatMap (cellsC M)) ((ks.take (i + 1)).filter (chd M)).length →
        b_Flush_j1 (tabC tabFl) idG nn m0 (.pointer (some ⟨g, 0, none⟩)) x2 out3 sv (.int .i64 (ks.length : Int)) (.int .i64 (i : Int)) h3 (fun v h1 => ∃ h2, St.le h2 h1 ∧ k v h2) := fun h3 out3 c3 q3 b3 o3 => by
      rw [b_Flush_j1_eq]
      simp only [binNil_int, binV_add, bindV_some, inc, idG_eq]
      have m3 := c3.1
      exact ih (i + 1) m0 h3 out3 (by omega) (by omega) (c.trans c3 (fun _ _ h => h) (fun _ _ h => h)) (by omega) q3 b3 o3
    have mh2 := c02.1
    cases e : decide (seenN ((M p).1 : Int) = (M p).2) with
    | true =>
      have ch : chd M p = false := by unfold chd; rw [e]; rfl
      simp only [Bool.not_true, Bool.false_eq_true, if_false, idG_eq]
      refine next h2 out (c02.nil _) (q.chg c02 (by simp)) ?_ ?_
      · rw [tak, part_skip ch]; exact b0.chg0 c02
      · rw [fil, if_neg (by rw [ch]; simp), List.append_nil]; exact o.chg c02 (by simp)
    | false =>
      have ch : chd M p = true := by unfold chd; rw [e]; rfl
      have bv : buildV [.int .u32 0, .int .i64 0] (some [(0, 1, .int .u32 (p : Int)), (1, 1, .int .i64 (seenN ((M p).1 : Int) : Int))]) = some (.agg (cellsC M p).toArray) := rfl
      simp only [Bool.not_false, if_true, bv, bindV_some]
      refine append_row (B := fun j => n1 ≤ j ∧ j ≠ h.next) (fun j hj => ⟨by omega, by omega⟩) (((OwnS.imp o fun j hj hb => (⟨hb, by omega⟩ : n1 ≤ j ∧ j ≠ h.next)).chg c1 (by simp)).chg c2 (by simp)) rfl rfl rfl rfl (by omega) (by omega) fun h5 out5 c5 s5 => ?_
      have o5 := c5.at (by omega) (fun hh => hh.2 rfl) o2
      have m5 := c5.1
      have b5 : BdS D h5 (.pointer (some ⟨g, 0, none⟩)) N (part M (ks.take i)) := (b0.chg0 c02).chgP c5 fun j h1 h2 => by have := db j h2; omega
      have q5 : OwnQ (fun i => h0.next ≤ i ∧ i < n1) h5 sv ks := OwnS.chgP (OwnS.chg q c02 (by simp)) c5 fun j h1 h2 => by omega
      simp only [offV_ptr, bindV_some, loadV_ptr, o5, loadM_cells, partV_one, List.getElem?_cons_zero, Nat.zero_add, bvM]
      refine cK (S := bputO) (by simp [tabFl]) ⟨D, _, N, _, p, (M p).1, seenN (M p).1, rfl, rp, ?_, seen_le _, b5, fun h6 c6 b6 => ?_⟩
      · have := (f1 p).1; rw [lp] at this; exact this
      rw [lp, if_neg (chd_ne ch)] at b6
      simp only [idG_eq]
      have s5' : OwnS (fun i => n1 ≤ i) h5 out5 2 (((ks.take (i + 1)).filter (chd M)).flatMap (cellsC M)) ((ks.take (i + 1)).filter (chd M)).length := by
        rw [fil, if_pos ch, List.flatMap_append, List.length_append]
        have e2 : [p].flatMap (cellsC M) = cellsC M p := by simp
        rw [e2]
        exact s5.imp fun _ _ hb => hb.1
      have keep : ∀ {B : Nat → Prop} {x : Value} {sz n : Nat} {cs : List Value}, (∀ j, B j → h0.next ≤ j) → OwnS B h5 x sz cs n → OwnS B h6 x sz cs n := fun {B x sz n cs} hB s => by
        have := (OwnS.imp s fun j hj hb => (⟨hb, hj⟩ : B j ∧ j < h5.next)).chgP c6 fun j hj hb => by
          have h1 := hB j hb.1
          have h2 := hb.2
          rcases hj with hj | hj
          · have := db j hj; omega
          · omega
        exact this.imp fun _ _ h => h.1
      refine next h6 out5 ?_ (keep (fun j hj => hj.1) q5) ?_ (keep (fun j hj => by omega) s5')
      · refine (c02.nil (OutB D h0)).trans (c5.trans (E := OutB D h0) c6 (fun j _ hj => .inr (by omega)) (fun j hj hh => ?_)) (fun _ _ h => h) (fun _ _ h => h)
        rcases hh with hh | hh
        · exact .inl hh
        · exact .inr (by omega)
      · rw [tak, part_step]; exact b6
theorem bflO_good : SpecGood Try.prog (10, bflO) := by
  refine spec_good mixed Try.func10 (by kernel_rfl) (by kernel_rfl) (tab := tabFl) tabFl_good (keep := b_Flush_keep) ?_
  rintro args h k ⟨D, v, N, M, rfl, hN, db, b, H⟩
  refine ⟨N + 1, ?_⟩
  show b_Flush (tabC _) idG _ v h _
  rw [b_Flush_eq, isNil_no b.ptr]
  have b0 := b
  obtain ⟨g, m, ev, dg, gm, gn, og, f1, f2, L, ma, im, ll, rl⟩ := b
  subst ev
  simp only [bindV_some, condK_bool, Bool.false_eq_true, if_false, idG_eq, nilV, offV_ptr, loadV_ptr, og, loadM_cells, partV_one, List.getElem?_cons_zero, Nat.zero_add]
  have ndL : (L.map fun x : Em => (x.1 : Int)).Nodup := by
    refine List.Pairwise.map _ (fun a b h e => h ?_) im.nd
    omega
  refine sorted_keys (by simp [tabFl]) (by simp [tabFl]) ma (fun x => (x.1 : Int)) (fun x => rfl) (fun x hx => ?_) ndL (by omega) fun h1 sv ss c1 o1 p1 s1 => ?_
  · have := rl x hx
    exact wf_rid this
  have pos : ∀ x ∈ ss, ∃ y ∈ L, x = (y.1 : Int) := fun x hx => by
    obtain ⟨y, hy, e⟩ := List.mem_map.1 (p1.mem_iff.1 hx)
    exact ⟨y, hy, e.symm⟩
  obtain ⟨ks, eks⟩ : ∃ ks : List Nat, ks = ss.map Int.toNat := ⟨_, rfl⟩
  have ess : ss = ks.map fun n : Nat => (n : Int) := by
    rw [eks, List.map_map]
    conv => lhs; rw [← List.map_id ss]
    apply List.map_congr_left
    intro x hx
    obtain ⟨y, _, rfl⟩ := pos x hx
    simp
  have pk : ks.Perm (L.map fun x : Em => x.1) := by
    have := p1.map Int.toNat
    rw [List.map_map] at this
    rw [eks]
    refine this.trans (.of_eq (List.map_congr_left fun x _ => by simp))
  have nk : ks.Nodup := pk.nodup_iff.2 (List.Pairwise.map _ (fun _ _ h => h) im.nd)
  have lk : ks.length ≤ N := by rw [pk.length_eq, List.length_map]; exact ll
  have rk : ∀ x ∈ ks, rid x := fun x hx => by
    obtain ⟨y, hy, rfl⟩ := List.mem_map.1 (pk.mem_iff.1 hx)
    exact rl y hy
  have sk : ks.Pairwise (· ≤ ·) := by
    rw [ess, List.pairwise_map] at s1
    exact s1.imp fun h => by omega
  have q1 : OwnQ (fun i => h.next ≤ i ∧ i < h1.next) h1 sv ks := by
    have e : ss.map (Value.int .u32) = ks.map idq := by rw [ess, List.map_map]; rfl
    rw [e] at o1
    have e2 : ss.length = ks.length := by rw [ess, List.length_map]
    rw [e2] at o1
    exact OwnS.imp o1 fun j hj hh => ⟨hh, hj⟩
  simp only [OwnS.len q1, bindV_some, idG_eq]
  have inL : ∀ p, M p ≠ (0, 0) → p ∈ ks := fun p hp => pk.mem_iff.2 (List.mem_map.2 ⟨_, im.all p hp, rfl⟩)
  have pall : part M ks = flM M := by
    funext p
    unfold part
    by_cases e : p ∈ ks
    · rw [if_pos e]
    · rw [if_neg e]
      have : M p = (0, 0) := Decidable.byContradiction fun hh => e (inL p hh)
      unfold flM
      rw [this]; rfl
  have fks : ks.filter (chd M) = chs M := by
    refine ups_eq ((lt_or_rise sk nk).filter _) fun p => ?_
    rw [List.mem_filter]
    constructor
    · rintro ⟨h1, h2⟩
      have := (rk p h1).2
      exact ⟨by rw [topId_eq]; omega, h2⟩
    · rintro ⟨_, h2⟩
      exact ⟨inL p (chd_ne h2), h2⟩
  have m1 := c1.1
  refine bfl_l0 (M := M) (N := N) (n1 := h1.next) (by omega) db m1 nk rk (fun h' out c' b' o' => ?_) ks.length 0 _ h1 _ (by omega) (by omega) (c1.nil _) (Nat.le_refl _) q1 ?_ (.inl ⟨rfl, rfl, rfl⟩)
  · rw [pall] at b'
    rw [fks] at o'
    exact H h' out c' b' (o'.imp fun j _ hj => by omega) (by rw [← fks]; exact Nat.le_trans (List.length_filter_le ..) (by omega))
  · have : part M (ks.take 0) = M := by funext p; simp [part]
    rw [this]
    exact b0.chg0 c1
def bflN : Abs.Spec := fun args h k => args = [.pointer none] ∧ k (.slice none 0 0) h
theorem bflN_good : SpecGood Try.prog (10, bflN) := by
  refine spec_good mixed Try.func10 (by kernel_rfl) (by kernel_rfl) (tab := []) (by simp) (keep := b_Flush_keep) ?_
  rintro args h k ⟨rfl, H⟩
  refine ⟨0, ?_⟩
  show b_Flush (tabC _) idG 0 (.pointer none) h _
  rw [b_Flush_eq, isNil_yes]
  simp only [bindV_some, condK_bool, if_true]
  exact ⟨h, St.le.refl _, H⟩
end Go.Proofs.Ytlohiobliagaoaa
