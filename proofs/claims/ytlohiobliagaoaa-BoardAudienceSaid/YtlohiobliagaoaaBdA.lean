/- A board: marks of players as a map; New, Seen, put, Set, Status, Flush. -/
import Derived.Test.YtlohiobliagaoaaSeqC
import Derived.Test.YtlohiobliagaoaaRk7
import Derived.Test.YtlohiobliagaoaaGenB
set_option linter.unusedSimpArgs false
set_option linter.unusedVariables false
set_option maxHeartbeats 4000000
namespace Go.Proofs.Ytlohiobliagaoaa
open Go.Abs Go.IntWalk
attribute [local congr] bindV_weak condK_weak guardK_weak groupK_weak allocE_weak boxE_weak storeE_weak storeM_weak tabC_weak ite_weak idG_weak appendE_weak buildSliceE_weak mapUpdateE_weak deleteE_weak makeMapE_weak copyE_weak clearE_weak callE_weak

/-! ### marks, plainly -/
abbrev Mk := Nat × Nat
abbrev Md := Nat → Mk
abbrev Em := Nat × Mk
def setM (M : Md) (p : Nat) (x : Mk) : Md := fun q => if q = p then x else M q
structure Im (L : List Em) (M : Md) : Prop where
  nd : L.Pairwise fun x y => x.1 ≠ y.1
  val : ∀ x ∈ L, M x.1 = x.2
  all : ∀ p, M p ≠ (0, 0) → (p, M p) ∈ L
def pm (p : Nat) (x : Em) : Bool := decide (p = x.1)
theorem pm_iff {p : Nat} {x : Em} : pm p x = true ↔ p = x.1 := by simp [pm]
theorem pm_no {p : Nat} {x : Em} : pm p x = false ↔ ¬ p = x.1 := by simp [pm]
theorem Im.nil : Im [] fun _ => (0, 0) := ⟨.nil, by simp, by simp⟩
theorem Im.hit {L : List Em} {M : Md} {A C : List Em} {x : Em} {p : Nat} (i : Im L M) (e : L = A ++ x :: C) (hx : pm p x = true) : M p = x.2 := by
  have := i.val x (by rw [e]; simp)
  rw [pm_iff.1 hx]; exact this
theorem Im.miss {L : List Em} {M : Md} {p : Nat} (i : Im L M) (h : ∀ x ∈ L, pm p x = false) : M p = (0, 0) := by
  refine Decidable.byContradiction fun hh => ?_
  have := h _ (i.all p hh)
  rw [pm_no] at this
  exact this rfl
theorem Im.set {L : List Em} {M : Md} {A C : List Em} {x : Em} {p : Nat} {w : Mk} (i : Im L M) (e : L = A ++ x :: C) (hx : pm p x = true) : Im (A ++ (p, w) :: C) (setM M p w) := by
  have h1 := pm_iff.1 hx
  subst e
  obtain ⟨nd, val, all⟩ := i
  rw [List.pairwise_append, List.pairwise_cons] at nd
  obtain ⟨n1, ⟨n2, n3⟩, n4⟩ := nd
  refine ⟨?_, ?_, ?_⟩
  · rw [List.pairwise_append, List.pairwise_cons]
    refine ⟨n1, ⟨fun y hy => ?_, n3⟩, fun y hy z hz => ?_⟩
    · have := n2 y hy; rw [← h1] at this; exact this
    · rcases List.mem_cons.1 hz with rfl | hz
      · have := n4 y hy x (by simp); rw [← h1] at this; exact this
      · exact n4 y hy z (by simp [hz])
  · intro y hy
    unfold setM
    rcases List.mem_append.1 hy with hy' | hy'
    · have := n4 y hy' x (by simp)
      rw [← h1] at this
      rw [if_neg this]; exact val y (by simp [hy'])
    · rcases List.mem_cons.1 hy' with rfl | hy'
      · rw [if_pos rfl]
      · have := n2 y hy'
        rw [← h1] at this
        rw [if_neg (fun h => this h.symm)]; exact val y (by simp [hy'])
  · intro q hq
    unfold setM at hq ⊢
    by_cases h : q = p
    · rw [if_pos h]; subst h; simp
    · rw [if_neg h] at hq ⊢
      rcases List.mem_append.1 (all q hq) with m | m
      · simp [m]
      · rcases List.mem_cons.1 m with m | m
        · exact absurd (by rw [h1, ← m]) h
        · simp [m]
theorem Im.push {L : List Em} {M : Md} {p : Nat} {w : Mk} (i : Im L M) (h : ∀ x ∈ L, pm p x = false) : Im (L ++ [(p, w)]) (setM M p w) := by
  obtain ⟨nd, val, all⟩ := i
  have h' : ∀ x ∈ L, ¬ p = x.1 := fun x hx => pm_no.1 (h x hx)
  refine ⟨?_, ?_, ?_⟩
  · rw [List.pairwise_append]
    refine ⟨nd, List.pairwise_singleton .., fun y hy z hz => ?_⟩
    simp only [List.mem_singleton] at hz
    subst hz
    exact fun e => h' y hy e.symm
  · intro y hy
    unfold setM
    rcases List.mem_append.1 hy with hy' | hy'
    · rw [if_neg (fun e => h' y hy' e.symm)]; exact val y hy'
    · simp only [List.mem_singleton] at hy'
      subst hy'; rw [if_pos rfl]
  · intro q hq
    unfold setM at hq ⊢
    by_cases hh : q = p
    · rw [if_pos hh]; subst hh; simp
    · rw [if_neg hh] at hq ⊢
      exact List.mem_append_left _ (all q hq)
theorem Im.del {L : List Em} {M : Md} {A C : List Em} {x : Em} {p : Nat} (i : Im L M) (e : L = A ++ x :: C) (hx : pm p x = true) : Im (A ++ C) (setM M p (0, 0)) := by
  have h1 := pm_iff.1 hx
  subst e
  obtain ⟨nd, val, all⟩ := i
  rw [List.pairwise_append, List.pairwise_cons] at nd
  obtain ⟨n1, ⟨n2, n3⟩, n4⟩ := nd
  refine ⟨?_, ?_, ?_⟩
  · rw [List.pairwise_append]
    exact ⟨n1, n3, fun y hy z hz => n4 y hy z (by simp [hz])⟩
  · intro y hy
    unfold setM
    rcases List.mem_append.1 hy with hy' | hy'
    · have := n4 y hy' x (by simp)
      rw [← h1] at this
      rw [if_neg this]; exact val y (by simp [hy'])
    · have := n2 y hy'
      rw [← h1] at this
      rw [if_neg (fun h => this h.symm)]; exact val y (by simp [hy'])
  · intro q hq
    unfold setM at hq ⊢
    by_cases h : q = p
    · rw [if_pos h] at hq; exact absurd rfl hq
    · rw [if_neg h] at hq ⊢
      rcases List.mem_append.1 (all q hq) with m | m
      · simp [m]
      · rcases List.mem_cons.1 m with m | m
        · exact absurd (by rw [h1, ← m]) h
        · simp [m]
theorem setM_setM (M : Md) (p : Nat) (x y : Mk) : setM (setM M p x) p y = setM M p y := by
  funext q; unfold setM; split <;> rfl
theorem setM_same (M : Md) (p : Nat) : setM M p (M p) = M := by
  funext q; unfold setM; split
  · rename_i h; rw [h]
  · rfl
/-! ### in memory -/
def ekM (x : Em) : Value := .int .u32 (x.1 : Int)
def mkV (x : Mk) : Value := .agg #[.int .i64 (x.1 : Int), .int .i64 (x.2 : Int)]
def evM (x : Em) : Value := mkV x.2
theorem find_M (p : Nat) : find (.int .u32) (.int .u32 (p : Int)) [] = some none := by simp [find, findE]
theorem cmp_M (p : Nat) (x : Em) : cmpK (.int .u32) (.int .u32 (p : Int)) (ekM x) = some (pm p x) := by
  have : ((p : Int) == (x.1 : Int)) = pm p x := by
    unfold pm
    by_cases h : p = x.1
    · subst h; simp
    · have : ((p : Int) == (x.1 : Int)) = false := by simp; omega
      rw [this]; simp [h]
  simp only [cmpK, ekM, eqOne, if_true, this]
theorem lookBd {B : Nat → Prop} {h : St} {m : Nat} {L : List Em} {M : Md} (a : MapB B ekM evM h m L) (i : Im L M) (p : Nat) : lookV (.int .u32) (.agg #[.int .i64 0, .int .i64 0]) false (.map (some m)) (.int .u32 (p : Int)) h = some (mkV (M p)) := by
  rcases a.at.look (find_M p) (fun z _ => cmp_M p z) (.agg #[.int .i64 0, .int .i64 0]) false with ⟨A, z, C, e1, e2, e3, e4⟩ | ⟨e1, e2⟩
  · rw [e4, i.hit e1 e2]; rfl
  · rw [e2, i.miss e1]; rfl
/-- A board in memory: so many marks at most. -/
def BdS (D : Nat → Prop) (h : St) (v : Value) (N : Nat) (M : Md) : Prop :=
  ∃ g m, v = .pointer (some ⟨g, 0, none⟩) ∧ D g ∧ g ≠ m ∧ g < h.next ∧ h.objs g = some (.cells [.map (some m)] true) ∧ (∀ p, (M p).1 ≤ 6 ∧ (M p).2 ≤ 6) ∧ (∀ p, M p ≠ (0, 0) → rid p) ∧ ∃ L : List Em, MapB D ekM evM h m L ∧ Im L M ∧ L.length ≤ N ∧ ∀ x ∈ L, rid x.1
theorem BdS.chgP {D E : Nat → Prop} {h h' : St} {v : Value} {N : Nat} {M : Md} (s : BdS D h v N M) (c : ChgP E h h') (hE : ∀ i, E i → ¬ D i) : BdS D h' v N M := by
  obtain ⟨g, m, e, dg, gm, gn, og, f1, f2, L, ma, r⟩ := s
  exact ⟨g, m, e, dg, gm, Nat.lt_of_lt_of_le gn c.1, c.at gn (fun hh => hE _ hh dg) og, f1, f2, L, ma.chgP c hE, r⟩
theorem BdS.chg {D : Nat → Prop} {h h' : St} {v : Value} {N : Nat} {M : Md} {S : List Nat} (s : BdS D h v N M) (c : Chg h h' S) (hS : ∀ i ∈ S, ¬ D i) : BdS D h' v N M := s.chgP (E := (· ∈ S)) (c.toP fun _ h => h) hS
theorem BdS.chg0 {D : Nat → Prop} {h h' : St} {v : Value} {N : Nat} {M : Md} (s : BdS D h v N M) (c : Chg h h' []) : BdS D h' v N M := s.chg c (by simp)
theorem BdS.imp {D D' : Nat → Prop} {h : St} {v : Value} {N : Nat} {M : Md} (s : BdS D h v N M) (hD : ∀ i, i < h.next → D i → D' i) : BdS D' h v N M := by
  obtain ⟨g, m, e, dg, gm, gn, og, f1, f2, L, ma, r⟩ := s
  exact ⟨g, m, e, hD g gn dg, gm, gn, og, f1, f2, L, ma.imp hD, r⟩
theorem BdS.more {D : Nat → Prop} {h : St} {v : Value} {N N' : Nat} {M : Md} (s : BdS D h v N M) (hN : N ≤ N') : BdS D h v N' M := by
  obtain ⟨g, m, e, dg, gm, gn, og, f1, f2, L, ma, i, l, r⟩ := s
  exact ⟨g, m, e, dg, gm, gn, og, f1, f2, L, ma, i, Nat.le_trans l hN, r⟩
def ptrV (v : Value) : Prop := ∃ g, v = .pointer (some ⟨g, 0, none⟩)
theorem BdS.ptr {D : Nat → Prop} {h : St} {v : Value} {N : Nat} {M : Md} (s : BdS D h v N M) : ptrV v := by obtain ⟨g, m, e, _⟩ := s; exact ⟨g, e⟩
theorem BdS.le {D : Nat → Prop} {h : St} {v : Value} {N : Nat} {M : Md} (s : BdS D h v N M) (p : Nat) : (M p).1 ≤ 6 ∧ (M p).2 ≤ 6 := by obtain ⟨g, m, _, _, _, _, _, f, _⟩ := s; exact f p
theorem BdS.rd {D : Nat → Prop} {h : St} {v : Value} {N : Nat} {M : Md} (s : BdS D h v N M) {p : Nat} (hp : M p ≠ (0, 0)) : rid p := by obtain ⟨g, m, _, _, _, _, _, _, f, _⟩ := s; exact f p hp
theorem isNil_no {v : Value} (g : ptrV v) : binNil .eql .ptr v (.pointer none) = some (.bool false) := by obtain ⟨g, rfl⟩ := g; rfl
theorem isNil_yes : binNil .eql .ptr (.pointer none) (.pointer none) = some (.bool true) := rfl
/-! ### New, Seen -/
def bnewO : Abs.Spec := fun args h k => args = [] ∧ ∀ h' v, Chg h h' [] → ptrV v → BdS (fun i => h.next ≤ i) h' v 0 (fun _ => (0, 0)) → k v h'
theorem bnewO_good : SpecGood Try.prog (7, bnewO) := by
  refine spec_good mixed Try.func7 (by kernel_rfl) (by kernel_rfl) (tab := []) (by simp) (keep := b_New_keep) ?_
  rintro args h k ⟨rfl, H⟩
  refine ⟨0, ?_⟩
  show b_New (tabC _) idG 0 h _
  rw [b_New_eq, makeMapE_eq]
  have c1 : Chg h (h.push (.map [] 0)) [] := Chg.push _ _
  have o1 : (h.push (.map [] 0)).objs h.next = some (.map [] 0) := push_at _ _
  have n1 : (h.push (.map [] 0)).next = h.next + 1 := rfl
  have b : buildV [.map none] (some [(0, 1, .map (some h.next))]) = some (.agg #[.map (some h.next)]) := rfl
  simp only [b, bindV_some]
  refine boxE_in (by rfl) fun h2 c2 n2 o2 => ?_
  refine ⟨h2, St.le.refl _, H h2 _ (c1.seq c2) ⟨_, rfl⟩ ⟨_, h.next, rfl, by omega, by omega, by omega, o2, fun _ => ⟨Nat.zero_le _, Nat.zero_le _⟩, fun _ h => absurd rfl h, [], ⟨Nat.le_refl _, by omega, [], 0, c2.at0 (by omega) o1, rfl, by simp, by simp⟩, Im.nil, Nat.le_refl _, by simp⟩⟩
/-- What is seen of a status. -/
def seenN (s : Int) : Nat := if s = 2 ∨ s = 3 then 2 else if s = 4 ∨ s = 5 then 5 else if s = 1 then 1 else 0
def bseenO : Abs.Spec := fun args h k => ∃ s : Int, args = [.int .i64 s] ∧ k (.int .i64 (seenN s : Int)) h
theorem bseenO_good : SpecGood Try.prog (15, bseenO) := by
  refine spec_good mixed Try.func15 (by kernel_rfl) (by kernel_rfl) (tab := []) (by simp) (keep := b_Seen_keep) ?_
  rintro args h k ⟨s, rfl, H⟩
  refine ⟨0, ?_⟩
  show b_Seen (tabC _) idG 0 (.int .i64 s) h _
  rw [b_Seen_eq]
  unfold seenN at H
  simp only [binNil_int, binV_eql, bindV_some, condK_bool, decide_eq_true_eq]
  by_cases h2 : s = 2
  · rw [if_pos (.inl h2)] at H
    simp only [h2, if_true, decide_true, idG_eq]
    rw [b_Seen_j0_eq]
    simp only [condK_bool, if_true]
    exact ⟨h, St.le.refl _, H⟩
  rw [if_neg h2]
  simp only [binNil_int, binV_eql, bindV_some, idG_eq]
  rw [b_Seen_j0_eq]
  simp only [condK_bool, decide_eq_true_eq]
  by_cases h3 : s = 3
  · rw [if_pos (.inr h3)] at H
    rw [if_pos h3]
    exact ⟨h, St.le.refl _, H⟩
  rw [if_neg (by omega)] at H
  rw [if_neg h3]
  simp only [binNil_int, binV_eql, bindV_some, condK_bool, decide_eq_true_eq]
  by_cases h4 : s = 4
  · rw [if_pos (.inl h4)] at H
    simp only [h4, if_true, decide_true, idG_eq]
    rw [b_Seen_j1_eq]
    simp only [condK_bool, if_true]
    exact ⟨h, St.le.refl _, H⟩
  rw [if_neg h4]
  simp only [binNil_int, binV_eql, bindV_some, idG_eq]
  rw [b_Seen_j1_eq]
  simp only [condK_bool, decide_eq_true_eq]
  by_cases h5 : s = 5
  · rw [if_pos (.inr h5)] at H
    rw [if_pos h5]
    exact ⟨h, St.le.refl _, H⟩
  rw [if_neg (by omega)] at H
  rw [if_neg h5]
  simp only [binNil_int, binV_eql, bindV_some, condK_bool, decide_eq_true_eq]
  by_cases h1 : s = 1
  · rw [if_pos h1] at H
    rw [if_pos h1]
    exact ⟨h, St.le.refl _, H⟩
  rw [if_neg h1] at H
  rw [if_neg h1]
  simp only [idG_eq]
  rw [b_Seen_j2_eq]
  exact ⟨h, St.le.refl _, H⟩
theorem seen_le (s : Int) : seenN s ≤ 6 := by 
  unfold seenN
  split
  · omega
  · split
    · omega
    · split <;> omega
/-! ### put -/
theorem pair_ne {a b : Nat} : (a, b) = ((0, 0) : Mk) ↔ a = 0 ∧ b = 0 := by simp
def bputO : Abs.Spec := fun args h k => ∃ (D : Nat → Prop) (v : Value) (N : Nat) (M : Md) (p s t : Nat), args = [v, .int .u32 (p : Int), mkV (s, t)] ∧ rid p ∧ s ≤ 6 ∧ t ≤ 6 ∧ BdS D h v N M ∧
  ∀ h', ChgP (fun i => D i ∨ h.next ≤ i) h h' → BdS D h' v (if M p = (0, 0) then N + 1 else N) (setM M p (s, t)) → k (.tuple #[]) h'
theorem bputO_good : SpecGood Try.prog (27, bputO) := by
  refine spec_good mixed Try.func27 (by kernel_rfl) (by kernel_rfl) (tab := []) (by simp) (keep := b_put_keep) ?_
  rintro args h k ⟨D, v, N, M, p, s, t, rfl, rp, hs, ht, ⟨g, m, rfl, dg, gm, gn, og, f1, f2, L, ma, im, ll, rl⟩, H⟩
  refine ⟨0, ?_⟩
  show b_put (tabC _) idG 0 (.pointer (some ⟨g, 0, none⟩)) (.int .u32 (p : Int)) (mkV (s, t)) h _
  rw [b_put_eq]
  refine boxE_in rfl fun h1 c1 n1 o1 => ?_
  have o1 : h1.objs h.next = some (.cells [.int .i64 (s : Int), .int .i64 (t : Int)] true) := o1
  have tk : takeN [Value.int .i64 (s : Int), .int .i64 (t : Int)] 0 2 = some [.int .i64 (s : Int), .int .i64 (t : Int)] := rfl
  have ag : Value.agg [Value.int .i64 (s : Int), .int .i64 (t : Int)].toArray = mkV (s, t) := rfl
  have og1 := c1.at0 gn og
  have ma1 : MapB D ekM evM h1 m L := ma.chg c1 (by simp)
  simp only [nilV, offV_ptr, bindV_some, loadV_ptr, og1, loadM_cells, partV_one, List.getElem?_cons_zero, Nat.zero_add]
  refine ⟨trivial, ?_⟩
  simp only [loadV_ptr, o1, loadM_cells, partV_agg, tk, Option.map_some, bindV_some, ag]
  refine ⟨trivial, ?_⟩
  have dm := ma.1
  have mn := ma.2.1
  have hn : m ≠ h.next := by omega
  have fok : ∀ q, ((setM M p (s, t)) q).1 ≤ 6 ∧ ((setM M p (s, t)) q).2 ≤ 6 := fun q => by
    unfold setM; split
    · exact ⟨hs, ht⟩
    · exact f1 q
  have frd : ∀ q, (setM M p (s, t)) q ≠ (0, 0) → rid q := fun q => by
    unfold setM; split
    · rename_i e; intro _; rw [e]; exact rp
    · exact f2 q
  have fin : ∀ L' h', L'.length ≤ (if M p = (0, 0) then N + 1 else N) → Im L' (setM M p (s, t)) → (∀ x ∈ L', rid x.1) → Chg h1 h' [m] → MapB D ekM evM h' m L' → ∃ h2, St.le h2 h' ∧ k (.tuple #[]) h2 := fun L' h' hl is rl' c ma' =>
    have cc : Chg h h' [m] := Chg.trans c1 c (by simp) (by simp)
    ⟨h', St.le.refl _, H h' (cc.toP (by simp [dm])) ⟨g, m, rfl, dg, gm, Nat.lt_of_lt_of_le gn cc.1, cc.at1 gn gm og, fok, frd, L', ma', is, hl, rl'⟩⟩
  -- behind the store
  have rest : ∀ L' h', (∃ x ∈ L', pm p x = true) → L'.length ≤ (if M p = (0, 0) then N + 1 else N) → Im L' (setM M p (s, t)) → (∀ x ∈ L', rid x.1) → Chg h1 h' [m] → MapB D ekM evM h' m L' →
      bindV (offV 0 (.pointer (some ⟨h.next, 0, none⟩))) fun v12 => bindV (loadV false 1 v12 h') fun v13 => bindV (binNil .eql .other v13 (.int .i64 0)) fun v14 => groupK v14 true [undef, undef, undef] h' (fun J4 => bindV (offV 1 (.pointer (some ⟨h.next, 0, none⟩))) fun v16 => bindV (loadV false 1 v16 h') fun v17 => bindV (binNil .eql .other v17 (.int .i64 0)) fun v18 => J4 [v16, v17, v18] h') fun xs5 h6 => idG (bindV (pickV v14 (getT xs5 2) (.bool false)) fun v19 => condK v19 (bindV (nilV (.pointer (some ⟨g, 0, none⟩))) fun v21 => bindV (offV 0 v21) fun v22 => bindV (loadV false 1 v22 h6) fun v23 => deleteE (.int .u32) v23 (.int .u32 (p : Int)) h6 fun _ h8 => (∃ h2, St.le h2 h8 ∧ k (.tuple #[]) h2)) (∃ h2, St.le h2 h6 ∧ k (.tuple #[]) h2)) := by
    intro L' h' hx hl is rl' c ma'
    have o' := c.at1 (by omega) (by omega) o1
    have og' := c.at1 (by omega) gm og1
    have q0 : binNil .eql .other (.int .i64 (s : Int)) (.int .i64 0) = some (.bool (decide (s = 0))) := eqN .i64 s 0
    have q1 : binNil .eql .other (.int .i64 (t : Int)) (.int .i64 0) = some (.bool (decide (t = 0))) := eqN .i64 t 0
    simp only [offV_ptr, bindV_some, loadV_ptr, o', loadM_cells, partV_one, List.getElem?_cons_zero, List.getElem?_cons_succ, Nat.zero_add, q0]
    cases e0 : decide (s = 0) with
    | false =>
      simp only [groupK_eq, guardK_bool, Bool.false_eq_true, if_false, idG_eq, pickV_bool, bindV_some, condK_bool]
      exact fin L' h' hl is rl' c ma'
    | true =>
    simp only [groupK_eq, guardK_bool, if_true, offV_ptr, bindV_some, loadV_ptr, o', loadM_cells, partV_one, List.getElem?_cons_zero, List.getElem?_cons_succ, Nat.zero_add, q1, idG_eq, pickV_bool, getT]
    cases e1 : decide (t = 0) with
    | false =>
      simp only [condK_bool, Bool.false_eq_true, if_false]
      exact fin L' h' hl is rl' c ma'
    | true =>
    simp only [decide_eq_true_eq] at e0 e1
    subst e0 e1
    simp only [condK_bool, if_true, nilV, offV_ptr, bindV_some, loadV_ptr, og', loadM_cells, partV_one, List.getElem?_cons_zero, Nat.zero_add]
    refine MapB.del ma' (p := pm p) (find_M p) (cmp_M p) (fun A x C h8 e1 e2 e3 c8 n8 ma8 => ?_) fun e1 => ?_
    · refine fin (A ++ C) h8 ?_ ?_ (fun y hy => rl' y ?_) (c.trans c8 (by simp) (by simp)) ma8
      · rw [e1] at hl; simp at hl ⊢; omega
      · have := is.del e1 e2
        rw [setM_setM] at this
        exact this
      · rw [e1]
        rcases List.mem_append.1 hy with hy | hy
        · simp [hy]
        · simp [hy]
    · obtain ⟨x, hx, px⟩ := hx
      rw [e1 x hx] at px; cases px
  refine MapB.put ma1 (p := pm p) (p, (s, t)) (find_M p) (cmp_M p) (fun A x C h' e1 e2 e3 c' n' ma' => ⟨⟨trivial, trivial, trivial⟩, ?_⟩) fun e1 h' c' n' ma' => ⟨⟨trivial, trivial, trivial⟩, ?_⟩
  · refine rest _ h' ⟨(p, (s, t)), by simp, by simp [pm]⟩ ?_ (im.set e1 e2) (fun y hy => ?_) c' ma'
    · rw [e1] at ll; simp at ll ⊢; split <;> omega
    · rcases List.mem_append.1 hy with hy | hy
      · exact rl y (by rw [e1]; simp [hy])
      · rcases List.mem_cons.1 hy with rfl | hy
        · exact rp
        · exact rl y (by rw [e1]; simp [hy])
  · refine rest _ h' ⟨(p, (s, t)), by simp, by simp [pm]⟩ ?_ (im.push e1) (fun y hy => ?_) c' ma'
    · rw [if_pos (im.miss e1)]; simp; omega
    · rcases List.mem_append.1 hy with hy | hy
      · exact rl y hy
      · simp only [List.mem_singleton] at hy
        subst hy; exact rp
end Go.Proofs.Ytlohiobliagaoaa
