/- Friends: the graph as a map of pairs; has, put, end, befriend, New. -/
import Derived.Test.YtlohiobliagaoaaAbsMap3
import Derived.Test.YtlohiobliagaoaaRk7
import Derived.Test.YtlohiobliagaoaaGenF
set_option linter.unusedSimpArgs false
set_option linter.unusedVariables false
set_option maxHeartbeats 4000000
namespace Go.Abs
theorem mapEntryE_weak {dd : Prop} {km : KeyMode} {z m m' q q' : Value} {h h' : St} {k : Cont} (em : m = m') (eq : q = q') (eh : h = h') (_t : ((0 : Nat) = 0) = dd) : mapEntryE km z m q h k = mapEntryE km z m' q' h' k := by rw [em, eq, eh]
theorem entryStoreE_weak {dd : Prop} {m m' s s' x x' : Value} {h h' : St} {k : Cont} (em : m = m') (es : s = s') (ex : x = x') (eh : h = h') (_t : ((0 : Nat) = 0) = dd) : entryStoreE m s x h k = entryStoreE m' s' x' h' k := by rw [em, es, ex, eh]
theorem rangeE_weak {dd : Prop} {m m' : Value} {h h' : St} {k : Cont} (em : m = m') (eh : h = h') (_t : ((0 : Nat) = 0) = dd) : rangeE m h k = rangeE m' h' k := by rw [em, eh]
theorem nextE_weak {dd : Prop} {m m' : Value} {b : Bool} {h h' : St} {k : Cont} (em : m = m') (eh : h = h') (_t : ((0 : Nat) = 0) = dd) : nextE m b h k = nextE m' b h' k := by rw [em, eh]
theorem ChgP.out {D : Nat → Prop} {h h' h'' : St} (c : ChgP (fun i => D i ∨ h.next ≤ i) h h') (d : ChgP (fun i => D i ∨ h'.next ≤ i) h' h'') : ChgP (fun i => D i ∨ h.next ≤ i) h h'' :=
  c.trans d (fun _ _ h => h) fun i hi h => h.elim .inl fun h => absurd h (by have := c.1; omega)
theorem ChgP.outw {D : Nat → Prop} {h h' : St} (c : ChgP D h h') : ChgP (fun i => D i ∨ h.next ≤ i) h h' := c.mono fun _ _ h => .inl h
end Go.Abs
namespace Go.Proofs.Ytlohiobliagaoaa
open Go.Abs Go.IntWalk
attribute [local congr] bindV_weak condK_weak guardK_weak groupK_weak allocE_weak boxE_weak storeE_weak storeM_weak tabC_weak ite_weak idG_weak appendE_weak buildSliceE_weak mapUpdateE_weak deleteE_weak makeMapE_weak copyE_weak clearE_weak callE_weak mapEntryE_weak entryStoreE_weak rangeE_weak nextE_weak

/-! ### who is what to whom, plainly -/
abbrev Fn := Nat → Nat → Nat
abbrev Ed := Nat × Nat × Nat
def updF (F : Fn) (a b w : Nat) : Fn := fun c d => if c = a ∧ d = b then w else F c d
structure Is (L : List Ed) (F : Fn) : Prop where
  nd : L.Pairwise fun x y => ¬ (x.1 = y.1 ∧ x.2.1 = y.2.1)
  val : ∀ x ∈ L, F x.1 x.2.1 = x.2.2
  all : ∀ a b, F a b ≠ 0 → (a, b, F a b) ∈ L
def pk (a b : Nat) (x : Ed) : Bool := decide (x.1 = a) && decide (x.2.1 = b)
theorem pk_iff {a b : Nat} {x : Ed} : pk a b x = true ↔ x.1 = a ∧ x.2.1 = b := by simp [pk]
theorem pk_no {a b : Nat} {x : Ed} : pk a b x = false ↔ ¬ (x.1 = a ∧ x.2.1 = b) := by
  rw [← pk_iff]; simp
theorem Is.nil : Is [] fun _ _ => 0 := ⟨.nil, by simp, by simp⟩
theorem Is.hit {L : List Ed} {F : Fn} {A C : List Ed} {x : Ed} {a b : Nat} (i : Is L F) (e : L = A ++ x :: C) (hx : pk a b x = true) : F a b = x.2.2 := by
  obtain ⟨h1, h2⟩ := pk_iff.1 hx
  have := i.val x (by rw [e]; simp)
  rw [h1, h2] at this; exact this
theorem Is.miss {L : List Ed} {F : Fn} {a b : Nat} (i : Is L F) (h : ∀ x ∈ L, pk a b x = false) : F a b = 0 := by
  refine Decidable.byContradiction fun hh => ?_
  have := h _ (i.all a b hh)
  rw [pk_no] at this
  exact this ⟨rfl, rfl⟩
theorem Is.set {L : List Ed} {F : Fn} {A C : List Ed} {x : Ed} {a b w : Nat} (i : Is L F) (e : L = A ++ x :: C) (hx : pk a b x = true) : Is (A ++ (a, b, w) :: C) (updF F a b w) := by
  obtain ⟨h1, h2⟩ := pk_iff.1 hx
  subst e
  obtain ⟨nd, val, all⟩ := i
  rw [List.pairwise_append, List.pairwise_cons] at nd
  obtain ⟨n1, ⟨n2, n3⟩, n4⟩ := nd
  refine ⟨?_, ?_, ?_⟩
  · rw [List.pairwise_append, List.pairwise_cons]
    refine ⟨n1, ⟨fun y hy => ?_, n3⟩, fun y hy z hz => ?_⟩
    · have := n2 y hy; rw [h1, h2] at this; exact this
    · rcases List.mem_cons.1 hz with rfl | hz
      · have := n4 y hy x (by simp); rw [h1, h2] at this; exact this
      · exact n4 y hy z (by simp [hz])
  · intro y hy
    unfold updF
    rcases List.mem_append.1 hy with hy' | hy'
    · have := n4 y hy' x (by simp)
      rw [h1, h2] at this
      rw [if_neg this]; exact val y (by simp [hy'])
    · rcases List.mem_cons.1 hy' with rfl | hy'
      · rw [if_pos ⟨rfl, rfl⟩]
      · have := n2 y hy'
        rw [h1, h2] at this
        rw [if_neg (fun h => this ⟨h.1.symm, h.2.symm⟩)]; exact val y (by simp [hy'])
  · intro c d hcd
    unfold updF at hcd ⊢
    by_cases h : c = a ∧ d = b
    · rw [if_pos h]; obtain ⟨rfl, rfl⟩ := h; simp
    · rw [if_neg h] at hcd ⊢
      have := all c d hcd
      rcases List.mem_append.1 this with m | m
      · simp [m]
      · rcases List.mem_cons.1 m with m | m
        · exfalso
          apply h
          rw [← m] at h1 h2
          exact ⟨h1, h2⟩
        · simp [m]
theorem Is.push {L : List Ed} {F : Fn} {a b w : Nat} (i : Is L F) (h : ∀ x ∈ L, pk a b x = false) : Is (L ++ [(a, b, w)]) (updF F a b w) := by
  obtain ⟨nd, val, all⟩ := i
  have h' : ∀ x ∈ L, ¬ (x.1 = a ∧ x.2.1 = b) := fun x hx => pk_no.1 (h x hx)
  refine ⟨?_, ?_, ?_⟩
  · rw [List.pairwise_append]
    refine ⟨nd, List.pairwise_singleton .., fun y hy z hz => ?_⟩
    simp only [List.mem_singleton] at hz
    subst hz
    exact h' y hy
  · intro y hy
    unfold updF
    rcases List.mem_append.1 hy with hy' | hy'
    · rw [if_neg (h' y hy')]; exact val y hy'
    · simp only [List.mem_singleton] at hy'
      subst hy'; rw [if_pos ⟨rfl, rfl⟩]
  · intro c d hcd
    unfold updF at hcd ⊢
    by_cases hh : c = a ∧ d = b
    · rw [if_pos hh]; obtain ⟨rfl, rfl⟩ := hh; simp
    · rw [if_neg hh] at hcd ⊢
      exact List.mem_append_left _ (all c d hcd)
theorem Is.del {L : List Ed} {F : Fn} {A C : List Ed} {x : Ed} {a b : Nat} (i : Is L F) (e : L = A ++ x :: C) (hx : pk a b x = true) : Is (A ++ C) (updF F a b 0) := by
  obtain ⟨h1, h2⟩ := pk_iff.1 hx
  subst e
  obtain ⟨nd, val, all⟩ := i
  rw [List.pairwise_append, List.pairwise_cons] at nd
  obtain ⟨n1, ⟨n2, n3⟩, n4⟩ := nd
  refine ⟨?_, ?_, ?_⟩
  · rw [List.pairwise_append]
    exact ⟨n1, n3, fun y hy z hz => n4 y hy z (by simp [hz])⟩
  · intro y hy
    unfold updF
    rcases List.mem_append.1 hy with hy' | hy'
    · have := n4 y hy' x (by simp)
      rw [h1, h2] at this
      rw [if_neg this]; exact val y (by simp [hy'])
    · have := n2 y hy'
      rw [h1, h2] at this
      rw [if_neg (fun h => this ⟨h.1.symm, h.2.symm⟩)]; exact val y (by simp [hy'])
  · intro c d hcd
    unfold updF at hcd ⊢
    by_cases h : c = a ∧ d = b
    · rw [if_pos h] at hcd; exact absurd rfl hcd
    · rw [if_neg h] at hcd ⊢
      have := all c d hcd
      rcases List.mem_append.1 this with m | m
      · simp [m]
      · rcases List.mem_cons.1 m with m | m
        · exfalso
          apply h
          rw [← m] at h1 h2
          exact ⟨h1, h2⟩
        · simp [m]
theorem updF_updF (F : Fn) (a b w w' : Nat) : updF (updF F a b w) a b w' = updF F a b w' := by
  funext c d
  unfold updF
  split <;> rfl
theorem updF_self (F : Fn) (a b : Nat) : updF F a b (F a b) = F := by
  funext c d
  unfold updF
  split
  · rename_i h; rw [h.1, h.2]
  · rfl
structure FOk (F : Fn) : Prop where
  lt : ∀ a b, F a b < 8
  rd : ∀ a b, F a b ≠ 0 → rid a ∧ rid b
theorem FOk.none : FOk fun _ _ => 0 := ⟨by simp, by simp⟩
theorem FOk.upd {F : Fn} {a b w : Nat} (f : FOk F) (hw : w < 8) (hr : w ≠ 0 → rid a ∧ rid b) : FOk (updF F a b w) := by
  refine ⟨fun c d => ?_, fun c d h => ?_⟩
  · unfold updF; split
    · exact hw
    · exact f.lt c d
  · unfold updF at h; split at h
    · rename_i e; rw [e.1, e.2]; exact hr h
    · exact f.rd c d h
/-! ### the map -/
def keyE (a b : Nat) : Value := .agg #[.int .u32 (a : Int), .int .u32 (b : Int)]
def ekE (x : Ed) : Value := keyE x.1 x.2.1
def evE (x : Ed) : Value := .int .i64 (x.2.2 : Int)
abbrev kmE : KeyMode := .flat [.i, .i]
theorem lit_ek (x : Ed) : lit (ekE x) = true := rfl
theorem find_nilE (a b : Nat) : find kmE (keyE a b) [] = some none := by
  simp [find, keyE, eqAll, eqCk, findF]
theorem cmp_E (a b : Nat) (x : Ed) : cmpK kmE (keyE a b) (ekE x) = some (pk a b x) := by
  obtain ⟨c, d, w⟩ := x
  simp only [cmpK, keyE, ekE, eqAll, eqCk, if_true, pk]
  by_cases h1 : c = a
  · subst h1
    simp only [beq_self_eq_true, decide_true, Bool.true_and]
    by_cases h2 : d = b
    · subst h2; simp
    · have : ((b : Int) == (d : Int)) = false := by simp; omega
      rw [this]; simp [h2]
  · have : ((a : Int) == (c : Int)) = false := by simp; omega
    rw [this]; simp [h1]
theorem key_E {a b : Nat} {x : Ed} (h : pk a b x = true) : ekE x = keyE a b := by
  obtain ⟨h1, h2⟩ := pk_iff.1 h
  unfold ekE; rw [h1, h2]
theorem lookE {B : Nat → Prop} {h : St} {m : Nat} {L : List Ed} {F : Fn} (a : MapB B ekE evE h m L) (i : Is L F) (x y : Nat) : lookV kmE (.int .i64 0) false (.map (some m)) (keyE x y) h = some (.int .i64 (F x y : Int)) := by
  rcases a.at.look (find_nilE x y) (fun z _ => cmp_E x y z) (.int .i64 0) false with ⟨A, z, C, e1, e2, e3, e4⟩ | ⟨e1, e2⟩
  · rw [e4, i.hit e1 e2]; rfl
  · rw [e2, i.miss e1]; rfl
/-- The graph in memory. -/
def GrS (D : Nat → Prop) (h : St) (v : Value) (N : Nat) (F : Fn) : Prop :=
  ∃ g m, v = .pointer (some ⟨g, 0, none⟩) ∧ D g ∧ g ≠ m ∧ g < h.next ∧ h.objs g = some (.cells [.map (some m)] true) ∧ FOk F ∧ ∃ L : List Ed, MapB D ekE evE h m L ∧ Is L F ∧ L.length ≤ N
theorem GrS.chgP {D E : Nat → Prop} {h h' : St} {v : Value} {N : Nat} {F : Fn} (s : GrS D h v N F) (c : ChgP E h h') (hE : ∀ i, E i → ¬ D i) : GrS D h' v N F := by
  obtain ⟨g, m, e, dg, gm, gn, og, f, L, ma, r⟩ := s
  exact ⟨g, m, e, dg, gm, Nat.lt_of_lt_of_le gn c.1, c.at gn (fun hh => hE _ hh dg) og, f, L, ma.chgP c hE, r⟩
theorem GrS.chg {D : Nat → Prop} {h h' : St} {v : Value} {N : Nat} {F : Fn} {S : List Nat} (s : GrS D h v N F) (c : Chg h h' S) (hS : ∀ i ∈ S, ¬ D i) : GrS D h' v N F := s.chgP (E := (· ∈ S)) (c.toP fun _ h => h) hS
theorem GrS.chg0 {D : Nat → Prop} {h h' : St} {v : Value} {N : Nat} {F : Fn} (s : GrS D h v N F) (c : Chg h h' []) : GrS D h' v N F := s.chg c (by simp)
theorem GrS.imp {D D' : Nat → Prop} {h : St} {v : Value} {N : Nat} {F : Fn} (s : GrS D h v N F) (hD : ∀ i, i < h.next → D i → D' i) : GrS D' h v N F := by
  obtain ⟨g, m, e, dg, gm, gn, og, f, L, ma, r⟩ := s
  exact ⟨g, m, e, hD g gn dg, gm, gn, og, f, L, ma.imp hD, r⟩
theorem GrS.more {D : Nat → Prop} {h : St} {v : Value} {N N' : Nat} {F : Fn} (s : GrS D h v N F) (hN : N ≤ N') : GrS D h v N' F := by
  obtain ⟨g, m, e, dg, gm, gn, og, f, L, ma, i, l⟩ := s
  exact ⟨g, m, e, dg, gm, gn, og, f, L, ma, i, Nat.le_trans l hN⟩
theorem GrS.ok {D : Nat → Prop} {h : St} {v : Value} {N : Nat} {F : Fn} (s : GrS D h v N F) : FOk F := by
  obtain ⟨g, m, e, dg, gm, gn, og, f, _⟩ := s; exact f
/-! ### bits -/
theorem bv_and {w k : Nat} (hw : w < 8) (hk : k < 8) : binV .and .other (.int .i64 (w : Int)) (.int .i64 (k : Int)) = some (.int .i64 ((w &&& k : Nat) : Int)) := by
  have : ∀ w : Nat, w < 8 → ∀ k : Nat, k < 8 → binV .and .other (.int .i64 (w : Int)) (.int .i64 (k : Int)) = some (.int .i64 ((w &&& k : Nat) : Int)) := by
    intro w hw k hk
    match w, hw with
    | 0, _ | 1, _ | 2, _ | 3, _ | 4, _ | 5, _ | 6, _ | 7, _ => match k, hk with
      | 0, _ | 1, _ | 2, _ | 3, _ | 4, _ | 5, _ | 6, _ | 7, _ => rfl
      | n + 8, h => omega
    | n + 8, h => omega
  exact this w hw k hk
theorem bv_or {w k : Nat} (hw : w < 8) (hk : k < 8) : binV .or .other (.int .i64 (w : Int)) (.int .i64 (k : Int)) = some (.int .i64 ((w ||| k : Nat) : Int)) := by
  have : ∀ w : Nat, w < 8 → ∀ k : Nat, k < 8 → binV .or .other (.int .i64 (w : Int)) (.int .i64 (k : Int)) = some (.int .i64 ((w ||| k : Nat) : Int)) := by
    intro w hw k hk
    match w, hw with
    | 0, _ | 1, _ | 2, _ | 3, _ | 4, _ | 5, _ | 6, _ | 7, _ => match k, hk with
      | 0, _ | 1, _ | 2, _ | 3, _ | 4, _ | 5, _ | 6, _ | 7, _ => rfl
      | n + 8, h => omega
    | n + 8, h => omega
  exact this w hw k hk
def clr (w k : Nat) : Nat := w &&& (7 - k)
theorem bv_not {w k : Nat} (hw : w < 8) (hk : k < 8) : binV .andNot .other (.int .i64 (w : Int)) (.int .i64 (k : Int)) = some (.int .i64 ((clr w k : Nat) : Int)) := by
  have : ∀ w : Nat, w < 8 → ∀ k : Nat, k < 8 → binV .andNot .other (.int .i64 (w : Int)) (.int .i64 (k : Int)) = some (.int .i64 ((clr w k : Nat) : Int)) := by
    intro w hw k hk
    match w, hw with
    | 0, _ | 1, _ | 2, _ | 3, _ | 4, _ | 5, _ | 6, _ | 7, _ => match k, hk with
      | 0, _ | 1, _ | 2, _ | 3, _ | 4, _ | 5, _ | 6, _ | 7, _ => rfl
      | n + 8, h => omega
    | n + 8, h => omega
  exact this w hw k hk
theorem or_lt : ∀ w < 8, ∀ k < 8, w ||| k < 8 := by decide
theorem clr_lt : ∀ w < 8, ∀ k < 8, clr w k < 8 := by decide
def bit (w k : Nat) : Bool := decide (w &&& k ≠ 0)
end Go.Proofs.Ytlohiobliagaoaa
