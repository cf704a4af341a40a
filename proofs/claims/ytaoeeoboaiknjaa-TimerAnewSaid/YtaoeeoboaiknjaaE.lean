/- The queue of timers: what each function does to the list of them. -/
import Derived.Test.YtaoeeoboaiknjaaD
import Derived.Test.YtaoeeoboaiknjaaAbsMap
set_option linter.unusedSimpArgs false
set_option linter.unusedVariables false
set_option maxHeartbeats 4000000
namespace Go.Proofs.Ytaoeeoboaiknjaa
open Go.Abs Go.IntWalk
attribute [local congr] bindV_weak condK_weak guardK_weak groupK_weak allocE_weak boxE_weak storeE_weak storeM_weak tabC_weak ite_weak idG_weak appendE_weak buildSliceE_weak invokeE_weak mapUpdateE_weak deleteE_weak makeMapE_weak

def keyV (k i : Int) : Value := .agg #[.int .i64 k, .int .u32 i]
def ekT (x : It) : Value := keyV x.kind x.id
def evT (x : It) : Value := ptr x.blk
def isT (k i : Int) (x : It) : Bool := decide (k = x.kind) && decide (i = x.id)
theorem key_nil (k i : Int) : find (.flat [.i, .i]) (keyV k i) [] = some none := by simp [find, keyV, eqAll, eqCk, findF]
theorem key_cmp (k i : Int) (x : It) : cmpK (.flat [.i, .i]) (keyV k i) (ekT x) = some (isT k i x) := by
  simp only [cmpK, keyV, ekT, eqAll, eqCk, isT, if_true]
  by_cases h1 : k = x.kind
  · by_cases h2 : i = x.id
    · simp [h1, h2]
    · have : (i == x.id) = false := by simpa using h2
      simp [h1, h2, this]
  · have : (k == x.kind) = false := by simpa using h1
    simp [h1, this]
/-- A queue of timers, in the order in which they were set; the number of the last one. -/
def QS (D : Nat → Prop) (h : St) (Q : Nat) (L : List It) (s : Int) : Prop :=
  ∃ sv m f, HS (fun i => D i ∧ i ≠ m) h Q sv (.map (some m)) (.int .i64 s) f L.length ∧ HeapF f L.length ∧ (∀ x, Mem f L.length x ↔ x ∈ L) ∧ MapAt D ekT evT h m L ∧ L.Pairwise (fun x y => x.seq < y.seq ∧ isT x.kind x.id y = false) ∧ ∀ x ∈ L, x.seq ≤ s
theorem QS.chgP {D E : Nat → Prop} {h h' : St} {Q : Nat} {L : List It} {s : Int} (a : QS D h Q L s) (c : ChgP E h h') (hE : ∀ i, E i → ¬ D i) : QS D h' Q L s := by
  obtain ⟨sv, m, f, a1, a2, a3, a4, a5⟩ := a
  exact ⟨sv, m, f, a1.chgP c (fun i h1 h2 => hE i h1 h2.1), a2, a3, a4.chgP c hE, a5⟩
theorem QS.imp {D E : Nat → Prop} {h : St} {Q : Nat} {L : List It} {s : Int} (a : QS D h Q L s) (hE : ∀ i, i < h.next → D i → E i) : QS E h Q L s := by
  obtain ⟨sv, m, f, a1, a2, a3, a4, a5⟩ := a
  exact ⟨sv, m, f, a1.imp (fun i h1 h2 => ⟨hE i h1 h2.1, h2.2⟩), a2, a3, a4.imp hE, a5⟩
theorem QS.pn {D : Nat → Prop} {h : St} {Q : Nat} {L : List It} {s : Int} (a : QS D h Q L s) : Q < h.next := by
  obtain ⟨sv, m, f, a1, _⟩ := a
  exact a1.1
def outT (L : List It) (k i : Int) : List It := L.filter fun x => !isT k i x
theorem outT_none {L : List It} {k i : Int} (h : ∀ x ∈ L, isT k i x = false) : outT L k i = L := by
  unfold outT
  rw [List.filter_eq_self]
  intro x hx
  simp [h x hx]
theorem isT_iff {k i : Int} {x : It} : isT k i x = true ↔ k = x.kind ∧ i = x.id := by simp [isT]
theorem outT_split {A C : List It} {x : It} {k i : Int} (hx : isT k i x = true) (hA : ∀ y ∈ A, isT k i y = false) (pw : (A ++ x :: C).Pairwise (fun x y => x.seq < y.seq ∧ isT x.kind x.id y = false)) : outT (A ++ x :: C) k i = A ++ C := by
  obtain ⟨e1, e2⟩ := isT_iff.1 hx
  have hC : ∀ y ∈ C, isT k i y = false := by
    intro y hy
    have := (List.pairwise_append.1 pw).2.1
    have := (List.pairwise_cons.1 this).1 y hy
    rw [e1, e2]; exact this.2
  have c1 : outT A k i = A := outT_none hA
  have c2 : outT C k i = C := outT_none hC
  simp only [outT, List.filter_append, List.filter_cons, hx] at c1 c2 ⊢
  rw [c1, c2]
  simp
theorem pw_out {L : List It} {k i : Int} (pw : L.Pairwise (fun x y => x.seq < y.seq ∧ isT x.kind x.id y = false)) : (outT L k i).Pairwise (fun x y => x.seq < y.seq ∧ isT x.kind x.id y = false) := pw.filter _

/-! ### a new one -/
def newS : Abs.Spec := fun args h k => args = [] ∧ ∀ h' Q, Chg h h' [] → h.next ≤ Q → QS (fun i => h.next ≤ i ∧ i < h'.next) h' Q [] 0 → k (ptr Q) h'
theorem newS_good : SpecGood Try.prog (11, newS) := by
  refine spec_good mixed Try.func11 (by kernel_rfl) (by kernel_rfl) (tab := []) (by simp) (keep := timer_New_keep) ?_
  rintro args h k ⟨rfl, H⟩
  refine ⟨0, ?_⟩
  show timer_New (tabC []) idG 0 h _
  rw [timer_New_eq]
  have hb : buildV [.slice none 0 0, .map none, .int .i64 0] (some [(1, 1, .map (some h.next))]) = some (.agg #[.slice none 0 0, .map (some h.next), .int .i64 0]) := rfl
  simp only [makeMapE_eq, bindV_some, hb, boxE_eq]
  refine ⟨rfl, _, St.le.refl _, H _ _ ((Chg.push _ []).trans (Chg.push _ []) (by simp) (by simp)) (by simp) ⟨.slice none 0 0, h.next, fun _ => ⟨0, 0, 0, 0, 0⟩, ⟨by simp, ⟨⟨by simp, by simp⟩, by simp⟩, push_at _ _, .inl ⟨rfl, rfl⟩, fun k hk => absurd hk (by simp), fun i j hi => absurd hi (by simp)⟩, fun k _ hk => absurd hk (by simp), ?_, ⟨⟨by simp, by simp; omega⟩, by simp; omega, [], 0, ?_, rfl⟩, by simp, by simp⟩⟩
  · intro x
    constructor
    · rintro ⟨k, hk, _⟩; simp at hk
    · intro h; simp at h
  · rw [push_ne (by simp)]; exact push_at _ _
/-! ### how many -/
def lenS : Abs.Spec := fun args h k => ∃ D Q L s, args = [ptr Q] ∧ QS D h Q L s ∧ k (.int .i64 (L.length : Nat)) h
theorem lenS_good : SpecGood Try.prog (14, lenS) := by
  refine spec_good mixed Try.func14 (by kernel_rfl) (by kernel_rfl) (tab := []) (by simp) (keep := timer_Queue_Len_keep) ?_
  rintro args h k ⟨D, Q, L, s, rfl, ⟨sv, m, f, hs, _⟩, H⟩
  refine ⟨0, ?_⟩
  show timer_Queue_Len (tabC []) idG 0 (ptr Q) h _
  rw [timer_Queue_Len_eq]
  obtain ⟨_, _, o, a, _⟩ := hs
  simp only [ptr, binNil_ptr_eql, bindV_some, Option.isNone, condK_bool, Bool.false_eq_true, if_false, idG_eq]
  simp only [nilV_ptr, offV_ptr, bindV_some, loadV_ptr, Nat.zero_add, o, loadM_cells, partV_one, List.getElem?_cons_zero, a.len]
  exact ⟨h, St.le.refl _, H⟩
/-! ### one taken away -/
theorem len_split {A C : List It} {x : It} : (A ++ x :: C).length = (A ++ C).length + 1 := by simp; omega
def tabC0 : List (FuncId × Abs.Spec) := [(25, outS)]
theorem tabC0_good : ∀ p ∈ tabC0, SpecGood Try.prog p := by simp [tabC0, outS_good]
def clearS : Abs.Spec := fun args h k => ∃ D Q L s kd id, args = [ptr Q, .int .i64 kd, .int .u32 id] ∧ L.length ≤ 1000000 ∧ QS D h Q L s ∧
  ∀ h', ChgP D h h' → QS D h' Q (outT L kd id) s → k (.bool (L.any (isT kd id))) h'
theorem clearS_good : SpecGood Try.prog (16, clearS) := by
  refine spec_good mixed Try.func16 (by kernel_rfl) (by kernel_rfl) (tab := tabC0) tabC0_good (keep := timer_Queue_Clear_keep) ?_
  rintro args h k ⟨D, Q, L, s, kd, id, rfl, hl, q, H⟩
  refine ⟨0, ?_⟩
  show timer_Queue_Clear (tabC tabC0) idG 0 (ptr Q) (.int .i64 kd) (.int .u32 id) h _
  rw [timer_Queue_Clear_eq]
  have q0 := q
  obtain ⟨sv, m, f, hs, hf, mm, ma, pw, sq⟩ := q
  obtain ⟨b1, b2, b3, a, it, inj⟩ := _root_.id hs
  have hb : buildV [.int .i64 0, .int .u32 0] (some [(0, 1, .int .i64 kd), (1, 1, .int .u32 id)]) = some (keyV kd id) := rfl
  simp only [ptr, binNil_ptr_eql, bindV_some, Option.isNone, condK_bool, Bool.false_eq_true, if_false, idG_eq]
  simp only [nilV_ptr, offV_ptr, bindV_some, loadV_ptr, Nat.zero_add, b3, loadM_cells, partV_one, List.getElem?_cons_succ, List.getElem?_cons_zero, hb]
  rcases ma.look (key_nil kd id) (fun x _ => key_cmp kd id x) (.pointer none) true with ⟨A, x, C, rfl, px, pA, e⟩ | ⟨pL, e⟩
  · have hx : Mem f (A ++ x :: C).length x := (mm x).2 (by simp)
    obtain ⟨p, hp, fp⟩ := hx
    obtain ⟨i1, i2, i3, oi⟩ := it p hp
    rw [fp] at i1 i2 i3 oi
    simp only [e, bindV_some, outV_true, evT, extV_two0, extV_two1, condK_bool, if_true, ptr, nilV_ptr, offV_ptr, Nat.zero_add, loadV_ptr, oi, itemC, loadM_cells, partV_one, List.getElem?_cons_succ, List.getElem?_cons_zero, ifaceV]
    rw [len_split] at hs hf mm hp hl
    refine ⟨trivial, .inl ⟨rfl, _, Q, sv, _, _, f, (A ++ C).length, p, rfl, by omega, hp, hs, hf, fun v h1 sv1 f1 c1 hs1 hf1 m1 => ?_⟩⟩
    refine ⟨⟨trivial, trivial⟩, ?_⟩
    obtain ⟨d1, d2, d3, d4⟩ := hs1
    have hs1 : HS (fun i => D i ∧ i ≠ m) h1 Q sv1 (.map (some m)) (.int .i64 s) f1 (A ++ C).length := ⟨d1, d2, d3, d4⟩
    have ma1 : MapAt (fun i => D i ∧ i = m) ekT evT h1 m (A ++ x :: C) := MapAt.chgP ⟨⟨ma.1, rfl⟩, ma.2⟩ c1 (fun i h1 h2 => h1.2 h2.2)
    simp only [ptr, nilV_ptr, offV_ptr, bindV_some, loadV_ptr, Nat.zero_add, d3, loadM_cells, partV_one, List.getElem?_cons_succ, List.getElem?_cons_zero, hb]
    have out := outT_split px pA pw
    have any : (A ++ x :: C).any (isT kd id) = true := by simp [px]
    rw [out, any] at H
    have pw' := pw_out (k := kd) (i := id) pw
    rw [out] at pw'
    have mdel : ∀ y, y ∈ A ++ C ↔ y ∈ A ++ x :: C ∧ y ≠ x := by
      intro y
      have nx : x ∉ A ++ C := by
        rw [← out]
        simp [outT, px]
      constructor
      · intro hy
        exact ⟨by simp only [List.mem_append, List.mem_cons] at hy ⊢; rcases hy with h | h; exact .inl h; exact .inr (.inr h), fun e => nx (e ▸ hy)⟩
      · rintro ⟨hy, ne⟩
        simp only [List.mem_append, List.mem_cons] at hy ⊢
        rcases hy with h | h | h
        · exact .inl h
        · exact absurd h ne
        · exact .inr h
    refine ma1.del (km := .flat [.i, .i]) (key_nil kd id) (fun y _ => key_cmp kd id y) (fun A' x' C' h2 e' px' pA' c2 n2 ma2 => ?_) (fun hn => ?_)
    · have out' := outT_split (C := C') px' pA' (e' ▸ pw)
      rw [← e', out] at out'
      rw [← out'] at ma2
      simp only [idG_eq]
      rw [timer_Queue_Clear_j0_eq]
      have dm : D m := ma.1
      refine ⟨h2, St.le.refl _, H h2 ((c1.mono fun i _ h => h.1).of_chg c2 (fun i hi => by simp at hi; subst hi; exact .inl dm)) ⟨sv1, m, f1, hs1.chgP (c2.toP (D := (· = m)) (by simp)) (fun i h1 h2 => h2.2 h1), hf1, fun y => ?_, ma2.imp fun i _ h => h.1, pw', fun y hy => sq y ((mdel y).1 hy).1⟩⟩
      rw [m1 y, mm y, fp, mdel y]
    · have := hn x (by simp)
      rw [px] at this; cases this
  · have out := outT_none pL
    have any : L.any (isT kd id) = false := by
      rw [List.any_eq_false]
      intro x hx
      simp [pL x hx]
    rw [out, any] at H
    simp only [e, bindV_some, outV_true, extV_two0, extV_two1, condK_bool, Bool.false_eq_true, if_false, idG_eq]
    rw [timer_Queue_Clear_j0_eq]
    exact ⟨h, St.le.refl _, H h (ChgP.refl _ _) q0⟩
end Go.Proofs.Ytaoeeoboaiknjaa
