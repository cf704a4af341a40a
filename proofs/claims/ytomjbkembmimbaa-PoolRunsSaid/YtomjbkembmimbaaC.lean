/- 'Least', 'do', the chapter's example, 'PoolNil'. -/
import Derived.Test.YtomjbkembmimbaaB
set_option linter.unusedSimpArgs false
set_option linter.unusedVariables false
set_option maxHeartbeats 4000000
namespace Go.Proofs.Ytomjbkembmimbaa
open Go.Abs Go.IntWalk

def leastL : List Inst → Nat → Nat
  | [], _ => 0
  | x :: A, i => if x.st = 1 then i + 1 else leastL A (i + 1)
def leastZ (P : Pl) : Nat := match P with | none => 0 | some (A, _) => leastL A 0
def leastS : Abs.Spec := fun args h k => ∃ (v : Value) (q : Nat) (P : Pl), args = [v] ∧ PAt h v q P ∧ ∀ h', Chg h h' [] → k (.int .u32 (leastZ P)) h'
theorem least_l0 {q nn : Nat} {x2 : Value} {A : List Inst} {h0 : St} {K : Cont} (hA : A.length ≤ 16) (hq : q < h0.next) (ho : h0.objs q = some (.cells (flat A) true)) :
    ∀ (d i m0 : Nat) (h : St), i + d = A.length → d < m0 → Chg h0 h [] → (∀ h', Chg h0 h' [] → K (.int .u32 (leastL (A.drop i) i)) h') →
      pool_Pool_Least_l0 (tabC []) idG nn m0 x2 (.slice (some ⟨q, 0, some 3⟩) A.length 0) (.int .i64 A.length) (.int .i64 i) h K := by
  intro d
  induction d with
  | zero =>
    intro i m0 h hi hm c H
    obtain ⟨m0, rfl⟩ : ∃ m, m0 = m + 1 := ⟨m0 - 1, by omega⟩
    rw [pool_Pool_Least_l0_eq]
    have e : i = A.length := by omega
    subst e
    rw [List.drop_length] at H
    simp only [bindV_some, binV_lss, condK_bool, Int.lt_irrefl, decide_false, Bool.false_eq_true, if_false, idG_eq]
    rw [pool_Pool_Least_j1_eq]
    exact H h c
  | succ d ih =>
    intro i m0 h hi hm c H
    obtain ⟨m0, rfl⟩ : ∃ m, m0 = m + 1 := ⟨m0 - 1, by omega⟩
    rw [pool_Pool_Least_l0_eq]
    have hlt : (i : Int) < A.length := by omega
    have hi' : i < A.length := by omega
    have hd : A.drop i = A[i] :: A.drop (i + 1) := List.drop_eq_getElem_cons hi'
    rw [hd] at H
    simp only [leastL] at H
    have f := flat_take (A := A) (i := i) (x := A[i]) (List.getElem?_eq_getElem hi')
    have o1 := c.at hq (by simp) ho
    have hx : idxS 3 (.slice (some ⟨q, 0, some 3⟩) A.length 0) (.int .i64 (i : Int)) = some (.pointer (some ⟨q, i * 3, none⟩)) := by simp [idxS, hi']
    have c2 : Chg h0 ((h.push (.cells [.int .i64 0, .int .u32 0, .int .i64 0] true)).set h.next (.cells [.int .i64 A[i].st, .int .u32 A[i].m, .int .i64 A[i].last] true)) [] := Chg.of_set (Chg.of_push c) (.inr c.1)
    have inc : IntKind.i64.wrap ((i : Int) + 1) = ((i + 1 : Nat) : Int) := by rw [i64_in _ (by omega)]; omega
    have w1 : IntKind.u32.wrap (i : Int) = i := u32_in _ (by omega)
    have w2 : IntKind.u32.wrap ((i : Int) + 1) = ((i + 1 : Nat) : Int) := by rw [u32_in _ (by omega)]; omega
    by_cases h1 : A[i].st = 1
    · rw [if_pos h1] at H
      have ic : (i : Int) + 1 = ((i + 1 : Nat) : Int) := by omega
      simp [hi', hx, o1, f, cellsI, h1, w1, w2]
      rw [h1] at c2
      first | exact H _ c2 | (rw [ic]; exact H _ c2)
    · rw [if_neg h1] at H
      have ic : (i : Int) + 1 = ((i + 1 : Nat) : Int) := by omega
      simp [hi', hx, o1, f, cellsI, h1, inc]
      rw [ic]
      exact ih (i + 1) m0 _ (by omega) (by omega) c2 H
theorem leastS_good : SpecGood Try.prog (21, leastS) := by
  refine spec_good mixed Try.func21 (by kernel_rfl) (by kernel_rfl) (tab := []) (by simp) (keep := pool_Pool_Least_keep) ?_
  rintro args h k ⟨v, q, P, rfl, p, H⟩
  refine ⟨20, ?_⟩
  show pool_Pool_Least (tabC []) idG 20 v h _
  rw [pool_Pool_Least_eq]
  match P, p with
  | none, p =>
    have p : v = .pointer none := p
    subst p
    simp
    rw [pool_Pool_Least_j1_eq]
    exact ⟨_, St.le.refl _, H h (Chg.refl _ _)⟩
  | some (A, b), ⟨p, h1, h2, h3, h4, h5, h6, h7⟩ =>
    subst h1
    simp [h6]
    exact least_l0 h5 h3 h7 A.length 0 20 h (by omega) (by omega) (Chg.refl _ _) fun h' c => ⟨_, St.le.refl _, by rw [List.drop_zero]; exact H h' c⟩

/-! ### an act -/
structure Act where
  d : Nat
  id : Nat
  m : Int
  now : Int
def encA (a : Act) : Value := .agg #[.int .u8 a.d, .int .u32 a.id, .int .u32 a.m, .int .i64 a.now]
def doZ (P : Pl) (a : Act) : Int × Int × Pl :=
  if a.d = 0 then ((bareZ (touchZ (moveZ P a.id 1 [0, 1, 2, 3, 4, 5]).2.2 (moveZ P a.id 1 [0, 1, 2, 3, 4, 5]).1 a.now) (moveZ P a.id 1 [0, 1, 2, 3, 4, 5]).1).1, (moveZ P a.id 1 [0, 1, 2, 3, 4, 5]).2.1, (bareZ (touchZ (moveZ P a.id 1 [0, 1, 2, 3, 4, 5]).2.2 (moveZ P a.id 1 [0, 1, 2, 3, 4, 5]).1 a.now) (moveZ P a.id 1 [0, 1, 2, 3, 4, 5]).1).2)
  else if a.d = 1 then (0, (beatZ P a.id a.now).1, (beatZ P a.id a.now).2)
  else if a.d = 2 then (0, (holdZ P a.id a.m).1, (holdZ P a.id a.m).2)
  else if a.d = 3 then (0, (moveZ P a.id 3 [2]).2.1, touchZ (moveZ P a.id 3 [2]).2.2 (moveZ P a.id 3 [2]).1 a.now)
  else if a.d = 4 then (0, (moveZ P a.id 4 [3]).2.1, touchZ (moveZ P a.id 4 [3]).2.2 (moveZ P a.id 4 [3]).1 a.now)
  else if a.d = 5 then (0, (moveZ P a.id 1 [2]).2.1, (bareZ (moveZ P a.id 1 [2]).2.2 (moveZ P a.id 1 [2]).1).2)
  else if a.d = 6 then (0, (moveZ P a.id 5 [3, 4]).2.1, (bareZ (moveZ P a.id 5 [3, 4]).2.2 (moveZ P a.id 5 [3, 4]).1).2)
  else if a.d = 7 then (0, (moveZ P a.id 1 [5]).2.1, touchZ (moveZ P a.id 1 [5]).2.2 (moveZ P a.id 1 [5]).1 a.now)
  else ((bareZ (moveZ P a.id 0 [1, 2, 3, 4, 5]).2.2 (moveZ P a.id 0 [1, 2, 3, 4, 5]).1).1, (moveZ P a.id 0 [1, 2, 3, 4, 5]).2.1, (bareZ (moveZ P a.id 0 [1, 2, 3, 4, 5]).2.2 (moveZ P a.id 0 [1, 2, 3, 4, 5]).1).2)
def tabD : List (FuncId × Abs.Spec) := [(11, helloS), (16, beatS), (12, holdS), (13, startS), (24, upS), (25, letGoS), (26, drainS), (27, freedS), (17, killS)]
theorem tabD_good : ∀ p ∈ tabD, SpecGood Try.prog p := by simp [tabD, helloS_good, beatS_good, holdS_good, startS_good, upS_good, letGoS_good, drainS_good, freedS_good, killS_good]
def doS : Abs.Spec := fun args h k => ∃ (v : Value) (q : Nat) (P : Pl) (a : Act), args = [v, encA a] ∧ a.id < 4294967296 ∧ PAt h v q P ∧ ∀ h', Chg h h' [q] → PAt h' v q (doZ P a).2.2 → k (.tuple #[.int .u32 (doZ P a).1, .int .i64 (doZ P a).2.1]) h'
theorem doS_good : SpecGood Try.prog (9, doS) := by
  refine spec_good mixed Try.func9 (by kernel_rfl) (by kernel_rfl) tabD_good (keep := tiltyardlaw21_do_keep) ?_
  rintro args h k ⟨v, q, P, ⟨d, id, m, now⟩, rfl, hid, p, H⟩
  simp only at hid
  refine ⟨0, ?_⟩
  show tiltyardlaw21_do (tabC tabD) idG 0 v (.agg #[.int .u8 d, .int .u32 id, .int .u32 m, .int .i64 now]) h _
  rw [tiltyardlaw21_do_eq]
  have c0 := Chg.push (h := h) (.cells [.int .u8 d, .int .u32 id, .int .u32 m, .int .i64 now] true) []
  have p0 := p.chg c0 (by simp)
  have H' : ∀ h', Chg (h.push (.cells [.int .u8 d, .int .u32 id, .int .u32 m, .int .i64 now] true)) h' [q] → PAt h' v q (doZ P ⟨d, id, m, now⟩).2.2 → ∃ h2, St.le h2 h' ∧ k (.tuple #[.int .u32 (doZ P ⟨d, id, m, now⟩).1, .int .i64 (doZ P ⟨d, id, m, now⟩).2.1]) h2 := fun h' c p => ⟨_, St.le.refl _, H h' (chg_push c) p⟩
  clear H c0 p
  by_cases e0 : d = 0
  · subst e0
    simp
    refine .inl ⟨rfl, v, q, P, id, now, rfl, hid, p0, fun h1 c1 p1 => ?_⟩
    simp
    exact H' h1 c1 p1
  have f0 : ¬ ((d : Int) = 0) := by omega
  by_cases e1 : d = 1
  · subst e1
    simp
    refine .inr (.inl ⟨rfl, v, q, P, id, now, rfl, hid, p0, fun h1 c1 p1 => ?_⟩)
    simp
    exact H' h1 c1 p1
  have f1 : ¬ ((d : Int) = 1) := by omega
  by_cases e2 : d = 2
  · subst e2
    simp
    refine .inr (.inr (.inl ⟨rfl, v, q, P, id, m, rfl, hid, p0, fun h1 c1 p1 => ?_⟩))
    simp
    exact H' h1 c1 p1
  have f2 : ¬ ((d : Int) = 2) := by omega
  by_cases e3 : d = 3
  · subst e3
    simp
    refine .inr (.inr (.inr (.inl ⟨rfl, v, q, P, id, now, rfl, hid, p0, fun h1 c1 p1 => ?_⟩)))
    simp
    exact H' h1 c1 p1
  have f3 : ¬ ((d : Int) = 3) := by omega
  by_cases e4 : d = 4
  · subst e4
    simp
    refine .inr (.inr (.inr (.inr (.inl ⟨rfl, v, q, P, id, now, rfl, hid, p0, fun h1 c1 p1 => ?_⟩))))
    simp
    exact H' h1 c1 p1
  have f4 : ¬ ((d : Int) = 4) := by omega
  by_cases e5 : d = 5
  · subst e5
    simp
    refine .inr (.inr (.inr (.inr (.inr (.inl ⟨rfl, v, q, P, id, rfl, hid, p0, fun h1 c1 p1 => ?_⟩)))))
    simp
    exact H' h1 c1 p1
  have f5 : ¬ ((d : Int) = 5) := by omega
  by_cases e6 : d = 6
  · subst e6
    simp
    refine .inr (.inr (.inr (.inr (.inr (.inr (.inl ⟨rfl, v, q, P, id, rfl, hid, p0, fun h1 c1 p1 => ?_⟩))))))
    simp
    exact H' h1 c1 p1
  have f6 : ¬ ((d : Int) = 6) := by omega
  by_cases e7 : d = 7
  · subst e7
    simp
    refine .inr (.inr (.inr (.inr (.inr (.inr (.inr (.inl ⟨rfl, v, q, P, id, now, rfl, hid, p0, fun h1 c1 p1 => ?_⟩)))))))
    simp
    exact H' h1 c1 p1
  have f7 : ¬ ((d : Int) = 7) := by omega
  have hd : doZ P ⟨d, id, m, now⟩ = ((bareZ (moveZ P id 0 [1, 2, 3, 4, 5]).2.2 (moveZ P id 0 [1, 2, 3, 4, 5]).1).1, (moveZ P id 0 [1, 2, 3, 4, 5]).2.1, (bareZ (moveZ P id 0 [1, 2, 3, 4, 5]).2.2 (moveZ P id 0 [1, 2, 3, 4, 5]).1).2) := by simp [doZ, e0, e1, e2, e3, e4, e5, e6, e7]
  rw [hd] at H'
  simp [e0, f1, f2, f3, f4, f5, f6, f7]
  refine .inr (.inr (.inr (.inr (.inr (.inr (.inr (.inr (.inl ⟨rfl, v, q, P, id, rfl, hid, p0, fun h1 c1 p1 => ?_⟩))))))))
  simp
  exact H' h1 c1 p1

/-! ### the chapter's example -/
def tabW : List (FuncId × Abs.Spec) := [(7, newS), (11, helloS), (21, leastS), (12, holdS), (13, startS), (24, upS), (26, drainS), (27, freedS)]
theorem tabW_good : ∀ p ∈ tabW, SpecGood Try.prog p := by simp [tabW, newS_good, helloS_good, leastS_good, holdS_good, startS_good, upS_good, drainS_good, freedS_good]
def awakeS : Abs.Spec := fun args h k => args = [] ∧ ∀ h', Chg h h' [] → k (.bool true) h'
theorem awakeS_good : SpecGood Try.prog (10, awakeS) := by
  refine spec_good mixed Try.func10 (by kernel_rfl) (by kernel_rfl) tabW_good (keep := tiltyardlaw21_awake_keep) ?_
  rintro args h k ⟨rfl, H⟩
  refine ⟨0, ?_⟩
  show tiltyardlaw21_awake (tabC tabW) idG 0 h _
  rw [tiltyardlaw21_awake_eq]
  refine .inl ⟨rfl, 2, 5, rfl, fun h1 v q c1 hq p1 ⟨pp, hv, hp⟩ => ?_⟩
  refine .inr (.inl ⟨rfl, v, q, _, 2, 0, rfl, by omega, p1, fun h2 c2 p2 => ?_⟩)
  have p2 : PAt h2 v q (some ([⟨0, 0, 0⟩, ⟨1, 0, 0⟩], 5)) := p2
  have x2 : (moveZ (newZ 2 5) 2 1 [0, 1, 2, 3, 4, 5]).2.1 = 0 := by decide
  simp only [extV_two0, extV_two1, bindV_some, x2]
  refine .inr (.inr (.inl ⟨rfl, v, q, _, rfl, p2, fun h3 c3 => ?_⟩))
  have p3 := p2.chg c3 (by simp)
  have x3 : leastZ (some ([⟨0, 0, 0⟩, ⟨1, 0, 0⟩], 5)) = 2 := by decide
  rw [x3]
  refine .inr (.inr (.inr (.inl ⟨rfl, v, q, _, 2, 9, rfl, by omega, p3, fun h4 c4 p4 => ?_⟩)))
  have p4 : PAt h4 v q (some ([⟨0, 0, 0⟩, ⟨2, 9, 0⟩], 5)) := p4
  have x4 : (holdZ (some ([⟨0, 0, 0⟩, ⟨1, 0, 0⟩], 5)) 2 9).1 = 0 := by decide
  rw [x4]
  refine .inr (.inr (.inl ⟨rfl, v, q, _, rfl, p4, fun h5 c5 => ?_⟩))
  have p5 := p4.chg c5 (by simp)
  have x5 : leastZ (some ([⟨0, 0, 0⟩, ⟨2, 9, 0⟩], 5)) = 0 := by decide
  rw [x5]
  refine .inr (.inr (.inr (.inr (.inl ⟨rfl, v, q, _, 2, 0, rfl, by omega, p5, fun h6 c6 p6 => ?_⟩))))
  have p6 : PAt h6 v q (some ([⟨0, 0, 0⟩, ⟨3, 9, 0⟩], 5)) := p6
  have x6 : (moveZ (some ([⟨0, 0, 0⟩, ⟨2, 9, 0⟩], 5)) 2 3 [2]).2.1 = 0 := by decide
  rw [x6]
  refine .inr (.inr (.inr (.inr (.inr (.inl ⟨rfl, v, q, _, 2, 0, rfl, by omega, p6, fun h7 c7 p7 => ?_⟩)))))
  have p7 : PAt h7 v q (some ([⟨0, 0, 0⟩, ⟨4, 9, 0⟩], 5)) := p7
  have x7 : (moveZ (some ([⟨0, 0, 0⟩, ⟨3, 9, 0⟩], 5)) 2 4 [3]).2.1 = 0 := by decide
  rw [x7]
  refine .inr (.inr (.inr (.inr (.inr (.inr (.inl ⟨rfl, v, q, _, 2, rfl, by omega, p7, fun h8 c8 p8 => ?_⟩))))))
  have p8 : PAt h8 v q (some ([⟨0, 0, 0⟩, ⟨5, 0, 0⟩], 5)) := p8
  have x8 : (moveZ (some ([⟨0, 0, 0⟩, ⟨4, 9, 0⟩], 5)) 2 5 [3, 4]).2.1 = 0 := by decide
  rw [x8]
  refine .inr (.inr (.inr (.inr (.inr (.inr (.inr (.inl ⟨rfl, v, q, _, 2, 0, rfl, by omega, p8, fun h9 c9 p9 => ?_⟩)))))))
  have p9 : PAt h9 v q (some ([⟨0, 0, 0⟩, ⟨1, 0, 0⟩], 5)) := p9
  have x9 : (moveZ (some ([⟨0, 0, 0⟩, ⟨5, 0, 0⟩], 5)) 2 1 [5]).2.1 = 0 := by decide
  rw [x9]
  simp [groupK_eq, getT]
  refine .inr (.inr (.inl ⟨rfl, v, q, _, rfl, p9, fun h10 c10 => ?_⟩))
  rw [x3]
  simp
  have cq : ∀ i, i < h.next → i ∉ [q] := by intro i hi hm; simp at hm; omega
  have step : ∀ {a b : St} {S : List Nat}, Chg h a [] → Chg a b S → (∀ i ∈ S, i = q) → Chg h b [] := fun ca cb hS => ca.of_chg cb fun i hi => .inr (by rw [hS i hi]; exact hq)
  have n0 : ∀ i ∈ ([] : List Nat), i = q := by simp
  have n1 : ∀ i ∈ [q], i = q := by simp
  exact ⟨_, St.le.refl _, H _ (step (step (step (step (step (step (step (step (step c1 c2 n1) c3 n0) c4 n1) c5 n0) c6 n1) c7 n1) c8 n1) c9 n1) c10 n0)⟩
end Go.Proofs.Ytomjbkembmimbaa
