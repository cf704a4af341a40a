/- The pool's functions. -/
import Derived.Test.YtomjbkembmimbaaA
set_option linter.unusedSimpArgs false
set_option linter.unusedVariables false
set_option maxHeartbeats 4000000
namespace Go.Proofs.Ytomjbkembmimbaa
open Go.Abs Go.IntWalk

theorem map_flatZ (l : List Int) : l.map (Value.int .i64) = l.flatMap fun x => [.int .i64 x] := by
  induction l with
  | nil => rfl
  | cons x l ih => rw [List.map_cons, List.flatMap_cons, ih]; rfl
/-- A slice of numbers that was just made. -/
theorem lit_slice (h : St) (l : List Int) : SliceAt (fun _ => True) (h.push (.cells (l.map (Value.int .i64)) true)) (.slice (some ⟨h.next, 0, some 1⟩) l.length 0) l.length 1 (rowZ l) := by
  have s : OwnS (fun _ => True) (h.push (.cells (l.flatMap fun x => [.int .i64 x]) true)) (.slice (some ⟨h.next, 0, some 1⟩) l.length 0) 1 (l.flatMap fun x => [.int .i64 x]) l.length := .inr ⟨h.next, rfl, trivial, by simp, push_at _ _, by rw [← map_flatZ]; simp⟩
  have := s.slice (row := rowZ l) (fun _ _ => rfl) (fun i x hx => by simp [rowZ, hx])
  rw [← map_flatZ] at this
  exact this
def touchZ (P : Pl) (o : Option Nat) (now : Int) : Pl := match o with | none => P | some i => setA P i { getA P i with last := now }
def bareZ (P : Pl) (o : Option Nat) : Int × Pl := match o with | none => (0, P) | some i => ((getA P i).m, setA P i { getA P i with m := 0 })
theorem at_set (P : Pl) (i id : Nat) (x : Inst) : atZ (setA P i x) id = atZ P id := by
  match P with
  | none => rfl
  | some (A, b) => simp [setA, atZ]
theorem move_at (P : Pl) (id : Nat) (to : Int) (fr : List Int) : (moveZ P id to fr).1 = none ∨ (moveZ P id to fr).1 = atZ (moveZ P id to fr).2.2 id := by
  cases ha : atZ P id with
  | none => left; simp only [moveZ, ha]
  | some i =>
    by_cases hm : (getA P i).st ∈ fr
    · right
      simp only [moveZ, ha, if_pos hm]
      rw [at_set, ha]
    · left; simp only [moveZ, ha, if_neg hm]
theorem touch_at {P : Pl} {o : Option Nat} {id : Nat} (h : o = none ∨ o = atZ P id) (now : Int) : o = none ∨ o = atZ (touchZ P o now) id := by
  rcases h with h | h
  · exact .inl h
  · right
    cases o with
    | none => exact h
    | some i => simp only [touchZ]; rw [at_set]; exact h
def tabP : List (FuncId × Abs.Spec) := [(28, moveS), (29, touchS), (30, bareS)]
theorem tabP_good : ∀ p ∈ tabP, SpecGood Try.prog p := by simp [tabP, moveS_good, touchS_good, bareS_good]
theorem chg_two {h h1 h2 : St} {q : Nat} (a : Chg h h1 [q]) (b : Chg h1 h2 [q]) : Chg h h2 [q] := a.trans b (fun _ h => h) (fun _ h _ => h)
theorem chg_push {h h1 : St} {q : Nat} {o : AObj} (a : Chg (h.push o) h1 [q]) : Chg h h1 [q] := (Chg.push o [q]).trans a (fun _ h => h) (fun _ h _ => h)
def helloS : Abs.Spec := fun args h k => ∃ (v : Value) (q : Nat) (P : Pl) (id : Nat) (now : Int), args = [v, .int .u32 id, .int .i64 now] ∧ id < 4294967296 ∧ PAt h v q P ∧
  ∀ h', Chg h h' [q] → PAt h' v q (bareZ (touchZ (moveZ P id 1 [0, 1, 2, 3, 4, 5]).2.2 (moveZ P id 1 [0, 1, 2, 3, 4, 5]).1 now) (moveZ P id 1 [0, 1, 2, 3, 4, 5]).1).2 → k (.tuple #[.int .u32 (bareZ (touchZ (moveZ P id 1 [0, 1, 2, 3, 4, 5]).2.2 (moveZ P id 1 [0, 1, 2, 3, 4, 5]).1 now) (moveZ P id 1 [0, 1, 2, 3, 4, 5]).1).1, .int .i64 (moveZ P id 1 [0, 1, 2, 3, 4, 5]).2.1]) h'
theorem helloS_good : SpecGood Try.prog (11, helloS) := by
  refine spec_good mixed Try.func11 (by kernel_rfl) (by kernel_rfl) tabP_good (keep := pool_Pool_Hello_keep) ?_
  rintro args h k ⟨v, q, P, id, now, rfl, hid, p, H⟩
  refine ⟨0, ?_⟩
  show pool_Pool_Hello (tabC tabP) idG 0 v (.int .u32 id) (.int .i64 now) h _
  rw [pool_Pool_Hello_eq]
  simp [buildSliceE, fillL, repL, allOne_eq]
  have c0 := Chg.push (h := h) (.cells (([0, 1, 2, 3, 4, 5] : List Int).map (Value.int .i64)) true) []
  refine .inl ⟨rfl, _, v, _, q, P, id, 1, [0, 1, 2, 3, 4, 5], rfl, hid, p.chg c0 (by simp), by simp, lit_slice h [0, 1, 2, 3, 4, 5], fun h1 c1 p1 => ?_⟩
  have cc1 : Chg h h1 [q] := chg_push c1
  have m1 := move_at P id 1 [0, 1, 2, 3, 4, 5]
  simp only [extV_two0, extV_two1, bindV_some]
  refine .inr (.inl ⟨rfl, v, q, _, id, _, _, now, rfl, p1, m1, fun h2 c2 p2 => ?_⟩)
  have m2 := touch_at m1 now
  refine .inr (.inr (.inl ⟨rfl, v, q, _, id, _, _, rfl, p2, m2, fun h3 c3 p3 => ?_⟩))
  simp only [extV_two0, extV_two1, bindV_some]
  generalize (moveZ P id 1 [0, 1, 2, 3, 4, 5]) = M at *
  obtain ⟨o, e, P1⟩ := M
  cases o with
  | none => exact ⟨_, St.le.refl _, H h3 (chg_two (chg_two cc1 c2) c3) p3⟩
  | some i => exact ⟨_, St.le.refl _, H h3 (chg_two (chg_two cc1 c2) c3) p3⟩
def startS : Abs.Spec := fun args h k => ∃ (v : Value) (q : Nat) (P : Pl) (id : Nat) (now : Int), args = [v, .int .u32 id, .int .i64 now] ∧ id < 4294967296 ∧ PAt h v q P ∧
  ∀ h', Chg h h' [q] → PAt h' v q (touchZ (moveZ P id 3 [2]).2.2 (moveZ P id 3 [2]).1 now) → k (.int .i64 (moveZ P id 3 [2]).2.1) h'
theorem startS_good : SpecGood Try.prog (13, startS) := by
  refine spec_good mixed Try.func13 (by kernel_rfl) (by kernel_rfl) tabP_good (keep := pool_Pool_Start_keep) ?_
  rintro args h k ⟨v, q, P, id, now, rfl, hid, p, H⟩
  refine ⟨0, ?_⟩
  show pool_Pool_Start (tabC tabP) idG 0 v (.int .u32 id) (.int .i64 now) h _
  rw [pool_Pool_Start_eq]
  simp [buildSliceE, fillL, repL, allOne_eq]
  have c0 := Chg.push (h := h) (.cells (([2] : List Int).map (Value.int .i64)) true) []
  refine .inl ⟨rfl, _, v, _, q, P, id, 3, [2], rfl, hid, p.chg c0 (by simp), by simp, lit_slice h [2], fun h1 c1 p1 => ?_⟩
  have cc1 : Chg h h1 [q] := chg_push c1
  have m1 := move_at P id 3 [2]
  simp only [extV_two0, extV_two1, bindV_some]
  refine .inr (.inl ⟨rfl, v, q, _, id, _, _, now, rfl, p1, m1, fun h2 c2 p2 => ?_⟩)
  exact ⟨_, St.le.refl _, H h2 (chg_two cc1 c2) p2⟩
def upS : Abs.Spec := fun args h k => ∃ (v : Value) (q : Nat) (P : Pl) (id : Nat) (now : Int), args = [v, .int .u32 id, .int .i64 now] ∧ id < 4294967296 ∧ PAt h v q P ∧
  ∀ h', Chg h h' [q] → PAt h' v q (touchZ (moveZ P id 4 [3]).2.2 (moveZ P id 4 [3]).1 now) → k (.int .i64 (moveZ P id 4 [3]).2.1) h'
theorem upS_good : SpecGood Try.prog (24, upS) := by
  refine spec_good mixed Try.func24 (by kernel_rfl) (by kernel_rfl) tabP_good (keep := pool_Pool_Up_keep) ?_
  rintro args h k ⟨v, q, P, id, now, rfl, hid, p, H⟩
  refine ⟨0, ?_⟩
  show pool_Pool_Up (tabC tabP) idG 0 v (.int .u32 id) (.int .i64 now) h _
  rw [pool_Pool_Up_eq]
  simp [buildSliceE, fillL, repL, allOne_eq]
  have c0 := Chg.push (h := h) (.cells (([3] : List Int).map (Value.int .i64)) true) []
  refine .inl ⟨rfl, _, v, _, q, P, id, 4, [3], rfl, hid, p.chg c0 (by simp), by simp, lit_slice h [3], fun h1 c1 p1 => ?_⟩
  have cc1 : Chg h h1 [q] := chg_push c1
  have m1 := move_at P id 4 [3]
  simp only [extV_two0, extV_two1, bindV_some]
  refine .inr (.inl ⟨rfl, v, q, _, id, _, _, now, rfl, p1, m1, fun h2 c2 p2 => ?_⟩)
  exact ⟨_, St.le.refl _, H h2 (chg_two cc1 c2) p2⟩
def freedS : Abs.Spec := fun args h k => ∃ (v : Value) (q : Nat) (P : Pl) (id : Nat) (now : Int), args = [v, .int .u32 id, .int .i64 now] ∧ id < 4294967296 ∧ PAt h v q P ∧
  ∀ h', Chg h h' [q] → PAt h' v q (touchZ (moveZ P id 1 [5]).2.2 (moveZ P id 1 [5]).1 now) → k (.int .i64 (moveZ P id 1 [5]).2.1) h'
theorem freedS_good : SpecGood Try.prog (27, freedS) := by
  refine spec_good mixed Try.func27 (by kernel_rfl) (by kernel_rfl) tabP_good (keep := pool_Pool_Freed_keep) ?_
  rintro args h k ⟨v, q, P, id, now, rfl, hid, p, H⟩
  refine ⟨0, ?_⟩
  show pool_Pool_Freed (tabC tabP) idG 0 v (.int .u32 id) (.int .i64 now) h _
  rw [pool_Pool_Freed_eq]
  simp [buildSliceE, fillL, repL, allOne_eq]
  have c0 := Chg.push (h := h) (.cells (([5] : List Int).map (Value.int .i64)) true) []
  refine .inl ⟨rfl, _, v, _, q, P, id, 1, [5], rfl, hid, p.chg c0 (by simp), by simp, lit_slice h [5], fun h1 c1 p1 => ?_⟩
  have cc1 : Chg h h1 [q] := chg_push c1
  have m1 := move_at P id 1 [5]
  simp only [extV_two0, extV_two1, bindV_some]
  refine .inr (.inl ⟨rfl, v, q, _, id, _, _, now, rfl, p1, m1, fun h2 c2 p2 => ?_⟩)
  exact ⟨_, St.le.refl _, H h2 (chg_two cc1 c2) p2⟩
def letGoS : Abs.Spec := fun args h k => ∃ (v : Value) (q : Nat) (P : Pl) (id : Nat), args = [v, .int .u32 id] ∧ id < 4294967296 ∧ PAt h v q P ∧
  ∀ h', Chg h h' [q] → PAt h' v q (bareZ (moveZ P id 1 [2]).2.2 (moveZ P id 1 [2]).1).2 → k (.int .i64 (moveZ P id 1 [2]).2.1) h'
theorem letGoS_good : SpecGood Try.prog (25, letGoS) := by
  refine spec_good mixed Try.func25 (by kernel_rfl) (by kernel_rfl) tabP_good (keep := pool_Pool_Let_keep) ?_
  rintro args h k ⟨v, q, P, id, rfl, hid, p, H⟩
  refine ⟨0, ?_⟩
  show pool_Pool_Let (tabC tabP) idG 0 v (.int .u32 id) h _
  rw [pool_Pool_Let_eq]
  simp [buildSliceE, fillL, repL, allOne_eq]
  have c0 := Chg.push (h := h) (.cells (([2] : List Int).map (Value.int .i64)) true) []
  refine .inl ⟨rfl, _, v, _, q, P, id, 1, [2], rfl, hid, p.chg c0 (by simp), by simp, lit_slice h [2], fun h1 c1 p1 => ?_⟩
  have cc1 : Chg h h1 [q] := chg_push c1
  have m1 := move_at P id 1 [2]
  simp only [extV_two0, extV_two1, bindV_some]
  refine .inr (.inr (.inl ⟨rfl, v, q, _, id, _, _, rfl, p1, m1, fun h2 c2 p2 => ?_⟩))
  simp only [extV_two0, extV_two1, bindV_some]
  have hz : (moveZ P id 1 [2]).1 = (moveZ P id 1 [2]).1 := rfl
  generalize (moveZ P id 1 [2]) = M at *
  obtain ⟨o, e, P1⟩ := M
  cases o with
  | none => exact ⟨_, St.le.refl _, H h2 (chg_two cc1 c2) p2⟩
  | some i => exact ⟨_, St.le.refl _, H h2 (chg_two cc1 c2) p2⟩
def drainS : Abs.Spec := fun args h k => ∃ (v : Value) (q : Nat) (P : Pl) (id : Nat), args = [v, .int .u32 id] ∧ id < 4294967296 ∧ PAt h v q P ∧
  ∀ h', Chg h h' [q] → PAt h' v q (bareZ (moveZ P id 5 [3, 4]).2.2 (moveZ P id 5 [3, 4]).1).2 → k (.int .i64 (moveZ P id 5 [3, 4]).2.1) h'
theorem drainS_good : SpecGood Try.prog (26, drainS) := by
  refine spec_good mixed Try.func26 (by kernel_rfl) (by kernel_rfl) tabP_good (keep := pool_Pool_Drain_keep) ?_
  rintro args h k ⟨v, q, P, id, rfl, hid, p, H⟩
  refine ⟨0, ?_⟩
  show pool_Pool_Drain (tabC tabP) idG 0 v (.int .u32 id) h _
  rw [pool_Pool_Drain_eq]
  simp [buildSliceE, fillL, repL, allOne_eq]
  have c0 := Chg.push (h := h) (.cells (([3, 4] : List Int).map (Value.int .i64)) true) []
  refine .inl ⟨rfl, _, v, _, q, P, id, 5, [3, 4], rfl, hid, p.chg c0 (by simp), by simp, lit_slice h [3, 4], fun h1 c1 p1 => ?_⟩
  have cc1 : Chg h h1 [q] := chg_push c1
  have m1 := move_at P id 5 [3, 4]
  simp only [extV_two0, extV_two1, bindV_some]
  refine .inr (.inr (.inl ⟨rfl, v, q, _, id, _, _, rfl, p1, m1, fun h2 c2 p2 => ?_⟩))
  simp only [extV_two0, extV_two1, bindV_some]
  have hz : (moveZ P id 5 [3, 4]).1 = (moveZ P id 5 [3, 4]).1 := rfl
  generalize (moveZ P id 5 [3, 4]) = M at *
  obtain ⟨o, e, P1⟩ := M
  cases o with
  | none => exact ⟨_, St.le.refl _, H h2 (chg_two cc1 c2) p2⟩
  | some i => exact ⟨_, St.le.refl _, H h2 (chg_two cc1 c2) p2⟩
def killS : Abs.Spec := fun args h k => ∃ (v : Value) (q : Nat) (P : Pl) (id : Nat), args = [v, .int .u32 id] ∧ id < 4294967296 ∧ PAt h v q P ∧
  ∀ h', Chg h h' [q] → PAt h' v q (bareZ (moveZ P id 0 [1, 2, 3, 4, 5]).2.2 (moveZ P id 0 [1, 2, 3, 4, 5]).1).2 → k (.tuple #[.int .u32 (bareZ (moveZ P id 0 [1, 2, 3, 4, 5]).2.2 (moveZ P id 0 [1, 2, 3, 4, 5]).1).1, .int .i64 (moveZ P id 0 [1, 2, 3, 4, 5]).2.1]) h'
theorem killS_good : SpecGood Try.prog (17, killS) := by
  refine spec_good mixed Try.func17 (by kernel_rfl) (by kernel_rfl) tabP_good (keep := pool_Pool_Kill_keep) ?_
  rintro args h k ⟨v, q, P, id, rfl, hid, p, H⟩
  refine ⟨0, ?_⟩
  show pool_Pool_Kill (tabC tabP) idG 0 v (.int .u32 id) h _
  rw [pool_Pool_Kill_eq]
  simp [buildSliceE, fillL, repL, allOne_eq]
  have c0 := Chg.push (h := h) (.cells (([1, 2, 3, 4, 5] : List Int).map (Value.int .i64)) true) []
  refine .inl ⟨rfl, _, v, _, q, P, id, 0, [1, 2, 3, 4, 5], rfl, hid, p.chg c0 (by simp), by simp, lit_slice h [1, 2, 3, 4, 5], fun h1 c1 p1 => ?_⟩
  have cc1 : Chg h h1 [q] := chg_push c1
  have m1 := move_at P id 0 [1, 2, 3, 4, 5]
  simp only [extV_two0, extV_two1, bindV_some]
  refine .inr (.inr (.inl ⟨rfl, v, q, _, id, _, _, rfl, p1, m1, fun h2 c2 p2 => ?_⟩))
  simp only [extV_two0, extV_two1, bindV_some]
  have hz : (moveZ P id 0 [1, 2, 3, 4, 5]).1 = (moveZ P id 0 [1, 2, 3, 4, 5]).1 := rfl
  generalize (moveZ P id 0 [1, 2, 3, 4, 5]) = M at *
  obtain ⟨o, e, P1⟩ := M
  cases o with
  | none => exact ⟨_, St.le.refl _, H h2 (chg_two cc1 c2) p2⟩
  | some i => exact ⟨_, St.le.refl _, H h2 (chg_two cc1 c2) p2⟩

def okId (m : Int) : Bool := decide (1 ≤ m) && decide (m ≤ 2147483647)
def rackS : Abs.Spec := fun args h k => ∃ m : Int, args = [.int .u32 m] ∧ k (.bool (okId m)) h
theorem rackS_good : SpecGood Try.prog (31, rackS) := by
  refine spec_good mixed Try.func31 (by kernel_rfl) (by kernel_rfl) (tab := []) (by simp) (keep := rack_Right_keep) ?_
  rintro args h k ⟨m, rfl, H⟩
  refine ⟨0, ?_⟩
  show rack_Right (tabC []) idG 0 (.int .u32 m) h _
  rw [rack_Right_eq]
  by_cases h1 : 1 ≤ m
  · simp [h1, groupK_eq, getT]
    exact ⟨_, St.le.refl _, by simpa [okId, h1] using H⟩
  · simp [h1, groupK_eq, getT]
    exact ⟨_, St.le.refl _, by simpa [okId, h1] using H⟩
def holdZ (P : Pl) (id : Nat) (m : Int) : Int × Pl :=
  match (moveZ P id 1 [1]).1 with
  | none => ((moveZ P id 1 [1]).2.1, (moveZ P id 1 [1]).2.2)
  | some i => if okId m = true then (0, setA (moveZ P id 1 [1]).2.2 i { getA (moveZ P id 1 [1]).2.2 i with st := 2, m := m }) else (14, (moveZ P id 1 [1]).2.2)
theorem move_err {P : Pl} {id : Nat} {to : Int} {fr : List Int} : ((moveZ P id to fr).1 = none ∧ (moveZ P id to fr).2.1 ≠ 0) ∨ ((moveZ P id to fr).1 ≠ none ∧ (moveZ P id to fr).2.1 = 0) := by
  cases ha : atZ P id with
  | none => left; simp [moveZ, ha]
  | some i =>
    by_cases hm : (getA P i).st ∈ fr
    · right; simp [moveZ, ha, hm]
    · left; simp [moveZ, ha, hm]
def holdS : Abs.Spec := fun args h k => ∃ (v : Value) (q : Nat) (P : Pl) (id : Nat) (m : Int), args = [v, .int .u32 id, .int .u32 m] ∧ id < 4294967296 ∧ PAt h v q P ∧
  ∀ h', Chg h h' [q] → PAt h' v q (holdZ P id m).2 → k (.int .i64 (holdZ P id m).1) h'
theorem setA_two (P : Pl) (i : Nat) (x y : Inst) : setA (setA P i x) i y = setA P i y := by
  match P with
  | none => rfl
  | some (A, b) => simp [setA]
theorem holdS_good : SpecGood Try.prog (12, holdS) := by
  refine spec_good mixed Try.func12 (by kernel_rfl) (by kernel_rfl) (tab := [(28, moveS), (31, rackS)]) (by simp [moveS_good, rackS_good]) (keep := pool_Pool_Hold_keep) ?_
  rintro args h k ⟨v, q, P, id, m, rfl, hid, p, H⟩
  refine ⟨0, ?_⟩
  show pool_Pool_Hold (tabC [(28, moveS), (31, rackS)]) idG 0 v (.int .u32 id) (.int .u32 m) h _
  rw [pool_Pool_Hold_eq]
  simp [buildSliceE, fillL, repL, allOne_eq]
  have c0 := Chg.push (h := h) (.cells (([1] : List Int).map (Value.int .i64)) true) []
  refine .inl ⟨rfl, _, v, _, q, P, id, 1, [1], rfl, hid, p.chg c0 (by simp), by simp, lit_slice h [1], fun h1 c1 p1 => ?_⟩
  have cc1 : Chg h h1 [q] := chg_push c1
  have m1 := move_at P id 1 [1]
  have e1 := move_err (P := P) (id := id) (to := 1) (fr := [1])
  unfold holdZ at H
  generalize moveZ P id 1 [1] = M at *
  obtain ⟨o, e, P1⟩ := M
  cases o with
  | none =>
    have he : e ≠ 0 := by simpa using e1
    simp [he]
    exact ⟨_, St.le.refl _, H h1 cc1 p1⟩
  | some i =>
    have he : e = 0 := by simpa using e1
    subst he
    simp only [extV_two0, extV_two1, bindV_some, binNil_int, binV_neq, condK_bool]
    rw [if_neg (by simp)]
    refine .inr (.inl ⟨rfl, m, rfl, ?_⟩)
    simp only at H m1 p1
    cases hm : okId m with
    | false =>
      rw [hm] at H
      simp
      exact ⟨_, St.le.refl _, H h1 cc1 p1⟩
    | true =>
      rw [hm] at H
      have ha : atZ P1 id = some i := by rcases m1 with h | h; cases h; exact h.symm
      obtain ⟨hq, A, k1, k2, k3, k4⟩ := pl_get p1 ha
      have hl0 : i * 3 < (flat A).length := by rw [flat_len]; omega
      simp only [unV_not, Bool.not_true, bindV_some, condK_bool, Bool.false_eq_true, if_false, idG_eq, pl, nilV_ptr, offV_ptr, Nat.add_zero, storeE_ptr, k1, storeM_cells, cells_int]
      refine ⟨⟨rfl, by omega, rfl⟩, ?_⟩
      have e2 : (flat A).take (i * 3) ++ (#[Value.int .i64 2] : Array Value).toList ++ (flat A).drop (i * 3 + 1) = flat (A.set i { getA P1 i with st := 2 }) := by
        rw [← flat_set0 A i _ 2 k2, ← set_as _ _ _ hl0]
      rw [e2]
      have ka : (A.set i { getA P1 i with st := 2 })[i]? = some { getA P1 i with st := 2 } := by simp [k3]
      have hl1 : i * 3 + 1 < (flat (A.set i { getA P1 i with st := 2 })).length := by rw [flat_len, List.length_set]; omega
      simp only [set_at, storeM_cells, cells_int]
      refine ⟨⟨rfl, by rw [flat_len, List.length_set]; omega, rfl⟩, _, St.le.refl _, ?_⟩
      have e3 : (flat (A.set i { getA P1 i with st := 2 })).take (i * 3 + 1) ++ (#[Value.int .u32 m] : Array Value).toList ++ (flat (A.set i { getA P1 i with st := 2 })).drop (i * 3 + 1 + 1) = flat (A.set i { getA P1 i with st := 2, m := m }) := by
        have := flat_set1 _ i _ m ka
        rw [List.set_set] at this
        rw [← this, ← set_as _ _ _ hl1]
      rw [e3]
      have cs : Chg h1 ((h1.set q (.cells (flat (A.set i { getA P1 i with st := 2 })) true)).set q (.cells (flat (A.set i { getA P1 i with st := 2, m := m })) true)) [q] := Chg.of_set (Chg.set _ (by simp)) (.inl (by simp))
      exact H _ (chg_two cc1 cs) (k4 _ _ cs (set_at _ _ _))
/-- 'Beat'. -/
def beatZ (P : Pl) (id : Nat) (now : Int) : Int × Pl :=
  match atZ P id with
  | none => (12, P)
  | some i => if (getA P i).st = 0 then (24, P) else if (getA P i).st ≠ 3 then (0, setA P i { getA P i with last := now }) else (0, P)
def beatS : Abs.Spec := fun args h k => ∃ (v : Value) (q : Nat) (P : Pl) (id : Nat) (now : Int), args = [v, .int .u32 id, .int .i64 now] ∧ id < 4294967296 ∧ PAt h v q P ∧
  ∀ h', Chg h h' [q] → PAt h' v q (beatZ P id now).2 → k (.int .i64 (beatZ P id now).1) h'
theorem beatS_good : SpecGood Try.prog (16, beatS) := by
  refine spec_good mixed Try.func16 (by kernel_rfl) (by kernel_rfl) (tab := [(23, atS)]) (by simpa using atS_good) (keep := pool_Pool_Beat_keep) ?_
  rintro args h k ⟨v, q, P, id, now, rfl, hid, p, H⟩
  refine ⟨0, ?_⟩
  show pool_Pool_Beat (tabC [(23, atS)]) idG 0 v (.int .u32 id) (.int .i64 now) h _
  rw [pool_Pool_Beat_eq]
  refine .inl ⟨rfl, v, q, P, id, rfl, hid, p, ?_⟩
  unfold beatZ at H
  cases ha : atZ P id with
  | none =>
    rw [ha] at H
    simp [pl]
    exact ⟨_, St.le.refl _, H h (Chg.refl _ _) p⟩
  | some i =>
    rw [ha] at H
    obtain ⟨hq, A, k1, k2, k3, k4⟩ := pl_get p ha
    obtain ⟨f0, _, _⟩ := flat_at A i _ k2
    have hlen : i * 3 + 2 < (flat A).length := by rw [flat_len]; omega
    simp only [pl, binNil_ptr_eql, Option.isNone_some, bindV_some, condK_bool, Bool.false_eq_true, if_false, nilV_ptr, offV_ptr, loadV_ptr, k1, loadM_cells, partV_one, Nat.add_zero, f0, binNil_int, binV_eql, binV_neq, storeE_ptr, storeM_cells, cells_int, idG_eq]
    by_cases h0 : (getA P i).st = 0
    · simp only [h0, if_true] at H
      simp only [h0, decide_true, if_true]
      exact ⟨_, St.le.refl _, H h (Chg.refl _ _) p⟩
    · by_cases h3 : (getA P i).st = 3
      · simp [h0, h3] at H
        simp [h0, h3]
        rw [pool_Pool_Beat_j0_eq]
        exact ⟨_, St.le.refl _, H h (Chg.refl _ _) p⟩
      · simp [h0, h3] at H
        simp only [h0, h3, decide_false, Bool.false_eq_true, if_false, ne_eq, not_false_eq_true, decide_true, if_true]
        refine ⟨⟨rfl, by omega, rfl⟩, ?_⟩
        have e2 : (flat A).take (i * 3 + 2) ++ (#[Value.int .i64 now] : Array Value).toList ++ (flat A).drop (i * 3 + 2 + 1) = flat (A.set i { getA P i with last := now }) := by
          rw [← flat_set2 A i _ now k2, ← set_as _ _ _ hlen]
        rw [e2, pool_Pool_Beat_j0_eq]
        exact ⟨_, St.le.refl _, H _ (Chg.set _ (by simp)) (k4 _ _ (Chg.set _ (by simp)) (set_at _ _ _))⟩
/-- 'Instance', 'Many', 'New'. -/
def instZ (P : Pl) (id : Nat) : Inst := match atZ P id with | none => .zero | some i => getA P i
def instS : Abs.Spec := fun args h k => ∃ (v : Value) (q : Nat) (P : Pl) (id : Nat), args = [v, .int .u32 id] ∧ id < 4294967296 ∧ PAt h v q P ∧
  ∀ h', Chg h h' [] → k (.tuple #[encI (instZ P id), .bool (atZ P id).isSome]) h'
theorem instS_good : SpecGood Try.prog (8, instS) := by
  refine spec_good mixed Try.func8 (by kernel_rfl) (by kernel_rfl) (tab := [(23, atS)]) (by simpa using atS_good) (keep := pool_Pool_Instance_keep) ?_
  rintro args h k ⟨v, q, P, id, rfl, hid, p, H⟩
  refine ⟨0, ?_⟩
  show pool_Pool_Instance (tabC [(23, atS)]) idG 0 v (.int .u32 id) h _
  rw [pool_Pool_Instance_eq]
  simp only [allocE_some]
  have c0 := Chg.push (h := h) (.cells [.int .i64 0, .int .u32 0, .int .i64 0] true) []
  have p0 := p.chg c0 (by simp)
  refine .inl ⟨rfl, v, q, P, id, rfl, hid, p0, ?_⟩
  unfold instZ at H
  cases ha : atZ P id with
  | none =>
    rw [ha] at H
    simp [pl, buildV, fillL]
    exact ⟨_, St.le.refl _, H _ (Chg.of_set c0 (.inr (Nat.le_refl _)))⟩
  | some i =>
    rw [ha] at H
    obtain ⟨hq, A, k1, k2, k3, k4⟩ := pl_get p0 ha
    have f := flat_take k2
    simp [pl, k1, f, cellsI]
    exact ⟨_, St.le.refl _, H _ (Chg.of_set c0 (.inr (Nat.le_refl _)))⟩
def manyZ (P : Pl) : Nat := match P with | none => 0 | some (A, _) => A.length
def manyS : Abs.Spec := fun args h k => ∃ (v : Value) (q : Nat) (P : Pl), args = [v] ∧ PAt h v q P ∧ k (.int .i64 (manyZ P)) h
theorem manyS_good : SpecGood Try.prog (22, manyS) := by
  refine spec_good mixed Try.func22 (by kernel_rfl) (by kernel_rfl) (tab := []) (by simp) (keep := pool_Pool_Many_keep) ?_
  rintro args h k ⟨v, q, P, rfl, p, H⟩
  refine ⟨0, ?_⟩
  show pool_Pool_Many (tabC []) idG 0 v h _
  rw [pool_Pool_Many_eq]
  match P, p with
  | none, p =>
    have p : v = .pointer none := p
    subst p
    simp
    exact ⟨_, St.le.refl _, H⟩
  | some (A, b), ⟨p, h1, h2, h3, h4, h5, h6, h7⟩ =>
    subst h1
    simp [h6]
    exact ⟨_, St.le.refl _, H⟩
def newZ (many beat : Int) : Pl := some (List.replicate (min (max many 0) 16).toNat .zero, beat)
def newS : Abs.Spec := fun args h k => ∃ many beat : Int, args = [.int .i64 many, .int .i64 beat] ∧ ∀ h' v q, Chg h h' [] → h.next ≤ q → PAt h' v q (newZ many beat) → (∃ p, v = .pointer (some ⟨p, 0, none⟩) ∧ h.next ≤ p) → k v h'
theorem newS_good : SpecGood Try.prog (7, newS) := by
  refine spec_good mixed Try.func7 (by kernel_rfl) (by kernel_rfl) (tab := []) (by simp) (keep := pool_New_keep) ?_
  rintro args h k ⟨many, beat, rfl, H⟩
  refine ⟨0, ?_⟩
  show pool_New (tabC []) idG 0 (.int .i64 many) (.int .i64 beat) h _
  rw [pool_New_eq]
  have e1 : (if (0 : Int) > many then (0 : Int) else many) = max many 0 := by rw [Int.max_def]; split <;> split <;> omega
  have e2 : (if (16 : Int) < max many 0 then (16 : Int) else max many 0) = min (max many 0) 16 := by rw [Int.min_def]; split <;> split <;> omega
  obtain ⟨n, hn⟩ : ∃ n : Nat, min (max many 0) 16 = n := ⟨(min (max many 0) 16).toNat, by omega⟩
  have hle : n ≤ 16 := by omega
  simp only [maxV, if_true, e1, bindV_some, minV, e2, hn, makeSliceE, Int.toNat_natCast]
  refine ⟨⟨by omega, by omega, by omega, by omega⟩, ?_⟩
  have hr : ∀ n, repL [Value.int .i64 0, .int .u32 0, .int .i64 0] n = flat (List.replicate n .zero) := by
    intro n; induction n with
    | zero => rfl
    | succ n ih => simp only [repL, ih, List.replicate_succ]; rfl
  simp [buildV, fillL, hr]
  have c : Chg h ((h.push (.cells (flat (List.replicate n .zero)) true)).push (.cells [.slice (some ⟨h.next, 0, some 3⟩) n 0, .int .i64 beat] true)) [] := (Chg.push _ []).of_push
  refine ⟨_, St.le.refl _, H _ _ h.next c (Nat.le_refl _) ?_ ⟨h.next + 1, rfl, by omega⟩⟩
  unfold newZ
  rw [hn]
  refine ⟨h.next + 1, rfl, by simp, by simp; omega, by omega, by simpa using hle, ?_, ?_⟩
  · simp
  · rw [push_ne (by simp)]; simp
end Go.Proofs.Ytomjbkembmimbaa
