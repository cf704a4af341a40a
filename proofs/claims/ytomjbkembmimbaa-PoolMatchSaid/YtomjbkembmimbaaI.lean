/- 'PoolMatch': what it answers. -/
import Derived.Test.YtomjbkembmimbaaH
set_option linter.unusedSimpArgs false
set_option linter.unusedVariables false
set_option maxHeartbeats 4000000
namespace Go.Proofs.Ytomjbkembmimbaa
open Go.Abs Go.IntWalk

def matchLawS : Abs.Spec := fun args h k => ∃ (L : List Act) (v : Value), args = [v] ∧ (∀ a ∈ L, a.id < 4294967296) ∧ SliceAt (· < h.next) h v L.length 4 (rowAct L) ∧ ∀ h', k (.bool true) h'
theorem matchLawS_good : SpecGood Try.prog (3, matchLawS) := by
  refine spec_good mixed Try.func3 (by kernel_rfl) (by kernel_rfl) tabM_good (keep := tiltyardlaw21_PoolMatch_keep) ?_
  rintro args h k ⟨L, v, rfl, hid, s, H⟩
  refine ⟨90, ?_⟩
  show tiltyardlaw21_PoolMatch (tabC tabM) idG 90 v h _
  rw [tiltyardlaw21_PoolMatch_eq]
  have fin : ∀ h', ∃ h2, St.le h2 h' ∧ k (.bool true) h2 := fun h' => ⟨h', St.le.refl _, H h'⟩
  simp only [s.len, bindV_some, binNil_int, binV_gtr]
  by_cases hl : (L.length : Int) > 80
  · simp only [hl, decide_true, condK_bool, if_true]
    exact fin h
  simp only [hl, decide_false, condK_bool, Bool.false_eq_true, if_false, idG_eq]
  refine .inl ⟨rfl, 3, 5, rfl, fun h1 w q c1 hq p1 ⟨p, hw, hp⟩ => ?_⟩
  have n0 : newZ 3 5 = some ([.zero, .zero, .zero], 5) := rfl
  rw [n0] at p1
  simp only [allocE_some]
  have c2 : Chg h1 (h1.push (.cells [.int .u32 0, .int .u32 0, .int .u32 0, .int .u32 0] true)) [] := Chg.push _ _
  obtain ⟨p', hw', hpn, hqn, hpq, _⟩ := id p1
  have hpp : p' = p := by rw [hw] at hw'; cases hw'; rfl
  subst hpp
  have m1 := c1.1
  refine match_l0 (p := p') (q := q) (b4 := h1.next) (h0 := h) (by omega) hid hw s hq hp m1 (by omega) (by omega) fin L.length 0 90 _ [.zero, .zero, .zero] [0, 0, 0, 0] _ _ _ _ _ (by omega) (by omega) ((c1.toP (by simp)).of_push) (p1.chg c2 (by simp)) (by simp) (push_at _ _) ?_
  refine ⟨rfl, rfl, fun j x hj => ?_⟩
  have : x = .zero := by
    match j, hj with
    | 0, hj => simp at hj; exact hj.symm
    | 1, hj => simp at hj; exact hj.symm
    | 2, hj => simp at hj; exact hj.symm
  subst this
  exact ⟨by simp [okI, Inst.zero], by simp [Inst.zero]⟩
end Go.Proofs.Ytomjbkembmimbaa
