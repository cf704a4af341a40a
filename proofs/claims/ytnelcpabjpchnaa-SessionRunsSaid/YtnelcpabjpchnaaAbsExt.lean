/- Functions of the library that the model itself answers: slices.overlaps. -/
import Derived.Test.YtnelcpabjpchnaaAbsIn
import Derived.Test.YtnelcpabjpchnaaAbsLv
import Derived.Lib.Overlaps
set_option linter.unusedSimpArgs false
set_option linter.unusedVariables false
namespace Go.Abs

/-- Two slices of one's own in two blocks. -/
def overO : Spec := fun args h k => ∃ p po z m c q qo z' n c' cp cq, args = [.slice (some ⟨p, po, some z⟩) m c, .slice (some ⟨q, qo, some z'⟩) n c'] ∧ 0 < m ∧ 0 < n ∧ p ≠ q ∧ h.objs p = some (.cells cp true) ∧ h.objs q = some (.cells cq true) ∧ 0 < cq.length ∧ k (.bool false) h
theorem overO_good {P : Program} {g : FuncId} {fn : Func} {tS tR e : TypeId} (hf : P.funcs[g]? = some fn) (hname : (fn.name == "runtime.NumGoroutine") = false) (hb : fn.body.isNone = true) (hn : Extern.findNext fn = none)
    (he : Extern.find fn = some (Extern.SlicesOverlaps.overlaps #[tS, tS] #[tR])) (ht : P.underlying tS = some (.slice e)) (hi : (P.info? e).isSome = true) : SpecGood P (g, overO) := by
  obtain ⟨i, hi⟩ := Option.isSome_iff_exists.1 hi
  refine ⟨?_, ?_⟩
  · rintro args h k ⟨p, po, z, m, c, q, qo, z', n, c', cp, cq, rfl, hm, hnn, pq, op, oq, hq, H⟩ B w0 w ρ args' HR HL
    obtain ⟨l1, hl1, r1⟩ := HR.obj _ _ op
    obtain ⟨l2, hl2, r2⟩ := HR.obj _ _ oq
    obtain ⟨o1, b1, arr1, ty1, fr1, k1, f1, s1, _⟩ := r1
    obtain ⟨o2, b2, arr2, ty2, fr2, k2, f2, s2, _⟩ := r2
    obtain ⟨rfl, _⟩ := f1 rfl
    obtain ⟨rfl, _⟩ := f2 rfl
    have hne : l1.blk ≠ l2.blk := fun e => pq (HR.sep p q _ _ l1 l2 op oq hl1 hl2 o1.symm e)
    cases ha : args'.toList with
    | nil => rw [ha] at HL; cases HL
    | cons x1 t1 =>
      rw [ha] at HL
      cases HL with
      | cons v1 HL =>
        cases HL with
        | @cons _ x2 _ t2 v2 HL =>
          cases HL
          have hargs : args' = #[x1, x2] := Array.ext' (by simpa using ha)
          subst hargs
          cases v1 with
          | lit _ e => simp [lit1] at e
          | empty => omega
          | owned _ _ _ _ cap1 _ l hl _ _ _ _ =>
            rw [hl1] at hl
            cases hl
            cases v2 with
            | lit _ e => simp [lit1] at e
            | empty => omega
            | owned _ _ _ _ cap2 _ l hl _ _ _ _ =>
              rw [hl2] at hl
              cases hl
              rw [run_callFunc_extern hf hname hb hn he]
              rw [Lib.run_overlaps_apart w tS tR e ht i.size (run_size' hi) ⟨l1.blk, po, none⟩ ⟨l2.blk, qo, none⟩ m cap1 n cap2 hne ty1 ty2 arr1.size arr2.size (by simp [World.shape?, k1]) (by simp [World.shape?, k2]) (by omega) (frozen_of_row w l1.blk _ arr1 ty1 k1) (frozen_of_row w l1.blk _ arr1 ty1 k1)]
              exact ⟨_, _, _, H, Rho.le.refl ρ, HR, VRel.bool ρ false⟩
  · rintro args h k ⟨p, po, z, m, c, q, qo, z', n, c', cp, cq, rfl, hm, hnn, pq, op, oq, hq, H⟩
    exact ⟨_, _, H⟩
end Go.Abs
