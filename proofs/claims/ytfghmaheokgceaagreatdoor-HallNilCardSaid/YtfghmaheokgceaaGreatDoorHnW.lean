/- The variables that a run leans on, out of what was laid. -/
import Derived.Test.YtfghmaheokgceaaGreatDoorPtA
import Derived.Test.YtfghmaheokgceaaGreatDoorMH
set_option linter.unusedSimpArgs false
set_option linter.unusedVariables false
set_option maxRecDepth 100000
namespace Go.Proofs.YtfghmaheokgceaaGreatDoor
open Go.Abs
theorem glob_of_laid {W : World} (h : laidMetH Tryz.prog laidT W) : Glob (Abs.st0 W) := by
  have all : ∀ p ∈ shaG ++ tabG, p.1 < W.heap.size ∧ (st0 W).objs p.1 = some (.cells p.2 false) :=
    all_cons (glob_at h tie_p (i := 2) (g := 5) (m := 8) (t := 505) (e := 22) (by rfl) (by kernel_rfl) (by kernel_rfl) (by kernel_rfl) (by kernel_rfl) (by kernel_rfl) (by kernel_rfl) (by kernel_rfl))
      (all_cons (glob_at h tie_p (i := 3) (g := 6) (m := 64) (t := 557) (e := 22) (by rfl) (by kernel_rfl) (by kernel_rfl) (by kernel_rfl) (by kernel_rfl) (by kernel_rfl) (by kernel_rfl) (by kernel_rfl))
        (all_cons (glob_at h tie_p (i := 5) (g := 0) (m := 27) (t := 433) (e := 9) (by rfl) (by kernel_rfl) (by kernel_rfl) (by kernel_rfl) (by kernel_rfl) (by kernel_rfl) (by kernel_rfl) (by kernel_rfl))
          (all_cons (glob_at h tie_p (i := 6) (g := 1) (m := 11) (t := 434) (e := 9) (by rfl) (by kernel_rfl) (by kernel_rfl) (by kernel_rfl) (by kernel_rfl) (by kernel_rfl) (by kernel_rfl) (by kernel_rfl))
            (all_cons (glob_at h tie_p (i := 7) (g := 2) (m := 16) (t := 435) (e := 9) (by rfl) (by kernel_rfl) (by kernel_rfl) (by kernel_rfl) (by kernel_rfl) (by kernel_rfl) (by kernel_rfl) (by kernel_rfl))
              (all_cons (glob_at h tie_p (i := 8) (g := 3) (m := 6) (t := 436) (e := 9) (by rfl) (by kernel_rfl) (by kernel_rfl) (by kernel_rfl) (by kernel_rfl) (by kernel_rfl) (by kernel_rfl) (by kernel_rfl))
                (all_cons (glob_at h tie_p (i := 9) (g := 4) (m := 7) (t := 437) (e := 9) (by rfl) (by kernel_rfl) (by kernel_rfl) (by kernel_rfl) (by kernel_rfl) (by kernel_rfl) (by kernel_rfl) (by kernel_rfl)) all_nil))))))
  exact ⟨fun p hp => (all p hp).2, fun p hp => (all p hp).1⟩
end Go.Proofs.YtfghmaheokgceaaGreatDoor
