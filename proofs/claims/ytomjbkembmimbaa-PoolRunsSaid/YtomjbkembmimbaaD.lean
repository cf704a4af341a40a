/- 'PoolNil', walked. -/
import Derived.Test.YtomjbkembmimbaaC
set_option linter.unusedSimpArgs false
set_option linter.unusedVariables false
set_option maxHeartbeats 4000000
namespace Go.Proofs.Ytomjbkembmimbaa
open Go.Abs Go.IntWalk

def lateN : Abs.Spec := fun args h k => ∃ t : Int, args = [.pointer none, .int .i64 t] ∧ k (.slice none 0 0) h
theorem lateN_good : SpecGood Try.prog (15, lateN) := by
  refine spec_good mixed Try.func15 (by kernel_rfl) (by kernel_rfl) (tab := [(22, manyS)]) (by simpa using manyS_good) (keep := pool_Pool_Late_keep) ?_
  rintro args h k ⟨t, rfl, H⟩
  refine ⟨1, ?_⟩
  show pool_Pool_Late (tabC [(22, manyS)]) idG 1 (.pointer none) (.int .i64 t) h _
  rw [pool_Pool_Late_eq]
  refine .inl ⟨rfl, .pointer none, 0, none, rfl, rfl, ?_⟩
  simp only [manyZ, idG_eq]
  rw [pool_Pool_Late_l0_eq]
  simp
  rw [pool_Pool_Late_j2_eq]
  exact ⟨_, St.le.refl _, H⟩
theorem do_none (a : Act) : doZ none a = (0, 12, none) := by
  have h1 : ∀ to fr, moveZ none a.id to fr = (none, 12, none) := fun _ _ => rfl
  have h2 : beatZ none a.id a.now = (12, none) := rfl
  have h3 : holdZ none a.id a.m = (12, none) := rfl
  unfold doZ
  simp only [h1, h2, h3, touchZ, bareZ]
  repeat' split
  all_goals rfl
def tabN : List (FuncId × Abs.Spec) := [(9, doS), (8, instS), (21, leastS), (15, lateN), (22, manyS), (10, awakeS)]
theorem tabN_good : ∀ p ∈ tabN, SpecGood Try.prog p := by simp [tabN, doS_good, instS_good, leastS_good, lateN_good, manyS_good, awakeS_good]
def nilS : Abs.Spec := fun args h k => ∃ a : Act, args = [encA a] ∧ a.id < 4294967296 ∧ ∀ h', k (.bool true) h'
theorem nilS_good : SpecGood Try.prog (6, nilS) := by
  refine spec_good mixed Try.func6 (by kernel_rfl) (by kernel_rfl) tabN_good (keep := tiltyardlaw21_PoolNil_keep) ?_
  rintro args h k ⟨a, rfl, hid, H⟩
  refine ⟨0, ?_⟩
  show tiltyardlaw21_PoolNil (tabC tabN) idG 0 (encA a) h _
  rw [tiltyardlaw21_PoolNil_eq]
  have fin : ∀ h', ∃ h2, St.le h2 h' ∧ k (.bool true) h2 := fun h' => ⟨h', St.le.refl _, H h'⟩
  simp only [encA, boxE_eq, cells_agg]
  refine ⟨rfl, ?_⟩
  simp only [loadV_ptr, push_at, loadM_cells, partV_agg, takeN_lit4, Option.map_some, bindV_some]
  refine .inl ⟨rfl, .pointer none, h.next + 1, none, a, rfl, hid, rfl, fun h1 c1 p1 => ?_⟩
  rw [do_none]
  have n1 : h.next + 1 ≤ h1.next := by have := c1.1; simpa using this
  have a1 : h1.objs h.next = some (.cells [.int .u8 a.d, .int .u32 a.id, .int .u32 a.m, .int .i64 a.now] true) := c1.at (by simp) (by simp) (push_at _ _)
  simp [a1]
  refine .inr (.inl ⟨rfl, .pointer none, 0, none, a.id, rfl, hid, rfl, fun h2 c2 => ?_⟩)
  have a2 := c2.at (by omega) (by simp) a1
  have n2 := c2.1
  have i0 : instZ none a.id = Inst.zero := rfl
  have z0 : atZ none a.id = none := rfl
  have a3 : ((h2.push (.cells [.int .i64 0, .int .u32 0, .int .i64 0] true)).set h2.next (.cells [.int .i64 0, .int .u32 0, .int .i64 0] true)).objs h.next = some (.cells [.int .u8 a.d, .int .u32 a.id, .int .u32 a.m, .int .i64 a.now] true) := by
    rw [set_ne (by omega), push_ne (by omega)]; exact a2
  simp [i0, z0, encI, Inst.zero, groupK_eq, getT, buildV, fillL, binV, eqV, eqAll, eqCk]
  refine .inr (.inr (.inl ⟨rfl, .pointer none, 0, none, rfl, rfl, fun h4 c4 => ?_⟩))
  have a4 := c4.at (by simp; omega) (by simp) a3
  have l0 : leastZ none = 0 := rfl
  simp [l0, getT, groupK_eq, a4]
  refine .inr (.inr (.inr (.inl ⟨rfl, _, rfl, ?_⟩)))
  simp [getT, groupK_eq]
  refine .inr (.inr (.inr (.inr (.inl ⟨rfl, .pointer none, 0, none, rfl, rfl, ?_⟩))))
  simp [manyZ, getT, groupK_eq]
  refine .inr (.inr (.inr (.inr (.inr (.inl ⟨rfl, rfl, fun h' _ => ?_⟩)))))
  simp [getT, groupK_eq]
  exact fin h'
end Go.Proofs.Ytomjbkembmimbaa
