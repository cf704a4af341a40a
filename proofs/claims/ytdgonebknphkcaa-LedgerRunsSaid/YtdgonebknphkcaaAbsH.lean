/- Every operation that leaves the heap alone. -/
import Derived.Test.YtdgonebknphkcaaAbsG
set_option linter.unusedSimpArgs false
set_option linter.unusedVariables false
namespace Go.Abs
open Go.RowKit (Below)

section
variable {P : Program} {B : Nat} {w0 w : World} {ρ : Rho} {h : St}

theorem zeroV_spec {t : TypeId} {z : Value} (hz : zeroV P t = some z) (w : World) : (zeroValue t).run P w = .ok z w ∧ lit z = true := by
  unfold zeroV at hz
  split at hz
  · rename_i i hi
    split at hz
    · rename_i z' e
      split at hz
      · rename_i hl
        cases hz
        exact ⟨by simp [zeroValue, typeInfo, hi, e, Result.andThen], hl⟩
      · cases hz
    · cases hz
  · cases hz
theorem outV_rel {ok b : Bool} {v v' : Value} (hv : VRel ρ v v') : VRel ρ (outV ok v b) (if ok then .tuple #[v', .bool b] else v') := by
  cases ok with
  | false => exact hv
  | true => exact VRel.tupleL (l := [v, .bool b]) (a' := #[v', .bool b]) (.cons hv (.cons (.bool _ b) .nil))
theorem lookupOp_sound (H : HRel P B w0 ρ h w) {t : TypeId} {m m' k k' v : Value} {ok : Bool} (hm : VRel ρ m m') (hk : VRel ρ k k') (hv : lookupOp P t m k ok h = some v) :
    ∃ v', (Instr.lookup t m' k' ok).run P w = .ok v' w ∧ VRel ρ v v' := by
  unfold lookupOp at hv
  split at hv
  · rename_i key elem hu
    split at hv
    · rename_i z hz
      obtain ⟨hz1, hz2⟩ := zeroV_spec hz w
      unfold lookV at hv
      split at hv
      · simp only [Option.map_eq_some_iff] at hv
        obtain ⟨r, e1, rfl⟩ := hv
        obtain ⟨rfl, hc, r', h1, h2⟩ := find_sound (P := P) (ρ := ρ) hk .nil e1 true w
        obtain ⟨m2, rfl, hm2⟩ := hm.map_inv
        obtain rfl := none_of_isNone hm2
        have hr : r' = none := by cases r <;> cases r' <;> simp [Found] at h2 ⊢
        subst hr
        refine ⟨_, ?_, outV_rel (VRel.of_lit hz2)⟩
        simp [Instr.lookup, run_underlying hu, Result.andThen, hc, h1, hz1]
      · rename_i r0
        split at hv
        · rename_i es clock ho
          simp only [Option.map_eq_some_iff] at hv
          obtain ⟨r, e1, rfl⟩ := hv
          obtain ⟨l, hl, hown, hB, es', hblk, hes⟩ := H.obj _ _ ho
          cases hm with
          | lit _ e => simp [lit1] at e
          | map _ l' hl' =>
            have : l' = l := by rw [hl] at hl'; exact (Option.some.inj hl').symm
            subst this
            obtain ⟨rfl, hc, r', h1, h2⟩ := find_sound (P := P) hk hes e1 es'.isEmpty w
            have hget : (getObj l'.blk).run P w = .ok (.map es' clock) w := by simp [getObj, Sem.run, hblk]
            cases r with
            | none =>
              have hr : r' = none := by cases r' <;> simp [Found] at h2 ⊢
              subst hr
              refine ⟨_, ?_, outV_rel (VRel.of_lit hz2)⟩
              simp [Instr.lookup, run_underlying hu, Result.andThen, hget, hc, h1, hz1]
            | some ie =>
              obtain ⟨i, e⟩ := ie
              cases r' with
              | none => simp [Found] at h2
              | some jv =>
                obtain ⟨j, v'⟩ := jv
                obtain ⟨h3, e', h4, h5, h6⟩ := h2
                refine ⟨_, ?_, outV_rel (h5 ▸ h6.2.2)⟩
                simp [Instr.lookup, run_underlying hu, Result.andThen, hget, hc, h1]
        · cases hv
      · cases hv
    · cases hv
  · cases hv
theorem lenOp_sound (H : HRel P B w0 ρ h w) {t ty : TypeId} {ts : Array TypeId} {xs : Array Value} {x x' v : Value} (ht : ts[0]? = some t) (hxs : xs[0]? = some x') (hx : VRel ρ x x') (hv : lenOp P t x h = some v) :
    (Builtin.len_ ts ty xs).run P w = .ok v w ∧ lit1 v = true := by
  unfold lenOp at hv
  split at hv
  · rename_i hu
    unfold lenT at hv
    split at hv
    · cases hv; obtain rfl := hx.string_inv; exact ⟨by simp [Builtin.len_, ht, hxs, run_underlying hu, Result.andThen, goInt], rfl⟩
    · cases hv
  · rename_i e hu
    unfold lenS at hv
    split at hv
    · cases hv; obtain ⟨b', c', rfl, _⟩ := hx.slice_inv; exact ⟨by simp [Builtin.len_, ht, hxs, run_underlying hu, Result.andThen, goInt], rfl⟩
    · cases hv
  · rename_i k e hu
    unfold lenM at hv
    split at hv
    · cases hv; obtain ⟨b', rfl, hb⟩ := hx.map_inv; obtain rfl := none_of_isNone hb; exact ⟨by simp [Builtin.len_, ht, hxs, run_underlying hu, Result.andThen, goInt], rfl⟩
    · rename_i r
      split at hv
      · rename_i es clock ho
        cases hv
        obtain ⟨l, hl, hown, hB, es', hblk, hes⟩ := H.obj _ _ ho
        cases hx with
        | lit _ e => simp [lit1] at e
        | map _ l' hl' =>
          have : l' = l := by rw [hl] at hl'; exact (Option.some.inj hl').symm
          subst this
          have hget : (getObj l'.blk).run P w = .ok (.map es' clock) w := by simp [getObj, Sem.run, hblk]
          have hn := hes.length
          exact ⟨by simp [Builtin.len_, ht, hxs, run_underlying hu, Result.andThen, goInt, hget, hn], rfl⟩
      · cases hv
    · cases hv
  · rename_i n e hu
    cases hv; exact ⟨by simp [Builtin.len_, ht, hxs, run_underlying hu, Result.andThen, goInt], rfl⟩
  · cases hv
theorem ints_inv2 {k : IntKind} {x y : Int} {l' : List Value} (hx : LRel ρ [.int k x, .int k y] l') : l' = [.int k x, .int k y] := by
  cases hx with | cons h1 t => cases t with | cons h2 t => cases t; rw [h1.int_inv, h2.int_inv]
theorem ints_inv3 {k : IntKind} {x y z : Int} {l' : List Value} (hx : LRel ρ [.int k x, .int k y, .int k z] l') : l' = [.int k x, .int k y, .int k z] := by
  cases hx with | cons h1 t => cases t with | cons h2 t => cases t with | cons h3 t => cases t; rw [h1.int_inv, h2.int_inv, h3.int_inv]
theorem minV_sound {xs : List Value} {xs' : Array Value} {v : Value} (hx : LRel ρ xs xs'.toList) (hv : minV xs = some v) (ts : Array TypeId) (ty : TypeId) (w : World) : (Builtin.min_ ts ty xs').run P w = .ok v w ∧ lit1 v = true := by
  unfold minV at hv
  split at hv
  · split at hv
    · rename_i e; subst e; cases hv; exact ⟨by simp [Builtin.min_, ints_inv2 hx, Builtin.min2], rfl⟩
    · cases hv
  · split at hv
    · rename_i e; obtain ⟨rfl, rfl⟩ := e; cases hv; exact ⟨by simp [Builtin.min_, ints_inv3 hx, Builtin.min2, Result.andThen], rfl⟩
    · cases hv
  · cases hv
theorem maxV_sound {xs : List Value} {xs' : Array Value} {v : Value} (hx : LRel ρ xs xs'.toList) (hv : maxV xs = some v) (ts : Array TypeId) (ty : TypeId) (w : World) : (Builtin.max_ ts ty xs').run P w = .ok v w ∧ lit1 v = true := by
  unfold maxV at hv
  split at hv
  · split at hv
    · rename_i e; subst e; cases hv; exact ⟨by simp [Builtin.max_, ints_inv2 hx, Builtin.max2], rfl⟩
    · cases hv
  · split at hv
    · rename_i e; obtain ⟨rfl, rfl⟩ := e; cases hv; exact ⟨by simp [Builtin.max_, ints_inv3 hx, Builtin.max2, Result.andThen], rfl⟩
    · cases hv
  · cases hv
theorem capOp_sound {t ty : TypeId} {ts : Array TypeId} {xs : Array Value} {x x' v : Value} (ht : ts[0]? = some t) (hxs : xs[0]? = some x') (hx : VRel ρ x x') (hv : capOp P t x = some v) (w : World) :
    (Builtin.cap_ ts ty xs).run P w = .ok v w ∧ lit1 v = true := by
  unfold capOp at hv
  split at hv
  · rename_i e hu
    unfold capS at hv
    split at hv
    · cases hv; obtain rfl := hx.nilSlice_inv; exact ⟨by simp [Builtin.cap_, ht, hxs, run_underlying hu, Result.andThen, goInt], rfl⟩
    · rename_i a off z n c
      cases hv
      cases hx with
      | lit _ e => simp [lit1] at e
      | empty _ _ bb hk =>
        have : c = 0 := by have := hk (by simp); omega
        subst this
        exact ⟨by simp [Builtin.cap_, ht, hxs, run_underlying hu, Result.andThen, goInt], rfl⟩
      | owned _ _ _ _ cap _ lc hlc hn hc hlim hk =>
        have : cap = c := by have := hk (by omega); omega
        subst this
        exact ⟨by simp [Builtin.cap_, ht, hxs, run_underlying hu, Result.andThen, goInt], rfl⟩
    · cases hv
  · cases hv
theorem convV_sound (H : HRel P B w0 ρ h w) {s d : TypeId} {x x' v : Value} (hx : VRel ρ x x') (hv : convV P s d x h = some v) : (convert s d x').run P w = .ok v w ∧ lit1 v = true := by
  unfold convV at hv
  split at hv
  · rename_i u k hu hd
    unfold wrapV at hv
    split at hv
    · cases hv; obtain rfl := hx.int_inv
      exact ⟨by simp [convert, run_underlying hu, run_underlying hd, Result.andThen, Conv.intToInt], rfl⟩
    · cases hv
  · rename_i e hu hd
    split at hv
    · rename_i he
      obtain ⟨h1, h2⟩ := textOf_sound H hx hv
      refine ⟨?_, h2⟩
      have hx' : ∃ a n c, x' = .slice a n c := by
        unfold textOf at hv
        split at hv
        · exact ⟨none, 0, 0, hx.nilSlice_inv⟩
        · obtain ⟨b', c', rfl, _⟩ := hx.slice_inv; exact ⟨_, _, _, rfl⟩
        · cases hv
      obtain ⟨a, n, c, rfl⟩ := hx'
      simp [convert, run_underlying hu, run_underlying hd, run_underlying he, Result.andThen, h1]
    · cases hv
  · rename_i u _ hu hd
    unfold sameText at hv
    split at hv
    · cases hv; obtain rfl := hx.string_inv
      refine ⟨?_, rfl⟩
      simp only [convert, Sem.run_bind, run_underlying hu, run_underlying hd, Result.andThen]
      cases u <;> rfl
    · cases hv
  · cases hv
theorem assertOp_sound {s t : TypeId} {ok : Bool} {x x' v : Value} (hx : VRel ρ x x') (hv : assertOp P t ok x = some v) (w : World) : ∃ v', (Instr.typeAssert x' s t ok).run P w = .ok v' w ∧ VRel ρ v v' := by
  unfold assertOp at hv
  cases hu : P.underlying t with
  | none => simp [hu] at hv
  | some d =>
    have hv' : assertV t (zeroV P t) ok x = some v ∧ ∀ m, d ≠ .interface m := by cases d <;> simp [hu] at hv <;> exact ⟨hv, fun m => by simp⟩
    obtain ⟨hv', hd⟩ := hv'
    unfold assertV at hv'
    split at hv'
    · rename_i u x0
      obtain ⟨x0', rfl, h1⟩ := hx.iface_inv
      split at hv'
      · rename_i e
        have e' : u = t := by simpa using e
        subst e'
        cases hv'
        refine ⟨if ok then .tuple #[x0', .bool true] else x0', ?_, ?_⟩
        · simp only [Instr.typeAssert, Sem.run_bind, run_underlying hu, Result.andThen]
          cases d <;> simp at hd <;> simp [Instr.typeAssert]
        · cases ok
          · exact h1
          · exact VRel.tupleL (l := [x0, .bool true]) (a' := #[x0', .bool true]) (.cons h1 (.cons (.bool _ _) .nil))
      · rename_i e
        have e' : u ≠ t := by intro h; subst h; simp at e
        split at hv'
        · rename_i z hz
          cases hv'
          obtain ⟨hz1, hz2⟩ := zeroV_spec hz w
          refine ⟨.tuple #[z, .bool false], ?_, VRel.tupleL (l := [z, .bool false]) (a' := #[z, .bool false]) (.cons (VRel.of_lit hz2) (.cons (.bool _ _) .nil))⟩
          simp only [Instr.typeAssert, Sem.run_bind, run_underlying hu, Result.andThen]
          cases d <;> simp at hd <;> simp [e', hz1, Result.andThen]
        · cases hv'
    · obtain rfl := hx.nilIface_inv
      split at hv'
      · rename_i z hz
        cases hv'
        obtain ⟨hz1, hz2⟩ := zeroV_spec hz w
        refine ⟨.tuple #[z, .bool false], ?_, VRel.tupleL (l := [z, .bool false]) (a' := #[z, .bool false]) (.cons (VRel.of_lit hz2) (.cons (.bool _ _) .nil))⟩
        simp only [Instr.typeAssert, Sem.run_bind, run_underlying hu, Result.andThen]
        cases d <;> simp at hd <;> simp [hz1, Result.andThen]
      · cases hv'
    · cases hv'
end
end Go.Abs
