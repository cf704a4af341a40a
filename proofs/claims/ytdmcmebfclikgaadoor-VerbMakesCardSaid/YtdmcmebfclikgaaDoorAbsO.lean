/- What the abstract machine's operations do, the machine does: all of them. -/
import Derived.Test.YtdmcmebfclikgaaDoorAbsN
set_option linter.unusedSimpArgs false
set_option linter.unusedVariables false
namespace Go.Abs
open Go.RowKit (Below)

/-- What an oracle says of calls holds. -/
def OracleOk (P : Program) (B : Nat) (w0 : World) (C : Oracle) : Prop :=
  ∀ g args h k, C g args h k → (∃ fn, P.funcs[g]? = some fn ∧ fn.name ≠ "runtime.NumGoroutine" ∧ fn.body ≠ none) ∧
    ∀ w ρ args', HRel P B w0 ρ h w → LRel ρ args args'.toList → Calls P g args' w fun e w' => ∃ v v' h' ρ', e = .returned v' ∧ k v h' ∧ ρ.le ρ' ∧ HRel P B w0 ρ' h' w' ∧ VRel ρ' v v'

section
variable {P : Program} {B : Nat} {w0 w : World} {ρ : Rho} {h : St} {C : Oracle}

theorem call_sound (HC : OracleOk P B w0 C) (H : HRel P B w0 ρ h w) {f f' : Value} {args args' : Array Value} (hf : VRel ρ f f') (ha : LRel ρ args.toList args'.toList) {k : Cont} (hk : callE C f args.toList h k) :
    Post P B w0 ρ k ((do let d ← Deferred.ofValue f' args'; invoke d.target d.args : Sem Next).run P w) := by
  unfold callE at hk
  split at hk
  · rename_i g first captured
    cases hf with
    | lit _ e => simp [lit1] at e
    | func fn a b a' b' h1 h2 h3 h4 =>
      obtain ⟨⟨fn, e1, e2, e3⟩, hc⟩ := HC _ _ _ _ hk
      have : (do let d ← Deferred.ofValue (.func (.func g) a' b') args'; invoke d.target d.args : Sem Next).run P w = .ok (.enter g (a' ++ args' ++ b')) w := by
        simp [Deferred.ofValue, invoke, callFunc, e1, e2, e3, Result.andThen]
      rw [this]
      refine hc w ρ _ H ?_
      simp only [Array.toList_append]
      exact ((LRel.of_array h1 h3).append ha).append (LRel.of_array h2 h4)
  · exact hk.elim

theorem two_of_map {f : Operand → Value} {l : List Operand} {x y : Value} (h : l.map f = [x, y]) : ∃ p q, l = [p, q] ∧ f p = x ∧ f q = y := by
  match l, h with
  | [p, q], h => simp at h; exact ⟨p, q, rfl, h.1, h.2⟩
theorem opE_sound (HC : OracleOk P B w0 C) (H : HRel P B w0 ρ h w) {ev ev' : Operand → Value} (hev : ∀ x, VRel ρ (ev x) (ev' x)) {o : Oper} (he : isEff P o.op = true) {k : Cont} (hk : opE P C o.op ev h k) :
    Post P B w0 ρ k ((execOp ev' o).run P w) := by
  obtain ⟨dst, op, type, pos, after, guard⟩ := o
  simp only at hk he
  unfold opE at hk
  cases op <;> simp only at hk <;> try exact hk.elim
  case alloc t => exact alloc_sound H hk
  case box t x => exact box_sound H (hev x) hk
  case buildSlice t len parts => exact buildSlice_sound H hev hk
  case store t a x => exact store_sound H (hev a) (hev x) hk
  case makeMap t r =>
    unfold makeMapOp at hk
    split at hk
    · exact makeMap_sound H hk
    · exact hk.elim
  case makeSlice t l c => exact makeSlice_sound H (hev l) (hev c) hk
  case mapUpdate t m kk x => exact mapUpdate_sound H (hev m) (hev kk) (hev x) hk
  case insert t m kk x => exact mapUpdate_sound H (hev m) (hev kk) (hev x) hk
  case mapEntry t m kk => exact mapEntry_sound H (hev m) (hev kk) hk
  case entryStore t m s x => exact entryStore_sound H (hev m) (hev s) (hev x) hk
  case convert s d x =>
    refine toBytes_sound H (hev x) ?_ hk
    simp only [isEff] at he
    split at he
    · rename_i hs _; exact ⟨_, hs⟩
    · cases he
  case call c =>
    unfold callOp at hk
    obtain ⟨callee, args, argTypes⟩ := c
    cases callee with
    | value f =>
      simp only at hk
      have := call_sound HC H (args := args.map ev) (args' := args.map ev') (hev f) (by simp only [Array.toList_map]; exact LRel.map hev args.toList) (by simpa using hk)
      simpa only [execOp, resolve] using this
    | invoke r n => exact hk.elim
    | builtin b =>
      simp only at hk
      unfold builtinE at hk
      split at hk
      · split at hk
        · rename_i t u x y hts hxs
          have ht : argTypes = #[t, u] := Array.ext' (by simpa using hts)
          subst ht
          obtain ⟨p, q, hpq, rfl, rfl⟩ := two_of_map hxs
          have ha : args = #[p, q] := Array.ext' (by simpa using hpq)
          subst ha
          simpa [execOp, resolve, invoke, builtin] using append_sound H (ty := type) (hev p) (hev q) hk
        · exact hk.elim
      · split at hk
        · rename_i t ts m x hts hxs
          obtain ⟨p, q, hpq, rfl, rfl⟩ := two_of_map hxs
          have ha : args = #[p, q] := Array.ext' (by simpa using hpq)
          subst ha
          have h0 : argTypes[0]? = some t := by
            have : argTypes.toList[0]? = some t := by rw [hts]; rfl
            simpa using this
          simpa [execOp, resolve, invoke, builtin] using delete_sound H (ty := type) (ts := argTypes) (xs := #[ev' p, ev' q]) h0 rfl rfl (hev p) (hev q) hk
        · exact hk.elim
      · exact hk.elim
end
end Go.Abs
