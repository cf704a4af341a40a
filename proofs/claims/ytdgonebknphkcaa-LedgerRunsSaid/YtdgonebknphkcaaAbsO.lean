/- What the abstract machine's operations do, the machine does: all of them. -/
import Derived.Test.YtdgonebknphkcaaAbsN2
set_option linter.unusedSimpArgs false
set_option linter.unusedVariables false
namespace Go.Abs
open Go.RowKit (Below)

/-- What an oracle says of calls holds. -/
def OracleOk (P : Program) (B : Nat) (w0 : World) (C : Oracle) : Prop :=
  ∀ g args h k, C g args h k → ∀ w ρ args', HRel P B w0 ρ h w → LRel ρ args args'.toList → Post P B w0 ρ k ((callFunc g args').run P w)

section
variable {P : Program} {B : Nat} {w0 w : World} {ρ : Rho} {h : St} {C : Oracle}

theorem call_sound (HC : OracleOk P B w0 C) (H : HRel P B w0 ρ h w) {f f' : Value} {args args' : Array Value} (hf : VRel ρ f f') (ha : LRel ρ args.toList args'.toList) {k : Cont} (hk : callE C f args.toList h k) :
    Post P B w0 ρ k ((do let d ← Deferred.ofValue f' args'; invoke d.target d.args : Sem Next).run P w) := by
  unfold callE at hk
  split at hk
  · rename_i g first captured
    cases hf with
    | lit _ e => simp [lit1] at e
    | func fn a b a' b' h1 h2 h3 h4 =>
      have : (do let d ← Deferred.ofValue (.func (.func g) a' b') args'; invoke d.target d.args : Sem Next).run P w = (callFunc g (a' ++ args' ++ b')).run P w := by
        simp [Deferred.ofValue, invoke, Result.andThen]
      rw [this]
      refine HC _ _ _ _ hk w ρ _ H ?_
      simp only [Array.toList_append]
      exact ((LRel.of_array h1 h3).append ha).append (LRel.of_array h2 h4)
  · exact hk.elim

theorem loadVar_of_at {t : TypeId} {a : Addr} {v : Value} {w' : World} (h : (Instr.loadAt t (.pointer (some a))).run P w = .ok v w') : (loadVar t a).run P w = .ok v w' := by
  simpa [Instr.loadAt, Instr.sureAddr, Result.andThen] using h
theorem loadV_ptr_of {g : Bool} {n : Nat} {p p' v : Value} (hp : VRel ρ p p') (hv : loadV g n p h = some v) : ∃ a, p' = .pointer (some a) := by
  unfold loadV at hv
  split at hv
  · cases hp with
    | lit _ e => simp [lit1] at e
    | ptr _ _ l hl => exact ⟨_, rfl⟩
  · cases hv
theorem wrapNil_run (ts : Array TypeId) (t : TypeId) (a : Addr) (x y : String) : (Builtin.ssaWrapNilChk_ ts t #[.pointer (some a), strVal x, strVal y]).run P w = .ok (.pointer (some a)) w := rfl
theorem invoke_sound (HC : OracleOk P B w0 C) (H : HRel P B w0 ρ h w) {r r' : Value} {name : String} {args args' : List Value} (hr : VRel ρ r r') (ha : LRel ρ args args') {k : Cont} (hk : invokeE P C name r args h k) :
    Post P B w0 ρ k ((callMethod r' name args'.toArray).run P w) := by
  unfold invokeE at hk
  split at hk
  · rename_i t v
    cases hr with
    | lit _ e => simp [lit1] at e
    | iface _ _ v' hv =>
      have fin : ∀ (f : FuncId) (x x' : Value), VRel ρ x x' → C f (x :: args) h k → (method (P.types.size + Made.depth) t v' name).run P w = .ok (f, x') w → Post P B w0 ρ k ((callMethod (.iface t v') name args'.toArray).run P w) := by
        intro f x x' hx hC hm
        have : (callMethod (.iface t v') name args'.toArray).run P w = (callFunc f (#[x'] ++ args'.toArray)).run P w := by
          simp [callMethod, hm, Result.andThen]
        rw [this]
        refine HC _ _ _ _ hC w ρ _ H ?_
        simp only [Array.toList_append]
        exact .cons hx ha
      have fuel : P.types.size + Made.depth = (P.types.size + (Made.depth - 1)) + 1 := by
        have : 0 < Made.depth := by decide
        omega
      unfold methOf at hk
      cases hi : P.info? t with
      | none => simp [hi] at hk
      | some i =>
        simp only [hi] at hk
        cases hf : i.methods.find? (fun m => m.name == name) with
        | none => simp [hf] at hk
        | some m =>
          cases hu : P.underlying t with
          | none => simp [hf, hu] at hk
          | some d =>
            cases d <;> simp only [hf, hu] at hk <;> try exact hk.elim
            rename_i e
            have hm0 : ∀ (x : Sem (FuncId × Value)), True := fun _ => trivial
            cases hp : m.path.toList with
            | cons a b => simp [hp] at hk
            | nil =>
              have hp' : m.path = #[] := Array.ext' (by simpa using hp)
              cases hg : m.func with
              | none => simp [hp, hg] at hk
              | some fb =>
                obtain ⟨f, b⟩ := fb
                cases b with
                | true =>
                  simp only [hp, hg] at hk
                  refine fin f v v' hv hk ?_
                  rw [fuel]
                  simp [method, typeInfo, hi, hf, hp, hg, follow, receiverAt, run_underlying hu, Place.get, Result.andThen]
                | false =>
                  simp only [hp, hg] at hk
                  cases ha' : aggT P e with
                  | none => simp [ha'] at hk
                  | some g =>
                    cases hj : P.info? e with
                    | none => simp [ha', hj] at hk
                    | some j =>
                      simp only [ha', hj] at hk
                      cases hl : loadV g j.size v h with
                      | none => simp [hl, bindV] at hk
                      | some x =>
                        rw [hl] at hk
                        simp only [bindV] at hk
                        obtain ⟨x', h1, h2⟩ := loadV_sound H ha' hj hv hl
                        obtain ⟨a, rfl⟩ := loadV_ptr_of hv hl
                        refine fin f x x' h2 hk ?_
                        rw [fuel]
                        have h3 := loadVar_of_at h1
                        simp [method, typeInfo, hi, hf, hp', hg, follow, receiverAt, run_underlying hu, Place.get, wrapNil_run, asAddr, h3, Result.andThen]
  · exact hk.elim

theorem two_of_map {f : Operand → Value} {l : List Operand} {x y : Value} (h : l.map f = [x, y]) : ∃ p q, l = [p, q] ∧ f p = x ∧ f q = y := by
  match l, h with
  | [p, q], h => simp at h; exact ⟨p, q, rfl, h.1, h.2⟩
theorem opE_sound (HC : OracleOk P B w0 C) (H : HRel P B w0 ρ h w) {ev ev' : Operand → Value} (hev : ∀ x, VRel ρ (ev x) (ev' x)) {o : Oper} (he : isEff P o.op = true) {k : Cont} (hk : opE P C o.op ev h k) :
    Post P B w0 ρ k ((execOp ev' o).run P w) := by
  obtain ⟨dst, op, type, pos, after, guard⟩ := o
  simp only at hk he
  unfold opE at hk
  cases op <;> simp only at hk <;> try exact hk.elim
  case alloc t => exact alloc_sound H hk
  case box t x => exact box_sound H (hev x) hk
  case buildSlice t len parts => exact buildSlice_sound H hev hk
  case store t a x => exact store_sound H (hev a) (hev x) hk
  case makeMap t r =>
    unfold makeMapOp at hk
    split at hk
    · exact makeMap_sound H hk
    · exact hk.elim
  case makeSlice t l c => exact makeSlice_sound H (hev l) (hev c) hk
  case mapUpdate t m kk x => exact mapUpdate_sound H (hev m) (hev kk) (hev x) hk
  case insert t m kk x => exact mapUpdate_sound H (hev m) (hev kk) (hev x) hk
  case mapEntry t m kk => exact mapEntry_sound H (hev m) (hev kk) hk
  case entryStore t m s x => exact entryStore_sound H (hev m) (hev s) (hev x) hk
  case range t x => exact range_sound H (hev x) hk
  case next x b => exact next_sound H (hev x) hk
  case convert s d x =>
    refine toBytes_sound H (hev x) ?_ hk
    simp only [isEff] at he
    split at he
    · rename_i hs _; exact ⟨_, hs⟩
    · cases he
  case call c =>
    unfold callOp at hk
    obtain ⟨callee, args, argTypes⟩ := c
    cases callee with
    | value f =>
      simp only at hk
      have := call_sound HC H (args := args.map ev) (args' := args.map ev') (hev f) (by simp only [Array.toList_map]; exact LRel.map hev args.toList) (by simpa using hk)
      simpa only [execOp, resolve] using this
    | invoke r n =>
      simp only at hk
      have := invoke_sound HC H (name := n) (hev r) (LRel.map hev args.toList) hk
      have e : (args.toList.map ev').toArray = args.map ev' := Array.ext' (by simp)
      rw [e] at this
      have ex : ((#[ev' r] ++ args.map ev').extract 1 (#[ev' r] ++ args.map ev').size) = args.map ev' := by
        apply Array.ext'
        simp [List.take_of_length_le]
      have e0 : (#[ev' r] ++ args.map ev')[0]? = some (ev' r) := by
        rw [← Array.getElem?_toList, Array.toList_append]
        rfl
      have e2 : (execOp ev' ⟨dst, .call ⟨.invoke r n, args, argTypes⟩, type, pos, after, guard⟩) = callMethod (ev' r) n (args.map ev') := by
        show (do let d ← (pure { target := .fn (.method n) #[], args := #[ev' r] ++ args.map ev' } : Sem Deferred); invoke d.target d.args) = _
        rw [pure_bind]
        simp only [invoke, e0, ex]
      rw [e2]
      exact this
    | builtin b =>
      simp only at hk
      unfold builtinE at hk
      split at hk
      · split at hk
        · rename_i t u x y hts hxs
          have ht : argTypes = #[t, u] := Array.ext' (by simpa using hts)
          subst ht
          obtain ⟨p, q, hpq, rfl, rfl⟩ := two_of_map hxs
          have ha : args = #[p, q] := Array.ext' (by simpa using hpq)
          subst ha
          simpa [execOp, resolve, invoke, builtin] using append_sound H (ty := type) (hev p) (hev q) hk
        · exact hk.elim
      · split at hk
        · rename_i t ts m x hts hxs
          obtain ⟨p, q, hpq, rfl, rfl⟩ := two_of_map hxs
          have ha : args = #[p, q] := Array.ext' (by simpa using hpq)
          subst ha
          have h0 : argTypes[0]? = some t := by
            have : argTypes.toList[0]? = some t := by rw [hts]; rfl
            simpa using this
          simpa [execOp, resolve, invoke, builtin] using delete_sound H (ty := type) (ts := argTypes) (xs := #[ev' p, ev' q]) h0 rfl rfl (hev p) (hev q) hk
        · exact hk.elim
      · split at hk
        · rename_i t u x y hts hxs
          have ht : argTypes = #[t, u] := Array.ext' (by simpa using hts)
          subst ht
          obtain ⟨p, q, hpq, rfl, rfl⟩ := two_of_map hxs
          have ha : args = #[p, q] := Array.ext' (by simpa using hpq)
          subst ha
          simpa [execOp, resolve, invoke, builtin] using copy_sound H (ty := type) (hev p) (hev q) hk
        · exact hk.elim
      · split at hk
        · rename_i t x hts hxs
          have ht : argTypes = #[t] := Array.ext' (by simpa using hts)
          subst ht
          obtain ⟨p, hpq, rfl⟩ : ∃ p, args.toList = [p] ∧ ev p = x := by
            match args.toList, hxs with
            | [p], h => simp at h; exact ⟨p, rfl, h⟩
          have ha : args = #[p] := Array.ext' (by simpa using hpq)
          subst ha
          simpa [execOp, resolve, invoke, builtin] using clear_sound H (ty := type) (hev p) hk
        · exact hk.elim
      · exact hk.elim
end
end Go.Abs
