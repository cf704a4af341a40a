/- PROVED HERE: 'SessionNil' returns true for every input that its row lets in, and changes nothing that was there. Conditions: none beyond the row's own.
   (Behind 'THE ROW' this text follows the shell that the kit's proof-skeleton prints.) -/
import Derived.Test.YtnelcpabjpchnaaRows
import Derived.WalkKit
import Derived.ProofKit
import Derived.OpenShut
import Derived.ShutString
import Derived.ChangeOld
import Derived.Below
import Derived.HandedShaped
import Derived.DataShut
import Derived.Test.YtnelcpabjpchnaaSesD
namespace Go.Proofs.Ytnelcpabjpchnaa.sessionNil
open Go.ChangeShapes Go.WideShapes Go.ChangeAt Go.RowKit
open Go.ChangeMaps (open_string shut_string)
set_option linter.unusedVariables false

theorem own : ownKnob Try.prog.godebug = none := by kernel_rfl
theorem laidOut : laidOutB Try.prog = true := by kernel_rfl
/-- What the walk is told of a slice that came in. -/
def Came (ks : List IntKind) (W : World) (v : Value) : Prop :=
  ∃ (n : Nat) (rows : Nat → List Value) (v' : Value), n ≤ maxLen ∧ (∀ i, i < n → Abs.Fits ks (rows i)) ∧ Abs.RowIn (Abs.st0 W) v' n ks.length rows ∧ Abs.VRel (Abs.rho0 W.heap.size) v' v
theorem walk (c0 : Array Value) (W : World) (hg : Try.prog.globals.size ≤ W.heap.size) (w0 : Abs.Fits [.u8, .u32, .u32, .i64] c0.toList) :
    Calls Try.prog 6 #[.agg c0] W fun e w' => e = .returned (.bool true) ∧ Below W.heap.size W w' := by
  obtain ⟨h1, h2⟩ := w0
  obtain ⟨a, ha, _⟩ := h2 0 .u8 rfl
  obtain ⟨b, hb, _⟩ := h2 1 .u32 rfl
  obtain ⟨c, hc, _⟩ := h2 2 .u32 rfl
  obtain ⟨d, hd, _⟩ := h2 3 .i64 rfl
  have e : c0 = #[.int .u8 a, .int .u32 b, .int .u32 c, .int .i64 d] := by
    have hl : c0.toList.length = 4 := h1
    apply Array.ext'
    match hh : c0.toList, hl with
    | [x, y, z, w], _ => rw [hh] at ha hb hc hd; simp at ha hb hc hd; simp [ha, hb, hc, hd]
  subst e
  exact Abs.law_calls hg Try.func6 (by kernel_rfl) (by kernel_rfl) nilLawO_good.1 (args := [.agg #[.int .u8 a, .int .u32 b, .int .u32 c, .int .i64 d]]) (.cons (.flat _ rfl) .nil) ⟨a, b, c, d, rfl, fun _ => rfl⟩

/-! ### THE ROW -/
set_option maxRecDepth 100000 in
theorem lifted (os : Os) (started : os.Started) (H : Type) (enc : TypeId × Value → H) :
    ReturnsInHanded {} Try.checked os 6 .any (Rows.sessionNilSpec.pre6 enc Try.prog Try.f6 Rows.sessionNilRow.domain false) (Rows.sessionNilSpec.post enc Try.prog Try.f6 false true false false) := by
  refine returnsInHanded_of_change_shaped (C := Try.checked) own started (by kernel_rfl) Try.func6
    (ChangeSpec.witness6 (enc := enc) (C := Try.checked) false ⟨#[], #[.agg #[.int .u8 0, .int .u32 0, .int .u32 0, .int .i64 0]], []⟩ 8 (by kernel_rfl) (by kernel_rfl) (by kernel_rfl) (by kernel_rfl)) ?_
  intro W base args ds gs before hval0 hW hcnd hwt hsh _
  have hval : ∀ (j : Nat) t v, Try.f6.params[j]? = some t → args[j]? = some v → Value.okWide Try.prog W .any base t v := hval0
  have hW' := hW
  obtain ⟨p, q, hA0, hV, rfl, hfz, hnd⟩ := hW
  have hA : DataW.TrodAll enc Try.prog W 0 (fun _ => true) true Try.f6.params.toList args.toList ds p := hA0
  rw [Try.params6] at hA hval
  obtain ⟨v0, vs0, d0, ds0, p0, q0, hargs, rfl, rfl, h0, r0⟩ := trodAll_cons hA
  obtain ⟨rfl, rfl, rfl⟩ := trodAll_nil r0
  obtain rfl : args = #[v0] := by cases args; simp_all
  obtain ⟨rfl, rfl⟩ := trodVars_none hV
  obtain ⟨c0, rfl⟩ := Abs.okWide_agg (by rw [Try.underlying34]; rfl) (hval 0 34 v0 rfl rfl)
  have k0 := h0
  have lt0 : ∀ x ∈ p0, x.block < W.heap.size := by obtain ⟨m, hm⟩ := k0; exact DataW.trod_lt m _ _ _ hm
  have w0 : Abs.Fits [.u8, .u32, .u32, .i64] c0.toList := by
    obtain ⟨fuel, hf⟩ := h0
    exact (Abs.elem_fits (by kernel_rfl) hf).2
  clear hA0 hval0
  refine (walk _ W (Abs.globs_le hsh (by kernel_rfl)) w0).mono fun e W' ⟨he, bel⟩ => ?_
  subst he
  exact ⟨_, rfl, _, _, _, [], _, [], hW', trodAll_mk1 (shut_bool Try.underlying4 _), (trodAll_cons_mk (Below.trod laidOut (by kernel_rfl) (of_decide_eq_true (by kernel_rfl)) k0 bel lt0) trodAll_mk0), rfl, bel.frame _, fun h => by cases h⟩

theorem over : Rows.sessionNilRow.holds Try.pinned (OpenSpec.ofChange Rows.sessionNilSpec) :=
  OpenClaim.holds_of_wide 6 Try.f6 rfl rfl rfl rfl rfl rfl rfl ⟨rfl, rfl, rfl, rfl, rfl⟩ rfl rfl rfl rfl rfl (by kernel_rfl) Try.func6 (by kernel_rfl)
    (of_decide_eq_true (by kernel_rfl)) (by unfold Func.isWrapper; first | (rw [if_pos (by decide +kernel)]; kernel_rfl) | (rw [if_neg (by decide +kernel)]; exact ⟨rfl, rfl⟩))
    (fun os started H enc _ => lifted os started H enc)

/-- THE STATEMENT -/
theorem proved : Rows.SessionNilSaid := over
#print axioms proved
end Go.Proofs.Ytnelcpabjpchnaa.sessionNil
