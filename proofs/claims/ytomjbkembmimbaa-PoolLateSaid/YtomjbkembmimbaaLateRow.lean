/- PROVED HERE: 'PoolLate' returns true for every input that its row lets in, and changes nothing that was there. Conditions: none beyond the row's own.
   (Behind 'THE ROW' this text follows the shell that the kit's proof-skeleton prints.) -/
import Derived.Test.YtomjbkembmimbaaRows
import Derived.WalkKit
import Derived.ProofKit
import Derived.OpenShut
import Derived.ShutString
import Derived.ChangeOld
import Derived.Below
import Derived.HandedShaped
import Derived.DataShut
import Derived.Test.YtomjbkembmimbaaF
namespace Go.Proofs.Ytomjbkembmimbaa.poolLate
open Go.ChangeShapes Go.WideShapes Go.ChangeAt Go.RowKit
open Go.ChangeMaps (open_string shut_string)
set_option linter.unusedVariables false

theorem own : ownKnob Try.prog.godebug = none := by kernel_rfl
theorem laidOut : laidOutB Try.prog = true := by kernel_rfl
/-- What the walk is told of a slice that came in. -/
def Came (ks : List IntKind) (W : World) (v : Value) : Prop :=
  ∃ (n : Nat) (rows : Nat → List Value) (v' : Value), n ≤ maxLen ∧ (∀ i, i < n → Abs.Fits ks (rows i)) ∧ Abs.RowIn (Abs.st0 W) v' n ks.length rows ∧ Abs.VRel (Abs.rho0 W.heap.size) v' v
/-- An array of integers that came in. -/
theorem arr_fits {H : Type} {enc : TypeId × Value → H} {P : Program} {w : World} {base : Nat} {spare : Nat → Bool} {held : Bool} {n fuel : Nat} {t e : TypeId} {k : IntKind} {cs : List Value} {x : DataW H × List MemPlace} (ht : P.underlying t = some (.array n e)) (hct : P.cellsOf t = n) (hc : P.cellsOf e = 1) (he : P.underlying e = some (.int k)) (h : DataW.trod enc P w base spare held fuel t cs = some x) : Abs.Fits (List.replicate n k) cs := by
  obtain ⟨xs, m, _, _, hlen, hl, hf⟩ := DataW.trod_array ht h
  refine ⟨by rw [List.length_replicate]; omega, fun i k' hk => ?_⟩
  obtain ⟨hi, rfl⟩ : i < n ∧ k = k' := by
    have h1 := (List.getElem?_eq_some_iff.1 hk).1
    have h2 := (List.getElem?_eq_some_iff.1 hk).2
    simp at h1 h2
    exact ⟨h1, h2⟩
  have g := hf i hi
  rw [hc, Nat.mul_one, List.getElem?_eq_getElem (by omega)] at g
  obtain ⟨m, e1, _, hw⟩ := DataW.trod_int he g
  refine ⟨m, ?_, hw⟩
  have : ((cs.drop i).take 1)[0]? = some (.int k m) := by rw [e1]; rfl
  simpa [List.getElem?_take] using this
theorem in64 {x : Int} (h : (Lit.int .i64 x).wf = true) : In64 x := by
  have := (Lit.wf_int_iff .i64 x).1 h
  have a : IntKind.i64.min = -9223372036854775808 := by decide
  have b : IntKind.i64.max = 9223372036854775807 := by decide
  rw [a, b] at this
  exact this
theorem walk (c0 : Array Value) (a1 : Bool) (W : World) (hg : Try.prog.globals.size ≤ W.heap.size) (w0 : Abs.Fits [.i64, .i64, .i64] c0.toList) :
    Calls Try.prog 4 #[.agg c0, .bool a1] W fun e w' => e = .returned (.bool true) ∧ Below W.heap.size W w' := by
  have hl := w0.lit
  obtain ⟨h1, h2⟩ := w0
  obtain ⟨a, ha, wa⟩ := h2 0 .i64 rfl
  obtain ⟨b, hb, wb⟩ := h2 1 .i64 rfl
  obtain ⟨c, hc, wc⟩ := h2 2 .i64 rfl
  have e : c0 = #[.int .i64 a, .int .i64 b, .int .i64 c] := by
    apply Array.toList_inj.1
    have h1 : c0.toList.length = 3 := h1
    generalize c0.toList = l at *
    match l, h1 with
    | [x, y, z], _ => simp at ha hb hc; simp [ha, hb, hc]
  subst e
  exact Abs.law_calls hg lateLawS_good.1 (args := [_, .bool a1]) (.cons (.flat _ hl) (.cons (.lit _ rfl) .nil)) ⟨a, b, c, a1, rfl, in64 wa, in64 wb, in64 wc, fun _ => rfl⟩

/-! ### THE ROW -/
set_option maxRecDepth 100000 in
theorem lifted (os : Os) (started : os.Started) (H : Type) (enc : TypeId × Value → H) :
    ReturnsInHanded {} Try.checked os 4 .any (Rows.poolLateSpec.pre6 enc Try.prog Try.f4 Rows.poolLateRow.domain false) (Rows.poolLateSpec.post enc Try.prog Try.f4 false true false false) := by
  refine returnsInHanded_of_change_shaped (C := Try.checked) own started (by kernel_rfl) Try.func4
    (ChangeSpec.witness6 (enc := enc) (C := Try.checked) false ⟨#[], #[.agg #[.int .i64 0, .int .i64 0, .int .i64 0], .bool false], []⟩ 8 (by kernel_rfl) (by kernel_rfl) (by kernel_rfl) (by kernel_rfl)) ?_
  intro W base args ds gs before hval0 hW hcnd hwt hsh _
  have hval : ∀ (j : Nat) t v, Try.f4.params[j]? = some t → args[j]? = some v → Value.okWide Try.prog W .any base t v := hval0
  have hW' := hW
  obtain ⟨p, q, hA0, hV, rfl, hfz, hnd⟩ := hW
  have hA : DataW.TrodAll enc Try.prog W 0 (fun _ => true) true Try.f4.params.toList args.toList ds p := hA0
  rw [Try.params4] at hA hval
  obtain ⟨v0, vs0, d0, ds0, p0, q0, hargs, rfl, rfl, h0, r0⟩ := trodAll_cons hA
  obtain ⟨v1, vs1, d1, ds1, p1, q1, rfl, rfl, rfl, h1, r1⟩ := trodAll_cons r0
  obtain ⟨rfl, rfl, rfl⟩ := trodAll_nil r1
  obtain rfl : args = #[v0, v1] := by cases args; simp_all
  obtain ⟨rfl, rfl⟩ := trodVars_none hV
  obtain ⟨c0, rfl⟩ := Abs.okWide_agg (by rw [Try.underlying38]; rfl) (hval 0 38 v0 rfl rfl)
  have k0 := h0
  have lt0 : ∀ x ∈ p0, x.block < W.heap.size := by obtain ⟨m, hm⟩ := k0; exact DataW.trod_lt m _ _ _ hm
  have w0 : Abs.Fits [.i64, .i64, .i64] c0.toList := by
    obtain ⟨fuel, hf⟩ := h0
    exact arr_fits Try.underlying38 (by kernel_rfl) (by kernel_rfl) Try.underlying2 hf
  obtain ⟨a1, rfl, rfl, rfl⟩ := open_bool Try.underlying4 (hval 1 4 v1 rfl rfl) h1
  clear hA0 hval0
  refine (walk _ a1 W (Abs.globs_le hsh (by kernel_rfl)) w0).mono fun e W' ⟨he, bel⟩ => ?_
  subst he
  exact ⟨_, rfl, _, _, _, [], _, [], hW', trodAll_mk1 (shut_bool Try.underlying4 _), (trodAll_cons_mk (Below.trod laidOut (by kernel_rfl) (of_decide_eq_true (by kernel_rfl)) k0 bel lt0) (trodAll_cons_mk (shut_bool Try.underlying4 _) trodAll_mk0)), rfl, bel.frame _, fun h => by cases h⟩

theorem over : Rows.poolLateRow.holds Try.pinned (OpenSpec.ofChange Rows.poolLateSpec) :=
  OpenClaim.holds_of_wide 4 Try.f4 rfl rfl rfl rfl rfl rfl rfl ⟨rfl, rfl, rfl, rfl, rfl⟩ rfl rfl rfl rfl rfl (by kernel_rfl) Try.func4 (by kernel_rfl)
    (of_decide_eq_true (by kernel_rfl)) (by unfold Func.isWrapper; first | (rw [if_pos (by decide +kernel)]; kernel_rfl) | (rw [if_neg (by decide +kernel)]; exact ⟨rfl, rfl⟩))
    (fun os started H enc _ => lifted os started H enc)

/-- THE STATEMENT -/
theorem proved : Rows.PoolLateSaid := over
#print axioms proved
end Go.Proofs.Ytomjbkembmimbaa.poolLate
