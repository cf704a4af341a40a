/- PROVED HERE: 'BoardKnows' returns true for every input that its row lets in, and changes nothing that was there. Conditions: none beyond the row's own.
   (Behind 'THE ROW' this text follows the shell that the kit's proof-skeleton prints.) -/
import Derived.Test.YtlohiobliagaoaaRows
import Derived.WalkKit
import Derived.ProofKit
import Derived.OpenShut
import Derived.ShutString
import Derived.ChangeOld
import Derived.Below
import Derived.HandedShaped
import Derived.DataShut
import Derived.Test.YtlohiobliagaoaaBdG
import Derived.Test.YtlohiobliagaoaaAbsZ2
namespace Go.Proofs.Ytlohiobliagaoaa.boardKnows
open Go.ChangeShapes Go.WideShapes Go.ChangeAt Go.RowKit
open Go.ChangeMaps (open_string shut_string)
set_option linter.unusedVariables false

theorem own : ownKnob Try.prog.godebug = none := by kernel_rfl
theorem laidOut : laidOutB Try.prog = true := by kernel_rfl
/-- What the walk is told of a slice that came in. -/
def Came (ks : List IntKind) (W : World) (v : Value) : Prop :=
  ∃ (n : Nat) (rows : Nat → List Value) (v' : Value), n ≤ maxLen ∧ (∀ i, i < n → Abs.Fits ks (rows i)) ∧ Abs.RowIn (Abs.st0 W) v' n ks.length rows ∧ Abs.VRel (Abs.rho0 W.heap.size) v' v
def CameX (ks : List (Option IntKind)) (W : World) (v : Value) : Prop :=
  ∃ (n : Nat) (rows : Nat → List Value) (v' : Value), n ≤ maxLen ∧ (∀ i, i < n → Abs.FitsX ks (rows i)) ∧ Abs.RowIn (Abs.st0 W) v' n ks.length rows ∧ Abs.VRel (Abs.rho0 W.heap.size) v' v
theorem nat32 {n : Int} (h : (Lit.int .u32 n).wf = true) : ∃ m : Nat, (m : Int) = n := by
  have := (Lit.wf_int_iff .u32 n).1 h
  simp [IntKind.min, IntKind.max, IntKind.signed, IntKind.bits] at this
  exact ⟨n.toNat, by omega⟩
theorem act_of {v : List Value} (h : Abs.FitsX [none, some .u32, some .i64] v) : ∃ a : BAct, v = cellsT a := by
  obtain ⟨h1, h2⟩ := h
  obtain ⟨x, ha, a, ea⟩ := h2 0 none rfl
  obtain ⟨y, hb, b, eb, wb⟩ := h2 1 (some .u32) rfl
  obtain ⟨z, hc, c, ec, wc⟩ := h2 2 (some .i64) rfl
  obtain ⟨b', eb'⟩ := nat32 wb
  refine ⟨(a, b', c), ?_⟩
  have : v.length = 3 := h1
  match v, this with
  | [p, q, r], _ => simp at ha hb hc; simp [ha, hb, hc, cellsT, ea, eb, ec, eb']
theorem came_acts {W : World} {v : Value} (h : CameX [none, some .u32, some .i64] W v) : ∃ (l : List BAct) (v' : Value), BActs (Abs.st0 W) v' l ∧ Abs.VRel (Abs.rho0 W.heap.size) v' v := by
  obtain ⟨n, rows, v', _, hf, hr, hv⟩ := h
  have s := hr.slice (Abs.st0_wf W) (fun i hi => (hf i hi).1)
  have : ∀ i, ∃ x : BAct, i < n → rows i = cellsT x := by
    intro i
    by_cases hi : i < n
    · obtain ⟨a, h1⟩ := act_of (hf i hi)
      exact ⟨a, fun _ => h1⟩
    · exact ⟨(false, 0, 0), fun h => absurd h hi⟩
  obtain ⟨f, hf'⟩ : ∃ f : Nat → BAct, ∀ i, i < n → rows i = cellsT (f i) := ⟨fun i => Classical.choose (this i), fun i hi => Classical.choose_spec (this i) hi⟩
  refine ⟨(List.range n).map f, v', ?_, hv⟩
  have e : ((List.range n).map f).length = n := by simp
  unfold BActs
  rw [e]
  refine s.rows fun i hi => ?_
  rw [hf' i hi]
  simp [rowT, hi]
theorem walk (v0 : Value) (a1 : Int) (W : World) (hg : Try.prog.globals.size ≤ W.heap.size) (w0 : CameX [none, some .u32, some .i64] W v0) (w1 : (Lit.int .u32 a1).wf = true) :
    Calls Try.prog 4 #[v0, .int .u32 a1] W fun e w' => e = .returned (.bool true) ∧ Below W.heap.size W w' := by
  obtain ⟨l, v', s, hv⟩ := came_acts w0
  obtain ⟨a, rfl⟩ := nat32 w1
  exact Abs.law_calls hg Try.func4 (by kernel_rfl) (by kernel_rfl) knowsLawO_good.1 (args := [v', .int .u32 (a : Int)]) (.cons hv (.cons (.lit _ rfl) .nil)) ⟨v', l, a, rfl, s, fun _ => rfl⟩

/-! ### THE ROW -/
set_option maxRecDepth 100000 in
theorem lifted (os : Os) (started : os.Started) (H : Type) (enc : TypeId × Value → H) :
    ReturnsInHanded {} Try.checked os 4 .any (Rows.boardKnowsSpec.pre6 enc Try.prog Try.f4 Rows.boardKnowsRow.domain false) (Rows.boardKnowsSpec.post enc Try.prog Try.f4 false true false false) := by
  refine returnsInHanded_of_change_shaped (C := Try.checked) own started (by kernel_rfl) Try.func4
    (ChangeSpec.witness6 (enc := enc) (C := Try.checked) false ⟨#[], #[.slice none 0 0, .int .u32 0], []⟩ 8 (by kernel_rfl) (by kernel_rfl) (by kernel_rfl) (by kernel_rfl)) ?_
  intro W base args ds gs before hval0 hW hcnd hwt hsh _
  have hval : ∀ (j : Nat) t v, Try.f4.params[j]? = some t → args[j]? = some v → Value.okWide Try.prog W .any base t v := hval0
  have hW' := hW
  obtain ⟨p, q, hA0, hV, rfl, hfz, hnd⟩ := hW
  have hA : DataW.TrodAll enc Try.prog W 0 (fun _ => true) true Try.f4.params.toList args.toList ds p := hA0
  rw [Try.params4] at hA hval
  obtain ⟨v0, vs0, d0, ds0, p0, q0, hargs, rfl, rfl, h0, r0⟩ := trodAll_cons hA
  obtain ⟨v1, vs1, d1, ds1, p1, q1, rfl, rfl, rfl, h1, r1⟩ := trodAll_cons r0
  obtain ⟨rfl, rfl, rfl⟩ := trodAll_nil r1
  obtain rfl : args = #[v0, v1] := by cases args; simp_all
  obtain ⟨rfl, rfl⟩ := trodVars_none hV
  obtain ⟨a0, len0, cap0, rfl⟩ := okWide_slice Try.underlying22 (hval 0 22 v0 rfl rfl)
  have k0 := h0
  have lt0 : ∀ x ∈ p0, x.block < W.heap.size := by obtain ⟨m, hm⟩ := k0; exact DataW.trod_lt m _ _ _ hm
  have w0 : CameX [none, some .u32, some .i64] W (.slice a0 len0 cap0) := by
    obtain ⟨fuel, hf⟩ := h0
    exact Abs.row_inX Try.underlying22 (by kernel_rfl) (by decide) hf
  obtain ⟨a1, rfl, rfl, rfl, w1⟩ := open_int Try.underlying26 (hval 1 26 v1 rfl rfl) h1
  clear hA0 hval0
  refine (walk _ a1 W (Abs.globs_le hsh (by kernel_rfl)) w0 w1).mono fun e W' ⟨he, bel⟩ => ?_
  subst he
  exact ⟨_, rfl, _, _, _, [], _, [], hW', trodAll_mk1 (shut_bool Try.underlying4 _), (trodAll_cons_mk (Below.trod laidOut (by kernel_rfl) (of_decide_eq_true (by kernel_rfl)) k0 bel lt0) (trodAll_cons_mk (shut_int Try.underlying26 w1) trodAll_mk0)), rfl, bel.frame _, fun h => by cases h⟩

theorem over : Rows.boardKnowsRow.holds Try.pinned (OpenSpec.ofChange Rows.boardKnowsSpec) :=
  OpenClaim.holds_of_wide 4 Try.f4 rfl rfl rfl rfl rfl rfl rfl ⟨rfl, rfl, rfl, rfl, rfl⟩ rfl rfl rfl rfl rfl (by kernel_rfl) Try.func4 (by kernel_rfl)
    (of_decide_eq_true (by kernel_rfl)) (by unfold Func.isWrapper; first | (rw [if_pos (by decide +kernel)]; kernel_rfl) | (rw [if_neg (by decide +kernel)]; exact ⟨rfl, rfl⟩))
    (fun os started H enc _ => lifted os started H enc)

/-- THE STATEMENT -/
theorem proved : Rows.BoardKnowsSaid := over
#print axioms proved
end Go.Proofs.Ytlohiobliagaoaa.boardKnows
