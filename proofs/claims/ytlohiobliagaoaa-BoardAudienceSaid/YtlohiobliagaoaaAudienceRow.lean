/- PROVED HERE: 'BoardAudience' returns true for every input that its row lets in, and changes nothing that was there. Conditions: none beyond the row's own.
   (Behind 'THE ROW' this text follows the shell that the kit's proof-skeleton prints.) -/
import Derived.Test.YtlohiobliagaoaaRows
import Derived.WalkKit
import Derived.ProofKit
import Derived.OpenShut
import Derived.ShutString
import Derived.ChangeOld
import Derived.Below
import Derived.HandedShaped
import Derived.DataShut
import Derived.Test.YtlohiobliagaoaaAud
namespace Go.Proofs.Ytlohiobliagaoaa.boardAudience
open Go.ChangeShapes Go.WideShapes Go.ChangeAt Go.RowKit
open Go.ChangeMaps (open_string shut_string)
set_option linter.unusedVariables false

theorem own : ownKnob Try.prog.godebug = none := by kernel_rfl
theorem laidOut : laidOutB Try.prog = true := by kernel_rfl
/-- What the walk is told of a slice that came in. -/
def Came (ks : List IntKind) (W : World) (v : Value) : Prop :=
  ∃ (n : Nat) (rows : Nat → List Value) (v' : Value), n ≤ maxLen ∧ (∀ i, i < n → Abs.Fits ks (rows i)) ∧ Abs.RowIn (Abs.st0 W) v' n ks.length rows ∧ Abs.VRel (Abs.rho0 W.heap.size) v' v
theorem nat32 {n : Int} (h : (Lit.int .u32 n).wf = true) : ∃ m : Nat, (m : Int) = n := by
  have := (Lit.wf_int_iff .u32 n).1 h
  simp [IntKind.min, IntKind.max, IntKind.signed, IntKind.bits] at this
  exact ⟨n.toNat, by omega⟩
theorem pr_of {v : List Value} (h : Abs.Fits [.u32, .u32] v) : ∃ a : Pr, v = cellsP a := by
  obtain ⟨h1, h2⟩ := h
  obtain ⟨a, ha, wa⟩ := h2 0 .u32 rfl
  obtain ⟨b, hb, wb⟩ := h2 1 .u32 rfl
  obtain ⟨a', ea⟩ := nat32 wa
  obtain ⟨b', eb⟩ := nat32 wb
  refine ⟨(a', b'), ?_⟩
  have : v.length = 2 := h1
  match v, this with
  | [x, y], _ => simp at ha hb; simp [ha, hb, cellsP, ea, eb]
theorem nm_of {v : List Value} (h : Abs.Fits [.u32] v) : ∃ a : Nat, v = [.int .u32 (a : Int)] := by
  obtain ⟨h1, h2⟩ := h
  obtain ⟨a, ha, wa⟩ := h2 0 .u32 rfl
  obtain ⟨a', ea⟩ := nat32 wa
  refine ⟨a', ?_⟩
  have : v.length = 1 := h1
  match v, this with
  | [x], _ => simp at ha; simp [ha, ea]
theorem came_prs {W : World} {v : Value} (h : Came [.u32, .u32] W v) : ∃ (l : List Pr) (v' : Value), Prs (Abs.st0 W) v' l ∧ Abs.VRel (Abs.rho0 W.heap.size) v' v := by
  obtain ⟨n, rows, v', _, hf, hr, hv⟩ := h
  have s := hr.slice (Abs.st0_wf W) (fun i hi => (hf i hi).1)
  have : ∀ i, ∃ x : Pr, i < n → rows i = cellsP x := by
    intro i
    by_cases hi : i < n
    · obtain ⟨a, h1⟩ := pr_of (hf i hi)
      exact ⟨a, fun _ => h1⟩
    · exact ⟨(0, 0), fun h => absurd h hi⟩
  obtain ⟨f, hf'⟩ : ∃ f : Nat → Pr, ∀ i, i < n → rows i = cellsP (f i) := ⟨fun i => Classical.choose (this i), fun i hi => Classical.choose_spec (this i) hi⟩
  refine ⟨(List.range n).map f, v', ?_, hv⟩
  have e : ((List.range n).map f).length = n := by simp
  unfold Prs
  rw [e]
  refine s.rows fun i hi => ?_
  rw [hf' i hi]
  simp [rowP, hi]
theorem came_nms {W : World} {v : Value} (h : Came [.u32] W v) : ∃ (l : List Nat) (v' : Value), Nms (Abs.st0 W) v' l ∧ Abs.VRel (Abs.rho0 W.heap.size) v' v := by
  obtain ⟨n, rows, v', _, hf, hr, hv⟩ := h
  have s := hr.slice (Abs.st0_wf W) (fun i hi => (hf i hi).1)
  have : ∀ i, ∃ x : Nat, i < n → rows i = [.int .u32 (x : Int)] := by
    intro i
    by_cases hi : i < n
    · obtain ⟨a, h1⟩ := nm_of (hf i hi)
      exact ⟨a, fun _ => h1⟩
    · exact ⟨0, fun h => absurd h hi⟩
  obtain ⟨f, hf'⟩ : ∃ f : Nat → Nat, ∀ i, i < n → rows i = [.int .u32 ((f i : Nat) : Int)] := ⟨fun i => Classical.choose (this i), fun i hi => Classical.choose_spec (this i) hi⟩
  refine ⟨(List.range n).map f, v', ?_, hv⟩
  have e : ((List.range n).map f).length = n := by simp
  unfold Nms
  rw [e]
  refine s.rows fun i hi => ?_
  rw [hf' i hi]
  simp [rowN, hi]
theorem walk (v0 : Value) (a1 : Int) (v2 : Value) (W : World) (hg : Try.prog.globals.size ≤ W.heap.size) (w0 : Came [.u32, .u32] W v0) (w1 : (Lit.int .u32 a1).wf = true) (w2 : Came [.u32] W v2) :
    Calls Try.prog 6 #[v0, .int .u32 a1, v2] W fun e w' => e = .returned (.bool true) ∧ Below W.heap.size W w' := by
  obtain ⟨ps, vp, sp, hp⟩ := came_prs w0
  obtain ⟨l, v, nm, hv⟩ := came_nms w2
  obtain ⟨a, rfl⟩ := nat32 w1
  exact Abs.law_calls hg Try.func6 (by kernel_rfl) (by kernel_rfl) audLawO_good.1 (args := [vp, .int .u32 (a : Int), v]) (.cons hp (.cons (.lit _ rfl) (.cons hv .nil))) ⟨vp, v, ps, l, a, rfl, sp, nm, fun _ => rfl⟩

/-! ### THE ROW -/
set_option maxRecDepth 100000 in
theorem lifted (os : Os) (started : os.Started) (H : Type) (enc : TypeId × Value → H) :
    ReturnsInHanded {} Try.checked os 6 .any (Rows.boardAudienceSpec.pre6 enc Try.prog Try.f6 Rows.boardAudienceRow.domain false) (Rows.boardAudienceSpec.post enc Try.prog Try.f6 false true false false) := by
  refine returnsInHanded_of_change_shaped (C := Try.checked) own started (by kernel_rfl) Try.func6
    (ChangeSpec.witness6 (enc := enc) (C := Try.checked) false ⟨#[], #[.slice none 0 0, .int .u32 0, .slice none 0 0], []⟩ 8 (by kernel_rfl) (by kernel_rfl) (by kernel_rfl) (by kernel_rfl)) ?_
  intro W base args ds gs before hval0 hW hcnd hwt hsh _
  have hval : ∀ (j : Nat) t v, Try.f6.params[j]? = some t → args[j]? = some v → Value.okWide Try.prog W .any base t v := hval0
  have hW' := hW
  obtain ⟨p, q, hA0, hV, rfl, hfz, hnd⟩ := hW
  have hA : DataW.TrodAll enc Try.prog W 0 (fun _ => true) true Try.f6.params.toList args.toList ds p := hA0
  rw [Try.params6] at hA hval
  obtain ⟨v0, vs0, d0, ds0, p0, q0, hargs, rfl, rfl, h0, r0⟩ := trodAll_cons hA
  obtain ⟨v1, vs1, d1, ds1, p1, q1, rfl, rfl, rfl, h1, r1⟩ := trodAll_cons r0
  obtain ⟨v2, vs2, d2, ds2, p2, q2, rfl, rfl, rfl, h2, r2⟩ := trodAll_cons r1
  obtain ⟨rfl, rfl, rfl⟩ := trodAll_nil r2
  obtain rfl : args = #[v0, v1, v2] := by cases args; simp_all
  obtain ⟨rfl, rfl⟩ := trodVars_none hV
  obtain ⟨a0, len0, cap0, rfl⟩ := okWide_slice Try.underlying47 (hval 0 47 v0 rfl rfl)
  have k0 := h0
  have lt0 : ∀ x ∈ p0, x.block < W.heap.size := by obtain ⟨m, hm⟩ := k0; exact DataW.trod_lt m _ _ _ hm
  have w0 : Came [.u32, .u32] W (.slice a0 len0 cap0) := by
    obtain ⟨fuel, hf⟩ := h0
    exact Abs.row_in Try.underlying47 (by kernel_rfl) (by decide) hf
  obtain ⟨a1, rfl, rfl, rfl, w1⟩ := open_int Try.underlying26 (hval 1 26 v1 rfl rfl) h1
  obtain ⟨a2, len2, cap2, rfl⟩ := okWide_slice Try.underlying29 (hval 2 29 v2 rfl rfl)
  have k2 := h2
  have lt2 : ∀ x ∈ p2, x.block < W.heap.size := by obtain ⟨m, hm⟩ := k2; exact DataW.trod_lt m _ _ _ hm
  have w2 : Came [.u32] W (.slice a2 len2 cap2) := by
    obtain ⟨fuel, hf⟩ := h2
    exact Abs.row_in Try.underlying29 (by kernel_rfl) (by decide) hf
  clear hA0 hval0
  refine (walk _ a1 _ W (Abs.globs_le hsh (by kernel_rfl)) w0 w1 w2).mono fun e W' ⟨he, bel⟩ => ?_
  subst he
  exact ⟨_, rfl, _, _, _, [], _, [], hW', trodAll_mk1 (shut_bool Try.underlying4 _), (trodAll_cons_mk (Below.trod laidOut (by kernel_rfl) (of_decide_eq_true (by kernel_rfl)) k0 bel lt0) (trodAll_cons_mk (shut_int Try.underlying26 w1) (trodAll_cons_mk (Below.trod laidOut (by kernel_rfl) (of_decide_eq_true (by kernel_rfl)) k2 bel lt2) trodAll_mk0))), rfl, bel.frame _, fun h => by cases h⟩

theorem over : Rows.boardAudienceRow.holds Try.pinned (OpenSpec.ofChange Rows.boardAudienceSpec) :=
  OpenClaim.holds_of_wide 6 Try.f6 rfl rfl rfl rfl rfl rfl rfl ⟨rfl, rfl, rfl, rfl, rfl⟩ rfl rfl rfl rfl rfl (by kernel_rfl) Try.func6 (by kernel_rfl)
    (of_decide_eq_true (by kernel_rfl)) (by unfold Func.isWrapper; first | (rw [if_pos (by decide +kernel)]; kernel_rfl) | (rw [if_neg (by decide +kernel)]; exact ⟨rfl, rfl⟩))
    (fun os started H enc _ => lifted os started H enc)

/-- THE STATEMENT -/
theorem proved : Rows.BoardAudienceSaid := over
#print axioms proved
end Go.Proofs.Ytlohiobliagaoaa.boardAudience
