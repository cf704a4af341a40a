/- PROVED HERE: 'SessionRuns' returns true for every input that its row lets in, and changes nothing that was there. Conditions: none beyond the row's own.
   (Behind 'THE ROW' this text follows the shell that the kit's proof-skeleton prints.) -/
import Derived.Test.YtnelcpabjpchnaaRows
import Derived.WalkKit
import Derived.ProofKit
import Derived.OpenShut
import Derived.ShutString
import Derived.ChangeOld
import Derived.Below
import Derived.HandedShaped
import Derived.DataShut
import Derived.Test.YtnelcpabjpchnaaSesQ
namespace Go.Proofs.Ytnelcpabjpchnaa.sessionRuns
open Go.ChangeShapes Go.WideShapes Go.ChangeAt Go.RowKit
open Go.ChangeMaps (open_string shut_string)
set_option linter.unusedVariables false

theorem own : ownKnob Try.prog.godebug = none := by kernel_rfl
theorem laidOut : laidOutB Try.prog = true := by kernel_rfl
/-- What the walk is told of a slice that came in. -/
def Came (ks : List IntKind) (W : World) (v : Value) : Prop :=
  ∃ (n : Nat) (rows : Nat → List Value) (v' : Value), n ≤ maxLen ∧ (∀ i, i < n → Abs.Fits ks (rows i)) ∧ Abs.RowIn (Abs.st0 W) v' n ks.length rows ∧ Abs.VRel (Abs.rho0 W.heap.size) v' v
theorem in64 {n : Int} (h : (Lit.int .i64 n).wf = true) : In64 n := by
  have := (Lit.wf_int_iff .i64 n).1 h
  simp [IntKind.min, IntKind.max, IntKind.signed, IntKind.bits] at this
  unfold In64
  omega
theorem nat32 {n : Int} (h : (Lit.int .u32 n).wf = true) : ∃ m : Nat, (m : Int) = n := by
  have := (Lit.wf_int_iff .u32 n).1 h
  simp [IntKind.min, IntKind.max, IntKind.signed, IntKind.bits] at this
  exact ⟨n.toNat, by omega⟩
theorem act_of {v : List Value} (h : Abs.Fits [.u8, .u32, .u32, .i64] v) : ∃ a : SAct, v = cellsA a ∧ In64 a.now := by
  obtain ⟨h1, h2⟩ := h
  obtain ⟨a, ha, wa⟩ := h2 0 .u8 rfl
  obtain ⟨b, hb, wb⟩ := h2 1 .u32 rfl
  obtain ⟨c, hc, wc⟩ := h2 2 .u32 rfl
  obtain ⟨d, hd, wd⟩ := h2 3 .i64 rfl
  obtain ⟨b', eb⟩ := nat32 wb
  obtain ⟨c', ec⟩ := nat32 wc
  refine ⟨⟨a, b', c', d⟩, ?_, in64 wd⟩
  have : v.length = 4 := h1
  match v, this with
  | [x, y, z, w], _ => simp at ha hb hc hd; simp [ha, hb, hc, hd, cellsA, eb, ec]
theorem came_acts {W : World} {v : Value} (h : Came [.u8, .u32, .u32, .i64] W v) : ∃ (l : List SAct) (v' : Value), (∀ a ∈ l, In64 a.now) ∧ Abs.SliceAt (· < (Abs.st0 W).next) (Abs.st0 W) v' l.length 4 (rowA l) ∧ Abs.VRel (Abs.rho0 W.heap.size) v' v := by
  obtain ⟨n, rows, v', _, hf, hr, hv⟩ := h
  have s := hr.slice (Abs.st0_wf W) (fun i hi => (hf i hi).1)
  have : ∀ i, ∃ x : SAct, i < n → rows i = cellsA x ∧ In64 x.now := by
    intro i
    by_cases hi : i < n
    · obtain ⟨a, h1⟩ := act_of (hf i hi)
      exact ⟨a, fun _ => h1⟩
    · exact ⟨.zero, fun h => absurd h hi⟩
  obtain ⟨f, hf'⟩ : ∃ f : Nat → SAct, ∀ i, i < n → rows i = cellsA (f i) ∧ In64 (f i).now := ⟨fun i => Classical.choose (this i), fun i hi => Classical.choose_spec (this i) hi⟩
  refine ⟨(List.range n).map f, v', fun a ha => ?_, ?_, hv⟩
  · obtain ⟨i, hi, rfl⟩ := List.mem_map.1 ha
    exact (hf' i (by simpa using hi)).2
  have e : ((List.range n).map f).length = n := by simp
  rw [e]
  refine s.rows fun i hi => ?_
  rw [(hf' i hi).1]
  simp [rowA, hi]
theorem walk (a0 a1 : Int) (v2 : Value) (W : World) (hg : Try.prog.globals.size ≤ W.heap.size) (w0 : (Lit.int .i64 a0).wf = true) (w1 : (Lit.int .i64 a1).wf = true) (w2 : Came [.u8, .u32, .u32, .i64] W v2) :
    Calls Try.prog 5 #[.int .i64 a0, .int .i64 a1, v2] W fun e w' => e = .returned (.bool true) ∧ Below W.heap.size W w' := by
  obtain ⟨l, v', hl, s, hv⟩ := came_acts w2
  exact Abs.law_calls hg Try.func5 (by kernel_rfl) (by kernel_rfl) runsLawO_good.1 (args := [.int .i64 a0, .int .i64 a1, v']) (.cons (.lit _ rfl) (.cons (.lit _ rfl) (.cons hv .nil))) ⟨a0, a1, v', l, rfl, in64 w1, hl, s, fun _ => rfl⟩

/-! ### THE ROW -/
set_option maxRecDepth 100000 in
theorem lifted (os : Os) (started : os.Started) (H : Type) (enc : TypeId × Value → H) :
    ReturnsInHanded {} Try.checked os 5 .any (Rows.sessionRunsSpec.pre6 enc Try.prog Try.f5 Rows.sessionRunsRow.domain false) (Rows.sessionRunsSpec.post enc Try.prog Try.f5 false true false false) := by
  refine returnsInHanded_of_change_shaped (C := Try.checked) own started (by kernel_rfl) Try.func5
    (ChangeSpec.witness6 (enc := enc) (C := Try.checked) false ⟨#[], #[.int .i64 0, .int .i64 0, .slice none 0 0], []⟩ 8 (by kernel_rfl) (by kernel_rfl) (by kernel_rfl) (by kernel_rfl)) ?_
  intro W base args ds gs before hval0 hW hcnd hwt hsh _
  have hval : ∀ (j : Nat) t v, Try.f5.params[j]? = some t → args[j]? = some v → Value.okWide Try.prog W .any base t v := hval0
  have hW' := hW
  obtain ⟨p, q, hA0, hV, rfl, hfz, hnd⟩ := hW
  have hA : DataW.TrodAll enc Try.prog W 0 (fun _ => true) true Try.f5.params.toList args.toList ds p := hA0
  rw [Try.params5] at hA hval
  obtain ⟨v0, vs0, d0, ds0, p0, q0, hargs, rfl, rfl, h0, r0⟩ := trodAll_cons hA
  obtain ⟨v1, vs1, d1, ds1, p1, q1, rfl, rfl, rfl, h1, r1⟩ := trodAll_cons r0
  obtain ⟨v2, vs2, d2, ds2, p2, q2, rfl, rfl, rfl, h2, r2⟩ := trodAll_cons r1
  obtain ⟨rfl, rfl, rfl⟩ := trodAll_nil r2
  obtain rfl : args = #[v0, v1, v2] := by cases args; simp_all
  obtain ⟨rfl, rfl⟩ := trodVars_none hV
  obtain ⟨a0, rfl, rfl, rfl, w0⟩ := open_int Try.underlying3 (hval 0 3 v0 rfl rfl) h0
  obtain ⟨a1, rfl, rfl, rfl, w1⟩ := open_int Try.underlying2 (hval 1 2 v1 rfl rfl) h1
  obtain ⟨a2, len2, cap2, rfl⟩ := okWide_slice Try.underlying32 (hval 2 32 v2 rfl rfl)
  have k2 := h2
  have lt2 : ∀ x ∈ p2, x.block < W.heap.size := by obtain ⟨m, hm⟩ := k2; exact DataW.trod_lt m _ _ _ hm
  have w2 : Came [.u8, .u32, .u32, .i64] W (.slice a2 len2 cap2) := by
    obtain ⟨fuel, hf⟩ := h2
    exact Abs.row_in Try.underlying32 (by kernel_rfl) (by decide) hf
  clear hA0 hval0
  refine (walk a0 a1 _ W (Abs.globs_le hsh (by kernel_rfl)) w0 w1 w2).mono fun e W' ⟨he, bel⟩ => ?_
  subst he
  exact ⟨_, rfl, _, _, _, [], _, [], hW', trodAll_mk1 (shut_bool Try.underlying4 _), (trodAll_cons_mk (shut_int Try.underlying3 w0) (trodAll_cons_mk (shut_int Try.underlying2 w1) (trodAll_cons_mk (Below.trod laidOut (by kernel_rfl) (of_decide_eq_true (by kernel_rfl)) k2 bel lt2) trodAll_mk0))), rfl, bel.frame _, fun h => by cases h⟩

theorem over : Rows.sessionRunsRow.holds Try.pinned (OpenSpec.ofChange Rows.sessionRunsSpec) :=
  OpenClaim.holds_of_wide 5 Try.f5 rfl rfl rfl rfl rfl rfl rfl ⟨rfl, rfl, rfl, rfl, rfl⟩ rfl rfl rfl rfl rfl (by kernel_rfl) Try.func5 (by kernel_rfl)
    (of_decide_eq_true (by kernel_rfl)) (by unfold Func.isWrapper; first | (rw [if_pos (by decide +kernel)]; kernel_rfl) | (rw [if_neg (by decide +kernel)]; exact ⟨rfl, rfl⟩))
    (fun os started H enc _ => lifted os started H enc)

/-- THE STATEMENT -/
theorem proved : Rows.SessionRunsSaid := over
#print axioms proved
end Go.Proofs.Ytnelcpabjpchnaa.sessionRuns
