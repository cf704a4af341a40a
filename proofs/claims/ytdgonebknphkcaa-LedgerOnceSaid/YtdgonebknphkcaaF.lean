/- PROVED HERE: 'LedgerOnce' returns true for every two slices of entries and attempts that the row lets in, and changes nothing that was there. Conditions: none beyond the row's own.
   (The end of this text, behind 'THE ROW', began as the shell that the kit's proof-skeleton prints.) -/
import Derived.Test.YtdgonebknphkcaaRows
import Derived.WalkKit
import Derived.ProofKit
import Derived.OpenShut
import Derived.ShutString
import Derived.ChangeOld
import Derived.Below
import Derived.HandedShaped
import Derived.Test.YtdgonebknphkcaaE
namespace Go.Proofs.Ytdgonebknphkcaa.ledgerOnce
open Go.ChangeShapes Go.WideShapes Go.ChangeAt Go.RowKit
open Go.ChangeMaps (open_string shut_string)
set_option linter.unusedVariables false

theorem own : ownKnob Try.prog.godebug = none := by kernel_rfl
theorem laidOut : laidOutB Try.prog = true := by kernel_rfl

def ks0 : List IntKind := [.u64, .u32, .u32, .i64]
def ks1 : List IntKind := [.u64, .u32, .u32, .i64]
/-- What the walk is told of a slice that came in. -/
def Came (ks : List IntKind) (W : World) (v : Value) : Prop :=
  ∃ (n : Nat) (rows : Nat → List Value) (v' : Value), n ≤ maxLen ∧ (∀ i, i < n → Abs.Fits ks (rows i)) ∧ Abs.RowIn (Abs.st0 W) v' n ks.length rows ∧ Abs.VRel (Abs.rho0 W.heap.size) v' v
theorem fits_ent {v : List Value} (h : Abs.Fits ks0 v) : ∃ e : Ent, v = cellsE e := by
  obtain ⟨h1, h2⟩ := h
  obtain ⟨a, ha, _⟩ := h2 0 .u64 rfl
  obtain ⟨b, hb, _⟩ := h2 1 .u32 rfl
  obtain ⟨c, hc, _⟩ := h2 2 .u32 rfl
  obtain ⟨d, hd, _⟩ := h2 3 .i64 rfl
  refine ⟨⟨a, b, c, d⟩, ?_⟩
  have : v.length = 4 := h1
  match v, this with
  | [x, y, z, w], _ => simp at ha hb hc hd; simp [cellsE, ha, hb, hc, hd]
theorem came {W : World} {v : Value} (h : Came ks0 W v) : ∃ (n : Nat) (E : Nat → Ent) (v' : Value), Abs.SliceAt (· < (Abs.st0 W).next) (Abs.st0 W) v' n 4 (fun i => cellsE (E i)) ∧ Abs.VRel (Abs.rho0 W.heap.size) v' v := by
  obtain ⟨n, rows, v', _, hf, hr, hv⟩ := h
  have s := hr.slice (Abs.st0_wf W) (fun i hi => (hf i hi).1)
  have : ∀ i, ∃ e : Ent, i < n → rows i = cellsE e := by
    intro i
    by_cases hi : i < n
    · obtain ⟨e, he⟩ := fits_ent (hf i hi)
      exact ⟨e, fun _ => he⟩
    · exact ⟨.zero, fun h => absurd h hi⟩
  refine ⟨n, fun i => Classical.choose (this i), v', ?_, hv⟩
  rcases s with h0 | ⟨b, off, sp, c, e, hs⟩
  · exact .inl h0
  · refine .inr ⟨b, off, sp, c, e, fun hn => ?_⟩
    obtain ⟨g1, g2, cs, own, g3, g4⟩ := hs hn
    exact ⟨g1, g2, cs, own, g3, fun i hi => (g4 i hi).trans (congrArg some (Classical.choose_spec (this i) hi))⟩
theorem walk (v0 v1 : Value) (W : World) (hg : Try.prog.globals.size ≤ W.heap.size) (w0 : Came ks0 W v0) (w1 : Came ks1 W v1) :
    Calls Try.prog 3 #[v0, v1] W fun e w' => e = .returned (.bool true) ∧ Below W.heap.size W w' := by
  obtain ⟨ne, E, v0', s0, r0⟩ := came w0
  obtain ⟨nt, T, v1', s1, r1⟩ := came w1
  exact Abs.law_calls hg onceS_ok (.cons r0 (.cons r1 .nil)) ⟨v0', v1', ne, nt, E, T, rfl, s0, s1, fun _ => rfl⟩

/-! ### THE ROW's STEP: WRITTEN OUT: LEAVE IT -/
set_option maxRecDepth 100000 in
theorem lifted (os : Os) (started : os.Started) (H : Type) (enc : TypeId × Value → H) :
    ReturnsInHanded {} Try.checked os 3 .any (Rows.ledgerOnceSpec.pre6 enc Try.prog Try.f3 Rows.ledgerOnceRow.domain false) (Rows.ledgerOnceSpec.post enc Try.prog Try.f3 false true false false) := by
  refine returnsInHanded_of_change_shaped (C := Try.checked) own started (by kernel_rfl) Try.func3
    (ChangeSpec.witness6 (enc := enc) (C := Try.checked) false ⟨#[], #[.slice none 0 0, .slice none 0 0], []⟩ 8 (by kernel_rfl) (by kernel_rfl) (by kernel_rfl) (by kernel_rfl)) ?_
  intro W base args ds gs before hval0 hW hcnd hwt hsh _
  have hval : ∀ (j : Nat) t v, Try.f3.params[j]? = some t → args[j]? = some v → Value.okWide Try.prog W .any base t v := hval0
  have hW' := hW
  obtain ⟨p, q, hA0, hV, rfl, hfz, hnd⟩ := hW
  have hA : DataW.TrodAll enc Try.prog W 0 (fun _ => true) true Try.f3.params.toList args.toList ds p := hA0
  rw [Try.params3] at hA hval
  obtain ⟨v0, vs0, d0, ds0, p0, q0, hargs, rfl, rfl, h0, r0⟩ := trodAll_cons hA
  obtain ⟨v1, vs1, d1, ds1, p1, q1, rfl, rfl, rfl, h1, r1⟩ := trodAll_cons r0
  obtain ⟨rfl, rfl, rfl⟩ := trodAll_nil r1
  obtain rfl : args = #[v0, v1] := by cases args; simp_all
  obtain ⟨rfl, rfl⟩ := trodVars_none hV
  obtain ⟨a0, len0, cap0, rfl⟩ := okWide_slice Try.underlying22 (hval 0 22 v0 rfl rfl)
  have k0 := h0
  have lt0 : ∀ x ∈ p0, x.block < W.heap.size := by obtain ⟨m, hm⟩ := k0; exact DataW.trod_lt m _ _ _ hm
  have w0 : Came ks0 W (.slice a0 len0 cap0) := by
    obtain ⟨fuel, hf⟩ := h0
    exact Abs.row_in Try.underlying22 (by kernel_rfl) (by decide) hf
  obtain ⟨a1, len1, cap1, rfl⟩ := okWide_slice Try.underlying23 (hval 1 23 v1 rfl rfl)
  have k1 := h1
  have lt1 : ∀ x ∈ p1, x.block < W.heap.size := by obtain ⟨m, hm⟩ := k1; exact DataW.trod_lt m _ _ _ hm
  have w1 : Came ks1 W (.slice a1 len1 cap1) := by
    obtain ⟨fuel, hf⟩ := h1
    exact Abs.row_in Try.underlying23 (by kernel_rfl) (by decide) hf
  clear hA0 hval0
  refine (walk _ _ W (Abs.globs_le hsh (by kernel_rfl)) w0 w1).mono fun e W' ⟨he, bel⟩ => ?_
  subst he
  exact ⟨_, rfl, _, _, _, [], _, [], hW', trodAll_mk1 (shut_bool Try.underlying4 _), (trodAll_cons_mk (Below.trod laidOut (by kernel_rfl) (of_decide_eq_true (by kernel_rfl)) k0 bel lt0) (trodAll_cons_mk (Below.trod laidOut (by kernel_rfl) (of_decide_eq_true (by kernel_rfl)) k1 bel lt1) trodAll_mk0)), rfl, bel.frame _, fun h => by cases h⟩

theorem over : Rows.ledgerOnceRow.holds Try.pinned (OpenSpec.ofChange Rows.ledgerOnceSpec) :=
  OpenClaim.holds_of_wide 3 Try.f3 rfl rfl rfl rfl rfl rfl rfl ⟨rfl, rfl, rfl, rfl, rfl⟩ rfl rfl rfl rfl rfl (by kernel_rfl) Try.func3 (by kernel_rfl)
    (of_decide_eq_true (by kernel_rfl)) (by unfold Func.isWrapper; first | (rw [if_pos (by decide +kernel)]; kernel_rfl) | (rw [if_neg (by decide +kernel)]; exact ⟨rfl, rfl⟩))
    (fun os started H enc _ => lifted os started H enc)

/-- ████ THE STATEMENT ████ -/
theorem proved : Rows.LedgerOnceSaid := over
#print axioms proved
end Go.Proofs.Ytdgonebknphkcaa.ledgerOnce
