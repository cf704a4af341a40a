/- PROVED HERE: 'FieldReads' returns true for every input that its row lets in, and changes nothing that was there. Conditions: none beyond the row's own.
   (Behind 'THE ROW' this text follows the shell that the kit's proof-skeleton prints.) -/
import Derived.Test.YtiaijbkmgajieaaRows
import Derived.WalkKit
import Derived.ProofKit
import Derived.OpenShut
import Derived.ShutString
import Derived.ChangeOld
import Derived.Below
import Derived.HandedShaped
import Derived.DataShut
import Derived.Test.YtiaijbkmgajieaaR
namespace Go.Proofs.Ytiaijbkmgajieaa.fieldReads
open Go.ChangeShapes Go.WideShapes Go.ChangeAt Go.RowKit
open Go.ChangeMaps (open_string shut_string)
set_option linter.unusedVariables false

theorem own : ownKnob Try.prog.godebug = none := by kernel_rfl
theorem laidOut : laidOutB Try.prog = true := by kernel_rfl
/-- What the walk is told of a slice that came in. -/
def Came (ks : List IntKind) (W : World) (v : Value) : Prop :=
  ∃ (n : Nat) (rows : Nat → List Value) (v' : Value), n ≤ maxLen ∧ (∀ i, i < n → Abs.Fits ks (rows i)) ∧ Abs.RowIn (Abs.st0 W) v' n ks.length rows ∧ Abs.VRel (Abs.rho0 W.heap.size) v' v
theorem wf_nat {k : IntKind} {x : Int} (hk : k.signed = false) (h : (Lit.int k x).wf = true) : ∃ n : Nat, x = n ∧ n < 2 ^ k.bits := by
  have := (Lit.wf_int_iff k x).1 h
  simp only [IntKind.min, IntKind.max, hk] at this
  have p : ((2 ^ k.bits : Nat) : Int) = 2 ^ k.bits := by norm_cast
  refine ⟨x.toNat, ?_, ?_⟩
  · simp at this; omega
  · simp at this; omega
theorem came_bytes {W : World} {v : Value} (h : Came [.u8] W v) : ∃ (l : List Nat) (v' : Value), (∀ c ∈ l, c < 256) ∧ Abs.SliceAt (· < (Abs.st0 W).next) (Abs.st0 W) v' l.length 1 (rowC l) ∧ Abs.VRel (Abs.rho0 W.heap.size) v' v := by
  obtain ⟨n, rows, v', _, hf, hr, hv⟩ := h
  have s := hr.slice (Abs.st0_wf W) (fun i hi => (hf i hi).1)
  have : ∀ i, ∃ x : Nat, i < n → (rows i = [bc x] ∧ x < 256) := by
    intro i
    by_cases hi : i < n
    · obtain ⟨h1, h2⟩ := hf i hi
      obtain ⟨a, ha, hw⟩ := h2 0 .u8 rfl
      obtain ⟨x, rfl, hx⟩ := wf_nat rfl hw
      refine ⟨x, fun _ => ⟨?_, hx⟩⟩
      have h1 : (rows i).length = 1 := h1
      match hr : rows i, h1 with
      | [y], _ => rw [hr] at ha; simp at ha; rw [ha]; rfl
    · exact ⟨0, fun h => absurd h hi⟩
  obtain ⟨f, hf'⟩ : ∃ f : Nat → Nat, ∀ i, i < n → (rows i = [bc (f i)] ∧ f i < 256) := ⟨fun i => Classical.choose (this i), fun i hi => Classical.choose_spec (this i) hi⟩
  refine ⟨(List.range n).map f, v', ?_, ?_, hv⟩
  · intro c hc
    obtain ⟨i, hi, rfl⟩ := List.mem_map.1 hc
    exact (hf' i (by simpa using hi)).2
  · have e : ((List.range n).map f).length = n := by simp
    rw [e]
    refine s.rows fun i hi => ?_
    rw [(hf' i hi).1]
    simp [rowC, hi]
theorem walk (a0 : ByteArray) (v1 : Value) (W : World) (hg : Try.prog.globals.size ≤ W.heap.size) (w0 : a0.size ≤ maxLen) (w1 : Came [.u8] W v1) :
    Calls Try.prog 6 #[.string a0, v1] W fun e w' => e = .returned (.bool true) ∧ Below W.heap.size W w' := by
  obtain ⟨l, v', hl, s, hv⟩ := came_bytes w1
  exact Abs.law_calls hg readsS_good.1 (.cons (.lit _ rfl) (.cons hv .nil)) ⟨a0, v', l, rfl, hl, s, fun _ => rfl⟩

/-! ### THE ROW -/
set_option maxRecDepth 100000 in
theorem lifted (os : Os) (started : os.Started) (H : Type) (enc : TypeId × Value → H) :
    ReturnsInHanded {} Try.checked os 6 .any (Rows.fieldReadsSpec.pre6 enc Try.prog Try.f6 Rows.fieldReadsRow.domain false) (Rows.fieldReadsSpec.post enc Try.prog Try.f6 false true false false) := by
  refine returnsInHanded_of_change_shaped (C := Try.checked) own started (by kernel_rfl) Try.func6
    (ChangeSpec.witness6 (enc := enc) (C := Try.checked) false ⟨#[], #[.string ByteArray.empty, .slice none 0 0], []⟩ 8 (by kernel_rfl) (by kernel_rfl) (by kernel_rfl) (by kernel_rfl)) ?_
  intro W base args ds gs before hval0 hW hcnd hwt hsh _
  have hval : ∀ (j : Nat) t v, Try.f6.params[j]? = some t → args[j]? = some v → Value.okWide Try.prog W .any base t v := hval0
  have hW' := hW
  obtain ⟨p, q, hA0, hV, rfl, hfz, hnd⟩ := hW
  have hA : DataW.TrodAll enc Try.prog W 0 (fun _ => true) true Try.f6.params.toList args.toList ds p := hA0
  rw [Try.params6] at hA hval
  obtain ⟨v0, vs0, d0, ds0, p0, q0, hargs, rfl, rfl, h0, r0⟩ := trodAll_cons hA
  obtain ⟨v1, vs1, d1, ds1, p1, q1, rfl, rfl, rfl, h1, r1⟩ := trodAll_cons r0
  obtain ⟨rfl, rfl, rfl⟩ := trodAll_nil r1
  obtain rfl : args = #[v0, v1] := by cases args; simp_all
  obtain ⟨rfl, rfl⟩ := trodVars_none hV
  obtain ⟨a0, rfl, rfl, rfl, w0⟩ := open_string Try.underlying9 (hval 0 9 v0 rfl rfl) h0
  obtain ⟨a1, len1, cap1, rfl⟩ := okWide_slice Try.underlying31 (hval 1 31 v1 rfl rfl)
  have k1 := h1
  have lt1 : ∀ x ∈ p1, x.block < W.heap.size := by obtain ⟨m, hm⟩ := k1; exact DataW.trod_lt m _ _ _ hm
  have w1 : Came [.u8] W (.slice a1 len1 cap1) := by
    obtain ⟨fuel, hf⟩ := h1
    exact Abs.row_in Try.underlying31 (by kernel_rfl) (by decide) hf
  clear hA0 hval0
  refine (walk a0 _ W (Abs.globs_le hsh (by kernel_rfl)) w0 w1).mono fun e W' ⟨he, bel⟩ => ?_
  subst he
  exact ⟨_, rfl, _, _, _, [], _, [], hW', trodAll_mk1 (shut_bool Try.underlying4 _), (trodAll_cons_mk (shut_string Try.underlying9 w0) (trodAll_cons_mk (Below.trod laidOut (by kernel_rfl) (of_decide_eq_true (by kernel_rfl)) k1 bel lt1) trodAll_mk0)), rfl, bel.frame _, fun h => by cases h⟩

theorem over : Rows.fieldReadsRow.holds Try.pinned (OpenSpec.ofChange Rows.fieldReadsSpec) :=
  OpenClaim.holds_of_wide 6 Try.f6 rfl rfl rfl rfl rfl rfl rfl ⟨rfl, rfl, rfl, rfl, rfl⟩ rfl rfl rfl rfl rfl (by kernel_rfl) Try.func6 (by kernel_rfl)
    (of_decide_eq_true (by kernel_rfl)) (by unfold Func.isWrapper; first | (rw [if_pos (by decide +kernel)]; kernel_rfl) | (rw [if_neg (by decide +kernel)]; exact ⟨rfl, rfl⟩))
    (fun os started H enc _ => lifted os started H enc)

/-- THE STATEMENT -/
theorem proved : Rows.FieldReadsSaid := over
#print axioms proved
end Go.Proofs.Ytiaijbkmgajieaa.fieldReads
