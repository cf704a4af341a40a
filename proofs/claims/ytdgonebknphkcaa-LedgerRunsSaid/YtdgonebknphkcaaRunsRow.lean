/- PROVED HERE: 'LedgerRuns' returns true for every input that its row lets in, and changes nothing that was there. Conditions: none beyond the row's own.
   (Behind 'THE ROW' this text follows the shell that the kit's proof-skeleton prints.) -/
import Derived.Test.YtdgonebknphkcaaRows
import Derived.WalkKit
import Derived.ProofKit
import Derived.OpenShut
import Derived.ShutString
import Derived.ChangeOld
import Derived.Below
import Derived.HandedShaped
import Derived.DataShut
import Derived.Test.YtdgonebknphkcaaLgE
import Derived.Test.YtdgonebknphkcaaAbsZ3
namespace Go.Proofs.Ytdgonebknphkcaa.ledgerRuns
open Go.ChangeShapes Go.WideShapes Go.ChangeAt Go.RowKit
open Go.ChangeMaps (open_string shut_string)
set_option linter.unusedVariables false

theorem own : ownKnob Try.prog.godebug = none := by kernel_rfl
theorem laidOut : laidOutB Try.prog = true := by kernel_rfl
/-- What the walk is told of a slice that came in. -/
def Came (ks : List IntKind) (W : World) (v : Value) : Prop :=
  ∃ (n : Nat) (rows : Nat → List Value) (v' : Value), n ≤ maxLen ∧ (∀ i, i < n → Abs.Fits ks (rows i)) ∧ Abs.RowIn (Abs.st0 W) v' n ks.length rows ∧ Abs.VRel (Abs.rho0 W.heap.size) v' v
theorem nat64 {n : Int} (h : (Lit.int .u64 n).wf = true) : ∃ m : Nat, (m : Int) = n ∧ big m := by
  have := (Lit.wf_int_iff .u64 n).1 h
  simp [IntKind.min, IntKind.max, IntKind.signed, IntKind.bits] at this
  exact ⟨n.toNat, by omega, by unfold big; omega⟩
theorem nat32 {n : Int} (h : (Lit.int .u32 n).wf = true) : ∃ m : Nat, (m : Int) = n := by
  have := (Lit.wf_int_iff .u32 n).1 h
  simp [IntKind.min, IntKind.max, IntKind.signed, IntKind.bits] at this
  exact ⟨n.toNat, by omega⟩
theorem en_of {v : List Value} (h : Abs.Fits [.u64, .u32, .u32, .i64] v) : ∃ e : En, v = cellsE e ∧ big e.1 := by
  obtain ⟨h1, h2⟩ := h
  obtain ⟨a, ha, wa⟩ := h2 0 .u64 rfl
  obtain ⟨b, hb, wb⟩ := h2 1 .u32 rfl
  obtain ⟨c, hc, wc⟩ := h2 2 .u32 rfl
  obtain ⟨d, hd, _⟩ := h2 3 .i64 rfl
  obtain ⟨a', ea, ba⟩ := nat64 wa
  obtain ⟨b', eb⟩ := nat32 wb
  obtain ⟨c', ec⟩ := nat32 wc
  refine ⟨(a', b', c', d), ?_, ba⟩
  have : v.length = 4 := h1
  match v, this with
  | [x, y, z, w], _ => simp at ha hb hc hd; simp [cellsE, ha, hb, hc, hd, ea, eb, ec]
def CameN (ks : List (Option IntKind)) (W : World) (v : Value) : Prop :=
  ∃ (n : Nat) (rows : Nat → List Value) (v' : Value), n ≤ maxLen ∧ (∀ i, i < n → Abs.FitsX ks (rows i)) ∧ Abs.RowIn (Abs.st0 W) v' n ks.length rows ∧ Abs.VRel (Abs.rho0 W.heap.size) v' v
theorem nat8 {n : Int} (h : (Lit.int .u8 n).wf = true) : ∃ m : Nat, (m : Int) = n := by
  have := (Lit.wf_int_iff .u8 n).1 h
  simp [IntKind.min, IntKind.max, IntKind.signed, IntKind.bits] at this
  exact ⟨n.toNat, by omega⟩
theorem act_of {v : List Value} (h : Abs.FitsX [some .u8, some .u64, some .u32, some .u32, some .i64, some .i64] v) : ∃ a : LAct, v = cellsA a ∧ big a.2.1.1 := by
  obtain ⟨h1, h2⟩ := h
  obtain ⟨x0, e0, n0, rfl, w0⟩ := h2 0 (some .u8) rfl
  obtain ⟨x1, e1, n1, rfl, w1⟩ := h2 1 (some .u64) rfl
  obtain ⟨x2, e2, n2, rfl, w2⟩ := h2 2 (some .u32) rfl
  obtain ⟨x3, e3, n3, rfl, w3⟩ := h2 3 (some .u32) rfl
  obtain ⟨x4, e4, n4, rfl, w4⟩ := h2 4 (some .i64) rfl
  obtain ⟨x5, e5, n5, rfl, w5⟩ := h2 5 (some .i64) rfl
  obtain ⟨m0, rfl⟩ := nat8 w0
  obtain ⟨m1, rfl, b1⟩ := nat64 w1
  obtain ⟨m2, rfl⟩ := nat32 w2
  obtain ⟨m3, rfl⟩ := nat32 w3
  refine ⟨(m0, (m1, m2, m3, n4), n5), ?_, b1⟩
  have : v.length = 6 := h1
  match v, this with
  | [a, b, c, d, e, f], _ => simp at e0 e1 e2 e3 e4 e5; simp [cellsA, cellsE, e0, e1, e2, e3, e4, e5]
theorem came_acts {W : World} {v : Value} (h : CameN [some .u8, some .u64, some .u32, some .u32, some .i64, some .i64] W v) : ∃ (l : List LAct) (v' : Value), (∀ x ∈ l, big x.2.1.1) ∧ LActs (Abs.st0 W) v' l ∧ Abs.VRel (Abs.rho0 W.heap.size) v' v := by
  obtain ⟨n, rows, v', _, hf, hr, hv⟩ := h
  have s := hr.slice (Abs.st0_wf W) (fun i hi => (hf i hi).1)
  have : ∀ i, ∃ x : LAct, i < n → rows i = cellsA x ∧ big x.2.1.1 := by
    intro i
    by_cases hi : i < n
    · obtain ⟨a, h1, h2⟩ := act_of (hf i hi)
      exact ⟨a, fun _ => ⟨h1, h2⟩⟩
    · exact ⟨(0, zE, 0), fun h => absurd h hi⟩
  obtain ⟨f, hf'⟩ : ∃ f : Nat → LAct, ∀ i, i < n → rows i = cellsA (f i) ∧ big (f i).2.1.1 := ⟨fun i => Classical.choose (this i), fun i hi => Classical.choose_spec (this i) hi⟩
  refine ⟨(List.range n).map f, v', fun x hx => ?_, ?_, hv⟩
  · obtain ⟨i, hi, rfl⟩ := List.mem_map.1 hx
    exact (hf' i (List.mem_range.1 hi)).2
  have e : ((List.range n).map f).length = n := by simp
  unfold LActs
  rw [e]
  refine s.rows fun i hi => ?_
  rw [(hf' i hi).1]
  simp [rowA, hi]
theorem walk (a0 : Int) (v1 : Value) (W : World) (hg : Try.prog.globals.size ≤ W.heap.size) (w0 : (Lit.int .i64 a0).wf = true) (w1 : CameN [some .u8, some .u64, some .u32, some .u32, some .i64, some .i64] W v1) :
    Calls Try.prog 5 #[.int .i64 a0, v1] W fun e w' => e = .returned (.bool true) ∧ Below W.heap.size W w' := by
  obtain ⟨l, v', bl, s, hv⟩ := came_acts w1
  exact Abs.law_calls hg Try.func5 (by kernel_rfl) (by kernel_rfl) runsLawO_good.1 (args := [.int .i64 a0, v']) (.cons (.lit _ rfl) (.cons hv .nil)) ⟨a0, v', l, rfl, bl, s, fun _ => rfl⟩

/-! ### THE ROW -/
set_option maxRecDepth 100000 in
theorem lifted (os : Os) (started : os.Started) (H : Type) (enc : TypeId × Value → H) :
    ReturnsInHanded {} Try.checked os 5 .any (Rows.ledgerRunsSpec.pre6 enc Try.prog Try.f5 Rows.ledgerRunsRow.domain false) (Rows.ledgerRunsSpec.post enc Try.prog Try.f5 false true false false) := by
  refine returnsInHanded_of_change_shaped (C := Try.checked) own started (by kernel_rfl) Try.func5
    (ChangeSpec.witness6 (enc := enc) (C := Try.checked) false ⟨#[], #[.int .i64 0, .slice none 0 0], []⟩ 8 (by kernel_rfl) (by kernel_rfl) (by kernel_rfl) (by kernel_rfl)) ?_
  intro W base args ds gs before hval0 hW hcnd hwt hsh _
  have hval : ∀ (j : Nat) t v, Try.f5.params[j]? = some t → args[j]? = some v → Value.okWide Try.prog W .any base t v := hval0
  have hW' := hW
  obtain ⟨p, q, hA0, hV, rfl, hfz, hnd⟩ := hW
  have hA : DataW.TrodAll enc Try.prog W 0 (fun _ => true) true Try.f5.params.toList args.toList ds p := hA0
  rw [Try.params5] at hA hval
  obtain ⟨v0, vs0, d0, ds0, p0, q0, hargs, rfl, rfl, h0, r0⟩ := trodAll_cons hA
  obtain ⟨v1, vs1, d1, ds1, p1, q1, rfl, rfl, rfl, h1, r1⟩ := trodAll_cons r0
  obtain ⟨rfl, rfl, rfl⟩ := trodAll_nil r1
  obtain rfl : args = #[v0, v1] := by cases args; simp_all
  obtain ⟨rfl, rfl⟩ := trodVars_none hV
  obtain ⟨a0, rfl, rfl, rfl, w0⟩ := open_int Try.underlying3 (hval 0 3 v0 rfl rfl) h0
  obtain ⟨a1, len1, cap1, rfl⟩ := okWide_slice Try.underlying41 (hval 1 41 v1 rfl rfl)
  have k1 := h1
  have lt1 : ∀ x ∈ p1, x.block < W.heap.size := by obtain ⟨m, hm⟩ := k1; exact DataW.trod_lt m _ _ _ hm
  have w1 : CameN [some .u8, some .u64, some .u32, some .u32, some .i64, some .i64] W (.slice a1 len1 cap1) := by
    obtain ⟨fuel, hf⟩ := h1
    exact Abs.row_inN Try.underlying41 (by kernel_rfl) (by decide) hf
  clear hA0 hval0
  refine (walk a0 _ W (Abs.globs_le hsh (by kernel_rfl)) w0 w1).mono fun e W' ⟨he, bel⟩ => ?_
  subst he
  exact ⟨_, rfl, _, _, _, [], _, [], hW', trodAll_mk1 (shut_bool Try.underlying4 _), (trodAll_cons_mk (shut_int Try.underlying3 w0) (trodAll_cons_mk (Below.trod laidOut (by kernel_rfl) (of_decide_eq_true (by kernel_rfl)) k1 bel lt1) trodAll_mk0)), rfl, bel.frame _, fun h => by cases h⟩

theorem over : Rows.ledgerRunsRow.holds Try.pinned (OpenSpec.ofChange Rows.ledgerRunsSpec) :=
  OpenClaim.holds_of_wide 5 Try.f5 rfl rfl rfl rfl rfl rfl rfl ⟨rfl, rfl, rfl, rfl, rfl⟩ rfl rfl rfl rfl rfl (by kernel_rfl) Try.func5 (by kernel_rfl)
    (of_decide_eq_true (by kernel_rfl)) (by unfold Func.isWrapper; first | (rw [if_pos (by decide +kernel)]; kernel_rfl) | (rw [if_neg (by decide +kernel)]; exact ⟨rfl, rfl⟩))
    (fun os started H enc _ => lifted os started H enc)

/-- THE STATEMENT -/
theorem proved : Rows.LedgerRunsSaid := over
#print axioms proved
end Go.Proofs.Ytdgonebknphkcaa.ledgerRuns
