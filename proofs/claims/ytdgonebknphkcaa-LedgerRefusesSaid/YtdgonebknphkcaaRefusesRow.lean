/- PROVED HERE: 'LedgerRefuses' returns true for every input that its row lets in, and changes nothing that was there. Conditions: none beyond the row's own.
   (Behind 'THE ROW' this text follows the shell that the kit's proof-skeleton prints.) -/
import Derived.Test.YtdgonebknphkcaaRows
import Derived.WalkKit
import Derived.ProofKit
import Derived.OpenShut
import Derived.ShutString
import Derived.ChangeOld
import Derived.Below
import Derived.HandedShaped
import Derived.DataShut
import Derived.Test.YtdgonebknphkcaaLgD
namespace Go.Proofs.Ytdgonebknphkcaa.ledgerRefuses
open Go.ChangeShapes Go.WideShapes Go.ChangeAt Go.RowKit
open Go.ChangeMaps (open_string shut_string)
set_option linter.unusedVariables false

theorem own : ownKnob Try.prog.godebug = none := by kernel_rfl
theorem laidOut : laidOutB Try.prog = true := by kernel_rfl
/-- What the walk is told of a slice that came in. -/
def Came (ks : List IntKind) (W : World) (v : Value) : Prop :=
  ∃ (n : Nat) (rows : Nat → List Value) (v' : Value), n ≤ maxLen ∧ (∀ i, i < n → Abs.Fits ks (rows i)) ∧ Abs.RowIn (Abs.st0 W) v' n ks.length rows ∧ Abs.VRel (Abs.rho0 W.heap.size) v' v
theorem nat64 {n : Int} (h : (Lit.int .u64 n).wf = true) : ∃ m : Nat, (m : Int) = n ∧ big m := by
  have := (Lit.wf_int_iff .u64 n).1 h
  simp [IntKind.min, IntKind.max, IntKind.signed, IntKind.bits] at this
  exact ⟨n.toNat, by omega, by unfold big; omega⟩
theorem nat32 {n : Int} (h : (Lit.int .u32 n).wf = true) : ∃ m : Nat, (m : Int) = n := by
  have := (Lit.wf_int_iff .u32 n).1 h
  simp [IntKind.min, IntKind.max, IntKind.signed, IntKind.bits] at this
  exact ⟨n.toNat, by omega⟩
theorem en_of {v : List Value} (h : Abs.Fits [.u64, .u32, .u32, .i64] v) : ∃ e : En, v = cellsE e ∧ big e.1 := by
  obtain ⟨h1, h2⟩ := h
  obtain ⟨a, ha, wa⟩ := h2 0 .u64 rfl
  obtain ⟨b, hb, wb⟩ := h2 1 .u32 rfl
  obtain ⟨c, hc, wc⟩ := h2 2 .u32 rfl
  obtain ⟨d, hd, _⟩ := h2 3 .i64 rfl
  obtain ⟨a', ea, ba⟩ := nat64 wa
  obtain ⟨b', eb⟩ := nat32 wb
  obtain ⟨c', ec⟩ := nat32 wc
  refine ⟨(a', b', c', d), ?_, ba⟩
  have : v.length = 4 := h1
  match v, this with
  | [x, y, z, w], _ => simp at ha hb hc hd; simp [cellsE, ha, hb, hc, hd, ea, eb, ec]
theorem came_ens {W : World} {v : Value} (h : Came [.u64, .u32, .u32, .i64] W v) : ∃ (l : List En) (v' : Value), (∀ x ∈ l, big x.1) ∧ Ens (Abs.st0 W) v' l ∧ Abs.VRel (Abs.rho0 W.heap.size) v' v := by
  obtain ⟨n, rows, v', _, hf, hr, hv⟩ := h
  have s := hr.slice (Abs.st0_wf W) (fun i hi => (hf i hi).1)
  have : ∀ i, ∃ x : En, i < n → rows i = cellsE x ∧ big x.1 := by
    intro i
    by_cases hi : i < n
    · obtain ⟨a, h1, h2⟩ := en_of (hf i hi)
      exact ⟨a, fun _ => ⟨h1, h2⟩⟩
    · exact ⟨zE, fun h => absurd h hi⟩
  obtain ⟨f, hf'⟩ : ∃ f : Nat → En, ∀ i, i < n → rows i = cellsE (f i) ∧ big (f i).1 := ⟨fun i => Classical.choose (this i), fun i hi => Classical.choose_spec (this i) hi⟩
  refine ⟨(List.range n).map f, v', fun x hx => ?_, ?_, hv⟩
  · obtain ⟨i, hi, rfl⟩ := List.mem_map.1 hx
    exact (hf' i (List.mem_range.1 hi)).2
  have e : ((List.range n).map f).length = n := by simp
  unfold Ens
  rw [e]
  refine s.rows fun i hi => ?_
  rw [(hf' i hi).1]
  simp [rowE, hi]
theorem walk (v0 : Value) (c1 c2 : Array Value) (W : World) (hg : Try.prog.globals.size ≤ W.heap.size) (w0 : Came [.u64, .u32, .u32, .i64] W v0) (w1 : Abs.Fits [.u64, .u32, .u32, .i64] c1.toList) (w2 : Abs.Fits [.u64, .u32, .u32, .i64] c2.toList) :
    Calls Try.prog 4 #[v0, .agg c1, .agg c2] W fun e w' => e = .returned (.bool true) ∧ Below W.heap.size W w' := by
  obtain ⟨l, v', bl, s, hv⟩ := came_ens w0
  obtain ⟨e, he, be⟩ := en_of w1
  obtain ⟨t, ht, bt⟩ := en_of w2
  have e1 : Value.agg c1 = eV e := congrArg Value.agg (Array.ext' he)
  have e2 : Value.agg c2 = eV t := congrArg Value.agg (Array.ext' ht)
  rw [e1, e2]
  exact Abs.law_calls hg Try.func4 (by kernel_rfl) (by kernel_rfl) refusesLawO_good.1 (args := [v', eV e, eV t]) (.cons hv (.cons (.flat _ rfl) (.cons (.flat _ rfl) .nil))) ⟨v', l, e, t, rfl, be, bl, s, fun _ => rfl⟩

/-! ### THE ROW -/
set_option maxRecDepth 100000 in
theorem lifted (os : Os) (started : os.Started) (H : Type) (enc : TypeId × Value → H) :
    ReturnsInHanded {} Try.checked os 4 .any (Rows.ledgerRefusesSpec.pre6 enc Try.prog Try.f4 Rows.ledgerRefusesRow.domain false) (Rows.ledgerRefusesSpec.post enc Try.prog Try.f4 false true false false) := by
  refine returnsInHanded_of_change_shaped (C := Try.checked) own started (by kernel_rfl) Try.func4
    (ChangeSpec.witness6 (enc := enc) (C := Try.checked) false ⟨#[], #[.slice none 0 0, .agg #[.int .u64 0, .int .u32 0, .int .u32 0, .int .i64 0], .agg #[.int .u64 0, .int .u32 0, .int .u32 0, .int .i64 0]], []⟩ 8 (by kernel_rfl) (by kernel_rfl) (by kernel_rfl) (by kernel_rfl)) ?_
  intro W base args ds gs before hval0 hW hcnd hwt hsh _
  have hval : ∀ (j : Nat) t v, Try.f4.params[j]? = some t → args[j]? = some v → Value.okWide Try.prog W .any base t v := hval0
  have hW' := hW
  obtain ⟨p, q, hA0, hV, rfl, hfz, hnd⟩ := hW
  have hA : DataW.TrodAll enc Try.prog W 0 (fun _ => true) true Try.f4.params.toList args.toList ds p := hA0
  rw [Try.params4] at hA hval
  obtain ⟨v0, vs0, d0, ds0, p0, q0, hargs, rfl, rfl, h0, r0⟩ := trodAll_cons hA
  obtain ⟨v1, vs1, d1, ds1, p1, q1, rfl, rfl, rfl, h1, r1⟩ := trodAll_cons r0
  obtain ⟨v2, vs2, d2, ds2, p2, q2, rfl, rfl, rfl, h2, r2⟩ := trodAll_cons r1
  obtain ⟨rfl, rfl, rfl⟩ := trodAll_nil r2
  obtain rfl : args = #[v0, v1, v2] := by cases args; simp_all
  obtain ⟨rfl, rfl⟩ := trodVars_none hV
  obtain ⟨a0, len0, cap0, rfl⟩ := okWide_slice Try.underlying22 (hval 0 22 v0 rfl rfl)
  have k0 := h0
  have lt0 : ∀ x ∈ p0, x.block < W.heap.size := by obtain ⟨m, hm⟩ := k0; exact DataW.trod_lt m _ _ _ hm
  have w0 : Came [.u64, .u32, .u32, .i64] W (.slice a0 len0 cap0) := by
    obtain ⟨fuel, hf⟩ := h0
    exact Abs.row_in Try.underlying22 (by kernel_rfl) (by decide) hf
  obtain ⟨c1, rfl⟩ := Abs.okWide_agg (by rw [Try.underlying31]; rfl) (hval 1 31 v1 rfl rfl)
  have k1 := h1
  have lt1 : ∀ x ∈ p1, x.block < W.heap.size := by obtain ⟨m, hm⟩ := k1; exact DataW.trod_lt m _ _ _ hm
  have w1 : Abs.Fits [.u64, .u32, .u32, .i64] c1.toList := by
    obtain ⟨fuel, hf⟩ := h1
    exact (Abs.elem_fits (by kernel_rfl) hf).2
  obtain ⟨c2, rfl⟩ := Abs.okWide_agg (by rw [Try.underlying34]; rfl) (hval 2 34 v2 rfl rfl)
  have k2 := h2
  have lt2 : ∀ x ∈ p2, x.block < W.heap.size := by obtain ⟨m, hm⟩ := k2; exact DataW.trod_lt m _ _ _ hm
  have w2 : Abs.Fits [.u64, .u32, .u32, .i64] c2.toList := by
    obtain ⟨fuel, hf⟩ := h2
    exact (Abs.elem_fits (by kernel_rfl) hf).2
  clear hA0 hval0
  refine (walk _ _ _ W (Abs.globs_le hsh (by kernel_rfl)) w0 w1 w2).mono fun e W' ⟨he, bel⟩ => ?_
  subst he
  exact ⟨_, rfl, _, _, _, [], _, [], hW', trodAll_mk1 (shut_bool Try.underlying4 _), (trodAll_cons_mk (Below.trod laidOut (by kernel_rfl) (of_decide_eq_true (by kernel_rfl)) k0 bel lt0) (trodAll_cons_mk (Below.trod laidOut (by kernel_rfl) (of_decide_eq_true (by kernel_rfl)) k1 bel lt1) (trodAll_cons_mk (Below.trod laidOut (by kernel_rfl) (of_decide_eq_true (by kernel_rfl)) k2 bel lt2) trodAll_mk0))), rfl, bel.frame _, fun h => by cases h⟩

theorem over : Rows.ledgerRefusesRow.holds Try.pinned (OpenSpec.ofChange Rows.ledgerRefusesSpec) :=
  OpenClaim.holds_of_wide 4 Try.f4 rfl rfl rfl rfl rfl rfl rfl ⟨rfl, rfl, rfl, rfl, rfl⟩ rfl rfl rfl rfl rfl (by kernel_rfl) Try.func4 (by kernel_rfl)
    (of_decide_eq_true (by kernel_rfl)) (by unfold Func.isWrapper; first | (rw [if_pos (by decide +kernel)]; kernel_rfl) | (rw [if_neg (by decide +kernel)]; exact ⟨rfl, rfl⟩))
    (fun os started H enc _ => lifted os started H enc)

/-- THE STATEMENT -/
theorem proved : Rows.LedgerRefusesSaid := over
#print axioms proved
end Go.Proofs.Ytdgonebknphkcaa.ledgerRefuses
