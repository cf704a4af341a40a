/- PROVED HERE: 'VerbMakes' returns true for every input that its row lets in, and changes nothing that was there. Conditions: none beyond the row's own (the tables start as the program's text lays them: the card ties them).
   (Behind 'THE ROW' this text follows the shell that the kit's proof-skeleton prints.) -/
import Derived.Test.YtdmcmebfclikgaaDoorLJ
import Derived.Test.YtdmcmebfclikgaaDoorCards
import Derived.Test.YtdmcmebfclikgaaDoorTie
import Derived.SevenTiedAt
namespace Go.Proofs.YtdmcmebfclikgaaDoor.verbMakes
open Go.ChangeShapes Go.WideShapes Go.ChangeAt Go.RowKit
open Go.ChangeMaps (open_string shut_string)
set_option linter.unusedVariables false

/-- What the walk is told of a slice that came in. -/
def Came (ks : List IntKind) (W : World) (v : Value) : Prop :=
  ∃ (n : Nat) (rows : Nat → List Value) (v' : Value), n ≤ maxLen ∧ (∀ i, i < n → Abs.Fits ks (rows i)) ∧ Abs.RowIn (Abs.st0 W) v' n ks.length rows ∧ Abs.VRel (Abs.rho0 W.heap.size) v' v
theorem wf_nat {k : IntKind} {x : Int} (hk : k.signed = false) (h : (Lit.int k x).wf = true) : ∃ n : Nat, x = n ∧ n < 2 ^ k.bits := by
  have := (Lit.wf_int_iff k x).1 h
  simp only [IntKind.min, IntKind.max, hk] at this
  have p : ((2 ^ k.bits : Nat) : Int) = 2 ^ k.bits := by norm_cast
  refine ⟨x.toNat, ?_, ?_⟩
  · simp at this; omega
  · simp at this; omega
theorem walk (c0 : Array Value) (a1 : Int) (W : World) (hg : Tryd.prog.globals.size ≤ W.heap.size) (gl : Glob (Abs.st0 W)) (w0 : CameM W c0) (w1 : (Lit.int .u8 a1).wf = true) :
    Calls Tryd.prog 7 #[.agg c0, .int .u8 a1] W fun e w' => e = .returned (.bool true) ∧ Below W.heap.size W w' := by
  obtain ⟨x, d, rfl, vN, vS, vL, lv, N, S, L, hv, F, hN, hL, _, l2, l3⟩ := w0
  obtain ⟨a, rfl, ha⟩ := wf_nat rfl w1
  have hm : maxLen ≤ 9223372036854775807 := by decide
  refine Abs.law_calls hg makesLawS_good.1 (args := [.agg #[.int .i64 x, vN, vS, vL], .int .u8 a]) (.cons ?_ (.cons (.lit _ rfl) .nil)) ⟨x, vN, vS, vL, lv, N, S, L, a, rfl, ha, F, hN, hL, Nat.le_trans l2 hm, Nat.le_trans l3 hm, gl, fun _ => rfl⟩
  cases hv with
  | lit _ e => cases e
  | agg _ _ hs hr =>
    have hd : d.size = 3 := hs.symm
    refine .agg _ _ (by simp [hd]) fun i h1 h2 => ?_
    match i with
    | 0 => exact .lit _ rfl
    | i + 1 =>
      have h4 : i + 1 < 4 := h1
      have h1' : i < 3 := by omega
      have := hr i (by simpa using h1') (by omega)
      simpa using this

/-! ### THE ROW -/
set_option maxRecDepth 100000 in
theorem lifted (os : Os) (started : os.Started) (H : Type) (enc : TypeId × Value → H) :
    ReturnsInHanded {} Tryd.checked os 7 .any (fun w args => (Rows.verbMakesSpec.pre enc Tryd.prog Tryd.f7 [] false w args ∧ laidMetH Tryd.prog laidL w) ∧ sizedMet enc Tryd.prog Tryd.f7 (OpenSpec.ofChange Rows.verbMakesSpec) false w args)
      (Rows.verbMakesSpec.post enc Tryd.prog Tryd.f7 false true false false) := by
  refine handed_laid (C := Tryd.checked) (X := fun w _ => laidMetH Tryd.prog laidL w) (fun _ _ _ hh h => h.of_heap hh) own started (by kernel_rfl) Tryd.func7
    (ChangeSpec.witness_shaped (enc := enc) (C := Tryd.checked) (os := os) (X := fun w _ => laidMetH Tryd.prog laidL w) false (World.doorLaid Tryd.prog 400 os) #[.agg #[.int .i64 0, .slice none 0 0, .slice none 0 0, .slice none 0 0], .int .u8 0] 8 rfl (World.shaped_of_RefB (by kernel_rfl) (by kernel_rfl)) (by kernel_rfl) (by kernel_rfl) (by kernel_rfl) (door_met os _)) ?_
  intro W base args ds gs before hval0 hW hsh hL
  have hval : ∀ (j : Nat) t v, Tryd.f7.params[j]? = some t → args[j]? = some v → Value.okWide Tryd.prog W .any base t v := hval0
  have hW' := hW
  obtain ⟨p, q, hA0, hV, rfl, hfz, hnd⟩ := hW
  have hA : DataW.TrodAll enc Tryd.prog W 0 (fun _ => true) true Tryd.f7.params.toList args.toList ds p := hA0
  rw [Tryd.params7] at hA hval
  obtain ⟨v0, vs0, d0, ds0, p0, q0, hargs, rfl, rfl, h0, r0⟩ := trodAll_cons hA
  obtain ⟨v1, vs1, d1, ds1, p1, q1, rfl, rfl, rfl, h1, r1⟩ := trodAll_cons r0
  obtain ⟨rfl, rfl, rfl⟩ := trodAll_nil r1
  obtain rfl : args = #[v0, v1] := by cases args; simp_all
  obtain ⟨rfl, rfl⟩ := trodVars_none hV
  obtain ⟨c0, rfl⟩ := Abs.okWide_agg (by rw [Tryd.underlying28]; rfl) (hval 0 28 v0 rfl rfl)
  have k0 := h0
  have lt0 : ∀ x ∈ p0, x.block < W.heap.size := by obtain ⟨m, hm⟩ := k0; exact DataW.trod_lt m _ _ _ hm
  have w0 : CameM W c0 := by
    obtain ⟨fuel, hf⟩ := h0
    exact msg_came hf
  obtain ⟨a1, rfl, rfl, rfl, w1⟩ := open_int Tryd.underlying5 (hval 1 5 v1 rfl rfl) h1
  clear hA0 hval0
  refine (walk _ a1 W (Abs.globs_le hsh (by kernel_rfl)) (glob_of_laid hL) w0 w1).mono fun e W' ⟨he, bel⟩ => ?_
  subst he
  exact ⟨_, rfl, _, _, _, [], _, [], hW', trodAll_mk1 (shut_bool Tryd.underlying4 _), (trodAll_cons_mk (Below.trod laidOut (by kernel_rfl) (of_decide_eq_true (by kernel_rfl)) k0 bel lt0) (trodAll_cons_mk (shut_int Tryd.underlying5 w1) trodAll_mk0)), rfl, bel.frame _, fun h => by cases h⟩

theorem over : Rows.verbMakesRow.holds Tryd.pinned (OpenSpec.ofChange Rows.verbMakesSpec) :=
  OpenClaim.holds_of_wide 7 Tryd.f7 rfl rfl rfl rfl rfl rfl rfl ⟨rfl, rfl, rfl, rfl, rfl⟩ rfl rfl rfl rfl rfl (by kernel_rfl) Tryd.func7 (by kernel_rfl)
    (of_decide_eq_true (by kernel_rfl)) (by unfold Func.isWrapper; first | (rw [if_pos (by decide +kernel)]; kernel_rfl) | (rw [if_neg (by decide +kernel)]; exact ⟨rfl, rfl⟩))
    (fun os started H enc _ => lifted os started H enc)
/-! ### THE CARD -/
/-- THE STATEMENT -/
theorem proved : Rows.VerbMakesCardSaid :=
  Claim7.holds_tied_plain_at .later [] Rows.verbMakesCard.laidKinds true Rows.verbMakesCard.stood.harness false
    over (fun _ h => by cases h) (by kernel_rfl) (fun _ h => by cases h) verbMakes_row_tie rfl ⟨rfl, rfl⟩ (by kernel_rfl) rfl
    (fun f fn hf hfn => by
      obtain rfl : f = 7 := Option.some.inj ((by kernel_rfl : Tryd.prog.funcNamed _ = some 7).symm.trans hf) |>.symm
      obtain rfl : fn = Tryd.f7 := (Option.some.inj (Tryd.func7.symm.trans hfn)).symm
      exact ⟨by kernel_rfl, fun j t ht => by
        rw [Tryd.params7] at ht
        have hm : t ∈ [28, 5] := by simpa using Array.mem_of_getElem? ht
        have hall : ([28, 5].all fun u => !Tryd.prog.wantsStandIn u) = true := by kernel_rfl
        exact (show Tryd.prog.wantsStandIn t = false by simpa using List.all_eq_true.1 hall t hm)⟩)
    (by kernel_rfl)
#print axioms proved
end Go.Proofs.YtdmcmebfclikgaaDoor.verbMakes
