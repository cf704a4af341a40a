/- PROVED HERE: 'VerbNames' returns true for every input that its row lets in, and changes nothing that was there. Conditions: none beyond the row's own (the tables start as the program's text lays them: the card ties them).
   (Behind 'THE ROW' this text follows the shell that the kit's proof-skeleton prints.) -/
import Derived.Test.YtdmcmebfclikgaaDoorLG
import Derived.Test.YtdmcmebfclikgaaDoorCards
import Derived.Test.YtdmcmebfclikgaaDoorTie
import Derived.SevenTiedAt
namespace Go.Proofs.YtdmcmebfclikgaaDoor.verbNames
open Go.ChangeShapes Go.WideShapes Go.ChangeAt Go.RowKit
open Go.ChangeMaps (open_string shut_string)
set_option linter.unusedVariables false

/-- What the walk is told of a slice that came in. -/
def Came (ks : List IntKind) (W : World) (v : Value) : Prop :=
  ∃ (n : Nat) (rows : Nat → List Value) (v' : Value), n ≤ maxLen ∧ (∀ i, i < n → Abs.Fits ks (rows i)) ∧ Abs.RowIn (Abs.st0 W) v' n ks.length rows ∧ Abs.VRel (Abs.rho0 W.heap.size) v' v
theorem wf_nat {k : IntKind} {x : Int} (hk : k.signed = false) (h : (Lit.int k x).wf = true) : ∃ n : Nat, x = n ∧ n < 2 ^ k.bits := by
  have := (Lit.wf_int_iff k x).1 h
  simp only [IntKind.min, IntKind.max, hk] at this
  have p : ((2 ^ k.bits : Nat) : Int) = 2 ^ k.bits := by norm_cast
  refine ⟨x.toNat, ?_, ?_⟩
  · simp at this; omega
  · simp at this; omega
theorem walk (a0 a1 : Int) (W : World) (hg : Tryd.prog.globals.size ≤ W.heap.size) (gl : Glob (Abs.st0 W)) (w0 : (Lit.int .u8 a0).wf = true) (w1 : (Lit.int .u8 a1).wf = true) :
    Calls Tryd.prog 8 #[.int .u8 a0, .int .u8 a1] W fun e w' => e = .returned (.bool true) ∧ Below W.heap.size W w' := by
  obtain ⟨a, rfl, ha⟩ := wf_nat rfl w0
  obtain ⟨b, rfl, hb⟩ := wf_nat rfl w1
  exact Abs.law_calls hg namesLawS_good.1 (.cons (.lit _ rfl) (.cons (.lit _ rfl) .nil)) ⟨a, b, rfl, ha, hb, gl, fun _ => rfl⟩

/-! ### THE ROW -/
set_option maxRecDepth 100000 in
theorem lifted (os : Os) (started : os.Started) (H : Type) (enc : TypeId × Value → H) :
    ReturnsInHanded {} Tryd.checked os 8 .any (fun w args => (Rows.verbNamesSpec.pre enc Tryd.prog Tryd.f8 [] false w args ∧ laidMetH Tryd.prog laidL w) ∧ sizedMet enc Tryd.prog Tryd.f8 (OpenSpec.ofChange Rows.verbNamesSpec) false w args)
      (Rows.verbNamesSpec.post enc Tryd.prog Tryd.f8 false true false false) := by
  refine handed_laid (C := Tryd.checked) (X := fun w _ => laidMetH Tryd.prog laidL w) (fun _ _ _ hh h => h.of_heap hh) own started (by kernel_rfl) Tryd.func8
    (ChangeSpec.witness_shaped (enc := enc) (C := Tryd.checked) (os := os) (X := fun w _ => laidMetH Tryd.prog laidL w) false (World.doorLaid Tryd.prog 400 os) #[.int .u8 0, .int .u8 0] 8 rfl (World.shaped_of_RefB (by kernel_rfl) (by kernel_rfl)) (by kernel_rfl) (by kernel_rfl) (by kernel_rfl) (door_met os _)) ?_
  intro W base args ds gs before hval0 hW hsh hL
  have hval : ∀ (j : Nat) t v, Tryd.f8.params[j]? = some t → args[j]? = some v → Value.okWide Tryd.prog W .any base t v := hval0
  have hW' := hW
  obtain ⟨p, q, hA0, hV, rfl, hfz, hnd⟩ := hW
  have hA : DataW.TrodAll enc Tryd.prog W 0 (fun _ => true) true Tryd.f8.params.toList args.toList ds p := hA0
  rw [Tryd.params8] at hA hval
  obtain ⟨v0, vs0, d0, ds0, p0, q0, hargs, rfl, rfl, h0, r0⟩ := trodAll_cons hA
  obtain ⟨v1, vs1, d1, ds1, p1, q1, rfl, rfl, rfl, h1, r1⟩ := trodAll_cons r0
  obtain ⟨rfl, rfl, rfl⟩ := trodAll_nil r1
  obtain rfl : args = #[v0, v1] := by cases args; simp_all
  obtain ⟨rfl, rfl⟩ := trodVars_none hV
  obtain ⟨a0, rfl, rfl, rfl, w0⟩ := open_int Tryd.underlying5 (hval 0 5 v0 rfl rfl) h0
  obtain ⟨a1, rfl, rfl, rfl, w1⟩ := open_int Tryd.underlying5 (hval 1 5 v1 rfl rfl) h1
  clear hA0 hval0
  refine (walk a0 a1 W (Abs.globs_le hsh (by kernel_rfl)) (glob_of_laid hL) w0 w1).mono fun e W' ⟨he, bel⟩ => ?_
  subst he
  exact ⟨_, rfl, _, _, _, [], _, [], hW', trodAll_mk1 (shut_bool Tryd.underlying4 _), (trodAll_cons_mk (shut_int Tryd.underlying5 w0) (trodAll_cons_mk (shut_int Tryd.underlying5 w1) trodAll_mk0)), rfl, bel.frame _, fun h => by cases h⟩

theorem over : Rows.verbNamesRow.holds Tryd.pinned (OpenSpec.ofChange Rows.verbNamesSpec) :=
  OpenClaim.holds_of_wide 8 Tryd.f8 rfl rfl rfl rfl rfl rfl rfl ⟨rfl, rfl, rfl, rfl, rfl⟩ rfl rfl rfl rfl rfl (by kernel_rfl) Tryd.func8 (by kernel_rfl)
    (of_decide_eq_true (by kernel_rfl)) (by unfold Func.isWrapper; first | (rw [if_pos (by decide +kernel)]; kernel_rfl) | (rw [if_neg (by decide +kernel)]; exact ⟨rfl, rfl⟩))
    (fun os started H enc _ => lifted os started H enc)
/-! ### THE CARD -/
/-- THE STATEMENT -/
theorem proved : Rows.VerbNamesCardSaid :=
  Claim7.holds_tied_plain_at .later [] Rows.verbNamesCard.laidKinds true Rows.verbNamesCard.stood.harness false
    over (fun _ h => by cases h) (by kernel_rfl) (fun _ h => by cases h) verbNames_row_tie rfl ⟨rfl, rfl⟩ (by kernel_rfl) rfl
    (fun f fn hf hfn => by
      obtain rfl : f = 8 := Option.some.inj ((by kernel_rfl : Tryd.prog.funcNamed _ = some 8).symm.trans hf) |>.symm
      obtain rfl : fn = Tryd.f8 := (Option.some.inj (Tryd.func8.symm.trans hfn)).symm
      exact ⟨by kernel_rfl, fun j t ht => by
        rw [Tryd.params8] at ht
        have hm : t ∈ [5, 5] := by simpa using Array.mem_of_getElem? ht
        have hall : ([5, 5].all fun u => !Tryd.prog.wantsStandIn u) = true := by kernel_rfl
        exact (show Tryd.prog.wantsStandIn t = false by simpa using List.all_eq_true.1 hall t hm)⟩)
    (by kernel_rfl)
#print axioms proved
end Go.Proofs.YtdmcmebfclikgaaDoor.verbNames
