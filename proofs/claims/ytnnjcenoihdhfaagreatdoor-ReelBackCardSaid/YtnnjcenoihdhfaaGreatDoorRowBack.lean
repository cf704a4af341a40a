/- PROVED HERE: 'ReelBack' returns true for every input that its row lets in, and changes nothing that was there. Conditions: none beyond the row's own (the tables start as the program's text lays them: the card ties them).
   (Behind 'THE ROW' this text follows the shell that the kit's proof-skeleton prints.) -/
import Derived.Test.YtnnjcenoihdhfaaGreatDoorMH
import Derived.Test.YtnnjcenoihdhfaaGreatDoorReN
import Derived.Test.YtnnjcenoihdhfaaGreatDoorJReelBack
import Derived.Test.YtnnjcenoihdhfaaGreatDoorJg
import Derived.Test.YtnnjcenoihdhfaaGreatDoorCards
import Derived.Test.YtnnjcenoihdhfaaGreatDoorPt
import Derived.SevenTiedAt
namespace Go.Proofs.YtnnjcenoihdhfaaGreatDoor.reelBack
open Go.ChangeShapes Go.WideShapes Go.ChangeAt Go.RowKit
open Go.ChangeMaps (open_string shut_string)
set_option linter.unusedVariables false
set_option maxRecDepth 100000

/-- What the walk is told of a slice that came in. -/
def Came (ks : List IntKind) (W : World) (v : Value) : Prop :=
  ∃ (n : Nat) (rows : Nat → List Value) (v' : Value), n ≤ maxLen ∧ (∀ i, i < n → Abs.Fits ks (rows i)) ∧ Abs.RowIn (Abs.st0 W) v' n ks.length rows ∧ Abs.VRel (Abs.rho0 W.heap.size) v' v
theorem walk (v0 v1 : Value) (W : World) (hg : Tryz.prog.globals.size ≤ W.heap.size) (w0 : CameE W v0) (w1 : CameB W v1) :
    Calls Tryz.prog 6 #[v0, v1] W fun e w' => e = .returned (.bool true) ∧ Below W.heap.size W w' := by
  obtain ⟨P, s, ine⟩ := w0
  obtain ⟨l, lt, t⟩ := w1
  exact Abs.law_calls hg Tryz.func6 (by kernel_rfl) (by kernel_rfl) backLawO_good.1 (args := [Abs.san W.heap.size v0, Abs.san W.heap.size v1]) (.cons (Abs.san_rel _ _) (.cons (Abs.san_rel _ _) .nil)) ⟨_, _, _, _, P, l, rfl, ine, s, lt, t, fun _ => rfl⟩

/-! ### THE ROW -/
set_option maxRecDepth 100000 in
theorem lifted (os : Os) (started : os.Started) (H : Type) (enc : TypeId × Value → H) :
    ReturnsInHanded {} Tryz.checked os 6 .any (fun w args => (Rows.reelBackSpec.pre enc Tryz.prog Tryz.f6 [] false w args ∧ laidMetH Tryz.prog laidL w) ∧ sizedMet enc Tryz.prog Tryz.f6 (OpenSpec.ofChange Rows.reelBackSpec) false w args)
      (Rows.reelBackSpec.post enc Tryz.prog Tryz.f6 false true false false) := by
  refine handed_laid (C := Tryz.checked) (X := fun w _ => laidMetH Tryz.prog laidL w) (fun _ _ _ hh h => h.of_heap hh) own started (by kernel_rfl) Tryz.func6
    (ChangeSpec.witness_shaped (enc := enc) (C := Tryz.checked) (os := os) (X := fun w _ => laidMetH Tryz.prog laidL w) false (World.doorLaid Tryz.prog 400 os) #[.slice none 0 0, .slice none 0 0] 8 rfl (door_shaped os _) (by kernel_rfl) (by kernel_rfl) (by kernel_rfl) (door_met os _)) ?_
  intro W base args ds gs before hval0 hW hsh hL
  have hval : ∀ (j : Nat) t v, Tryz.f6.params[j]? = some t → args[j]? = some v → Value.okWide Tryz.prog W .any base t v := hval0
  have hW' := hW
  obtain ⟨p, q, hA0, hV, rfl, hfz, hnd⟩ := hW
  have hA : DataW.TrodAll enc Tryz.prog W 0 (fun _ => true) true Tryz.f6.params.toList args.toList ds p := hA0
  rw [Tryz.params6] at hA hval
  obtain ⟨v0, vs0, d0, ds0, p0, q0, hargs, rfl, rfl, h0, r0⟩ := trodAll_cons hA
  obtain ⟨v1, vs1, d1, ds1, p1, q1, rfl, rfl, rfl, h1, r1⟩ := trodAll_cons r0
  obtain ⟨rfl, rfl, rfl⟩ := trodAll_nil r1
  obtain rfl : args = #[v0, v1] := by cases args; simp_all
  obtain ⟨rfl, rfl⟩ := trodVars_none hV
  obtain ⟨a0, len0, cap0, rfl⟩ := okWide_slice Tryz.underlying22 (hval 0 22 v0 rfl rfl)
  have k0 := h0
  have lt0 : ∀ x ∈ p0, x.block < W.heap.size := by obtain ⟨m, hm⟩ := k0; exact DataW.trod_lt m _ _ _ hm
  have w0 : CameE W (.slice a0 len0 cap0) := by
    obtain ⟨fuel, hf⟩ := h0
    exact evs_came hf
  obtain ⟨a1, len1, cap1, rfl⟩ := okWide_slice Tryz.underlying25 (hval 1 25 v1 rfl rfl)
  have k1 := h1
  have lt1 : ∀ x ∈ p1, x.block < W.heap.size := by obtain ⟨m, hm⟩ := k1; exact DataW.trod_lt m _ _ _ hm
  have w1 : CameB W (.slice a1 len1 cap1) := by
    obtain ⟨fuel, hf⟩ := h1
    exact by_came hf
  clear hA0 hval0
  refine (walk _ _ W (Abs.globs_le hsh (by kernel_rfl)) w0 w1).mono fun e W' ⟨he, bel⟩ => ?_
  subst he
  exact ⟨_, rfl, _, _, _, [], _, [], hW', trodAll_mk1 (shut_bool Tryz.underlying4 _), (trodAll_cons_mk (Below.trod laidOut (by kernel_rfl) (of_decide_eq_true (by kernel_rfl)) k0 bel lt0) (trodAll_cons_mk (Below.trod laidOut (by kernel_rfl) (of_decide_eq_true (by kernel_rfl)) k1 bel lt1) trodAll_mk0)), rfl, bel.frame _, fun h => by cases h⟩

theorem over : Rows.reelBackRow.holds Tryz.pinned (OpenSpec.ofChange Rows.reelBackSpec) :=
  OpenClaim.holds_of_wide 6 Tryz.f6 rfl rfl rfl rfl rfl rfl rfl ⟨rfl, rfl, rfl, rfl, rfl⟩ rfl rfl rfl rfl rfl (by kernel_rfl) Tryz.func6 joined_reelBack
    (of_decide_eq_true (by kernel_rfl)) (by unfold Func.isWrapper; first | (rw [if_pos (by decide +kernel)]; kernel_rfl) | (rw [if_neg (by decide +kernel)]; exact ⟨rfl, rfl⟩))
    (fun os started H enc _ => lifted os started H enc)
/-! ### THE CARD -/
theorem card_wf : Rows.reelBackRow.wfByText (OpenSpec.ofChange Rows.reelBackSpec) = true := by kernel_rfl
theorem card_main : Tryz.pinned.checked.prog.mainIs = some (Rows.reelBackCard.stood.harness.1, Rows.reelBackCard.stood.harness.2.toList) := by kernel_rfl
theorem card_name : Tryz.prog.funcNamed Rows.reelBackRow.func = some 6 := by kernel_rfl
theorem card_looks : true = Tryz.pinned.checked.prog.looks [] := by kernel_rfl
theorem card_in : ([22, 25].all fun u => !Tryz.prog.wantsStandIn u) = true := by kernel_rfl
theorem card_goes : false = Rows.reelBackRow.goesBy Tryz.pinned.checked.prog := goes_by rfl goes_none
/-- THE STATEMENT -/
theorem proved : Rows.ReelBackCardSaid :=
  Claim7.holds_tied_plain_at .later [] Rows.reelBackCard.laidKinds true Rows.reelBackCard.stood.harness true
    over (fun _ h => by cases h) card_wf (fun _ h => by cases h) reelBack_row_tie rfl ⟨rfl, rfl⟩ card_main rfl
    (fun f fn hf hfn => by
      obtain rfl : f = 6 := Option.some.inj (card_name.symm.trans hf) |>.symm
      obtain rfl : fn = Tryz.f6 := (Option.some.inj (Tryz.func6.symm.trans hfn)).symm
      exact ⟨card_looks, fun j t ht => by
        rw [Tryz.params6] at ht
        have hm : t ∈ [22, 25] := by simpa using Array.mem_of_getElem? ht
        exact (show Tryz.prog.wantsStandIn t = false by simpa using List.all_eq_true.1 card_in t hm)⟩)
    card_goes
#print axioms proved
end Go.Proofs.YtnnjcenoihdhfaaGreatDoor.reelBack
