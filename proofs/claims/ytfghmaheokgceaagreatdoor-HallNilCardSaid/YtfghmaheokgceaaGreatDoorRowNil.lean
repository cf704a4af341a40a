/- PROVED HERE: 'HallNil' returns true for every input that its row lets in, and changes nothing that was there. Conditions: none beyond the row's own (the tables start as the program's text lays them: the card ties them).
   (Behind 'THE ROW' this text follows the shell that the kit's proof-skeleton prints.) -/
import Derived.Test.YtfghmaheokgceaaGreatDoorHnW
import Derived.Test.YtfghmaheokgceaaGreatDoorReN
import Derived.Test.YtfghmaheokgceaaGreatDoorJHallNil
import Derived.Test.YtfghmaheokgceaaGreatDoorJg
import Derived.Test.YtfghmaheokgceaaGreatDoorCards
import Derived.Test.YtfghmaheokgceaaGreatDoorPt
import Derived.SevenTiedAt
namespace Go.Proofs.YtfghmaheokgceaaGreatDoor.hallNil
open Go.ChangeShapes Go.WideShapes Go.ChangeAt Go.RowKit
open Go.ChangeMaps (open_string shut_string)
set_option linter.unusedVariables false
set_option maxRecDepth 100000

/-- What the walk is told of a slice that came in. -/
def Came (ks : List IntKind) (W : World) (v : Value) : Prop :=
  ∃ (n : Nat) (rows : Nat → List Value) (v' : Value), n ≤ maxLen ∧ (∀ i, i < n → Abs.Fits ks (rows i)) ∧ Abs.RowIn (Abs.st0 W) v' n ks.length rows ∧ Abs.VRel (Abs.rho0 W.heap.size) v' v
theorem walk (c0 : Array Value) (W : World) (hg : Tryz.prog.globals.size ≤ W.heap.size) (gl : Glob (Abs.st0 W)) (w0 : CameF W c0) :
    Calls Tryz.prog 3 #[.agg c0] W fun e w' => e = .returned (.bool true) ∧ Below W.heap.size W w' := nil_calls hg gl w0

/-! ### THE ROW -/
set_option maxRecDepth 100000 in
theorem lifted (os : Os) (started : os.Started) (H : Type) (enc : TypeId × Value → H) :
    ReturnsInHanded {} Tryz.checked os 3 .any (fun w args => (Rows.hallNilSpec.pre enc Tryz.prog Tryz.f3 [] false w args ∧ laidMetH Tryz.prog laidL w) ∧ sizedMet enc Tryz.prog Tryz.f3 (OpenSpec.ofChange Rows.hallNilSpec) false w args)
      (Rows.hallNilSpec.post enc Tryz.prog Tryz.f3 false true false false) := by
  refine handed_laid (C := Tryz.checked) (X := fun w _ => laidMetH Tryz.prog laidL w) (fun _ _ _ hh h => h.of_heap hh) own started (by kernel_rfl) Tryz.func3
    (ChangeSpec.witness_shaped (enc := enc) (C := Tryz.checked) (os := os) (X := fun w _ => laidMetH Tryz.prog laidL w) false (World.doorLaid Tryz.prog 400 os) #[.agg #[.int .u8 0, .int .u32 0, .int .u64 0, .int .i64 0, .slice none 0 0, .string ByteArray.empty, .int .u16 0]] 8 rfl (door_shaped os _) (by kernel_rfl) (by kernel_rfl) (by kernel_rfl) (door_met os _)) ?_
  intro W base args ds gs before hval0 hW hsh hL
  have hval : ∀ (j : Nat) t v, Tryz.f3.params[j]? = some t → args[j]? = some v → Value.okWide Tryz.prog W .any base t v := hval0
  have hW' := hW
  obtain ⟨p, q, hA0, hV, rfl, hfz, hnd⟩ := hW
  have hA : DataW.TrodAll enc Tryz.prog W 0 (fun _ => true) true Tryz.f3.params.toList args.toList ds p := hA0
  rw [Tryz.params3] at hA hval
  obtain ⟨v0, vs0, d0, ds0, p0, q0, hargs, rfl, rfl, h0, r0⟩ := trodAll_cons hA
  obtain ⟨rfl, rfl, rfl⟩ := trodAll_nil r0
  obtain rfl : args = #[v0] := by cases args; simp_all
  obtain ⟨rfl, rfl⟩ := trodVars_none hV
  obtain ⟨c0, rfl⟩ := Abs.okWide_agg (by rw [Tryz.underlying27]; rfl) (hval 0 27 v0 rfl rfl)
  have k0 := h0
  have lt0 : ∀ x ∈ p0, x.block < W.heap.size := by obtain ⟨m, hm⟩ := k0; exact DataW.trod_lt m _ _ _ hm
  have w0 : CameF W c0 := by
    obtain ⟨fuel, hf⟩ := h0
    exact fields_came hf
  clear hA0 hval0
  refine (walk _ W (Abs.globs_le hsh (by kernel_rfl)) (glob_of_laid hL) w0).mono fun e W' ⟨he, bel⟩ => ?_
  subst he
  exact ⟨_, rfl, _, _, _, [], _, [], hW', trodAll_mk1 (shut_bool Tryz.underlying4 _), (trodAll_cons_mk (Below.trod laidOut (by kernel_rfl) (of_decide_eq_true (by kernel_rfl)) k0 bel lt0) trodAll_mk0), rfl, bel.frame _, fun h => by cases h⟩

theorem over : Rows.hallNilRow.holds Tryz.pinned (OpenSpec.ofChange Rows.hallNilSpec) :=
  OpenClaim.holds_of_wide 3 Tryz.f3 rfl rfl rfl rfl rfl rfl rfl ⟨rfl, rfl, rfl, rfl, rfl⟩ rfl rfl rfl rfl rfl (by kernel_rfl) Tryz.func3 joined_hallNil
    (of_decide_eq_true (by kernel_rfl)) (by unfold Func.isWrapper; first | (rw [if_pos (by decide +kernel)]; kernel_rfl) | (rw [if_neg (by decide +kernel)]; exact ⟨rfl, rfl⟩))
    (fun os started H enc _ => lifted os started H enc)
/-! ### THE CARD -/
theorem card_wf : Rows.hallNilRow.wfByText (OpenSpec.ofChange Rows.hallNilSpec) = true := by kernel_rfl
theorem card_main : Tryz.pinned.checked.prog.mainIs = some (Rows.hallNilCard.stood.harness.1, Rows.hallNilCard.stood.harness.2.toList) := by kernel_rfl
theorem card_name : Tryz.prog.funcNamed Rows.hallNilRow.func = some 3 := by kernel_rfl
theorem card_looks : true = Tryz.pinned.checked.prog.looks [] := by kernel_rfl
theorem card_in : ([27].all fun u => !Tryz.prog.wantsStandIn u) = true := by kernel_rfl
theorem card_goes : false = Rows.hallNilRow.goesBy Tryz.pinned.checked.prog := goes_by rfl goes_none
/-- THE STATEMENT -/
theorem proved : Rows.HallNilCardSaid :=
  Claim7.holds_tied_plain_at .later [] Rows.hallNilCard.laidKinds true Rows.hallNilCard.stood.harness true
    over (fun _ h => by cases h) card_wf (fun _ h => by cases h) hallNil_row_tie rfl ⟨rfl, rfl⟩ card_main rfl
    (fun f fn hf hfn => by
      obtain rfl : f = 3 := Option.some.inj (card_name.symm.trans hf) |>.symm
      obtain rfl : fn = Tryz.f3 := (Option.some.inj (Tryz.func3.symm.trans hfn)).symm
      exact ⟨card_looks, fun j t ht => by
        rw [Tryz.params3] at ht
        have hm : t ∈ [27] := by simpa using Array.mem_of_getElem? ht
        exact (show Tryz.prog.wantsStandIn t = false by simpa using List.all_eq_true.1 card_in t hm)⟩)
    card_goes
#print axioms proved
end Go.Proofs.YtfghmaheokgceaaGreatDoor.hallNil
