/- PROVED HERE: 'VerbOnly' returns true for every input that its row lets in, and changes nothing that was there. Conditions: none beyond the row's own (the tables start as the program's text lays them: the card ties them).
   (Behind 'THE ROW' this text follows the shell that the kit's proof-skeleton prints.) -/
import Derived.Test.YtdmcmebfclikgaaDoorAJ
import Derived.Test.YtdmcmebfclikgaaDoorCards
import Derived.Test.YtdmcmebfclikgaaDoorTie
import Derived.SevenTiedAt
namespace Go.Proofs.YtdmcmebfclikgaaDoor.verbOnly
open Go.ChangeShapes Go.WideShapes Go.ChangeAt Go.RowKit
open Go.ChangeMaps (open_string shut_string)
set_option linter.unusedVariables false

/-- What the walk is told of a slice that came in. -/
def Came (ks : List IntKind) (W : World) (v : Value) : Prop :=
  ∃ (n : Nat) (rows : Nat → List Value) (v' : Value), n ≤ maxLen ∧ (∀ i, i < n → Abs.Fits ks (rows i)) ∧ Abs.RowIn (Abs.st0 W) v' n ks.length rows ∧ Abs.VRel (Abs.rho0 W.heap.size) v' v
theorem wf_nat {k : IntKind} {x : Int} (hk : k.signed = false) (h : (Lit.int k x).wf = true) : ∃ n : Nat, x = n ∧ n < 2 ^ k.bits := by
  have := (Lit.wf_int_iff k x).1 h
  simp only [IntKind.min, IntKind.max, hk] at this
  have p : ((2 ^ k.bits : Nat) : Int) = 2 ^ k.bits := by norm_cast
  refine ⟨x.toNat, ?_, ?_⟩
  · simp at this; omega
  · simp at this; omega
theorem came_bytes {W : World} {v : Value} (h : Came [.u8] W v) : ∃ (l : List Nat) (v' : Value), (∀ c ∈ l, c < 256) ∧ Abs.SliceAt (· < (Abs.st0 W).next) (Abs.st0 W) v' l.length 1 (rowC l) ∧ Abs.VRel (Abs.rho0 W.heap.size) v' v := by
  obtain ⟨n, rows, v', _, hf, hr, hv⟩ := h
  have s := hr.slice (Abs.st0_wf W) (fun i hi => (hf i hi).1)
  have : ∀ i, ∃ x : Nat, i < n → (rows i = [bc x] ∧ x < 256) := by
    intro i
    by_cases hi : i < n
    · obtain ⟨h1, h2⟩ := hf i hi
      obtain ⟨a, ha, hw⟩ := h2 0 .u8 rfl
      obtain ⟨x, rfl, hx⟩ := wf_nat rfl hw
      refine ⟨x, fun _ => ⟨?_, hx⟩⟩
      have h1 : (rows i).length = 1 := h1
      match hr : rows i, h1 with
      | [y], _ => rw [hr] at ha; simp at ha; rw [ha]; rfl
    · exact ⟨0, fun h => absurd h hi⟩
  obtain ⟨f, hf'⟩ : ∃ f : Nat → Nat, ∀ i, i < n → (rows i = [bc (f i)] ∧ f i < 256) := ⟨fun i => Classical.choose (this i), fun i hi => Classical.choose_spec (this i) hi⟩
  refine ⟨(List.range n).map f, v', ?_, ?_, hv⟩
  · intro c hc
    obtain ⟨i, hi, rfl⟩ := List.mem_map.1 hc
    exact (hf' i (by simpa using hi)).2
  · have e : ((List.range n).map f).length = n := by simp
    rw [e]
    refine s.rows fun i hi => ?_
    rw [(hf' i hi).1]
    simp [rowC, hi]
theorem walk (v0 : Value) (W : World) (hg : Tryd.prog.globals.size ≤ W.heap.size) (gl : Glob (Abs.st0 W)) (w0 : Came [.u8] W v0) :
    Calls Tryd.prog 6 #[v0] W fun e w' => e = .returned (.bool true) ∧ Below W.heap.size W w' := by
  obtain ⟨l, v', hl, s, hv⟩ := came_bytes w0
  exact Abs.law_calls hg onlyLawS_good.1 (.cons hv .nil) ⟨v', l, rfl, hl, s, gl, fun _ => rfl⟩

/-! ### THE ROW -/
set_option maxRecDepth 100000 in
theorem lifted (os : Os) (started : os.Started) (H : Type) (enc : TypeId × Value → H) :
    ReturnsInHanded {} Tryd.checked os 6 .any (fun w args => (Rows.verbOnlySpec.pre enc Tryd.prog Tryd.f6 [] false w args ∧ laidMetH Tryd.prog laidL w) ∧ sizedMet enc Tryd.prog Tryd.f6 (OpenSpec.ofChange Rows.verbOnlySpec) false w args)
      (Rows.verbOnlySpec.post enc Tryd.prog Tryd.f6 false true false false) := by
  refine handed_laid (C := Tryd.checked) (X := fun w _ => laidMetH Tryd.prog laidL w) (fun _ _ _ hh h => h.of_heap hh) own started (by kernel_rfl) Tryd.func6
    (ChangeSpec.witness_shaped (enc := enc) (C := Tryd.checked) (os := os) (X := fun w _ => laidMetH Tryd.prog laidL w) false (World.doorLaid Tryd.prog 400 os) #[.slice none 0 0] 8 rfl (World.shaped_of_RefB (by kernel_rfl) (by kernel_rfl)) (by kernel_rfl) (by kernel_rfl) (by kernel_rfl) (door_met os _)) ?_
  intro W base args ds gs before hval0 hW hsh hL
  have hval : ∀ (j : Nat) t v, Tryd.f6.params[j]? = some t → args[j]? = some v → Value.okWide Tryd.prog W .any base t v := hval0
  have hW' := hW
  obtain ⟨p, q, hA0, hV, rfl, hfz, hnd⟩ := hW
  have hA : DataW.TrodAll enc Tryd.prog W 0 (fun _ => true) true Tryd.f6.params.toList args.toList ds p := hA0
  rw [Tryd.params6] at hA hval
  obtain ⟨v0, vs0, d0, ds0, p0, q0, hargs, rfl, rfl, h0, r0⟩ := trodAll_cons hA
  obtain ⟨rfl, rfl, rfl⟩ := trodAll_nil r0
  obtain rfl : args = #[v0] := by cases args; simp_all
  obtain ⟨rfl, rfl⟩ := trodVars_none hV
  obtain ⟨a0, len0, cap0, rfl⟩ := okWide_slice Tryd.underlying30 (hval 0 30 v0 rfl rfl)
  have k0 := h0
  have lt0 : ∀ x ∈ p0, x.block < W.heap.size := by obtain ⟨m, hm⟩ := k0; exact DataW.trod_lt m _ _ _ hm
  have w0 : Came [.u8] W (.slice a0 len0 cap0) := by
    obtain ⟨fuel, hf⟩ := h0
    exact Abs.row_in Tryd.underlying30 (by kernel_rfl) (by decide) hf
  clear hA0 hval0
  refine (walk _ W (Abs.globs_le hsh (by kernel_rfl)) (glob_of_laid hL) w0).mono fun e W' ⟨he, bel⟩ => ?_
  subst he
  exact ⟨_, rfl, _, _, _, [], _, [], hW', trodAll_mk1 (shut_bool Tryd.underlying4 _), (trodAll_cons_mk (Below.trod laidOut (by kernel_rfl) (of_decide_eq_true (by kernel_rfl)) k0 bel lt0) trodAll_mk0), rfl, bel.frame _, fun h => by cases h⟩

theorem over : Rows.verbOnlyRow.holds Tryd.pinned (OpenSpec.ofChange Rows.verbOnlySpec) :=
  OpenClaim.holds_of_wide 6 Tryd.f6 rfl rfl rfl rfl rfl rfl rfl ⟨rfl, rfl, rfl, rfl, rfl⟩ rfl rfl rfl rfl rfl (by kernel_rfl) Tryd.func6 (by kernel_rfl)
    (of_decide_eq_true (by kernel_rfl)) (by unfold Func.isWrapper; first | (rw [if_pos (by decide +kernel)]; kernel_rfl) | (rw [if_neg (by decide +kernel)]; exact ⟨rfl, rfl⟩))
    (fun os started H enc _ => lifted os started H enc)
/-! ### THE CARD -/
/-- THE STATEMENT -/
theorem proved : Rows.VerbOnlyCardSaid :=
  Claim7.holds_tied_plain_at .later [] Rows.verbOnlyCard.laidKinds true Rows.verbOnlyCard.stood.harness false
    over (fun _ h => by cases h) (by kernel_rfl) (fun _ h => by cases h) verbOnly_row_tie rfl ⟨rfl, rfl⟩ (by kernel_rfl) rfl
    (fun f fn hf hfn => by
      obtain rfl : f = 6 := Option.some.inj ((by kernel_rfl : Tryd.prog.funcNamed _ = some 6).symm.trans hf) |>.symm
      obtain rfl : fn = Tryd.f6 := (Option.some.inj (Tryd.func6.symm.trans hfn)).symm
      exact ⟨by kernel_rfl, fun j t ht => by
        rw [Tryd.params6] at ht
        have hm : t ∈ [30] := by simpa using Array.mem_of_getElem? ht
        have hall : ([30].all fun u => !Tryd.prog.wantsStandIn u) = true := by kernel_rfl
        exact (show Tryd.prog.wantsStandIn t = false by simpa using List.all_eq_true.1 hall t hm)⟩)
    (by kernel_rfl)
#print axioms proved
end Go.Proofs.YtdmcmebfclikgaaDoor.verbOnly
