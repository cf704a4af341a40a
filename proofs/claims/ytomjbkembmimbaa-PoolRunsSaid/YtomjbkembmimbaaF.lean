/- 'PoolLate', walked. -/
import Derived.Test.YtomjbkembmimbaaE
set_option linter.unusedSimpArgs false
set_option linter.unusedVariables false
set_option maxHeartbeats 4000000
namespace Go.Proofs.Ytomjbkembmimbaa
open Go.Abs Go.IntWalk

def tabK : List (FuncId × Abs.Spec) := [(7, newS), (11, helloS), (12, holdS), (13, startS), (14, addS), (15, lateS), (16, beatS), (17, killS), (10, awakeS)]
theorem tabK_good : ∀ p ∈ tabK, SpecGood Try.prog p := by simp [tabK, newS_good, helloS_good, holdS_good, startS_good, refAddS_good, lateS_good, beatS_good, killS_good, awakeS_good]
theorem late_one (beat now : Int) (x : Inst) : (lateL beat now [x] 0).length = if isLate beat now x = true then 1 else 0 := by
  simp only [lateL]
  split <;> rfl
theorem late_j0 {v x4 x11 x12 : Value} {q nn : Nat} {beat at_ later : Int} {quiet : Bool} {x : Inst} {h : St} {K : Cont} (hb : In64 beat) (ha : 0 ≤ at_ ∧ at_ ≤ 1152921504606846976) (hl : 0 ≤ later ∧ later ≤ 1152921504606846976)
    (hx : (quiet = false ∧ x = ⟨1, 0, at_⟩) ∨ (quiet = true ∧ x = ⟨3, 3, at_⟩)) (p : PAt h v q (some ([x], beat))) (HK : ∀ h', K (.bool true) h') :
    tiltyardlaw21_PoolLate_j0 (tabC tabK) idG nn (.bool quiet) x4 (.int .i64 beat) (.int .i64 at_) (.int .i64 later) v (.int .i64 0) x11 x12 h K := by
  rw [tiltyardlaw21_PoolLate_j0_eq]
  have w1 : IntKind.i64.wrap (at_ + later) = at_ + later := i64_in _ (by omega)
  have xs : x.st ≠ 0 ∧ x.last = at_ := by rcases hx with ⟨_, rfl⟩ | ⟨_, rfl⟩ <;> simp
  have i64a : In64 at_ := ⟨by omega, by omega⟩
  have i64n : In64 (at_ + later) := ⟨by omega, by omega⟩
  simp only [binV_add, w1, bindV_some]
  refine .inr (.inr (.inr (.inr (.inl ⟨rfl, at_, beat, rfl, i64a, hb, ?_⟩))))
  have l1 : isLate beat (at_ + later) x = decide (addZ at_ beat ≤ at_ + later) := by
    unfold isLate
    rw [xs.2]
    simp [xs.1]
  simp only [binV_leq, bindV_some, binNil_int, binV_neq, ne_eq, not_true_eq_false, decide_false, groupK_eq, guardK_bool, if_true]
  refine .inr (.inr (.inr (.inr (.inr (.inl ⟨rfl, v, q, [x], beat, at_ + later, rfl, p, hb, by simp [xs.2]; exact i64a, fun h2 v2 c2 o2 => ?_⟩)))))
  have p2 := p.chg c2 (by simp)
  have e2 : lenS v2 = some (.int .i64 ((if decide (addZ at_ beat ≤ at_ + later) = true then 1 else 0 : Nat) : Int)) := by rw [o2.len, late_one, l1]
  generalize hD : decide (addZ at_ beat ≤ at_ + later) = D at *
  have cmp : (binV .eql .other (.int .i64 ((if D = true then 1 else 0 : Nat) : Int)) (.int .i64 1)) = some (.bool D) := by cases D <;> rfl
  simp only [e2, bindV_some, binNil_int, cmp, binV_bool_neq, beq_self_eq_true, Bool.not_true, getT, idG_eq, pickV_bool, Bool.false_eq_true, if_false, condK_bool]
  refine .inr (.inr (.inr (.inr (.inr (.inr (.inl ⟨rfl, v, q, _, 1, at_ + later, rfl, by omega, p2, fun h3 c3 p3 => ?_⟩))))))
  have nz : addZ (at_ + later) beat ≤ at_ + later ↔ beat ≤ 0 := by
    unfold addZ
    split
    · omega
    · split <;> omega
  have dz : beat ≤ 0 → D = true := by
    intro h0
    rw [← hD]
    unfold addZ
    rw [if_pos h0]
    simp; omega
  -- what stands there behind the beat
  have hy : ∃ y : Inst, beatZ (some ([x], beat)) 1 (at_ + later) = (0, some ([y], beat)) ∧ In64 y.last ∧ y.st ≠ 0 ∧ y.st ∈ [1, 2, 3, 4, 5] ∧ isLate beat (at_ + later) y = ((quiet && D) || decide (beat ≤ 0)) := by
    rcases hx with ⟨rfl, rfl⟩ | ⟨rfl, rfl⟩
    · refine ⟨⟨1, 0, at_ + later⟩, rfl, i64n, by simp, by simp, ?_⟩
      simp only [isLate, Bool.false_and, Bool.false_or]
      simp [nz]
    · refine ⟨⟨3, 3, at_⟩, rfl, i64a, by simp, by simp, ?_⟩
      rw [l1]
      by_cases h0 : beat ≤ 0
      · simp [h0, dz h0]
      · simp [h0]
  obtain ⟨y, y1, y2, y3, y4, y5⟩ := hy
  rw [y1] at p3 ⊢
  simp only at p3 ⊢
  refine .inr (.inr (.inr (.inr (.inr (.inl ⟨rfl, v, q, [y], beat, at_ + later, rfl, p3, hb, by simpa using y2, fun h4 v4 c4 o4 => ?_⟩)))))
  have p4 := p3.chg c4 (by simp)
  have e4 : lenS v4 = some (.int .i64 ((if isLate beat (at_ + later) y = true then 1 else 0 : Nat) : Int)) := by rw [o4.len, late_one]
  rw [y5] at e4
  have cmp2 : ∀ B : Bool, (binV .eql .other (.int .i64 ((if B = true then 1 else 0 : Nat) : Int)) (.int .i64 1)) = some (.bool B) := by intro B; cases B <;> rfl
  simp only [e4, bindV_some, binNil_int, cmp2, binV_neq, ne_eq, not_true_eq_false, decide_false, groupK_eq, guardK_bool, if_true, getT, idG_eq]
  have km : moveZ (some ([y], beat)) 1 0 [1, 2, 3, 4, 5] = (some 0, 0, some ([{ y with st := 0 }], beat)) := by
    have : getA (some ([y], beat)) 0 = y := rfl
    unfold moveZ
    simp only [atZ, List.length_singleton, Nat.le_refl, and_self, if_true, Nat.sub_self, this, y4, setA, List.set_cons_zero]
  have kb : bareZ (some ([{ y with st := 0 }], beat)) (some 0) = (y.m, some ([⟨0, 0, y.last⟩], beat)) := rfl
  have tail : ∀ g : St, g = h4 → (tabC tabK) 17 [v, .int .u32 1] g fun v94 h37 => bindV (extV 0 v94) fun v95 => bindV (extV 1 v94) fun v96 => bindV (binNil .eql .other v96 (.int .i64 0)) fun v98 => groupK v98 true [undef, undef, undef, undef] h37 (fun J38 => (tabC tabK) 15 [v, (.int .i64 9223372036854775807)] h37 fun v101 h41 => bindV (lenS v101) fun v102 => bindV (binNil .eql .other v102 (.int .i64 0)) fun v103 => J38 [v, v101, v102, v103] h41) fun xs39 h40 => idG (bindV (pickV v98 (getT xs39 3) (.bool false)) fun v104 => groupK v104 true [undef, undef, undef, undef] h40 (fun J42 => (tabC tabK) 16 [v, (.int .u32 1), .int .i64 (at_ + later)] h40 fun v108 h45 => bindV (binNil .eql .other v108 (.int .i64 24)) fun v109 => J42 [v, .int .i64 (at_ + later), v108, v109] h45) fun xs43 h44 => idG (bindV (pickV v104 (getT xs43 3) (.bool false)) fun v110 => groupK v110 true [undef] h44 (fun J46 => (tabC tabK) 10 [] h44 fun v112 h49 => J46 [v112] h49) fun xs47 h48 => idG (bindV (pickV v110 (getT xs47 0) (.bool false)) fun v113 => K v113 h48))) := by
    intro g hg
    subst hg
    refine .inr (.inr (.inr (.inr (.inr (.inr (.inr (.inl ⟨rfl, v, q, _, 1, rfl, by omega, p4, fun h5 c5 p5 => ?_⟩)))))))
    rw [km] at p5 ⊢
    simp only [kb] at p5 ⊢
    simp only [extV_two0, extV_two1, bindV_some, binNil_int, binV_eql, decide_true, groupK_eq, guardK_bool, if_true]
    refine .inr (.inr (.inr (.inr (.inr (.inl ⟨rfl, v, q, _, beat, _, rfl, p5, hb, by simpa using y2, fun h6 v6 c6 o6 => ?_⟩)))))
    have p6 := p5.chg c6 (by simp)
    have e6 : lenS v6 = some (.int .i64 0) := o6.len
    simp only [e6, bindV_some, binNil_int, binV_eql, decide_true, getT, idG_eq, pickV_bool, if_true, groupK_eq, guardK_bool]
    refine .inr (.inr (.inr (.inr (.inr (.inr (.inl ⟨rfl, v, q, _, 1, at_ + later, rfl, by omega, p6, fun h7 c7 p7 => ?_⟩))))))
    have b7 : beatZ (some ([⟨0, 0, y.last⟩], beat)) 1 (at_ + later) = (24, some ([⟨0, 0, y.last⟩], beat)) := rfl
    rw [b7]
    simp only [bindV_some, binNil_int, binV_eql, decide_true, getT, idG_eq, pickV_bool, if_true, groupK_eq, guardK_bool]
    refine .inr (.inr (.inr (.inr (.inr (.inr (.inr (.inr (.inl ⟨rfl, rfl, fun h8 c8 => ?_⟩))))))))
    simp only [bindV_some, getT, idG_eq, pickV_bool, if_true]
    exact HK h8
  have tail := tail h4 rfl
  simp only [groupK_eq, getT, idG_eq] at tail
  cases quiet <;> cases D <;> by_cases h0 : beat ≤ 0
  all_goals (try (have := dz h0; cases this; done))
  all_goals simp only [h0, getT, groupK_eq, guardK_bool, Bool.false_eq_true, if_false, if_true, idG_eq, pickV_bool, bindV_some, binNil_int, binV_leq, decide_true, decide_false, binV_bool_neq, Bool.false_and, Bool.true_and, Bool.false_or, Bool.true_or, condK_bool, beq_self_eq_true, Bool.not_true]
  all_goals exact tail
def lateLawS : Abs.Spec := fun args h k => ∃ (beat at_ later : Int) (quiet : Bool), args = [.agg #[.int .i64 beat, .int .i64 at_, .int .i64 later], .bool quiet] ∧ In64 beat ∧ In64 at_ ∧ In64 later ∧ ∀ h', k (.bool true) h'
theorem lateLawS_good : SpecGood Try.prog (4, lateLawS) := by
  refine spec_good mixed Try.func4 (by kernel_rfl) (by kernel_rfl) tabK_good (keep := tiltyardlaw21_PoolLate_keep) ?_
  rintro args h k ⟨beat, at_, later, quiet, rfl, hb, ha, hl, H⟩
  refine ⟨0, ?_⟩
  show tiltyardlaw21_PoolLate (tabC tabK) idG 0 _ _ h _
  rw [tiltyardlaw21_PoolLate_eq]
  have fin : ∀ h', ∃ h2, St.le h2 h' ∧ k (.bool true) h2 := fun h' => ⟨h', St.le.refl _, H h'⟩
  simp only [boxE_eq, cells_agg]
  refine ⟨rfl, ?_⟩
  by_cases c1 : at_ < 0
  · have d1 : ¬ 0 ≤ at_ := by omega
    simp [groupK_eq, getT, idxA, c1, d1]
    exact fin _
  have d1 : 0 ≤ at_ := by omega
  by_cases c2 : 1152921504606846976 < at_
  · have d2 : ¬ at_ ≤ 1152921504606846976 := by omega
    simp [groupK_eq, getT, idxA, c1, d1, c2, d2]
    exact fin _
  have d2 : at_ ≤ 1152921504606846976 := by omega
  by_cases c3 : later < 0
  · have d3 : ¬ 0 ≤ later := by omega
    simp [groupK_eq, getT, idxA, c1, d1, c2, d2, c3, d3]
    exact fin _
  have d3 : 0 ≤ later := by omega
  by_cases c4 : 1152921504606846976 < later
  · simp [groupK_eq, getT, idxA, c1, d1, c2, d2, c3, d3, c4]
    exact fin _
  simp [groupK_eq, getT, idxA, c1, d1, c2, d2, c3, d3, c4]
  refine .inl ⟨rfl, 1, beat, rfl, fun h1 v q e1 hq p1 hv => ?_⟩
  have n0 : newZ 1 beat = some ([.zero], beat) := rfl
  rw [n0] at p1
  refine .inr (.inl ⟨rfl, v, q, _, 1, at_, rfl, by omega, p1, fun h2 e2 p2 => ?_⟩)
  have m0 : moveZ (some ([.zero], beat)) 1 1 [0, 1, 2, 3, 4, 5] = (some 0, 0, some ([⟨1, 0, 0⟩], beat)) := rfl
  rw [m0] at p2 ⊢
  have b0 : bareZ (touchZ (some ([⟨1, 0, 0⟩], beat)) (some 0) at_) (some 0) = (0, some ([⟨1, 0, at_⟩], beat)) := rfl
  simp only [b0] at p2 ⊢
  simp only [extV_two0, extV_two1, bindV_some]
  cases quiet with
  | false =>
    simp only [Bool.false_eq_true, if_false]
    exact late_j0 hb ⟨d1, d2⟩ ⟨d3, by omega⟩ (.inl ⟨rfl, rfl⟩) p2 fin
  | true =>
    simp only [if_true]
    refine .inr (.inr (.inl ⟨rfl, v, q, _, 1, 3, rfl, by omega, p2, fun h3 e3 p3 => ?_⟩))
    have b1 : holdZ (some ([⟨1, 0, at_⟩], beat)) 1 3 = (0, some ([⟨2, 3, at_⟩], beat)) := rfl
    rw [b1] at p3 ⊢
    refine .inr (.inr (.inr (.inl ⟨rfl, v, q, _, 1, at_, rfl, by omega, p3, fun h4 e4 p4 => ?_⟩)))
    have m1 : moveZ (some ([⟨2, 3, at_⟩], beat)) 1 3 [2] = (some 0, 0, some ([⟨3, 3, at_⟩], beat)) := rfl
    rw [m1] at p4
    have b2 : touchZ (some ([⟨3, 3, at_⟩], beat)) (some 0) at_ = some ([⟨3, 3, at_⟩], beat) := rfl
    simp only [b2] at p4
    exact late_j0 hb ⟨d1, d2⟩ ⟨d3, by omega⟩ (.inr ⟨rfl, rfl⟩) p4 fin
end Go.Proofs.Ytomjbkembmimbaa
