/- 'SessionIdle', walked. -/
import Derived.Test.YtnelcpabjpchnaaSes
set_option linter.unusedSimpArgs false
set_option linter.unusedVariables false
set_option maxHeartbeats 4000000
namespace Go.Proofs.Ytnelcpabjpchnaa
open Go.Abs Go.IntWalk
attribute [local congr] bindV_weak condK_weak guardK_weak groupK_weak allocE_weak boxE_weak storeE_weak storeM_weak tabC_weak ite_weak idG_weak appendE_weak buildSliceE_weak mapUpdateE_weak deleteE_weak makeMapE_weak copyE_weak clearE_weak callE_weak

def In64 (n : Int) : Prop := -9223372036854775808 ≤ n ∧ n ≤ 9223372036854775807
theorem i64_keeps {n : Int} (h : In64 n) : IntKind.i64.wrap n = n := by
  unfold In64 at h
  simp [IntKind.wrap, IntKind.signed, IntKind.bits, Int.bmod]
  omega
/-- A time, and some more. -/
theorem tadd_eq {a s : Int} (ha : In64 a) (hs : In64 s) : tadd a s = if s ≤ 0 then a else if a > 9223372036854775807 - s then 9223372036854775807 else a + s := by
  unfold tadd
  have ha' := ha
  have hs' := hs
  unfold In64 at ha' hs'
  obtain ⟨m, hm⟩ : ∃ m, m = (if s > 0 then s else 0) := ⟨_, rfl⟩
  rw [← hm]
  have m0 : 0 ≤ m ∧ m ≤ 9223372036854775807 ∧ (s ≤ 0 → m = 0) ∧ (¬ s ≤ 0 → m = s) := by
    rw [hm]
    split <;> omega
  obtain ⟨m0, m1, m2, m3⟩ := m0
  rw [i64_keeps (show In64 (9223372036854775807 - m) by unfold In64; omega)]
  by_cases h : s ≤ 0
  · rw [if_pos h, m2 h, if_neg (by omega), i64_keeps (by unfold In64; omega)]
    omega
  · rw [if_neg h, m3 h]
    by_cases h2 : a > 9223372036854775807 - s
    · rw [if_pos h2, if_pos h2]
    · rw [if_neg h2, if_neg h2, i64_keeps (by unfold In64; omega)]
theorem u64_bmod (x : Int) : IntKind.u64.wrap x = x % 18446744073709551616 := by
  simp [IntKind.wrap, IntKind.signed, IntKind.bits]
def dueI (idle a now : Int) : Bool := decide (now ≥ a) && (decide (idle ≤ 0) || decide (IntKind.u64.wrap (IntKind.u64.wrap now - IntKind.u64.wrap a) ≥ IntKind.u64.wrap idle) || decide (now = 9223372036854775807))
theorem due_eq {idle a now : Int} (hi : In64 idle) (ha : In64 a) (hn : In64 now) : decide (now ≥ tadd a idle) = dueI idle a now := by
  unfold dueI
  rw [tadd_eq ha hi, u64_bmod, u64_bmod, u64_bmod, u64_bmod]
  unfold In64 at hi ha hn
  rw [Bool.eq_iff_iff]
  simp only [Bool.and_eq_true, Bool.or_eq_true, decide_eq_true_eq]
  have e : (now % 18446744073709551616 - a % 18446744073709551616) % 18446744073709551616 = (now - a) % 18446744073709551616 := by rw [← Int.sub_emod]
  rw [e]
  split
  · omega
  · split <;> omega
theorem again_eq {idle now : Int} (hi : In64 idle) (hn : In64 now) : decide (now ≥ tadd now idle) = (decide (idle ≤ 0) || decide (now = 9223372036854775807)) := by
  rw [tadd_eq hn hi]
  unfold In64 at hi hn
  rw [Bool.eq_iff_iff]
  simp only [Bool.or_eq_true, decide_eq_true_eq]
  split
  · omega
  · split <;> omega
def idleLawO : Abs.Spec := fun args h k => ∃ idle a now : Int, args = [.int .i64 idle, .int .i64 a, .int .i64 now] ∧ In64 idle ∧ In64 a ∧ In64 now ∧ ∀ h', k (.bool true) h'
def tabIl : List (FuncId × Abs.Spec) := [(7, snewO), (8, openO), (9, sidleO), (10, touchO), (11, awakeO)]
theorem tabIl_good : ∀ p ∈ tabIl, SpecGood Try.prog p := by simp [tabIl, snewO_good, openO_good, sidleO_good, touchO_good, awakeO_good]
/-- One connection, idle or not. -/
theorem one_idle (idle now a : Int) : ([⟨3, 0, a⟩] : List Lk).filter (isIdle idle now) = if decide (now ≥ tadd a idle) = true then [⟨3, 0, a⟩] else [] := by
  simp only [List.filter, isIdle]
  cases decide (now ≥ tadd a idle) <;> rfl
theorem idleLawO_good : SpecGood Try.prog (3, idleLawO) := by
  refine spec_good mixed Try.func3 (by kernel_rfl) (by kernel_rfl) (tab := tabIl) tabIl_good (keep := tiltyardlaw10_SessionIdle_keep) ?_
  rintro args h k ⟨idle, a, now, rfl, hi, ha, hn, H⟩
  refine ⟨0, ?_⟩
  show tiltyardlaw10_SessionIdle (tabC tabIl) idG 0 (.int .i64 idle) (.int .i64 a) (.int .i64 now) h _
  rw [tiltyardlaw10_SessionIdle_eq]
  refine cK (S := snewO) (by simp [tabIl]) ⟨2, idle, rfl, by omega, fun h1 v c1 s1 => ?_⟩
  have m1 := c1.1
  refine cK (S := openO) (by simp [tabIl]) ⟨_, v, _, idle, [], 3, a, rfl, fun i hi => by omega, s1, fun h2 c2 s2 => ?_⟩
  have m2 := c2.1
  have e2 : openNext [] (2 : Int).toNat 3 a = [⟨3, 0, a⟩] := by rfl
  have a2 : openAns [] (2 : Int).toNat 3 = 0 := by rfl
  rw [e2] at s2
  simp only [a2, Int.natCast_zero, Int.cast_ofNat_Int, binNil_int, binV_neq, bindV_some, condK_bool, ne_eq, not_true_eq_false, decide_false, Bool.false_eq_true, if_false, idG_eq]
  refine cK (S := sidleO) (by simp [tabIl]) ⟨_, v, _, idle, _, now, rfl, s2, fun h3 sv c3 s3 => ?_⟩
  have m3 := c3.1
  rw [one_idle, due_eq hi ha hn] at s3
  -- what is left, once it is known to be idle, or not
  have tail : ∀ h4, Chg h3 h4 [] → tabC tabIl 10 [v, .int .u32 3, .int .i64 now] h4 fun v58 h28 => tabC tabIl 9 [v, .int .i64 now] h28 fun v61 h29 => bindV (lenS v61) fun v62 => bindV (binNil .eql .other v62 (.int .i64 1)) fun v63 => bindV (binNil .eql .other v58 (.int .i64 0)) fun v65 => groupK v65 true [undef, undef, undef, undef] h29 (fun J30 => bindV (binNil .leq .other (.int .i64 idle) (.int .i64 0)) fun v69 => J30 [v63, (.int .i64 idle), v69, v69] h29) fun xs31 h32 => idG (groupK (getT xs31 3) false [undef, undef] h32 (fun J33 => bindV (binNil .eql .other (.int .i64 now) (.int .i64 9223372036854775807)) fun v72 => J33 [(.int .i64 now), v72] h32) fun xs34 h35 => idG (groupK v65 true [undef, undef] h35 (fun J36 => bindV (pickV (getT xs31 3) (.bool true) (getT xs34 1)) fun v73 => bindV (binV .eql .bool (getT xs31 0) v73) fun v74 => J36 [v73, v74] h35) fun xs37 h38 => idG (bindV (pickV v65 (getT xs37 1) (.bool false)) fun v75 => groupK v75 true [undef] h38 (fun J39 => tabC tabIl 11 [] h38 fun v77 h42 => J39 [v77] h42) fun xs40 h41 => idG (bindV (pickV v75 (getT xs40 0) (.bool false)) fun v78 => ∃ h2, St.le h2 h41 ∧ k v78 h2)))) := by
    intro h4 c4
    have m4 := c4.1
    refine cK (S := touchO) (by simp [tabIl]) ⟨_, v, _, idle, _, 3, now, rfl, fun i hi => by omega, s2.chg0 (c3.seq c4), fun h5 c5 s5 => ?_⟩
    have m5 := c5.1
    have e5 : touchNext [⟨3, 0, a⟩] (2 : Int).toNat 3 now = [⟨3, 0, now⟩] := by rfl
    have a5 : touchAns [⟨3, 0, a⟩] (2 : Int).toNat 3 = 0 := by rfl
    rw [e5] at s5
    refine cK (S := sidleO) (by simp [tabIl]) ⟨_, v, _, idle, _, now, rfl, s5, fun h6 sw c6 s6 => ?_⟩
    rw [one_idle, again_eq hi hn] at s6
    obtain ⟨d, hd⟩ : ∃ d, d = (decide (idle ≤ 0) || decide (now = 9223372036854775807)) := ⟨_, rfl⟩
    rw [← hd] at s6
    have ln : lenS sw = some (.int .i64 (if d = true then 1 else 0)) := by
      rw [s6.len]
      cases d <;> rfl
    have e1 : decide ((if d = true then (1 : Int) else 0) = 1) = d := by cases d <;> rfl
    simp only [a5, ln, Int.natCast_zero, Int.cast_ofNat_Int, bindV_some, binNil_int, binV_eql, binV_leq, e1, decide_true, groupK_eq, guardK_bool, if_true, idG_eq, getT]
    by_cases h1 : idle ≤ 0
    · have hd' : d = true := by rw [hd, decide_eq_true h1]; rfl
      subst hd'
      simp only [h1, decide_true, Bool.true_eq_false, if_false, pickV_bool, if_true, bindV_some, binV_bool_eql, beq_self_eq_true, getT, groupK_eq, guardK_bool, idG_eq]
      refine cK (S := awakeO) (by simp [tabIl]) ⟨rfl, fun h7 c7 => ?_⟩
      simp only [getT, pickV_bool, bindV_some, if_true, idG_eq]
      exact ⟨h7, St.le.refl _, H h7⟩
    · have hd' : d = decide (now = 9223372036854775807) := by rw [hd, decide_eq_false h1]; rfl
      simp only [h1, decide_false, if_true, bindV_some, binNil_int, binV_eql, ← hd', pickV_bool, Bool.false_eq_true, if_false, getT, groupK_eq, guardK_bool, idG_eq, binV_bool_eql, beq_self_eq_true]
      refine cK (S := awakeO) (by simp [tabIl]) ⟨rfl, fun h7 c7 => ?_⟩
      simp only [getT, pickV_bool, bindV_some, if_true, idG_eq]
      exact ⟨h7, St.le.refl _, H h7⟩
  obtain ⟨d, hd⟩ : ∃ d, d = dueI idle a now := ⟨_, rfl⟩
  rw [← hd] at s3
  have ln : lenS sv = some (.int .i64 (if d = true then 1 else 0)) := by
    rw [s3.len]
    cases d <;> rfl
  have e1 : decide ((if d = true then (1 : Int) else 0) = 1) = d := by cases d <;> rfl
  -- what is in it
  have rest : ∀ (hh : St) (v41 : Value), v41 = .bool d → Chg h3 hh [] → bindV (lenS sv) (fun v43 => bindV (binNil .eql .other v43 (.int .i64 1)) fun v44 => bindV (binV .neq .bool v44 v41) fun v46 => groupK v46 false [undef, undef] hh (fun J19 => J19 [v41, v41] hh) fun xs20 h21 => idG (groupK (getT xs20 1) true [undef, undef, undef, undef] h21 (fun J22 => bindV (idxS 1 sv (.int .i64 0)) fun v51 => bindV (loadV false 1 v51 h21) fun v52 => bindV (binNil .neq .other v52 (.int .u32 3)) fun v53 => J22 [sv, v51, v52, v53] h21) fun xs23 h24 => idG (groupK v46 false [undef] h24 (fun J25 => bindV (pickV (getT xs20 1) (getT xs23 3) (.bool false)) fun v54 => J25 [v54] h24) fun xs26 h27 => idG (bindV (pickV v46 (.bool true) (getT xs26 0)) fun v55 => condK v55 (∃ h2, St.le h2 h27 ∧ k (.bool false) h2) (idG (tabC tabIl 10 [v, .int .u32 3, .int .i64 now] h27 fun v58 h28 => tabC tabIl 9 [v, .int .i64 now] h28 fun v61 h29 => bindV (lenS v61) fun v62 => bindV (binNil .eql .other v62 (.int .i64 1)) fun v63 => bindV (binNil .eql .other v58 (.int .i64 0)) fun v65 => groupK v65 true [undef, undef, undef, undef] h29 (fun J30 => bindV (binNil .leq .other (.int .i64 idle) (.int .i64 0)) fun v69 => J30 [v63, (.int .i64 idle), v69, v69] h29) fun xs31 h32 => idG (groupK (getT xs31 3) false [undef, undef] h32 (fun J33 => bindV (binNil .eql .other (.int .i64 now) (.int .i64 9223372036854775807)) fun v72 => J33 [(.int .i64 now), v72] h32) fun xs34 h35 => idG (groupK v65 true [undef, undef] h35 (fun J36 => bindV (pickV (getT xs31 3) (.bool true) (getT xs34 1)) fun v73 => bindV (binV .eql .bool (getT xs31 0) v73) fun v74 => J36 [v73, v74] h35) fun xs37 h38 => idG (bindV (pickV v65 (getT xs37 1) (.bool false)) fun v75 => groupK v75 true [undef] h38 (fun J39 => tabC tabIl 11 [] h38 fun v77 h42 => J39 [v77] h42) fun xs40 h41 => idG (bindV (pickV v75 (getT xs40 0) (.bool false)) fun v78 => ∃ h2, St.le h2 h41 ∧ k v78 h2)))))))))) := by
    intro hh v41 e41 ch
    subst e41
    simp only [ln, bindV_some, binNil_int, binV_eql, e1, binV_bool_neq, beq_self_eq_true, Bool.not_true, groupK_eq, guardK_bool, if_true, idG_eq, getT]
    cases d with
    | true =>
      have s3' : OwnS (fun i => h2.next ≤ i) hh sv 1 (([⟨3, 0, a⟩] : List Lk).map idv) ([⟨3, 0, a⟩] : List Lk).length := s3.chg ch (by simp)
      obtain ⟨b, o, g1, cs, g4, g5⟩ := own_row1 s3' (Chg.refl _ _) (show 0 < 1 by omega) .i64
      have g1 : idxS 1 sv (.int .i64 0) = some (.pointer (some ⟨b, o, none⟩)) := g1
      have g5 : cs[o]? = some (.int .u32 3) := g5
      simp only [if_true, g1, bindV_some, loadV_ptr, g4, loadM_cells, partV_one, g5, binNil_int, binV_neq, ne_eq, not_true_eq_false, decide_false, getT, pickV_bool, groupK_eq, guardK_bool, idG_eq, Bool.false_eq_true, if_false, condK_bool]
      exact tail hh ch
    | false =>
      simp only [Bool.false_eq_true, if_false, getT, pickV_bool, groupK_eq, guardK_bool, idG_eq, bindV_some, condK_bool, if_true]
      exact tail hh ch
  unfold dueI at hd
  simp only [binV_geq, bindV_some, groupK_eq, guardK_bool, decide_eq_true_eq]
  by_cases b1 : now ≥ a
  · rw [decide_eq_true b1, Bool.true_and] at hd
    rw [if_pos b1]
    simp only [binNil_int, binV_leq, bindV_some, idG_eq, getT, guardK_bool]
    by_cases b2 : idle ≤ 0
    · have hd' : d = true := by rw [hd, decide_eq_true b2]; rfl
      simp only [b2, b1, decide_true, Bool.true_eq_false, if_false, if_true, idG_eq, groupK_eq, guardK_bool, pickV_bool, bindV_some, getT]
      exact rest _ _ (by rw [hd']) (Chg.refl _ _)
    · rw [decide_eq_false b2, Bool.false_or] at hd
      simp only [b2, b1, decide_false, decide_true, if_true, wrapV_int, bindV_some, binV_sub, binV_geq, idG_eq, groupK_eq, guardK_bool, pickV_bool, Bool.false_eq_true, if_false, getT]
      by_cases b3 : IntKind.u64.wrap (IntKind.u64.wrap now - IntKind.u64.wrap a) ≥ IntKind.u64.wrap idle
      · have hd' : d = true := by rw [hd, decide_eq_true b3]; rfl
        simp only [b3, b1, decide_true, Bool.true_eq_false, if_false, if_true, idG_eq, groupK_eq, guardK_bool, pickV_bool, bindV_some, getT]
        exact rest _ _ (by rw [hd']) (Chg.refl _ _)
      · rw [decide_eq_false b3, Bool.false_or] at hd
        simp only [b3, b1, decide_false, decide_true, if_true, binNil_int, binV_eql, bindV_some, idG_eq, groupK_eq, guardK_bool, pickV_bool, Bool.false_eq_true, if_false, getT]
        exact rest _ _ (by rw [hd]) (Chg.refl _ _)
  · rw [decide_eq_false b1, Bool.false_and] at hd
    rw [if_neg b1]
    simp only [b1, decide_false, idG_eq, getT, groupK_eq, guardK_bool, Bool.false_eq_true, if_false, pickV_bool, bindV_some]
    exact rest _ _ (by rw [hd]) (Chg.refl _ _)
end Go.Proofs.Ytnelcpabjpchnaa
