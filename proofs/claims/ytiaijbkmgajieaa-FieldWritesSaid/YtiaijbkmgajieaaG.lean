/- 'FieldTakes', walked. -/
import Derived.Test.YtiaijbkmgajieaaF
set_option linter.unusedSimpArgs false
set_option linter.unusedVariables false
set_option maxHeartbeats 4000000
namespace Go.Proofs.Ytiaijbkmgajieaa
open Go.Abs Go.IntWalk

theorem rem_nat (s : Shp) (k : IntKind) (a b : Nat) (h : b ≠ 0) : binV .rem s (.int k a) (.int k b) = some (.int k ((a % b : Nat) : Int)) := by
  simp only [binV, isShift, intV, if_true]
  rw [if_neg (by omega), Int.tmod_eq_emod_of_nonneg (by omega)]
  norm_cast
theorem shl_one (s : Shp) (k : Nat) (h : k ≤ 7) : binV .shl s (.int .u64 1) (.int .u64 ((8 * k : Nat) : Int)) = some (.int .u64 ((256 ^ k : Nat) : Int)) := by
  have h1 : ¬ (((8 * k : Nat) : Int) < 0) := by omega
  have h2 : min (8 * k) 64 = 8 * k := by omega
  have h3 : (1 : Int) * 2 ^ (8 * k) = ((256 ^ k : Nat) : Int) := by rw [Int.one_mul, Int.pow_mul]; norm_cast
  simp only [binV, isShift, shiftV, h1, if_false, Int.toNat_natCast, IntKind.bits, h2, h3]
  have := pow256_le h
  rw [u64_wrap _ (by omega)]
theorem shr32 (s : Shp) (n : Nat) : binV .shr s (.int .u64 n) (.int .u64 32) = some (.int .u64 ((n / 4294967296 : Nat) : Int)) := by
  simp only [binV, isShift, shiftV]
  rw [if_neg (by decide)]
  have e2 : min (Int.toNat 32) IntKind.u64.bits = 32 := by decide
  rw [e2, Int.fdiv_eq_ediv_of_nonneg _ (by decide)]
  norm_cast
theorem u32_wrap (x : Nat) : IntKind.u32.wrap (x : Int) = ((x % 4294967296 : Nat) : Int) := by rw [IntKind.wrap_u32]; omega
theorem halves (n : Nat) (hn : n < 18446744073709551616) : putB (n / 4294967296 % 4294967296) 4 ++ putB (n % 4294967296) 4 = putB n 8 := by
  have e := putB_add n 4 4
  have p : 256 ^ 4 = 4294967296 := by decide
  rw [p] at e
  have e1 := putB_mod (n / 4294967296) 4 4 (by omega)
  have e2 := putB_mod n 4 4 (by omega)
  rw [p] at e1 e2
  rw [e1, e2]
  exact e.symm
def tabT : List (FuncId × Abs.Spec) := [(18, putS), (19, takeS), (13, awakeS)]
def takesS : Abs.Spec := fun args h k => ∃ (B : Nat → Prop) (v : Value) (l : List Nat) (n a : Nat), args = [v, .int .u64 n, .int .u8 a] ∧ n < 18446744073709551616 ∧ a < 256 ∧ (∀ c ∈ l, c < 256) ∧ SliceAt B h v l.length 1 (rowC l) ∧ ∀ h', k (.bool true) h'
theorem takes_j0 {B : Nat → Prop} {nn n k : Nat} {v x2 x6 : Value} {l : List Nat} {h : St} {K : Cont} (hn : n < 18446744073709551616) (h1 : 1 ≤ k) (h8 : k ≤ 8) (hl : l.length ≤ 300) (hx : ∀ c ∈ l, c < 256) (s : SliceAt B h v l.length 1 (rowC l)) (HK : ∀ h', K (.bool true) h') :
    tiltyardlaw01_FieldTakes_j0 (tabC tabT) idG nn v (.int .u64 n) x2 x6 (.int .i64 k) (.int .u64 ((n % 256 ^ k : Nat) : Int)) h K := by
  rw [tiltyardlaw01_FieldTakes_j0_eq]
  have sn : ∀ h : St, SliceAt (fun _ => True) h (.slice none 0 0) ([] : List Nat).length 1 (rowC []) := fun h => .inl ⟨rfl, rfl⟩
  refine .inl ⟨rfl, fun _ => True, _, [], n, k, rfl, h8, by simp, sn h, fun h1' v1 c1 o1 => ?_⟩
  have s1 := s.chg c1 (by simp)
  simp only [List.nil_append] at o1
  refine append_own' (B := (h.next ≤ ·)) c1.1 o1 (newCells_bytes s1) (by simp) (one_bc _) (by simp [putB_length]; omega) (by simp [putB_length]; omega) fun h2 v2 c2 o2 => ?_
  have c2' : Chg h h2 [] := ((c1.toP (D := (h.next ≤ ·)) (by simp)).step c2).list (by intro i hi hh; omega)
  rw [← List.map_append] at o2
  have o2' : OwnS (h.next ≤ ·) h2 v2 1 ((putB n k ++ l).map bc) (putB n k ++ l).length := by simpa using o2
  have lt2 : ∀ c ∈ putB n k ++ l, c < 256 := by
    intro c hc
    rcases List.mem_append.1 hc with hc | hc
    · exact putB_lt n k c hc
    · exact hx c hc
  refine .inr (.inl ⟨rfl, _, v2, putB n k ++ l, k, rfl, h1, h8, by simp [putB_length], by simp [putB_length]; omega, lt2, own_bytes o2', fun h3 v3 c3 o3 => ?_⟩)
  have et : (putB n k ++ l).take k = putB n k := by rw [List.take_append_of_le_length (by simp [putB_length]), List.take_of_length_le (by simp [putB_length])]
  have ed : (putB n k ++ l).drop k = l := by rw [List.drop_append_of_le_length (by simp [putB_length]), List.drop_of_length_le (by simp [putB_length])]; rfl
  rw [et, numB_putB]
  rw [ed] at o3
  have c3' := c2'.of_chg c3 (by simp)
  have w1 : IntKind.u64.wrap ((n / 4294967296 % 4294967296 : Nat) : Int) = ((n / 4294967296 % 4294967296 : Nat) : Int) := u64_wrap _ (by omega)
  have w2 : IntKind.u64.wrap ((n % 4294967296 : Nat) : Int) = ((n % 4294967296 : Nat) : Int) := u64_wrap _ (by omega)
  simp only [extV_three0, extV_three1, extV_three2, bindV_some, binNil_int, shr32, wrapV_int, u32_wrap, w1, w2]
  refine .inl ⟨rfl, fun _ => True, _, [], n / 4294967296 % 4294967296, 4, rfl, by omega, by simp, sn h3, fun h4 v4 c4 o4 => ?_⟩
  simp only [List.nil_append] at o4
  refine .inl ⟨rfl, _, v4, _, n % 4294967296, 4, rfl, by omega, by simp [putB_length], own_bytes o4, fun h5 v5 c5 o5 => ?_⟩
  rw [halves n hn] at o5
  have c5' : Chg h h5 [] := (c3'.of_chg c4 (by simp)).of_chg c5 (by simp)
  have t3 := text_slice (((own_bytes o3).chg c4 (by simp)).chg c5 (by simp))
  have t0 := text_slice (s.chg c5' (by simp))
  have t5 := text_slice (own_bytes o5)
  simp only [binV_eql, bindV_some, groupK_eq, guardK_bool, if_true, decide_true, getT, pickV_bool, idG_eq, t3, t0, true_and, binV_text, beq_self_eq_true, t5]
  refine .inl ⟨rfl, fun _ => True, _, [], n, 8, rfl, by omega, by simp, sn h5, fun h6 v6 c6 o6 => ?_⟩
  simp only [List.nil_append] at o6
  have t6 := text_slice (own_bytes o6)
  have t5' := text_slice ((own_bytes o5).chg c6 (by simp))
  simp only [t5', true_and, t6, bindV_some, binV_text, beq_self_eq_true]
  simp [getT]
  exact .inr (.inr (.inl ⟨rfl, rfl, fun h7 c7 => HK h7⟩))
theorem takesS_ok : SpecOk Try.prog 5 takesS := by
  refine specOk_wf mixed Try.func5 (by kernel_rfl) (by kernel_rfl) (tab := tabT) (by simp [tabT, putS_ok, takeS_ok, awakeS_ok]) (by simp [tabT, putS_live, takeS_live, awakeS_live]) (keep := tiltyardlaw01_FieldTakes_keep) ?_
  rintro args h k wf ⟨B, v, l, n, a, rfl, hn, ha, hx, s, H⟩
  refine ⟨0, ?_⟩
  show tiltyardlaw01_FieldTakes (tabC tabT) idG 0 v (.int .u64 n) (.int .u8 a) h _
  rw [tiltyardlaw01_FieldTakes_eq, s.len]
  have fin : ∀ h', ∃ h2, St.le h2 h' ∧ k (.bool true) h2 := fun h' => ⟨h', St.le.refl _, H h'⟩
  by_cases hb : (300 : Int) < l.length
  · simp [hb]; exact fin h
  have r8 := rem_nat .other .u8 a 8 (by omega)
  have m8 : a % 8 < 8 := Nat.mod_lt _ (by omega)
  have w1 : IntKind.i64.wrap ((a % 8 : Nat) : Int) = ((a % 8 : Nat) : Int) := i64_in _ (by omega)
  have w2 : IntKind.i64.wrap (1 + ((a % 8 : Nat) : Int)) = ((1 + a % 8 : Nat) : Int) := by rw [i64_in _ (by omega)]; omega
  have r8' : binV .rem .other (.int .u8 (a : Int)) (.int .u8 8) = some (.int .u8 ((a % 8 : Nat) : Int)) := r8
  generalize hk : 1 + a % 8 = kk at *
  by_cases h8 : kk < 8
  · have h8' : (kk : Int) < 8 := by omega
    have w3 : IntKind.i64.wrap (8 * (kk : Int)) = ((8 * kk : Nat) : Int) := by rw [i64_in _ (by omega)]; omega
    have w4 : IntKind.u64.wrap ((8 * kk : Nat) : Int) = ((8 * kk : Nat) : Int) := u64_wrap _ (by omega)
    have hp : 256 ^ kk ≠ 0 := by simp
    simp only [bindV_some, binNil_int, binV_gtr, gt_iff_lt, hb, decide_false, condK_bool, Bool.false_eq_true, if_false, idG_eq, r8', wrapV_int, w1, binV_add, w2, binV_lss, h8', decide_true, if_true, binV_mul, w3, w4, shl_one _ _ (show kk ≤ 7 by omega), rem_nat _ _ _ _ hp]
    exact takes_j0 (K := fun v h1 => ∃ h2, St.le h2 h1 ∧ k v h2) hn (by omega) (by omega) (by omega) hx s fin
  · have h8' : ¬ (kk : Int) < 8 := by omega
    have e8 : kk = 8 := by omega
    have em : n % 256 ^ kk = n := by rw [e8]; exact Nat.mod_eq_of_lt (by omega)
    simp only [bindV_some, binNil_int, binV_gtr, gt_iff_lt, hb, decide_false, condK_bool, Bool.false_eq_true, if_false, idG_eq, r8', wrapV_int, w1, binV_add, w2, binV_lss, h8']
    have := takes_j0 (K := fun v h1 => ∃ h2, St.le h2 h1 ∧ k v h2) (nn := 0) (x2 := .int .u8 a) (x6 := .bool false) (k := kk) hn (by omega) (by omega) (by omega) hx s fin
    rw [em] at this
    exact this
end Go.Proofs.Ytiaijbkmgajieaa
