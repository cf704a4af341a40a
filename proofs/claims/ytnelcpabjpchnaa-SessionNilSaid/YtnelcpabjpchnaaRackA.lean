/- The library's Insert and Delete, over rows. -/
import Derived.Test.YtnelcpabjpchnaaSrtG
import Derived.Test.YtnelcpabjpchnaaAbsExt
import Derived.Test.YtnelcpabjpchnaaGenR
set_option linter.unusedSimpArgs false
set_option linter.unusedVariables false
set_option maxHeartbeats 4000000
namespace Go.Proofs.Ytnelcpabjpchnaa
open Go.Abs Go.IntWalk
attribute [local congr] bindV_weak condK_weak guardK_weak groupK_weak allocE_weak boxE_weak storeE_weak storeM_weak tabC_weak ite_weak idG_weak appendE_weak buildSliceE_weak mapUpdateE_weak deleteE_weak makeMapE_weak copyE_weak clearE_weak callE_weak

theorem cut_lo {z q off n c l : Nat} (h : l ≤ n) : cutS z (.slice (some ⟨q, off, some z⟩) n c) (some (.int .i64 (l : Int))) none = some (.slice (some ⟨q, off + l * z, some z⟩) (n - l) (c - l)) := by
  simp [cutS, loHi, h]
theorem cut_hi {z q off n c e : Nat} (h : e ≤ capOf n c) : cutS z (.slice (some ⟨q, off, some z⟩) n c) none (some (.int .i64 (e : Int))) = some (.slice (some ⟨q, off, some z⟩) e c) := by
  simp [cutS, loHi]; omega
theorem cut_both {z q off n c l e : Nat} (h1 : l ≤ e) (h : e ≤ capOf n c) : cutS z (.slice (some ⟨q, off, some z⟩) n c) (some (.int .i64 (l : Int))) (some (.int .i64 (e : Int))) = some (.slice (some ⟨q, off + l * z, some z⟩) (e - l) (c - l)) := by
  have a1 : (e : Int) ≤ capOf n c := by omega
  have a2 : (l : Int) ≤ e := by omega
  simp [cutS, loHi, a1, a2, h, h1]
theorem cap_known (n c : Nat) : capOf n (c + 1) = c := rfl
theorem new_slice {z q off n c : Nat} {h : St} {cs : List Value} {own : Bool} (ho : h.objs q = some (.cells cs own)) (hl : off + n * z ≤ cs.length) : newCells z (.slice (some ⟨q, off, some z⟩) n c) h = some ((cs.drop off).take (n * z), n) := by
  unfold newCells
  cases n with
  | zero => simp
  | succ n =>
    simp only [ho]
    unfold takeN
    rw [if_pos hl]
    rfl
theorem copyE_in {z q off n c : Nat} {a : Option Addr} {m c1 cnt : Nat} {h : St} {k : Cont} {cs new : List Value} (hm : min m n = cnt) (ho : h.objs q = some (.cells cs true)) (hx : newCells z (.slice a cnt c1) h = some (new, cnt)) (h1 : allOne new = true) (hoff : off ≤ cs.length)
    (cs' : List Value) (hc : cs.take off ++ new ++ cs.drop (off + cnt * z) = cs') (K : ∀ h', Chg h h' [q] → h'.next = h.next → h'.objs q = some (.cells cs' true) → k (.int .i64 (cnt : Nat)) h') : copyE z (.slice (some ⟨q, off, some z⟩) n c) (.slice a m c1) h k := by
  unfold copyE
  simp only [ho, hm, hx]
  refine ⟨⟨by rw [allOne_eq]; exact h1, trivial, hoff⟩, ?_⟩
  rw [hc]
  exact K _ (Chg.set _ (by simp)) rfl (set_at _ _ _)
theorem allOne_take {l : List Value} (h : allOne l = true) (n : Nat) : allOne (l.take n) = true := by
  rw [← allOne_eq] at h ⊢
  rw [List.all_eq_true] at h ⊢
  exact fun v hv => h v (List.mem_of_mem_take hv)
theorem allOne_drop {l : List Value} (h : allOne l = true) (n : Nat) : allOne (l.drop n) = true := by
  rw [← allOne_eq] at h ⊢
  rw [List.all_eq_true] at h ⊢
  exact fun v hv => h v (List.mem_of_mem_drop hv)
/-! ### Insert -/
/-- A row of one's own block, put in at a place. -/
def rinsO : Abs.Spec := fun args h k => ∃ (q n i p : Nat) (cs row : List Value), args = [.slice (some ⟨q, 0, some 3⟩) n 0, .int .i64 i, .slice (some ⟨p, 0, some 3⟩) 1 0] ∧ n ≤ 100000 ∧ i ≤ n ∧ q < h.next ∧ h.objs q = some (.cells cs true) ∧ cs.length = n * 3 ∧ allOne cs = true ∧ p < h.next ∧ p ≠ q ∧ h.objs p = some (.cells row true) ∧ row.length = 3 ∧ allOne row = true ∧
  ∀ h' q', Chg h h' [q] → (q' = q ∨ h.next ≤ q') → q' < h'.next → h'.objs q' = some (.cells (cs.take (i * 3) ++ row ++ cs.drop (i * 3)) true) → k (.slice (some ⟨q', 0, some 3⟩) (n + 1) 0) h'
def tabRI : List (FuncId × Abs.Spec) := [(58, overO)]
theorem tabRI_good : ∀ p ∈ tabRI, SpecGood Try.prog p := by
  simp only [tabRI, List.mem_singleton, forall_eq]
  exact overO_good (tR := 4) Try.func58 (by kernel_rfl) (by kernel_rfl) (by kernel_rfl) (by kernel_rfl) Try.underlying76 (by kernel_rfl)
theorem rinsO_good : SpecGood Try.prog (48, rinsO) := by
  refine spec_good_cap mixed Try.func48 (by kernel_rfl) (by kernel_rfl) (tab := tabRI) tabRI_good (keep := rack_Insert_keep) ?_ ?_
  rotate_left
  · rintro args h k ⟨q, n, i, p, cs, row, rfl, hn, _⟩ q' off z n' rest e
    cases e
    have : (100000 : Nat) ≤ maxLen := by decide
    omega
  rintro args h k ⟨q, n, i, p, cs, row, rfl, hn, hi, qn, oq, lq, aq, pn, pq, op, lp, ap, H⟩
  refine ⟨q, 0, 3, n, _, rfl, fun c hc hcm => ⟨0, ?_⟩⟩
  have hcm : c ≤ 9223372036854775807 := Nat.le_trans hcm (by decide)
  show rack_Insert (tabC tabRI) idG 0 (.slice (some ⟨q, 0, some 3⟩) n (c + 1)) (.int .i64 (i : Int)) (.slice (some ⟨p, 0, some 3⟩) 1 0) h _
  rw [rack_Insert_eq]
  have fin : ∀ h' q' cc, Chg h h' [q] → (q' = q ∨ h.next ≤ q') → q' < h'.next → h'.objs q' = some (.cells (cs.take (i * 3) ++ row ++ cs.drop (i * 3)) true) → ∃ h2, St.le h2 h' ∧ k (forget (.slice (some ⟨q', 0, some 3⟩) (n + 1) cc)) h2 := fun h' q' cc c1 c2 c3 c4 => ⟨h', St.le.refl _, H h' q' c1 c2 c3 c4⟩
  have z1 : ¬ ((1 : Nat) : Int) = 0 := by omega
  have nr : newCells 3 (.slice (some ⟨p, 0, some 3⟩) 1 0) h = some (row, 1) := by
    rw [new_slice op (by omega)]
    rw [List.drop_zero, Nat.one_mul, ← lp, List.take_length]
  simp only [cut_lo hi, bindV_some, lenS_slice, binNil_int, binV_eql, z1, decide_false, condK_bool, Bool.false_eq_true, if_false, idG_eq]
  by_cases ein : i = n
  · subst ein
    have e0 : cs.take (i * 3) = cs := by rw [← lq]; exact List.take_length
    have e1 : cs.drop (i * 3) = [] := by rw [← lq]; exact List.drop_length
    simp only [binV_eql, decide_true, bindV_some, condK_bool, if_true]
    unfold appendE
    rw [nr]
    simp only [oq]
    cases hb : Nat.ble (i + 1) c with
    | true =>
      refine ⟨⟨by rw [allOne_eq]; exact ap, trivial, by omega⟩, ?_⟩
      refine fin _ q _ (Chg.set _ (by simp)) (.inl rfl) qn ?_
      rw [Nat.zero_add, e0, e1, List.drop_eq_nil_of_le (by omega)]
      exact set_at _ _ _
    | false =>
      refine ⟨⟨by rw [allOne_eq]; exact ap, trivial, by omega, by omega, by omega⟩, ?_⟩
      refine fin _ h.next _ (Chg.push _ _) (.inr (Nat.le_refl _)) (by simp) ?_
      rw [List.drop_zero, e0, e1, List.append_nil]
      exact push_at _ _
  · have hlt : i < n := by omega
    have ein' : ¬ (i : Int) = (n : Int) := by omega
    have w1 : IntKind.i64.wrap ((n : Int) + ((1 : Nat) : Int)) = ((n + 1 : Nat) : Int) := by rw [i64_in _ (by omega)]; omega
    have w2 : IntKind.i64.wrap ((i : Int) + ((1 : Nat) : Int)) = ((i + 1 : Nat) : Int) := by rw [i64_in _ (by omega)]; omega
    have capc : capS (.slice (some ⟨q, 0, some 3⟩) n (c + 1)) = some (.int .i64 (c : Int)) := rfl
    have mi : (i + 1) * 3 = i * 3 + 3 := Nat.succ_mul _ _
    have le1 : (i + 1) * 3 ≤ n * 3 := Nat.mul_le_mul_right _ hlt
    have nd : (n - i) * 3 = n * 3 - i * 3 := Nat.sub_mul _ _ _
    simp only [binV_eql, ein', decide_false, bindV_some, condK_bool, Bool.false_eq_true, if_false, idG_eq, binV_add, w1, capc, binV_gtr]
    have tl : (cs.take (i * 3)).length = i * 3 := by rw [List.length_take]; omega
    by_cases room : ((n + 1 : Nat) : Int) > (c : Int)
    · have cn : c = n := by omega
      subst cn
      have w3 : IntKind.i64.wrap (((c + 1 : Nat) : Int) - (i : Int)) = ((c + 1 - i : Nat) : Int) := by rw [i64_in _ (by omega)]; omega
      simp only [room, decide_true, if_true, cut_hi (show i ≤ capOf c (c + 1) from hi), bindV_some, binV_add, w1, binV_sub, w3]
      unfold appendZ
      simp only [oq]
      refine ⟨⟨by omega, by omega, trivial, by omega, by omega, by omega⟩, ?_⟩
      have e4 : i + ((c + 1 - i : Nat) : Int).toNat = c + 1 := by omega
      rw [e4]
      obtain ⟨h1, hh1⟩ : ∃ z, z = h.push (.cells ((cs.drop 0).take (i * 3)) true) := ⟨_, rfl⟩
      rw [← hh1]
      have n1 : h1.next = h.next + 1 := by rw [hh1]; rfl
      have c1 : Chg h h1 [] := by rw [hh1]; exact Chg.push _ _
      have o1 : h1.objs h.next = some (.cells (cs.take (i * 3)) true) := by rw [hh1, List.drop_zero]; exact push_at _ _
      have op1 := c1.at0 pn op
      have oq1 := c1.at0 qn oq
      have nr1 : newCells 3 (.slice (some ⟨p, 0, some 3⟩) 1 0) h1 = some (row, 1) := by
        rw [new_slice op1 (by omega)]
        rw [List.drop_zero, Nat.one_mul, ← lp, List.take_length]
      simp only [cut_lo (show i ≤ c + 1 by omega), bindV_some, Nat.zero_add, Nat.zero_sub]
      refine copyE_in (cnt := 1) (by omega) o1 nr1 ap (by omega) (cs.take (i * 3) ++ row) ?_ fun h2 c2 n2 o2 => ?_
      · rw [List.drop_eq_nil_of_le (by omega), List.append_nil]
        congr 1
        exact List.take_of_length_le (by omega)
      simp only [binV_add, w2, bindV_some, cut_lo (show i + 1 ≤ c + 1 by omega), cut_lo hi, Nat.zero_add, Nat.zero_sub]
      have oq2 := c2.at1 (by omega) (by omega) oq1
      have nd2 : newCells 3 (.slice (some ⟨q, i * 3, some 3⟩) (c - i) (c + 1 - i)) h2 = some (cs.drop (i * 3), c - i) := by
        rw [new_slice oq2 (by omega)]
        rw [List.take_of_length_le (by rw [List.length_drop]; omega)]
      refine copyE_in (cnt := c - i) (by omega) o2 nd2 (allOne_drop aq _) (by rw [List.length_append, tl, lp]; omega) (cs.take (i * 3) ++ row ++ cs.drop (i * 3)) ?_ fun h3 c3 n3 o3 => ?_
      · have dn : List.drop ((i + 1) * 3 + (c - i) * 3) (cs.take (i * 3) ++ row) = [] := List.drop_eq_nil_of_le (by rw [List.length_append, tl, lp]; omega)
        rw [dn, List.append_nil]
        congr 1
        exact List.take_of_length_le (by rw [List.length_append, tl, lp]; omega)
      refine ⟨trivial, ?_⟩
      exact fin h3 h.next _ (((c1.new c2 (Nat.le_refl _)).new c3 (Nat.le_refl _)).mono (by simp)) (.inr (Nat.le_refl _)) (by omega) o3
    · have cn : n + 1 ≤ c := by omega
      simp only [room, decide_false, Bool.false_eq_true, if_false, idG_eq, binV_add, w1, bindV_some, cut_hi (show n + 1 ≤ capOf n (c + 1) from cn), w2, cut_lo (show i + 1 ≤ n + 1 by omega)]
      refine .inl ⟨rfl, p, 0, 3, 1, 0, q, _, 3, _, _, row, cs, rfl, by omega, by omega, pq, op, oq, by omega, ?_⟩
      simp only [unV_not, Bool.not_false, bindV_some, condK_bool, if_true, binV_add, w2, cut_lo (show i + 1 ≤ n + 1 by omega), cut_lo (show i ≤ n + 1 by omega), Nat.zero_add]
      have nd2 : newCells 3 (.slice (some ⟨q, i * 3, some 3⟩) (n - i) (c + 1 - i)) h = some (cs.drop (i * 3), n - i) := by
        rw [new_slice oq (by omega)]
        rw [List.take_of_length_le (by rw [List.length_drop]; omega)]
      have tl1 : (cs.take ((i + 1) * 3)).length = (i + 1) * 3 := by rw [List.length_take]; omega
      refine copyE_in (cnt := n - i) (by omega) oq nd2 (allOne_drop aq _) (by omega) (cs.take ((i + 1) * 3) ++ cs.drop (i * 3)) ?_ fun h2 c2 n2 o2 => ?_
      · have dn : List.drop ((i + 1) * 3 + (n - i) * 3) cs = [] := List.drop_eq_nil_of_le (by omega)
        rw [dn, List.append_nil]
      refine ⟨trivial, ?_⟩
      simp only [cut_lo (show i ≤ n + 1 by omega), bindV_some, Nat.zero_add]
      have op2 := c2.at1 pn pq op
      have nr2 : newCells 3 (.slice (some ⟨p, 0, some 3⟩) 1 0) h2 = some (row, 1) := by
        rw [new_slice op2 (by omega)]
        rw [List.drop_zero, Nat.one_mul, ← lp, List.take_length]
      refine copyE_in (cnt := 1) (by omega) o2 nr2 ap (by rw [List.length_append, tl1]; omega) (cs.take (i * 3) ++ row ++ cs.drop (i * 3)) ?_ fun h3 c3 n3 o3 => ?_
      · rw [List.take_append_of_le_length (by omega), List.take_take, Nat.min_eq_left (by omega)]
        congr 1
        have : i * 3 + 1 * 3 = (cs.take ((i + 1) * 3)).length := by omega
        rw [this, List.drop_append, List.drop_length, Nat.sub_self, List.drop_zero, List.nil_append]
      exact fin h3 q _ (c2.of_chg c3 (by simp)) (.inl rfl) (by omega) o3
/-! ### Delete -/
def rdelO : Abs.Spec := fun args h k => ∃ (q n i : Nat) (cs : List Value), args = [.slice (some ⟨q, 0, some 3⟩) n 0, .int .i64 i, .int .i64 ((i + 1 : Nat) : Int)] ∧ n ≤ 100000 ∧ i < n ∧ q < h.next ∧ h.objs q = some (.cells cs true) ∧ cs.length = n * 3 ∧ allOne cs = true ∧
  ∀ h', Chg h h' [q] → h'.objs q = some (.cells (cs.take (i * 3) ++ cs.drop ((i + 1) * 3)) true) → k (.slice (some ⟨q, 0, some 3⟩) (n - 1) 0) h'
theorem rdelO_good : SpecGood Try.prog (49, rdelO) := by
  refine spec_good_cap mixed Try.func49 (by kernel_rfl) (by kernel_rfl) (tab := []) (by simp) (keep := rack_Delete_keep) ?_ ?_
  rotate_left
  · rintro args h k ⟨q, n, i, cs, rfl, hn, _⟩ q' off z n' rest e
    cases e
    have : (100000 : Nat) ≤ maxLen := by decide
    omega
  rintro args h k ⟨q, n, i, cs, rfl, hn, hi, qn, oq, lq, aq, H⟩
  refine ⟨q, 0, 3, n, _, rfl, fun c hc hcm => ⟨0, ?_⟩⟩
  have hcm : c ≤ 9223372036854775807 := Nat.le_trans hcm (by decide)
  show rack_Delete (tabC []) idG 0 (.slice (some ⟨q, 0, some 3⟩) n (c + 1)) (.int .i64 (i : Int)) (.int .i64 ((i + 1 : Nat) : Int)) h _
  rw [rack_Delete_eq]
  have c3 : ∃ v, cutS3 3 (.slice (some ⟨q, 0, some 3⟩) n (c + 1)) (some (.int .i64 (i : Int))) (some (.int .i64 ((i + 1 : Nat) : Int))) (some (.int .i64 (n : Int))) = some v := by
    have a0 : (n : Int) ≤ c := by omega
    have a1 : ((i : Int) + 1) ≤ n := by omega
    have a2 : (0 : Int) ≤ (i : Int) + 1 := by omega
    have a3 : (i : Int) ≤ (i : Int) + 1 := by omega
    exact ⟨_, by simp [cutS3, loHi3, cap_known, a0, a1, a2, a3]; rfl⟩
  obtain ⟨v3, c3⟩ := c3
  have ne : ¬ (i : Int) = ((i + 1 : Nat) : Int) := by omega
  simp only [lenS_slice, bindV_some, c3, binV_eql, ne, decide_false, condK_bool, Bool.false_eq_true, if_false, idG_eq, cut_hi (show i ≤ capOf n (c + 1) by rw [cap_known]; omega), cut_lo (show i + 1 ≤ n by omega), Nat.zero_add]
  have mi : (i + 1) * 3 = i * 3 + 3 := Nat.succ_mul _ _
  have le1 : (i + 1) * 3 ≤ n * 3 := Nat.mul_le_mul_right _ hi
  have nd : (n - (i + 1)) * 3 = n * 3 - (i + 1) * 3 := Nat.sub_mul _ _ _
  have nw : newCells 3 (.slice (some ⟨q, (i + 1) * 3, some 3⟩) (n - (i + 1)) (c + 1 - (i + 1))) h = some (cs.drop ((i + 1) * 3), n - (i + 1)) := by
    rw [new_slice oq (by omega)]
    rw [List.take_of_length_le (by rw [List.length_drop]; omega)]
  have hb : Nat.ble (i + (n - (i + 1))) c = true := Nat.ble_eq_true_of_le (by omega)
  unfold appendE
  rw [nw]
  simp only [oq, hb]
  refine ⟨⟨by rw [allOne_eq]; exact allOne_drop aq _, trivial, by omega⟩, ?_⟩
  obtain ⟨h1, hh1⟩ : ∃ z, z = h.set q (.cells (cs.take (0 + i * 3) ++ cs.drop ((i + 1) * 3) ++ cs.drop (0 + i * 3 + (n - (i + 1)) * 3)) true) := ⟨_, rfl⟩
  rw [← hh1]
  have c1 : Chg h h1 [q] := by rw [hh1]; exact Chg.set _ (by simp)
  have n1 : h1.next = h.next := by rw [hh1]; rfl
  have en : i + (n - (i + 1)) = n - 1 := by omega
  have nm : (n - 1) * 3 = n * 3 - 3 := by rw [Nat.sub_mul, Nat.one_mul]
  obtain ⟨cs1, hc1⟩ : ∃ z, z = cs.take (i * 3) ++ cs.drop ((i + 1) * 3) := ⟨_, rfl⟩
  have l1 : cs1.length = (n - 1) * 3 := by rw [hc1, List.length_append, List.length_take, List.length_drop]; omega
  have o1 : h1.objs q = some (.cells (cs1 ++ cs.drop (0 + i * 3 + (n - (i + 1)) * 3)) true) := by rw [hh1, hc1, Nat.zero_add]; exact set_at _ _ _
  rw [en]
  simp only [true_and, lenS_slice, bindV_some, cut_both (show n - 1 ≤ n by omega) (show n ≤ capOf (n - 1) (c + 1) by rw [cap_known]; omega), Nat.zero_add]
  unfold clearE
  simp only [o1]
  refine ⟨⟨rfl, trivial, by rw [List.length_append]; omega⟩, ?_⟩
  -- what is behind is forgotten
  obtain ⟨h2, hh2⟩ : ∃ z, z = h1.set q (.cells cs1 true) := ⟨_, rfl⟩
  refine ⟨h2, ⟨by rw [hh2]; rfl, fun j o ho => ?_⟩, ?_⟩
  · by_cases ej : j = q
    · subst ej
      rw [hh2, set_at] at ho
      cases ho
      have key : ∀ R0 R1 R2 : List Value, List.take ((n - 1) * 3) (cs1 ++ R0) ++ R1 ++ R2 = cs1 ++ (R1 ++ R2) := fun R0 R1 R2 => by
        rw [List.take_append_of_le_length (by omega), List.take_of_length_le (by omega), List.append_assoc]
      exact ⟨_, set_at _ _ _, .inr ⟨cs1, _, true, rfl, congrArg (fun x => AObj.cells x true) (key _ _ _)⟩⟩
    · rw [hh2, set_ne ej] at ho
      exact ⟨o, by rw [set_ne ej]; exact ho, .inl rfl⟩
  · refine H h2 ?_ (by rw [hh2, hc1]; exact set_at _ _ _)
    rw [hh2]
    exact c1.of_set (.inl (by simp))
end Go.Proofs.Ytnelcpabjpchnaa
