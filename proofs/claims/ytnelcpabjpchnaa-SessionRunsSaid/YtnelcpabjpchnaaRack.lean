/- The library's Insert and Delete, over rows. -/
import Derived.Test.YtnelcpabjpchnaaSrt
import Derived.Test.YtnelcpabjpchnaaAbsExt
import Derived.Test.YtnelcpabjpchnaaGenR
set_option linter.unusedSimpArgs false
set_option linter.unusedVariables false
set_option maxHeartbeats 4000000
namespace Go.Proofs.Ytnelcpabjpchnaa
open Go.Abs Go.IntWalk
attribute [local congr] bindV_weak condK_weak guardK_weak groupK_weak allocE_weak boxE_weak storeE_weak storeM_weak tabC_weak ite_weak idG_weak appendE_weak buildSliceE_weak mapUpdateE_weak deleteE_weak makeMapE_weak copyE_weak clearE_weak callE_weak

theorem cut_lo {z q off n c l : Nat} (h : l ≤ n) : cutS z (.slice (some ⟨q, off, some z⟩) n c) (some (.int .i64 (l : Int))) none = some (.slice (some ⟨q, off + l * z, some z⟩) (n - l) (c - l)) := by
  simp [cutS, loHi, h]
theorem cut_hi {z q off n c e : Nat} (h : e ≤ capOf n c) : cutS z (.slice (some ⟨q, off, some z⟩) n c) none (some (.int .i64 (e : Int))) = some (.slice (some ⟨q, off, some z⟩) e c) := by
  simp [cutS, loHi]; omega
theorem cut_both {z q off n c l e : Nat} (h1 : l ≤ e) (h : e ≤ capOf n c) : cutS z (.slice (some ⟨q, off, some z⟩) n c) (some (.int .i64 (l : Int))) (some (.int .i64 (e : Int))) = some (.slice (some ⟨q, off + l * z, some z⟩) (e - l) (c - l)) := by
  have a1 : (e : Int) ≤ capOf n c := by omega
  have a2 : (l : Int) ≤ e := by omega
  simp [cutS, loHi, a1, a2, h, h1]
theorem cap_known (n c : Nat) : capOf n (c + 1) = c := rfl
theorem new_slice {z q off n c : Nat} {h : St} {cs : List Value} {own : Bool} (ho : h.objs q = some (.cells cs own)) (hl : off + n * z ≤ cs.length) : newCells z (.slice (some ⟨q, off, some z⟩) n c) h = some ((cs.drop off).take (n * z), n) := by
  unfold newCells
  cases n with
  | zero => simp
  | succ n =>
    simp only [ho]
    unfold takeN
    rw [if_pos hl]
    rfl
theorem copyE_in {z q off n c : Nat} {a : Option Addr} {m c1 cnt : Nat} {h : St} {k : Cont} {cs new : List Value} (hm : min m n = cnt) (ho : h.objs q = some (.cells cs true)) (hx : newCells z (.slice a cnt c1) h = some (new, cnt)) (h1 : allOne new = true) (hoff : off ≤ cs.length)
    (cs' : List Value) (hc : cs.take off ++ new ++ cs.drop (off + cnt * z) = cs') (K : ∀ h', Chg h h' [q] → h'.next = h.next → h'.objs q = some (.cells cs' true) → k (.int .i64 (cnt : Nat)) h') : copyE z (.slice (some ⟨q, off, some z⟩) n c) (.slice a m c1) h k := by
  unfold copyE
  simp only [ho, hm, hx]
  refine ⟨⟨by rw [allOne_eq]; exact h1, trivial, hoff⟩, ?_⟩
  rw [hc]
  exact K _ (Chg.set _ (by simp)) rfl (set_at _ _ _)
theorem allOne_take {l : List Value} (h : allOne l = true) (n : Nat) : allOne (l.take n) = true := by
  rw [← allOne_eq] at h ⊢
  rw [List.all_eq_true] at h ⊢
  exact fun v hv => h v (List.mem_of_mem_take hv)
theorem allOne_drop {l : List Value} (h : allOne l = true) (n : Nat) : allOne (l.drop n) = true := by
  rw [← allOne_eq] at h ⊢
  rw [List.all_eq_true] at h ⊢
  exact fun v hv => h v (List.mem_of_mem_drop hv)
/-! ### Insert -/
/-- A row of one's own block, put in at a place. -/
def rinsO : Abs.Spec := fun args h k => ∃ (q n i p : Nat) (cs row : List Value), args = [.slice (some ⟨q, 0, some 3⟩) n 0, .int .i64 i, .slice (some ⟨p, 0, some 3⟩) 1 0] ∧ n ≤ 100000 ∧ i ≤ n ∧ q < h.next ∧ h.objs q = some (.cells cs true) ∧ cs.length = n * 3 ∧ allOne cs = true ∧ p < h.next ∧ p ≠ q ∧ h.objs p = some (.cells row true) ∧ row.length = 3 ∧ allOne row = true ∧
  ∀ h' q', Chg h h' [q] → (q' = q ∨ h.next ≤ q') → q' < h'.next → h'.objs q' = some (.cells (cs.take (i * 3) ++ row ++ cs.drop (i * 3)) true) → k (.slice (some ⟨q', 0, some 3⟩) (n + 1) 0) h'
def tabRI : List (FuncId × Abs.Spec) := [(58, overO)]
theorem tabRI_good : ∀ p ∈ tabRI, SpecGood Try.prog p := by
  simp only [tabRI, List.mem_singleton, forall_eq]
  exact overO_good (tR := 4) Try.func58 (by kernel_rfl) (by kernel_rfl) (by kernel_rfl) (by kernel_rfl) Try.underlying76 (by kernel_rfl)
theorem rinsO_good : SpecGood Try.prog (48, rinsO) := by
  refine spec_good_cap mixed Try.func48 (by kernel_rfl) (by kernel_rfl) (tab := tabRI) tabRI_good (keep := rack_Insert_keep) ?_ ?_
  rotate_left
  · rintro args h k ⟨q, n, i, p, cs, row, rfl, hn, _⟩ q' off z n' rest e
    cases e
    have : (100000 : Nat) ≤ maxLen := by decide
    omega
  rintro args h k ⟨q, n, i, p, cs, row, rfl, hn, hi, qn, oq, lq, aq, pn, pq, op, lp, ap, H⟩
  refine ⟨q, 0, 3, n, _, rfl, fun c hc hcm => ⟨0, ?_⟩⟩
  have hcm : c ≤ 9223372036854775807 := Nat.le_trans hcm (by decide)
  show rack_Insert (tabC tabRI) idG 0 (.slice (some ⟨q, 0, some 3⟩) n (c + 1)) (.int .i64 (i : Int)) (.slice (some ⟨p, 0, some 3⟩) 1 0) h _
  rw [rack_Insert_eq]
  have fin : ∀ h' q' cc, Chg h h' [q] → (q' = q ∨ h.next ≤ q') → q' < h'.next → h'.objs q' = some (.cells (cs.take (i * 3) ++ row ++ cs.drop (i * 3)) true) → ∃ h2, St.le h2 h' ∧ k (forget (.slice (some ⟨q', 0, some 3⟩) (n + 1) cc)) h2 := fun h' q' cc c1 c2 c3 c4 => ⟨h', St.le.refl _, H h' q' c1 c2 c3 c4⟩
  have z1 : ¬ ((1 : Nat) : Int) = 0 := by omega
  have nr : newCells 3 (.slice (some ⟨p, 0, some 3⟩) 1 0) h = some (row, 1) := by
    rw [new_slice op (by omega)]
    rw [List.drop_zero, Nat.one_mul, ← lp, List.take_length]
  simp only [cut_lo hi, bindV_some, lenS_slice, binNil_int, binV_eql, z1, decide_false, condK_bool, Bool.false_eq_true, if_false, idG_eq]
  by_cases ein : i = n
  · subst ein
    have e0 : cs.take (i * 3) = cs := by rw [← lq]; exact List.take_length
    have e1 : cs.drop (i * 3) = [] := by rw [← lq]; exact List.drop_length
    simp only [binV_eql, decide_true, bindV_some, condK_bool, if_true]
    unfold appendE
    rw [nr]
    simp only [oq]
    cases hb : Nat.ble (i + 1) c with
    | true =>
      refine ⟨⟨by rw [allOne_eq]; exact ap, trivial, by omega⟩, ?_⟩
      refine fin _ q _ (Chg.set _ (by simp)) (.inl rfl) qn ?_
      rw [Nat.zero_add, e0, e1, List.drop_eq_nil_of_le (by omega)]
      exact set_at _ _ _
    | false =>
      refine ⟨⟨by rw [allOne_eq]; exact ap, trivial, by omega, by omega, by omega⟩, ?_⟩
      refine fin _ h.next _ (Chg.push _ _) (.inr (Nat.le_refl _)) (by simp) ?_
      rw [List.drop_zero, e0, e1, List.append_nil]
      exact push_at _ _
  · have hlt : i < n := by omega
    have ein' : ¬ (i : Int) = (n : Int) := by omega
    have w1 : IntKind.i64.wrap ((n : Int) + ((1 : Nat) : Int)) = ((n + 1 : Nat) : Int) := by rw [i64_in _ (by omega)]; omega
    have w2 : IntKind.i64.wrap ((i : Int) + ((1 : Nat) : Int)) = ((i + 1 : Nat) : Int) := by rw [i64_in _ (by omega)]; omega
    have capc : capS (.slice (some ⟨q, 0, some 3⟩) n (c + 1)) = some (.int .i64 (c : Int)) := rfl
    have mi : (i + 1) * 3 = i * 3 + 3 := Nat.succ_mul _ _
    have le1 : (i + 1) * 3 ≤ n * 3 := Nat.mul_le_mul_right _ hlt
    have nd : (n - i) * 3 = n * 3 - i * 3 := Nat.sub_mul _ _ _
    simp only [binV_eql, ein', decide_false, bindV_some, condK_bool, Bool.false_eq_true, if_false, idG_eq, binV_add, w1, capc, binV_gtr]
    have tl : (cs.take (i * 3)).length = i * 3 := by rw [List.length_take]; omega
    by_cases room : ((n + 1 : Nat) : Int) > (c : Int)
    · have cn : c = n := by omega
      subst cn
      have w3 : IntKind.i64.wrap (((c + 1 : Nat) : Int) - (i : Int)) = ((c + 1 - i : Nat) : Int) := by rw [i64_in _ (by omega)]; omega
      simp only [room, decide_true, if_true, cut_hi (show i ≤ capOf c (c + 1) from hi), bindV_some, binV_add, w1, binV_sub, w3]
      unfold appendZ
      simp only [oq]
      refine ⟨⟨by omega, by omega, trivial, by omega, by omega, by omega⟩, ?_⟩
      have e4 : i + ((c + 1 - i : Nat) : Int).toNat = c + 1 := by omega
      rw [e4]
      obtain ⟨h1, hh1⟩ : ∃ z, z = h.push (.cells ((cs.drop 0).take (i * 3)) true) := ⟨_, rfl⟩
      rw [← hh1]
      have n1 : h1.next = h.next + 1 := by rw [hh1]; rfl
      have c1 : Chg h h1 [] := by rw [hh1]; exact Chg.push _ _
      have o1 : h1.objs h.next = some (.cells (cs.take (i * 3)) true) := by rw [hh1, List.drop_zero]; exact push_at _ _
      have op1 := c1.at0 pn op
      have oq1 := c1.at0 qn oq
      have nr1 : newCells 3 (.slice (some ⟨p, 0, some 3⟩) 1 0) h1 = some (row, 1) := by
        rw [new_slice op1 (by omega)]
        rw [List.drop_zero, Nat.one_mul, ← lp, List.take_length]
      simp only [cut_lo (show i ≤ c + 1 by omega), bindV_some, Nat.zero_add, Nat.zero_sub]
      refine copyE_in (cnt := 1) (by omega) o1 nr1 ap (by omega) (cs.take (i * 3) ++ row) ?_ fun h2 c2 n2 o2 => ?_
      · rw [List.drop_eq_nil_of_le (by omega), List.append_nil]
        congr 1
        exact List.take_of_length_le (by omega)
      simp only [binV_add, w2, bindV_some, cut_lo (show i + 1 ≤ c + 1 by omega), cut_lo hi, Nat.zero_add, Nat.zero_sub]
      have oq2 := c2.at1 (by omega) (by omega) oq1
      have nd2 : newCells 3 (.slice (some ⟨q, i * 3, some 3⟩) (c - i) (c + 1 - i)) h2 = some (cs.drop (i * 3), c - i) := by
        rw [new_slice oq2 (by omega)]
        rw [List.take_of_length_le (by rw [List.length_drop]; omega)]
      refine copyE_in (cnt := c - i) (by omega) o2 nd2 (allOne_drop aq _) (by rw [List.length_append, tl, lp]; omega) (cs.take (i * 3) ++ row ++ cs.drop (i * 3)) ?_ fun h3 c3 n3 o3 => ?_
      · have dn : List.drop ((i + 1) * 3 + (c - i) * 3) (cs.take (i * 3) ++ row) = [] := List.drop_eq_nil_of_le (by rw [List.length_append, tl, lp]; omega)
        rw [dn, List.append_nil]
        congr 1
        exact List.take_of_length_le (by rw [List.length_append, tl, lp]; omega)
      refine ⟨trivial, ?_⟩
      exact fin h3 h.next _ (((c1.new c2 (Nat.le_refl _)).new c3 (Nat.le_refl _)).mono (by simp)) (.inr (Nat.le_refl _)) (by omega) o3
    · have cn : n + 1 ≤ c := by omega
      simp only [room, decide_false, Bool.false_eq_true, if_false, idG_eq, binV_add, w1, bindV_some, cut_hi (show n + 1 ≤ capOf n (c + 1) from cn), w2, cut_lo (show i + 1 ≤ n + 1 by omega)]
      refine .inl ⟨rfl, p, 0, 3, 1, 0, q, _, 3, _, _, row, cs, rfl, by omega, by omega, pq, op, oq, by omega, ?_⟩
      simp only [unV_not, Bool.not_false, bindV_some, condK_bool, if_true, binV_add, w2, cut_lo (show i + 1 ≤ n + 1 by omega), cut_lo (show i ≤ n + 1 by omega), Nat.zero_add]
      have nd2 : newCells 3 (.slice (some ⟨q, i * 3, some 3⟩) (n - i) (c + 1 - i)) h = some (cs.drop (i * 3), n - i) := by
        rw [new_slice oq (by omega)]
        rw [List.take_of_length_le (by rw [List.length_drop]; omega)]
      have tl1 : (cs.take ((i + 1) * 3)).length = (i + 1) * 3 := by rw [List.length_take]; omega
      refine copyE_in (cnt := n - i) (by omega) oq nd2 (allOne_drop aq _) (by omega) (cs.take ((i + 1) * 3) ++ cs.drop (i * 3)) ?_ fun h2 c2 n2 o2 => ?_
      · have dn : List.drop ((i + 1) * 3 + (n - i) * 3) cs = [] := List.drop_eq_nil_of_le (by omega)
        rw [dn, List.append_nil]
      refine ⟨trivial, ?_⟩
      simp only [cut_lo (show i ≤ n + 1 by omega), bindV_some, Nat.zero_add]
      have op2 := c2.at1 pn pq op
      have nr2 : newCells 3 (.slice (some ⟨p, 0, some 3⟩) 1 0) h2 = some (row, 1) := by
        rw [new_slice op2 (by omega)]
        rw [List.drop_zero, Nat.one_mul, ← lp, List.take_length]
      refine copyE_in (cnt := 1) (by omega) o2 nr2 ap (by rw [List.length_append, tl1]; omega) (cs.take (i * 3) ++ row ++ cs.drop (i * 3)) ?_ fun h3 c3 n3 o3 => ?_
      · rw [List.take_append_of_le_length (by omega), List.take_take, Nat.min_eq_left (by omega)]
        congr 1
        have : i * 3 + 1 * 3 = (cs.take ((i + 1) * 3)).length := by omega
        rw [this, List.drop_append, List.drop_length, Nat.sub_self, List.drop_zero, List.nil_append]
      exact fin h3 q _ (c2.of_chg c3 (by simp)) (.inl rfl) (by omega) o3
/-! ### Delete -/
def rdelO : Abs.Spec := fun args h k => ∃ (q n i : Nat) (cs : List Value), args = [.slice (some ⟨q, 0, some 3⟩) n 0, .int .i64 i, .int .i64 ((i + 1 : Nat) : Int)] ∧ n ≤ 100000 ∧ i < n ∧ q < h.next ∧ h.objs q = some (.cells cs true) ∧ cs.length = n * 3 ∧ allOne cs = true ∧
  ∀ h', Chg h h' [q] → h'.objs q = some (.cells (cs.take (i * 3) ++ cs.drop ((i + 1) * 3)) true) → k (.slice (some ⟨q, 0, some 3⟩) (n - 1) 0) h'
theorem rdelO_good : SpecGood Try.prog (49, rdelO) := by
  refine spec_good_cap mixed Try.func49 (by kernel_rfl) (by kernel_rfl) (tab := []) (by simp) (keep := rack_Delete_keep) ?_ ?_
  rotate_left
  · rintro args h k ⟨q, n, i, cs, rfl, hn, _⟩ q' off z n' rest e
    cases e
    have : (100000 : Nat) ≤ maxLen := by decide
    omega
  rintro args h k ⟨q, n, i, cs, rfl, hn, hi, qn, oq, lq, aq, H⟩
  refine ⟨q, 0, 3, n, _, rfl, fun c hc hcm => ⟨0, ?_⟩⟩
  have hcm : c ≤ 9223372036854775807 := Nat.le_trans hcm (by decide)
  show rack_Delete (tabC []) idG 0 (.slice (some ⟨q, 0, some 3⟩) n (c + 1)) (.int .i64 (i : Int)) (.int .i64 ((i + 1 : Nat) : Int)) h _
  rw [rack_Delete_eq]
  have c3 : ∃ v, cutS3 3 (.slice (some ⟨q, 0, some 3⟩) n (c + 1)) (some (.int .i64 (i : Int))) (some (.int .i64 ((i + 1 : Nat) : Int))) (some (.int .i64 (n : Int))) = some v := by
    have a0 : (n : Int) ≤ c := by omega
    have a1 : ((i : Int) + 1) ≤ n := by omega
    have a2 : (0 : Int) ≤ (i : Int) + 1 := by omega
    have a3 : (i : Int) ≤ (i : Int) + 1 := by omega
    exact ⟨_, by simp [cutS3, loHi3, cap_known, a0, a1, a2, a3]; rfl⟩
  obtain ⟨v3, c3⟩ := c3
  have ne : ¬ (i : Int) = ((i + 1 : Nat) : Int) := by omega
  simp only [lenS_slice, bindV_some, c3, binV_eql, ne, decide_false, condK_bool, Bool.false_eq_true, if_false, idG_eq, cut_hi (show i ≤ capOf n (c + 1) by rw [cap_known]; omega), cut_lo (show i + 1 ≤ n by omega), Nat.zero_add]
  have mi : (i + 1) * 3 = i * 3 + 3 := Nat.succ_mul _ _
  have le1 : (i + 1) * 3 ≤ n * 3 := Nat.mul_le_mul_right _ hi
  have nd : (n - (i + 1)) * 3 = n * 3 - (i + 1) * 3 := Nat.sub_mul _ _ _
  have nw : newCells 3 (.slice (some ⟨q, (i + 1) * 3, some 3⟩) (n - (i + 1)) (c + 1 - (i + 1))) h = some (cs.drop ((i + 1) * 3), n - (i + 1)) := by
    rw [new_slice oq (by omega)]
    rw [List.take_of_length_le (by rw [List.length_drop]; omega)]
  have hb : Nat.ble (i + (n - (i + 1))) c = true := Nat.ble_eq_true_of_le (by omega)
  unfold appendE
  rw [nw]
  simp only [oq, hb]
  refine ⟨⟨by rw [allOne_eq]; exact allOne_drop aq _, trivial, by omega⟩, ?_⟩
  obtain ⟨h1, hh1⟩ : ∃ z, z = h.set q (.cells (cs.take (0 + i * 3) ++ cs.drop ((i + 1) * 3) ++ cs.drop (0 + i * 3 + (n - (i + 1)) * 3)) true) := ⟨_, rfl⟩
  rw [← hh1]
  have c1 : Chg h h1 [q] := by rw [hh1]; exact Chg.set _ (by simp)
  have n1 : h1.next = h.next := by rw [hh1]; rfl
  have en : i + (n - (i + 1)) = n - 1 := by omega
  have nm : (n - 1) * 3 = n * 3 - 3 := by rw [Nat.sub_mul, Nat.one_mul]
  obtain ⟨cs1, hc1⟩ : ∃ z, z = cs.take (i * 3) ++ cs.drop ((i + 1) * 3) := ⟨_, rfl⟩
  have l1 : cs1.length = (n - 1) * 3 := by rw [hc1, List.length_append, List.length_take, List.length_drop]; omega
  have o1 : h1.objs q = some (.cells (cs1 ++ cs.drop (0 + i * 3 + (n - (i + 1)) * 3)) true) := by rw [hh1, hc1, Nat.zero_add]; exact set_at _ _ _
  rw [en]
  simp only [true_and, lenS_slice, bindV_some, cut_both (show n - 1 ≤ n by omega) (show n ≤ capOf (n - 1) (c + 1) by rw [cap_known]; omega), Nat.zero_add]
  unfold clearE
  simp only [o1]
  refine ⟨⟨rfl, trivial, by rw [List.length_append]; omega⟩, ?_⟩
  -- what is behind is forgotten
  obtain ⟨h2, hh2⟩ : ∃ z, z = h1.set q (.cells cs1 true) := ⟨_, rfl⟩
  refine ⟨h2, ⟨by rw [hh2]; rfl, fun j o ho => ?_⟩, ?_⟩
  · by_cases ej : j = q
    · subst ej
      rw [hh2, set_at] at ho
      cases ho
      have key : ∀ R0 R1 R2 : List Value, List.take ((n - 1) * 3) (cs1 ++ R0) ++ R1 ++ R2 = cs1 ++ (R1 ++ R2) := fun R0 R1 R2 => by
        rw [List.take_append_of_le_length (by omega), List.take_of_length_le (by omega), List.append_assoc]
      exact ⟨_, set_at _ _ _, .inr ⟨cs1, _, true, rfl, congrArg (fun x => AObj.cells x true) (key _ _ _)⟩⟩
    · rw [hh2, set_ne ej] at ho
      exact ⟨o, by rw [set_ne ej]; exact ho, .inl rfl⟩
  · refine H h2 ?_ (by rw [hh2, hc1]; exact set_at _ _ _)
    rw [hh2]
    exact c1.of_set (.inl (by simp))
end Go.Proofs.Ytnelcpabjpchnaa

/- A rack: its rows, plainly; where an id stands. -/
set_option linter.unusedSimpArgs false
set_option linter.unusedVariables false
set_option maxHeartbeats 4000000
namespace Go.Proofs.Ytnelcpabjpchnaa
open Go.Abs Go.IntWalk
attribute [local congr] bindV_weak condK_weak guardK_weak groupK_weak allocE_weak boxE_weak storeE_weak storeM_weak tabC_weak ite_weak idG_weak appendE_weak buildSliceE_weak mapUpdateE_weak deleteE_weak makeMapE_weak copyE_weak clearE_weak callE_weak

/-! ### plainly -/
abbrev Rk := Nat × List Value
def rowC (x : Rk) : List Value := .int .u32 x.1 :: x.2
structure RkL (L : List Rk) : Prop where
  len : ∀ x ∈ L, x.2.length = 2
  one : ∀ x ∈ L, allOne x.2 = true
  rise : L.Pairwise fun x y => x.1 < y.1
  few : L.length ≤ 90000
  ids : ∀ x ∈ L, 1 ≤ x.1 ∧ x.1 ≤ 2147483647
theorem RkL.row {L : List Rk} (r : RkL L) : ∀ x ∈ L, (rowC x).length = 3 := fun x hx => by simp [rowC, r.len x hx]
theorem RkL.flat1 {L : List Rk} (r : RkL L) : allOne (L.flatMap rowC) = true := by
  rw [← allOne_eq, List.all_eq_true]
  intro v hv
  obtain ⟨x, hx, hv⟩ := List.mem_flatMap.1 hv
  have := r.one x hx
  rw [← allOne_eq, List.all_eq_true] at this
  rcases List.mem_cons.1 hv with rfl | hv
  · rfl
  · exact this v hv
def rkGet : List Rk → Nat → Option (List Value)
  | [], _ => none
  | x :: L, id => if x.1 = id then some x.2 else rkGet L id
def rkPut : List Rk → Nat → List Value → List Rk
  | [], id, c => [(id, c)]
  | x :: L, id, c => if id < x.1 then (id, c) :: x :: L else if x.1 = id then (id, c) :: L else x :: rkPut L id c
def rkDrop : List Rk → Nat → List Rk
  | [], _ => []
  | x :: L, id => if x.1 = id then L else x :: rkDrop L id
/-- Where an id stands, or would. -/
structure Stand (L : List Rk) (id : Nat) (A B : List Rk) : Prop where
  eq : L = A ++ B
  lo : ∀ x ∈ A, x.1 < id
  hi : ∀ x ∈ B, id ≤ x.1
def headId (B : List Rk) (id : Nat) : Bool := match B with | [] => false | x :: _ => decide (x.1 = id)
theorem Stand.get {L A B : List Rk} {id : Nat} (s : Stand L id A B) : rkGet L id = rkGet B id := by
  obtain ⟨rfl, lo, hi⟩ := s
  induction A with
  | nil => rfl
  | cons a A ih =>
    have := lo a (List.mem_cons_self ..)
    rw [List.cons_append, rkGet, if_neg (by omega)]
    exact ih (fun x hx => lo x (List.mem_cons_of_mem _ hx))
theorem Stand.put {L A B : List Rk} {id : Nat} {c : List Value} (s : Stand L id A B) : rkPut L id c = A ++ rkPut B id c := by
  obtain ⟨rfl, lo, hi⟩ := s
  induction A with
  | nil => rfl
  | cons a A ih =>
    have := lo a (List.mem_cons_self ..)
    rw [List.cons_append, rkPut, if_neg (by omega), if_neg (by omega), ih (fun x hx => lo x (List.mem_cons_of_mem _ hx)), List.cons_append]
theorem Stand.drop {L A B : List Rk} {id : Nat} (s : Stand L id A B) : rkDrop L id = A ++ rkDrop B id := by
  obtain ⟨rfl, lo, hi⟩ := s
  induction A with
  | nil => rfl
  | cons a A ih =>
    have := lo a (List.mem_cons_self ..)
    rw [List.cons_append, rkDrop, if_neg (by omega), ih (fun x hx => lo x (List.mem_cons_of_mem _ hx)), List.cons_append]
theorem rkGet_none : ∀ {B : List Rk} {id : Nat}, (∀ x ∈ B, id < x.1) → rkGet B id = none
  | [], _, _ => rfl
  | x :: B, id, h => by
    have := h x (List.mem_cons_self ..)
    rw [rkGet, if_neg (by omega)]
    exact rkGet_none fun y hy => h y (List.mem_cons_of_mem _ hy)
/-- What stands behind is found at the head, or not at all. -/
theorem Stand.found {L A B : List Rk} {id : Nat} (s : Stand L id A B) (r : RkL L) : (headId B id = true → ∃ c B', B = (id, c) :: B' ∧ rkGet L id = some c) ∧ (headId B id = false → rkGet L id = none ∧ ∀ x ∈ B, id < x.1) := by
  have g := s.get
  cases B with
  | nil => exact ⟨fun h => by simp [headId] at h, fun _ => ⟨g, by simp⟩⟩
  | cons x B =>
    simp only [headId, decide_eq_true_eq, decide_eq_false_iff_not]
    refine ⟨fun h => ?_, fun h => ?_⟩
    · subst h
      exact ⟨x.2, B, rfl, by rw [g, rkGet, if_pos rfl]⟩
    · have h0 := s.hi x (List.mem_cons_self ..)
      have p := r.rise
      rw [s.eq] at p
      have p := (List.pairwise_append.1 p).2.1
      have a : ∀ y ∈ x :: B, id < y.1 := by
        intro y hy
        rcases List.mem_cons.1 hy with rfl | hy
        · omega
        · have := (List.pairwise_cons.1 p).1 y hy
          omega
      exact ⟨by rw [g]; exact rkGet_none a, a⟩
theorem rkPut_in {B' : List Rk} {id : Nat} {c c' : List Value} : rkPut ((id, c') :: B') id c = (id, c) :: B' := by
  rw [rkPut, if_neg (by simp), if_pos rfl]
theorem rkPut_out : ∀ {B : List Rk} {id : Nat} {c : List Value}, (∀ x ∈ B, id < x.1) → rkPut B id c = (id, c) :: B
  | [], _, _, _ => rfl
  | x :: B, id, c, h => by rw [rkPut, if_pos (h x (List.mem_cons_self ..))]
theorem rkDrop_in {B' : List Rk} {id : Nat} {c' : List Value} : rkDrop ((id, c') :: B') id = B' := by rw [rkDrop, if_pos rfl]
theorem rkDrop_out : ∀ {B : List Rk} {id : Nat}, (∀ x ∈ B, id < x.1) → rkDrop B id = B
  | [], _, _ => rfl
  | x :: B, id, h => by
    have := h x (List.mem_cons_self ..)
    rw [rkDrop, if_neg (by omega), rkDrop_out fun y hy => h y (List.mem_cons_of_mem _ hy)]
theorem stand_exists : ∀ (L : List Rk) (id : Nat), L.Pairwise (fun x y => x.1 < y.1) → ∃ A B, Stand L id A B
  | [], id, _ => ⟨[], [], rfl, by simp, by simp⟩
  | x :: L, id, p => by
    obtain ⟨p1, p2⟩ := List.pairwise_cons.1 p
    by_cases h : x.1 < id
    · obtain ⟨A, B, e, lo, hi⟩ := stand_exists L id p2
      exact ⟨x :: A, B, by rw [e]; rfl, fun y hy => by rcases List.mem_cons.1 hy with rfl | hy; exact h; exact lo y hy, hi⟩
    · refine ⟨[], x :: L, rfl, by simp, fun y hy => ?_⟩
      rcases List.mem_cons.1 hy with rfl | hy
      · omega
      · have := p1 y hy; omega
theorem RkL.put {L : List Rk} {id : Nat} {c : List Value} (r : RkL L) (h1 : 1 ≤ id) (h2 : id ≤ 2147483647) (lc : c.length = 2) (oc : allOne c = true) (few : (rkPut L id c).length ≤ 90000) : RkL (rkPut L id c) := by
  obtain ⟨A, B, s⟩ := stand_exists L id r.rise
  have e := s.put (c := c)
  have f := s.found r
  have pr := r.rise
  rw [s.eq] at pr
  obtain ⟨pA, pB, pAB⟩ := List.pairwise_append.1 pr
  have inA : ∀ x ∈ A, x ∈ L := fun x hx => by rw [s.eq]; exact List.mem_append_left _ hx
  have inB : ∀ x ∈ B, x ∈ L := fun x hx => by rw [s.eq]; exact List.mem_append_right _ hx
  have mem : ∀ x ∈ rkPut L id c, x ∈ L ∨ x = (id, c) := by
    intro x hx
    rw [e] at hx
    cases hh : headId B id with
    | true =>
      obtain ⟨c', B', eB, _⟩ := f.1 hh
      rw [eB, rkPut_in] at hx
      rcases List.mem_append.1 hx with hx | hx
      · exact .inl (inA x hx)
      · rcases List.mem_cons.1 hx with rfl | hx
        · exact .inr rfl
        · exact .inl (inB x (by rw [eB]; exact List.mem_cons_of_mem _ hx))
    | false =>
      rw [rkPut_out (f.2 hh).2] at hx
      rcases List.mem_append.1 hx with hx | hx
      · exact .inl (inA x hx)
      · rcases List.mem_cons.1 hx with rfl | hx
        · exact .inr rfl
        · exact .inl (inB x hx)
  refine ⟨fun x hx => ?_, fun x hx => ?_, ?_, few, fun x hx => ?_⟩
  · rcases mem x hx with h | rfl
    · exact r.len x h
    · exact lc
  · rcases mem x hx with h | rfl
    · exact r.one x h
    · exact oc
  · rw [e]
    cases hh : headId B id with
    | true =>
      obtain ⟨c', B', eB, _⟩ := f.1 hh
      rw [eB, rkPut_in]
      rw [eB] at pB pAB
      refine List.pairwise_append.2 ⟨pA, List.pairwise_cons.2 ⟨(List.pairwise_cons.1 pB).1, (List.pairwise_cons.1 pB).2⟩, fun x hx y hy => ?_⟩
      rcases List.mem_cons.1 hy with rfl | hy
      · exact s.lo x hx
      · exact pAB x hx y (List.mem_cons_of_mem _ hy)
    | false =>
      have a := (f.2 hh).2
      rw [rkPut_out a]
      refine List.pairwise_append.2 ⟨pA, List.pairwise_cons.2 ⟨a, pB⟩, fun x hx y hy => ?_⟩
      rcases List.mem_cons.1 hy with rfl | hy
      · exact s.lo x hx
      · exact pAB x hx y hy
  · rcases mem x hx with h | rfl
    · exact r.ids x h
    · exact ⟨h1, h2⟩
theorem RkL.sub {L M : List Rk} (r : RkL L) (s : M.Sublist L) : RkL M :=
  ⟨fun x hx => r.len x (s.subset hx), fun x hx => r.one x (s.subset hx), r.rise.sublist s, Nat.le_trans s.length_le r.few, fun x hx => r.ids x (s.subset hx)⟩
theorem rkDrop_sub : ∀ (L : List Rk) (id : Nat), (rkDrop L id).Sublist L
  | [], _ => .slnil
  | x :: L, id => by
    rw [rkDrop]
    split
    · exact List.sublist_cons_self ..
    · exact (rkDrop_sub L id).cons_cons x
/-! ### Compare, and by what the rows are sought -/
def rcmp (x y : Nat) : Int := if x < y then -1 else if y < x then 1 else 0
def cmpO : Abs.Spec := fun args h k => ∃ x y : Nat, args = [.int .u32 x, .int .u32 y] ∧ k (.int .i64 (rcmp x y)) h
theorem cmpO_good : SpecGood Try.prog (57, cmpO) := by
  refine spec_good mixed Try.func57 (by kernel_rfl) (by kernel_rfl) (tab := [(74, nanS)]) (by simp [nanS_good]) (keep := cmp_Compare_keep) ?_
  rintro args h k ⟨x, y, rfl, H⟩
  refine ⟨0, ?_⟩
  show cmp_Compare (tabC _) idG 0 (.int .u32 (x : Int)) (.int .u32 (y : Int)) h _
  rw [cmp_Compare_eq]
  refine .inl ⟨rfl, _, rfl, .inl ⟨rfl, _, rfl, ?_⟩⟩
  simp only [condK_bool, Bool.false_eq_true, if_false, idG_eq, binV_lss, binV_gtr, bindV_some, decide_eq_true_eq]
  unfold rcmp at H
  by_cases h1 : x < y
  · have : (x : Int) < y := by omega
    rw [if_pos this]
    rw [if_pos h1] at H
    exact ⟨h, St.le.refl _, H⟩
  · have : ¬ (x : Int) < y := by omega
    rw [if_neg this]
    rw [if_neg h1] at H
    simp only [idG_eq, binV_gtr, bindV_some, condK_bool, decide_eq_true_eq]
    by_cases h2 : y < x
    · have : (x : Int) > y := by omega
      rw [if_pos this]
      rw [if_pos h2] at H
      exact ⟨h, St.le.refl _, H⟩
    · have : ¬ (x : Int) > y := by omega
      rw [if_neg this]
      rw [if_neg h2] at H
      exact ⟨h, St.le.refl _, H⟩
def at1O : Abs.Spec := fun args h k => ∃ (x y : Nat) (c : List Value), args = [.agg (rowC (x, c)).toArray, .int .u32 y] ∧ allOne c = true ∧ ∀ h', Chg h h' [] → k (.int .i64 (rcmp x y)) h'
theorem at1O_good : SpecGood Try.prog (56, at1O) := by
  refine spec_good mixed Try.func56 (by kernel_rfl) (by kernel_rfl) (tab := [(57, cmpO)]) (by simp [cmpO_good]) (keep := rack_at1_keep) ?_
  rintro args h k ⟨x, y, c, rfl, h1, H⟩
  refine ⟨0, ?_⟩
  show rack_at1 (tabC _) idG 0 (.agg (rowC (x, c)).toArray) (.int .u32 (y : Int)) h _
  rw [rack_at1_eq]
  refine boxE_in (by simp only [Value.cells, rowC, allOne, h1, one, Bool.and_true]) fun h1 c1 n1 o1 => ?_
  simp only [offV_ptr, bindV_some, loadV_ptr, o1, loadM_cells, partV_one, Value.cells, rowC, List.getElem?_cons_zero, Nat.zero_add]
  exact .inl ⟨rfl, x, y, rfl, h1, St.le.refl _, H h1 c1⟩
/-! ### the search -/
def seekO : Abs.Spec := fun args h k => ∃ (D : Nat → Prop) (v : Value) (L : List Rk) (id : Nat), args = [v, .int .u32 id, .func (.func 56) #[] #[]] ∧ RkL L ∧ OwnS D h v 3 (L.flatMap rowC) L.length ∧
  ∀ h' A B, Chg h h' [] → Stand L id A B → k (.tuple #[.int .i64 A.length, .bool (headId B id)]) h'
def tabSk : List (FuncId × Abs.Spec) := [(56, at1O)]
theorem row_at {D : Nat → Prop} {h h' : St} {v : Value} {L : List Rk} (r : RkL L) (s : OwnS D h v 3 (L.flatMap rowC) L.length) (c : Chg h h' []) {i : Nat} (hi : i < L.length) (k : IntKind) :
    ∃ b o, idxS 3 v (.int k i) = some (.pointer (some ⟨b, o, none⟩)) ∧ D b ∧ b < h.next ∧ ∃ cs, h'.objs b = some (.cells cs true) ∧ takeN cs o 3 = some (rowC L[i]) := by
  obtain ⟨b, o, g1, g2, g3, cs, g4, g5⟩ := s.row r.row (List.getElem?_eq_getElem hi) k
  exact ⟨b, o, g1, g2, g3, cs, c.at0 g3 g4, g5⟩
theorem seek_j1 {nn : Nat} {v x6 x7 : Value} {id i : Nat} {D : Nat → Prop} {L : List Rk} {h0 h : St} {k : Cont} {x8 x10 : Value} (r : RkL L) (s : OwnS D h0 v 3 (L.flatMap rowC) L.length) (c : Chg h0 h [])
    (hi : i ≤ L.length) (st : Stand L id (L.take i) (L.drop i)) (e8 : x8 = .int .i64 (L.length : Int))
    (H : ∀ h' A B, Chg h0 h' [] → Stand L id A B → k (.tuple #[.int .i64 A.length, .bool (headId B id)]) h') :
    rack_Search_j1 (tabC tabSk) idG nn v (.int .u32 id) (.func (.func 56) #[] #[]) x6 x7 x8 (.int .i64 (i : Int)) x10 h (fun v h1 => ∃ h2, St.le h2 h1 ∧ k v h2) := by
  subst e8
  rw [rack_Search_j1_eq]
  simp only [binV_lss, bindV_some, groupK_eq, guardK_bool, decide_eq_true_eq]
  have la : (L.take i).length = i := by rw [List.length_take]; omega
  by_cases hl : i < L.length
  · have hl' : (i : Int) < L.length := by omega
    rw [if_pos hl']
    obtain ⟨b, o, g1, g2, g3, cs, g4, g5⟩ := row_at r s c hl .i64
    simp only [g1, bindV_some, loadV_ptr, g4, loadM_cells, partV_agg, g5, Option.map_some, callE, List.nil_append, List.append_nil]
    refine .inl ⟨rfl, L[i].1, id, L[i].2, rfl, r.one _ (List.getElem_mem hl), fun h' c' => ?_⟩
    simp only [binNil_int, binV_eql, bindV_some, idG_eq, decide_true, pickV_bool, if_true, hl', getT]
    have dr : L.drop i = L[i] :: L.drop (i + 1) := List.drop_eq_getElem_cons hl
    have := H h' _ _ (c.seq c') st
    rw [la, dr] at this
    have e : decide (rcmp L[i].1 id = 0) = headId (L[i] :: L.drop (i + 1)) id := by
      show _ = decide (L[i].1 = id)
      unfold rcmp
      refine decide_eq_decide.2 ?_
      split
      · omega
      · split <;> omega
    rw [e]
    exact ⟨h', St.le.refl _, this⟩
  · have hl' : ¬ (i : Int) < L.length := by omega
    rw [if_neg hl']
    have := H h _ _ c st
    rw [la, List.drop_of_length_le (by omega)] at this
    simp only [idG_eq, hl', decide_false, pickV_bool, Bool.false_eq_true, if_false, bindV_some]
    exact ⟨h, St.le.refl _, this⟩
theorem half_of {x : Nat} (h : x < 1000000) : binNil .shr .other (.int .u64 (x : Int)) (.int .u64 1) = some (.int .u64 ((x / 2 : Nat) : Int)) := by
  simp [binNil, binV, isShift, shiftV, IntKind.wrap, IntKind.signed, IntKind.bits, Int.shiftRight_eq_div_pow]
  rw [Int.fdiv_eq_ediv_of_nonneg _ (by omega)]
theorem seek_l0 {nn : Nat} {v x6 x7 : Value} {id : Nat} {D : Nat → Prop} {L : List Rk} {h0 : St} {k : Cont} {x8 : Value} (r : RkL L) (s : OwnS D h0 v 3 (L.flatMap rowC) L.length) (e8 : x8 = .int .i64 (L.length : Int))
    (H : ∀ h' A B, Chg h0 h' [] → Stand L id A B → k (.tuple #[.int .i64 A.length, .bool (headId B id)]) h') :
    ∀ (d i j m0 : Nat) (h : St), j - i ≤ d → d < m0 → i ≤ j → j ≤ L.length → (∀ x ∈ L.take i, x.1 < id) → (∀ x ∈ L.drop j, id ≤ x.1) → Chg h0 h [] →
      rack_Search_l0 (tabC tabSk) idG nn m0 v (.int .u32 id) (.func (.func 56) #[] #[]) x6 x7 x8 (.int .i64 (i : Int)) (.int .i64 (j : Int)) h (fun v h1 => ∃ h2, St.le h2 h1 ∧ k v h2) := by
  intro d
  induction d with
  | zero =>
    intro i j m0 h hd hm hij hj lo hi c
    obtain ⟨m0, rfl⟩ : ∃ m, m0 = m + 1 := ⟨m0 - 1, by omega⟩
    rw [rack_Search_l0_eq]
    have : i = j := by omega
    subst this
    simp only [binV_lss, bindV_some, condK_bool, Int.lt_irrefl, decide_false, Bool.false_eq_true, if_false, idG_eq]
    exact seek_j1 r s c hj ⟨(List.take_append_drop ..).symm, lo, hi⟩ e8 H
  | succ d ih =>
    intro i j m0 h hd hm hij hj lo hi c
    obtain ⟨m0, rfl⟩ : ∃ m, m0 = m + 1 := ⟨m0 - 1, by omega⟩
    by_cases e : i = j
    · subst e
      rw [rack_Search_l0_eq]
      simp only [binV_lss, bindV_some, condK_bool, Int.lt_irrefl, decide_false, Bool.false_eq_true, if_false, idG_eq]
      exact seek_j1 r s c hj ⟨(List.take_append_drop ..).symm, lo, hi⟩ e8 H
    rw [rack_Search_l0_eq]
    have few := r.few
    have lt : (i : Int) < j := by omega
    have w1 : IntKind.i64.wrap ((i : Int) + j) = ((i + j : Nat) : Int) := by rw [i64_in _ (by omega)]; omega
    have w2 : IntKind.u64.wrap ((i + j : Nat) : Int) = ((i + j : Nat) : Int) := u64_of (by omega)
    obtain ⟨m, hmm⟩ : ∃ m, m = (i + j) / 2 := ⟨_, rfl⟩
    have w3 : IntKind.i64.wrap ((m : Nat) : Int) = (m : Int) := i64_in _ (by omega)
    have mi : i ≤ m := by omega
    have mj : m < j := by omega
    obtain ⟨b, o, g1, g2, g3, cs, g4, g5⟩ := row_at r s c (show m < L.length by omega) .i64
    simp only [binV_lss, bindV_some, condK_bool, lt, decide_true, if_true, idG_eq, binV_add, w1, wrapV_int, w2, half_of (show i + j < 1000000 by omega), ← hmm, w3, g1, loadV_ptr, g4, loadM_cells, partV_agg, g5, Option.map_some, callE, List.nil_append, List.append_nil]
    refine .inl ⟨rfl, L[m].1, id, L[m].2, rfl, r.one _ (List.getElem_mem _), fun h' c' => ?_⟩
    have pw := List.pairwise_iff_getElem.1 r.rise
    simp only [binNil_int, binV_lss, bindV_some]
    by_cases hl : L[m].1 < id
    · have e1 : rcmp L[m].1 id < 0 := by unfold rcmp; rw [if_pos hl]; omega
      have w4 : IntKind.i64.wrap ((m : Int) + 1) = ((m + 1 : Nat) : Int) := by rw [i64_in _ (by omega)]; omega
      simp only [e1, decide_true, if_true, binV_add, bindV_some, w4, condK_bool, binNil_int, idG_eq]
      refine ih (m + 1) j m0 h' (by omega) (by omega) (by omega) hj ?_ hi (c.seq c')
      intro x hx
      obtain ⟨t, ht, rfl⟩ := List.getElem_of_mem hx
      rw [List.length_take] at ht
      rw [List.getElem_take]
      by_cases e : t = m
      · subst e; exact hl
      · have := pw t m (by omega) (by omega) (by omega)
        omega
    · have e1 : ¬ rcmp L[m].1 id < 0 := by unfold rcmp; rw [if_neg hl]; split <;> omega
      simp only [e1, decide_false, Bool.false_eq_true, if_false, condK_bool, idG_eq]
      refine ih i m m0 h' (by omega) (by omega) (by omega) (by omega) lo ?_ (c.seq c')
      intro x hx
      obtain ⟨t, ht, rfl⟩ := List.getElem_of_mem hx
      rw [List.length_drop] at ht
      rw [List.getElem_drop]
      by_cases e : t = 0
      · subst e; simp only [Nat.add_zero]; omega
      · have := pw m (m + t) (by omega) (by omega) (by omega)
        omega
theorem seekO_good : SpecGood Try.prog (55, seekO) := by
  refine spec_good mixed Try.func55 (by kernel_rfl) (by kernel_rfl) (tab := tabSk) (by simp [tabSk, at1O_good]) (keep := rack_Search_keep) ?_
  rintro args h k ⟨D, v, L, id, rfl, r, s, H⟩
  refine ⟨L.length + 1, ?_⟩
  show rack_Search (tabC _) idG _ v (.int .u32 (id : Int)) (.func (.func 56) #[] #[]) h _
  rw [rack_Search_eq]
  simp only [s.len, bindV_some, idG_eq]
  exact seek_l0 r s rfl H L.length 0 L.length _ h (by omega) (by omega) (by omega) (Nat.le_refl _) (by simp) (by simp) (Chg.refl _ _)
end Go.Proofs.Ytnelcpabjpchnaa

/- A rack: its functions. -/
set_option linter.unusedSimpArgs false
set_option linter.unusedVariables false
set_option maxHeartbeats 4000000
namespace Go.Proofs.Ytnelcpabjpchnaa
open Go.Abs Go.IntWalk
attribute [local congr] bindV_weak condK_weak guardK_weak groupK_weak allocE_weak boxE_weak storeE_weak storeM_weak tabC_weak ite_weak idG_weak appendE_weak buildSliceE_weak mapUpdateE_weak deleteE_weak makeMapE_weak copyE_weak clearE_weak callE_weak

/-- A rack in memory. -/
def RkS (D : Nat → Prop) (h : St) (v : Value) (most : Nat) (L : List Rk) : Prop :=
  ∃ p sv, v = .pointer (some ⟨p, 0, none⟩) ∧ D p ∧ p < h.next ∧ h.objs p = some (.cells [sv, .int .i64 (most : Int)] true) ∧ OwnS (fun i => D i ∧ i ≠ p) h sv 3 (L.flatMap rowC) L.length ∧ RkL L ∧ L.length ≤ most ∧ most ≤ 90000
theorem RkS.rows {D : Nat → Prop} {h : St} {v : Value} {most : Nat} {L : List Rk} (s : RkS D h v most L) : RkL L := by
  obtain ⟨_, _, _, _, _, _, _, r, _⟩ := s; exact r
theorem RkS.few {D : Nat → Prop} {h : St} {v : Value} {most : Nat} {L : List Rk} (s : RkS D h v most L) : L.length ≤ most ∧ most ≤ 90000 := by
  obtain ⟨_, _, _, _, _, _, _, _, r⟩ := s; exact r
theorem RkS.chgP {D E : Nat → Prop} {h h' : St} {v : Value} {most : Nat} {L : List Rk} (s : RkS D h v most L) (c : ChgP E h h') (hE : ∀ i, E i → ¬ D i) : RkS D h' v most L := by
  obtain ⟨p, sv, e, dp, pn, op, os, r⟩ := s
  exact ⟨p, sv, e, dp, Nat.lt_of_lt_of_le pn c.1, c.at pn (fun hh => hE _ hh dp) op, os.chgP c (fun i hi hh => hE i hi hh.1), r⟩
theorem RkS.chg {D : Nat → Prop} {h h' : St} {v : Value} {most : Nat} {L : List Rk} {S : List Nat} (s : RkS D h v most L) (c : Chg h h' S) (hS : ∀ i ∈ S, ¬ D i) : RkS D h' v most L :=
  s.chgP (E := (· ∈ S)) (c.toP fun _ h => h) hS
theorem RkS.chg0 {D : Nat → Prop} {h h' : St} {v : Value} {most : Nat} {L : List Rk} (s : RkS D h v most L) (c : Chg h h' []) : RkS D h' v most L := s.chg c (by simp)
theorem RkS.imp {D D' : Nat → Prop} {h : St} {v : Value} {most : Nat} {L : List Rk} (s : RkS D h v most L) (hD : ∀ i, i < h.next → D i → D' i) : RkS D' h v most L := by
  obtain ⟨p, sv, e, dp, pn, op, os, r⟩ := s
  exact ⟨p, sv, e, hD p pn dp, pn, op, os.imp fun i hi hh => ⟨hD i hi hh.1, hh.2⟩, r⟩
/-! ### Right, New, at -/
def rightId (id : Nat) : Bool := decide (1 ≤ id) && decide (id ≤ 2147483647)
def rightO : Abs.Spec := fun args h k => ∃ id : Nat, args = [.int .u32 id] ∧ k (.bool (rightId id)) h
theorem rightO_good : SpecGood Try.prog (33, rightO) := by
  refine spec_good mixed Try.func33 (by kernel_rfl) (by kernel_rfl) (tab := []) (by simp) (keep := rack_Right_keep) ?_
  rintro args h k ⟨id, rfl, H⟩
  refine ⟨0, ?_⟩
  show rack_Right (tabC _) idG 0 (.int .u32 (id : Int)) h _
  rw [rack_Right_eq]
  simp only [binNil_int, binV_geq, binV_leq, bindV_some, groupK_eq, guardK_bool, decide_eq_true_eq]
  unfold rightId at H
  by_cases h1 : 1 ≤ id
  · have e : (id : Int) ≥ 1 := by omega
    rw [if_pos e]
    simp only [e, bindV_some, binNil_int, binV_leq, idG_eq, decide_true, pickV_bool, if_true, getT]
    have e2 : decide ((id : Int) ≤ 2147483647) = decide (id ≤ 2147483647) := decide_eq_decide.2 (by omega)
    rw [decide_eq_true h1, Bool.true_and] at H
    rw [e2]
    exact ⟨h, St.le.refl _, H⟩
  · have e : ¬ (id : Int) ≥ 1 := by omega
    rw [if_neg e]
    simp only [e, bindV_some, idG_eq, decide_false, pickV_bool, Bool.false_eq_true, if_false]
    rw [decide_eq_false h1, Bool.false_and] at H
    exact ⟨h, St.le.refl _, H⟩
def newO : Abs.Spec := fun args h k => ∃ n : Int, args = [.int .i64 n] ∧ n ≤ 90000 ∧ ∀ h' v, Chg h h' [] → RkS (fun i => h.next ≤ i) h' v n.toNat [] → k v h'
theorem newO_good : SpecGood Try.prog (25, newO) := by
  refine spec_good mixed Try.func25 (by kernel_rfl) (by kernel_rfl) (tab := []) (by simp) (keep := rack_New_keep) ?_
  rintro args h k ⟨n, rfl, hn, H⟩
  refine ⟨0, ?_⟩
  show rack_New (tabC _) idG 0 (.int .i64 n) h _
  rw [rack_New_eq]
  have e : (if n > 0 then n else 0) = ((n.toNat : Nat) : Int) := by split <;> omega
  have b : buildV [.slice none 0 0, .int .i64 0] (some [(1, 1, .int .i64 ((n.toNat : Nat) : Int))]) = some (.agg #[.slice none 0 0, .int .i64 ((n.toNat : Nat) : Int)]) := rfl
  simp only [maxV, if_true, bindV_some, e, b]
  refine boxE_in (by rfl) fun h1 c1 n1 o1 => ?_
  exact ⟨h1, St.le.refl _, H h1 _ c1 ⟨h.next, _, rfl, Nat.le_refl _, by omega, o1, .inl ⟨rfl, rfl, rfl⟩, ⟨by simp, by simp, .nil, by simp, by simp⟩, by simp, by omega⟩⟩
def atO : Abs.Spec := fun args h k => ∃ (D : Nat → Prop) (v : Value) (most : Nat) (L : List Rk) (id : Nat), args = [v, .int .u32 id] ∧ RkS D h v most L ∧
  ∀ h' A B, Chg h h' [] → Stand L id A B → k (.tuple #[.int .i64 A.length, .bool (headId B id)]) h'
theorem atO_good : SpecGood Try.prog (47, atO) := by
  refine spec_good mixed Try.func47 (by kernel_rfl) (by kernel_rfl) (tab := [(55, seekO)]) (by simp [seekO_good]) (keep := rack_at_keep) ?_
  rintro args h k ⟨D, v, most, L, id, rfl, ⟨p, sv, rfl, dp, pn, op, os, r, _⟩, H⟩
  refine ⟨0, ?_⟩
  show rack_at (tabC _) idG 0 (.pointer (some ⟨p, 0, none⟩)) (.int .u32 (id : Int)) h _
  rw [rack_at_eq]
  simp only [nilV, bindV_some, offV_ptr, loadV_ptr, op, loadM_cells, partV_one, List.getElem?_cons_zero, Nat.zero_add]
  refine .inl ⟨rfl, _, sv, L, id, rfl, r, os, fun h' A B c st => ?_⟩
  simp only [extV_two0, extV_two1, bindV_some]
  exact ⟨h', St.le.refl _, H h' A B c st⟩
/-! ### Get -/
def zeroC : List Value := [.int .u32 0, .int .i64 0]
def ansC (o : Option (List Value)) : Value := .tuple #[.agg (o.getD zeroC).toArray, .bool o.isSome]
theorem flat_len {L A B : List Rk} {id : Nat} (r : RkL L) (st : Stand L id A B) : (A.flatMap rowC).length = A.length * 3 := by
  have : ∀ x ∈ A, (rowC x).length = 3 := fun x hx => r.row x (by rw [st.eq]; exact List.mem_append_left _ hx)
  clear r st
  induction A with
  | nil => rfl
  | cons a A ih =>
    rw [List.flatMap_cons, List.length_append, this a (List.mem_cons_self ..), ih (fun x hx => this x (List.mem_cons_of_mem _ hx)), List.length_cons]
    omega
def getO : Abs.Spec := fun args h k => ∃ (D : Nat → Prop) (v : Value) (most : Nat) (L : List Rk) (id : Nat), args = [v, .int .u32 id] ∧ RkS D h v most L ∧ ∀ h', Chg h h' [] → k (ansC (rkGet L id)) h'
theorem get_j0 {nn : Nat} {x0 x1 : Value} {b : Nat} {cs : List Value} {is : Bool} {h0 h : St} {k : Cont} (ob : h.objs b = some (.cells cs true)) (lb : cs.length = 2) (h1 : allOne cs = true) (c : Chg h0 h []) (hb : h0.next ≤ b)
    (H : ∀ h', Chg h0 h' [] → k (.tuple #[.agg cs.toArray, .bool is]) h') : rack_Get_j0 (tabC [(47, atO)]) idG nn x0 x1 (.pointer (some ⟨b, 0, none⟩)) (.bool is) h (fun v h1 => ∃ h2, St.le h2 h1 ∧ k v h2) := by
  rw [rack_Get_j0_eq]
  have tk : takeN cs 0 2 = some cs := by unfold takeN; rw [if_pos (by omega), List.drop_zero, ← lb, List.take_length]
  simp only [loadV_ptr, ob, loadM_cells, partV_agg, tk, Option.map_some, bindV_some]
  refine storeE_all ob (by simpa [Value.cells] using lb) lb (by simpa [Value.cells] using h1) fun h5 c5 n5 o5 => ?_
  have o5 : h5.objs b = some (.cells cs true) := o5
  simp only [loadV_ptr, o5, loadM_cells, partV_agg, tk, Option.map_some, bindV_some]
  exact ⟨_, St.le.refl _, H _ (c.new c5 hb)⟩
theorem getO_good : SpecGood Try.prog (46, getO) := by
  refine spec_good mixed Try.func46 (by kernel_rfl) (by kernel_rfl) (tab := [(47, atO)]) (by simp [atO_good]) (keep := rack_Get_keep) ?_
  rintro args h k ⟨D, v, most, L, id, rfl, s, H⟩
  have s' := s
  obtain ⟨p, sv, rfl, dp, pn, op, os, r, _⟩ := s'
  refine ⟨0, ?_⟩
  show rack_Get (tabC _) idG 0 (.pointer (some ⟨p, 0, none⟩)) (.int .u32 (id : Int)) h _
  rw [rack_Get_eq]
  refine allocE_in fun h1 c1 n1 o1 => ?_
  simp only [binNil_ptr_eql, Option.isNone_some, bindV_some, condK_bool, Bool.false_eq_true, if_false, idG_eq]
  refine .inl ⟨rfl, D, _, most, L, id, rfl, s.chg0 c1, fun h2 A B c2 st => ?_⟩
  have o2 := c2.at0 (by omega) o1
  have op2 := (c1.seq c2).at0 pn op
  have f := st.found r
  simp only [extV_two0, extV_two1, bindV_some, condK_bool]
  cases hh : headId B id with
  | false =>
    simp only [Bool.false_eq_true, if_false, idG_eq]
    rw [(f.2 hh).1] at H
    exact get_j0 o2 rfl rfl (c1.seq c2) (Nat.le_refl _) H
  | true =>
    obtain ⟨c, B', eB, hg⟩ := f.1 hh
    rw [hg] at H
    have hA : A.length < L.length := by rw [st.eq, eB]; simp
    have hLA : L[A.length] = (id, c) := by simp [st.eq, eB]
    have hm : (id, c) ∈ L := by rw [st.eq, eB]; simp
    obtain ⟨b, o, g1, g2, g3, cs, g4, g5⟩ := row_at r os (c1.seq c2) hA .i64
    rw [hLA] at g5
    have t2 : takeN cs (o + 1) 2 = some c := by
      rw [takeN_sub (o' := 1) (m := 2) g5 (by omega)]
      simp only [rowC, List.drop_succ_cons, List.drop_zero]
      rw [← r.len _ hm, List.take_length]
    simp only [if_true, nilV, bindV_some, offV_ptr, loadV_ptr, op2, loadM_cells, partV_one, List.getElem?_cons_zero, Nat.zero_add, g1, g4, partV_agg, t2, Option.map_some]
    refine storeE_all o2 (by simpa [Value.cells] using r.len _ hm) rfl (by simpa [Value.cells] using r.one _ hm) fun h5 c5 n5 o5 => ?_
    simp only [idG_eq]
    exact get_j0 o5 (r.len _ hm) (r.one _ hm) ((c1.seq c2).new c5 (Nat.le_refl _)) (Nat.le_refl _) H
def getN : Abs.Spec := fun args h k => ∃ x : Value, args = [.pointer none, x] ∧ ∀ h', Chg h h' [] → k (ansC none) h'
theorem getN_good : SpecGood Try.prog (46, getN) := by
  refine spec_good mixed Try.func46 (by kernel_rfl) (by kernel_rfl) (tab := []) (by simp) (keep := rack_Get_keep) ?_
  rintro args h k ⟨x, rfl, H⟩
  refine ⟨0, ?_⟩
  show rack_Get (tabC _) idG 0 (.pointer none) x h _
  rw [rack_Get_eq]
  refine allocE_in fun h1 c1 n1 o1 => ?_
  have tk : takeN [.int .u32 0, .int .i64 0] 0 2 = some [.int .u32 0, .int .i64 0] := rfl
  simp only [binNil_ptr_eql, Option.isNone_none, bindV_some, condK_bool, if_true, loadV_ptr, o1, loadM_cells, partV_agg, tk, Option.map_some]
  refine storeE_all o1 rfl rfl rfl fun h5 c5 n5 o5 => ?_
  simp only [loadV_ptr, o5, loadM_cells, partV_agg]
  exact ⟨_, St.le.refl _, H _ (c1.new c5 (Nat.le_refl _))⟩
end Go.Proofs.Ytnelcpabjpchnaa

/- A rack: Put, Add, Drop, Ids. -/
set_option linter.unusedSimpArgs false
set_option linter.unusedVariables false
set_option maxHeartbeats 4000000
namespace Go.Proofs.Ytnelcpabjpchnaa
open Go.Abs Go.IntWalk
attribute [local congr] bindV_weak condK_weak guardK_weak groupK_weak allocE_weak boxE_weak storeE_weak storeM_weak tabC_weak ite_weak idG_weak appendE_weak buildSliceE_weak mapUpdateE_weak deleteE_weak makeMapE_weak copyE_weak clearE_weak callE_weak

/-- A row put into nothing. -/
def rinsN : Abs.Spec := fun args h k => ∃ (p : Nat) (row : List Value), args = [.slice none 0 0, .int .i64 0, .slice (some ⟨p, 0, some 3⟩) 1 0] ∧ h.objs p = some (.cells row true) ∧ row.length = 3 ∧ allOne row = true ∧
  ∀ h' q', Chg h h' [] → h.next ≤ q' → q' < h'.next → h'.objs q' = some (.cells row true) → k (.slice (some ⟨q', 0, some 3⟩) 1 0) h'
theorem rinsN_good : SpecGood Try.prog (48, rinsN) := by
  refine spec_good mixed Try.func48 (by kernel_rfl) (by kernel_rfl) (tab := []) (by simp) (keep := rack_Insert_keep) ?_
  rintro args h k ⟨p, row, rfl, op, lp, ap, H⟩
  refine ⟨0, ?_⟩
  show rack_Insert (tabC []) idG 0 (.slice none 0 0) (.int .i64 0) (.slice (some ⟨p, 0, some 3⟩) 1 0) h _
  rw [rack_Insert_eq]
  have z1 : ¬ ((1 : Nat) : Int) = 0 := by omega
  have c0 : cutS 3 (.slice none 0 0) (some (.int .i64 0)) none = some (.slice none 0 0) := by simp [cutS, loHi]
  have nr : newCells 3 (.slice (some ⟨p, 0, some 3⟩) 1 0) h = some (row, 1) := by
    rw [new_slice op (by omega)]
    rw [List.drop_zero, Nat.one_mul, ← lp, List.take_length]
  simp only [c0, bindV_some, lenS_slice, binNil_int, binV_eql, z1, decide_false, condK_bool, Bool.false_eq_true, if_false, idG_eq]
  simp only [Int.natCast_zero, Int.cast_ofNat_Int, binV_eql, decide_true, bindV_some, condK_bool, if_true]
  unfold appendE
  rw [nr]
  refine ⟨⟨by rw [allOne_eq]; exact ap, by omega, by omega⟩, ?_⟩
  exact ⟨_, St.le.refl _, H _ h.next (Chg.push _ _) (Nat.le_refl _) (by simp) (push_at _ _)⟩
/-! ### Put -/
def rkAns (L : List Rk) (most id : Nat) : Nat := if rightId id = true then (if (rkGet L id).isSome = true ∨ L.length < most then 0 else 10) else 14
def rkNext (L : List Rk) (most id : Nat) (c : List Value) : List Rk := if rkAns L most id = 0 then rkPut L id c else L
theorem flat_split {A B : List Rk} {x : Rk} : (A ++ x :: B).flatMap rowC = A.flatMap rowC ++ rowC x ++ B.flatMap rowC := by simp
def putO : Abs.Spec := fun args h k => ∃ (D : Nat → Prop) (v : Value) (most : Nat) (L : List Rk) (id : Nat) (c : List Value), args = [v, .int .u32 id, .agg c.toArray] ∧ (∀ i, h.next ≤ i → D i) ∧ RkS D h v most L ∧ c.length = 2 ∧ allOne c = true ∧
  ∀ h', ChgP D h h' → RkS D h' v most (rkNext L most id c) → k (.int .i64 (rkAns L most id)) h'
def tabPt : List (FuncId × Abs.Spec) := [(33, rightO), (47, atO), (48, rinsO), (48, rinsN)]
theorem tabPt_good : ∀ p ∈ tabPt, SpecGood Try.prog p := by simp [tabPt, rightO_good, atO_good, rinsO_good, rinsN_good]
theorem put_j0 {nn : Nat} {x0 x1 x5 : Value} {h : St} {k : Cont} (H : k (.int .i64 0) h) : rack_Put_j0 (tabC tabPt) idG nn x0 x1 x5 (.int .i64 0) h (fun v h1 => ∃ h2, St.le h2 h1 ∧ k v h2) := by
  rw [rack_Put_j0_eq]
  exact ⟨h, St.le.refl _, H⟩
theorem putO_good : SpecGood Try.prog (31, putO) := by
  refine spec_good mixed Try.func31 (by kernel_rfl) (by kernel_rfl) (tab := tabPt) tabPt_good (keep := rack_Put_keep) ?_
  rintro args h k ⟨D, v, most, L, id, c, rfl, hD, s, lc, oc, H⟩
  have s' := s
  obtain ⟨p, sv, rfl, dp, pn, op, os, r, few, mm⟩ := s'
  refine ⟨0, ?_⟩
  show rack_Put (tabC _) idG 0 (.pointer (some ⟨p, 0, none⟩)) (.int .u32 (id : Int)) (.agg c.toArray) h _
  rw [rack_Put_eq]
  refine boxE_in (by simpa [Value.cells] using oc) fun h1 c1 n1 o1 => ?_
  have o1 : h1.objs h.next = some (.cells c true) := o1
  have cnil : ∀ {h' : St}, Chg h h' [] → ChgP D h h' := fun c => c.nil D
  simp only [binNil_ptr_eql, Option.isNone_some, bindV_some, condK_bool, Bool.false_eq_true, if_false, idG_eq]
  refine .inl ⟨rfl, id, rfl, ?_⟩
  simp only [unV_not, bindV_some, condK_bool]
  cases hr : rightId id with
  | false =>
    have e : rkAns L most id = 14 := by unfold rkAns; rw [hr]; rfl
    simp only [Bool.not_false, if_true]
    have := H h1 (cnil c1)
    rw [rkNext, e, if_neg (by omega)] at this
    exact ⟨h1, St.le.refl _, this (s.chg0 c1)⟩
  | true =>
    have rid : 1 ≤ id ∧ id ≤ 2147483647 := by simpa [rightId] using hr
    simp only [Bool.not_true, Bool.false_eq_true, if_false, idG_eq]
    refine .inr (.inl ⟨rfl, D, _, most, L, id, rfl, s.chg0 c1, fun h2 A B c2 st => ?_⟩)
    have f := st.found r
    have cc := c1.seq c2
    have op2 := cc.at0 pn op
    have o2 := c2.at0 (by omega) o1
    have fl := flat_len r st
    have tk : takeN c 0 2 = some c := by unfold takeN; rw [if_pos (by omega), List.drop_zero, ← lc, List.take_length]
    simp only [extV_two0, extV_two1, bindV_some, condK_bool]
    cases hh : headId B id with
    | true =>
      obtain ⟨c', B', eB, hg⟩ := f.1 hh
      have e : rkAns L most id = 0 := by unfold rkAns; rw [hr, hg]; rfl
      have eL : L = A ++ (id, c') :: B' := by rw [st.eq, eB]
      have hA : A.length < L.length := by rw [eL]; simp
      have eN : rkNext L most id c = A ++ (id, c) :: B' := by rw [rkNext, if_pos e, st.put, eB, rkPut_in]
      rcases os with ⟨_, h0, _⟩ | ⟨q, rfl, q2, q3, q4, q5⟩
      · omega
      have q42 := cc.at0 q3 q4
      have m2 := cc.1
      have hA' : ((A.length : Nat) : Int) < (L.length : Nat) := by omega
      simp only [if_true, nilV, bindV_some, offV_ptr, loadV_ptr, op2, loadM_cells, partV_one, List.getElem?_cons_zero, Nat.zero_add]
      refine ⟨trivial, ?_⟩
      simp only [loadV_ptr, o2, loadM_cells, partV_agg, tk, Option.map_some, bindV_some]
      refine ⟨trivial, ?_⟩
      simp only [idxS, Int.natCast_nonneg, hA', and_self, if_true, bindV_some, offV_ptr, Int.toNat_natCast, Nat.zero_add]
      have lr : (rowC (id, c')).length = 3 := r.row _ (by rw [eL]; simp)
      have lf : (L.flatMap rowC).length = L.length * 3 := q5
      have le1 : (A.length + 1) * 3 ≤ L.length * 3 := Nat.mul_le_mul_right _ hA
      rw [Nat.add_mul] at le1
      have ecs : (L.flatMap rowC).take (A.length * 3 + 1) ++ c ++ (L.flatMap rowC).drop (A.length * 3 + 1 + 2) = (A ++ (id, c) :: B').flatMap rowC := by
        rw [flat_split, eL, flat_split, ← fl]
        have t1 : (A.flatMap rowC ++ rowC (id, c') ++ B'.flatMap rowC).take ((A.flatMap rowC).length + 1) = A.flatMap rowC ++ [.int .u32 (id : Int)] := by
          rw [List.append_assoc, List.take_append, Nat.add_sub_cancel_left, List.take_of_length_le (by omega)]
          rfl
        have t2 : (A.flatMap rowC ++ rowC (id, c') ++ B'.flatMap rowC).drop ((A.flatMap rowC).length + 1 + 2) = B'.flatMap rowC := by
          rw [List.drop_append, List.drop_of_length_le (by rw [List.length_append, lr]; omega), List.nil_append, List.length_append, lr]
          have : (A.flatMap rowC).length + 1 + 2 - ((A.flatMap rowC).length + 3) = 0 := by omega
          rw [this, List.drop_zero]
        rw [t1, t2]
        simp [rowC]
      refine storeE_in q42 _ (by simpa [Value.cells] using lc) (by rw [lf]; omega) (by simpa [Value.cells] using oc) (by simpa [Value.cells] using ecs) fun h5 c5 n5 o5 => ?_
      refine ⟨⟨trivial, trivial, trivial⟩, ?_⟩
      refine put_j0 ?_
      have := H h5 ((cnil cc).new c5 (.inl q2.1))
      rw [eN, e] at this
      refine this ⟨p, _, rfl, dp, by omega, c5.at1 (by omega) (fun e => q2.2 e.symm) op2, ?_, ?_, ?_, mm⟩
      · refine .inr ⟨q, ?_, q2, by omega, by simpa using o5, ?_⟩
        · rw [eL]; simp
        · rw [← ecs]
          simp only [List.length_append, List.length_take, List.length_drop, lf, lc, List.length_cons]
          rw [eL] at le1 ⊢
          simp only [List.length_append, List.length_cons] at le1 ⊢
          omega
      · have := r.put (c := c) rid.1 rid.2 lc oc (by rw [st.put, eB, rkPut_in]; rw [eL] at few; simp at few ⊢; omega)
        rw [st.put, eB, rkPut_in] at this
        exact this
      · rw [eL] at few; simpa using few
    | false =>
      obtain ⟨hg, hB⟩ := f.2 hh
      have put_out : rkPut L id c = A ++ (id, c) :: B := by rw [st.put, rkPut_out hB]
      simp only [Bool.false_eq_true, if_false, nilV, bindV_some, offV_ptr, loadV_ptr, op2, loadM_cells, partV_one, List.getElem?_cons_zero, Nat.zero_add]
      refine ⟨trivial, ?_⟩
      have ln : lenS sv = some (.int .i64 L.length) := os.len
      simp only [ln, nilV, bindV_some, offV_ptr, loadV_ptr, op2, loadM_cells, partV_one, List.getElem?_cons_succ, List.getElem?_cons_zero, Nat.zero_add]
      refine ⟨trivial, ?_⟩
      simp only [binV_geq, bindV_some, condK_bool, decide_eq_true_eq]
      by_cases hm : most ≤ L.length
      · have hm' : ((L.length : Nat) : Int) ≥ (most : Int) := by omega
        have e : rkAns L most id = 10 := by unfold rkAns; rw [hr, hg, if_pos rfl, if_neg (by simp; omega)]
        rw [if_pos hm']
        have := H h2 (cnil cc)
        rw [rkNext, e, if_neg (by omega)] at this
        exact ⟨h2, St.le.refl _, this (s.chg0 cc)⟩
      · have hm' : ¬ ((L.length : Nat) : Int) ≥ (most : Int) := by omega
        have e : rkAns L most id = 0 := by unfold rkAns; rw [hr, hg, if_pos rfl, if_pos (by simp; omega)]
        have eN : rkNext L most id c = A ++ (id, c) :: B := by rw [rkNext, if_pos e, put_out]
        have rn := r.put (c := c) rid.1 rid.2 lc oc (by rw [put_out, List.length_append, List.length_cons]; have := congrArg List.length st.eq; rw [List.length_append] at this; omega)
        rw [put_out] at rn
        have lN : (A ++ (id, c) :: B).length = L.length + 1 := by rw [st.eq]; simp; omega
        rw [if_neg hm']
        simp only [nilV, bindV_some, offV_ptr, loadV_ptr, op2, loadM_cells, partV_one, List.getElem?_cons_zero, Nat.zero_add]
        refine ⟨trivial, ?_⟩
        simp only [loadV_ptr, o2, loadM_cells, partV_agg, tk, Option.map_some, bindV_some]
        refine ⟨trivial, ?_⟩
        have bv : buildV [.int .u32 0, .int .u32 0, .int .i64 0] (some [(0, 1, .int .u32 (id : Int)), (1, 2, .agg c.toArray)]) = some (.agg (rowC (id, c)).toArray) := by
          have : c.toArray.size = 2 := by simpa using lc
          simp [buildV, fillL, isUnk, Value.cells, lc, rowC]
        simp only [bv, bindV_some]
        refine buildSliceE_in (rowC (id, c)) ?_ ?_ ?_ fun h3 c3 n3 o3 => ?_
        · have : (rowC (id, c)).length = 3 := by simp [rowC, lc]
          simp only [fillL, repL, List.append_nil, Nat.zero_mul, Nat.zero_add, Value.cells]
          rw [if_pos ⟨by simpa using this, by simp⟩]
          simp
        · simp only [rowC, allOne, oc, one, Bool.and_true]
        · simp [isUnk]
        have cc3 := cc.seq c3
        have op3 := cc3.at0 pn op
        refine ⟨⟨trivial, by simp only [loadV_ptr, op3, loadM_cells, partV_one, List.getElem?_cons_zero], trivial⟩, ?_⟩
        have rl : (rowC (id, c)).length = 3 := by simp [rowC, lc]
        have r1 : allOne (rowC (id, c)) = true := by simp only [rowC, allOne, oc, one, Bool.and_true]
        -- what the row becomes
        have fin : ∀ h4 q', ChgP D h h4 → h4.objs p = some (.cells [sv, .int .i64 (most : Int)] true) → D q' → q' ≠ p → q' < h4.next → h4.objs q' = some (.cells ((A ++ (id, c) :: B).flatMap rowC) true) →
            (True ∧ True ∧ True) ∧ bindV (nilV (.pointer (some ⟨p, 0, none⟩))) fun v31 => bindV (offV 0 v31) fun v32 => storeE 1 v32 (.slice (some ⟨q', 0, some 3⟩) (L.length + 1) 0) h4 fun _ h9 => (True ∧ True ∧ True) ∧ idG (rack_Put_j0 (tabC tabPt) idG 0 (.pointer (some ⟨p, 0, none⟩)) (.int .u32 (id : Int)) (.pointer (some ⟨h.next, 0, none⟩)) (.int .i64 0) h9 (fun v h1 => ∃ h2, St.le h2 h1 ∧ k v h2)) := by
          intro h4 q' c4 op4 dq qp qn oq
          refine ⟨⟨trivial, trivial, trivial⟩, ?_⟩
          have pn4 : p < h4.next := Nat.lt_of_lt_of_le pn c4.1
          simp only [nilV, bindV_some, offV_ptr, Nat.zero_add]
          refine storeE_in op4 [.slice (some ⟨q', 0, some 3⟩) (L.length + 1) 0, .int .i64 (most : Int)] rfl (by simp) rfl rfl fun h9 c9 n9 o9 => ?_
          refine ⟨⟨trivial, trivial, trivial⟩, ?_⟩
          simp only [idG_eq]
          refine put_j0 ?_
          have := H h9 (c4.of_chg c9 (by simp; exact .inl dp))
          rw [eN, e] at this
          refine this ⟨p, _, rfl, dp, by omega, o9, .inr ⟨q', by rw [lN], ⟨dq, qp⟩, by omega, c9.at1 qn qp oq, ?_⟩, rn, by omega, mm⟩
          have : ∀ x ∈ A ++ (id, c) :: B, (rowC x).length = 3 := rn.row
          exact flat_len (L := A ++ (id, c) :: B) (A := A ++ (id, c) :: B) (B := []) (id := 4294967296) rn ⟨by simp, fun x hx => by have := (rn.ids x hx).2; omega, by simp⟩
        have eflat : (L.flatMap rowC).take (A.length * 3) ++ rowC (id, c) ++ (L.flatMap rowC).drop (A.length * 3) = (A ++ (id, c) :: B).flatMap rowC := by
          rw [flat_split, st.eq, List.flatMap_append, ← fl, List.take_left, List.drop_left]
        have lA : A.length ≤ L.length := by rw [st.eq]; simp
        rcases os with ⟨rfl, h0, _⟩ | ⟨q, rfl, q2, q3, q4, q5⟩
        · have hL : L = [] := List.length_eq_zero_iff.1 h0
          have hA0 : A = [] ∧ B = [] := by have := st.eq; rw [hL] at this; simpa using this.symm
          obtain ⟨rfl, rfl⟩ := hA0
          refine .inr (.inr (.inr (.inl ⟨rfl, h2.next, rowC (id, c), rfl, o3, rl, r1, fun h4 q' c4 qn1 qn2 oq => ?_⟩)))
          subst hL
          have m3 := cc3.1
          refine fin h4 q' (cnil (cc3.seq c4)) ((cc3.seq c4).at0 pn op) (hD _ (by omega)) (by omega) qn2 ?_
          rw [oq]; simp
        · have m3 := cc3.1
          have m2 := cc.1
          refine .inr (.inr (.inl ⟨rfl, q, L.length, A.length, h2.next, L.flatMap rowC, rowC (id, c), rfl, by omega, lA, by omega, cc3.at0 q3 q4, q5, r.flat1, by omega, by omega, o3, rl, r1, fun h4 q' c4 qor qn2 oq => ?_⟩))
          rw [eflat] at oq
          have qp : q' ≠ p := by
            rcases qor with rfl | hq
            · exact q2.2
            · omega
          refine fin h4 q' ((cnil cc3).of_chg c4 (by simp; exact .inl q2.1)) (c4.at1 (by omega) (fun e => q2.2 e.symm) op3) ?_ qp qn2 oq
          rcases qor with rfl | hq
          · exact q2.1
          · exact hD _ (by omega)
def putN : Abs.Spec := fun args h k => ∃ (x : Value) (c : List Value), args = [.pointer none, x, .agg c.toArray] ∧ allOne c = true ∧ ∀ h', Chg h h' [] → k (.int .i64 10) h'
theorem putN_good : SpecGood Try.prog (31, putN) := by
  refine spec_good mixed Try.func31 (by kernel_rfl) (by kernel_rfl) (tab := []) (by simp) (keep := rack_Put_keep) ?_
  rintro args h k ⟨x, c, rfl, oc, H⟩
  refine ⟨0, ?_⟩
  show rack_Put (tabC _) idG 0 (.pointer none) x (.agg c.toArray) h _
  rw [rack_Put_eq]
  refine boxE_in (by simpa [Value.cells] using oc) fun h1 c1 n1 o1 => ?_
  simp only [binNil_ptr_eql, Option.isNone_none, bindV_some, condK_bool, if_true]
  exact ⟨h1, St.le.refl _, H h1 c1⟩
end Go.Proofs.Ytnelcpabjpchnaa

/- A rack: Add, Drop, Ids. -/
set_option linter.unusedSimpArgs false
set_option linter.unusedVariables false
set_option maxHeartbeats 4000000
namespace Go.Proofs.Ytnelcpabjpchnaa
open Go.Abs Go.IntWalk
attribute [local congr] bindV_weak condK_weak guardK_weak groupK_weak allocE_weak boxE_weak storeE_weak storeM_weak tabC_weak ite_weak idG_weak appendE_weak buildSliceE_weak mapUpdateE_weak deleteE_weak makeMapE_weak copyE_weak clearE_weak callE_weak

theorem get_len {L : List Rk} (r : RkL L) (id : Nat) : ((rkGet L id).getD zeroC).length = 2 ∧ allOne ((rkGet L id).getD zeroC) = true := by
  have : ∀ M : List Rk, (∀ x ∈ M, x ∈ L) → ((rkGet M id).getD zeroC).length = 2 ∧ allOne ((rkGet M id).getD zeroC) = true := by
    intro M
    induction M with
    | nil => intro _; exact ⟨rfl, rfl⟩
    | cons x M ih =>
      intro hM
      rw [rkGet]
      split
      · exact ⟨r.len x (hM x (List.mem_cons_self ..)), r.one x (hM x (List.mem_cons_self ..))⟩
      · exact ih fun y hy => hM y (List.mem_cons_of_mem _ hy)
  exact this L fun _ h => h
/-! ### Add -/
def rkAddAns (L : List Rk) (most id : Nat) : Nat := if (rkGet L id).isSome = true then 11 else rkAns L most id
def rkAddNext (L : List Rk) (most id : Nat) (c : List Value) : List Rk := if rkAddAns L most id = 0 then rkPut L id c else L
def addO : Abs.Spec := fun args h k => ∃ (D : Nat → Prop) (v : Value) (most : Nat) (L : List Rk) (id : Nat) (c : List Value), args = [v, .int .u32 id, .agg c.toArray] ∧ (∀ i, h.next ≤ i → D i) ∧ RkS D h v most L ∧ c.length = 2 ∧ allOne c = true ∧
  ∀ h', ChgP D h h' → RkS D h' v most (rkAddNext L most id c) → k (.int .i64 (rkAddAns L most id)) h'
theorem addO_good : SpecGood Try.prog (26, addO) := by
  refine spec_good mixed Try.func26 (by kernel_rfl) (by kernel_rfl) (tab := [(46, getO), (31, putO)]) (by simp [getO_good, putO_good]) (keep := rack_Add_keep) ?_
  rintro args h k ⟨D, v, most, L, id, c, rfl, hD, s, lc, oc, H⟩
  refine ⟨0, ?_⟩
  show rack_Add (tabC _) idG 0 v (.int .u32 (id : Int)) (.agg c.toArray) h _
  rw [rack_Add_eq]
  refine boxE_in (by simpa [Value.cells] using oc) fun h1 c1 n1 o1 => ?_
  have o1 : h1.objs h.next = some (.cells c true) := o1
  refine .inl ⟨rfl, D, v, most, L, id, rfl, s.chg0 c1, fun h2 c2 => ?_⟩
  have cc := c1.seq c2
  have gl := get_len s.rows id
  simp only [ansC, extV_two0, extV_two1, bindV_some]
  refine allocE_in fun h3 c3 n3 o3 => ?_
  refine storeE_all o3 (by simpa [Value.cells] using gl.1) rfl (by simpa [Value.cells] using gl.2) fun h4 c4 n4 o4 => ?_
  have cc4 := (cc.seq c3).new c4 (by have := cc.1; omega)
  have s4 := s.chg0 cc4
  simp only [condK_bool]
  cases hg : (rkGet L id).isSome with
  | true =>
    have e : rkAddAns L most id = 11 := by rw [rkAddAns, if_pos hg]
    rw [if_pos rfl]
    have := H h4 (cc4.nil D)
    rw [rkAddNext, e, if_neg (by omega)] at this
    exact ⟨h4, St.le.refl _, this s4⟩
  | false =>
    have e : rkAddAns L most id = rkAns L most id := by rw [rkAddAns, if_neg (by rw [hg]; simp)]
    have tk : takeN c 0 2 = some c := by unfold takeN; rw [if_pos (by omega), List.drop_zero, ← lc, List.take_length]
    have n2 := c2.1
    have oo : h4.objs h.next = some (.cells c true) := c4.at1 (by omega) (by omega) (c3.at0 (by omega) (c2.at0 (by omega) o1))
    simp only [Bool.false_eq_true, if_false, idG_eq, loadV_ptr, oo, loadM_cells, partV_agg, tk, Option.map_some, bindV_some]
    refine .inr (.inl ⟨rfl, D, v, most, L, id, c, rfl, fun i hi => hD i (Nat.le_trans cc4.1 hi), s4, lc, oc, fun h' c' s' => ?_⟩)
    have := H h' ((cc4.nil D).step c')
    rw [rkAddNext, e] at this
    exact ⟨h', St.le.refl _, this s'⟩
def addN : Abs.Spec := fun args h k => ∃ (x : Value) (c : List Value), args = [.pointer none, x, .agg c.toArray] ∧ c.length = 2 ∧ allOne c = true ∧ ∀ h', Chg h h' [] → k (.int .i64 10) h'
theorem addN_good : SpecGood Try.prog (26, addN) := by
  refine spec_good mixed Try.func26 (by kernel_rfl) (by kernel_rfl) (tab := [(46, getN), (31, putN)]) (by simp [getN_good, putN_good]) (keep := rack_Add_keep) ?_
  rintro args h k ⟨x, c, rfl, lc, oc, H⟩
  refine ⟨0, ?_⟩
  show rack_Add (tabC _) idG 0 (.pointer none) x (.agg c.toArray) h _
  rw [rack_Add_eq]
  refine boxE_in (by simpa [Value.cells] using oc) fun h1 c1 n1 o1 => ?_
  have o1 : h1.objs h.next = some (.cells c true) := o1
  refine .inl ⟨rfl, x, rfl, fun h2 c2 => ?_⟩
  simp only [ansC, extV_two0, extV_two1, bindV_some]
  refine allocE_in fun h3 c3 n3 o3 => ?_
  refine storeE_all o3 rfl rfl rfl fun h4 c4 n4 o4 => ?_
  have n2 := c2.1
  have oo : h4.objs h.next = some (.cells c true) := c4.at1 (by omega) (by omega) (c3.at0 (by omega) (c2.at0 (by omega) o1))
  have tk : takeN c 0 2 = some c := by unfold takeN; rw [if_pos (by omega), List.drop_zero, ← lc, List.take_length]
  simp only [Option.isSome_none, condK_bool, Bool.false_eq_true, if_false, idG_eq, loadV_ptr, oo, loadM_cells, partV_agg, tk, Option.map_some, bindV_some]
  refine .inr (.inl ⟨rfl, x, c, rfl, oc, fun h' c' => ?_⟩)
  exact ⟨h', St.le.refl _, H h' ((((c1.seq c2).seq c3).new c4 (by omega)).seq c')⟩
/-! ### Drop -/
def dropO : Abs.Spec := fun args h k => ∃ (D : Nat → Prop) (v : Value) (most : Nat) (L : List Rk) (id : Nat), args = [v, .int .u32 id] ∧ (∀ i, h.next ≤ i → D i) ∧ RkS D h v most L ∧
  ∀ h', ChgP D h h' → RkS D h' v most (rkDrop L id) → k (ansC (rkGet L id)) h'
def tabDr : List (FuncId × Abs.Spec) := [(46, getO), (47, atO), (49, rdelO)]
theorem drop_j0 {nn b6 b4 : Nat} {x5 : Value} {cs z : List Value} {is : Bool} {h : St} {k : Cont} (o6 : h.objs b6 = some (.cells cs true)) (o4 : h.objs b4 = some (.cells z true)) (lc : cs.length = 2) (lz : z.length = 2) (oc : allOne cs = true)
    (H : ∀ h', Chg h h' [b4] → k (.tuple #[.agg cs.toArray, .bool is]) h') : rack_Drop_j0 (tabC tabDr) idG nn (.pointer (some ⟨b4, 0, none⟩)) x5 (.pointer (some ⟨b6, 0, none⟩)) (.bool is) h (fun v h1 => ∃ h2, St.le h2 h1 ∧ k v h2) := by
  rw [rack_Drop_j0_eq]
  have tk : takeN cs 0 2 = some cs := by unfold takeN; rw [if_pos (by omega), List.drop_zero, ← lc, List.take_length]
  simp only [loadV_ptr, o6, loadM_cells, partV_agg, tk, Option.map_some, bindV_some]
  refine storeE_all o4 (by simpa [Value.cells] using lc) lz (by simpa [Value.cells] using oc) fun h5 c5 n5 o5 => ?_
  have o5 : h5.objs b4 = some (.cells cs true) := o5
  simp only [loadV_ptr, o5, loadM_cells, partV_agg, tk, Option.map_some, bindV_some]
  exact ⟨_, St.le.refl _, H _ c5⟩
theorem rkDrop_none : ∀ {L : List Rk} {id : Nat}, rkGet L id = none → rkDrop L id = L
  | [], _, _ => rfl
  | x :: L, id, h => by
    rw [rkGet] at h
    split at h
    · cases h
    · rename_i hn
      rw [rkDrop, if_neg hn, rkDrop_none h]
theorem dropO_good : SpecGood Try.prog (34, dropO) := by
  refine spec_good mixed Try.func34 (by kernel_rfl) (by kernel_rfl) (tab := tabDr) (by simp [tabDr, getO_good, atO_good, rdelO_good]) (keep := rack_Drop_keep) ?_
  rintro args h k ⟨D, v, most, L, id, rfl, hD, s, H⟩
  have s' := s
  obtain ⟨p, sv, rfl, dp, pn, op, os, r, few, mm⟩ := s'
  refine ⟨0, ?_⟩
  show rack_Drop (tabC _) idG 0 (.pointer (some ⟨p, 0, none⟩)) (.int .u32 (id : Int)) h _
  rw [rack_Drop_eq]
  refine allocE_in fun h1 c1 n1 o1 => ?_
  refine .inl ⟨rfl, D, _, most, L, id, rfl, s.chg0 c1, fun h2 c2 => ?_⟩
  have gl := get_len r id
  have n2 := c2.1
  simp only [ansC, extV_two0, extV_two1, bindV_some]
  refine allocE_in fun h3 c3 n3 o3 => ?_
  refine storeE_all o3 (by simpa [Value.cells] using gl.1) rfl (by simpa [Value.cells] using gl.2) fun h4 c4 n4 o4 => ?_
  have o4 : h4.objs h2.next = some (.cells ((rkGet L id).getD zeroC) true) := o4
  have cc : Chg h h4 [] := ((c1.seq c2).seq c3).new c4 (by omega)
  have o14 : h4.objs h.next = some (.cells [.int .u32 0, .int .i64 0] true) := c4.at1 (by omega) (by omega) (c3.at0 (by omega) (c2.at0 (by omega) o1))
  simp only [condK_bool]
  cases hg : rkGet L id with
  | none =>
    rw [hg] at o4 gl
    simp only [Option.isSome_none, Bool.false_eq_true, if_false, idG_eq]
    refine drop_j0 o4 o14 gl.1 rfl gl.2 fun h' c' => ?_
    have := H h' ((cc.nil D).of_chg c' (by simp))
    rw [hg, rkDrop_none hg] at this
    exact this (s.chg0 (cc.new c' (Nat.le_refl _)))
  | some cv =>
    rw [hg] at o4 gl
    simp only [Option.isSome_some, if_true]
    refine .inr (.inl ⟨rfl, D, _, most, L, id, rfl, s.chg0 cc, fun h5 A B c5 st => ?_⟩)
    have f := st.found r
    have hh : headId B id = true := by
      cases hb : headId B id with
      | true => rfl
      | false => have := (f.2 hb).1; rw [hg] at this; cases this
    obtain ⟨c', B', eB, _⟩ := f.1 hh
    have eL : L = A ++ (id, c') :: B' := by rw [st.eq, eB]
    have hA : A.length < L.length := by rw [eL]; simp
    have cc5 := cc.seq c5
    have op5 := cc5.at0 pn op
    have n5 := c5.1
    have o45 := c5.at0 (by omega) o4
    have o15 := c5.at0 (by omega) o14
    have mm5 := cc5.1
    rcases os with ⟨_, h0, _⟩ | ⟨q, rfl, q2, q3, q4, q5⟩
    · omega
    have w : IntKind.i64.wrap ((A.length : Int) + 1) = ((A.length + 1 : Nat) : Int) := by rw [i64_in _ (by omega)]; omega
    simp only [extV_two0, extV_two1, bindV_some, nilV, offV_ptr, loadV_ptr, op5, loadM_cells, partV_one, List.getElem?_cons_zero, Nat.zero_add, binNil_int, binV_add, w]
    refine .inr (.inr (.inl ⟨rfl, q, L.length, A.length, _, rfl, by omega, hA, by omega, cc5.at0 q3 q4, q5, r.flat1, fun h6 c6 o6 => ?_⟩))
    have fl := flat_len r st
    have lr : (rowC (id, c')).length = 3 := r.row _ (by rw [eL]; simp)
    have ecs : (L.flatMap rowC).take (A.length * 3) ++ (L.flatMap rowC).drop ((A.length + 1) * 3) = (A ++ B').flatMap rowC := by
      rw [eL, flat_split, List.flatMap_append, Nat.add_mul, Nat.one_mul, ← fl]
      congr 1
      · rw [List.append_assoc, List.take_left]
      · rw [← lr, ← List.length_append, List.drop_left]
    rw [ecs] at o6
    have op6 := c6.at1 (by omega) (fun e => q2.2 e.symm) op5
    have o46 := c6.at1 (by omega) (by omega) o45
    have o16 := c6.at1 (by omega) (by omega) o15
    have n6 := c6.1
    simp only [nilV, bindV_some, offV_ptr, Nat.zero_add]
    refine storeE_in op6 [.slice (some ⟨q, 0, some 3⟩) (L.length - 1) 0, .int .i64 (most : Int)] rfl (by simp) rfl rfl fun h7 c7 n7 o7 => ?_
    simp only [idG_eq]
    refine drop_j0 (c7.at1 (by omega) (by omega) o46) (c7.at1 (by omega) (by omega) o16) gl.1 rfl gl.2 fun h8 c8 => ?_
    have e8 : rkDrop L id = A ++ B' := by rw [st.drop, eB, rkDrop_in]
    have ch : ChgP D h h8 := (((cc5.nil D).of_chg c6 (by simp; exact .inl q2.1)).of_chg c7 (by simp; exact .inl dp)).of_chg c8 (by simp)
    have := H h8 ch
    rw [hg, e8] at this
    have sub : (A ++ B').Sublist L := by rw [← e8]; exact rkDrop_sub L id
    have ll : (A ++ B').length = L.length - 1 := by rw [eL]; simp
    have n8 := c8.1
    refine this ⟨p, _, rfl, dp, by omega, c8.at1 (by omega) (by omega) o7, .inr ⟨q, by rw [ll], q2, by omega, c8.at1 (by omega) (by omega) (c7.at1 (by omega) (fun e => q2.2 e) o6), ?_⟩, r.sub sub, by omega, mm⟩
    have rs := r.sub sub
    exact flat_len (L := A ++ B') (A := A ++ B') (B := []) (id := 4294967296) rs ⟨by simp, fun x hx => by have := (rs.ids x hx).2; omega, by simp⟩
/-! ### Ids -/
def idC (x : Rk) : Value := .int .u32 (x.1 : Int)
def idsO : Abs.Spec := fun args h k => ∃ (D : Nat → Prop) (v : Value) (most : Nat) (L : List Rk), args = [v] ∧ RkS D h v most L ∧
  ∀ h' sv, Chg h h' [] → OwnS (fun i => h.next ≤ i) h' sv 1 (L.map idC) L.length → k sv h'
theorem ids_l0 {nn : Nat} {x2 sv : Value} {D : Nat → Prop} {L : List Rk} {h0 : St} {k : Cont} (r : RkL L) (os : OwnS D h0 sv 3 (L.flatMap rowC) L.length)
    (H : ∀ h' out, Chg h0 h' [] → OwnS (fun i => h0.next ≤ i) h' out 1 (L.map idC) L.length → k out h') :
    ∀ (d i m0 : Nat) (h : St) (out : Value), i + d = L.length → d < m0 → Chg h0 h [] → OwnS (fun i => h0.next ≤ i) h out 1 ((L.take i).map idC) i →
      rack_Ids_l0 (tabC []) idG nn m0 x2 out sv (.int .i64 (L.length : Int)) (.int .i64 (i : Int)) h (fun v h1 => ∃ h2, St.le h2 h1 ∧ k v h2) := by
  intro d
  induction d with
  | zero =>
    intro i m0 h out hi hm c o
    obtain ⟨m0, rfl⟩ : ∃ m, m0 = m + 1 := ⟨m0 - 1, by omega⟩
    rw [rack_Ids_l0_eq]
    have e' : i = L.length := by omega
    subst e'
    rw [List.take_length] at o
    simp only [bindV_some, binV_lss, condK_bool, Int.lt_irrefl, decide_false, Bool.false_eq_true, if_false, idG_eq]
    rw [rack_Ids_j1_eq]
    exact ⟨h, St.le.refl _, H h out c o⟩
  | succ d ih =>
    intro i m0 h out hi hm c o
    obtain ⟨m0, rfl⟩ : ∃ m, m0 = m + 1 := ⟨m0 - 1, by omega⟩
    rw [rack_Ids_l0_eq]
    have hlt : (i : Int) < L.length := by omega
    have few := r.few
    have inc : IntKind.i64.wrap ((i : Int) + 1) = ((i + 1 : Nat) : Int) := by rw [i64_in _ (by omega)]; omega
    obtain ⟨b, oo, g1, g2, g3, cs, g4, g5⟩ := row_at r os c (show i < L.length by omega) .i64
    have rl : (rowC L[i]).length = 3 := r.row _ (List.getElem_mem _)
    have r1 : allOne (rowC L[i]) = true := by simp only [rowC, allOne, r.one _ (List.getElem_mem _), one, Bool.and_true]
    simp only [bindV_some, binV_lss, condK_bool, hlt, decide_true, if_true, idG_eq, g1, loadV_ptr, g4, loadM_cells, partV_agg, g5, Option.map_some]
    refine allocE_in fun h1 c1 n1 o1 => ?_
    refine storeE_all o1 (by simpa [Value.cells] using rl) rfl (by simpa [Value.cells] using r1) fun h2 c2 n2 o2 => ?_
    have o2 : h2.objs h.next = some (.cells (rowC L[i]) true) := o2
    have c02 : Chg h h2 [] := c1.new c2 (Nat.le_refl _)
    have cc : Chg h0 h2 [] := c.seq c02
    have out2 : OwnS (fun i => h0.next ≤ i) h2 out 1 ((L.take i).map idC) i := o.chg c02 (by simp)
    have nn0 := cc.1
    simp only [offV_ptr, bindV_some, loadV_ptr, o2, loadM_cells, partV_one, rowC, List.getElem?_cons_zero, Nat.zero_add]
    refine append_row (B := fun i => h0.next ≤ i) (fun j hj => by omega) out2 rfl rfl rfl rfl (by omega) (by omega) fun h3 out3 c3 s3 => ?_
    have cc3 : Chg h0 h3 [] := ((cc.nil (fun i => h0.next ≤ i)).step c3).list fun j h1 h2 => by omega
    have ext : (L.take i).map idC ++ [.int .u32 (L[i].1 : Int)] = (L.take (i + 1)).map idC := by
      rw [List.take_succ_eq_append_getElem (by omega), List.map_append]; rfl
    have s3 : OwnS (fun i => h0.next ≤ i) h3 out3 1 ((L.take (i + 1)).map idC) (i + 1) := by rw [← ext]; exact s3
    simp only [idG_eq, binNil_int, binV_add, bindV_some, inc]
    exact ih (i + 1) m0 h3 out3 (by omega) (by omega) cc3 s3
theorem idsO_good : SpecGood Try.prog (38, idsO) := by
  refine spec_good mixed Try.func38 (by kernel_rfl) (by kernel_rfl) (tab := []) (by simp) (keep := rack_Ids_keep) ?_
  rintro args h k ⟨D, v, most, L, rfl, ⟨p, sv, rfl, dp, pn, op, os, r, _⟩, H⟩
  refine ⟨L.length + 1, ?_⟩
  show rack_Ids (tabC _) idG _ (.pointer (some ⟨p, 0, none⟩)) h _
  rw [rack_Ids_eq]
  have ln : lenS sv = some (.int .i64 L.length) := os.len
  simp only [binNil_ptr_neq, Option.isNone_some, Bool.not_false, bindV_some, condK_bool, if_true, nilV, offV_ptr, loadV_ptr, op, loadM_cells, partV_one, List.getElem?_cons_zero, Nat.zero_add, ln, idG_eq]
  exact ids_l0 r os H L.length 0 _ h _ (by omega) (by omega) (Chg.refl _ _) (.inl ⟨rfl, rfl, rfl⟩)
def idsN : Abs.Spec := fun args h k => args = [.pointer none] ∧ k (.slice none 0 0) h
theorem idsN_good : SpecGood Try.prog (38, idsN) := by
  refine spec_good mixed Try.func38 (by kernel_rfl) (by kernel_rfl) (tab := []) (by simp) (keep := rack_Ids_keep) ?_
  rintro args h k ⟨rfl, H⟩
  refine ⟨0, ?_⟩
  show rack_Ids (tabC _) idG _ (.pointer none) h _
  rw [rack_Ids_eq]
  simp only [binNil_ptr_neq, Option.isNone_none, Bool.not_true, bindV_some, condK_bool, Bool.false_eq_true, if_false, idG_eq]
  rw [rack_Ids_j1_eq]
  exact ⟨h, St.le.refl _, H⟩
end Go.Proofs.Ytnelcpabjpchnaa
