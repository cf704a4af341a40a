/- The document's pool, walked: an act. -/
import Derived.Test.YtomjbkembmimbaaK
set_option linter.unusedSimpArgs false
set_option linter.unusedVariables false
set_option maxHeartbeats 4000000
namespace Go.Proofs.Ytomjbkembmimbaa
open Go.Abs Go.IntWalk
attribute [local congr] bindV_weak condK_weak guardK_weak groupK_weak allocE_weak boxE_weak storeE_weak storeM_weak tabC_weak ite_weak idG_weak

def refDoS : Abs.Spec := fun args h k => ∃ (B : Nat → Prop) (s : Value) (A : List Inst) (beat : Int) (a : Act), args = [encR s beat, .int .u8 a.d, .int .u32 a.id, .int .u32 a.m, .int .i64 a.now] ∧ a.id < 4294967296 ∧ 0 ≤ a.m ∧ A.length ≤ 16 ∧ SliceAt B h s A.length 3 (rowI A) ∧ (∀ x ∈ A, okI x) ∧
  ∀ h' s', Chg h h' [] → SliceAt (fun i => B i ∨ h.next ≤ i) h' s' (doR A beat a).1.length 3 (rowI (doR A beat a).1) → k (.tuple #[encR s' beat, .int .u32 (doR A beat a).2.1, .int .i64 (doR A beat a).2.2]) h'
def tabR : List (FuncId × Abs.Spec) := [(33, refGetS), (34, refWithS), (35, refRightS)]
theorem tabR_good : ∀ p ∈ tabR, SpecGood Try.prog p := by simp [tabR, refGetS_good, refWithS_good, refRightS_good]
theorem bv3 (a b c : Value) (ha : one a = true) (hb : one b = true) (hc : one c = true) (ua : a.cells = #[a]) (ub : b.cells = #[b]) (uc : c.cells = #[c]) (ka : isUnk a = false) (kb : isUnk b = false) (kc : isUnk c = false) :
    buildV [.int .i64 0, .int .u32 0, .int .i64 0] (some [(0, 1, a), (1, 1, b), (2, 1, c)]) = some (.agg #[a, b, c]) := by simp [buildV, fillL, ua, ub, uc, ka, kb, kc]
theorem bv2 (a c : Int) : buildV [.int .i64 0, .int .u32 0, .int .i64 0] (some [(0, 1, .int .i64 a), (2, 1, .int .i64 c)]) = some (.agg #[.int .i64 a, .int .u32 0, .int .i64 c]) := by simp [buildV, fillL]
theorem bv3i (a b c : Int) : buildV [.int .i64 0, .int .u32 0, .int .i64 0] (some [(0, 1, .int .i64 a), (1, 1, .int .u32 b), (2, 1, .int .i64 c)]) = some (.agg #[.int .i64 a, .int .u32 b, .int .i64 c]) := by simp [buildV, fillL]
theorem bv1 (a : Int) : buildV [.int .i64 0, .int .u32 0, .int .i64 0] (some [(0, 1, .int .i64 a)]) = some (.agg #[.int .i64 a, .int .u32 0, .int .i64 0]) := by simp [buildV, fillL]
theorem refDoS_good : SpecGood Try.prog (19, refDoS) := by
  refine spec_good mixed Try.func19 (by kernel_rfl) (by kernel_rfl) tabR_good (keep := tiltyardref21_Do_keep) ?_
  rintro args h k ⟨B, s, A, beat, ⟨d, id, m, now⟩, rfl, hid, hm0, hA, sl, ok, H⟩
  simp only at hid hm0
  refine ⟨0, ?_⟩
  show tiltyardref21_Do (tabC tabR) idG 0 (encR s beat) (.int .u8 d) (.int .u32 id) (.int .u32 m) (.int .i64 now) h _
  have H' : ∀ h' s', Chg h h' [] → SliceAt (fun i => B i ∨ h.next ≤ i) h' s' (doR A beat ⟨d, id, m, now⟩).1.length 3 (rowI (doR A beat ⟨d, id, m, now⟩).1) → ∃ h2, St.le h2 h' ∧ k (.tuple #[encR s' beat, .int .u32 (doR A beat ⟨d, id, m, now⟩).2.1, .int .i64 (doR A beat ⟨d, id, m, now⟩).2.2]) h2 := fun h' s' c q => ⟨_, St.le.refl _, H h' s' c q⟩
  clear H
  generalize hK : (fun v h1 => ∃ h2, St.le h2 h1 ∧ k v h2 : Cont) = K
  have H : ∀ h' s', Chg h h' [] → SliceAt (fun i => B i ∨ h.next ≤ i) h' s' (doR A beat ⟨d, id, m, now⟩).1.length 3 (rowI (doR A beat ⟨d, id, m, now⟩).1) → K (.tuple #[encR s' beat, .int .u32 (doR A beat ⟨d, id, m, now⟩).2.1, .int .i64 (doR A beat ⟨d, id, m, now⟩).2.2]) h' := by subst hK; exact H'
  clear H' hK
  rw [tiltyardref21_Do_eq]
  have sl' : SliceAt (fun i => B i ∧ i < h.next) h s A.length 3 (rowI A) := sl.imp fun i h1 h2 => ⟨h2, h1⟩
  obtain ⟨h2, hh2⟩ : ∃ g, g = (h.push (.cells [s, .int .i64 beat] true)).push (.cells [.slice none 0 0, .int .i64 0] true) := ⟨_, rfl⟩
  have c2 : Chg h h2 [] := by rw [hh2]; exact (Chg.push _ _).of_push
  have a5 : h2.objs h.next = some (.cells [s, .int .i64 beat] true) := by rw [hh2, push_ne (by simp)]; exact push_at _ _
  have a10 : h2.objs (h.next + 1) = some (.cells [.slice none 0 0, .int .i64 0] true) := by rw [hh2]; exact push_at (h.push _) _
  have n2 : h2.next = h.next + 1 + 1 := by rw [hh2]; rfl
  simp only [encR, boxE_eq, cells_agg, allocE_some, push_next]
  refine ⟨by simp [sl.one], ?_⟩
  rw [← hh2]
  simp only [loadV_ptr, a5, loadM_cells, partV_agg, takeN_lit2, Option.map_some, bindV_some]
  have sl2 := sl'.chg c2 (by simp)
  refine .inl ⟨rfl, _, s, A, beat, id, rfl, hid, hA, sl2, fun h3 c3 => ?_⟩
  have n3 := c3.1
  have b5 := c3.at (by omega) (by simp) a5
  have b10 := c3.at (by omega) (by simp) a10
  obtain ⟨x, hx⟩ : ∃ x, x = instZ (some (A, beat)) id := ⟨_, rfl⟩
  rw [← hx]
  simp only [extV_two0, extV_two1, bindV_some, allocE_some, encI, storeE_ptr, push_at, storeM_cells, cells_agg, List.take_zero, Nat.add_zero]
  refine ⟨⟨rfl, by simp, rfl⟩, ?_⟩
  obtain ⟨h6, hh6⟩ : ∃ g, g = (h3.push (.cells [.int .i64 0, .int .u32 0, .int .i64 0] true)).set h3.next (.cells (cellsI x) true) := ⟨_, rfl⟩
  have e6 : (h3.push (.cells [.int .i64 0, .int .u32 0, .int .i64 0] true)).set h3.next (.cells ([] ++ (#[Value.int .i64 x.st, .int .u32 x.m, .int .i64 x.last] : Array Value).toList ++ List.drop (0 + 3) [.int .i64 0, .int .u32 0, .int .i64 0]) true) = h6 := by rw [hh6]; rfl
  rw [e6]
  have c6 : Chg h3 h6 [] := by rw [hh6]; exact (Chg.push _ _).of_set (.inr (Nat.le_refl _))
  have m6 : h3.next < h6.next := by rw [hh6]; simp
  have o5 := c6.at (by omega) (by simp) b5
  have o10 := c6.at (by omega) (by simp) b10
  have o13 : h6.objs h3.next = some (.cells [.int .i64 x.st, .int .u32 x.m, .int .i64 x.last] true) := by rw [hh6]; exact set_at _ _ _
  have ch6 : Chg h h6 [] := (c2.of_chg c3 (by simp)).of_chg c6 (by simp)
  have sl6 := (sl2.chg c3 (by simp)).chg c6 (by simp)
  -- an end: what is answered
  have ret : ∀ (h' : St) (s' : Value) (had e : Int) (A' : List Inst) (c10 : List Value), doR A beat ⟨d, id, m, now⟩ = (A', had, e) → Chg h h' [] → h'.objs (h.next + 1) = some (.cells c10 true) → c10.length = 2 → SliceAt (fun i => (B i ∨ h.next ≤ i) ∧ i ≠ h.next + 1) h' s' A'.length 3 (rowI A') →
      storeE 2 (.pointer (some ⟨h.next + 1, 0, none⟩)) (.agg #[s', .int .i64 beat]) h' (fun _ h8 => bindV (loadV true 2 (.pointer (some ⟨h.next + 1, 0, none⟩)) h8) fun r => K (.tuple #[r, .int .u32 had, .int .i64 e]) h8) := by
    intro h' s' had e A' c10 hd cc o hlen q
    rw [hd] at H
    simp [o, hlen, q.one]
    exact H _ s' (cc.of_set (.inr (by omega))) ((q.chgP (D := (· = h.next + 1)) ((Chg.set (S := [h.next + 1]) _ (by simp)).toP (by simp)) (by rintro i rfl h; exact h.2 rfl)).imp fun i _ h => h.1)
  cases ha : atZ (some (A, beat)) id with
  | none =>
    have hd : doR A beat ⟨d, id, m, now⟩ = (A, 0, 12) := by simp only [doR, ha]
    simp only [Option.isSome_none, unV_not, Bool.not_false, bindV_some, condK_bool, if_true, loadV_ptr, o5, loadM_cells, partV_agg, takeN_lit2, Option.map_some]
    exact ret h6 s 0 12 A _ hd ch6 o10 rfl (sl6.imp fun i _ h => ⟨.inl h.1, by omega⟩)
  | some i =>
    obtain ⟨A', b', e', hi, hi2, hget⟩ := at_some ha
    cases e'
    have hx' : x = getA (some (A, beat)) i := by rw [hx]; simp only [instZ, ha]
    rw [← hx'] at hget
    have okx := ok x (List.mem_of_getElem? hget)
    have hdo : doR A beat ⟨d, id, m, now⟩ = (A.set i (doI x ⟨d, id, m, now⟩).2.2, (doI x ⟨d, id, m, now⟩).1, (doI x ⟨d, id, m, now⟩).2.1) := by
      simp only [doR, ha, ← hx']
    have hself : A.set i x = A := by
      obtain ⟨h1, h2⟩ := List.getElem?_eq_some_iff.1 hget
      rw [← h2]; exact List.set_getElem_self _
    have old : ∀ (had e : Int), doI x ⟨d, id, m, now⟩ = (had, e, x) →
        storeE 2 (.pointer (some ⟨h.next + 1, 0, none⟩)) (.agg #[s, .int .i64 beat]) h6 (fun _ h8 => bindV (loadV true 2 (.pointer (some ⟨h.next + 1, 0, none⟩)) h8) fun r => K (.tuple #[r, .int .u32 had, .int .i64 e]) h8) := by
      intro had e hd
      exact ret h6 s had e A _ (by rw [hdo, hd, hself]) ch6 o10 rfl (sl6.imp fun i _ h => ⟨.inl h.1, by omega⟩)
    have new : ∀ (h' : St) (had e : Int) (y : Inst), doI x ⟨d, id, m, now⟩ = (had, e, y) → Chg h h' [] → Chg h6 h' [h3.next] →
        tabC tabR 34 [.agg #[s, .int .i64 beat], .int .u32 id, .agg #[.int .i64 y.st, .int .u32 y.m, .int .i64 y.last]] h' (fun v67 h26 => storeE 2 (.pointer (some ⟨h.next + 1, 0, none⟩)) v67 h26 (fun _ h8 => bindV (loadV true 2 (.pointer (some ⟨h.next + 1, 0, none⟩)) h8) fun r => K (.tuple #[r, .int .u32 had, .int .i64 e]) h8)) := by
      intro h' had e y hd q1 q2
      have sl7 := sl6.chg q2 (by simp; omega)
      have m' := q2.1
      have o10' := q2.at (by omega) (by simp; omega) o10
      refine .inr (.inl ⟨rfl, _, s, A, beat, id, i, y, rfl, hid, hA, sl7, ha, fun h7 s7 c7 sl8 => ?_⟩)
      have o10'' := c7.at (by omega) (by simp) o10'
      exact ret h7 s7 had e _ _ (by rw [hdo, hd]) (q1.of_chg c7 (by simp)) o10'' rfl (sl8.imp fun i _ h => ⟨.inr (by omega), by omega⟩)
    simp only [Option.isSome_some, unV_not, Bool.not_true, bindV_some, condK_bool, Bool.false_eq_true, if_false, idG_eq, offV_ptr, loadV_ptr, o13, loadM_cells, partV_one, Nat.zero_add, List.getElem?_cons_succ, List.getElem?_cons_zero, binNil_int, binV_eql]
    by_cases e0 : d = 0
    · subst e0
      simp [-storeE_ptr, o5, o13, bv2]
      exact new h6 x.m 0 ⟨1, 0, now⟩ (by simp [doI]) ch6 (Chg.refl _ _)
    have f0 : ¬ ((d : Int) = 0) := by omega
    by_cases e1 : d = 1
    · subst e1
      by_cases s0 : x.st = 0
      · simp [-storeE_ptr, o5, o13, s0]
        exact old 0 24 (by simp [doI, s0])
      · by_cases s3 : x.st = 3
        · simp [-storeE_ptr, o5, o13, s0, s3]
          rw [tiltyardref21_Do_j0_eq]
          simp [-storeE_ptr, o5, o13]
          exact new h6 0 0 x (by simp [doI, s3]) ch6 (Chg.refl _ _)
        · simp [o5, o13, s0, s3]
          rw [tiltyardref21_Do_j0_eq]
          have o5' : (h6.set h3.next (.cells [.int .i64 x.st, .int .u32 x.m, .int .i64 now] true)).objs h.next = some (.cells [s, .int .i64 beat] true) := by rw [set_ne (by omega)]; exact o5
          simp [-storeE_ptr, o5']
          exact new _ 0 0 ⟨x.st, x.m, now⟩ (by simp [doI, s0, s3]) (ch6.of_set (.inr (by omega))) (Chg.set _ (by simp))
    have f1 : ¬ ((d : Int) = 1) := by omega
    by_cases e2 : d = 2
    · subst e2
      by_cases s1 : x.st = 1
      · simp [-storeE_ptr, o5, o13, s1]
        refine .inr (.inr (.inl ⟨rfl, m, rfl, ?_⟩))
        by_cases hk : okId m = true
        · have hk' := hk
          simp only [okId, Bool.and_eq_true, decide_eq_true_eq] at hk'
          have k1 : ¬ m = 0 := by omega
          have k2 : m ≤ 2147483647 := by omega
          simp [-storeE_ptr, k1, k2, o5, o13, bv3i]
          exact new h6 0 0 ⟨2, m, x.last⟩ (by simp [doI, s1, hk]) ch6 (Chg.refl _ _)
        · have hk' := hk
          simp only [okId, Bool.and_eq_true, decide_eq_true_eq] at hk'
          by_cases k1 : m = 0
          · simp [-storeE_ptr, k1, o5, o13]
            exact old 0 14 (by simp [doI, s1, hk])
          · have k2 : ¬ m ≤ 2147483647 := by omega
            simp [-storeE_ptr, k1, k2, o5, o13]
            exact old 0 14 (by simp [doI, s1, hk])
      · simp [-storeE_ptr, o5, o13, s1]
        exact old 0 24 (by simp [doI, s1])
    have f2 : ¬ ((d : Int) = 2) := by omega
    by_cases e3 : d = 3
    · subst e3
      by_cases s1 : x.st = 2
      · simp [-storeE_ptr, o5, o13, s1, bv3i]
        exact new h6 0 0 ⟨3, x.m, now⟩ (by simp [doI, s1]) ch6 (Chg.refl _ _)
      · simp [-storeE_ptr, o5, o13, s1]
        exact old 0 24 (by simp [doI, s1])
    have f3 : ¬ ((d : Int) = 3) := by omega
    by_cases e4 : d = 4
    · subst e4
      by_cases s1 : x.st = 3
      · simp [-storeE_ptr, o5, o13, s1, bv3i]
        exact new h6 0 0 ⟨4, x.m, now⟩ (by simp [doI, s1]) ch6 (Chg.refl _ _)
      · simp [-storeE_ptr, o5, o13, s1]
        exact old 0 24 (by simp [doI, s1])
    have f4 : ¬ ((d : Int) = 4) := by omega
    by_cases e5 : d = 5
    · subst e5
      by_cases s1 : x.st = 2
      · simp [-storeE_ptr, o5, o13, s1, bv2]
        exact new h6 0 0 ⟨1, 0, x.last⟩ (by simp [doI, s1]) ch6 (Chg.refl _ _)
      · simp [-storeE_ptr, o5, o13, s1]
        exact old 0 24 (by simp [doI, s1])
    have f5 : ¬ ((d : Int) = 5) := by omega
    by_cases e6 : d = 6
    · subst e6
      by_cases s1 : x.st = 3
      · simp [-storeE_ptr, o5, o13, s1, bv2, groupK_eq, getT, guardK_undef]
        exact new h6 0 0 ⟨5, 0, x.last⟩ (by simp [doI, s1]) ch6 (Chg.refl _ _)
      · by_cases s2 : x.st = 4
        · simp [-storeE_ptr, o5, o13, s1, s2, bv2, groupK_eq, getT, guardK_undef]
          exact new h6 0 0 ⟨5, 0, x.last⟩ (by simp [doI, s2]) ch6 (Chg.refl _ _)
        · simp [-storeE_ptr, o5, o13, s1, s2, bv2, groupK_eq, getT, guardK_undef]
          exact old 0 24 (by simp [doI, s1, s2])
    have f6 : ¬ ((d : Int) = 6) := by omega
    by_cases e7 : d = 7
    · subst e7
      by_cases s1 : x.st = 5
      · have xm := okx.2 (by simp [s1])
        simp [-storeE_ptr, o5, o13, s1, bv2]
        exact new h6 0 0 ⟨1, 0, now⟩ (by simp [doI, s1, xm]) ch6 (Chg.refl _ _)
      · simp [-storeE_ptr, o5, o13, s1]
        exact old 0 24 (by simp [doI, s1])
    have f7 : ¬ ((d : Int) = 7) := by omega
    have g : doI x ⟨d, id, m, now⟩ = if x.st = 0 then (0, 24, x) else (x.m, 0, ⟨0, 0, x.last⟩) := by simp [doI, e0, e1, e2, e3, e4, e5, e6, e7]
    by_cases s1 : x.st = 0
    · simp [-storeE_ptr, o5, o13, s1, e0, f1, f2, f3, f4, f5, f6, f7]
      exact old 0 24 (by rw [g, if_pos s1])
    · simp [-storeE_ptr, o5, o13, s1, e0, f1, f2, f3, f4, f5, f6, f7, bv2]
      exact new h6 x.m 0 ⟨0, 0, x.last⟩ (by rw [g, if_neg s1]) ch6 (Chg.refl _ _)
end Go.Proofs.Ytomjbkembmimbaa
