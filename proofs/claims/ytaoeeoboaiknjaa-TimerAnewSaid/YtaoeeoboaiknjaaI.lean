/- The document's first timer, what is due; times added; what the examples say. -/
import Derived.Test.YtaoeeoboaiknjaaH
set_option linter.unusedSimpArgs false
set_option linter.unusedVariables false
set_option maxHeartbeats 4000000
namespace Go.Proofs.Ytaoeeoboaiknjaa
open Go.Abs Go.IntWalk
attribute [local congr] bindV_weak condK_weak guardK_weak groupK_weak allocE_weak boxE_weak storeE_weak storeM_weak tabC_weak ite_weak idG_weak appendE_weak buildSliceE_weak invokeE_weak mapUpdateE_weak deleteE_weak makeMapE_weak

/-! ### the first one -/
theorem takeT (t : Tm) : takeN (cellsT t) 0 3 = some (cellsT t) := rfl
theorem rfirst_l0 {nn b2 b4 : Nat} {h0 : St} {E : Nat → Prop} {v x3 : Value} {T : List Tm} {w : Tm} {k : Cont} (r0 : RL E h0 v T) (hT : T.length ≤ 1000000) (hb2 : h0.next ≤ b2) (hb4 : h0.next ≤ b4) (ne : b2 ≠ b4)
    (H : ∀ h', Chg h0 h' [] → k (.tuple #[encT w, .bool true]) h') :
    ∀ (d i m0 : Nat) (h : St) (b : Tm) (z : List Value), i + d = T.length → d < m0 → Chg h0 h [] → b2 < h.next → b4 < h.next → z.length = 3 → h.objs b2 = some (.cells z true) → h.objs b4 = some (.cells (cellsT b) true) → bestT b (T.drop i) = w →
      tiltyardref08_First_l0 (tabC []) idG nn m0 v (ptr b2) x3 (ptr b4) (.int .i64 i) h (fun v h1 => ∃ h2, St.le h2 h1 ∧ k v h2) := by
  intro d
  induction d with
  | zero =>
    intro i m0 h b z hi hm c l2 l4 lz o2 o4 e
    obtain ⟨m0, rfl⟩ : ∃ m, m0 = m + 1 := ⟨m0 - 1, by omega⟩
    rw [tiltyardref08_First_l0_eq]
    have e' : i = T.length := by omega
    subst e'
    rw [List.drop_length] at e
    simp only [bestT] at e
    subst e
    simp only [OwnS.len r0, bindV_some, binV_lss, condK_bool, Int.lt_irrefl, decide_false, Bool.false_eq_true, if_false, idG_eq]
    rw [tiltyardref08_First_j2_eq]
    simp only [ptr, loadV_ptr, o4, loadM_cells, partV_agg, takeT, Option.map_some, bindV_some]
    refine storeE_all o2 rfl lz rfl fun h5 c5 n5 o5 => ?_
    simp only [loadV_ptr, o5, loadM_cells, partV_agg]
    exact ⟨_, St.le.refl _, H _ (c.new c5 hb2)⟩
  | succ d ih =>
    intro i m0 h b z hi hm c l2 l4 lz o2 o4 e
    obtain ⟨m0, rfl⟩ : ∃ m, m0 = m + 1 := ⟨m0 - 1, by omega⟩
    rw [tiltyardref08_First_l0_eq]
    have hlt : (i : Int) < T.length := by omega
    have ht : T[i]? = some T[i] := List.getElem?_eq_getElem (by omega)
    have dr : T.drop i = T[i] :: T.drop (i + 1) := List.drop_eq_getElem_cons (by omega)
    obtain ⟨t, et⟩ : ∃ t, t = T[i] := ⟨_, rfl⟩
    rw [← et] at ht dr
    rw [dr] at e
    simp only [bestT] at e
    have inc : IntKind.i64.wrap ((i : Int) + 1) = ((i + 1 : Nat) : Int) := by rw [i64_in _ (by omega)]; omega
    obtain ⟨bb, o, g1, g2, g3, cs, g4, g5⟩ := (r0.chg0 c).row (fun y _ => len_T y) ht .i64
    have k2 := row_cell g5 2 (by omega)
    simp only [OwnS.len r0, bindV_some, binV_lss, condK_bool, hlt, decide_true, if_true, idG_eq, g1, offV_ptr, loadV_ptr, g4, loadM_cells, partV_one, k2, cellsT, List.getElem?_cons_zero, List.getElem?_cons_succ, ptr, o4, Nat.zero_add]
    refine ⟨trivial, ?_⟩
    simp only [offV_ptr, bindV_some, loadV_ptr, o4, loadM_cells, partV_one, cellsT, List.getElem?_cons_zero, List.getElem?_cons_succ, Nat.zero_add]
    refine ⟨trivial, ?_⟩
    simp only [binV_lss, bindV_some, condK_bool]
    by_cases l : t.at_ < b.at_
    · rw [if_pos l] at e
      simp only [l, decide_true, if_true, g1, bindV_some, loadV_ptr, g4, loadM_cells, partV_agg, g5, Option.map_some]
      refine storeE_all o4 rfl rfl rfl fun h5 c5 n5 o5 => ?_
      simp only [idG_eq]
      rw [tiltyardref08_First_j1_eq]
      simp only [binNil_int, binV_add, bindV_some, inc, idG_eq]
      exact ih (i + 1) m0 h5 t z (by omega) (by omega) (c.new c5 hb4) (by omega) (by omega) lz (c5.at1 l2 ne o2) o5 e
    · rw [if_neg l] at e
      simp only [l, decide_false, Bool.false_eq_true, if_false, idG_eq]
      rw [tiltyardref08_First_j1_eq]
      simp only [binNil_int, binV_add, bindV_some, inc, idG_eq]
      exact ih (i + 1) m0 h b z (by omega) (by omega) c l2 l4 lz o2 o4 e
def rfirstS : Abs.Spec := fun args h k => ∃ E v T, args = [v] ∧ T.length ≤ 1000000 ∧ RL E h v T ∧
  ∀ h', Chg h h' [] → k (.tuple #[encT ((firstT T).elim .zero id), .bool (firstT T).isSome]) h'
theorem rfirstS_good : SpecGood Try.prog (23, rfirstS) := by
  refine spec_good mixed Try.func23 (by kernel_rfl) (by kernel_rfl) (tab := []) (by simp) (keep := tiltyardref08_First_keep) ?_
  rintro args h k ⟨E, v, T, rfl, hl, r, H⟩
  refine ⟨T.length + 1, ?_⟩
  show tiltyardref08_First (tabC []) idG _ v h _
  rw [tiltyardref08_First_eq]
  refine allocE_in fun h1 c1 n1 o1 => ?_
  have hb : buildV [.int .i64 0, .int .u32 0, .int .i64 0] (some []) = some (encT .zero) := rfl
  simp only [OwnS.len r, bindV_some, binNil_int, binV_eql, condK_bool]
  cases T with
  | nil =>
    simp only [List.length_nil, Int.natCast_zero, Int.cast_ofNat_Int, decide_true, if_true, hb, bindV_some]
    refine storeE_all o1 rfl rfl rfl fun h5 c5 n5 o5 => ?_
    simp only [loadV_ptr, o5, loadM_cells, partV_agg]
    exact ⟨_, St.le.refl _, H _ (c1.new c5 (Nat.le_refl _))⟩
  | cons t T =>
    have hl' : ¬ (((t :: T).length : Nat) : Int) = 0 := by simp; omega
    obtain ⟨bb, o, g1, g2, g3, cs, g4, g5⟩ := (r.chg0 c1).row (fun y _ => len_T y) (i := 0) (x := t) rfl .i64
    have g1' : idxS 3 v (.int .i64 0) = some (.pointer (some ⟨bb, o, none⟩)) := g1
    simp only [hl', decide_false, Bool.false_eq_true, if_false, idG_eq, g1', bindV_some, loadV_ptr, g4, loadM_cells, partV_agg, g5, Option.map_some]
    refine allocE_in fun h2 c2 n2 o2 => ?_
    refine storeE_all o2 rfl rfl rfl fun h3 c3 n3 o3 => ?_
    have m := rfirst_l0 (nn := (t :: T).length + 1) (b2 := h.next) (b4 := h1.next) (x3 := .bool false) (h0 := h) (w := bestT t T) (k := k) r hl (Nat.le_refl _) (by omega) (by omega) H
    exact m (T.length) 1 _ h3 t _ (by simp; omega) (by simp; omega) ((c1.seq c2).new c3 (by omega)) (by omega) (by omega) rfl (c3.at1 (by omega) (by omega) (c2.at0 (by omega) o1)) o3 rfl
/-! ### what is due -/
def dueT (T : List Tm) (now : Int) : Option Tm := (firstT T).filter fun t => decide (t.at_ ≤ now)
theorem due_map (L : List It) (now : Int) : (dueI L now).map tm = dueT (L.map tm) now := by
  unfold dueI dueT
  rw [← first_map]
  cases firstI L with
  | none => rfl
  | some x =>
    simp only [Option.filter, Option.map]
    by_cases h : x.at_ ≤ now <;> simp [h, tm]
def rdueS : Abs.Spec := fun args h k => ∃ E v T now, args = [v, .int .i64 now] ∧ T.length ≤ 1000000 ∧ (∀ i, E i → i < h.next) ∧ RL E h v T ∧
  (∀ t h' v', dueT T now = some t → Chg h h' [] → RL (fun i => h.next ≤ i ∧ i < h'.next) h' v' (outTm T t.kind t.id) → k (.tuple #[encT t, v', .bool true]) h') ∧
  (∀ h', dueT T now = none → Chg h h' [] → k (.tuple #[encT .zero, v, .bool false]) h')
theorem rdueS_good : SpecGood Try.prog (18, rdueS) := by
  refine spec_good mixed Try.func18 (by kernel_rfl) (by kernel_rfl) (tab := [(23, rfirstS), (17, rclearS)]) (by simp [rfirstS_good, rclearS_good]) (keep := tiltyardref08_Due_keep) ?_
  rintro args h k ⟨E, v, T, now, rfl, hl, hE, r, H1, H2⟩
  refine ⟨0, ?_⟩
  show tiltyardref08_Due (tabC _) idG 0 v (.int .i64 now) h _
  rw [tiltyardref08_Due_eq]
  refine allocE_in fun h1 c1 n1 o1 => ?_
  refine .inl ⟨rfl, E, v, T, rfl, hl, r.chg0 c1, fun h2 c2 => ?_⟩
  have o2 := c2.at0 (by omega) o1
  have m2 := c2.1
  obtain ⟨t, ht⟩ : ∃ t, t = (firstT T).elim Tm.zero id := ⟨_, rfl⟩
  rw [← ht]
  simp only [extV_two0, extV_two1, bindV_some]
  refine allocE_in fun h2' c2' n2' o2' => ?_
  refine storeE_all o2' rfl rfl rfl fun h3 c3' n3' t3 => ?_
  have t3 : h3.objs h2.next = some (.cells (cellsT t) true) := t3
  have c3 : Chg h2 h3 [] := c2'.new c3' (by omega)
  have n3 : h3.next = h2.next + 1 := by omega
  have o3 := c3.at0 (by omega) o2
  have c13 : Chg h h3 [] := (c1.seq c2).seq c3
  have hb : buildV [.int .i64 0, .int .u32 0, .int .i64 0] (some []) = some (encT .zero) := rfl
  simp only [unV_not, bindV_some, groupK_eq, guardK_bool]
  have none : dueT T now = none → bindV (buildV [.int .i64 0, .int .u32 0, .int .i64 0] (some [])) (fun v21 => storeE 3 (.pointer (some ⟨h.next, 0, .none⟩)) v21 h3 fun _ h10 => bindV (loadV true 3 (.pointer (some ⟨h.next, 0, .none⟩)) h10) fun r11 => ∃ h2, St.le h2 h10 ∧ k (.tuple #[r11, v, (.bool false)]) h2) := by
    intro hn
    simp only [hb, bindV_some]
    refine storeE_all o3 rfl rfl rfl fun h4 c4 n4 o4 => ?_
    simp only [loadV_ptr, o4, loadM_cells, partV_agg]
    exact ⟨_, St.le.refl _, H2 _ hn (c13.new c4 (Nat.le_refl _))⟩
  cases hf : firstT T with
  | none =>
    have hn : dueT T now = .none := by rw [dueT, hf]; rfl
    simp only [Option.isSome_none, Bool.not_false, Bool.true_eq_false, if_false, idG_eq, pickV_bool, if_true, bindV_some, condK_bool]
    exact none hn
  | some x =>
    rw [hf] at ht
    simp only [Option.elim, id] at ht
    subst ht
    simp only [Option.isSome_some, Bool.not_true, if_true, offV_ptr, bindV_some, loadV_ptr, Nat.zero_add, t3, loadM_cells, partV_one, cellsT, List.getElem?_cons_succ, List.getElem?_cons_zero, binV_gtr]
    simp only [idG_eq, pickV_bool, Bool.false_eq_true, if_false, bindV_some, getT, condK_bool]
    by_cases hx : t.at_ > now
    · have hn : dueT T now = .none := by rw [dueT, hf]; simp [Option.filter]; omega
      simp only [hx, decide_true, if_true]
      exact none hn
    · have hn : dueT T now = some t := by rw [dueT, hf]; simp [Option.filter]; omega
      simp only [hx, decide_false, Bool.false_eq_true, if_false]
      simp only [offV_ptr, bindV_some, loadV_ptr, Nat.zero_add, t3, loadM_cells, partV_one, cellsT, List.getElem?_cons_succ, List.getElem?_cons_zero]
      refine .inr (.inl ⟨rfl, E, v, T, t.kind, t.id, rfl, hl, fun i hi => by have := hE i hi; omega, r.chg0 c13, fun h4 v4 c4 r4 => ?_⟩)
      have t4 := c4.at0 (by omega) t3
      have o4 := c4.at0 (i := h.next) (by omega) o3
      have m4 := c4.1
      simp only [extV_two0, extV_two1, loadV_ptr, t4, loadM_cells, partV_agg, takeT, Option.map_some, bindV_some]
      refine storeE_all o4 rfl rfl rfl fun h5 c5 n5 o5 => ?_
      simp only [loadV_ptr, o5, loadM_cells, partV_agg]
      refine ⟨_, St.le.refl _, H1 t _ v4 hn ((c13.seq c4).new c5 (Nat.le_refl _)) ((r4.chgP c5.one (fun i h1 h2 => by have := h2.1; omega)).imp fun i hi h => ⟨by have := h.1; omega, hi⟩)⟩
/-! ### a timer of the document -/
def ownS : Abs.Spec := fun args h k => ∃ t, args = [encT t] ∧ ∀ h', Chg h h' [] → k (encT t) h'
theorem ownS_good : SpecGood Try.prog (19, ownS) := by
  refine spec_good mixed Try.func19 (by kernel_rfl) (by kernel_rfl) (tab := []) (by simp) (keep := tiltyardlaw08_own_keep) ?_
  rintro args h k ⟨t, rfl, H⟩
  refine ⟨0, ?_⟩
  show tiltyardlaw08_own (tabC []) idG 0 (encT t) h _
  rw [tiltyardlaw08_own_eq]
  refine boxE_in rfl fun h1 c1 n1 o1 => ?_
  refine allocE_in fun h2 c2 n2 o2 => ?_
  have o1' := c2.at0 (by omega) o1
  have hb : buildV [.int .i64 0, .int .u32 0, .int .i64 0] (some [(0, 1, .int .i64 t.kind), (1, 1, .int .u32 t.id), (2, 1, .int .i64 t.at_)]) = some (encT t) := rfl
  have oo : h2.objs h.next = some (.cells [.int .i64 t.kind, .int .u32 t.id, .int .i64 t.at_] true) := o1'
  simp only [offV_ptr, bindV_some, loadV_ptr, oo, loadM_cells, partV_one, Nat.zero_add, List.getElem?_cons_succ, List.getElem?_cons_zero, hb]
  refine storeE_all o2 rfl rfl rfl fun h5 c5 n5 o5 => ?_
  simp only [loadV_ptr, o5, loadM_cells, partV_agg]
  exact ⟨_, St.le.refl _, H _ ((c1.seq c2).new c5 (by omega))⟩
/-! ### times -/
def addI (now some : Int) : Int := if now > 9223372036854775807 - max 0 some then 9223372036854775807 else now + max 0 some
def addR (now some : Int) : Int := if some ≤ 0 then now else if now > 0 ∧ some > 9223372036854775807 - now then 9223372036854775807 else now + some
def In64 (n : Int) : Prop := -9223372036854775808 ≤ n ∧ n ≤ 9223372036854775807
def addS : Abs.Spec := fun args h k => ∃ now some, args = [.int .i64 now, .int .i64 some] ∧ In64 now ∧ In64 some ∧ k (.int .i64 (addI now some)) h
theorem addS_good : SpecGood Try.prog (8, addS) := by
  refine spec_good mixed Try.func8 (by kernel_rfl) (by kernel_rfl) (tab := []) (by simp) (keep := timer_Add_keep) ?_
  rintro args h k ⟨now, some, rfl, h1, h2, H⟩
  refine ⟨0, ?_⟩
  show timer_Add (tabC []) idG 0 (.int .i64 now) (.int .i64 some) h _
  rw [timer_Add_eq]
  have hm : maxV [.int .i64 0, .int .i64 some] = .some (.int .i64 (max 0 some)) := by
    simp only [maxV, if_true]
    congr 2
    rw [Int.max_def]; split <;> split <;> omega
  unfold In64 at h1 h2
  have m0 : 0 ≤ max 0 some := Int.le_max_left _ _
  have m1 : max 0 some ≤ 9223372036854775807 := Int.max_le.2 ⟨by omega, h2.2⟩
  simp only [hm, bindV_some, binNil_int, binV_sub, i64_in (9223372036854775807 - max 0 some) (by omega), binV_gtr, condK_bool]
  unfold addI at H
  by_cases g : now > 9223372036854775807 - max 0 some
  · rw [if_pos g] at H
    simp only [g, decide_true, if_true]
    exact ⟨h, St.le.refl _, H⟩
  · rw [if_neg g] at H
    simp only [g, decide_false, Bool.false_eq_true, if_false, idG_eq, binV_add, bindV_some, i64_in (now + max 0 some) (by omega)]
    exact ⟨h, St.le.refl _, H⟩
def raddS : Abs.Spec := fun args h k => ∃ now some, args = [.int .i64 now, .int .i64 some] ∧ In64 now ∧ In64 some ∧ k (.int .i64 (addR now some)) h
theorem raddS_good : SpecGood Try.prog (9, raddS) := by
  refine spec_good mixed Try.func9 (by kernel_rfl) (by kernel_rfl) (tab := []) (by simp) (keep := tiltyardref08_Add_keep) ?_
  rintro args h k ⟨now, some, rfl, h1, h2, H⟩
  refine ⟨0, ?_⟩
  show tiltyardref08_Add (tabC []) idG 0 (.int .i64 now) (.int .i64 some) h _
  rw [tiltyardref08_Add_eq]
  unfold In64 at h1 h2
  unfold addR at H
  simp only [binNil_int, binV_leq, bindV_some, condK_bool]
  by_cases g : some ≤ 0
  · rw [if_pos g] at H
    simp only [g, decide_true, if_true]
    exact ⟨h, St.le.refl _, H⟩
  · rw [if_neg g] at H
    simp only [g, decide_false, Bool.false_eq_true, if_false, idG_eq, binNil_int, binV_gtr, bindV_some, groupK_eq, guardK_bool]
    by_cases p : now > 0
    · simp only [p, decide_true, if_true, binNil_int, binV_sub, i64_in (9223372036854775807 - now) (by omega), bindV_some, binV_gtr]
      simp only [idG_eq, p, decide_true, pickV_bool, if_true, bindV_some, getT, condK_bool]
      by_cases q : some > 9223372036854775807 - now
      · rw [if_pos ⟨p, q⟩] at H
        simp only [q, decide_true, if_true]
        exact ⟨h, St.le.refl _, H⟩
      · rw [if_neg (by omega)] at H
        simp only [q, decide_false, Bool.false_eq_true, if_false, idG_eq, binV_add, bindV_some, i64_in (now + some) (by omega)]
        exact ⟨h, St.le.refl _, H⟩
    · rw [if_neg (by omega)] at H
      simp only [p, decide_false, Bool.false_eq_true, if_false, idG_eq, pickV_bool, bindV_some, condK_bool, binV_add, i64_in (now + some) (by omega)]
      exact ⟨h, St.le.refl _, H⟩
end Go.Proofs.Ytaoeeoboaiknjaa
