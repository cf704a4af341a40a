/- The queue of timers: what is due, setting. -/
import Derived.Test.YtaoeeoboaiknjaaF
import Derived.Test.YtaoeeoboaiknjaaAbsIn
set_option linter.unusedSimpArgs false
set_option linter.unusedVariables false
set_option maxHeartbeats 4000000
namespace Go.Proofs.Ytaoeeoboaiknjaa
open Go.Abs Go.IntWalk
attribute [local congr] bindV_weak condK_weak guardK_weak groupK_weak allocE_weak boxE_weak storeE_weak storeM_weak tabC_weak ite_weak idG_weak appendE_weak buildSliceE_weak invokeE_weak mapUpdateE_weak deleteE_weak makeMapE_weak

def dueI (L : List It) (now : Int) : Option It := (firstI L).filter fun x => decide (x.at_ ≤ now)
def tabD : List (FuncId × Abs.Spec) := [(22, nextS), (16, clearS)]
theorem tabD_good : ∀ p ∈ tabD, SpecGood Try.prog p := by simp [tabD, nextS_good, clearS_good]
def dueS : Abs.Spec := fun args h k => ∃ D Q L s now, args = [ptr Q, .int .i64 now] ∧ L.length ≤ 1000000 ∧ (∀ i, D i → i < h.next) ∧ QS D h Q L s ∧
  (∀ x h', dueI L now = some x → ChgP D h h' → QS D h' Q (outT L x.kind x.id) s → k (.tuple #[encT (tm x), .bool true]) h') ∧
  (∀ h', dueI L now = none → Chg h h' [] → k (.tuple #[encT .zero, .bool false]) h')
theorem dueS_good : SpecGood Try.prog (13, dueS) := by
  refine spec_good mixed Try.func13 (by kernel_rfl) (by kernel_rfl) (tab := tabD) tabD_good (keep := timer_Queue_Due_keep) ?_
  rintro args h k ⟨D, Q, L, s, now, rfl, hl, hD, q, H1, H2⟩
  refine ⟨0, ?_⟩
  show timer_Queue_Due (tabC tabD) idG 0 (ptr Q) (.int .i64 now) h _
  rw [timer_Queue_Due_eq]
  refine allocE_in fun h1 c1 n1 o1 => ?_
  have q1 := q.chgP (c1.nil fun _ => False) (by simp)
  refine .inl ⟨rfl, D, Q, L, s, rfl, fun i hi => by have := hD i hi; omega, q1, fun h2 c2 => ?_⟩
  have q2 := q1.chgP (c2.nil fun _ => False) (by simp)
  have o2 := c2.at0 (by omega) o1
  have m2 := c2.1
  obtain ⟨t, ht⟩ : ∃ t, t = (firstI L).elim Tm.zero tm := ⟨_, rfl⟩
  rw [← ht]
  simp only [extV_two0, extV_two1, bindV_some]
  refine allocE_in fun h2' c2' n2' o2' => ?_
  refine storeE_all o2' rfl rfl rfl fun h3 c3' n3' t3 => ?_
  have t3 : h3.objs h2.next = some (.cells (cellsT t) true) := t3
  have c3 : Chg h2 h3 [] := c2'.new c3' (by omega)
  have n3 : h3.next = h2.next + 1 := by omega
  have q3 := q2.chgP (c3.nil fun _ => False) (by simp)
  have o3 := c3.at0 (by omega) o2
  have c13 : Chg h h3 [] := (c1.seq c2).seq c3
  have hb : buildV [.int .i64 0, .int .u32 0, .int .i64 0] (some []) = some (encT .zero) := rfl
  simp only [unV_not, bindV_some, groupK_eq, guardK_bool]
  have none : dueI L now = none → bindV (buildV [.int .i64 0, .int .u32 0, .int .i64 0] (some [])) (fun v21 => storeE 3 (.pointer (some ⟨h.next, 0, .none⟩)) v21 h3 fun _ h10 => bindV (loadV true 3 (.pointer (some ⟨h.next, 0, .none⟩)) h10) fun r11 => ∃ h2, St.le h2 h10 ∧ k (.tuple #[r11, (.bool false)]) h2) := by
    intro hn
    simp only [hb, bindV_some]
    refine storeE_all o3 rfl rfl rfl fun h4 c4 n4 o4 => ?_
    simp only [loadV_ptr, o4, loadM_cells, partV_agg]
    exact ⟨_, St.le.refl _, H2 _ hn (c13.new c4 (Nat.le_refl _))⟩
  cases hf : firstI L with
  | none =>
    have hn : dueI L now = .none := by rw [dueI, hf]; rfl
    simp only [Option.isSome_none, Bool.not_false, Bool.true_eq_false, if_false, idG_eq, pickV_bool, if_true, bindV_some, condK_bool]
    exact none hn
  | some x =>
    rw [hf] at ht
    simp only [Option.elim] at ht
    subst ht
    simp only [Option.isSome_some, Bool.not_true, if_true, offV_ptr, bindV_some, loadV_ptr, Nat.zero_add, t3, loadM_cells, partV_one, cellsT, List.getElem?_cons_succ, List.getElem?_cons_zero, binV_gtr]
    simp only [idG_eq, pickV_bool, Bool.false_eq_true, if_false, bindV_some, getT, condK_bool]
    by_cases hx : (tm x).at_ > now
    · have hn : dueI L now = .none := by rw [dueI, hf]; simp only [tm] at hx; simp [Option.filter]; omega
      simp only [hx, decide_true, if_true]
      exact none hn
    · have hn : dueI L now = some x := by rw [dueI, hf]; simp only [tm] at hx; simp [Option.filter]; omega
      simp only [hx, decide_false, Bool.false_eq_true, if_false]
      simp only [offV_ptr, bindV_some, loadV_ptr, Nat.zero_add, t3, loadM_cells, partV_one, cellsT, List.getElem?_cons_succ, List.getElem?_cons_zero]
      refine .inr (.inl ⟨rfl, D, Q, L, s, (tm x).kind, (tm x).id, rfl, hl, q3, fun h4 c4 q4 => ?_⟩)
      have t4 := c4.at (by omega) (fun hd => by have := hD _ hd; omega) t3
      have o4 := c4.at (i := h.next) (by omega) (fun hd => by have := hD _ hd; omega) o3
      have m4 := c4.1
      have tk : takeN (cellsT (tm x)) 0 3 = some (cellsT (tm x)) := rfl
      simp only [loadV_ptr, t4, loadM_cells, partV_agg, tk, Option.map_some, bindV_some]
      refine storeE_all o4 rfl rfl rfl fun h5 c5 n5 o5 => ?_
      simp only [loadV_ptr, o5, loadM_cells, partV_agg]
      exact ⟨_, St.le.refl _, H1 x _ hn (((c13.nil D).step c4).new c5 (.inr (Nat.le_refl _))) (q4.chgP c5.one (fun i h1 h2 => by have := hD _ h2; omega))⟩
/-! ### one that is set -/
def tabS : List (FuncId × Abs.Spec) := [(16, clearS), (24, putS)]
theorem tabS_good : ∀ p ∈ tabS, SpecGood Try.prog p := by simp [tabS, clearS_good, putS_good]
def setS : Abs.Spec := fun args h k => ∃ D Q L s kd id at_, args = [ptr Q, .int .i64 kd, .int .u32 id, .int .i64 at_] ∧ L.length < 1000000 ∧ 0 ≤ s ∧ s < 4611686018427387904 ∧ (∀ i, D i → i < h.next) ∧ QS D h Q L s ∧
  ∀ x h', x.kind = kd → x.id = id → x.at_ = at_ → x.seq = s + 1 → ChgP D h h' → QS (fun i => D i ∨ (h.next ≤ i ∧ i < h'.next)) h' Q (outT L kd id ++ [x]) (s + 1) → k (.tuple #[]) h'
theorem setS_good : SpecGood Try.prog (12, setS) := by
  refine spec_good mixed Try.func12 (by kernel_rfl) (by kernel_rfl) (tab := tabS) tabS_good (keep := timer_Queue_Set_keep) ?_
  rintro args h k ⟨D, Q, L, s, kd, id, at_, rfl, hl, hs0, hs1, hD, q, H⟩
  refine ⟨0, ?_⟩
  show timer_Queue_Set (tabC tabS) idG 0 (ptr Q) (.int .i64 kd) (.int .u32 id) (.int .i64 at_) h _
  rw [timer_Queue_Set_eq]
  simp only [ptr, binNil_ptr_eql, bindV_some, Option.isNone, condK_bool, Bool.false_eq_true, if_false, idG_eq]
  refine .inl ⟨rfl, D, Q, L, s, kd, id, rfl, by omega, q, fun h1 c1 q1 => ?_⟩
  have m1 := c1.1
  have ll : (outT L kd id).length ≤ L.length := List.length_filter_le _ _
  have fresh : ∀ y ∈ outT L kd id, isT y.kind y.id ⟨0, kd, id, 0, 0⟩ = false := by
    intro y hy
    have := (List.mem_filter.1 hy).2
    simp only [isT, Bool.not_eq_true', Bool.and_eq_false_iff, decide_eq_false_iff_not] at this ⊢
    rcases this with h | h
    · exact .inl fun e => h e.symm
    · exact .inr fun e => h e.symm
  have none : ∀ y ∈ outT L kd id, isT kd id y = false := by
    intro y hy
    have := (List.mem_filter.1 hy).2
    simpa using this
  obtain ⟨sv, m, f, hs, hf, mm, ma, pw, sq⟩ := q1
  generalize outT L kd id = N at *
  obtain ⟨b1, b2, b3, a, it, inj⟩ := _root_.id hs
  have w1 : IntKind.i64.wrap (s + 1) = s + 1 := i64_in _ (by omega)
  simp only [ptr, nilV_ptr, offV_ptr, bindV_some, loadV_ptr, Nat.zero_add, b3, loadM_cells, partV_one, List.getElem?_cons_succ, List.getElem?_cons_zero, binNil_int, binV_add, w1]
  refine storeE_in b3 [sv, .map (some m), .int .i64 (s + 1)] rfl (Nat.le_refl 3) rfl rfl fun h2 c2 n2 o2 => ?_
  have hb1 : buildV [.int .i64 0, .int .u32 0, .int .i64 0] (some [(0, 1, .int .i64 kd), (1, 1, .int .u32 id), (2, 1, .int .i64 at_)]) = some (.agg #[.int .i64 kd, .int .u32 id, .int .i64 at_]) := rfl
  have hb2 : buildV [.int .i64 0, .int .u32 0, .int .i64 0, .int .i64 0, .int .i64 0] (some [(0, 3, .agg #[.int .i64 kd, .int .u32 id, .int .i64 at_]), (3, 1, .int .i64 (s + 1))]) = some (.agg #[.int .i64 kd, .int .u32 id, .int .i64 at_, .int .i64 (s + 1), .int .i64 0]) := rfl
  have hb3 : buildV [.int .i64 0, .int .u32 0] (some [(0, 1, .int .i64 kd), (1, 1, .int .u32 id)]) = some (keyV kd id) := rfl
  simp only [ptr, hb1, bindV_some, nilV_ptr, offV_ptr, loadV_ptr, Nat.zero_add, o2, loadM_cells, partV_one, List.getElem?_cons_succ, List.getElem?_cons_zero, hb2]
  refine boxE_in rfl fun h3 c3 n3 x3 => ?_
  obtain ⟨x, hx⟩ : ∃ x : It, x = ⟨h2.next, kd, id, at_, s + 1⟩ := ⟨_, rfl⟩
  have n3 : h3.next = h1.next + 1 := by omega
  have o3 := c3.at0 (by omega) o2
  have xb : x.blk = h1.next := by rw [hx]; exact n2
  have x3 : h3.objs x.blk = some (.cells (itemC x 0) true) := by rw [hx]; exact x3
  have c13 : Chg h1 h3 [Q] := c2.seq c3
  -- the map as it lies then
  obtain ⟨E, hE⟩ : ∃ E : Nat → Prop, E = fun i => D i ∨ h.next ≤ i := ⟨_, rfl⟩
  have Eall : ∀ i, h.next ≤ i → E i := fun i hi => by rw [hE]; exact .inr hi
  have ED : ∀ i, D i → E i := fun i hi => by rw [hE]; exact .inl hi
  have mn := ma.2.1
  have mQ : m ≠ Q := by rintro rfl; exact b2.2 rfl
  have ma3 : MapAt E ekT evT h3 m N := by
    obtain ⟨g1, g2, es, c, g3, g4⟩ := ma
    exact ⟨ED _ g1, by omega, es, c, c13.at1 g2 mQ g3, g4⟩
  simp only [ptr, nilV_ptr, offV_ptr, bindV_some, loadV_ptr, Nat.zero_add, o3, loadM_cells, partV_one, List.getElem?_cons_succ, List.getElem?_cons_zero, hb3]
  have ek : keyV kd id = ekT x := by rw [hx]; rfl
  have ev : Value.pointer (some ⟨h2.next, 0, .none⟩) = evT x := by rw [hx]; rfl
  rw [ek, ev]
  have kx : x.kind = kd ∧ x.id = id ∧ x.at_ = at_ ∧ x.seq = s + 1 := by rw [hx]; exact ⟨rfl, rfl, rfl, rfl⟩
  refine ma3.put x (p := isT kd id) (by rw [← ek]; exact key_nil _ _) (fun y _ => by rw [← ek]; exact key_cmp _ _ _) (fun A y C h4 e px => ?_) (fun _ h4 c4 n4 ma4 => ?_)
  · have := none y (by rw [e]; simp)
    rw [px] at this; cases this
  -- the heap's part
  have hs4 : HS (fun i => E i ∧ i ≠ m) h4 Q sv (.map (some m)) (.int .i64 (s + 1)) f N.length := by
    have old : ∀ i, i < h1.next → i ≠ Q → i ≠ m → h4.objs i = h1.objs i := fun i hi h5 h6 => by
      rw [c4.2 i (by omega) (by simpa using h6), c13.2 i hi (by simpa using h5)]
    refine ⟨by omega, ⟨ED _ b2.1, b2.2⟩, by rw [c4.2 Q (by omega) (by simp; exact Ne.symm mQ)]; exact o3, ?_, fun p hp => ?_, inj⟩
    · rcases a with a | ⟨aq, cs, a0, a1, a2, a3, a4, a5⟩
      · exact .inl a
      · exact .inr ⟨aq, cs, a0, ⟨ED _ a1.1, a1.2⟩, a2, by omega, by rw [old _ a3 a2 a1.2]; exact a4, a5⟩
    · obtain ⟨i1, i2, i3, i4⟩ := it p hp
      exact ⟨by omega, ⟨ED _ i2.1, i2.2⟩, i3, by rw [old _ i1 i3 i2.2]; exact i4⟩
  simp only [ptr, nilV_ptr, offV_ptr, bindV_some, Nat.zero_add, ifaceV, evT]
  refine .inr (.inl ⟨rfl, _, Q, sv, _, _, f, N.length, x, 0, rfl, by omega, hs4, hf, by omega, ⟨Eall _ (by omega), by omega⟩, by omega, by rw [c4.2 _ (by omega) (by simp; omega)]; exact x3, fun p hp => ?_, ?_, fun i hi => ⟨Eall _ (by omega), by omega⟩, fun h5 sv' f' c5 hs5 hf5 m5 => ?_⟩)
  · have := (it p hp).1; omega
  · rintro aq rfl
    rcases a with ⟨a, _⟩ | ⟨aq', cs, a0, a1, a2, a3, a4, a5⟩
    · cases a
    · cases a0; omega
  · have sx : isT x.kind x.id x = true := by simp [isT]
    have m5' := c5.1
    have dm : D m := ma.1
    have ma5 := (MapAt.chgP (B := fun i => E i ∧ i = m) ⟨⟨ma4.1, rfl⟩, ma4.2⟩ c5 (fun i h1 h2 => h1.2 h2.2))
    have all : ∀ i, i < h5.next → E i → D i ∨ (h.next ≤ i ∧ i < h5.next) := fun i hi he => by
      rw [hE] at he
      rcases he with h | h
      · exact .inl h
      · exact .inr ⟨h, hi⟩
    have chg : ChgP D h h5 := by
      refine ChgP.trans (D := D) (D' := E) (((c1.of_chg c13 ?_).of_chg c4 ?_)) (c5.mono fun i _ h => h.1) (fun _ _ h => h) (fun i hi he => ?_)
      · intro i hi; simp at hi; subst hi; exact .inl b2.1
      · intro i hi; simp at hi; subst hi; exact .inl dm
      · rw [hE] at he
        rcases he with h | h
        · exact h
        · omega
    have len : (N ++ [x]).length = N.length + 1 := by simp
    refine ⟨h5, St.le.refl _, H x h5 kx.1 kx.2.1 kx.2.2.1 kx.2.2.2 chg ⟨sv', m, f', ?_, ?_, fun y => ?_, ma5.imp fun i hi h => all i hi h.1, ?_, fun y hy => ?_⟩⟩
    · rw [len]; exact hs5.imp fun i hi h => ⟨all i hi h.1, h.2⟩
    · rw [len]; exact hf5
    · rw [len, m5 y, mm y]; simp
    · rw [List.pairwise_append]
      refine ⟨pw, by simp, fun y hy z hz => ?_⟩
      simp at hz; subst hz
      have := sq y hy
      refine ⟨by omega, ?_⟩
      have := fresh y hy
      simpa [isT, kx.1, kx.2.1] using this
    · rcases List.mem_append.1 hy with hy | hy
      · have := sq y hy; omega
      · simp at hy; subst hy; omega
end Go.Proofs.Ytaoeeoboaiknjaa
