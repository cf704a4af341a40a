/- 'PoolRuns', walked. -/
import Derived.Test.YtomjbkembmimbaaL
import Derived.Test.YtomjbkembmimbaaF
set_option linter.unusedSimpArgs false
set_option linter.unusedVariables false
set_option maxHeartbeats 4000000
namespace Go.Proofs.Ytomjbkembmimbaa
open Go.Abs Go.IntWalk
attribute [local congr] bindV_weak condK_weak guardK_weak groupK_weak allocE_weak boxE_weak storeE_weak storeM_weak tabC_weak ite_weak idG_weak

def likeS : Abs.Spec := fun args h k => ∃ (B : Nat → Prop) (v s : Value) (q : Nat) (A : List Inst) (beat now : Int), args = [v, encR s beat, .int .i64 now] ∧ PAt h v q (some (A, beat)) ∧ A.length ≤ 16 ∧ SliceAt B h s A.length 3 (rowI A) ∧ In64 beat ∧ (∀ x ∈ A, In64 x.last) ∧
  ∀ h', Chg h h' [] → k (.bool true) h'
def tabQ : List (FuncId × Abs.Spec) := [(22, manyS), (21, leastS), (36, refLeastS), (15, lateS), (38, refLateS), (37, sameS), (8, instS), (33, refGetS)]
theorem tabQ_good : ∀ p ∈ tabQ, SpecGood Try.prog p := by simp [tabQ, manyS_good, leastS_good, refLeastS_good, lateS_good, refLateS_good, sameS_good, instS_good, refGetS_good]
theorem neq_self (x : Inst) : binV .neq (.flat [.i, .i, .i]) (.agg #[.int .i64 x.st, .int .u32 x.m, .int .i64 x.last]) (.agg #[.int .i64 x.st, .int .u32 x.m, .int .i64 x.last]) = some (.bool false) := by simp [binV, eqV, eqAll, eqCk]
theorem like_l0 {B : Nat → Prop} {v s x6 : Value} {q p4 nn : Nat} {A : List Inst} {beat : Int} {h0 : St} {K : Cont} (hA : A.length ≤ 16) (pa : PAt h0 v q (some (A, beat))) (sl : SliceAt B h0 s A.length 3 (rowI A)) (h4 : p4 < h0.next) (o4 : h0.objs p4 = some (.cells [s, .int .i64 beat] true)) (H : ∀ h', Chg h0 h' [] → K (.bool true) h') :
    ∀ (d i m0 : Nat) (h : St), i + d = 18 → d < m0 → Chg h0 h [] → tiltyardlaw21_like_l0 (tabC tabQ) idG nn m0 v (ptr p4) x6 (.int .u32 i) h K := by
  intro d
  induction d with
  | zero =>
    intro i m0 h hi hm c
    obtain ⟨m0, rfl⟩ : ∃ m, m0 = m + 1 := ⟨m0 - 1, by omega⟩
    rw [tiltyardlaw21_like_l0_eq]
    have e : i = 18 := by omega
    subst e
    simp
    rw [tiltyardlaw21_like_j1_eq]
    exact H h c
  | succ d ih =>
    intro i m0 h hi hm c
    obtain ⟨m0, rfl⟩ : ∃ m, m0 = m + 1 := ⟨m0 - 1, by omega⟩
    rw [tiltyardlaw21_like_l0_eq]
    have hlt : (i : Int) < 18 := by omega
    have inc : IntKind.u32.wrap ((i : Int) + 1) = ((i + 1 : Nat) : Int) := by rw [u32_in _ (by omega)]; omega
    have p1 := pa.chg c (by simp)
    simp only [binNil_int, binV_lss, bindV_some, hlt, decide_true, condK_bool, if_true, idG_eq]
    refine .inr (.inr (.inr (.inr (.inr (.inr (.inl ⟨rfl, v, q, _, i, rfl, by omega, p1, fun h1 c1 => ?_⟩))))))
    have m1 := c1.1
    obtain ⟨x, hx⟩ : ∃ x, x = instZ (some (A, beat)) i := ⟨_, rfl⟩
    obtain ⟨b, hb⟩ : ∃ b, b = (atZ (some (A, beat)) i).isSome := ⟨_, rfl⟩
    rw [← hx, ← hb]
    simp only [extV_two0, extV_two1, bindV_some, allocE_some, encI, storeE_ptr, push_at, storeM_cells, cells_agg, List.take_zero, Nat.add_zero]
    refine ⟨⟨rfl, by simp, rfl⟩, ?_⟩
    obtain ⟨h2, hh2⟩ : ∃ g, g = (h1.push (.cells [.int .i64 0, .int .u32 0, .int .i64 0] true)).set h1.next (.cells [.int .i64 x.st, .int .u32 x.m, .int .i64 x.last] true) := ⟨_, rfl⟩
    have e2 : (h1.push (.cells [.int .i64 0, .int .u32 0, .int .i64 0] true)).set h1.next (.cells ([] ++ (#[Value.int .i64 x.st, .int .u32 x.m, .int .i64 x.last] : Array Value).toList ++ List.drop (0 + 3) [.int .i64 0, .int .u32 0, .int .i64 0]) true) = h2 := by rw [hh2]; rfl
    rw [e2]
    have c2 : Chg h1 h2 [] := by rw [hh2]; exact (Chg.push _ _).of_set (.inr (Nat.le_refl _))
    have b8 : h2.objs h1.next = some (.cells [.int .i64 x.st, .int .u32 x.m, .int .i64 x.last] true) := by rw [hh2]; exact set_at _ _ _
    have m2 : h1.next < h2.next := by rw [hh2]; simp
    have cc2 : Chg h0 h2 [] := (c.of_chg c1 (by simp)).of_chg c2 (by simp)
    have o42 := cc2.at h4 (by simp) o4
    simp only [ptr, loadV_ptr, o42, loadM_cells, partV_agg, takeN_lit2, Option.map_some, bindV_some]
    refine .inr (.inr (.inr (.inr (.inr (.inr (.inr (.inl ⟨rfl, _, s, A, beat, i, rfl, by omega, hA, sl.chg cc2 (by simp), fun h3 c3 => ?_⟩)))))))
    have m3 := c3.1
    have b8' := c3.at m2 (by simp) b8
    rw [← hx, ← hb]
    simp only [extV_two0, extV_two1, bindV_some, allocE_some, encI, storeE_ptr, push_at, storeM_cells, cells_agg, List.take_zero, Nat.add_zero]
    refine ⟨⟨rfl, by simp, rfl⟩, ?_⟩
    obtain ⟨h5, hh5⟩ : ∃ g, g = (h3.push (.cells [.int .i64 0, .int .u32 0, .int .i64 0] true)).set h3.next (.cells [.int .i64 x.st, .int .u32 x.m, .int .i64 x.last] true) := ⟨_, rfl⟩
    have e5 : (h3.push (.cells [.int .i64 0, .int .u32 0, .int .i64 0] true)).set h3.next (.cells ([] ++ (#[Value.int .i64 x.st, .int .u32 x.m, .int .i64 x.last] : Array Value).toList ++ List.drop (0 + 3) [.int .i64 0, .int .u32 0, .int .i64 0]) true) = h5 := by rw [hh5]; rfl
    rw [e5]
    have c5 : Chg h3 h5 [] := by rw [hh5]; exact (Chg.push _ _).of_set (.inr (Nat.le_refl _))
    have b10 : h5.objs h3.next = some (.cells [.int .i64 x.st, .int .u32 x.m, .int .i64 x.last] true) := by rw [hh5]; exact set_at _ _ _
    have b8'' := c5.at (by omega) (by simp) b8'
    have cc5 : Chg h0 h5 [] := (cc2.of_chg c3 (by simp)).of_chg c5 (by simp)
    simp [groupK_eq, getT, guardK_undef, b8'', b10, bv3i, neq_self, inc]
    exact ih (i + 1) m0 h5 (by omega) (by omega) cc5
theorem late_len (beat now : Int) : ∀ (A : List Inst) (i : Nat), (lateL beat now A i).length ≤ A.length
  | [], _ => by simp [lateL]
  | x :: A, i => by
    have := late_len beat now A (i + 1)
    simp only [lateL]
    split <;> simp <;> omega
theorem likeS_good : SpecGood Try.prog (20, likeS) := by
  refine spec_good mixed Try.func20 (by kernel_rfl) (by kernel_rfl) tabQ_good (keep := tiltyardlaw21_like_keep) ?_
  rintro args h k ⟨B, v, s, q, A, beat, now, rfl, pa, hA, sl, hb, hl, H⟩
  refine ⟨20, ?_⟩
  show tiltyardlaw21_like (tabC tabQ) idG 20 v (encR s beat) (.int .i64 now) h _
  generalize hK : (fun v h1 => ∃ h2, St.le h2 h1 ∧ k v h2 : Cont) = K
  have H : ∀ h', Chg h h' [] → K (.bool true) h' := by subst hK; exact fun h' c => ⟨_, St.le.refl _, H h' c⟩
  clear hK
  rw [tiltyardlaw21_like_eq]
  simp only [encR, boxE_eq, cells_agg]
  refine ⟨by simp [sl.one], ?_⟩
  obtain ⟨h1, hh1⟩ : ∃ g, g = h.push (.cells [s, .int .i64 beat] true) := ⟨_, rfl⟩
  have e1 : h.push (.cells (#[s, Value.int .i64 beat] : Array Value).toList true) = h1 := by rw [hh1]
  rw [e1]
  have c1 : Chg h h1 [] := by rw [hh1]; exact Chg.push _ _
  have m1 : h.next < h1.next := by rw [hh1]; simp
  have o1 : h1.objs h.next = some (.cells [s, .int .i64 beat] true) := by rw [hh1]; exact push_at _ _
  have p1 := pa.chg c1 (by simp)
  have sl1 := sl.chg c1 (by simp)
  refine .inl ⟨rfl, v, q, _, rfl, p1, ?_⟩
  simp [manyZ, o1, sl1.len, groupK_eq, getT]
  refine .inr (.inl ⟨rfl, v, q, _, rfl, p1, fun h2 c2 => ?_⟩)
  have o2 := c2.at m1 (by simp) o1
  have p2 := p1.chg c2 (by simp)
  have sl2 := sl1.chg c2 (by simp)
  have m2 := c2.1
  simp [o1, o2, leastZ]
  refine .inr (.inr (.inl ⟨rfl, _, s, A, beat, rfl, hA, sl2, fun h3 c3 => ?_⟩))
  have o3 := c3.at (by omega) (by simp) o2
  have p3 := p2.chg c3 (by simp)
  have sl3 := sl2.chg c3 (by simp)
  have m3 := c3.1
  have hz : leastZ (some (A, beat)) = leastL A 0 := rfl
  simp [o3, groupK_eq, getT, hz]
  refine .inr (.inr (.inr (.inl ⟨rfl, v, q, A, beat, now, rfl, p3, hb, hl, fun h4 w4 c4 own4 => ?_⟩)))
  have o4 := c4.at (by omega) (by simp) o3
  have p4 := p3.chg c4 (by simp)
  have sl4 := sl3.chg c4 (by simp)
  have m4 := c4.1
  simp [o3, o4]
  refine .inr (.inr (.inr (.inr (.inl ⟨rfl, _, s, A, beat, now, rfl, hA, sl4, hb, hl, fun h5 w5 c5 own5 => ?_⟩))))
  have o5 := c5.at (by omega) (by simp) o4
  have p5 := p4.chg c5 (by simp)
  have sl5 := sl4.chg c5 (by simp)
  have m5 := c5.1
  have own4' : OwnS (fun i => h3.next ≤ i ∧ i < h4.next) h4 w4 1 ((lateL beat now A 0).map uc) (lateL beat now A 0).length := own4.imp fun i a b => ⟨b, a⟩
  have own45 := own4'.chg c5 (by simp)
  have toS : ∀ {B : Nat → Prop} {g : St} {w : Value}, OwnS B g w 1 ((lateL beat now A 0).map uc) (lateL beat now A 0).length → SliceAt B g w (lateL beat now A 0).length 1 (rowU (lateL beat now A 0)) := by
    intro B g w o
    have e : (lateL beat now A 0).map uc = (lateL beat now A 0).flatMap (fun n => [uc n]) := List.map_eq_flatMap
    rw [e] at o
    exact o.slice (fun _ _ => rfl) fun i x hx => by simp [rowU, hx]
  simp only [true_and]
  have := late_len beat now A 0
  refine .inr (.inr (.inr (.inr (.inr (.inl ⟨rfl, _, _, w4, w5, lateL beat now A 0, rfl, by omega, toS own45, toS own5, ?_⟩)))))
  simp [groupK_eq, getT]
  exact like_l0 hA p5 sl5 (by omega) o5 (fun h' c => H h' (((((c1.of_chg c2 (by simp)).of_chg c3 (by simp)).of_chg c4 (by simp)).of_chg c5 (by simp)).of_chg c (by simp))) 18 0 20 h5 (by omega) (by omega) (Chg.refl _ _)

/-! ### PoolRuns -/
theorem PAt.oth {h h' : St} {v : Value} {q p : Nat} {P : Pl} {S : List Nat} (a : PAt h v q P) (hv : v = .pointer (some ⟨p, 0, none⟩)) (c : Chg h h' S) (hS : ∀ i ∈ S, i ≠ p ∧ i ≠ q) : PAt h' v q P := by
  subst hv
  match P, a with
  | some (A, beat), ⟨p', h1, h2, h3, h4, h5, h6, h7⟩ =>
    cases h1
    exact ⟨p, rfl, Nat.lt_of_lt_of_le h2 c.1, Nat.lt_of_lt_of_le h3 c.1, h4, h5, c.at h2 (fun hi => (hS _ hi).1 rfl) h6, c.at h3 (fun hi => (hS _ hi).2 rfl) h7⟩
def cellsT (a : Act) : List Value := [.int .u8 a.d, .int .u32 a.id, .int .u32 a.m, .int .i64 a.now]
def Act.nil : Act := ⟨0, 0, 0, 0⟩
def rowT (L : List Act) (i : Nat) : List Value := cellsT (L[i]?.getD .nil)
def tabU : List (FuncId × Abs.Spec) := [(7, newS), (18, refNewS), (9, doS), (19, refDoS), (20, likeS), (10, awakeS)]
theorem tabU_good : ∀ p ∈ tabU, SpecGood Try.prog p := by simp [tabU, newS_good, refNewS_good, doS_good, refDoS_good, likeS_good, awakeS_good]
theorem runs_l0 {L : List Act} {v x0 x1 x2 x6 : Value} {q p p8 nn : Nat} {beat : Int} {h0 : St} {K : Cont} (hL : L.length ≤ 80) (hid : ∀ a ∈ L, a.id < 4294967296 ∧ 0 ≤ a.m ∧ In64 a.now) (hb : In64 beat) (hv : v = ptr p) (s0 : SliceAt (· < h0.next) h0 x2 L.length 4 (rowT L)) (hq : h0.next ≤ q) (hp : h0.next ≤ p) (h8 : h0.next ≤ p8) (n1 : p8 ≠ p) (n2 : p8 ≠ q) (HK : ∀ h', K (.bool true) h') :
    ∀ (d i m0 : Nat) (h : St) (A : List Inst) (s x13 : Value), i + d = L.length → d < m0 → ChgP (h0.next ≤ ·) h0 h → PAt h v q (some (A, beat)) → p8 < h.next → h.objs p8 = some (.cells [s, .int .i64 beat] true) → SliceAt (fun i => i ≠ q ∧ i ≠ p8) h s A.length 3 (rowI A) → A.length ≤ 16 → (∀ x ∈ A, okI x) → (∀ x ∈ A, In64 x.last) →
      tiltyardlaw21_PoolRuns_l0 (tabC tabU) idG nn m0 x0 x1 x2 x6 v (ptr p8) (.int .i64 i) x13 h K := by
  intro d
  induction d with
  | zero =>
    intro i m0 h A s x13 hi hm c pa hn8 o8 sl hA ok la
    obtain ⟨m0, rfl⟩ : ∃ m, m0 = m + 1 := ⟨m0 - 1, by omega⟩
    rw [tiltyardlaw21_PoolRuns_l0_eq]
    have e : i = L.length := by omega
    subst e
    simp [s0.len]
    rw [tiltyardlaw21_PoolRuns_j1_eq]
    exact .inr (.inr (.inr (.inr (.inr (.inl ⟨rfl, rfl, fun h' _ => HK h'⟩)))))
  | succ d ih =>
    intro i m0 h A s x13 hi hm c pa hn8 o8 sl hA ok la
    obtain ⟨m0, rfl⟩ : ∃ m, m0 = m + 1 := ⟨m0 - 1, by omega⟩
    rw [tiltyardlaw21_PoolRuns_l0_eq]
    have hlt : (i : Int) < L.length := by omega
    have hi' : i < L.length := by omega
    have sa := s0.chgP c (fun i h => by omega)
    obtain ⟨b, o, g1, g2, g3, cs, own, g4, g5⟩ := sa.idx (Int.natCast_nonneg i) hlt .i64
    obtain ⟨a, ha⟩ : ∃ a, a = L[i] := ⟨_, rfl⟩
    have hrow : rowT L (i : Int).toNat = cellsT a := by simp [rowT, hi', ha]
    rw [hrow] at g5
    obtain ⟨hida, hma, hna⟩ := hid a (by rw [ha]; exact List.getElem_mem _)
    have inc : IntKind.i64.wrap ((i : Int) + 1) = ((i + 1 : Nat) : Int) := by rw [i64_in _ (by omega)]; omega
    have c0 := c.1
    simp only [sa.len, bindV_some, binV_lss, condK_bool, hlt, decide_true, if_true, idG_eq, g1, loadV_ptr, g4, loadM_cells, partV_agg, g5, Option.map_some, allocE_some, storeE_ptr, push_at, storeM_cells, cells_agg, List.take_zero, Nat.add_zero]
    refine ⟨⟨rfl, by simp [cellsT], rfl⟩, ?_⟩
    obtain ⟨h1, hh1⟩ : ∃ g, g = (h.push (.cells [.int .u8 0, .int .u32 0, .int .u32 0, .int .i64 0] true)).set h.next (.cells (cellsT a) true) := ⟨_, rfl⟩
    have e1 : (h.push (.cells [.int .u8 0, .int .u32 0, .int .u32 0, .int .i64 0] true)).set h.next (.cells ([] ++ (cellsT a).toArray.toList ++ List.drop (0 + 4) [.int .u8 0, .int .u32 0, .int .u32 0, .int .i64 0]) true) = h1 := by rw [hh1]; rfl
    rw [e1]
    have cg : Chg h h1 [] := by rw [hh1]; exact Chg.of_set (Chg.push _ []) (.inr (Nat.le_refl _))
    have a1 : h1.objs h.next = some (.cells (cellsT a) true) := by rw [hh1]; exact set_at _ _ _
    have m1 : h.next < h1.next := by rw [hh1]; simp
    have p1 := pa.chg cg (by simp)
    have o1 := cg.at hn8 (by simp) o8
    have sl1 := sl.chg cg (by simp)
    simp only [a1, loadM_cells, partV_agg, cellsT, takeN_lit4, Option.map_some, bindV_some]
    refine .inr (.inr (.inl ⟨rfl, v, q, _, a, rfl, hida, p1, fun h2 c2 p2 => ?_⟩))
    obtain ⟨pp, hpv, hpn, hqn, hpq, _⟩ := id pa
    have hpp : pp = p := by rw [hv] at hpv; cases hpv; rfl
    subst hpp
    have m2 := c2.1
    have o2 := c2.at (by omega) (by simp; exact n2) o1
    have a2 := c2.at m1 (by simp; omega) a1
    have sl2 := sl1.chg c2 (by intro i hi hB; simp at hi; exact hB.1 hi)
    rw [doR_doZ ok] at p2 ⊢
    simp [ptr, o2, a2, cellsT]
    refine .inr (.inr (.inr (.inl ⟨rfl, _, s, A, beat, a, rfl, hida, hma, hA, sl2, ok, fun h3 s3 c3 sl3 => ?_⟩)))
    have m3 := c3.1
    have o3 := c3.at (by omega) (by simp) o2
    have a3 := c3.at (by omega) (by simp) a2
    have p3 := p2.chg c3 (by simp)
    simp [encR, sl3.one, groupK_eq, getT, guardK_undef]
    obtain ⟨h4, hh4⟩ : ∃ g, g = (h3.push (.cells [.slice none 0 0, .int .i64 0] true)).set h3.next (.cells [s3, .int .i64 beat] true) := ⟨_, rfl⟩
    rw [← hh4]
    have c4 : Chg h3 h4 [] := by rw [hh4]; exact Chg.of_set (Chg.push _ []) (.inr (Nat.le_refl _))
    have m4 : h3.next < h4.next := by rw [hh4]; simp
    have b4 : h4.objs h3.next = some (.cells [s3, .int .i64 beat] true) := by rw [hh4]; exact set_at _ _ _
    have o4 := c4.at (by omega) (by simp) o3
    have a4 := c4.at (by omega) (by simp) a3
    have p4 := p3.chg c4 (by simp)
    have sl4 := sl3.chg c4 (by simp)
    simp [b4, a4, cellsT]
    refine .inr (.inr (.inr (.inr (.inl ⟨rfl, _, v, s3, q, _, beat, a.now, rfl, p4, by rw [doR_len]; exact hA, sl4, hb, doR_last hna la, fun h5 c5 => ?_⟩))))
    have m5 := c5.1
    have b5 := c5.at (by omega) (by simp) b4
    have o5 := c5.at (by omega) (by simp) o4
    have p5 := p4.chg c5 (by simp)
    have sl5 := sl4.chg c5 (by simp)
    simp [ptr, getT, b5, o5, sl5.one, inc]
    have cs : ChgP (h0.next ≤ ·) h0 h5 := (((c.of_chg cg (by simp)).of_chg c2 (by simp; omega)).of_chg c3 (by simp)).of_chg c4 (by simp) |>.of_chg c5 (by simp)
    have sl5' : SliceAt (fun i => i ≠ q ∧ i ≠ p8) h5 s3 (doR A beat a).1.length 3 (rowI (doR A beat a).1) := sl5.imp fun i _ hB => by rcases hB with hB | hB; exact hB; constructor <;> omega
    have cset : Chg h5 (h5.set p8 (.cells [s3, .int .i64 beat] true)) [p8] := Chg.set _ (by simp)
    refine ih (i + 1) m0 _ _ s3 _ (by omega) (by omega) (cs.of_set (.inl h8)) (p5.oth (p := pp) hv cset (by simpa using ⟨n1, n2⟩)) (by simp; omega) (set_at _ _ _) (sl5'.chg cset (by intro i hi hB; simp at hi; exact hB.2 hi)) (by rw [doR_len]; exact hA) (doR_ok ok) (doR_last hna la)
def runsLawS : Abs.Spec := fun args h k => ∃ (many beat : Int) (L : List Act) (v : Value), args = [.int .i64 many, .int .i64 beat, v] ∧ (∀ a ∈ L, a.id < 4294967296 ∧ 0 ≤ a.m ∧ In64 a.now) ∧ In64 beat ∧ SliceAt (· < h.next) h v L.length 4 (rowT L) ∧ ∀ h', k (.bool true) h'
theorem runsLawS_good : SpecGood Try.prog (5, runsLawS) := by
  refine spec_good mixed Try.func5 (by kernel_rfl) (by kernel_rfl) tabU_good (keep := tiltyardlaw21_PoolRuns_keep) ?_
  rintro args h k ⟨many, beat, L, v, rfl, hid, hb, s, H⟩
  refine ⟨90, ?_⟩
  show tiltyardlaw21_PoolRuns (tabC tabU) idG 90 (.int .i64 many) (.int .i64 beat) v h _
  generalize hK : (fun v h1 => ∃ h2, St.le h2 h1 ∧ k v h2 : Cont) = K
  have H : ∀ h', K (.bool true) h' := by subst hK; exact fun h' => ⟨_, St.le.refl _, H h'⟩
  clear hK
  rw [tiltyardlaw21_PoolRuns_eq]
  by_cases hl : (L.length : Int) > 80
  · have hl' : (80 : Int) < L.length := hl
    simp [s.len, hl']
    exact H h
  have hl' : ¬ (80 : Int) < L.length := hl
  simp [s.len, hl']
  refine .inl ⟨rfl, many, beat, rfl, fun h1 w q c1 hq p1 ⟨p, hw, hp⟩ => ?_⟩
  have m1 := c1.1
  refine .inr (.inl ⟨rfl, many, beat, rfl, fun h2 s2 c2 sl2 => ?_⟩)
  have m2 := c2.1
  have p2 := p1.chg c2 (by simp)
  obtain ⟨p', hw', hpn, hqn, hpq, _⟩ := id p1
  have hpp : p' = p := by rw [hw] at hw'; cases hw'; rfl
  subst hpp
  have c3 : Chg h2 ((h2.push (.cells [.slice none 0 0, .int .i64 0] true)).set h2.next (.cells [s2, .int .i64 beat] true)) [] := Chg.of_set (Chg.push _ []) (.inr (Nat.le_refl _))
  have p3 := p2.chg c3 (by simp)
  have sl2' : SliceAt (fun i => i ≠ q ∧ i ≠ h2.next) h2 s2 (List.replicate (min (max many 0) 16).toNat Inst.zero).length 3 (rowI (List.replicate (min (max many 0) 16).toNat Inst.zero)) := sl2.imp fun i _ hB => by constructor <;> omega
  have sl3 := sl2'.chg c3 (by simp)
  simp [encR, sl2.one, hw]
  have hz : newZ many beat = some (List.replicate (min (max many 0) 16).toNat Inst.zero, beat) := rfl
  rw [hz] at p3
  rw [hw] at p3
  refine runs_l0 (p := p') (q := q) (p8 := h2.next) (h0 := h) (beat := beat) (by omega) hid hb rfl s hq hp (by omega) (by omega) (by omega) H L.length 0 90 _ (List.replicate (min (max many 0) 16).toNat Inst.zero) s2 _ (by omega) (by omega) ?_ p3 (by simp) (set_at _ _ _) sl3 (by simp; omega) ?_ ?_
  · exact ((c1.of_chg c2 (by simp)).of_chg c3 (by simp)).toP (by simp)
  · intro x hx
    rw [List.eq_of_mem_replicate hx]
    exact ⟨by simp [Inst.zero], by simp [Inst.zero]⟩
  · intro x hx
    rw [List.eq_of_mem_replicate hx]
    simp [In64, Inst.zero]
end Go.Proofs.Ytomjbkembmimbaa
