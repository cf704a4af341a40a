/- The document's connections: with, Close, Open. -/
import Derived.Test.YtnelcpabjpchnaaSesH
set_option linter.unusedSimpArgs false
set_option linter.unusedVariables false
set_option maxHeartbeats 4000000
namespace Go.Proofs.Ytnelcpabjpchnaa
open Go.Abs Go.IntWalk
attribute [local congr] bindV_weak condK_weak guardK_weak groupK_weak allocE_weak boxE_weak storeE_weak storeM_weak tabC_weak ite_weak idG_weak appendE_weak buildSliceE_weak mapUpdateE_weak deleteE_weak makeMapE_weak copyE_weak clearE_weak callE_weak

/-- A row put behind a slice of one's own, with a look at what was read ahead of it. -/
theorem append_rowC {B : Nat → Prop} {h : St} {v x : Value} {sz n bytes : Nat} {cs z : List Value} {k : Cont} {Q : St → Prop} (hB : ∀ i, h.next ≤ i → B i) (s : OwnS B h v sz cs n) (hz : z.length = sz) (hx : x.cells.size = sz) (h1 : allOne x.cells.toList = true) (hu : isUnk x = false)
    (hb : (n + 1) * bytes ≤ 140737488355328) (hb' : n + 1 ≤ 140737488355328) (hQ : ∀ h2, Chg h h2 [] → Q h2) (hk : ∀ h' v', ChgP B h h' → OwnS B h' v' sz (cs ++ x.cells.toList) (n + 1) → k v' h') : buildSliceE sz 1 z [(0 * sz, sz, x)] h fun v2 h2 => Q h2 ∧ appendE sz bytes v v2 h2 k := by
  have hl : x.cells.toList.length = sz := by simpa using hx
  have hf : fillL [(0 * sz, sz, x)] (repL z 1) = some x.cells.toList := by
    simp only [fillL, repL, List.append_nil, Nat.zero_mul, Nat.zero_add]
    rw [if_pos ⟨hx, by omega⟩, List.take_zero, List.nil_append, ← hz, List.drop_length, List.append_nil]
  refine buildSliceE_in x.cells.toList hf h1 (by simp [hu]) fun h2 c2 n2 o2 => ⟨hQ h2 c2, ?_⟩
  have hn : newCells sz (.slice (some ⟨h.next, 0, some sz⟩) 1 0) h2 = some (x.cells.toList, 1) := by
    simp only [newCells, o2, Nat.one_mul]
    unfold takeN
    rw [if_pos (by omega), List.drop_zero, ← hl, List.take_length]
    rfl
  have s2 := s.chg c2 (by simp)
  exact append_own' (hB _ (by omega)) s2 hn (by omega) h1 hb hb' fun h' v' c s' => hk h' v' ((c2.nil B).step c) s'
/-- A table that is being made: in the box 'b', its rows above 'n0'. -/
def OutS (n0 b : Nat) (h : St) (most : Nat) (idle : Int) (A : List Lk) : Prop := b < n0 ∧ n0 ≤ h.next ∧ ∃ lvo, h.objs b = some (.cells [lvo, .int .i64 (most : Int), .int .i64 idle] true) ∧ RtS (fun i => n0 ≤ i) h lvo A
theorem OutS.chg0 {n0 b : Nat} {h h' : St} {most : Nat} {idle : Int} {A : List Lk} (o : OutS n0 b h most idle A) (c : Chg h h' []) : OutS n0 b h' most idle A := by
  obtain ⟨bn, nn, lvo, ob, s⟩ := o
  exact ⟨bn, Nat.le_trans nn c.1, lvo, c.at0 (by omega) ob, s.chg0 c⟩
theorem flat_K (A : List Lk) (y : Lk) : (A ++ [y]).flatMap cellsK = A.flatMap cellsK ++ cellsK y := by simp
def zK : List Value := [.int .u32 0, .int .u32 0, .int .i64 0]
section
variable {n0 b : Nat} {h : St} {most : Nat} {idle : Int} {A : List Lk} {y : Lk} {lvo : Value} {K : St → Prop}
theorem out_store {h1 h2 : St} {v2 : Value} (bn : b < n0) (nn : n0 ≤ h.next) (ob : h.objs b = some (.cells [lvo, .int .i64 (most : Int), .int .i64 idle] true)) (c : ChgP (fun i => n0 ≤ i) h h2) (s : RtS (fun i => n0 ≤ i) h2 v2 (A ++ [y]))
    (hK : ∀ h', ChgP (fun i => i = b ∨ n0 ≤ i) h h' → OutS n0 b h' most idle (A ++ [y]) → K h') : bindV (offV 0 (.pointer (some ⟨b, 0, none⟩))) fun v3 => storeE 1 v3 v2 h2 fun _ h3 => K h3 := by
  have ob2 := c.at (i := b) (by omega) (by omega) ob
  have m2 := c.1
  have h1 := s.one
  simp only [offV_ptr, bindV_some, Nat.zero_add]
  refine storeE_in ob2 [v2, .int .i64 (most : Int), .int .i64 idle] (by rw [s.cells1]; rfl) (by simp) (by rw [s.cells1]; show allOne [v2] = true; simp only [allOne, h1, Bool.and_true]) (by rw [s.cells1]; rfl) fun h3 c3 n3 o3 => ?_
  exact hK h3 ((c.mono fun i _ hi => .inr hi).of_chg c3 (by simp)) ⟨bn, by omega, v2, o3, OwnS.chg s c3 (by simp; omega)⟩
theorem out_push (o : OutS n0 b h most idle A) (ob : h.objs b = some (.cells [lvo, .int .i64 (most : Int), .int .i64 idle] true)) (few : A.length ≤ 1000000) (hK : ∀ h', ChgP (fun i => i = b ∨ n0 ≤ i) h h' → OutS n0 b h' most idle (A ++ [y]) → K h') :
    buildSliceE 3 1 zK [(0 * 3, 3, .agg (cellsK y).toArray)] h fun v1 h1 => appendE 3 16 lvo v1 h1 fun v2 h2 => bindV (offV 0 (.pointer (some ⟨b, 0, none⟩))) fun v3 => storeE 1 v3 v2 h2 fun _ h3 => K h3 := by
  obtain ⟨bn, nn, lvo', ob', s⟩ := o
  rw [ob] at ob'
  cases ob'
  refine append_row (B := fun i => n0 ≤ i) (fun j hj => by omega) s rfl rfl rfl rfl (by omega) (by omega) fun h2 v2 c2 s2 => ?_
  exact out_store (h1 := h) bn nn ob c2 (by unfold RtS; rw [flat_K, List.length_append]; exact s2) hK
theorem out_pushC {Q : St → Prop} {R R' : Prop} (o : OutS n0 b h most idle A) (ob : h.objs b = some (.cells [lvo, .int .i64 (most : Int), .int .i64 idle] true)) (few : A.length ≤ 1000000) (hQ : ∀ h2, Chg h h2 [] → Q h2) (hR : R) (hR' : R') (hK : ∀ h', ChgP (fun i => i = b ∨ n0 ≤ i) h h' → OutS n0 b h' most idle (A ++ [y]) → K h') :
    buildSliceE 3 1 zK [(0 * 3, 3, .agg (cellsK y).toArray)] h fun v1 h1 => Q h1 ∧ appendE 3 16 lvo v1 h1 fun v2 h2 => R ∧ bindV (offV 0 (.pointer (some ⟨b, 0, none⟩))) fun v3 => storeE 1 v3 v2 h2 fun _ h3 => R' ∧ K h3 := by
  obtain ⟨bn, nn, lvo', ob', s⟩ := o
  rw [ob] at ob'
  cases ob'
  refine append_rowC (B := fun i => n0 ≤ i) (fun j hj => by omega) s rfl rfl rfl rfl (by omega) (by omega) hQ fun h2 v2 c2 s2 => ⟨hR, ?_⟩
  exact out_store (K := fun h => R' ∧ K h) (h1 := h) bn nn ob c2 (by unfold RtS; rw [flat_K, List.length_append]; exact s2) fun h' c o => ⟨hR', hK h' c o⟩
end
theorem chg_loop {h hb hc : St} {b : Nat} (c0 : Chg h hb []) (c : ChgP (fun i => i = b ∨ hb.next ≤ i) hb hc) (hb' : h.next ≤ b) : Chg h hc [] := by
  have m := c0.1
  exact ((c0.nil (fun i => h.next ≤ i)).step (c.mono fun i _ hi => by omega)).list fun j h1 h2 => by omega
/-- The box that a function answers with. -/
theorem answer {n0 b r : Nat} {h : St} {most : Nat} {idle : Int} {A : List Lk} {z : List Value} {P : St → Prop} {K : Cont} (o : OutS n0 b h most idle A) (rn : r < n0) (rb : r ≠ b) (lz : z.length = 3) (orr : h.objs r = some (.cells z true)) (hP : ∀ h', Chg h h' [r] → P h')
    (hK : ∀ h' lvo, Chg h h' [r] → RtS (fun i => n0 ≤ i) h' lvo A → K (encR lvo most idle) h') :
    bindV (loadV true 3 (.pointer (some ⟨b, 0, none⟩)) h) fun v43 => storeE 3 (.pointer (some ⟨r, 0, none⟩)) v43 h fun _ h16 => P h16 ∧ bindV (loadV true 3 (.pointer (some ⟨r, 0, none⟩)) h16) fun r17 => K r17 h16 := by
  obtain ⟨bn, nn, lvo, ob, s⟩ := o
  have h1 := s.one
  have tk : takeN [lvo, .int .i64 (most : Int), .int .i64 idle] 0 3 = some [lvo, .int .i64 (most : Int), .int .i64 idle] := rfl
  simp only [loadV_ptr, ob, loadM_cells, partV_agg, tk, Option.map_some, bindV_some]
  refine storeE_all orr rfl lz (by show allOne [lvo, _, _] = true; simp only [allOne, h1, Bool.true_and]; rfl) fun h5 c5 n5 o5 => ⟨hP h5 c5, ?_⟩
  have o5 : h5.objs r = some (.cells [lvo, .int .i64 (most : Int), .int .i64 idle] true) := o5
  simp only [loadV_ptr, o5, loadM_cells, partV_agg, tk, Option.map_some, bindV_some]
  exact hK h5 lvo c5 (OwnS.chg s c5 (by simp; omega))
theorem answer' {n0 b r : Nat} {h : St} {most : Nat} {idle : Int} {A : List Lk} {z : List Value} {K : Cont} (o : OutS n0 b h most idle A) (rn : r < n0) (rb : r ≠ b) (lz : z.length = 3) (orr : h.objs r = some (.cells z true))
    (hK : ∀ h' lvo, Chg h h' [r] → RtS (fun i => n0 ≤ i) h' lvo A → K (encR lvo most idle) h') :
    bindV (loadV true 3 (.pointer (some ⟨b, 0, none⟩)) h) fun v43 => storeE 3 (.pointer (some ⟨r, 0, none⟩)) v43 h fun _ h16 => bindV (loadV true 3 (.pointer (some ⟨r, 0, none⟩)) h16) fun r17 => K r17 h16 := by
  obtain ⟨bn, nn, lvo, ob, s⟩ := o
  have h1 := s.one
  have tk : takeN [lvo, .int .i64 (most : Int), .int .i64 idle] 0 3 = some [lvo, .int .i64 (most : Int), .int .i64 idle] := rfl
  simp only [loadV_ptr, ob, loadM_cells, partV_agg, tk, Option.map_some, bindV_some]
  refine storeE_all orr rfl lz (by show allOne [lvo, _, _] = true; simp only [allOne, h1, Bool.true_and]; rfl) fun h5 c5 n5 o5 => ?_
  have o5 : h5.objs r = some (.cells [lvo, .int .i64 (most : Int), .int .i64 idle] true) := o5
  simp only [loadV_ptr, o5, loadM_cells, partV_agg, tk, Option.map_some, bindV_some]
  exact hK h5 lvo c5 (OwnS.chg s c5 (by simp; omega))
/-! ### with -/
def withL (M : List Lk) (c p : Nat) (l : Int) : List Lk := M.map fun x => if x.conn = c then ⟨c, p, l⟩ else x
def rwithO : Abs.Spec := fun args h k => ∃ (E : Nat → Prop) (lv : Value) (most : Nat) (idle : Int) (M : List Lk) (c p : Nat) (l : Int), args = [encR lv most idle, .int .u32 (c : Int), .int .u32 (p : Int), .int .i64 l] ∧ M.length ≤ 1000000 ∧ RtS E h lv M ∧
  ∀ h' lv', Chg h h' [] → RtS (fun i => h.next ≤ i) h' lv' (withL M c p l) → k (encR lv' most idle) h'
theorem rwith_l0 {nn b4 b8 b9 : Nat} {lv : Value} {E : Nat → Prop} {most : Nat} {idle : Int} {M : List Lk} {c p : Nat} {l : Int} {h0 hb : St} {k : Cont} (few : M.length ≤ 1000000) (s : RtS E h0 lv M) (c0 : Chg h0 hb []) (n4 : h0.next ≤ b4) (n8 : b8 < hb.next) (n49 : b4 < b9) (n89 : b8 < b9) (n9 : b9 < hb.next) (n08 : h0.next ≤ b8)
    (o4 : hb.objs b4 = some (.cells [lv, .int .i64 (most : Int), .int .i64 idle] true)) (o8 : ∃ z, z.length = 3 ∧ hb.objs b8 = some (.cells z true))
    (H : ∀ h' lv', Chg h0 h' [] → RtS (fun i => h0.next ≤ i) h' lv' (withL M c p l) → k (encR lv' most idle) h') :
    ∀ (d i m0 : Nat) (h : St) (x11 : Value), i + d = M.length → d < m0 → ChgP (fun j => j = b9 ∨ hb.next ≤ j) hb h → OutS hb.next b9 h most idle (withL (M.take i) c p l) →
      tiltyardref10_with_l0 (tabC []) idG nn m0 (.int .u32 (c : Int)) (.int .u32 (p : Int)) (.int .i64 l) (.pointer (some ⟨b4, 0, none⟩)) (.pointer (some ⟨b8, 0, none⟩)) (.pointer (some ⟨b9, 0, none⟩)) (.int .i64 (i : Int)) x11 h (fun v h1 => ∃ h2, St.le h2 h1 ∧ k v h2) := by
  obtain ⟨z8, lz8, o8⟩ := o8
  have mb := c0.1
  intro d
  induction d with
  | zero =>
    intro i m0 h x11 hi hm ch out
    obtain ⟨m0, rfl⟩ : ∃ m, m0 = m + 1 := ⟨m0 - 1, by omega⟩
    rw [tiltyardref10_with_l0_eq]
    have e' : i = M.length := by omega
    subst e'
    rw [List.take_length] at out
    have o4' := ch.at (by omega) (by omega) o4
    have o8' := ch.at (by omega) (by omega) o8
    have cc := chg_loop c0 ch (by omega)
    simp only [offV_ptr, bindV_some, loadV_ptr, o4', loadM_cells, partV_one, List.getElem?_cons_zero, Nat.zero_add, OwnS.len s, binV_lss, condK_bool, Int.lt_irrefl, decide_false, Bool.false_eq_true, if_false, idG_eq]
    rw [tiltyardref10_with_j2_eq]
    refine answer' out (by omega) (by omega) lz8 o8' fun h' lvo c' s' => ?_
    exact ⟨h', St.le.refl _, H h' lvo (cc.new c' (by omega)) (OwnS.imp s' fun j _ hj => Nat.le_trans mb hj)⟩
  | succ d ih =>
    intro i m0 h x11 hi hm ch out
    obtain ⟨m0, rfl⟩ : ∃ m, m0 = m + 1 := ⟨m0 - 1, by omega⟩
    rw [tiltyardref10_with_l0_eq]
    have hlt : (i : Int) < M.length := by omega
    have inc : IntKind.i64.wrap ((i : Int) + 1) = ((i + 1 : Nat) : Int) := by rw [i64_in _ (by omega)]; omega
    have o4' := ch.at (by omega) (by omega) o4
    have cc := chg_loop c0 ch (by omega)
    obtain ⟨b', o', g1, g2⟩ := s.row0 (show i < M.length by omega) .i64
    obtain ⟨cs, g4, g3, g5, _⟩ := g2 h cc
    obtain ⟨x, ex⟩ : ∃ x, x = M[i] := ⟨_, rfl⟩
    rw [← ex] at g3 g5
    have mh := ch.1
    simp only [offV_ptr, bindV_some, loadV_ptr, o4', loadM_cells, partV_one, List.getElem?_cons_zero, Nat.zero_add, OwnS.len s, binV_lss, condK_bool, hlt, decide_true, if_true, idG_eq, g1, g4, partV_agg, g3, Option.map_some]
    refine allocE_in fun h1 c1 n1 o1 => ?_
    refine storeE_all o1 rfl rfl rfl fun h2 c2 n2 o2 => ?_
    have o2 : h2.objs h.next = some (.cells (cellsK x) true) := o2
    have c12 : Chg h h2 [] := c1.new c2 (Nat.le_refl _)
    have tkk : ∀ y : Lk, takeN (cellsK y) 0 3 = some (cellsK y) := fun _ => rfl
    have tl : (withL (M.take i) c p l).length ≤ 1000000 := by unfold withL; rw [List.length_map, List.length_take]; omega
    -- behind it
    have next : ∀ (h3 : St) (y : Lk), Chg h h3 [] → h3.objs h.next = some (.cells (cellsK y) true) → y = (if x.conn = c then ⟨c, p, l⟩ else x) →
        tiltyardref10_with_j1 (tabC []) idG nn m0 (.int .u32 (c : Int)) (.int .u32 (p : Int)) (.int .i64 l) (.pointer (some ⟨b4, 0, none⟩)) (.pointer (some ⟨b8, 0, none⟩)) (.pointer (some ⟨b9, 0, none⟩)) (.int .i64 (i : Int)) (.pointer (some ⟨h.next, 0, none⟩)) h3 (fun v h1 => ∃ h2, St.le h2 h1 ∧ k v h2) := by
      intro h3 y c3 o3 ey
      rw [tiltyardref10_with_j1_eq]
      have out3 := out.chg0 c3
      have out3' := out3
      obtain ⟨_, _, lvo, ob, _⟩ := out3'
      simp only [offV_ptr, bindV_some, loadV_ptr, ob, o3, loadM_cells, partV_one, List.getElem?_cons_zero, Nat.zero_add, partV_agg, tkk, Option.map_some]
      refine out_push out3 ob tl fun h4 c4 out4 => ?_
      simp only [idG_eq]
      rw [tiltyardref10_with_j3_eq]
      simp only [binNil_int, binV_add, bindV_some, inc, idG_eq]
      refine ih (i + 1) m0 h4 _ (by omega) (by omega) ((ch.seq c3).step c4) ?_
      have : withL (M.take (i + 1)) c p l = withL (M.take i) c p l ++ [y] := by
        unfold withL
        rw [List.take_succ_eq_append_getElem (by omega), List.map_append, ey, ex]; rfl
      rw [this]
      exact out4
    have f0 : (cellsK x)[0]? = some (.int .u32 (x.conn : Int)) := rfl
    simp only [offV_ptr, bindV_some, loadV_ptr, o2, loadM_cells, partV_one, f0, Nat.zero_add, binV_eql, condK_bool, decide_eq_true_eq]
    by_cases e : x.conn = c
    · have e' : (x.conn : Int) = (c : Int) := by omega
      rw [if_pos e']
      have bv : buildV [.int .u32 0, .int .u32 0, .int .i64 0] (some [(0, 1, .int .u32 (c : Int)), (1, 1, .int .u32 (p : Int)), (2, 1, .int .i64 l)]) = some (.agg (cellsK ⟨c, p, l⟩).toArray) := rfl
      simp only [bv, bindV_some]
      refine storeE_all o2 rfl rfl rfl fun h3 c3 n3 o3 => ?_
      simp only [idG_eq]
      exact next h3 ⟨c, p, l⟩ (c12.new c3 (Nat.le_refl _)) o3 (by rw [if_pos e])
    · have e' : ¬ (x.conn : Int) = (c : Int) := by omega
      rw [if_neg e']
      simp only [idG_eq]
      exact next h2 x c12 o2 (by rw [if_neg e])
/-- What is made ready ahead of the loop. -/
theorem encR_build (most : Nat) (idle : Int) : buildV [.slice none 0 0, .int .i64 0, .int .i64 0] (some [(1, 1, .int .i64 (most : Int)), (2, 1, .int .i64 idle)]) = some (encR (.slice none 0 0) most idle) := rfl
theorem rwithO_good : SpecGood Try.prog (42, rwithO) := by
  refine spec_good mixed Try.func42 (by kernel_rfl) (by kernel_rfl) (tab := []) (by simp) (keep := tiltyardref10_with_keep) ?_
  rintro args h k ⟨E, lv, most, idle, M, c, p, l, rfl, few, s, H⟩
  refine ⟨M.length + 1, ?_⟩
  show tiltyardref10_with (tabC []) idG _ (encR lv most idle) (.int .u32 (c : Int)) (.int .u32 (p : Int)) (.int .i64 l) h _
  rw [tiltyardref10_with_eq]
  refine s.box most idle fun h1 c1 n1 o1 => ?_
  refine allocE_in fun h2 c2 n2 o2 => ?_
  have o12 := c2.at0 (by omega) o1
  simp only [offV_ptr, bindV_some, loadV_ptr, o12, loadM_cells, partV_one, List.getElem?_cons_zero, List.getElem?_cons_succ, Nat.zero_add, encR_build]
  refine allocE_in fun h3 c3 n3 o3 => ?_
  refine storeE_all o3 rfl rfl rfl fun h4 c4 n4 o4 => ?_
  have o4 : h4.objs h2.next = some (.cells [.slice none 0 0, .int .i64 (most : Int), .int .i64 idle] true) := o4
  have m2 := c2.1
  have o14 := c4.at1 (by omega) (by omega) (c3.at0 (by omega) o12)
  have o24 := c4.at1 (by omega) (by omega) (c3.at0 (by omega) o2)
  have c04 : Chg h h4 [] := ((c1.seq c2).seq c3).new c4 (by omega)
  simp only [idG_eq]
  exact rwith_l0 (b4 := h.next) (b8 := h1.next) (b9 := h2.next) few s c04 (Nat.le_refl _) (by omega) (by omega) (by omega) (by omega) (by omega) o14 ⟨_, rfl, o24⟩ H M.length 0 _ h4 _ (by omega) (by omega) (ChgP.refl _ _) ⟨by omega, Nat.le_refl _, _, o4, .inl ⟨rfl, rfl, rfl⟩⟩
end Go.Proofs.Ytnelcpabjpchnaa
