/- A table as the document's. -/
import Derived.Test.YtnelcpabjpchnaaSesO
import Derived.Test.YtnelcpabjpchnaaSesG
set_option linter.unusedSimpArgs false
set_option linter.unusedVariables false
set_option maxHeartbeats 4000000
namespace Go.Proofs.Ytnelcpabjpchnaa
open Go.Abs Go.IntWalk
attribute [local congr] bindV_weak condK_weak guardK_weak groupK_weak allocE_weak boxE_weak storeE_weak storeM_weak tabC_weak ite_weak idG_weak appendE_weak buildSliceE_weak mapUpdateE_weak deleteE_weak makeMapE_weak copyE_weak clearE_weak callE_weak

theorem own_ids {D : Nat → Prop} {h : St} {v : Value} {M : List Lk} (s : OwnS D h v 1 (M.map idv) M.length) : OwnS D h v 1 ((M.map fun x => (x.conn : Int)).map (.int .u32)) (M.map fun x => (x.conn : Int)).length := by
  rw [List.map_map, List.length_map]; exact s
theorem own_nat {D : Nat → Prop} {h : St} {v : Value} {L : List Nat} (s : OwnS D h v 1 (L.map fun (q : Nat) => Value.int .u32 (q : Int)) L.length) : OwnS D h v 1 ((L.map fun (q : Nat) => (q : Int)).map (.int .u32)) (L.map fun (q : Nat) => (q : Int)).length := by
  rw [List.map_map, List.length_map]; exact s
/-- Those logged in, as numbers. -/
theorem logged_nat {M : List Lk} (u : Uniq M) (r : Rise M) {L : List Int} (pm : L.Perm (loggedOf M)) (srt : L.Pairwise (· ≤ ·)) : ∃ N : List Nat, L = N.map (fun (q : Nat) => (q : Int)) ∧ N.Pairwise (· < ·) ∧ ∀ q, q ∈ N ↔ ∃ x ∈ M, x.player = q ∧ q ≠ 0 := by
  have str := rise_sorted srt (pm.nodup_iff.2 (logged_nodup u r))
  have nn : ∀ q ∈ L, 0 ≤ q := fun q hq => by
    obtain ⟨x, _, _, e⟩ := mem_logged.1 (pm.mem_iff.1 hq)
    omega
  have e : L = (L.map Int.toNat).map (fun (q : Nat) => (q : Int)) := by
    rw [List.map_map]
    conv => lhs; rw [← List.map_id L]
    apply List.map_congr_left
    intro q hq
    have := nn q hq
    simp; omega
  refine ⟨L.map Int.toNat, e, ?_, fun q => ?_⟩
  · rw [List.pairwise_map]
    refine str.imp_of_mem ?_
    intro a b ha hb hab
    have := nn a ha
    have := nn b hb
    omega
  · constructor
    · intro hq
      obtain ⟨z, hz, rfl⟩ := List.mem_map.1 hq
      obtain ⟨x, hx, h0, e⟩ := mem_logged.1 (pm.mem_iff.1 hz)
      exact ⟨x, hx, by omega, by omega⟩
    · rintro ⟨x, hx, rfl, h0⟩
      refine List.mem_map.2 ⟨(x.player : Int), pm.mem_iff.2 (mem_logged.2 ⟨x, hx, h0, rfl⟩), by simp⟩
theorem idle_same {M : List Lk} {idle now : Int} (hi : In64 idle) (hl : ∀ x ∈ M, In64 x.last) : M.filter (risIdle idle now) = M.filter (isIdle idle now) := by
  apply List.filter_congr
  intro x hx
  unfold risIdle isIdle
  rw [radd_eq (hl x hx) hi]
def likeO : Abs.Spec := fun args h k => ∃ (D E : Nat → Prop) (v lv : Value) (most : Nat) (idle : Int) (M : List Lk) (a : SAct), args = [v, encR lv most idle, .agg (cellsA a).toArray] ∧ M.length ≤ 255 ∧ TbS D h v most idle M ∧ RtS E h lv M ∧ Uniq M ∧ (∀ x ∈ M, x.player ≠ 0 → rightId x.player = true) ∧ In64 idle ∧ (∀ x ∈ M, In64 x.last) ∧
  ∀ h', Chg h h' [] → k (.bool true) h'
def tabLk : List (FuncId × Abs.Spec) := [(18, connsO), (43, rconnsO), (32, sameO), (17, splayersO), (44, rplayersO), (9, sidleO), (45, ridleO), (14, playerO), (13, sconnO), (41, rconnO), (40, rfindO)]
theorem tabLk_good : ∀ p ∈ tabLk, SpecGood Try.prog p := by simp [tabLk, connsO_good, rconnsO_good, sameO_good, splayersO_good, rplayersO_good, sidleO_good, ridleO_good, playerO_good, sconnO_good, rconnO_good, rfindO_good]
section
variable {D E : Nat → Prop} {v lv x6 : Value} {most nn b4 b5 : Nat} {idle : Int} {M : List Lk} {a : SAct} {h0 : St} {k : Cont}
theorem like_j1 {x7 : Value} {h : St} (few : M.length ≤ 255) (s : TbS D h0 v most idle M) (t : RtS E h0 lv M) (c : Chg h0 h []) (n4 : b4 < h0.next) (n5 : b5 < h0.next) (o4 : h0.objs b4 = some (.cells [lv, .int .i64 (most : Int), .int .i64 idle] true)) (o5 : h0.objs b5 = some (.cells (cellsA a) true))
    (H : ∀ h', Chg h0 h' [] → k (.bool true) h') :
    tiltyardlaw10_like_j1 (tabC tabLk) idG nn v (.pointer (some ⟨b4, 0, none⟩)) (.pointer (some ⟨b5, 0, none⟩)) x6 x7 h (KK k) := by
  rw [tiltyardlaw10_like_j1_eq]
  have A0 : (cellsA a)[0]? = some (.int .u8 a.do_) := rfl
  have A1 : (cellsA a)[1]? = some (.int .u32 (a.conn : Int)) := rfl
  have A2 : (cellsA a)[2]? = some (.int .u32 (a.player : Int)) := rfl
  have p5 := c.at0 n5 o5
  simp only [offV_ptr, bindV_some, loadV_ptr, p5, loadM_cells, partV_one, Nat.zero_add, A2]
  refine ⟨trivial, ?_⟩
  refine cK (S := sconnO) (by simp [tabLk]) ⟨D, v, most, idle, M, a.player, rfl, s.chg0 c, fun h1 c1 => ⟨⟨trivial, trivial⟩, ?_⟩⟩
  have c01 := c.seq c1
  rw [box_load t (c01.at0 n4 o4)]
  simp only [bindV_some]
  refine ⟨⟨box_load t (c.at0 n4 o4), trivial⟩, ?_⟩
  have q5 := c01.at0 n5 o5
  simp only [offV_ptr, bindV_some, loadV_ptr, q5, p5, loadM_cells, partV_one, Nat.zero_add, A2]
  refine ⟨⟨trivial, trivial⟩, ?_⟩
  refine cK (S := rconnO) (by simp [tabLk]) ⟨E, lv, most, idle, M, a.player, rfl, by omega, t.chg0 c01, fun h2 c2 => ⟨⟨trivial, trivial, trivial, trivial⟩, ?_⟩⟩
  have c02 := c01.seq c2
  have r5 := c02.at0 n5 o5
  simp only [binV_eql, decide_true, bindV_some, groupK_eq, guardK_bool, if_true]
  rw [box_load t (c02.at0 n4 o4)]
  simp only [bindV_some]
  refine ⟨⟨trivial, trivial, trivial⟩, ?_⟩
  simp only [offV_ptr, bindV_some, loadV_ptr, r5, loadM_cells, partV_one, Nat.zero_add, A1]
  refine ⟨⟨trivial, trivial, trivial⟩, ?_⟩
  refine cK (S := rfindO) (by simp [tabLk]) ⟨E, lv, most, idle, M, a.conn, rfl, by omega, t.chg0 c02, fun h3 i x c3 hi hc => ?_, fun h3 c3 no => ?_⟩
  · refine ⟨⟨trivial, trivial, trivial, trivial, trivial, trivial⟩, ?_⟩
    have ge : (i : Int) ≥ 0 := by omega
    simp only [binNil_int, binV_geq, ge, decide_true, bindV_some, idG_eq, getT, groupK_eq, guardK_bool, Bool.true_eq_false, if_false, if_true, pickV_bool]
    exact ⟨h3, St.le.refl _, H h3 (c02.seq c3)⟩
  · refine ⟨⟨trivial, trivial, trivial, trivial, trivial, trivial⟩, ?_⟩
    have ge : ¬ (-1 : Int) ≥ 0 := by omega
    have c03 := c02.seq c3
    have s5 := c03.at0 n5 o5
    simp only [binNil_int, binV_geq, ge, decide_false, bindV_some, idG_eq, getT, groupK_eq, guardK_bool, if_true, offV_ptr, loadV_ptr, s5, loadM_cells, partV_one, Nat.zero_add, A1]
    refine ⟨⟨trivial, trivial, trivial, trivial⟩, ?_⟩
    refine cK (S := playerO) (by simp [tabLk]) ⟨D, v, most, idle, M, a.conn, rfl, s.chg0 c03, fun h4 c4 => ⟨⟨trivial, trivial, trivial, trivial, trivial, trivial, trivial⟩, ?_⟩⟩
    have e : playerOf M a.conn = 0 := by unfold playerOf; rw [getL_not no]; rfl
    simp only [e, Int.natCast_zero, Int.cast_ofNat_Int, binNil_int, binV_eql, decide_true, bindV_some, idG_eq, getT, groupK_eq, guardK_bool, if_true, pickV_bool, Bool.false_eq_true, if_false]
    exact ⟨h4, St.le.refl _, H h4 (c03.seq c4)⟩
theorem like_l0 (few : M.length ≤ 255) (s : TbS D h0 v most idle M) (t : RtS E h0 lv M) (n4 : b4 < h0.next) (n5 : b5 < h0.next) (o4 : h0.objs b4 = some (.cells [lv, .int .i64 (most : Int), .int .i64 idle] true)) (o5 : h0.objs b5 = some (.cells (cellsA a) true))
    (H : ∀ h', Chg h0 h' [] → k (.bool true) h') :
    ∀ (d i m0 : Nat) (h : St), i + d = M.length → d < m0 → Chg h0 h [] → tiltyardlaw10_like_l0 (tabC tabLk) idG nn m0 v (.pointer (some ⟨b4, 0, none⟩)) (.pointer (some ⟨b5, 0, none⟩)) x6 (.int .i64 (i : Int)) h (KK k) := by
  have r := rise_of s.rows.1
  intro d
  induction d with
  | zero =>
    intro i m0 h hi hm c
    obtain ⟨m0, rfl⟩ : ∃ m, m0 = m + 1 := ⟨m0 - 1, by omega⟩
    rw [tiltyardlaw10_like_l0_eq]
    have e' : i = M.length := by omega
    subst e'
    have p4 := c.at0 n4 o4
    simp only [offV_ptr, bindV_some, loadV_ptr, p4, loadM_cells, partV_one, List.getElem?_cons_zero, Nat.zero_add, OwnS.len t, binV_lss, condK_bool, Int.lt_irrefl, decide_false, Bool.false_eq_true, if_false, idG_eq]
    exact like_j1 few s t c n4 n5 o4 o5 H
  | succ d ih =>
    intro i m0 h hi hm c
    obtain ⟨m0, rfl⟩ : ∃ m, m0 = m + 1 := ⟨m0 - 1, by omega⟩
    rw [tiltyardlaw10_like_l0_eq]
    have hlt : (i : Int) < M.length := by omega
    have inc : IntKind.i64.wrap ((i : Int) + 1) = ((i + 1 : Nat) : Int) := by rw [i64_in _ (by omega)]; omega
    have p4 := c.at0 n4 o4
    obtain ⟨b', o', g1, g2⟩ := t.row0 (show i < M.length by omega) .i64
    obtain ⟨cs, g4, _, g5, g6, _⟩ := g2 h c
    have hx : M[i] ∈ M := List.getElem_mem _
    obtain ⟨x, ex⟩ : ∃ x, x = M[i] := ⟨_, rfl⟩
    rw [← ex] at g5 g6 hx g2
    simp only [offV_ptr, bindV_some, loadV_ptr, p4, loadM_cells, partV_one, List.getElem?_cons_zero, Nat.zero_add, OwnS.len t, binV_lss, condK_bool, hlt, decide_true, if_true, idG_eq]
    refine ⟨trivial, ?_⟩
    simp only [g1, offV_ptr, bindV_some, loadV_ptr, Nat.add_zero, g4, loadM_cells, partV_one, g5]
    refine ⟨trivial, ?_⟩
    refine cK (S := playerO) (by simp [tabLk]) ⟨D, v, most, idle, M, x.conn, rfl, s.chg0 c, fun h1 c1 => ⟨⟨trivial, trivial, trivial⟩, ?_⟩⟩
    rw [playerOf_at r hx]
    have c01 := c.seq c1
    have q4 := c01.at0 n4 o4
    obtain ⟨cs1, g41, _, _, g61, _⟩ := g2 h1 c01
    simp only [offV_ptr, bindV_some, loadV_ptr, q4, p4, loadM_cells, partV_one, List.getElem?_cons_zero, Nat.zero_add]
    refine ⟨⟨trivial, trivial⟩, ?_⟩
    simp only [g1, offV_ptr, bindV_some, loadV_ptr, g41, g4, loadM_cells, partV_one, g61, g6]
    refine ⟨⟨trivial, trivial⟩, ?_⟩
    simp only [binV_neq, ne_eq, not_true_eq_false, decide_false, bindV_some, condK_bool, Bool.false_eq_true, if_false, idG_eq, binNil_int, binV_add, inc]
    exact ih (i + 1) m0 h1 (by omega) (by omega) c01
end
theorem likeO_good : SpecGood Try.prog (24, likeO) := by
  refine spec_good mixed Try.func24 (by kernel_rfl) (by kernel_rfl) (tab := tabLk) tabLk_good (keep := tiltyardlaw10_like_keep) ?_
  rintro args h k ⟨D, E, v, lv, most, idle, M, a, rfl, few, s, t, u, rt, hi, hl, H⟩
  refine ⟨M.length + 1, ?_⟩
  show tiltyardlaw10_like (tabC tabLk) idG _ v (encR lv most idle) (.agg (cellsA a).toArray) h (KK k)
  rw [tiltyardlaw10_like_eq]
  have r := rise_of s.rows.1
  have A3 : (cellsA a)[3]? = some (.int .i64 a.now) := rfl
  refine t.box most idle fun h1 c1 n1 o4 => ?_
  refine boxE_in rfl fun h2 c2 n2 o5 => ?_
  have o5 : h2.objs h1.next = some (.cells (cellsA a) true) := o5
  have o4 := c2.at0 (by omega) o4
  have c02 := c1.seq c2
  have s2 := s.chg0 c02
  have t2 := t.chg0 c02
  refine cK (S := connsO) (by simp [tabLk]) ⟨D, v, most, idle, M, rfl, s2, fun h3 sv c3 s3 => ⟨trivial, ?_⟩⟩
  rw [box_load t (c3.at0 (by omega) o4)]
  simp only [bindV_some]
  refine ⟨⟨box_load t o4, trivial⟩, ?_⟩
  refine cK (S := rconnsO) (by simp [tabLk]) ⟨E, lv, most, idle, M, rfl, by omega, t2.chg0 c3, fun h4 sw c4 s4 => ⟨⟨trivial, trivial⟩, ?_⟩⟩
  refine cK (S := sameO) (by simp [tabLk]) ⟨_, _, sv, sw, _, _, rfl, by rw [List.length_map]; omega, own_ids (s3.chg c4 (by simp)), own_ids s4, ⟨trivial, trivial⟩, ?_⟩
  have c24 := c3.seq c4
  simp only [decide_true, unV_not, Bool.not_true, bindV_some, groupK_eq, guardK_bool, if_true]
  refine cK (S := splayersO) (by simp [tabLk]) ⟨D, v, most, idle, M, rfl, few, s2.chg0 c24, fun h5 sv5 L c5 s5 pm srt => ⟨⟨trivial, trivial⟩, ?_⟩⟩
  obtain ⟨N, eN, srtN, memN⟩ := logged_nat u r pm srt
  have c25 := c24.seq c5
  rw [box_load t (c25.at0 (by omega) o4)]
  simp only [bindV_some]
  refine ⟨⟨box_load t (c24.at0 (by omega) o4), trivial, trivial, trivial, trivial⟩, ?_⟩
  have lL : L.length ≤ M.length := by
    rw [pm.length_eq]; unfold loggedOf; rw [List.length_map]; exact List.length_filter_le ..
  have lN : N.length ≤ 255 := by rw [eN, List.length_map] at lL; omega
  refine cK (S := rplayersO) (by simp [tabLk]) ⟨E, lv, most, idle, M, N, rfl, by omega, t2.chg0 c25, rt, by omega, srtN, memN, fun h6 sw6 c6 s6 => ⟨⟨trivial, trivial, trivial⟩, ?_⟩⟩
  subst eN
  refine cK (S := sameO) (by simp [tabLk]) ⟨_, _, sv5, sw6, _, _, rfl, by rw [List.length_map]; omega, s5.chg c6 (by simp), own_nat s6, ⟨trivial, trivial, trivial⟩, ?_⟩
  have c26 := c25.seq c6
  have p5 := c26.at0 (by omega) o5
  simp only [decide_true, unV_not, Bool.not_true, bindV_some, getT, idG_eq, pickV_bool, Bool.false_eq_true, if_false, groupK_eq, guardK_bool, if_true, offV_ptr, loadV_ptr, p5, loadM_cells, partV_one, Nat.zero_add, A3]
  refine ⟨⟨trivial, trivial, trivial, trivial, trivial, trivial, trivial⟩, ?_⟩
  refine cK (S := sidleO) (by simp [tabLk]) ⟨D, v, most, idle, M, a.now, rfl, s2.chg0 c26, fun h7 sv7 c7 s7 => ⟨⟨trivial, trivial, trivial, trivial⟩, ?_⟩⟩
  have c27 := c26.seq c7
  have q5 := c27.at0 (by omega) o5
  rw [box_load t (c27.at0 (by omega) o4)]
  simp only [bindV_some]
  refine ⟨⟨box_load t (c26.at0 (by omega) o4), trivial, trivial, trivial, trivial, trivial, trivial, trivial⟩, ?_⟩
  simp only [offV_ptr, bindV_some, loadV_ptr, q5, p5, loadM_cells, partV_one, Nat.zero_add, A3]
  refine ⟨⟨trivial, trivial, trivial, trivial, trivial, trivial, trivial, trivial⟩, ?_⟩
  refine cK (S := ridleO) (by simp [tabLk]) ⟨E, lv, most, idle, M, a.now, rfl, by omega, t2.chg0 c27, fun h8 sw8 c8 s8 => ⟨⟨trivial, trivial, trivial, trivial, trivial, trivial⟩, ?_⟩⟩
  rw [idle_same hi hl] at s8
  have lI : (M.filter (isIdle idle a.now)).length ≤ M.length := List.length_filter_le ..
  refine cK (S := sameO) (by simp [tabLk]) ⟨_, _, sv7, sw8, _, _, rfl, by rw [List.length_map]; omega, own_ids (s7.chg c8 (by simp)), own_ids s8, ⟨trivial, trivial, trivial, trivial, trivial, trivial⟩, ?_⟩
  have c28 := c27.seq c8
  have m28 := c28.1
  simp only [decide_true, unV_not, Bool.not_true, bindV_some, getT, idG_eq, pickV_bool, Bool.false_eq_true, if_false, condK_bool]
  exact like_l0 (b4 := h.next) (b5 := h1.next) few (s2.chg0 c28) (t2.chg0 c28) (by omega) (by omega) (c28.at0 (by omega) o4) (c28.at0 (by omega) o5) (fun h' c' => H h' ((c02.seq c28).seq c')) M.length 0 _ h8 (by omega) (by omega) (Chg.refl _ _)
end Go.Proofs.Ytnelcpabjpchnaa
