/- 'SessionOne', walked. -/
import Derived.Test.YtnelcpabjpchnaaSesE
import Derived.Test.YtnelcpabjpchnaaSesF
set_option linter.unusedSimpArgs false
set_option linter.unusedVariables false
set_option maxHeartbeats 4000000
namespace Go.Proofs.Ytnelcpabjpchnaa
open Go.Abs Go.IntWalk
attribute [local congr] bindV_weak condK_weak guardK_weak groupK_weak allocE_weak boxE_weak storeE_weak storeM_weak tabC_weak ite_weak idG_weak appendE_weak buildSliceE_weak mapUpdateE_weak deleteE_weak makeMapE_weak copyE_weak clearE_weak callE_weak

/-- Something done to a table. -/
structure SAct where
  do_ : Int
  conn : Nat
  player : Nat
  now : Int
def SAct.zero : SAct := ⟨0, 0, 0, 0⟩
def cellsA (a : SAct) : List Value := [.int .u8 a.do_, .int .u32 (a.conn : Int), .int .u32 (a.player : Int), .int .i64 a.now]
def rowA (l : List SAct) (i : Nat) : List Value := cellsA (l[i]?.getD .zero)
theorem own_load {D : Nat → Prop} {h : St} {v : Value} {L : List Int} (s : OwnS D h v 1 (L.map (.int .u32)) L.length) {i : Nat} (hi : i < L.length) (k : IntKind) :
    ∃ p, idxS 1 v (.int k i) = some p ∧ ∀ h', Chg h h' [] → loadV false 1 p h' = some (.int .u32 L[i]) := by
  have s' : OwnS D h v 1 (L.flatMap fun x => [Value.int .u32 x]) L.length := by
    have : (L.flatMap fun x => [Value.int .u32 x]) = L.map (.int .u32) := by
      clear s hi
      induction L with
      | nil => rfl
      | cons x L ih => rw [List.flatMap_cons, ih, List.map_cons]; rfl
    rw [this]; exact s
  obtain ⟨b, o, g1, g2, g3, cs, g4, g5⟩ := s'.row (by simp) (List.getElem?_eq_getElem hi) k
  refine ⟨_, g1, fun h' c => ?_⟩
  rw [loadV_ptr, c.at0 g3 g4, loadM_cells, partV_one]
  have := row_cell g5 0 (by omega)
  simpa using this
def tabOn : List (FuncId × Abs.Spec) := [(7, snewO), (8, openO), (12, loginO), (15, logoutO), (16, closeO), (10, touchO), (13, sconnO), (14, playerO), (17, splayersO), (18, connsO), (11, awakeO)]
theorem tabOn_good : ∀ p ∈ tabOn, SpecGood Try.prog p := by simp [tabOn, snewO_good, openO_good, loginO_good, logoutO_good, closeO_good, touchO_good, sconnO_good, playerO_good, splayersO_good, connsO_good, awakeO_good]
section
variable {nn : Nat} {x0 x2 v : Value} {D : Nat → Prop} {M : List Lk} {h0 : St} {k : Cont}
/-- What comes of it. -/
def KK (k : Cont) : Cont := fun v h1 => ∃ h2, St.le h2 h1 ∧ k v h2
theorem one_l6 {x4 sp x9 x10 x11 : Value} {m0 : Nat} {L : List Int} (s : TbS D h0 v 20 5 M) (u : Uniq M) (sL : OwnS (fun i => D i) h0 sp 1 (L.map (.int .u32)) L.length) (pm : L.Perm (loggedOf M)) (srt : L.Pairwise (· ≤ ·)) (few : L.length ≤ 20)
    (H : ∀ h x12, Chg h0 h [] → tiltyardlaw10_SessionOne_j7 (tabC tabOn) idG nn m0 x0 x2 v x4 sp x9 x10 x11 x12 h (KK k)) :
    ∀ (d i m1 : Nat) (h : St), i + d = L.length → d < m1 → Chg h0 h [] → tiltyardlaw10_SessionOne_l6 (tabC tabOn) idG nn m0 m1 x0 x2 v x4 sp x9 x10 x11 (.int .i64 (i : Int)) h (KK k) := by
  have r := rise_of s.rows.1
  have ids : ∀ x ∈ M, 1 ≤ x.conn := fun x hx => (s.rows.1.ids (rk x) (List.mem_map_of_mem hx)).1
  have str := rise_sorted srt (pm.nodup_iff.2 (logged_nodup u r))
  intro d
  induction d with
  | zero =>
    intro i m1 h hi hm c
    obtain ⟨m1, rfl⟩ : ∃ m, m1 = m + 1 := ⟨m1 - 1, by omega⟩
    rw [tiltyardlaw10_SessionOne_l6_eq]
    have e' : i = L.length := by omega
    subst e'
    simp only [sL.len, bindV_some, binV_lss, condK_bool, Int.lt_irrefl, decide_false, Bool.false_eq_true, if_false, idG_eq]
    exact H h _ c
  | succ d ih =>
    intro i m1 h hi hm c
    obtain ⟨m1, rfl⟩ : ∃ m, m1 = m + 1 := ⟨m1 - 1, by omega⟩
    rw [tiltyardlaw10_SessionOne_l6_eq]
    have hlt : (i : Int) < L.length := by omega
    have inc : IntKind.i64.wrap ((i : Int) + 1) = ((i + 1 : Nat) : Int) := by rw [i64_in _ (by omega)]; omega
    obtain ⟨p, g1, g2⟩ := own_load sL (show i < L.length by omega) .i64
    obtain ⟨x, hx, x0', xe⟩ := mem_logged.1 (pm.mem_iff.1 (List.getElem_mem (show i < L.length by omega)))
    rw [← xe] at g2
    simp only [sL.len, bindV_some, binV_lss, condK_bool, hlt, decide_true, if_true, idG_eq, g1, g2 h c]
    refine ⟨trivial, ?_⟩
    refine cK (S := sconnO) (by simp [tabOn]) ⟨D, v, 20, 5, M, x.player, rfl, s.chg0 c, fun h1 c1 => ?_⟩
    refine ⟨⟨trivial, trivial⟩, ?_⟩
    refine cK (S := playerO) (by simp [tabOn]) ⟨D, v, 20, 5, M, connOf M x.player, rfl, s.chg0 (c.seq c1), fun h2 c2 => ?_⟩
    refine ⟨⟨trivial, trivial⟩, ?_⟩
    rw [player_conn r ids ⟨x, hx, x0', rfl⟩]
    have c02 := (c.seq c1).seq c2
    simp only [g1, bindV_some, g2 h2 c02]
    refine ⟨⟨g2 h1 (c.seq c1), g2 h c, trivial⟩, ?_⟩
    simp only [binV_neq, ne_eq, not_true_eq_false, decide_false, bindV_some, groupK_eq, guardK_bool, if_true, binNil_int, binV_gtr, idG_eq, getT]
    by_cases hi0 : i = 0
    · subst hi0
      simp only [Int.natCast_zero, Int.cast_ofNat_Int, gt_iff_lt, Int.lt_irrefl, decide_false, Bool.false_eq_true, if_false, idG_eq, groupK_eq, guardK_bool, if_true, pickV_bool, bindV_some, getT, condK_bool, binNil_int, binV_add]
      exact ih 1 m1 h2 (by omega) (by omega) c02
    · have ip : (i : Int) > 0 := by omega
      have dec : IntKind.i64.wrap ((i : Int) - 1) = ((i - 1 : Nat) : Int) := by rw [i64_in _ (by omega)]; omega
      obtain ⟨p', g1', g2'⟩ := own_load sL (show i - 1 < L.length by omega) .i64
      have lt : L[i - 1] < L[i] := (List.pairwise_iff_getElem.1 str) (i - 1) i (by omega) (by omega) (by omega)
      simp only [ip, decide_true, if_true, binNil_int, binV_sub, dec, bindV_some, g1', g2' h2 c02]
      refine ⟨⟨trivial, trivial, trivial⟩, ?_⟩
      simp only [g1, bindV_some, g2 h2 c02]
      refine ⟨⟨trivial, trivial, trivial⟩, ?_⟩
      have ng : ¬ L[i - 1] ≥ (x.player : Int) := by rw [xe]; omega
      simp only [binV_geq, ng, ip, decide_true, decide_false, bindV_some, groupK_eq, guardK_bool, if_true, idG_eq, getT, pickV_bool, Bool.false_eq_true, if_false, condK_bool, binNil_int, binV_add, inc]
      exact ih (i + 1) m1 h2 (by omega) (by omega) c02
theorem one_l3 {x4 sp sc x12 : Value} {m0 : Nat} (s : TbS D h0 v 20 5 M) (sM : OwnS (fun i => D i) h0 sc 1 (M.map idv) M.length) (few : M.length ≤ 20)
    (H : ∀ h x11 x12, Chg h0 h [] → tiltyardlaw10_SessionOne_j5 (tabC tabOn) idG nn m0 x0 x2 v x4 sp sc (.int .i64 ((loggedOf M).length : Int)) x11 x12 h (KK k)) :
    ∀ (d i m1 : Nat) (h : St), i + d = M.length → d < m1 → Chg h0 h [] → tiltyardlaw10_SessionOne_l3 (tabC tabOn) idG nn m0 m1 x0 x2 v x4 sp sc (.int .i64 (((M.take i).filter fun x => decide (x.player ≠ 0)).length : Int)) (.int .i64 (i : Int)) x12 h (KK k) := by
  have r := rise_of s.rows.1
  intro d
  induction d with
  | zero =>
    intro i m1 h hi hm c
    obtain ⟨m1, rfl⟩ : ∃ m, m1 = m + 1 := ⟨m1 - 1, by omega⟩
    rw [tiltyardlaw10_SessionOne_l3_eq]
    have e' : i = M.length := by omega
    subst e'
    rw [List.take_length]
    simp only [sM.len, bindV_some, binV_lss, condK_bool, Int.lt_irrefl, decide_false, Bool.false_eq_true, if_false, idG_eq]
    have := H h (.int .i64 (M.length : Int)) x12 c
    unfold loggedOf at this
    rw [List.length_map] at this
    exact this
  | succ d ih =>
    intro i m1 h hi hm c
    obtain ⟨m1, rfl⟩ : ∃ m, m1 = m + 1 := ⟨m1 - 1, by omega⟩
    rw [tiltyardlaw10_SessionOne_l3_eq]
    have hlt : (i : Int) < M.length := by omega
    have inc : IntKind.i64.wrap ((i : Int) + 1) = ((i + 1 : Nat) : Int) := by rw [i64_in _ (by omega)]; omega
    obtain ⟨b, o, g1, cs, g4, g5⟩ := own_row1 sM c (show i < M.length by omega) .i64
    have hx : M[i] ∈ M := List.getElem_mem _
    obtain ⟨x, ex⟩ : ∃ x, x = M[i] := ⟨_, rfl⟩
    rw [← ex] at g5 hx
    simp only [sM.len, bindV_some, binV_lss, condK_bool, hlt, decide_true, if_true, idG_eq, g1, loadV_ptr, g4, loadM_cells, partV_one, g5, idv]
    refine cK (S := playerO) (by simp [tabOn]) ⟨D, v, 20, 5, M, x.conn, rfl, s.chg0 c, fun h1 c1 => ?_⟩
    rw [playerOf_at r hx]
    have tak : M.take (i + 1) = M.take i ++ [x] := by rw [ex]; exact List.take_succ_eq_append_getElem (by omega)
    have lle : ((M.take i).filter fun x => decide (x.player ≠ 0)).length ≤ i := Nat.le_trans (List.length_filter_le ..) (by rw [List.length_take]; omega)
    simp only [binNil_int, binV_neq, bindV_some, condK_bool, decide_eq_true_eq]
    by_cases hp : x.player = 0
    · have hp' : ¬ (x.player : Int) ≠ 0 := by omega
      rw [if_neg hp']
      have same : (M.take (i + 1)).filter (fun x => decide (x.player ≠ 0)) = (M.take i).filter fun x => decide (x.player ≠ 0) := by
        rw [tak, List.filter_append, List.filter_cons_of_neg (by simp [hp])]; simp
      simp only [idG_eq]
      rw [tiltyardlaw10_SessionOne_j4_eq]
      simp only [binNil_int, binV_add, bindV_some, inc, idG_eq]
      have := ih (i + 1) m1 h1 (by omega) (by omega) (c.seq c1)
      rw [same] at this
      exact this
    · have hp' : (x.player : Int) ≠ 0 := by omega
      rw [if_pos hp']
      have more : ((M.take (i + 1)).filter (fun x => decide (x.player ≠ 0))).length = ((M.take i).filter fun x => decide (x.player ≠ 0)).length + 1 := by
        rw [tak, List.filter_append, List.filter_cons_of_pos (by simp [hp])]; simp
      have inc2 : IntKind.i64.wrap ((((M.take i).filter fun x => decide (x.player ≠ 0)).length : Int) + 1) = ((((M.take i).filter fun x => decide (x.player ≠ 0)).length + 1 : Nat) : Int) := by rw [i64_in _ (by omega)]; omega
      simp only [binNil_int, binV_add, bindV_some, inc2, idG_eq]
      rw [tiltyardlaw10_SessionOne_j4_eq]
      simp only [binNil_int, binV_add, bindV_some, inc, idG_eq]
      have := ih (i + 1) m1 h1 (by omega) (by omega) (c.seq c1)
      rw [more] at this
      exact this
end
theorem one_j1 {nn : Nat} {x0 x2 v x8 x9 x10 x11 x12 : Value} {D : Nat → Prop} {M : List Lk} {h : St} {k : Cont} {i m0 : Nat} (hD : ∀ j, h.next ≤ j → D j) (s : TbS D h v 20 5 M) (u : Uniq M) (hi : i ≤ 60) (hm : 30 ≤ m0)
    (H : ∀ h' y8 y9 y10 y11 y12, Chg h h' [] → tiltyardlaw10_SessionOne_l0 (tabC tabOn) idG nn m0 x0 x2 v (.int .i64 ((i + 1 : Nat) : Int)) y8 y9 y10 y11 y12 h' (KK k)) :
    tiltyardlaw10_SessionOne_j1 (tabC tabOn) idG nn m0 x0 x2 v (.int .i64 (i : Int)) x8 x9 x10 x11 x12 h (KK k) := by
  rw [tiltyardlaw10_SessionOne_j1_eq]
  obtain ⟨rr, few, _⟩ := s.rows
  refine cK (S := splayersO) (by simp [tabOn]) ⟨D, v, 20, 5, M, rfl, by omega, s, fun h1 sp L c1 s1 pm srt => ?_⟩
  refine cK (S := connsO) (by simp [tabOn]) ⟨D, v, 20, 5, M, rfl, s.chg0 c1, fun h2 sc c2 s2 => ?_⟩
  have lL : L.length ≤ M.length := by
    rw [pm.length_eq]; unfold loggedOf; rw [List.length_map]; exact List.length_filter_le ..
  have n1 : ¬ (M.length : Int) > 20 := by omega
  have n2 : ¬ (L.length : Int) > (M.length : Int) := by omega
  have m1 := c1.1
  have inc : IntKind.i64.wrap ((i : Int) + 1) = ((i + 1 : Nat) : Int) := by rw [i64_in _ (by omega)]; omega
  simp only [s1.len, s2.len, bindV_some, binNil_int, binV_gtr, n1, n2, decide_false, groupK_eq, guardK_bool, if_true, idG_eq, getT, pickV_bool, Bool.false_eq_true, if_false, condK_bool]
  have c12 := c1.seq c2
  have sp2 : OwnS (fun j => D j) h2 sp 1 (L.map (.int .u32)) L.length := (s1.chg c2 (by simp)).imp fun j _ hj => hD j hj
  have sc2 : OwnS (fun j => D j) h2 sc 1 (M.map idv) M.length := s2.imp fun j _ hj => hD j (by omega)
  refine one_l3 (s.chg0 c12) sc2 (by omega) (fun h3 y11 y12 c3 => ?_) M.length 0 m0 h2 (by omega) (by omega) (Chg.refl _ _)
  rw [tiltyardlaw10_SessionOne_j5_eq]
  simp only [idG_eq]
  refine one_l6 ((s.chg0 c12).chg0 c3) u (sp2.chg c3 (by simp)) pm srt (by omega) (fun h4 z12 c4 => ?_) L.length 0 m0 h3 (by omega) (by omega) (Chg.refl _ _)
  rw [tiltyardlaw10_SessionOne_j7_eq]
  simp only [sp2.len, bindV_some, binV_neq, pm.length_eq, ne_eq, not_true_eq_false, decide_false, condK_bool, Bool.false_eq_true, if_false, idG_eq]
  rw [tiltyardlaw10_SessionOne_j8_eq]
  simp only [binNil_int, binV_add, bindV_some, inc, idG_eq]
  exact H h4 _ _ _ _ _ ((c12.seq c3).seq c4)
theorem take_row {cs l : List Value} {o : Nat} (h : takeN cs o 4 = some l) : partV true 4 cs o = some (.agg l.toArray) := by rw [partV_agg, h]; rfl
theorem one_l0 {nn : Nat} {x0 x2 v : Value} {D : Nat → Prop} {l : List SAct} {h0 : St} {k : Cont} (hD : ∀ j, D j ↔ h0.next ≤ j) (sl : SliceAt (· < h0.next) h0 x0 l.length 4 (rowA l)) (hl : l.length ≤ 60) (H : ∀ h', k (.bool true) h') :
    ∀ (d i m0 : Nat) (h : St) (M : List Lk) (x8 x9 x10 x11 x12 : Value), i + d = l.length → d + 40 ≤ m0 → ChgP D h0 h → TbS D h v 20 5 M → Uniq M →
      tiltyardlaw10_SessionOne_l0 (tabC tabOn) idG nn m0 x0 x2 v (.int .i64 (i : Int)) x8 x9 x10 x11 x12 h (KK k) := by
  intro d
  induction d with
  | zero =>
    intro i m0 h M x8 x9 x10 x11 x12 hi hm c s u
    obtain ⟨m0, rfl⟩ : ∃ m, m0 = m + 1 := ⟨m0 - 1, by omega⟩
    rw [tiltyardlaw10_SessionOne_l0_eq]
    have e' : i = l.length := by omega
    subst e'
    simp only [sl.len, bindV_some, binV_lss, condK_bool, Int.lt_irrefl, decide_false, Bool.false_eq_true, if_false, idG_eq]
    rw [tiltyardlaw10_SessionOne_j2_eq]
    exact cK (S := awakeO) (by simp [tabOn]) ⟨rfl, fun h' _ => ⟨h', St.le.refl _, H h'⟩⟩
  | succ d ih =>
    intro i m0 h M x8 x9 x10 x11 x12 hi hm c s u
    obtain ⟨m0, rfl⟩ : ∃ m, m0 = m + 1 := ⟨m0 - 1, by omega⟩
    rw [tiltyardlaw10_SessionOne_l0_eq]
    have hlt : (i : Int) < l.length := by omega
    have sl' := sl.chgP c (fun j hj hh => by have := (hD j).1 hj; omega)
    obtain ⟨b, o, g1, g2, g3, cs, own, g4, g5⟩ := sl'.idx (i := (i : Int)) (by omega) hlt .i64
    obtain ⟨a, ha⟩ : ∃ a, a = l[i]?.getD .zero := ⟨_, rfl⟩
    have er : rowA l (i : Int).toNat = cellsA a := by rw [ha]; rfl
    rw [er] at g5
    have m := c.1
    have hDh : ∀ j, h.next ≤ j → D j := fun j hj => (hD j).2 (by omega)
    simp only [sl.len, bindV_some, binV_lss, condK_bool, hlt, decide_true, if_true, idG_eq, g1, loadV_ptr, g4, loadM_cells, take_row g5]
    refine allocE_in fun h1 c1 n1 o1 => ?_
    refine storeE_all o1 rfl rfl rfl fun h2 c2 n2 o2 => ?_
    have o2 : h2.objs h.next = some (.cells [.int .u8 a.do_, .int .u32 (a.conn : Int), .int .u32 (a.player : Int), .int .i64 a.now] true) := o2
    have c02 : Chg h h2 [] := c1.new c2 (Nat.le_refl _)
    have s2 := s.chg0 c02
    have r := rise_of s.rows.1
    have ids : ∀ x ∈ M, 1 ≤ x.conn := fun x hx => (s.rows.1.ids (rk x) (List.mem_map_of_mem hx)).1
    have cP : ChgP D h0 h2 := c.seq c02
    have hD2 : ∀ j, h2.next ≤ j → D j := fun j hj => hDh j (by omega)
    -- behind whatever was done
    have fin : ∀ h3 M' y8 y9 y10 y11 y12, ChgP D h2 h3 → TbS D h3 v 20 5 M' → Uniq M' → tiltyardlaw10_SessionOne_j1 (tabC tabOn) idG nn m0 x0 x2 v (.int .i64 (i : Int)) y8 y9 y10 y11 y12 h3 (KK k) := by
      intro h3 M' y8 y9 y10 y11 y12 c3 s3 u3
      have m3 := c3.1
      exact one_j1 (fun j hj => hD2 j (by omega)) s3 u3 (by omega) (by omega) fun h4 z8 z9 z10 z11 z12 c4 => ih (i + 1) m0 h4 M' _ _ _ _ _ (by omega) (by omega) ((cP.step c3).seq c4) (s3.chg0 c4) u3
    simp only [offV_ptr, bindV_some, loadV_ptr, o2, loadM_cells, partV_one, List.getElem?_cons_zero, List.getElem?_cons_succ, Nat.zero_add, binNil_int, binV_eql, condK_bool, decide_eq_true_eq]
    by_cases d0 : a.do_ = 0
    · rw [if_pos d0]
      simp only [offV_ptr, bindV_some, loadV_ptr, o2, loadM_cells, partV_one, List.getElem?_cons_zero, List.getElem?_cons_succ, Nat.zero_add]
      refine cK (S := openO) (by simp [tabOn]) ⟨D, v, 20, 5, M, a.conn, a.now, rfl, hD2, s2, fun h3 c3 s3 => ?_⟩
      simp only [idG_eq]
      exact fin h3 _ _ _ _ _ _ c3 s3 (uniq_open u r 20 a.conn a.now)
    rw [if_neg d0]
    simp only [binNil_int, binV_eql, bindV_some, condK_bool, decide_eq_true_eq]
    by_cases d1 : a.do_ = 1
    · rw [if_pos d1]
      simp only [offV_ptr, bindV_some, loadV_ptr, o2, loadM_cells, partV_one, List.getElem?_cons_zero, List.getElem?_cons_succ, Nat.zero_add]
      -- the act's own cells are no part of the table
      refine cK (S := loginO) (by simp [tabOn]) ⟨fun j => D j ∧ j ≠ h.next, v, 20, 5, M, a.conn, a.player, a.now, rfl, fun j hj => ⟨hD2 j hj, by omega⟩, (s.imp fun j hj hh => ⟨hh, by omega⟩).chg0 c02, fun h3 c3 s3' => ?_⟩
      have o3 := c3.at (by omega) (fun hh => hh.2 rfl) o2
      have s3 := s3'.imp (D' := D) fun j _ hh => hh.1
      have c3 := c3.mono (E := D) fun j _ hh => hh.1
      have m3 := c3.1
      have u3 := uniq_login u r ids 20 a.conn a.player a.now
      have r3 := rise_of s3.rows.1
      have ids3 : ∀ x ∈ loginNext M 20 a.conn a.player a.now, 1 ≤ x.conn := fun x hx => (s3.rows.1.ids (rk x) (List.mem_map_of_mem hx)).1
      simp only [two, extV_two0, extV_two1, bindV_some, binNil_int, binV_eql, groupK_eq, guardK_bool, decide_eq_true_eq]
      by_cases ok : (loginAns M 20 a.conn a.player).2 = 0
      · have ok' : (((loginAns M 20 a.conn a.player).2 : Nat) : Int) = 0 := by omega
        obtain ⟨t1, t2⟩ := login_there u r ids ok r3 ids3
        rw [if_pos ok']
        simp only [offV_ptr, bindV_some, loadV_ptr, o3, loadM_cells, partV_one, List.getElem?_cons_zero, List.getElem?_cons_succ, Nat.zero_add]
        refine ⟨trivial, ?_⟩
        refine cK (S := sconnO) (by simp [tabOn]) ⟨D, v, 20, 5, _, a.player, rfl, s3, fun h4 c4 => ?_⟩
        have o4 := c4.at0 (by omega) o3
        refine ⟨⟨trivial, trivial⟩, ?_⟩
        rw [t1]
        simp only [offV_ptr, bindV_some, loadV_ptr, o3, o4, loadM_cells, partV_one, List.getElem?_cons_zero, List.getElem?_cons_succ, Nat.zero_add]
        refine ⟨⟨trivial, trivial⟩, ?_⟩
        have m4 := c4.1
        simp only [binV_neq, ne_eq, not_true_eq_false, decide_false, bindV_some, idG_eq, getT, groupK_eq, guardK_bool, if_true, offV_ptr, loadV_ptr, o4, loadM_cells, partV_one, List.getElem?_cons_zero, List.getElem?_cons_succ, Nat.zero_add]
        refine ⟨⟨trivial, trivial⟩, ?_⟩
        refine cK (S := playerO) (by simp [tabOn]) ⟨D, v, 20, 5, _, a.conn, rfl, s3.chg0 c4, fun h5 c5 => ?_⟩
        have o5 := c5.at0 (by omega) o4
        refine ⟨⟨trivial, trivial, trivial, trivial⟩, ?_⟩
        rw [t2]
        simp only [offV_ptr, bindV_some, loadV_ptr, o4, o5, loadM_cells, partV_one, List.getElem?_cons_zero, List.getElem?_cons_succ, Nat.zero_add]
        refine ⟨⟨trivial, trivial, trivial⟩, ?_⟩
        simp only [binV_neq, ne_eq, not_true_eq_false, ok', decide_true, decide_false, bindV_some, idG_eq, getT, groupK_eq, guardK_bool, if_true, pickV_bool, Bool.false_eq_true, if_false, condK_bool]
        exact fin h5 _ _ _ _ _ _ ((c3.seq c4).seq c5) ((s3.chg0 c4).chg0 c5) u3
      · have ok' : ¬ (((loginAns M 20 a.conn a.player).2 : Nat) : Int) = 0 := by omega
        rw [if_neg ok']
        simp only [ok', decide_false, bindV_some, idG_eq, getT, groupK_eq, guardK_bool, pickV_bool, Bool.false_eq_true, if_false, condK_bool]
        exact fin h3 _ _ _ _ _ _ c3 s3 u3
    rw [if_neg d1]
    simp only [binNil_int, binV_eql, bindV_some, condK_bool, decide_eq_true_eq]
    by_cases d2 : a.do_ = 2
    · rw [if_pos d2]
      simp only [offV_ptr, bindV_some, loadV_ptr, o2, loadM_cells, partV_one, List.getElem?_cons_zero, List.getElem?_cons_succ, Nat.zero_add]
      refine cK (S := logoutO) (by simp [tabOn]) ⟨D, v, 20, 5, M, a.conn, rfl, hD2, s2, fun h3 c3 s3 => ?_⟩
      simp only [idG_eq]
      exact fin h3 _ _ _ _ _ _ c3 s3 (uniq_logout u r 20 a.conn)
    rw [if_neg d2]
    simp only [binNil_int, binV_eql, bindV_some, condK_bool, decide_eq_true_eq]
    by_cases d3 : a.do_ = 3
    · rw [if_pos d3]
      simp only [offV_ptr, bindV_some, loadV_ptr, o2, loadM_cells, partV_one, List.getElem?_cons_zero, List.getElem?_cons_succ, Nat.zero_add]
      refine cK (S := closeO) (by simp [tabOn]) ⟨D, v, 20, 5, M, a.conn, rfl, hD2, s2, fun h3 c3 s3 => ?_⟩
      simp only [idG_eq]
      exact fin h3 _ _ _ _ _ _ c3 s3 (uniq_close u a.conn)
    rw [if_neg d3]
    simp only [binNil_int, binV_eql, bindV_some, condK_bool, decide_eq_true_eq]
    by_cases d4 : a.do_ = 4
    · rw [if_pos d4]
      simp only [offV_ptr, bindV_some, loadV_ptr, o2, loadM_cells, partV_one, List.getElem?_cons_zero, List.getElem?_cons_succ, Nat.zero_add]
      refine cK (S := touchO) (by simp [tabOn]) ⟨D, v, 20, 5, M, a.conn, a.now, rfl, hD2, s2, fun h3 c3 s3 => ?_⟩
      simp only [idG_eq]
      exact fin h3 _ _ _ _ _ _ c3 s3 (uniq_touch u r 20 a.conn a.now)
    rw [if_neg d4]
    simp only [idG_eq]
    exact fin h2 _ _ _ _ _ _ (ChgP.refl _ _) s2 u
def oneLawO : Abs.Spec := fun args h k => ∃ (v : Value) (l : List SAct), args = [v] ∧ SliceAt (· < h.next) h v l.length 4 (rowA l) ∧ ∀ h', k (.bool true) h'
theorem oneLawO_good : SpecGood Try.prog (4, oneLawO) := by
  refine spec_good mixed Try.func4 (by kernel_rfl) (by kernel_rfl) (tab := tabOn) tabOn_good (keep := tiltyardlaw10_SessionOne_keep) ?_
  rintro args h k ⟨v, l, rfl, sl, H⟩
  refine ⟨l.length + 50, ?_⟩
  show tiltyardlaw10_SessionOne (tabC tabOn) idG _ v h (KK k)
  rw [tiltyardlaw10_SessionOne_eq]
  simp only [sl.len, bindV_some, binNil_int, binV_gtr, condK_bool, decide_eq_true_eq]
  by_cases hl : (l.length : Int) > 60
  · rw [if_pos hl]
    exact ⟨h, St.le.refl _, H h⟩
  · rw [if_neg hl]
    simp only [idG_eq]
    refine cK (S := snewO) (by simp [tabOn]) ⟨20, 5, rfl, by omega, fun h1 t c1 s1 => ?_⟩
    simp only [idG_eq]
    exact one_l0 (fun j => Iff.rfl) sl (by omega) H l.length 0 _ h1 [] _ _ _ _ _ (by omega) (by omega) (c1.nil _) s1 (by intro x hx; cases hx)
end Go.Proofs.Ytnelcpabjpchnaa
