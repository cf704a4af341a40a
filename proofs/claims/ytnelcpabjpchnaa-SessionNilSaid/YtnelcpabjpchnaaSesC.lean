/- Sessions: Conn, Idle, Players, Login. -/
import Derived.Test.YtnelcpabjpchnaaSesB
set_option linter.unusedSimpArgs false
set_option linter.unusedVariables false
set_option maxHeartbeats 4000000
namespace Go.Proofs.Ytnelcpabjpchnaa
open Go.Abs Go.IntWalk
attribute [local congr] bindV_weak condK_weak guardK_weak groupK_weak allocE_weak boxE_weak storeE_weak storeM_weak tabC_weak ite_weak idG_weak appendE_weak buildSliceE_weak mapUpdateE_weak deleteE_weak makeMapE_weak copyE_weak clearE_weak callE_weak

/-! ### Conn -/
def firstC : List Lk → Nat
  | [] => 0
  | x :: _ => x.conn
def connOf (M : List Lk) (p : Nat) : Nat := firstC (M.filter (isAt p))
def sconnO : Abs.Spec := fun args h k => ∃ (D : Nat → Prop) (v : Value) (most : Nat) (idle : Int) (M : List Lk) (p : Nat), args = [v, .int .u32 (p : Int)] ∧ TbS D h v most idle M ∧ ∀ h', Chg h h' [] → k (.int .u32 (connOf M p)) h'
def sconnN : Abs.Spec := fun args h k => ∃ p : Int, args = [.pointer none, .int .u32 p] ∧ ∀ h', Chg h h' [] → k (.int .u32 0) h'
theorem sconnO_good : SpecGood Try.prog (13, sconnO) := by
  refine spec_good mixed Try.func13 (by kernel_rfl) (by kernel_rfl) (tab := [(27, whichO)]) (by simp [whichO_good]) (keep := ses_Conn_keep) ?_
  rintro args h k ⟨D, v, most, idle, M, p, rfl, s, H⟩
  refine ⟨1, ?_⟩
  show ses_Conn (tabC _) idG 1 v (.int .u32 (p : Int)) h _
  rw [ses_Conn_eq]
  refine boxE_in rfl fun h1 c1 n1 o1 => ?_
  have o1 : h1.objs h.next = some (.cells [.int .u32 (p : Int)] true) := o1
  refine .inl ⟨rfl, D, v, most, idle, M, 35, #[.pointer (some ⟨h.next, 0, none⟩)], isAt p, rfl, s.chg0 c1, ?_, fun h2 sv c2 s2 => ?_⟩
  · intro x hx h' k' c hk
    exact .inr (.inl ⟨rfl, x, p, h.next, rfl, Nat.lt_of_lt_of_le (by omega) c.1, c.at0 (by omega) o1, hk⟩)
  · simp only [s2.len, bindV_some, idG_eq]
    rw [ses_Conn_l0_eq]
    simp only [binV_lss, bindV_some, condK_bool, decide_eq_true_eq]
    have cc := c1.seq c2
    unfold connOf at H
    cases hf : M.filter (isAt p) with
    | nil =>
      rw [hf] at H
      simp only [List.length_nil, Int.natCast_zero, Int.cast_ofNat_Int, Int.lt_irrefl, if_false, idG_eq]
      rw [ses_Conn_j1_eq]
      exact ⟨h2, St.le.refl _, H h2 cc⟩
    | cons x R =>
      rw [hf] at s2 H
      have lt : (0 : Int) < ((x :: R).length : Nat) := by simp
      rw [if_pos lt]
      obtain ⟨b, oo, g1, cs, g4, g5⟩ := own_row1 s2 (Chg.refl _ _) (show 0 < (x :: R).length by simp) .i64
      have g1 : idxS 1 sv (.int .i64 0) = some (.pointer (some ⟨b, oo, none⟩)) := g1
      simp only [idG_eq, g1, bindV_some, loadV_ptr, g4, loadM_cells, partV_one, g5]
      exact ⟨h2, St.le.refl _, H h2 cc⟩
theorem sconnN_good : SpecGood Try.prog (13, sconnN) := by
  refine spec_good mixed Try.func13 (by kernel_rfl) (by kernel_rfl) (tab := [(27, whichN)]) (by simp [whichN_good]) (keep := ses_Conn_keep) ?_
  rintro args h k ⟨p, rfl, H⟩
  refine ⟨1, ?_⟩
  show ses_Conn (tabC _) idG 1 (.pointer none) (.int .u32 p) h _
  rw [ses_Conn_eq]
  refine boxE_in rfl fun h1 c1 n1 o1 => ?_
  refine .inl ⟨rfl, _, rfl, ?_⟩
  simp only [lenS_slice, bindV_some, idG_eq]
  rw [ses_Conn_l0_eq]
  simp only [binV_lss, bindV_some, condK_bool, Int.natCast_zero, Int.cast_ofNat_Int, Int.lt_irrefl, decide_false, Bool.false_eq_true, if_false, idG_eq]
  rw [ses_Conn_j1_eq]
  exact ⟨h1, St.le.refl _, H h1 c1⟩
/-! ### Idle -/
def sidleO : Abs.Spec := fun args h k => ∃ (D : Nat → Prop) (v : Value) (most : Nat) (idle : Int) (M : List Lk) (now : Int), args = [v, .int .i64 now] ∧ TbS D h v most idle M ∧
  ∀ h' sv, Chg h h' [] → OwnS (fun i => h.next ≤ i) h' sv 1 ((M.filter (isIdle idle now)).map idv) (M.filter (isIdle idle now)).length → k sv h'
def sidleN : Abs.Spec := fun args h k => ∃ now : Int, args = [.pointer none, .int .i64 now] ∧ ∀ h', Chg h h' [] → k (.slice none 0 0) h'
theorem sidleO_good : SpecGood Try.prog (9, sidleO) := by
  refine spec_good mixed Try.func9 (by kernel_rfl) (by kernel_rfl) (tab := [(27, whichO)]) (by simp [whichO_good]) (keep := ses_Idle_keep) ?_
  rintro args h k ⟨D, v, most, idle, M, now, rfl, s, H⟩
  have s' := s
  obtain ⟨t, rv, rfl, dt, tn, ot, r⟩ := s'
  refine ⟨1, ?_⟩
  show ses_Idle (tabC _) idG 1 (.pointer (some ⟨t, 0, none⟩)) (.int .i64 now) h _
  rw [ses_Idle_eq]
  refine boxE_in rfl fun h1 c1 n1 o1 => ?_
  have o1 : h1.objs h.next = some (.cells [.pointer (some ⟨t, 0, none⟩)] true) := o1
  refine boxE_in rfl fun h2 c2 n2 o2 => ?_
  have o2 : h2.objs h1.next = some (.cells [.int .i64 now] true) := o2
  have o12 := c2.at0 (by omega) o1
  have cc := c1.seq c2
  have ot2 := cc.at0 tn ot
  simp only [loadV_ptr, o12, loadM_cells, partV_one, List.getElem?_cons_zero, bindV_some]
  refine .inl ⟨rfl, D, _, most, idle, M, 28, #[.pointer (some ⟨h1.next, 0, none⟩), .pointer (some ⟨h.next, 0, none⟩)], isIdle idle now, rfl, s.chg0 cc, ?_, fun h3 sv c3 s3 => ?_⟩
  · intro x hx h' k' c hk
    have m := c.1
    exact .inl ⟨rfl, x, now, idle, rv, h1.next, h.next, t, rfl, by omega, c.at0 (by omega) o2, by omega, c.at0 (by omega) o12, by omega, c.at0 (by omega) ot2, hk⟩
  · exact ⟨h3, St.le.refl _, H h3 sv (cc.seq c3) (s3.imp fun i _ hi => Nat.le_trans cc.1 hi)⟩
theorem sidleN_good : SpecGood Try.prog (9, sidleN) := by
  refine spec_good mixed Try.func9 (by kernel_rfl) (by kernel_rfl) (tab := [(27, whichN)]) (by simp [whichN_good]) (keep := ses_Idle_keep) ?_
  rintro args h k ⟨now, rfl, H⟩
  refine ⟨1, ?_⟩
  show ses_Idle (tabC _) idG 1 (.pointer none) (.int .i64 now) h _
  rw [ses_Idle_eq]
  refine boxE_in rfl fun h1 c1 n1 o1 => ?_
  have o1 : h1.objs h.next = some (.cells [.pointer none] true) := o1
  refine boxE_in rfl fun h2 c2 n2 o2 => ?_
  have o12 := c2.at0 (by omega) o1
  simp only [loadV_ptr, o12, loadM_cells, partV_one, List.getElem?_cons_zero, bindV_some]
  exact .inl ⟨rfl, _, rfl, h2, St.le.refl _, H h2 (c1.seq c2)⟩
/-! ### Players -/
def loggedOf (M : List Lk) : List Int := (M.filter fun x => decide (x.player ≠ 0)).map fun x => (x.player : Int)
def splayersO : Abs.Spec := fun args h k => ∃ (D : Nat → Prop) (v : Value) (most : Nat) (idle : Int) (M : List Lk), args = [v] ∧ M.length ≤ 255 ∧ TbS D h v most idle M ∧
  ∀ h' sv (L : List Int), Chg h h' [] → OwnS (fun i => h.next ≤ i) h' sv 1 (L.map (.int .u32)) L.length → L.Perm (loggedOf M) → L.Pairwise (· ≤ ·) → k sv h'
def splayersN : Abs.Spec := fun args h k => args = [.pointer none] ∧ ∀ h', Chg h h' [] → k (.slice none 0 0) h'
def tabPl : List (FuncId × Abs.Spec) := [(27, whichO), (14, playerO), (37, sortO)]
theorem tabPl_good : ∀ p ∈ tabPl, SpecGood Try.prog p := by simp [tabPl, whichO_good, playerO_good, sortO_good]
theorem players_l0 {nn : Nat} {v x2 sv : Value} {D E : Nat → Prop} {most : Nat} {idle : Int} {M R : List Lk} {h0 : St} {k : Cont} (s : TbS D h0 v most idle M) (hR : ∀ x ∈ R, x ∈ M) (few : R.length ≤ 255) (cs : OwnS E h0 sv 1 (R.map idv) R.length)
    (H : ∀ h' out (L : List Int), Chg h0 h' [] → OwnS (fun i => h0.next ≤ i) h' out 1 (L.map (.int .u32)) L.length → L.Perm (R.map fun x => (x.player : Int)) → L.Pairwise (· ≤ ·) → k out h') :
    ∀ (d i m0 : Nat) (h : St) (out : Value), i + d = R.length → d < m0 → Chg h0 h [] → OwnS (fun i => h0.next ≤ i) h out 1 ((R.take i).map fun x => .int .u32 (x.player : Int)) i →
      ses_Players_l0 (tabC tabPl) idG nn m0 v x2 out sv (.int .i64 (R.length : Int)) (.int .i64 (i : Int)) h (fun v h1 => ∃ h2, St.le h2 h1 ∧ k v h2) := by
  intro d
  induction d with
  | zero =>
    intro i m0 h out hi hm c o
    obtain ⟨m0, rfl⟩ : ∃ m, m0 = m + 1 := ⟨m0 - 1, by omega⟩
    rw [ses_Players_l0_eq]
    have e' : i = R.length := by omega
    subst e'
    rw [List.take_length] at o
    simp only [bindV_some, binV_lss, condK_bool, Int.lt_irrefl, decide_false, Bool.false_eq_true, if_false, idG_eq]
    rw [ses_Players_j1_eq]
    have ee : (R.map fun x => Value.int .u32 (x.player : Int)) = (R.map fun x => (x.player : Int)).map (.int .u32) := by rw [List.map_map]; rfl
    have ll : (R.map fun x => (x.player : Int)).length = R.length := List.length_map ..
    refine .inr (.inr (.inl ⟨rfl, fun i => h0.next ≤ i, out, R.map fun x => (x.player : Int), rfl, by rw [ll]; exact few, ?_, fun h1 L c1 s1 pm srt => ?_⟩))
    · rw [← ee, ll]; exact o
    · have c01 : Chg h0 h1 [] := ((c.nil (fun i => h0.next ≤ i)).step c1).list fun j h1 h2 => by omega
      exact ⟨h1, St.le.refl _, H h1 out L c01 s1 pm srt⟩
  | succ d ih =>
    intro i m0 h out hi hm c o
    obtain ⟨m0, rfl⟩ : ∃ m, m0 = m + 1 := ⟨m0 - 1, by omega⟩
    rw [ses_Players_l0_eq]
    have hlt : (i : Int) < R.length := by omega
    have inc : IntKind.i64.wrap ((i : Int) + 1) = ((i + 1 : Nat) : Int) := by rw [i64_in _ (by omega)]; omega
    obtain ⟨b, oo, g1, cc, g4, g5⟩ := own_row1 cs c (show i < R.length by omega) .i64
    have hx : R[i] ∈ M := hR _ (List.getElem_mem _)
    obtain ⟨x, ex⟩ : ∃ x, x = R[i] := ⟨_, rfl⟩
    rw [← ex] at g5 hx
    have pl : playerOf M x.conn = x.player := by unfold playerOf; rw [getL_at (rise_of s.rows.1) hx]; rfl
    simp only [bindV_some, binV_lss, condK_bool, hlt, decide_true, if_true, idG_eq, g1, loadV_ptr, g4, loadM_cells, partV_one, g5, idv]
    refine .inr (.inl ⟨rfl, D, v, most, idle, M, x.conn, rfl, s.chg0 c, fun h1 c1 => ?_⟩)
    rw [pl]
    have c01 := c.seq c1
    have m01 := c01.1
    have tak : (R.take (i + 1)).map (fun x => Value.int .u32 (x.player : Int)) = (R.take i).map (fun x => Value.int .u32 (x.player : Int)) ++ [.int .u32 (x.player : Int)] := by
      rw [List.take_succ_eq_append_getElem (by omega), List.map_append, ex]; rfl
    refine append_row (B := fun i => h0.next ≤ i) (fun j hj => by omega) (o.chg c1 (by simp)) rfl rfl rfl rfl (by omega) (by omega) fun h5 out5 c5 s5 => ?_
    have c05 : Chg h0 h5 [] := ((c01.nil (fun i => h0.next ≤ i)).step c5).list fun j h1 h2 => by omega
    simp only [idG_eq, binNil_int, binV_add, bindV_some, inc]
    refine ih (i + 1) m0 h5 out5 (by omega) (by omega) c05 ?_
    rw [tak]
    exact s5
theorem splayersO_good : SpecGood Try.prog (17, splayersO) := by
  refine spec_good mixed Try.func17 (by kernel_rfl) (by kernel_rfl) (tab := tabPl) tabPl_good (keep := ses_Players_keep) ?_
  rintro args h k ⟨D, v, most, idle, M, rfl, few, s, H⟩
  refine ⟨M.length + 1, ?_⟩
  show ses_Players (tabC _) idG _ v h _
  rw [ses_Players_eq]
  refine .inl ⟨rfl, D, v, most, idle, M, 36, #[], fun x => decide (x.player ≠ 0), rfl, s, ?_, fun h1 sv c1 s1 => ?_⟩
  · intro x hx h' k' c hk
    exact .inr (.inr (.inl ⟨rfl, x, rfl, hk⟩))
  · simp only [s1.len, bindV_some, idG_eq]
    have lle : (M.filter fun x => decide (x.player ≠ 0)).length ≤ M.length := List.length_filter_le ..
    exact players_l0 (s.chg0 c1) (fun x hx => (List.mem_filter.1 hx).1) (by omega) s1 (fun h' out L c o pm srt => H h' out L (c1.seq c) (o.imp fun i _ hi => Nat.le_trans c1.1 hi) pm srt) _ 0 _ h1 _ (Nat.zero_add _) (by omega) (Chg.refl _ _) (.inl ⟨rfl, rfl, rfl⟩)
theorem splayersN_good : SpecGood Try.prog (17, splayersN) := by
  refine spec_good mixed Try.func17 (by kernel_rfl) (by kernel_rfl) (tab := [(27, whichN), (37, sortO)]) (by simp [whichN_good, sortO_good]) (keep := ses_Players_keep) ?_
  rintro args h k ⟨rfl, H⟩
  refine ⟨1, ?_⟩
  show ses_Players (tabC _) idG _ (.pointer none) h _
  rw [ses_Players_eq]
  refine .inl ⟨rfl, _, rfl, ?_⟩
  simp only [lenS_slice, bindV_some, idG_eq]
  rw [ses_Players_l0_eq]
  simp only [binV_lss, bindV_some, condK_bool, Int.natCast_zero, Int.cast_ofNat_Int, Int.lt_irrefl, decide_false, Bool.false_eq_true, if_false, idG_eq]
  rw [ses_Players_j1_eq]
  refine .inr (.inl ⟨rfl, fun i => h.next ≤ i, _, [], rfl, by simp, .inl ⟨rfl, rfl, rfl⟩, fun h1 L c1 s1 pm srt => ?_⟩)
  exact ⟨h1, St.le.refl _, H h1 (c1.list fun j h1 h2 => by omega)⟩
/-! ### Login -/
def loginAns (M : List Lk) (most c p : Nat) : Nat × Nat := match getL M c with
  | none => (0, 12)
  | some x => if rightId p = true then (if x.player = 0 then (connOf M p, putAns (if connOf M p = 0 then M else dropL M (connOf M p)) most c) else (0, 25)) else (0, 14)
def loginNext (M : List Lk) (most c p : Nat) (now : Int) : List Lk := match getL M c with
  | none => M
  | some x => if rightId p = true then (if x.player = 0 then putNext (if connOf M p = 0 then M else dropL M (connOf M p)) most c p now else M) else M
def loginO : Abs.Spec := fun args h k => ∃ (D : Nat → Prop) (v : Value) (most : Nat) (idle : Int) (M : List Lk) (c p : Nat) (now : Int), args = [v, .int .u32 (c : Int), .int .u32 (p : Int), .int .i64 now] ∧ (∀ i, h.next ≤ i → D i) ∧ TbS D h v most idle M ∧
  ∀ h', ChgP D h h' → TbS D h' v most idle (loginNext M most c p now) → k (two (loginAns M most c p)) h'
def loginN : Abs.Spec := fun args h k => ∃ x y z : Value, args = [.pointer none, x, y, z] ∧ ∀ h', Chg h h' [] → k (two (0, 12)) h'
def tabLg : List (FuncId × Abs.Spec) := [(30, linkO), (33, rightO), (13, sconnO), (34, dropO), (31, putO)]
theorem tabLg_good : ∀ p ∈ tabLg, SpecGood Try.prog p := by simp [tabLg, linkO_good, rightO_good, sconnO_good, dropO_good, putO_good]
theorem login_j0 {nn : Nat} {x8 x9 : Value} {D : Nat → Prop} {t : Nat} {rv : Value} {most : Nat} {idle now : Int} {M1 : List Lk} {c p old : Nat} {h : St} {k : Cont} (hD : ∀ i, h.next ≤ i → D i) (dt : D t) (tn : t < h.next) (ot : h.objs t = some (.cells [rv, .int .i64 idle] true))
    (r : RkS (fun i => D i ∧ i ≠ t) h rv most (M1.map rk)) (H : ∀ h', ChgP D h h' → TbS D h' (.pointer (some ⟨t, 0, none⟩)) most idle (putNext M1 most c p now) → k (two (old, putAns M1 most c)) h') :
    ses_Login_j0 (tabC tabLg) idG nn (.pointer (some ⟨t, 0, none⟩)) (.int .u32 (c : Int)) (.int .u32 (p : Int)) (.int .i64 now) x8 x9 (.int .u32 (old : Int)) h (fun v h1 => ∃ h2, St.le h2 h1 ∧ k v h2) := by
  rw [ses_Login_j0_eq]
  have b1 : buildV [.int .u32 0, .int .i64 0] (some [(0, 1, .int .u32 (p : Int)), (1, 1, .int .i64 now)]) = some (.agg (lkC p now).toArray) := rfl
  simp only [nilV, offV_ptr, bindV_some, loadV_ptr, ot, loadM_cells, partV_one, List.getElem?_cons_zero, Nat.zero_add, b1]
  refine .inr (.inr (.inr (.inr (.inl ⟨rfl, _, rv, most, _, c, lkC p now, rfl, fun i hi => ⟨hD i hi, by omega⟩, r, rfl, rfl, fun h1 c1 r1 => ?_⟩))))
  exact ⟨h1, St.le.refl _, H h1 (c1.mono fun i _ hi => hi.1) (.step dt tn ot c1 r1 (put_next M1 most c p now))⟩
theorem loginO_good : SpecGood Try.prog (12, loginO) := by
  refine spec_good mixed Try.func12 (by kernel_rfl) (by kernel_rfl) (tab := tabLg) tabLg_good (keep := ses_Login_keep) ?_
  rintro args h k ⟨D, v, most, idle, M, c, p, now, rfl, hD, s, H⟩
  have s' := s
  obtain ⟨t, rv, rfl, dt, tn, ot, r⟩ := s'
  refine ⟨0, ?_⟩
  show ses_Login (tabC _) idG 0 (.pointer (some ⟨t, 0, none⟩)) (.int .u32 (c : Int)) (.int .u32 (p : Int)) (.int .i64 now) h _
  rw [ses_Login_eq]
  refine .inl ⟨rfl, D, _, most, idle, M, c, rfl, s, fun h1 c1 => ?_⟩
  obtain ⟨x, hx⟩ : ∃ x, x = (getL M c).getD ⟨0, 0, 0⟩ := ⟨_, rfl⟩
  unfold ansL
  rw [← hx]
  simp only [extV_two0, extV_two1, bindV_some, encL]
  refine allocE_in fun h2 c2 n2 o2 => ?_
  refine storeE_all o2 rfl rfl rfl fun h3 c3 n3 o3 => ?_
  have m1 := c1.1
  have cc : Chg h h3 [] := (c1.seq c2).new c3 (by omega)
  have o3 : h3.objs h1.next = some (.cells [.int .u32 (x.player : Int), .int .i64 x.last] true) := o3
  simp only [unV_not, bindV_some, condK_bool]
  cases hg : getL M c with
  | none =>
    simp only [Option.isSome_none, Bool.not_false, if_true]
    have := H h3 (cc.nil D)
    simp only [loginNext, loginAns, hg] at this
    exact ⟨h3, St.le.refl _, this (s.chg0 cc)⟩
  | some y =>
    rw [hg] at hx
    simp only [Option.getD_some] at hx
    subst hx
    have ot3 := cc.at0 tn ot
    simp only [Option.isSome_some, Bool.not_true, Bool.false_eq_true, if_false]
    refine .inr (.inl ⟨rfl, p, rfl, ?_⟩)
    simp only [unV_not, bindV_some, condK_bool]
    cases hr : rightId p with
    | false =>
      simp only [Bool.not_false, if_true]
      have := H h3 (cc.nil D)
      simp only [loginNext, loginAns, hg, hr, Bool.false_eq_true, if_false] at this
      exact ⟨h3, St.le.refl _, this (s.chg0 cc)⟩
    | true =>
      simp only [Bool.not_true, Bool.false_eq_true, if_false, offV_ptr, bindV_some, loadV_ptr, o3, loadM_cells, partV_one, List.getElem?_cons_zero, Nat.zero_add, binNil_int, binV_neq, condK_bool, decide_eq_true_eq]
      by_cases hp : x.player = 0
      · have hp' : ¬ (x.player : Int) ≠ 0 := by omega
        rw [if_neg hp']
        simp only [idG_eq]
        refine .inr (.inr (.inl ⟨rfl, D, _, most, idle, M, p, rfl, s.chg0 cc, fun h4 c4 => ?_⟩))
        have c04 := cc.seq c4
        have ot4 := c04.at0 tn ot
        have m4 := c04.1
        simp only [binNil_int, binV_neq, bindV_some, condK_bool, decide_eq_true_eq]
        by_cases ho : connOf M p = 0
        · have ho' : ¬ (connOf M p : Int) ≠ 0 := by omega
          rw [if_neg ho']
          simp only [idG_eq]
          refine login_j0 (M1 := M) (fun i hi => hD i (by omega)) dt (by omega) ot4 (r.chg0 c04) fun h5 c5 s5 => ?_
          have := H h5 ((c04.nil D).step c5)
          simp only [loginNext, loginAns, hg, hr, if_true, if_pos hp, if_pos ho] at this
          rw [ho] at this ⊢
          exact this s5
        · have ho' : (connOf M p : Int) ≠ 0 := by omega
          rw [if_pos ho']
          simp only [nilV, offV_ptr, bindV_some, loadV_ptr, ot4, loadM_cells, partV_one, List.getElem?_cons_zero, Nat.zero_add]
          refine .inr (.inr (.inr (.inl ⟨rfl, _, rv, most, _, connOf M p, rfl, fun i hi => ⟨hD i (by omega), by omega⟩, r.chg0 c04, fun h5 c5 r5 => ?_⟩)))
          rw [rk_drop] at r5
          have ot5 := c5.at (by omega) (fun hh => hh.2 rfl) ot4
          have m5 := c5.1
          simp only [idG_eq]
          refine login_j0 (M1 := dropL M (connOf M p)) (fun i hi => hD i (by omega)) dt (by omega) ot5 r5 fun h6 c6 s6 => ?_
          have := H h6 (((c04.nil D).step (c5.mono fun i _ hi => hi.1)).step c6)
          simp only [loginNext, loginAns, hg, hr, if_true, if_pos hp, if_neg ho] at this
          exact this s6
      · have hp' : (x.player : Int) ≠ 0 := by omega
        rw [if_pos hp']
        have := H h3 (cc.nil D)
        simp only [loginNext, loginAns, hg, hr, if_true, if_neg hp] at this
        exact ⟨h3, St.le.refl _, this (s.chg0 cc)⟩
theorem loginN_good : SpecGood Try.prog (12, loginN) := by
  refine spec_good mixed Try.func12 (by kernel_rfl) (by kernel_rfl) (tab := [(30, linkN)]) (by simp [linkN_good]) (keep := ses_Login_keep) ?_
  rintro args h k ⟨x, y, z, rfl, H⟩
  refine ⟨0, ?_⟩
  show ses_Login (tabC _) idG 0 (.pointer none) x y z h _
  rw [ses_Login_eq]
  refine .inl ⟨rfl, x, rfl, fun h1 c1 => ?_⟩
  have m1 := c1.1
  simp only [ansL, Option.getD_none, Option.isSome_none, extV_two0, extV_two1, bindV_some, encL]
  refine allocE_in fun h2 c2 n2 o2 => ?_
  refine storeE_all o2 rfl rfl rfl fun h3 c3 n3 o3 => ?_
  simp only [unV_not, Bool.not_false, bindV_some, condK_bool, if_true]
  exact ⟨h3, St.le.refl _, H h3 ((c1.seq c2).new c3 (by omega))⟩
end Go.Proofs.Ytnelcpabjpchnaa
