/- Sessions: connections, plainly; New, Open, Touch, Player, Logout, Close, Conns. -/
import Derived.Test.YtnelcpabjpchnaaRackE
import Derived.Test.YtnelcpabjpchnaaGenT
set_option linter.unusedSimpArgs false
set_option linter.unusedVariables false
set_option maxHeartbeats 4000000
namespace Go.Proofs.Ytnelcpabjpchnaa
open Go.Abs Go.IntWalk
attribute [local congr] bindV_weak condK_weak guardK_weak groupK_weak allocE_weak boxE_weak storeE_weak storeM_weak tabC_weak ite_weak idG_weak appendE_weak buildSliceE_weak mapUpdateE_weak deleteE_weak makeMapE_weak copyE_weak clearE_weak callE_weak

structure Lk where
  conn : Nat
  player : Nat
  last : Int
def lkC (player : Nat) (last : Int) : List Value := [.int .u32 (player : Int), .int .i64 last]
def rk (x : Lk) : Rk := (x.conn, lkC x.player x.last)
def encL (x : Lk) : Value := .agg #[.int .u32 (x.player : Int), .int .i64 x.last]
def getL : List Lk → Nat → Option Lk
  | [], _ => none
  | x :: M, c => if x.conn = c then some x else getL M c
def putL : List Lk → Nat → Nat → Int → List Lk
  | [], c, p, l => [⟨c, p, l⟩]
  | x :: M, c, p, l => if c < x.conn then ⟨c, p, l⟩ :: x :: M else if x.conn = c then ⟨c, p, l⟩ :: M else x :: putL M c p l
def dropL : List Lk → Nat → List Lk
  | [], _ => []
  | x :: M, c => if x.conn = c then M else x :: dropL M c
theorem rk_get (M : List Lk) (c : Nat) : rkGet (M.map rk) c = (getL M c).map fun x => (rk x).2 := by
  induction M with
  | nil => rfl
  | cons x M ih =>
    rw [List.map_cons, rkGet, getL, ih]
    show (if x.conn = c then _ else _) = _
    by_cases h : x.conn = c
    · rw [if_pos h, if_pos h]; rfl
    · rw [if_neg h, if_neg h]
theorem rk_put (M : List Lk) (c p : Nat) (l : Int) : rkPut (M.map rk) c (lkC p l) = (putL M c p l).map rk := by
  induction M with
  | nil => rfl
  | cons x M ih =>
    rw [List.map_cons, rkPut, putL, ih]
    show (if c < x.conn then _ else if x.conn = c then _ else _) = _
    by_cases h : c < x.conn
    · rw [if_pos h, if_pos h]; rfl
    · rw [if_neg h, if_neg h]
      by_cases h : x.conn = c
      · rw [if_pos h, if_pos h]; rfl
      · rw [if_neg h, if_neg h]; rfl
theorem rk_drop (M : List Lk) (c : Nat) : rkDrop (M.map rk) c = (dropL M c).map rk := by
  induction M with
  | nil => rfl
  | cons x M ih =>
    rw [List.map_cons, rkDrop, dropL, ih]
    show (if x.conn = c then _ else _) = _
    by_cases h : x.conn = c
    · rw [if_pos h, if_pos h]
    · rw [if_neg h, if_neg h]; rfl
def ansL (o : Option Lk) : Value := .tuple #[encL (o.getD ⟨0, 0, 0⟩), .bool o.isSome]
theorem ans_eq (M : List Lk) (c : Nat) : ansC (rkGet (M.map rk) c) = ansL (getL M c) := by
  rw [rk_get]
  cases getL M c <;> rfl
/-- A table of connections in memory. -/
def TbS (D : Nat → Prop) (h : St) (v : Value) (most : Nat) (idle : Int) (M : List Lk) : Prop :=
  ∃ t rv, v = .pointer (some ⟨t, 0, none⟩) ∧ D t ∧ t < h.next ∧ h.objs t = some (.cells [rv, .int .i64 idle] true) ∧ RkS (fun i => D i ∧ i ≠ t) h rv most (M.map rk)
theorem TbS.chgP {D E : Nat → Prop} {h h' : St} {v : Value} {most : Nat} {idle : Int} {M : List Lk} (s : TbS D h v most idle M) (c : ChgP E h h') (hE : ∀ i, E i → ¬ D i) : TbS D h' v most idle M := by
  obtain ⟨t, rv, e, dt, tn, ot, r⟩ := s
  exact ⟨t, rv, e, dt, Nat.lt_of_lt_of_le tn c.1, c.at tn (fun hh => hE _ hh dt) ot, r.chgP c fun i hi hh => hE i hi hh.1⟩
theorem TbS.chg {D : Nat → Prop} {h h' : St} {v : Value} {most : Nat} {idle : Int} {M : List Lk} {S : List Nat} (s : TbS D h v most idle M) (c : Chg h h' S) (hS : ∀ i ∈ S, ¬ D i) : TbS D h' v most idle M :=
  s.chgP (E := (· ∈ S)) (c.toP fun _ h => h) hS
theorem TbS.chg0 {D : Nat → Prop} {h h' : St} {v : Value} {most : Nat} {idle : Int} {M : List Lk} (s : TbS D h v most idle M) (c : Chg h h' []) : TbS D h' v most idle M := s.chg c (by simp)
theorem TbS.imp {D D' : Nat → Prop} {h : St} {v : Value} {most : Nat} {idle : Int} {M : List Lk} (s : TbS D h v most idle M) (hD : ∀ i, i < h.next → D i → D' i) : TbS D' h v most idle M := by
  obtain ⟨t, rv, e, dt, tn, ot, r⟩ := s
  exact ⟨t, rv, e, hD t tn dt, tn, ot, r.imp fun i hi hh => ⟨hD i hi hh.1, hh.2⟩⟩
theorem TbS.rows {D : Nat → Prop} {h : St} {v : Value} {most : Nat} {idle : Int} {M : List Lk} (s : TbS D h v most idle M) : RkL (M.map rk) ∧ M.length ≤ most ∧ most ≤ 90000 := by
  obtain ⟨t, rv, e, dt, tn, ot, r⟩ := s
  exact ⟨r.rows, by simpa using r.few.1, r.few.2⟩
/-- The table behind a change of its rack. -/
theorem TbS.step {D : Nat → Prop} {h h' : St} {t : Nat} {rv : Value} {most : Nat} {idle : Int} {M : List Lk} {R : List Rk} (dt : D t) (tn : t < h.next) (ot : h.objs t = some (.cells [rv, .int .i64 idle] true))
    (c : ChgP (fun i => D i ∧ i ≠ t) h h') (r : RkS (fun i => D i ∧ i ≠ t) h' rv most R) (e : R = M.map rk) : TbS D h' (.pointer (some ⟨t, 0, none⟩)) most idle M :=
  ⟨t, rv, rfl, dt, Nat.lt_of_lt_of_le tn c.1, c.at tn (fun hh => hh.2 rfl) ot, e ▸ r⟩
/-! ### New, link -/
def snewO : Abs.Spec := fun args h k => ∃ (n idle : Int), args = [.int .i64 n, .int .i64 idle] ∧ n ≤ 90000 ∧ ∀ h' v, Chg h h' [] → TbS (fun i => h.next ≤ i) h' v n.toNat idle [] → k v h'
theorem snewO_good : SpecGood Try.prog (7, snewO) := by
  refine spec_good mixed Try.func7 (by kernel_rfl) (by kernel_rfl) (tab := [(25, newO)]) (by simp [newO_good]) (keep := ses_New_keep) ?_
  rintro args h k ⟨n, idle, rfl, hn, H⟩
  refine ⟨0, ?_⟩
  show ses_New (tabC _) idG 0 (.int .i64 n) (.int .i64 idle) h _
  rw [ses_New_eq]
  refine .inl ⟨rfl, n, rfl, hn, fun h1 v c1 r => ?_⟩
  have r' := r
  obtain ⟨p, sv, rfl, dp, pn, _⟩ := r'
  have b1 : buildV [.pointer none] (some [(0, 1, .pointer (some ⟨p, 0, none⟩))]) = some (.agg #[.pointer (some ⟨p, 0, none⟩)]) := rfl
  have b2 : buildV [.pointer none, .int .i64 0] (some [(0, 1, .agg #[.pointer (some ⟨p, 0, none⟩)]), (1, 1, .int .i64 idle)]) = some (.agg #[.pointer (some ⟨p, 0, none⟩), .int .i64 idle]) := rfl
  simp only [b1, b2, bindV_some]
  have n1 := c1.1
  refine boxE_in (by rfl) fun h2 c2 n2 o2 => ?_
  exact ⟨h2, St.le.refl _, H h2 _ (c1.seq c2) ⟨h1.next, _, rfl, n1, by omega, o2, (r.imp fun i hi hh => ⟨hh, by omega⟩).chg0 c2⟩⟩
def linkO : Abs.Spec := fun args h k => ∃ (D : Nat → Prop) (v : Value) (most : Nat) (idle : Int) (M : List Lk) (c : Nat), args = [v, .int .u32 (c : Int)] ∧ TbS D h v most idle M ∧ ∀ h', Chg h h' [] → k (ansL (getL M c)) h'
def linkN : Abs.Spec := fun args h k => ∃ x : Value, args = [.pointer none, x] ∧ ∀ h', Chg h h' [] → k (ansL none) h'
theorem linkO_good : SpecGood Try.prog (30, linkO) := by
  refine spec_good mixed Try.func30 (by kernel_rfl) (by kernel_rfl) (tab := [(46, getO)]) (by simp [getO_good]) (keep := ses_link_keep) ?_
  rintro args h k ⟨D, v, most, idle, M, c, rfl, ⟨t, rv, rfl, dt, tn, ot, r⟩, H⟩
  refine ⟨0, ?_⟩
  show ses_link (tabC _) idG 0 (.pointer (some ⟨t, 0, none⟩)) (.int .u32 (c : Int)) h _
  rw [ses_link_eq]
  refine allocE_in fun h1 c1 n1 o1 => ?_
  simp only [binNil_ptr_eql, Option.isNone_some, bindV_some, condK_bool, Bool.false_eq_true, if_false, idG_eq, nilV, offV_ptr, loadV_ptr, c1.at0 tn ot, loadM_cells, partV_one, List.getElem?_cons_zero, Nat.zero_add]
  refine .inl ⟨rfl, _, rv, most, _, c, rfl, r.chg0 c1, fun h2 c2 => ?_⟩
  rw [ans_eq]
  obtain ⟨x, hx⟩ : ∃ x, x = (getL M c).getD ⟨0, 0, 0⟩ := ⟨_, rfl⟩
  unfold ansL at H ⊢
  rw [← hx] at H ⊢
  simp only [extV_two0, extV_two1, bindV_some, encL]
  refine storeE_all (c2.at0 (by omega) o1) rfl rfl rfl fun h3 c3 n3 o3 => ?_
  simp only [loadV_ptr, o3, loadM_cells, partV_agg]
  exact ⟨h3, St.le.refl _, H h3 ((c1.seq c2).new c3 (Nat.le_refl _))⟩
theorem linkN_good : SpecGood Try.prog (30, linkN) := by
  refine spec_good mixed Try.func30 (by kernel_rfl) (by kernel_rfl) (tab := []) (by simp) (keep := ses_link_keep) ?_
  rintro args h k ⟨x, rfl, H⟩
  refine ⟨0, ?_⟩
  show ses_link (tabC _) idG 0 (.pointer none) x h _
  rw [ses_link_eq]
  refine allocE_in fun h1 c1 n1 o1 => ?_
  have b1 : buildV [.int .u32 0, .int .i64 0] (some []) = some (.agg #[.int .u32 0, .int .i64 0]) := rfl
  simp only [binNil_ptr_eql, Option.isNone_none, bindV_some, condK_bool, if_true, b1]
  refine storeE_all o1 rfl rfl rfl fun h3 c3 n3 o3 => ?_
  simp only [loadV_ptr, o3, loadM_cells, partV_agg]
  exact ⟨h3, St.le.refl _, H h3 (c1.new c3 (Nat.le_refl _))⟩
/-! ### Open -/
def openAns (M : List Lk) (most c : Nat) : Nat := rkAddAns (M.map rk) most c
def openNext (M : List Lk) (most c : Nat) (now : Int) : List Lk := if openAns M most c = 0 then putL M c 0 now else M
def putAns (M : List Lk) (most c : Nat) : Nat := rkAns (M.map rk) most c
def putNext (M : List Lk) (most c p : Nat) (l : Int) : List Lk := if putAns M most c = 0 then putL M c p l else M
theorem put_next (M : List Lk) (most c p : Nat) (l : Int) : rkNext (M.map rk) most c (lkC p l) = (putNext M most c p l).map rk := by
  unfold rkNext putNext putAns
  rw [rk_put]
  split <;> rfl
theorem open_next (M : List Lk) (most c : Nat) (now : Int) : rkAddNext (M.map rk) most c (lkC 0 now) = (openNext M most c now).map rk := by
  unfold rkAddNext openNext openAns
  rw [rk_put]
  split <;> rfl
theorem one_lkC (p : Nat) (l : Int) : allOne (lkC p l) = true := rfl
def openO : Abs.Spec := fun args h k => ∃ (D : Nat → Prop) (v : Value) (most : Nat) (idle : Int) (M : List Lk) (c : Nat) (now : Int), args = [v, .int .u32 (c : Int), .int .i64 now] ∧ (∀ i, h.next ≤ i → D i) ∧ TbS D h v most idle M ∧
  ∀ h', ChgP D h h' → TbS D h' v most idle (openNext M most c now) → k (.int .i64 (openAns M most c)) h'
def openN : Abs.Spec := fun args h k => ∃ x y : Value, args = [.pointer none, x, y] ∧ k (.int .i64 10) h
theorem openO_good : SpecGood Try.prog (8, openO) := by
  refine spec_good mixed Try.func8 (by kernel_rfl) (by kernel_rfl) (tab := [(26, addO)]) (by simp [addO_good]) (keep := ses_Open_keep) ?_
  rintro args h k ⟨D, v, most, idle, M, c, now, rfl, hD, ⟨t, rv, rfl, dt, tn, ot, r⟩, H⟩
  refine ⟨0, ?_⟩
  show ses_Open (tabC _) idG 0 (.pointer (some ⟨t, 0, none⟩)) (.int .u32 (c : Int)) (.int .i64 now) h _
  rw [ses_Open_eq]
  have b1 : buildV [.int .u32 0, .int .i64 0] (some [(1, 1, .int .i64 now)]) = some (.agg (lkC 0 now).toArray) := rfl
  simp only [binNil_ptr_eql, Option.isNone_some, bindV_some, condK_bool, Bool.false_eq_true, if_false, idG_eq, nilV, offV_ptr, loadV_ptr, ot, loadM_cells, partV_one, List.getElem?_cons_zero, Nat.zero_add, b1]
  refine .inl ⟨rfl, _, rv, most, _, c, lkC 0 now, rfl, fun i hi => ⟨hD i hi, by omega⟩, r, rfl, rfl, fun h1 c1 r1 => ?_⟩
  exact ⟨h1, St.le.refl _, H h1 (c1.mono fun i _ hi => hi.1) (.step dt tn ot c1 r1 (open_next M most c now))⟩
theorem openN_good : SpecGood Try.prog (8, openN) := by
  refine spec_good mixed Try.func8 (by kernel_rfl) (by kernel_rfl) (tab := []) (by simp) (keep := ses_Open_keep) ?_
  rintro args h k ⟨x, y, rfl, H⟩
  refine ⟨0, ?_⟩
  show ses_Open (tabC _) idG 0 (.pointer none) x y h _
  rw [ses_Open_eq]
  simp only [binNil_ptr_eql, Option.isNone_none, bindV_some, condK_bool, if_true]
  exact ⟨h, St.le.refl _, H⟩
/-! ### Touch -/
def touchAns (M : List Lk) (most c : Nat) : Nat := if (getL M c).isSome = true then putAns M most c else 12
def touchNext (M : List Lk) (most c : Nat) (now : Int) : List Lk := match getL M c with | some x => putNext M most c x.player now | none => M
def touchO : Abs.Spec := fun args h k => ∃ (D : Nat → Prop) (v : Value) (most : Nat) (idle : Int) (M : List Lk) (c : Nat) (now : Int), args = [v, .int .u32 (c : Int), .int .i64 now] ∧ (∀ i, h.next ≤ i → D i) ∧ TbS D h v most idle M ∧
  ∀ h', ChgP D h h' → TbS D h' v most idle (touchNext M most c now) → k (.int .i64 (touchAns M most c)) h'
def touchN : Abs.Spec := fun args h k => ∃ x y : Value, args = [.pointer none, x, y] ∧ ∀ h', Chg h h' [] → k (.int .i64 12) h'
theorem touchO_good : SpecGood Try.prog (10, touchO) := by
  refine spec_good mixed Try.func10 (by kernel_rfl) (by kernel_rfl) (tab := [(30, linkO), (31, putO)]) (by simp [linkO_good, putO_good]) (keep := ses_Touch_keep) ?_
  rintro args h k ⟨D, v, most, idle, M, c, now, rfl, hD, s, H⟩
  have s' := s
  obtain ⟨t, rv, rfl, dt, tn, ot, r⟩ := s'
  refine ⟨0, ?_⟩
  show ses_Touch (tabC _) idG 0 (.pointer (some ⟨t, 0, none⟩)) (.int .u32 (c : Int)) (.int .i64 now) h _
  rw [ses_Touch_eq]
  refine .inl ⟨rfl, D, _, most, idle, M, c, rfl, s, fun h1 c1 => ?_⟩
  obtain ⟨x, hx⟩ : ∃ x, x = (getL M c).getD ⟨0, 0, 0⟩ := ⟨_, rfl⟩
  unfold ansL
  rw [← hx]
  simp only [extV_two0, extV_two1, bindV_some, encL]
  refine allocE_in fun h2 c2 n2 o2 => ?_
  refine storeE_all o2 rfl rfl rfl fun h3 c3 n3 o3 => ?_
  have m1 := c1.1
  have cc : Chg h h3 [] := (c1.seq c2).new c3 (by omega)
  simp only [unV_not, bindV_some, condK_bool]
  cases hg : getL M c with
  | none =>
    simp only [Option.isSome_none, Bool.not_false, if_true]
    have := H h3 (cc.nil D)
    simp only [touchNext, touchAns, hg] at this
    exact ⟨h3, St.le.refl _, this (s.chg0 cc)⟩
  | some y =>
    rw [hg] at hx
    simp only [Option.getD_some] at hx
    subst hx
    have b1 : buildV [.int .u32 0, .int .i64 0] (some [(0, 1, .int .u32 (x.player : Int)), (1, 1, .int .i64 now)]) = some (.agg (lkC x.player now).toArray) := rfl
    have ot3 := cc.at0 tn ot
    simp only [Option.isSome_some, Bool.not_true, Bool.false_eq_true, if_false, idG_eq, nilV, bindV_some, offV_ptr, loadV_ptr, ot3, loadM_cells, partV_one, List.getElem?_cons_zero, Nat.zero_add]
    refine ⟨trivial, ?_⟩
    simp only [offV_ptr, bindV_some, loadV_ptr, o3, loadM_cells, partV_one, List.getElem?_cons_zero, Nat.zero_add]
    refine ⟨trivial, ?_⟩
    simp only [b1, bindV_some]
    have m3 := cc.1
    refine .inr (.inl ⟨rfl, _, rv, most, _, c, lkC x.player now, rfl, fun i hi => ⟨hD i (by omega), by omega⟩, r.chg0 cc, rfl, rfl, fun h4 c4 r4 => ?_⟩)
    refine ⟨⟨trivial, trivial, trivial⟩, h4, St.le.refl _, ?_⟩
    have := H h4 ((cc.nil D).step (c4.mono fun i _ hi => hi.1))
    simp only [touchNext, touchAns, hg] at this
    exact this (.step dt (by omega) ot3 c4 r4 (put_next M most c x.player now))
theorem touchN_good : SpecGood Try.prog (10, touchN) := by
  refine spec_good mixed Try.func10 (by kernel_rfl) (by kernel_rfl) (tab := [(30, linkN)]) (by simp [linkN_good]) (keep := ses_Touch_keep) ?_
  rintro args h k ⟨x, y, rfl, H⟩
  refine ⟨0, ?_⟩
  show ses_Touch (tabC _) idG 0 (.pointer none) x y h _
  rw [ses_Touch_eq]
  refine .inl ⟨rfl, x, rfl, fun h1 c1 => ?_⟩
  simp only [ansL, Option.getD_none, Option.isSome_none, extV_two0, extV_two1, bindV_some, encL]
  refine allocE_in fun h2 c2 n2 o2 => ?_
  refine storeE_all o2 rfl rfl rfl fun h3 c3 n3 o3 => ?_
  have m1 := c1.1
  simp only [unV_not, Bool.not_false, bindV_some, condK_bool, if_true]
  exact ⟨h3, St.le.refl _, H h3 ((c1.seq c2).new c3 (by omega))⟩
/-! ### Player -/
def playerOf (M : List Lk) (c : Nat) : Nat := ((getL M c).getD ⟨0, 0, 0⟩).player
def playerO : Abs.Spec := fun args h k => ∃ (D : Nat → Prop) (v : Value) (most : Nat) (idle : Int) (M : List Lk) (c : Nat), args = [v, .int .u32 (c : Int)] ∧ TbS D h v most idle M ∧ ∀ h', Chg h h' [] → k (.int .u32 (playerOf M c)) h'
def playerN : Abs.Spec := fun args h k => ∃ x : Value, args = [.pointer none, x] ∧ ∀ h', Chg h h' [] → k (.int .u32 0) h'
theorem playerO_good : SpecGood Try.prog (14, playerO) := by
  refine spec_good mixed Try.func14 (by kernel_rfl) (by kernel_rfl) (tab := [(30, linkO)]) (by simp [linkO_good]) (keep := ses_Player_keep) ?_
  rintro args h k ⟨D, v, most, idle, M, c, rfl, s, H⟩
  refine ⟨0, ?_⟩
  show ses_Player (tabC _) idG 0 v (.int .u32 (c : Int)) h _
  rw [ses_Player_eq]
  refine .inl ⟨rfl, D, _, most, idle, M, c, rfl, s, fun h1 c1 => ?_⟩
  have m1 := c1.1
  simp only [ansL, extV_two0, extV_two1, bindV_some, encL]
  refine allocE_in fun h2 c2 n2 o2 => ?_
  refine storeE_all o2 rfl rfl rfl fun h3 c3 n3 o3 => ?_
  simp only [offV_ptr, bindV_some, loadV_ptr, o3, loadM_cells, partV_one, List.getElem?_cons_zero, Nat.zero_add]
  exact ⟨h3, St.le.refl _, H h3 ((c1.seq c2).new c3 (by omega))⟩
theorem playerN_good : SpecGood Try.prog (14, playerN) := by
  refine spec_good mixed Try.func14 (by kernel_rfl) (by kernel_rfl) (tab := [(30, linkN)]) (by simp [linkN_good]) (keep := ses_Player_keep) ?_
  rintro args h k ⟨x, rfl, H⟩
  refine ⟨0, ?_⟩
  show ses_Player (tabC _) idG 0 (.pointer none) x h _
  rw [ses_Player_eq]
  refine .inl ⟨rfl, x, rfl, fun h1 c1 => ?_⟩
  have m1 := c1.1
  simp only [ansL, extV_two0, extV_two1, bindV_some, encL]
  refine allocE_in fun h2 c2 n2 o2 => ?_
  refine storeE_all o2 rfl rfl rfl fun h3 c3 n3 o3 => ?_
  simp only [offV_ptr, bindV_some, loadV_ptr, o3, loadM_cells, partV_one, List.getElem?_cons_zero, Nat.zero_add]
  exact ⟨h3, St.le.refl _, H h3 ((c1.seq c2).new c3 (by omega))⟩
/-! ### Logout -/
def logoutAns (M : List Lk) (most c : Nat) : Nat × Nat := match getL M c with | none => (0, 12) | some x => if x.player = 0 then (0, 25) else (x.player, putAns M most c)
def logoutNext (M : List Lk) (most c : Nat) : List Lk := match getL M c with | none => M | some x => if x.player = 0 then M else putNext M most c 0 x.last
def two (a : Nat × Nat) : Value := .tuple #[.int .u32 (a.1 : Int), .int .i64 (a.2 : Int)]
def logoutO : Abs.Spec := fun args h k => ∃ (D : Nat → Prop) (v : Value) (most : Nat) (idle : Int) (M : List Lk) (c : Nat), args = [v, .int .u32 (c : Int)] ∧ (∀ i, h.next ≤ i → D i) ∧ TbS D h v most idle M ∧
  ∀ h', ChgP D h h' → TbS D h' v most idle (logoutNext M most c) → k (two (logoutAns M most c)) h'
def logoutN : Abs.Spec := fun args h k => ∃ x : Value, args = [.pointer none, x] ∧ ∀ h', Chg h h' [] → k (two (0, 12)) h'
theorem logoutO_good : SpecGood Try.prog (15, logoutO) := by
  refine spec_good mixed Try.func15 (by kernel_rfl) (by kernel_rfl) (tab := [(30, linkO), (31, putO)]) (by simp [linkO_good, putO_good]) (keep := ses_Logout_keep) ?_
  rintro args h k ⟨D, v, most, idle, M, c, rfl, hD, s, H⟩
  have s' := s
  obtain ⟨t, rv, rfl, dt, tn, ot, r⟩ := s'
  refine ⟨0, ?_⟩
  show ses_Logout (tabC _) idG 0 (.pointer (some ⟨t, 0, none⟩)) (.int .u32 (c : Int)) h _
  rw [ses_Logout_eq]
  refine .inl ⟨rfl, D, _, most, idle, M, c, rfl, s, fun h1 c1 => ?_⟩
  obtain ⟨x, hx⟩ : ∃ x, x = (getL M c).getD ⟨0, 0, 0⟩ := ⟨_, rfl⟩
  unfold ansL
  rw [← hx]
  simp only [extV_two0, extV_two1, bindV_some, encL]
  refine allocE_in fun h2 c2 n2 o2 => ?_
  refine storeE_all o2 rfl rfl rfl fun h3 c3 n3 o3 => ?_
  have m1 := c1.1
  have cc : Chg h h3 [] := (c1.seq c2).new c3 (by omega)
  have o3 : h3.objs h1.next = some (.cells [.int .u32 (x.player : Int), .int .i64 x.last] true) := o3
  simp only [unV_not, bindV_some, condK_bool]
  cases hg : getL M c with
  | none =>
    simp only [Option.isSome_none, Bool.not_false, if_true]
    have := H h3 (cc.nil D)
    simp only [logoutNext, logoutAns, hg] at this
    exact ⟨h3, St.le.refl _, this (s.chg0 cc)⟩
  | some y =>
    rw [hg] at hx
    simp only [Option.getD_some] at hx
    subst hx
    have ot3 := cc.at0 tn ot
    have b1 : buildV [.int .u32 0, .int .i64 0] (some [(1, 1, .int .i64 x.last)]) = some (.agg (lkC 0 x.last).toArray) := rfl
    simp only [Option.isSome_some, Bool.not_true, Bool.false_eq_true, if_false, bindV_some, offV_ptr, loadV_ptr, o3, loadM_cells, partV_one, List.getElem?_cons_zero, Nat.zero_add, binNil_int, binV_eql, condK_bool, decide_eq_true_eq]
    by_cases hp : x.player = 0
    · have hp' : (x.player : Int) = 0 := by omega
      rw [if_pos hp']
      have := H h3 (cc.nil D)
      simp only [logoutNext, logoutAns, hg, if_pos hp] at this
      exact ⟨h3, St.le.refl _, this (s.chg0 cc)⟩
    · have hp' : ¬ (x.player : Int) = 0 := by omega
      rw [if_neg hp']
      simp only [idG_eq, offV_ptr, bindV_some, loadV_ptr, o3, loadM_cells, partV_one, List.getElem?_cons_zero, Nat.zero_add]
      refine ⟨trivial, ?_⟩
      simp only [nilV, offV_ptr, bindV_some, loadV_ptr, ot3, loadM_cells, partV_one, List.getElem?_cons_zero, Nat.zero_add]
      refine ⟨trivial, ?_⟩
      simp only [offV_ptr, bindV_some, loadV_ptr, o3, loadM_cells, partV_one, List.getElem?_cons_succ, List.getElem?_cons_zero, Nat.zero_add]
      refine ⟨trivial, ?_⟩
      simp only [b1, bindV_some]
      have m3 := cc.1
      -- what was looked up is no part of the table
      refine .inr (.inl ⟨rfl, fun i => (D i ∧ i ≠ t) ∧ i ≠ h1.next, rv, most, M.map rk, c, lkC 0 x.last, rfl, ?_, ?_, rfl, rfl, fun h4 c4 r4 => ?_⟩)
      · exact fun i hi => ⟨⟨hD i (by omega), by omega⟩, by omega⟩
      · exact (r.imp fun i hi hh => ⟨hh, by omega⟩).chg0 cc
      · have o4 : h4.objs h1.next = some (.cells [.int .u32 (x.player : Int), .int .i64 x.last] true) := c4.at (by omega) (fun hh => hh.2 rfl) o3
        refine ⟨⟨trivial, trivial, by simp only [loadV_ptr, o4, loadM_cells, partV_one, List.getElem?_cons_zero], trivial⟩, h4, St.le.refl _, ?_⟩
        have := H h4 ((cc.nil D).step (c4.mono fun i _ hi => hi.1.1))
        simp only [logoutNext, logoutAns, hg, if_neg hp] at this
        refine this ⟨t, rv, rfl, dt, Nat.lt_of_lt_of_le (by omega) c4.1, c4.at (by omega) (fun hh => hh.1.2 rfl) ot3, ?_⟩
        rw [← put_next]
        exact r4.imp fun i _ hh => hh.1
theorem logoutN_good : SpecGood Try.prog (15, logoutN) := by
  refine spec_good mixed Try.func15 (by kernel_rfl) (by kernel_rfl) (tab := [(30, linkN)]) (by simp [linkN_good]) (keep := ses_Logout_keep) ?_
  rintro args h k ⟨x, rfl, H⟩
  refine ⟨0, ?_⟩
  show ses_Logout (tabC _) idG 0 (.pointer none) x h _
  rw [ses_Logout_eq]
  refine .inl ⟨rfl, x, rfl, fun h1 c1 => ?_⟩
  have m1 := c1.1
  simp only [ansL, Option.getD_none, Option.isSome_none, extV_two0, extV_two1, bindV_some, encL]
  refine allocE_in fun h2 c2 n2 o2 => ?_
  refine storeE_all o2 rfl rfl rfl fun h3 c3 n3 o3 => ?_
  simp only [unV_not, Bool.not_false, bindV_some, condK_bool, if_true]
  exact ⟨h3, St.le.refl _, H h3 ((c1.seq c2).new c3 (by omega))⟩
/-! ### Close -/
def closeAns (M : List Lk) (c : Nat) : Nat × Nat := match getL M c with | none => (0, 12) | some x => (x.player, 0)
def closeNext (M : List Lk) (c : Nat) : List Lk := match getL M c with | none => M | some _ => dropL M c
def closeO : Abs.Spec := fun args h k => ∃ (D : Nat → Prop) (v : Value) (most : Nat) (idle : Int) (M : List Lk) (c : Nat), args = [v, .int .u32 (c : Int)] ∧ (∀ i, h.next ≤ i → D i) ∧ TbS D h v most idle M ∧
  ∀ h', ChgP D h h' → TbS D h' v most idle (closeNext M c) → k (two (closeAns M c)) h'
def closeN : Abs.Spec := fun args h k => ∃ x : Value, args = [.pointer none, x] ∧ ∀ h', Chg h h' [] → k (two (0, 12)) h'
theorem closeO_good : SpecGood Try.prog (16, closeO) := by
  refine spec_good mixed Try.func16 (by kernel_rfl) (by kernel_rfl) (tab := [(30, linkO), (34, dropO)]) (by simp [linkO_good, dropO_good]) (keep := ses_Close_keep) ?_
  rintro args h k ⟨D, v, most, idle, M, c, rfl, hD, s, H⟩
  have s' := s
  obtain ⟨t, rv, rfl, dt, tn, ot, r⟩ := s'
  refine ⟨0, ?_⟩
  show ses_Close (tabC _) idG 0 (.pointer (some ⟨t, 0, none⟩)) (.int .u32 (c : Int)) h _
  rw [ses_Close_eq]
  refine .inl ⟨rfl, D, _, most, idle, M, c, rfl, s, fun h1 c1 => ?_⟩
  obtain ⟨x, hx⟩ : ∃ x, x = (getL M c).getD ⟨0, 0, 0⟩ := ⟨_, rfl⟩
  unfold ansL
  rw [← hx]
  simp only [extV_two0, extV_two1, bindV_some, encL]
  refine allocE_in fun h2 c2 n2 o2 => ?_
  refine storeE_all o2 rfl rfl rfl fun h3 c3 n3 o3 => ?_
  have m1 := c1.1
  have cc : Chg h h3 [] := (c1.seq c2).new c3 (by omega)
  have o3 : h3.objs h1.next = some (.cells [.int .u32 (x.player : Int), .int .i64 x.last] true) := o3
  simp only [unV_not, bindV_some, condK_bool]
  cases hg : getL M c with
  | none =>
    simp only [Option.isSome_none, Bool.not_false, if_true]
    have := H h3 (cc.nil D)
    simp only [closeNext, closeAns, hg] at this
    exact ⟨h3, St.le.refl _, this (s.chg0 cc)⟩
  | some y =>
    rw [hg] at hx
    simp only [Option.getD_some] at hx
    subst hx
    have ot3 := cc.at0 tn ot
    have m3 := cc.1
    simp only [Option.isSome_some, Bool.not_true, Bool.false_eq_true, if_false, idG_eq, nilV, bindV_some, offV_ptr, loadV_ptr, ot3, loadM_cells, partV_one, List.getElem?_cons_zero, Nat.zero_add]
    refine .inr (.inl ⟨rfl, fun i => (D i ∧ i ≠ t) ∧ i ≠ h1.next, rv, most, M.map rk, c, rfl, ?_, ?_, fun h4 c4 r4 => ?_⟩)
    · exact fun i hi => ⟨⟨hD i (by omega), by omega⟩, by omega⟩
    · exact (r.imp fun i hi hh => ⟨hh, by omega⟩).chg0 cc
    · have o4 : h4.objs h1.next = some (.cells [.int .u32 (x.player : Int), .int .i64 x.last] true) := c4.at (by omega) (fun hh => hh.2 rfl) o3
      simp only [offV_ptr, bindV_some, loadV_ptr, o4, loadM_cells, partV_one, List.getElem?_cons_zero, Nat.zero_add]
      have := H h4 ((cc.nil D).step (c4.mono fun i _ hi => hi.1.1))
      simp only [closeNext, closeAns, hg] at this
      refine ⟨h4, St.le.refl _, this ⟨t, rv, rfl, dt, Nat.lt_of_lt_of_le (by omega) c4.1, c4.at (by omega) (fun hh => hh.1.2 rfl) ot3, ?_⟩⟩
      rw [← rk_drop]
      exact r4.imp fun i _ hh => hh.1
theorem closeN_good : SpecGood Try.prog (16, closeN) := by
  refine spec_good mixed Try.func16 (by kernel_rfl) (by kernel_rfl) (tab := [(30, linkN)]) (by simp [linkN_good]) (keep := ses_Close_keep) ?_
  rintro args h k ⟨x, rfl, H⟩
  refine ⟨0, ?_⟩
  show ses_Close (tabC _) idG 0 (.pointer none) x h _
  rw [ses_Close_eq]
  refine .inl ⟨rfl, x, rfl, fun h1 c1 => ?_⟩
  have m1 := c1.1
  simp only [ansL, Option.getD_none, Option.isSome_none, extV_two0, extV_two1, bindV_some, encL]
  refine allocE_in fun h2 c2 n2 o2 => ?_
  refine storeE_all o2 rfl rfl rfl fun h3 c3 n3 o3 => ?_
  simp only [unV_not, Bool.not_false, bindV_some, condK_bool, if_true]
  exact ⟨h3, St.le.refl _, H h3 ((c1.seq c2).new c3 (by omega))⟩
/-! ### Conns -/
def connsO : Abs.Spec := fun args h k => ∃ (D : Nat → Prop) (v : Value) (most : Nat) (idle : Int) (M : List Lk), args = [v] ∧ TbS D h v most idle M ∧
  ∀ h' sv, Chg h h' [] → OwnS (fun i => h.next ≤ i) h' sv 1 (M.map fun x => .int .u32 (x.conn : Int)) M.length → k sv h'
def connsN : Abs.Spec := fun args h k => args = [.pointer none] ∧ k (.slice none 0 0) h
theorem connsO_good : SpecGood Try.prog (18, connsO) := by
  refine spec_good mixed Try.func18 (by kernel_rfl) (by kernel_rfl) (tab := [(38, idsO)]) (by simp [idsO_good]) (keep := ses_Conns_keep) ?_
  rintro args h k ⟨D, v, most, idle, M, rfl, ⟨t, rv, rfl, dt, tn, ot, r⟩, H⟩
  refine ⟨0, ?_⟩
  show ses_Conns (tabC _) idG 0 (.pointer (some ⟨t, 0, none⟩)) h _
  rw [ses_Conns_eq]
  simp only [binNil_ptr_eql, Option.isNone_some, bindV_some, condK_bool, Bool.false_eq_true, if_false, idG_eq, nilV, offV_ptr, loadV_ptr, ot, loadM_cells, partV_one, List.getElem?_cons_zero, Nat.zero_add]
  refine .inl ⟨rfl, _, rv, most, _, rfl, r, fun h1 sv c1 s1 => ⟨h1, St.le.refl _, H h1 sv c1 ?_⟩⟩
  rw [List.map_map, List.length_map] at s1
  exact s1
theorem connsN_good : SpecGood Try.prog (18, connsN) := by
  refine spec_good mixed Try.func18 (by kernel_rfl) (by kernel_rfl) (tab := []) (by simp) (keep := ses_Conns_keep) ?_
  rintro args h k ⟨rfl, H⟩
  refine ⟨0, ?_⟩
  show ses_Conns (tabC _) idG 0 (.pointer none) h _
  rw [ses_Conns_eq]
  simp only [binNil_ptr_eql, Option.isNone_none, bindV_some, condK_bool, if_true]
  exact ⟨h, St.le.refl _, H⟩
end Go.Proofs.Ytnelcpabjpchnaa
