/- Sessions: connections, plainly; New, Open, Touch, Player, Logout, Close, Conns. -/
import Derived.Test.YtnelcpabjpchnaaRack
import Derived.Test.YtnelcpabjpchnaaGenT
import Derived.Test.YtnelcpabjpchnaaGenU
set_option linter.unusedSimpArgs false
set_option linter.unusedVariables false
set_option maxHeartbeats 4000000
namespace Go.Proofs.Ytnelcpabjpchnaa
open Go.Abs Go.IntWalk
attribute [local congr] bindV_weak condK_weak guardK_weak groupK_weak allocE_weak boxE_weak storeE_weak storeM_weak tabC_weak ite_weak idG_weak appendE_weak buildSliceE_weak mapUpdateE_weak deleteE_weak makeMapE_weak copyE_weak clearE_weak callE_weak

structure Lk where
  conn : Nat
  player : Nat
  last : Int
def lkC (player : Nat) (last : Int) : List Value := [.int .u32 (player : Int), .int .i64 last]
def rk (x : Lk) : Rk := (x.conn, lkC x.player x.last)
def encL (x : Lk) : Value := .agg #[.int .u32 (x.player : Int), .int .i64 x.last]
def getL : List Lk → Nat → Option Lk
  | [], _ => none
  | x :: M, c => if x.conn = c then some x else getL M c
def putL : List Lk → Nat → Nat → Int → List Lk
  | [], c, p, l => [⟨c, p, l⟩]
  | x :: M, c, p, l => if c < x.conn then ⟨c, p, l⟩ :: x :: M else if x.conn = c then ⟨c, p, l⟩ :: M else x :: putL M c p l
def dropL : List Lk → Nat → List Lk
  | [], _ => []
  | x :: M, c => if x.conn = c then M else x :: dropL M c
theorem rk_get (M : List Lk) (c : Nat) : rkGet (M.map rk) c = (getL M c).map fun x => (rk x).2 := by
  induction M with
  | nil => rfl
  | cons x M ih =>
    rw [List.map_cons, rkGet, getL, ih]
    show (if x.conn = c then _ else _) = _
    by_cases h : x.conn = c
    · rw [if_pos h, if_pos h]; rfl
    · rw [if_neg h, if_neg h]
theorem rk_put (M : List Lk) (c p : Nat) (l : Int) : rkPut (M.map rk) c (lkC p l) = (putL M c p l).map rk := by
  induction M with
  | nil => rfl
  | cons x M ih =>
    rw [List.map_cons, rkPut, putL, ih]
    show (if c < x.conn then _ else if x.conn = c then _ else _) = _
    by_cases h : c < x.conn
    · rw [if_pos h, if_pos h]; rfl
    · rw [if_neg h, if_neg h]
      by_cases h : x.conn = c
      · rw [if_pos h, if_pos h]; rfl
      · rw [if_neg h, if_neg h]; rfl
theorem rk_drop (M : List Lk) (c : Nat) : rkDrop (M.map rk) c = (dropL M c).map rk := by
  induction M with
  | nil => rfl
  | cons x M ih =>
    rw [List.map_cons, rkDrop, dropL, ih]
    show (if x.conn = c then _ else _) = _
    by_cases h : x.conn = c
    · rw [if_pos h, if_pos h]
    · rw [if_neg h, if_neg h]; rfl
def ansL (o : Option Lk) : Value := .tuple #[encL (o.getD ⟨0, 0, 0⟩), .bool o.isSome]
theorem ans_eq (M : List Lk) (c : Nat) : ansC (rkGet (M.map rk) c) = ansL (getL M c) := by
  rw [rk_get]
  cases getL M c <;> rfl
/-- A table of connections in memory. -/
def TbS (D : Nat → Prop) (h : St) (v : Value) (most : Nat) (idle : Int) (M : List Lk) : Prop :=
  ∃ t rv, v = .pointer (some ⟨t, 0, none⟩) ∧ D t ∧ t < h.next ∧ h.objs t = some (.cells [rv, .int .i64 idle] true) ∧ RkS (fun i => D i ∧ i ≠ t) h rv most (M.map rk)
theorem TbS.chgP {D E : Nat → Prop} {h h' : St} {v : Value} {most : Nat} {idle : Int} {M : List Lk} (s : TbS D h v most idle M) (c : ChgP E h h') (hE : ∀ i, E i → ¬ D i) : TbS D h' v most idle M := by
  obtain ⟨t, rv, e, dt, tn, ot, r⟩ := s
  exact ⟨t, rv, e, dt, Nat.lt_of_lt_of_le tn c.1, c.at tn (fun hh => hE _ hh dt) ot, r.chgP c fun i hi hh => hE i hi hh.1⟩
theorem TbS.chg {D : Nat → Prop} {h h' : St} {v : Value} {most : Nat} {idle : Int} {M : List Lk} {S : List Nat} (s : TbS D h v most idle M) (c : Chg h h' S) (hS : ∀ i ∈ S, ¬ D i) : TbS D h' v most idle M :=
  s.chgP (E := (· ∈ S)) (c.toP fun _ h => h) hS
theorem TbS.chg0 {D : Nat → Prop} {h h' : St} {v : Value} {most : Nat} {idle : Int} {M : List Lk} (s : TbS D h v most idle M) (c : Chg h h' []) : TbS D h' v most idle M := s.chg c (by simp)
theorem TbS.imp {D D' : Nat → Prop} {h : St} {v : Value} {most : Nat} {idle : Int} {M : List Lk} (s : TbS D h v most idle M) (hD : ∀ i, i < h.next → D i → D' i) : TbS D' h v most idle M := by
  obtain ⟨t, rv, e, dt, tn, ot, r⟩ := s
  exact ⟨t, rv, e, hD t tn dt, tn, ot, r.imp fun i hi hh => ⟨hD i hi hh.1, hh.2⟩⟩
theorem TbS.rows {D : Nat → Prop} {h : St} {v : Value} {most : Nat} {idle : Int} {M : List Lk} (s : TbS D h v most idle M) : RkL (M.map rk) ∧ M.length ≤ most ∧ most ≤ 90000 := by
  obtain ⟨t, rv, e, dt, tn, ot, r⟩ := s
  exact ⟨r.rows, by simpa using r.few.1, r.few.2⟩
/-- The table behind a change of its rack. -/
theorem TbS.step {D : Nat → Prop} {h h' : St} {t : Nat} {rv : Value} {most : Nat} {idle : Int} {M : List Lk} {R : List Rk} (dt : D t) (tn : t < h.next) (ot : h.objs t = some (.cells [rv, .int .i64 idle] true))
    (c : ChgP (fun i => D i ∧ i ≠ t) h h') (r : RkS (fun i => D i ∧ i ≠ t) h' rv most R) (e : R = M.map rk) : TbS D h' (.pointer (some ⟨t, 0, none⟩)) most idle M :=
  ⟨t, rv, rfl, dt, Nat.lt_of_lt_of_le tn c.1, c.at tn (fun hh => hh.2 rfl) ot, e ▸ r⟩
/-! ### New, link -/
def snewO : Abs.Spec := fun args h k => ∃ (n idle : Int), args = [.int .i64 n, .int .i64 idle] ∧ n ≤ 90000 ∧ ∀ h' v, Chg h h' [] → TbS (fun i => h.next ≤ i) h' v n.toNat idle [] → k v h'
theorem snewO_good : SpecGood Try.prog (7, snewO) := by
  refine spec_good mixed Try.func7 (by kernel_rfl) (by kernel_rfl) (tab := [(25, newO)]) (by simp [newO_good]) (keep := ses_New_keep) ?_
  rintro args h k ⟨n, idle, rfl, hn, H⟩
  refine ⟨0, ?_⟩
  show ses_New (tabC _) idG 0 (.int .i64 n) (.int .i64 idle) h _
  rw [ses_New_eq]
  refine .inl ⟨rfl, n, rfl, hn, fun h1 v c1 r => ?_⟩
  have r' := r
  obtain ⟨p, sv, rfl, dp, pn, _⟩ := r'
  have b1 : buildV [.pointer none] (some [(0, 1, .pointer (some ⟨p, 0, none⟩))]) = some (.agg #[.pointer (some ⟨p, 0, none⟩)]) := rfl
  have b2 : buildV [.pointer none, .int .i64 0] (some [(0, 1, .agg #[.pointer (some ⟨p, 0, none⟩)]), (1, 1, .int .i64 idle)]) = some (.agg #[.pointer (some ⟨p, 0, none⟩), .int .i64 idle]) := rfl
  simp only [b1, b2, bindV_some]
  have n1 := c1.1
  refine boxE_in (by rfl) fun h2 c2 n2 o2 => ?_
  exact ⟨h2, St.le.refl _, H h2 _ (c1.seq c2) ⟨h1.next, _, rfl, n1, by omega, o2, (r.imp fun i hi hh => ⟨hh, by omega⟩).chg0 c2⟩⟩
def linkO : Abs.Spec := fun args h k => ∃ (D : Nat → Prop) (v : Value) (most : Nat) (idle : Int) (M : List Lk) (c : Nat), args = [v, .int .u32 (c : Int)] ∧ TbS D h v most idle M ∧ ∀ h', Chg h h' [] → k (ansL (getL M c)) h'
def linkN : Abs.Spec := fun args h k => ∃ x : Value, args = [.pointer none, x] ∧ ∀ h', Chg h h' [] → k (ansL none) h'
theorem linkO_good : SpecGood Try.prog (30, linkO) := by
  refine spec_good mixed Try.func30 (by kernel_rfl) (by kernel_rfl) (tab := [(46, getO)]) (by simp [getO_good]) (keep := ses_link_keep) ?_
  rintro args h k ⟨D, v, most, idle, M, c, rfl, ⟨t, rv, rfl, dt, tn, ot, r⟩, H⟩
  refine ⟨0, ?_⟩
  show ses_link (tabC _) idG 0 (.pointer (some ⟨t, 0, none⟩)) (.int .u32 (c : Int)) h _
  rw [ses_link_eq]
  refine allocE_in fun h1 c1 n1 o1 => ?_
  simp only [binNil_ptr_eql, Option.isNone_some, bindV_some, condK_bool, Bool.false_eq_true, if_false, idG_eq, nilV, offV_ptr, loadV_ptr, c1.at0 tn ot, loadM_cells, partV_one, List.getElem?_cons_zero, Nat.zero_add]
  refine .inl ⟨rfl, _, rv, most, _, c, rfl, r.chg0 c1, fun h2 c2 => ?_⟩
  rw [ans_eq]
  obtain ⟨x, hx⟩ : ∃ x, x = (getL M c).getD ⟨0, 0, 0⟩ := ⟨_, rfl⟩
  unfold ansL at H ⊢
  rw [← hx] at H ⊢
  simp only [extV_two0, extV_two1, bindV_some, encL]
  refine storeE_all (c2.at0 (by omega) o1) rfl rfl rfl fun h3 c3 n3 o3 => ?_
  simp only [loadV_ptr, o3, loadM_cells, partV_agg]
  exact ⟨h3, St.le.refl _, H h3 ((c1.seq c2).new c3 (Nat.le_refl _))⟩
theorem linkN_good : SpecGood Try.prog (30, linkN) := by
  refine spec_good mixed Try.func30 (by kernel_rfl) (by kernel_rfl) (tab := []) (by simp) (keep := ses_link_keep) ?_
  rintro args h k ⟨x, rfl, H⟩
  refine ⟨0, ?_⟩
  show ses_link (tabC _) idG 0 (.pointer none) x h _
  rw [ses_link_eq]
  refine allocE_in fun h1 c1 n1 o1 => ?_
  have b1 : buildV [.int .u32 0, .int .i64 0] (some []) = some (.agg #[.int .u32 0, .int .i64 0]) := rfl
  simp only [binNil_ptr_eql, Option.isNone_none, bindV_some, condK_bool, if_true, b1]
  refine storeE_all o1 rfl rfl rfl fun h3 c3 n3 o3 => ?_
  simp only [loadV_ptr, o3, loadM_cells, partV_agg]
  exact ⟨h3, St.le.refl _, H h3 (c1.new c3 (Nat.le_refl _))⟩
/-! ### Open -/
def openAns (M : List Lk) (most c : Nat) : Nat := rkAddAns (M.map rk) most c
def openNext (M : List Lk) (most c : Nat) (now : Int) : List Lk := if openAns M most c = 0 then putL M c 0 now else M
def putAns (M : List Lk) (most c : Nat) : Nat := rkAns (M.map rk) most c
def putNext (M : List Lk) (most c p : Nat) (l : Int) : List Lk := if putAns M most c = 0 then putL M c p l else M
theorem put_next (M : List Lk) (most c p : Nat) (l : Int) : rkNext (M.map rk) most c (lkC p l) = (putNext M most c p l).map rk := by
  unfold rkNext putNext putAns
  rw [rk_put]
  split <;> rfl
theorem open_next (M : List Lk) (most c : Nat) (now : Int) : rkAddNext (M.map rk) most c (lkC 0 now) = (openNext M most c now).map rk := by
  unfold rkAddNext openNext openAns
  rw [rk_put]
  split <;> rfl
theorem one_lkC (p : Nat) (l : Int) : allOne (lkC p l) = true := rfl
def openO : Abs.Spec := fun args h k => ∃ (D : Nat → Prop) (v : Value) (most : Nat) (idle : Int) (M : List Lk) (c : Nat) (now : Int), args = [v, .int .u32 (c : Int), .int .i64 now] ∧ (∀ i, h.next ≤ i → D i) ∧ TbS D h v most idle M ∧
  ∀ h', ChgP D h h' → TbS D h' v most idle (openNext M most c now) → k (.int .i64 (openAns M most c)) h'
def openN : Abs.Spec := fun args h k => ∃ x y : Value, args = [.pointer none, x, y] ∧ k (.int .i64 10) h
theorem openO_good : SpecGood Try.prog (8, openO) := by
  refine spec_good mixed Try.func8 (by kernel_rfl) (by kernel_rfl) (tab := [(26, addO)]) (by simp [addO_good]) (keep := ses_Open_keep) ?_
  rintro args h k ⟨D, v, most, idle, M, c, now, rfl, hD, ⟨t, rv, rfl, dt, tn, ot, r⟩, H⟩
  refine ⟨0, ?_⟩
  show ses_Open (tabC _) idG 0 (.pointer (some ⟨t, 0, none⟩)) (.int .u32 (c : Int)) (.int .i64 now) h _
  rw [ses_Open_eq]
  have b1 : buildV [.int .u32 0, .int .i64 0] (some [(1, 1, .int .i64 now)]) = some (.agg (lkC 0 now).toArray) := rfl
  simp only [binNil_ptr_eql, Option.isNone_some, bindV_some, condK_bool, Bool.false_eq_true, if_false, idG_eq, nilV, offV_ptr, loadV_ptr, ot, loadM_cells, partV_one, List.getElem?_cons_zero, Nat.zero_add, b1]
  refine .inl ⟨rfl, _, rv, most, _, c, lkC 0 now, rfl, fun i hi => ⟨hD i hi, by omega⟩, r, rfl, rfl, fun h1 c1 r1 => ?_⟩
  exact ⟨h1, St.le.refl _, H h1 (c1.mono fun i _ hi => hi.1) (.step dt tn ot c1 r1 (open_next M most c now))⟩
theorem openN_good : SpecGood Try.prog (8, openN) := by
  refine spec_good mixed Try.func8 (by kernel_rfl) (by kernel_rfl) (tab := []) (by simp) (keep := ses_Open_keep) ?_
  rintro args h k ⟨x, y, rfl, H⟩
  refine ⟨0, ?_⟩
  show ses_Open (tabC _) idG 0 (.pointer none) x y h _
  rw [ses_Open_eq]
  simp only [binNil_ptr_eql, Option.isNone_none, bindV_some, condK_bool, if_true]
  exact ⟨h, St.le.refl _, H⟩
/-! ### Touch -/
def touchAns (M : List Lk) (most c : Nat) : Nat := if (getL M c).isSome = true then putAns M most c else 12
def touchNext (M : List Lk) (most c : Nat) (now : Int) : List Lk := match getL M c with | some x => putNext M most c x.player now | none => M
def touchO : Abs.Spec := fun args h k => ∃ (D : Nat → Prop) (v : Value) (most : Nat) (idle : Int) (M : List Lk) (c : Nat) (now : Int), args = [v, .int .u32 (c : Int), .int .i64 now] ∧ (∀ i, h.next ≤ i → D i) ∧ TbS D h v most idle M ∧
  ∀ h', ChgP D h h' → TbS D h' v most idle (touchNext M most c now) → k (.int .i64 (touchAns M most c)) h'
def touchN : Abs.Spec := fun args h k => ∃ x y : Value, args = [.pointer none, x, y] ∧ ∀ h', Chg h h' [] → k (.int .i64 12) h'
theorem touchO_good : SpecGood Try.prog (10, touchO) := by
  refine spec_good mixed Try.func10 (by kernel_rfl) (by kernel_rfl) (tab := [(30, linkO), (31, putO)]) (by simp [linkO_good, putO_good]) (keep := ses_Touch_keep) ?_
  rintro args h k ⟨D, v, most, idle, M, c, now, rfl, hD, s, H⟩
  have s' := s
  obtain ⟨t, rv, rfl, dt, tn, ot, r⟩ := s'
  refine ⟨0, ?_⟩
  show ses_Touch (tabC _) idG 0 (.pointer (some ⟨t, 0, none⟩)) (.int .u32 (c : Int)) (.int .i64 now) h _
  rw [ses_Touch_eq]
  refine .inl ⟨rfl, D, _, most, idle, M, c, rfl, s, fun h1 c1 => ?_⟩
  obtain ⟨x, hx⟩ : ∃ x, x = (getL M c).getD ⟨0, 0, 0⟩ := ⟨_, rfl⟩
  unfold ansL
  rw [← hx]
  simp only [extV_two0, extV_two1, bindV_some, encL]
  refine allocE_in fun h2 c2 n2 o2 => ?_
  refine storeE_all o2 rfl rfl rfl fun h3 c3 n3 o3 => ?_
  have m1 := c1.1
  have cc : Chg h h3 [] := (c1.seq c2).new c3 (by omega)
  simp only [unV_not, bindV_some, condK_bool]
  cases hg : getL M c with
  | none =>
    simp only [Option.isSome_none, Bool.not_false, if_true]
    have := H h3 (cc.nil D)
    simp only [touchNext, touchAns, hg] at this
    exact ⟨h3, St.le.refl _, this (s.chg0 cc)⟩
  | some y =>
    rw [hg] at hx
    simp only [Option.getD_some] at hx
    subst hx
    have b1 : buildV [.int .u32 0, .int .i64 0] (some [(0, 1, .int .u32 (x.player : Int)), (1, 1, .int .i64 now)]) = some (.agg (lkC x.player now).toArray) := rfl
    have ot3 := cc.at0 tn ot
    simp only [Option.isSome_some, Bool.not_true, Bool.false_eq_true, if_false, idG_eq, nilV, bindV_some, offV_ptr, loadV_ptr, ot3, loadM_cells, partV_one, List.getElem?_cons_zero, Nat.zero_add]
    refine ⟨trivial, ?_⟩
    simp only [offV_ptr, bindV_some, loadV_ptr, o3, loadM_cells, partV_one, List.getElem?_cons_zero, Nat.zero_add]
    refine ⟨trivial, ?_⟩
    simp only [b1, bindV_some]
    have m3 := cc.1
    refine .inr (.inl ⟨rfl, _, rv, most, _, c, lkC x.player now, rfl, fun i hi => ⟨hD i (by omega), by omega⟩, r.chg0 cc, rfl, rfl, fun h4 c4 r4 => ?_⟩)
    refine ⟨⟨trivial, trivial, trivial⟩, h4, St.le.refl _, ?_⟩
    have := H h4 ((cc.nil D).step (c4.mono fun i _ hi => hi.1))
    simp only [touchNext, touchAns, hg] at this
    exact this (.step dt (by omega) ot3 c4 r4 (put_next M most c x.player now))
theorem touchN_good : SpecGood Try.prog (10, touchN) := by
  refine spec_good mixed Try.func10 (by kernel_rfl) (by kernel_rfl) (tab := [(30, linkN)]) (by simp [linkN_good]) (keep := ses_Touch_keep) ?_
  rintro args h k ⟨x, y, rfl, H⟩
  refine ⟨0, ?_⟩
  show ses_Touch (tabC _) idG 0 (.pointer none) x y h _
  rw [ses_Touch_eq]
  refine .inl ⟨rfl, x, rfl, fun h1 c1 => ?_⟩
  simp only [ansL, Option.getD_none, Option.isSome_none, extV_two0, extV_two1, bindV_some, encL]
  refine allocE_in fun h2 c2 n2 o2 => ?_
  refine storeE_all o2 rfl rfl rfl fun h3 c3 n3 o3 => ?_
  have m1 := c1.1
  simp only [unV_not, Bool.not_false, bindV_some, condK_bool, if_true]
  exact ⟨h3, St.le.refl _, H h3 ((c1.seq c2).new c3 (by omega))⟩
/-! ### Player -/
def playerOf (M : List Lk) (c : Nat) : Nat := ((getL M c).getD ⟨0, 0, 0⟩).player
def playerO : Abs.Spec := fun args h k => ∃ (D : Nat → Prop) (v : Value) (most : Nat) (idle : Int) (M : List Lk) (c : Nat), args = [v, .int .u32 (c : Int)] ∧ TbS D h v most idle M ∧ ∀ h', Chg h h' [] → k (.int .u32 (playerOf M c)) h'
def playerN : Abs.Spec := fun args h k => ∃ x : Value, args = [.pointer none, x] ∧ ∀ h', Chg h h' [] → k (.int .u32 0) h'
theorem playerO_good : SpecGood Try.prog (14, playerO) := by
  refine spec_good mixed Try.func14 (by kernel_rfl) (by kernel_rfl) (tab := [(30, linkO)]) (by simp [linkO_good]) (keep := ses_Player_keep) ?_
  rintro args h k ⟨D, v, most, idle, M, c, rfl, s, H⟩
  refine ⟨0, ?_⟩
  show ses_Player (tabC _) idG 0 v (.int .u32 (c : Int)) h _
  rw [ses_Player_eq]
  refine .inl ⟨rfl, D, _, most, idle, M, c, rfl, s, fun h1 c1 => ?_⟩
  have m1 := c1.1
  simp only [ansL, extV_two0, extV_two1, bindV_some, encL]
  refine allocE_in fun h2 c2 n2 o2 => ?_
  refine storeE_all o2 rfl rfl rfl fun h3 c3 n3 o3 => ?_
  simp only [offV_ptr, bindV_some, loadV_ptr, o3, loadM_cells, partV_one, List.getElem?_cons_zero, Nat.zero_add]
  exact ⟨h3, St.le.refl _, H h3 ((c1.seq c2).new c3 (by omega))⟩
theorem playerN_good : SpecGood Try.prog (14, playerN) := by
  refine spec_good mixed Try.func14 (by kernel_rfl) (by kernel_rfl) (tab := [(30, linkN)]) (by simp [linkN_good]) (keep := ses_Player_keep) ?_
  rintro args h k ⟨x, rfl, H⟩
  refine ⟨0, ?_⟩
  show ses_Player (tabC _) idG 0 (.pointer none) x h _
  rw [ses_Player_eq]
  refine .inl ⟨rfl, x, rfl, fun h1 c1 => ?_⟩
  have m1 := c1.1
  simp only [ansL, extV_two0, extV_two1, bindV_some, encL]
  refine allocE_in fun h2 c2 n2 o2 => ?_
  refine storeE_all o2 rfl rfl rfl fun h3 c3 n3 o3 => ?_
  simp only [offV_ptr, bindV_some, loadV_ptr, o3, loadM_cells, partV_one, List.getElem?_cons_zero, Nat.zero_add]
  exact ⟨h3, St.le.refl _, H h3 ((c1.seq c2).new c3 (by omega))⟩
/-! ### Logout -/
def logoutAns (M : List Lk) (most c : Nat) : Nat × Nat := match getL M c with | none => (0, 12) | some x => if x.player = 0 then (0, 25) else (x.player, putAns M most c)
def logoutNext (M : List Lk) (most c : Nat) : List Lk := match getL M c with | none => M | some x => if x.player = 0 then M else putNext M most c 0 x.last
def two (a : Nat × Nat) : Value := .tuple #[.int .u32 (a.1 : Int), .int .i64 (a.2 : Int)]
def logoutO : Abs.Spec := fun args h k => ∃ (D : Nat → Prop) (v : Value) (most : Nat) (idle : Int) (M : List Lk) (c : Nat), args = [v, .int .u32 (c : Int)] ∧ (∀ i, h.next ≤ i → D i) ∧ TbS D h v most idle M ∧
  ∀ h', ChgP D h h' → TbS D h' v most idle (logoutNext M most c) → k (two (logoutAns M most c)) h'
def logoutN : Abs.Spec := fun args h k => ∃ x : Value, args = [.pointer none, x] ∧ ∀ h', Chg h h' [] → k (two (0, 12)) h'
theorem logoutO_good : SpecGood Try.prog (15, logoutO) := by
  refine spec_good mixed Try.func15 (by kernel_rfl) (by kernel_rfl) (tab := [(30, linkO), (31, putO)]) (by simp [linkO_good, putO_good]) (keep := ses_Logout_keep) ?_
  rintro args h k ⟨D, v, most, idle, M, c, rfl, hD, s, H⟩
  have s' := s
  obtain ⟨t, rv, rfl, dt, tn, ot, r⟩ := s'
  refine ⟨0, ?_⟩
  show ses_Logout (tabC _) idG 0 (.pointer (some ⟨t, 0, none⟩)) (.int .u32 (c : Int)) h _
  rw [ses_Logout_eq]
  refine .inl ⟨rfl, D, _, most, idle, M, c, rfl, s, fun h1 c1 => ?_⟩
  obtain ⟨x, hx⟩ : ∃ x, x = (getL M c).getD ⟨0, 0, 0⟩ := ⟨_, rfl⟩
  unfold ansL
  rw [← hx]
  simp only [extV_two0, extV_two1, bindV_some, encL]
  refine allocE_in fun h2 c2 n2 o2 => ?_
  refine storeE_all o2 rfl rfl rfl fun h3 c3 n3 o3 => ?_
  have m1 := c1.1
  have cc : Chg h h3 [] := (c1.seq c2).new c3 (by omega)
  have o3 : h3.objs h1.next = some (.cells [.int .u32 (x.player : Int), .int .i64 x.last] true) := o3
  simp only [unV_not, bindV_some, condK_bool]
  cases hg : getL M c with
  | none =>
    simp only [Option.isSome_none, Bool.not_false, if_true]
    have := H h3 (cc.nil D)
    simp only [logoutNext, logoutAns, hg] at this
    exact ⟨h3, St.le.refl _, this (s.chg0 cc)⟩
  | some y =>
    rw [hg] at hx
    simp only [Option.getD_some] at hx
    subst hx
    have ot3 := cc.at0 tn ot
    have b1 : buildV [.int .u32 0, .int .i64 0] (some [(1, 1, .int .i64 x.last)]) = some (.agg (lkC 0 x.last).toArray) := rfl
    simp only [Option.isSome_some, Bool.not_true, Bool.false_eq_true, if_false, bindV_some, offV_ptr, loadV_ptr, o3, loadM_cells, partV_one, List.getElem?_cons_zero, Nat.zero_add, binNil_int, binV_eql, condK_bool, decide_eq_true_eq]
    by_cases hp : x.player = 0
    · have hp' : (x.player : Int) = 0 := by omega
      rw [if_pos hp']
      have := H h3 (cc.nil D)
      simp only [logoutNext, logoutAns, hg, if_pos hp] at this
      exact ⟨h3, St.le.refl _, this (s.chg0 cc)⟩
    · have hp' : ¬ (x.player : Int) = 0 := by omega
      rw [if_neg hp']
      simp only [idG_eq, offV_ptr, bindV_some, loadV_ptr, o3, loadM_cells, partV_one, List.getElem?_cons_zero, Nat.zero_add]
      refine ⟨trivial, ?_⟩
      simp only [nilV, offV_ptr, bindV_some, loadV_ptr, ot3, loadM_cells, partV_one, List.getElem?_cons_zero, Nat.zero_add]
      refine ⟨trivial, ?_⟩
      simp only [offV_ptr, bindV_some, loadV_ptr, o3, loadM_cells, partV_one, List.getElem?_cons_succ, List.getElem?_cons_zero, Nat.zero_add]
      refine ⟨trivial, ?_⟩
      simp only [b1, bindV_some]
      have m3 := cc.1
      -- what was looked up is no part of the table
      refine .inr (.inl ⟨rfl, fun i => (D i ∧ i ≠ t) ∧ i ≠ h1.next, rv, most, M.map rk, c, lkC 0 x.last, rfl, ?_, ?_, rfl, rfl, fun h4 c4 r4 => ?_⟩)
      · exact fun i hi => ⟨⟨hD i (by omega), by omega⟩, by omega⟩
      · exact (r.imp fun i hi hh => ⟨hh, by omega⟩).chg0 cc
      · have o4 : h4.objs h1.next = some (.cells [.int .u32 (x.player : Int), .int .i64 x.last] true) := c4.at (by omega) (fun hh => hh.2 rfl) o3
        refine ⟨⟨trivial, trivial, by simp only [loadV_ptr, o4, loadM_cells, partV_one, List.getElem?_cons_zero], trivial⟩, h4, St.le.refl _, ?_⟩
        have := H h4 ((cc.nil D).step (c4.mono fun i _ hi => hi.1.1))
        simp only [logoutNext, logoutAns, hg, if_neg hp] at this
        refine this ⟨t, rv, rfl, dt, Nat.lt_of_lt_of_le (by omega) c4.1, c4.at (by omega) (fun hh => hh.1.2 rfl) ot3, ?_⟩
        rw [← put_next]
        exact r4.imp fun i _ hh => hh.1
theorem logoutN_good : SpecGood Try.prog (15, logoutN) := by
  refine spec_good mixed Try.func15 (by kernel_rfl) (by kernel_rfl) (tab := [(30, linkN)]) (by simp [linkN_good]) (keep := ses_Logout_keep) ?_
  rintro args h k ⟨x, rfl, H⟩
  refine ⟨0, ?_⟩
  show ses_Logout (tabC _) idG 0 (.pointer none) x h _
  rw [ses_Logout_eq]
  refine .inl ⟨rfl, x, rfl, fun h1 c1 => ?_⟩
  have m1 := c1.1
  simp only [ansL, Option.getD_none, Option.isSome_none, extV_two0, extV_two1, bindV_some, encL]
  refine allocE_in fun h2 c2 n2 o2 => ?_
  refine storeE_all o2 rfl rfl rfl fun h3 c3 n3 o3 => ?_
  simp only [unV_not, Bool.not_false, bindV_some, condK_bool, if_true]
  exact ⟨h3, St.le.refl _, H h3 ((c1.seq c2).new c3 (by omega))⟩
/-! ### Close -/
def closeAns (M : List Lk) (c : Nat) : Nat × Nat := match getL M c with | none => (0, 12) | some x => (x.player, 0)
def closeNext (M : List Lk) (c : Nat) : List Lk := match getL M c with | none => M | some _ => dropL M c
def closeO : Abs.Spec := fun args h k => ∃ (D : Nat → Prop) (v : Value) (most : Nat) (idle : Int) (M : List Lk) (c : Nat), args = [v, .int .u32 (c : Int)] ∧ (∀ i, h.next ≤ i → D i) ∧ TbS D h v most idle M ∧
  ∀ h', ChgP D h h' → TbS D h' v most idle (closeNext M c) → k (two (closeAns M c)) h'
def closeN : Abs.Spec := fun args h k => ∃ x : Value, args = [.pointer none, x] ∧ ∀ h', Chg h h' [] → k (two (0, 12)) h'
theorem closeO_good : SpecGood Try.prog (16, closeO) := by
  refine spec_good mixed Try.func16 (by kernel_rfl) (by kernel_rfl) (tab := [(30, linkO), (34, dropO)]) (by simp [linkO_good, dropO_good]) (keep := ses_Close_keep) ?_
  rintro args h k ⟨D, v, most, idle, M, c, rfl, hD, s, H⟩
  have s' := s
  obtain ⟨t, rv, rfl, dt, tn, ot, r⟩ := s'
  refine ⟨0, ?_⟩
  show ses_Close (tabC _) idG 0 (.pointer (some ⟨t, 0, none⟩)) (.int .u32 (c : Int)) h _
  rw [ses_Close_eq]
  refine .inl ⟨rfl, D, _, most, idle, M, c, rfl, s, fun h1 c1 => ?_⟩
  obtain ⟨x, hx⟩ : ∃ x, x = (getL M c).getD ⟨0, 0, 0⟩ := ⟨_, rfl⟩
  unfold ansL
  rw [← hx]
  simp only [extV_two0, extV_two1, bindV_some, encL]
  refine allocE_in fun h2 c2 n2 o2 => ?_
  refine storeE_all o2 rfl rfl rfl fun h3 c3 n3 o3 => ?_
  have m1 := c1.1
  have cc : Chg h h3 [] := (c1.seq c2).new c3 (by omega)
  have o3 : h3.objs h1.next = some (.cells [.int .u32 (x.player : Int), .int .i64 x.last] true) := o3
  simp only [unV_not, bindV_some, condK_bool]
  cases hg : getL M c with
  | none =>
    simp only [Option.isSome_none, Bool.not_false, if_true]
    have := H h3 (cc.nil D)
    simp only [closeNext, closeAns, hg] at this
    exact ⟨h3, St.le.refl _, this (s.chg0 cc)⟩
  | some y =>
    rw [hg] at hx
    simp only [Option.getD_some] at hx
    subst hx
    have ot3 := cc.at0 tn ot
    have m3 := cc.1
    simp only [Option.isSome_some, Bool.not_true, Bool.false_eq_true, if_false, idG_eq, nilV, bindV_some, offV_ptr, loadV_ptr, ot3, loadM_cells, partV_one, List.getElem?_cons_zero, Nat.zero_add]
    refine .inr (.inl ⟨rfl, fun i => (D i ∧ i ≠ t) ∧ i ≠ h1.next, rv, most, M.map rk, c, rfl, ?_, ?_, fun h4 c4 r4 => ?_⟩)
    · exact fun i hi => ⟨⟨hD i (by omega), by omega⟩, by omega⟩
    · exact (r.imp fun i hi hh => ⟨hh, by omega⟩).chg0 cc
    · have o4 : h4.objs h1.next = some (.cells [.int .u32 (x.player : Int), .int .i64 x.last] true) := c4.at (by omega) (fun hh => hh.2 rfl) o3
      simp only [offV_ptr, bindV_some, loadV_ptr, o4, loadM_cells, partV_one, List.getElem?_cons_zero, Nat.zero_add]
      have := H h4 ((cc.nil D).step (c4.mono fun i _ hi => hi.1.1))
      simp only [closeNext, closeAns, hg] at this
      refine ⟨h4, St.le.refl _, this ⟨t, rv, rfl, dt, Nat.lt_of_lt_of_le (by omega) c4.1, c4.at (by omega) (fun hh => hh.1.2 rfl) ot3, ?_⟩⟩
      rw [← rk_drop]
      exact r4.imp fun i _ hh => hh.1
theorem closeN_good : SpecGood Try.prog (16, closeN) := by
  refine spec_good mixed Try.func16 (by kernel_rfl) (by kernel_rfl) (tab := [(30, linkN)]) (by simp [linkN_good]) (keep := ses_Close_keep) ?_
  rintro args h k ⟨x, rfl, H⟩
  refine ⟨0, ?_⟩
  show ses_Close (tabC _) idG 0 (.pointer none) x h _
  rw [ses_Close_eq]
  refine .inl ⟨rfl, x, rfl, fun h1 c1 => ?_⟩
  have m1 := c1.1
  simp only [ansL, Option.getD_none, Option.isSome_none, extV_two0, extV_two1, bindV_some, encL]
  refine allocE_in fun h2 c2 n2 o2 => ?_
  refine storeE_all o2 rfl rfl rfl fun h3 c3 n3 o3 => ?_
  simp only [unV_not, Bool.not_false, bindV_some, condK_bool, if_true]
  exact ⟨h3, St.le.refl _, H h3 ((c1.seq c2).new c3 (by omega))⟩
/-! ### Conns -/
def connsO : Abs.Spec := fun args h k => ∃ (D : Nat → Prop) (v : Value) (most : Nat) (idle : Int) (M : List Lk), args = [v] ∧ TbS D h v most idle M ∧
  ∀ h' sv, Chg h h' [] → OwnS (fun i => h.next ≤ i) h' sv 1 (M.map fun x => .int .u32 (x.conn : Int)) M.length → k sv h'
def connsN : Abs.Spec := fun args h k => args = [.pointer none] ∧ k (.slice none 0 0) h
theorem connsO_good : SpecGood Try.prog (18, connsO) := by
  refine spec_good mixed Try.func18 (by kernel_rfl) (by kernel_rfl) (tab := [(38, idsO)]) (by simp [idsO_good]) (keep := ses_Conns_keep) ?_
  rintro args h k ⟨D, v, most, idle, M, rfl, ⟨t, rv, rfl, dt, tn, ot, r⟩, H⟩
  refine ⟨0, ?_⟩
  show ses_Conns (tabC _) idG 0 (.pointer (some ⟨t, 0, none⟩)) h _
  rw [ses_Conns_eq]
  simp only [binNil_ptr_eql, Option.isNone_some, bindV_some, condK_bool, Bool.false_eq_true, if_false, idG_eq, nilV, offV_ptr, loadV_ptr, ot, loadM_cells, partV_one, List.getElem?_cons_zero, Nat.zero_add]
  refine .inl ⟨rfl, _, rv, most, _, rfl, r, fun h1 sv c1 s1 => ⟨h1, St.le.refl _, H h1 sv c1 ?_⟩⟩
  rw [List.map_map, List.length_map] at s1
  exact s1
theorem connsN_good : SpecGood Try.prog (18, connsN) := by
  refine spec_good mixed Try.func18 (by kernel_rfl) (by kernel_rfl) (tab := []) (by simp) (keep := ses_Conns_keep) ?_
  rintro args h k ⟨rfl, H⟩
  refine ⟨0, ?_⟩
  show ses_Conns (tabC _) idG 0 (.pointer none) h _
  rw [ses_Conns_eq]
  simp only [binNil_ptr_eql, Option.isNone_none, bindV_some, condK_bool, if_true]
  exact ⟨h, St.le.refl _, H⟩
end Go.Proofs.Ytnelcpabjpchnaa

/- Sessions: which, Conn, Idle, Players, Login. -/
set_option linter.unusedSimpArgs false
set_option linter.unusedVariables false
set_option maxHeartbeats 4000000
namespace Go.Proofs.Ytnelcpabjpchnaa
open Go.Abs Go.IntWalk
attribute [local congr] bindV_weak condK_weak guardK_weak groupK_weak allocE_weak boxE_weak storeE_weak storeM_weak tabC_weak ite_weak idG_weak appendE_weak buildSliceE_weak mapUpdateE_weak deleteE_weak makeMapE_weak copyE_weak clearE_weak callE_weak

/-! ### times -/
def tadd (a s : Int) : Int := if a > IntKind.i64.wrap (9223372036854775807 - (if s > 0 then s else 0)) then 9223372036854775807 else IntKind.i64.wrap (a + (if s > 0 then s else 0))
def taddO : Abs.Spec := fun args h k => ∃ a s : Int, args = [.int .i64 a, .int .i64 s] ∧ k (.int .i64 (tadd a s)) h
theorem taddO_good : SpecGood Try.prog (29, taddO) := by
  refine spec_good mixed Try.func29 (by kernel_rfl) (by kernel_rfl) (tab := []) (by simp) (keep := timer_Add_keep) ?_
  rintro args h k ⟨a, s, rfl, H⟩
  refine ⟨0, ?_⟩
  show timer_Add (tabC _) idG 0 (.int .i64 a) (.int .i64 s) h _
  rw [timer_Add_eq]
  unfold tadd at H
  obtain ⟨m, hm⟩ : ∃ m, m = (if s > 0 then s else 0) := ⟨_, rfl⟩
  rw [← hm] at H
  simp only [maxV, if_true, ← hm, bindV_some, binNil_int, binV_sub, binV_gtr, condK_bool, decide_eq_true_eq]
  by_cases hh : a > IntKind.i64.wrap (9223372036854775807 - m)
  · rw [if_pos hh] at H
    rw [if_pos hh]
    exact ⟨h, St.le.refl _, H⟩
  · rw [if_neg hh] at H
    rw [if_neg hh]
    simp only [idG_eq, binV_add, bindV_some]
    exact ⟨h, St.le.refl _, H⟩
/-! ### what is asked of a connection -/
def players1O : Abs.Spec := fun args h k => ∃ x : Lk, args = [encL x] ∧ ∀ h', Chg h h' [] → k (.bool (decide (x.player ≠ 0))) h'
theorem players1O_good : SpecGood Try.prog (36, players1O) := by
  refine spec_good mixed Try.func36 (by kernel_rfl) (by kernel_rfl) (tab := []) (by simp) (keep := ses_Players1_keep) ?_
  rintro args h k ⟨x, rfl, H⟩
  refine ⟨0, ?_⟩
  show ses_Players1 (tabC _) idG 0 (encL x) h _
  rw [ses_Players1_eq]
  refine boxE_in rfl fun h1 c1 n1 o1 => ?_
  have o1 : h1.objs h.next = some (.cells [.int .u32 (x.player : Int), .int .i64 x.last] true) := o1
  have e : decide ((x.player : Int) ≠ 0) = decide (x.player ≠ 0) := decide_eq_decide.2 (by omega)
  simp only [offV_ptr, bindV_some, loadV_ptr, o1, loadM_cells, partV_one, List.getElem?_cons_zero, Nat.zero_add, binNil_int, binV_neq, e]
  exact ⟨h1, St.le.refl _, H h1 c1⟩
def isAt (p : Nat) (x : Lk) : Bool := decide (p ≠ 0) && decide (x.player = p)
def conn1O : Abs.Spec := fun args h k => ∃ (x : Lk) (p b : Nat), args = [encL x, .pointer (some ⟨b, 0, none⟩)] ∧ b < h.next ∧ h.objs b = some (.cells [.int .u32 (p : Int)] true) ∧ ∀ h', Chg h h' [] → k (.bool (isAt p x)) h'
theorem conn1O_good : SpecGood Try.prog (35, conn1O) := by
  refine spec_good mixed Try.func35 (by kernel_rfl) (by kernel_rfl) (tab := []) (by simp) (keep := ses_Conn1_keep) ?_
  rintro args h k ⟨x, p, b, rfl, bn, ob, H⟩
  refine ⟨0, ?_⟩
  show ses_Conn1 (tabC _) idG 0 (encL x) (.pointer (some ⟨b, 0, none⟩)) h _
  rw [ses_Conn1_eq]
  refine boxE_in rfl fun h1 c1 n1 o1 => ?_
  have o1 : h1.objs h.next = some (.cells [.int .u32 (x.player : Int), .int .i64 x.last] true) := o1
  have ob1 := c1.at0 bn ob
  simp only [bindV_some, loadV_ptr, ob1, loadM_cells, partV_one, List.getElem?_cons_zero, binNil_int, binV_neq, groupK_eq, guardK_bool, decide_eq_true_eq]
  unfold isAt at H
  by_cases hp : p = 0
  · have hp' : ¬ (p : Int) ≠ 0 := by omega
    rw [if_neg hp']
    rw [decide_eq_false (by simpa using hp), Bool.false_and] at H
    simp only [idG_eq, hp', decide_false, pickV_bool, Bool.false_eq_true, if_false, bindV_some]
    exact ⟨h1, St.le.refl _, H h1 c1⟩
  · have hp' : (p : Int) ≠ 0 := by omega
    rw [if_pos hp']
    rw [decide_eq_true hp, Bool.true_and] at H
    have e : decide ((x.player : Int) = (p : Int)) = decide (x.player = p) := decide_eq_decide.2 (by omega)
    simp only [offV_ptr, bindV_some, loadV_ptr, o1, ob1, loadM_cells, partV_one, List.getElem?_cons_zero, Nat.zero_add, binV_eql, e, idG_eq]
    rw [decide_eq_true hp']
    simp only [getT, pickV_bool, if_true, bindV_some]
    exact ⟨h1, St.le.refl _, H h1 c1⟩
def isIdle (idle now : Int) (x : Lk) : Bool := decide (now ≥ tadd x.last idle)
def idle1O : Abs.Spec := fun args h k => ∃ (x : Lk) (now idle : Int) (rv : Value) (b3 b2 t : Nat), args = [encL x, .pointer (some ⟨b3, 0, none⟩), .pointer (some ⟨b2, 0, none⟩)] ∧ b3 < h.next ∧ h.objs b3 = some (.cells [.int .i64 now] true) ∧
  b2 < h.next ∧ h.objs b2 = some (.cells [.pointer (some ⟨t, 0, none⟩)] true) ∧ t < h.next ∧ h.objs t = some (.cells [rv, .int .i64 idle] true) ∧ ∀ h', Chg h h' [] → k (.bool (isIdle idle now x)) h'
theorem idle1O_good : SpecGood Try.prog (28, idle1O) := by
  refine spec_good mixed Try.func28 (by kernel_rfl) (by kernel_rfl) (tab := [(29, taddO)]) (by simp [taddO_good]) (keep := ses_Idle1_keep) ?_
  rintro args h k ⟨x, now, idle, rv, b3, b2, t, rfl, n3, o3, n2, o2, tn, ot, H⟩
  refine ⟨0, ?_⟩
  show ses_Idle1 (tabC _) idG 0 (encL x) (.pointer (some ⟨b3, 0, none⟩)) (.pointer (some ⟨b2, 0, none⟩)) h _
  rw [ses_Idle1_eq]
  refine boxE_in rfl fun h1 c1 n1 o1 => ?_
  have o1 : h1.objs h.next = some (.cells [.int .u32 (x.player : Int), .int .i64 x.last] true) := o1
  have p3 := c1.at0 n3 o3
  have p2 := c1.at0 n2 o2
  have pt := c1.at0 tn ot
  simp only [bindV_some, loadV_ptr, p3, loadM_cells, partV_one, List.getElem?_cons_zero]
  refine ⟨trivial, ?_⟩
  simp only [offV_ptr, bindV_some, loadV_ptr, o1, loadM_cells, partV_one, List.getElem?_cons_succ, List.getElem?_cons_zero, Nat.zero_add]
  refine ⟨trivial, ?_⟩
  simp only [bindV_some, loadV_ptr, p2, loadM_cells, partV_one, List.getElem?_cons_zero]
  refine ⟨trivial, ?_⟩
  simp only [nilV, offV_ptr, bindV_some, loadV_ptr, pt, loadM_cells, partV_one, List.getElem?_cons_succ, List.getElem?_cons_zero, Nat.zero_add]
  refine ⟨trivial, ?_⟩
  refine .inl ⟨rfl, x.last, idle, rfl, ⟨trivial, trivial, trivial, by simp only [loadV_ptr, p3, loadM_cells, partV_one, List.getElem?_cons_zero], trivial⟩, ?_⟩
  simp only [binV_geq, bindV_some]
  exact ⟨h1, St.le.refl _, H h1 c1⟩
/-! ### which -/
def tabCl : List (FuncId × Abs.Spec) := [(28, idle1O), (35, conn1O), (36, players1O)]
def tabWh : List (FuncId × Abs.Spec) := (18, connsO) :: (30, linkO) :: tabCl
theorem tabWh_good : ∀ p ∈ tabWh, SpecGood Try.prog p := by simp [tabWh, tabCl, connsO_good, linkO_good, idle1O_good, conn1O_good, players1O_good]
def idv (x : Lk) : Value := .int .u32 (x.conn : Int)
/-- What is asked of a connection is answered so. -/
def Asks (h0 : St) (M : List Lk) (g : FuncId) (caps : Array Value) (p : Lk → Bool) : Prop :=
  ∀ x ∈ M, ∀ h' (k : Cont), Chg h0 h' [] → (∀ h'', Chg h' h'' [] → k (.bool (p x)) h'') → tabC tabCl g (encL x :: caps.toList) h' k
def whichO : Abs.Spec := fun args h k => ∃ (D : Nat → Prop) (v : Value) (most : Nat) (idle : Int) (M : List Lk) (g : FuncId) (caps : Array Value) (p : Lk → Bool), args = [v, .func (.func g) #[] caps] ∧ TbS D h v most idle M ∧ Asks h M g caps p ∧
  ∀ h' sv, Chg h h' [] → OwnS (fun i => h.next ≤ i) h' sv 1 ((M.filter p).map idv) (M.filter p).length → k sv h'
theorem rise_of {M : List Lk} (r : RkL (M.map rk)) : M.Pairwise fun x y => x.conn < y.conn := by
  have := r.rise
  rw [List.pairwise_map] at this
  exact this
theorem getL_at {M : List Lk} (r : M.Pairwise fun x y => x.conn < y.conn) {x : Lk} (hx : x ∈ M) : getL M x.conn = some x := by
  induction M with
  | nil => cases hx
  | cons y M ih =>
    obtain ⟨r1, r2⟩ := List.pairwise_cons.1 r
    rw [getL]
    rcases List.mem_cons.1 hx with rfl | hx
    · rw [if_pos rfl]
    · have := r1 x hx
      rw [if_neg (by omega)]
      exact ih r2 hx
theorem own_row1 {D : Nat → Prop} {h0 h : St} {v : Value} {L : List Lk} {f : Lk → Value} (s : OwnS D h0 v 1 (L.map f) L.length) (c : Chg h0 h []) {i : Nat} (hi : i < L.length) (k : IntKind) :
    ∃ b o, idxS 1 v (.int k i) = some (.pointer (some ⟨b, o, none⟩)) ∧ ∃ cs, h.objs b = some (.cells cs true) ∧ cs[o]? = some (f L[i]) := by
  have s' : OwnS D h0 v 1 (L.flatMap fun x => [f x]) L.length := by
    have : (L.flatMap fun x => [f x]) = L.map f := by
      clear s hi
      induction L with
      | nil => rfl
      | cons x L ih => rw [List.flatMap_cons, ih, List.map_cons]; rfl
    rw [this]; exact s
  obtain ⟨b, o, g1, g2, g3, cs, g4, g5⟩ := s'.row (by simp) (List.getElem?_eq_getElem hi) k
  exact ⟨b, o, g1, cs, c.at0 g3 g4, by have := row_cell g5 0 (by omega); simpa using this⟩
theorem which_l0 {nn : Nat} {v x4 sv : Value} {D E : Nat → Prop} {most : Nat} {idle : Int} {M : List Lk} {g : FuncId} {caps : Array Value} {p : Lk → Bool} {h0 : St} {k : Cont} (s : TbS D h0 v most idle M) (cs : OwnS E h0 sv 1 (M.map idv) M.length) (A : Asks h0 M g caps p)
    (H : ∀ h' out, Chg h0 h' [] → OwnS (fun i => h0.next ≤ i) h' out 1 ((M.filter p).map idv) (M.filter p).length → k out h') :
    ∀ (d i m0 : Nat) (h : St) (out : Value), i + d = M.length → d < m0 → Chg h0 h [] → OwnS (fun i => h0.next ≤ i) h out 1 (((M.take i).filter p).map idv) ((M.take i).filter p).length →
      ses_which_l0 (tabC tabWh) idG nn m0 v (.func (.func g) #[] caps) x4 out sv (.int .i64 (M.length : Int)) (.int .i64 (i : Int)) h (fun v h1 => ∃ h2, St.le h2 h1 ∧ k v h2) := by
  intro d
  induction d with
  | zero =>
    intro i m0 h out hi hm c o
    obtain ⟨m0, rfl⟩ : ∃ m, m0 = m + 1 := ⟨m0 - 1, by omega⟩
    rw [ses_which_l0_eq]
    have e' : i = M.length := by omega
    subst e'
    rw [List.take_length] at o
    simp only [bindV_some, binV_lss, condK_bool, Int.lt_irrefl, decide_false, Bool.false_eq_true, if_false, idG_eq]
    rw [ses_which_j2_eq]
    exact ⟨h, St.le.refl _, H h out c o⟩
  | succ d ih =>
    intro i m0 h out hi hm c o
    obtain ⟨m0, rfl⟩ : ∃ m, m0 = m + 1 := ⟨m0 - 1, by omega⟩
    rw [ses_which_l0_eq]
    have hlt : (i : Int) < M.length := by omega
    obtain ⟨rr, few, mm⟩ := s.rows
    have inc : IntKind.i64.wrap ((i : Int) + 1) = ((i + 1 : Nat) : Int) := by rw [i64_in _ (by omega)]; omega
    obtain ⟨b, oo, g1, cc, g4, g5⟩ := own_row1 cs c (show i < M.length by omega) .i64
    have hx : M[i] ∈ M := List.getElem_mem _
    obtain ⟨x, ex⟩ : ∃ x, x = M[i] := ⟨_, rfl⟩
    rw [← ex] at g5 hx
    simp only [bindV_some, binV_lss, condK_bool, hlt, decide_true, if_true, idG_eq, g1, loadV_ptr, g4, loadM_cells, partV_one, g5, idv]
    refine .inr (.inl ⟨rfl, D, v, most, idle, M, x.conn, rfl, s.chg0 c, fun h1 c1 => ?_⟩)
    rw [getL_at (rise_of rr) hx]
    simp only [ansL, Option.getD_some, Option.isSome_some, extV_two0, extV_two1, bindV_some, encL]
    refine allocE_in fun h2 c2 n2 o2 => ?_
    refine storeE_all o2 rfl rfl rfl fun h3 c3 n3 o3 => ?_
    have m1 := c1.1
    have c13 : Chg h h3 [] := (c1.seq c2).new c3 (by omega)
    have c03 := c.seq c13
    have tk : takeN (Value.agg #[.int .u32 (x.player : Int), .int .i64 x.last]).cells.toList 0 2 = some [.int .u32 (x.player : Int), .int .i64 x.last] := rfl
    simp only [loadV_ptr, o3, loadM_cells, partV_agg, tk, Option.map_some, bindV_some]
    have tak : M.take (i + 1) = M.take i ++ [x] := by rw [ex]; exact List.take_succ_eq_append_getElem (by omega)
    unfold callE
    refine .inr (.inr ?_)
    refine A x hx h3 _ c03 fun h4 c4 => ?_
    have c04 := c03.seq c4
    have o4 : OwnS (fun i => h0.next ≤ i) h4 out 1 (((M.take i).filter p).map idv) ((M.take i).filter p).length := o.chg (c13.seq c4) (by simp)
    have lle : ((M.take i).filter p).length ≤ i := Nat.le_trans (List.length_filter_le ..) (by rw [List.length_take]; omega)
    simp only [condK_bool]
    cases hp : p x with
    | true =>
      rw [if_pos rfl]
      have m04 := c04.1
      have ext : ((M.take (i + 1)).filter p).map idv = ((M.take i).filter p).map idv ++ [.int .u32 (x.conn : Int)] := by
        rw [tak, List.filter_append, List.map_append, List.filter_cons_of_pos hp]; rfl
      have extl : ((M.take (i + 1)).filter p).length = ((M.take i).filter p).length + 1 := by
        rw [tak, List.filter_append, List.filter_cons_of_pos hp]; simp
      refine append_row (B := fun i => h0.next ≤ i) (fun j hj => by omega) o4 rfl rfl rfl rfl (by omega) (by omega) fun h5 out5 c5 s5 => ?_
      have c05 : Chg h0 h5 [] := ((c04.nil (fun i => h0.next ≤ i)).step c5).list fun j h1 h2 => by omega
      simp only [idG_eq]
      rw [ses_which_j1_eq]
      simp only [binNil_int, binV_add, bindV_some, inc, idG_eq]
      refine ih (i + 1) m0 h5 out5 (by omega) (by omega) c05 ?_
      rw [ext, extl]
      exact s5
    | false =>
      have same : (M.take (i + 1)).filter p = (M.take i).filter p := by
        rw [tak, List.filter_append, List.filter_cons_of_neg (by rw [hp]; simp)]; simp
      simp only [Bool.false_eq_true, if_false, idG_eq]
      rw [ses_which_j1_eq]
      simp only [binNil_int, binV_add, bindV_some, inc, idG_eq]
      refine ih (i + 1) m0 h4 out (by omega) (by omega) c04 ?_
      rw [same]
      exact o4
theorem whichO_good : SpecGood Try.prog (27, whichO) := by
  refine spec_good mixed Try.func27 (by kernel_rfl) (by kernel_rfl) (tab := tabWh) tabWh_good (keep := ses_which_keep) ?_
  rintro args h k ⟨D, v, most, idle, M, g, caps, p, rfl, s, A, H⟩
  refine ⟨M.length + 1, ?_⟩
  show ses_which (tabC _) idG _ v (.func (.func g) #[] caps) h _
  rw [ses_which_eq]
  refine .inl ⟨rfl, D, v, most, idle, M, rfl, s, fun h1 sv c1 s1 => ?_⟩
  simp only [s1.len, bindV_some, idG_eq]
  refine which_l0 (s.chg0 c1) s1 (fun x hx h' k c => A x hx h' k (c1.seq c)) (fun h' out c o => H h' out (c1.seq c) (o.imp fun i _ hi => Nat.le_trans c1.1 hi)) M.length 0 _ h1 _ (by omega) (by omega) (Chg.refl _ _) ?_
  exact .inl ⟨rfl, rfl, rfl⟩
def whichN : Abs.Spec := fun args h k => ∃ x : Value, args = [.pointer none, x] ∧ k (.slice none 0 0) h
theorem whichN_good : SpecGood Try.prog (27, whichN) := by
  refine spec_good mixed Try.func27 (by kernel_rfl) (by kernel_rfl) (tab := [(18, connsN)]) (by simp [connsN_good]) (keep := ses_which_keep) ?_
  rintro args h k ⟨x, rfl, H⟩
  refine ⟨1, ?_⟩
  show ses_which (tabC _) idG _ (.pointer none) x h _
  rw [ses_which_eq]
  refine .inl ⟨rfl, rfl, ?_⟩
  simp only [lenS_slice, bindV_some, idG_eq]
  rw [ses_which_l0_eq]
  simp only [binV_lss, bindV_some, condK_bool, Int.natCast_zero, Int.cast_ofNat_Int, Int.lt_irrefl, decide_false, Bool.false_eq_true, if_false, idG_eq]
  rw [ses_which_j2_eq]
  exact ⟨h, St.le.refl _, H⟩
end Go.Proofs.Ytnelcpabjpchnaa

/- Sessions: Conn, Idle, Players, Login. -/
set_option linter.unusedSimpArgs false
set_option linter.unusedVariables false
set_option maxHeartbeats 4000000
namespace Go.Proofs.Ytnelcpabjpchnaa
open Go.Abs Go.IntWalk
attribute [local congr] bindV_weak condK_weak guardK_weak groupK_weak allocE_weak boxE_weak storeE_weak storeM_weak tabC_weak ite_weak idG_weak appendE_weak buildSliceE_weak mapUpdateE_weak deleteE_weak makeMapE_weak copyE_weak clearE_weak callE_weak

/-! ### Conn -/
def firstC : List Lk → Nat
  | [] => 0
  | x :: _ => x.conn
def connOf (M : List Lk) (p : Nat) : Nat := firstC (M.filter (isAt p))
def sconnO : Abs.Spec := fun args h k => ∃ (D : Nat → Prop) (v : Value) (most : Nat) (idle : Int) (M : List Lk) (p : Nat), args = [v, .int .u32 (p : Int)] ∧ TbS D h v most idle M ∧ ∀ h', Chg h h' [] → k (.int .u32 (connOf M p)) h'
def sconnN : Abs.Spec := fun args h k => ∃ p : Int, args = [.pointer none, .int .u32 p] ∧ ∀ h', Chg h h' [] → k (.int .u32 0) h'
theorem sconnO_good : SpecGood Try.prog (13, sconnO) := by
  refine spec_good mixed Try.func13 (by kernel_rfl) (by kernel_rfl) (tab := [(27, whichO)]) (by simp [whichO_good]) (keep := ses_Conn_keep) ?_
  rintro args h k ⟨D, v, most, idle, M, p, rfl, s, H⟩
  refine ⟨1, ?_⟩
  show ses_Conn (tabC _) idG 1 v (.int .u32 (p : Int)) h _
  rw [ses_Conn_eq]
  refine boxE_in rfl fun h1 c1 n1 o1 => ?_
  have o1 : h1.objs h.next = some (.cells [.int .u32 (p : Int)] true) := o1
  refine .inl ⟨rfl, D, v, most, idle, M, 35, #[.pointer (some ⟨h.next, 0, none⟩)], isAt p, rfl, s.chg0 c1, ?_, fun h2 sv c2 s2 => ?_⟩
  · intro x hx h' k' c hk
    exact .inr (.inl ⟨rfl, x, p, h.next, rfl, Nat.lt_of_lt_of_le (by omega) c.1, c.at0 (by omega) o1, hk⟩)
  · simp only [s2.len, bindV_some, idG_eq]
    rw [ses_Conn_l0_eq]
    simp only [binV_lss, bindV_some, condK_bool, decide_eq_true_eq]
    have cc := c1.seq c2
    unfold connOf at H
    cases hf : M.filter (isAt p) with
    | nil =>
      rw [hf] at H
      simp only [List.length_nil, Int.natCast_zero, Int.cast_ofNat_Int, Int.lt_irrefl, if_false, idG_eq]
      rw [ses_Conn_j1_eq]
      exact ⟨h2, St.le.refl _, H h2 cc⟩
    | cons x R =>
      rw [hf] at s2 H
      have lt : (0 : Int) < ((x :: R).length : Nat) := by simp
      rw [if_pos lt]
      obtain ⟨b, oo, g1, cs, g4, g5⟩ := own_row1 s2 (Chg.refl _ _) (show 0 < (x :: R).length by simp) .i64
      have g1 : idxS 1 sv (.int .i64 0) = some (.pointer (some ⟨b, oo, none⟩)) := g1
      simp only [idG_eq, g1, bindV_some, loadV_ptr, g4, loadM_cells, partV_one, g5]
      exact ⟨h2, St.le.refl _, H h2 cc⟩
theorem sconnN_good : SpecGood Try.prog (13, sconnN) := by
  refine spec_good mixed Try.func13 (by kernel_rfl) (by kernel_rfl) (tab := [(27, whichN)]) (by simp [whichN_good]) (keep := ses_Conn_keep) ?_
  rintro args h k ⟨p, rfl, H⟩
  refine ⟨1, ?_⟩
  show ses_Conn (tabC _) idG 1 (.pointer none) (.int .u32 p) h _
  rw [ses_Conn_eq]
  refine boxE_in rfl fun h1 c1 n1 o1 => ?_
  refine .inl ⟨rfl, _, rfl, ?_⟩
  simp only [lenS_slice, bindV_some, idG_eq]
  rw [ses_Conn_l0_eq]
  simp only [binV_lss, bindV_some, condK_bool, Int.natCast_zero, Int.cast_ofNat_Int, Int.lt_irrefl, decide_false, Bool.false_eq_true, if_false, idG_eq]
  rw [ses_Conn_j1_eq]
  exact ⟨h1, St.le.refl _, H h1 c1⟩
/-! ### Idle -/
def sidleO : Abs.Spec := fun args h k => ∃ (D : Nat → Prop) (v : Value) (most : Nat) (idle : Int) (M : List Lk) (now : Int), args = [v, .int .i64 now] ∧ TbS D h v most idle M ∧
  ∀ h' sv, Chg h h' [] → OwnS (fun i => h.next ≤ i) h' sv 1 ((M.filter (isIdle idle now)).map idv) (M.filter (isIdle idle now)).length → k sv h'
def sidleN : Abs.Spec := fun args h k => ∃ now : Int, args = [.pointer none, .int .i64 now] ∧ ∀ h', Chg h h' [] → k (.slice none 0 0) h'
theorem sidleO_good : SpecGood Try.prog (9, sidleO) := by
  refine spec_good mixed Try.func9 (by kernel_rfl) (by kernel_rfl) (tab := [(27, whichO)]) (by simp [whichO_good]) (keep := ses_Idle_keep) ?_
  rintro args h k ⟨D, v, most, idle, M, now, rfl, s, H⟩
  have s' := s
  obtain ⟨t, rv, rfl, dt, tn, ot, r⟩ := s'
  refine ⟨1, ?_⟩
  show ses_Idle (tabC _) idG 1 (.pointer (some ⟨t, 0, none⟩)) (.int .i64 now) h _
  rw [ses_Idle_eq]
  refine boxE_in rfl fun h1 c1 n1 o1 => ?_
  have o1 : h1.objs h.next = some (.cells [.pointer (some ⟨t, 0, none⟩)] true) := o1
  refine boxE_in rfl fun h2 c2 n2 o2 => ?_
  have o2 : h2.objs h1.next = some (.cells [.int .i64 now] true) := o2
  have o12 := c2.at0 (by omega) o1
  have cc := c1.seq c2
  have ot2 := cc.at0 tn ot
  simp only [loadV_ptr, o12, loadM_cells, partV_one, List.getElem?_cons_zero, bindV_some]
  refine .inl ⟨rfl, D, _, most, idle, M, 28, #[.pointer (some ⟨h1.next, 0, none⟩), .pointer (some ⟨h.next, 0, none⟩)], isIdle idle now, rfl, s.chg0 cc, ?_, fun h3 sv c3 s3 => ?_⟩
  · intro x hx h' k' c hk
    have m := c.1
    exact .inl ⟨rfl, x, now, idle, rv, h1.next, h.next, t, rfl, by omega, c.at0 (by omega) o2, by omega, c.at0 (by omega) o12, by omega, c.at0 (by omega) ot2, hk⟩
  · exact ⟨h3, St.le.refl _, H h3 sv (cc.seq c3) (s3.imp fun i _ hi => Nat.le_trans cc.1 hi)⟩
theorem sidleN_good : SpecGood Try.prog (9, sidleN) := by
  refine spec_good mixed Try.func9 (by kernel_rfl) (by kernel_rfl) (tab := [(27, whichN)]) (by simp [whichN_good]) (keep := ses_Idle_keep) ?_
  rintro args h k ⟨now, rfl, H⟩
  refine ⟨1, ?_⟩
  show ses_Idle (tabC _) idG 1 (.pointer none) (.int .i64 now) h _
  rw [ses_Idle_eq]
  refine boxE_in rfl fun h1 c1 n1 o1 => ?_
  have o1 : h1.objs h.next = some (.cells [.pointer none] true) := o1
  refine boxE_in rfl fun h2 c2 n2 o2 => ?_
  have o12 := c2.at0 (by omega) o1
  simp only [loadV_ptr, o12, loadM_cells, partV_one, List.getElem?_cons_zero, bindV_some]
  exact .inl ⟨rfl, _, rfl, h2, St.le.refl _, H h2 (c1.seq c2)⟩
/-! ### Players -/
def loggedOf (M : List Lk) : List Int := (M.filter fun x => decide (x.player ≠ 0)).map fun x => (x.player : Int)
def splayersO : Abs.Spec := fun args h k => ∃ (D : Nat → Prop) (v : Value) (most : Nat) (idle : Int) (M : List Lk), args = [v] ∧ M.length ≤ 255 ∧ TbS D h v most idle M ∧
  ∀ h' sv (L : List Int), Chg h h' [] → OwnS (fun i => h.next ≤ i) h' sv 1 (L.map (.int .u32)) L.length → L.Perm (loggedOf M) → L.Pairwise (· ≤ ·) → k sv h'
def splayersN : Abs.Spec := fun args h k => args = [.pointer none] ∧ ∀ h', Chg h h' [] → k (.slice none 0 0) h'
def tabPl : List (FuncId × Abs.Spec) := [(27, whichO), (14, playerO), (37, sortO)]
theorem tabPl_good : ∀ p ∈ tabPl, SpecGood Try.prog p := by simp [tabPl, whichO_good, playerO_good, sortO_good]
theorem players_l0 {nn : Nat} {v x2 sv : Value} {D E : Nat → Prop} {most : Nat} {idle : Int} {M R : List Lk} {h0 : St} {k : Cont} (s : TbS D h0 v most idle M) (hR : ∀ x ∈ R, x ∈ M) (few : R.length ≤ 255) (cs : OwnS E h0 sv 1 (R.map idv) R.length)
    (H : ∀ h' out (L : List Int), Chg h0 h' [] → OwnS (fun i => h0.next ≤ i) h' out 1 (L.map (.int .u32)) L.length → L.Perm (R.map fun x => (x.player : Int)) → L.Pairwise (· ≤ ·) → k out h') :
    ∀ (d i m0 : Nat) (h : St) (out : Value), i + d = R.length → d < m0 → Chg h0 h [] → OwnS (fun i => h0.next ≤ i) h out 1 ((R.take i).map fun x => .int .u32 (x.player : Int)) i →
      ses_Players_l0 (tabC tabPl) idG nn m0 v x2 out sv (.int .i64 (R.length : Int)) (.int .i64 (i : Int)) h (fun v h1 => ∃ h2, St.le h2 h1 ∧ k v h2) := by
  intro d
  induction d with
  | zero =>
    intro i m0 h out hi hm c o
    obtain ⟨m0, rfl⟩ : ∃ m, m0 = m + 1 := ⟨m0 - 1, by omega⟩
    rw [ses_Players_l0_eq]
    have e' : i = R.length := by omega
    subst e'
    rw [List.take_length] at o
    simp only [bindV_some, binV_lss, condK_bool, Int.lt_irrefl, decide_false, Bool.false_eq_true, if_false, idG_eq]
    rw [ses_Players_j1_eq]
    have ee : (R.map fun x => Value.int .u32 (x.player : Int)) = (R.map fun x => (x.player : Int)).map (.int .u32) := by rw [List.map_map]; rfl
    have ll : (R.map fun x => (x.player : Int)).length = R.length := List.length_map ..
    refine .inr (.inr (.inl ⟨rfl, fun i => h0.next ≤ i, out, R.map fun x => (x.player : Int), rfl, by rw [ll]; exact few, ?_, fun h1 L c1 s1 pm srt => ?_⟩))
    · rw [← ee, ll]; exact o
    · have c01 : Chg h0 h1 [] := ((c.nil (fun i => h0.next ≤ i)).step c1).list fun j h1 h2 => by omega
      exact ⟨h1, St.le.refl _, H h1 out L c01 s1 pm srt⟩
  | succ d ih =>
    intro i m0 h out hi hm c o
    obtain ⟨m0, rfl⟩ : ∃ m, m0 = m + 1 := ⟨m0 - 1, by omega⟩
    rw [ses_Players_l0_eq]
    have hlt : (i : Int) < R.length := by omega
    have inc : IntKind.i64.wrap ((i : Int) + 1) = ((i + 1 : Nat) : Int) := by rw [i64_in _ (by omega)]; omega
    obtain ⟨b, oo, g1, cc, g4, g5⟩ := own_row1 cs c (show i < R.length by omega) .i64
    have hx : R[i] ∈ M := hR _ (List.getElem_mem _)
    obtain ⟨x, ex⟩ : ∃ x, x = R[i] := ⟨_, rfl⟩
    rw [← ex] at g5 hx
    have pl : playerOf M x.conn = x.player := by unfold playerOf; rw [getL_at (rise_of s.rows.1) hx]; rfl
    simp only [bindV_some, binV_lss, condK_bool, hlt, decide_true, if_true, idG_eq, g1, loadV_ptr, g4, loadM_cells, partV_one, g5, idv]
    refine .inr (.inl ⟨rfl, D, v, most, idle, M, x.conn, rfl, s.chg0 c, fun h1 c1 => ?_⟩)
    rw [pl]
    have c01 := c.seq c1
    have m01 := c01.1
    have tak : (R.take (i + 1)).map (fun x => Value.int .u32 (x.player : Int)) = (R.take i).map (fun x => Value.int .u32 (x.player : Int)) ++ [.int .u32 (x.player : Int)] := by
      rw [List.take_succ_eq_append_getElem (by omega), List.map_append, ex]; rfl
    refine append_row (B := fun i => h0.next ≤ i) (fun j hj => by omega) (o.chg c1 (by simp)) rfl rfl rfl rfl (by omega) (by omega) fun h5 out5 c5 s5 => ?_
    have c05 : Chg h0 h5 [] := ((c01.nil (fun i => h0.next ≤ i)).step c5).list fun j h1 h2 => by omega
    simp only [idG_eq, binNil_int, binV_add, bindV_some, inc]
    refine ih (i + 1) m0 h5 out5 (by omega) (by omega) c05 ?_
    rw [tak]
    exact s5
theorem splayersO_good : SpecGood Try.prog (17, splayersO) := by
  refine spec_good mixed Try.func17 (by kernel_rfl) (by kernel_rfl) (tab := tabPl) tabPl_good (keep := ses_Players_keep) ?_
  rintro args h k ⟨D, v, most, idle, M, rfl, few, s, H⟩
  refine ⟨M.length + 1, ?_⟩
  show ses_Players (tabC _) idG _ v h _
  rw [ses_Players_eq]
  refine .inl ⟨rfl, D, v, most, idle, M, 36, #[], fun x => decide (x.player ≠ 0), rfl, s, ?_, fun h1 sv c1 s1 => ?_⟩
  · intro x hx h' k' c hk
    exact .inr (.inr (.inl ⟨rfl, x, rfl, hk⟩))
  · simp only [s1.len, bindV_some, idG_eq]
    have lle : (M.filter fun x => decide (x.player ≠ 0)).length ≤ M.length := List.length_filter_le ..
    exact players_l0 (s.chg0 c1) (fun x hx => (List.mem_filter.1 hx).1) (by omega) s1 (fun h' out L c o pm srt => H h' out L (c1.seq c) (o.imp fun i _ hi => Nat.le_trans c1.1 hi) pm srt) _ 0 _ h1 _ (Nat.zero_add _) (by omega) (Chg.refl _ _) (.inl ⟨rfl, rfl, rfl⟩)
theorem splayersN_good : SpecGood Try.prog (17, splayersN) := by
  refine spec_good mixed Try.func17 (by kernel_rfl) (by kernel_rfl) (tab := [(27, whichN), (37, sortO)]) (by simp [whichN_good, sortO_good]) (keep := ses_Players_keep) ?_
  rintro args h k ⟨rfl, H⟩
  refine ⟨1, ?_⟩
  show ses_Players (tabC _) idG _ (.pointer none) h _
  rw [ses_Players_eq]
  refine .inl ⟨rfl, _, rfl, ?_⟩
  simp only [lenS_slice, bindV_some, idG_eq]
  rw [ses_Players_l0_eq]
  simp only [binV_lss, bindV_some, condK_bool, Int.natCast_zero, Int.cast_ofNat_Int, Int.lt_irrefl, decide_false, Bool.false_eq_true, if_false, idG_eq]
  rw [ses_Players_j1_eq]
  refine .inr (.inl ⟨rfl, fun i => h.next ≤ i, _, [], rfl, by simp, .inl ⟨rfl, rfl, rfl⟩, fun h1 L c1 s1 pm srt => ?_⟩)
  exact ⟨h1, St.le.refl _, H h1 (c1.list fun j h1 h2 => by omega)⟩
/-! ### Login -/
def loginAns (M : List Lk) (most c p : Nat) : Nat × Nat := match getL M c with
  | none => (0, 12)
  | some x => if rightId p = true then (if x.player = 0 then (connOf M p, putAns (if connOf M p = 0 then M else dropL M (connOf M p)) most c) else (0, 25)) else (0, 14)
def loginNext (M : List Lk) (most c p : Nat) (now : Int) : List Lk := match getL M c with
  | none => M
  | some x => if rightId p = true then (if x.player = 0 then putNext (if connOf M p = 0 then M else dropL M (connOf M p)) most c p now else M) else M
def loginO : Abs.Spec := fun args h k => ∃ (D : Nat → Prop) (v : Value) (most : Nat) (idle : Int) (M : List Lk) (c p : Nat) (now : Int), args = [v, .int .u32 (c : Int), .int .u32 (p : Int), .int .i64 now] ∧ (∀ i, h.next ≤ i → D i) ∧ TbS D h v most idle M ∧
  ∀ h', ChgP D h h' → TbS D h' v most idle (loginNext M most c p now) → k (two (loginAns M most c p)) h'
def loginN : Abs.Spec := fun args h k => ∃ x y z : Value, args = [.pointer none, x, y, z] ∧ ∀ h', Chg h h' [] → k (two (0, 12)) h'
def tabLg : List (FuncId × Abs.Spec) := [(30, linkO), (33, rightO), (13, sconnO), (34, dropO), (31, putO)]
theorem tabLg_good : ∀ p ∈ tabLg, SpecGood Try.prog p := by simp [tabLg, linkO_good, rightO_good, sconnO_good, dropO_good, putO_good]
theorem login_j0 {nn : Nat} {x8 x9 : Value} {D : Nat → Prop} {t : Nat} {rv : Value} {most : Nat} {idle now : Int} {M1 : List Lk} {c p old : Nat} {h : St} {k : Cont} (hD : ∀ i, h.next ≤ i → D i) (dt : D t) (tn : t < h.next) (ot : h.objs t = some (.cells [rv, .int .i64 idle] true))
    (r : RkS (fun i => D i ∧ i ≠ t) h rv most (M1.map rk)) (H : ∀ h', ChgP D h h' → TbS D h' (.pointer (some ⟨t, 0, none⟩)) most idle (putNext M1 most c p now) → k (two (old, putAns M1 most c)) h') :
    ses_Login_j0 (tabC tabLg) idG nn (.pointer (some ⟨t, 0, none⟩)) (.int .u32 (c : Int)) (.int .u32 (p : Int)) (.int .i64 now) x8 x9 (.int .u32 (old : Int)) h (fun v h1 => ∃ h2, St.le h2 h1 ∧ k v h2) := by
  rw [ses_Login_j0_eq]
  have b1 : buildV [.int .u32 0, .int .i64 0] (some [(0, 1, .int .u32 (p : Int)), (1, 1, .int .i64 now)]) = some (.agg (lkC p now).toArray) := rfl
  simp only [nilV, offV_ptr, bindV_some, loadV_ptr, ot, loadM_cells, partV_one, List.getElem?_cons_zero, Nat.zero_add, b1]
  refine .inr (.inr (.inr (.inr (.inl ⟨rfl, _, rv, most, _, c, lkC p now, rfl, fun i hi => ⟨hD i hi, by omega⟩, r, rfl, rfl, fun h1 c1 r1 => ?_⟩))))
  exact ⟨h1, St.le.refl _, H h1 (c1.mono fun i _ hi => hi.1) (.step dt tn ot c1 r1 (put_next M1 most c p now))⟩
theorem loginO_good : SpecGood Try.prog (12, loginO) := by
  refine spec_good mixed Try.func12 (by kernel_rfl) (by kernel_rfl) (tab := tabLg) tabLg_good (keep := ses_Login_keep) ?_
  rintro args h k ⟨D, v, most, idle, M, c, p, now, rfl, hD, s, H⟩
  have s' := s
  obtain ⟨t, rv, rfl, dt, tn, ot, r⟩ := s'
  refine ⟨0, ?_⟩
  show ses_Login (tabC _) idG 0 (.pointer (some ⟨t, 0, none⟩)) (.int .u32 (c : Int)) (.int .u32 (p : Int)) (.int .i64 now) h _
  rw [ses_Login_eq]
  refine .inl ⟨rfl, D, _, most, idle, M, c, rfl, s, fun h1 c1 => ?_⟩
  obtain ⟨x, hx⟩ : ∃ x, x = (getL M c).getD ⟨0, 0, 0⟩ := ⟨_, rfl⟩
  unfold ansL
  rw [← hx]
  simp only [extV_two0, extV_two1, bindV_some, encL]
  refine allocE_in fun h2 c2 n2 o2 => ?_
  refine storeE_all o2 rfl rfl rfl fun h3 c3 n3 o3 => ?_
  have m1 := c1.1
  have cc : Chg h h3 [] := (c1.seq c2).new c3 (by omega)
  have o3 : h3.objs h1.next = some (.cells [.int .u32 (x.player : Int), .int .i64 x.last] true) := o3
  simp only [unV_not, bindV_some, condK_bool]
  cases hg : getL M c with
  | none =>
    simp only [Option.isSome_none, Bool.not_false, if_true]
    have := H h3 (cc.nil D)
    simp only [loginNext, loginAns, hg] at this
    exact ⟨h3, St.le.refl _, this (s.chg0 cc)⟩
  | some y =>
    rw [hg] at hx
    simp only [Option.getD_some] at hx
    subst hx
    have ot3 := cc.at0 tn ot
    simp only [Option.isSome_some, Bool.not_true, Bool.false_eq_true, if_false]
    refine .inr (.inl ⟨rfl, p, rfl, ?_⟩)
    simp only [unV_not, bindV_some, condK_bool]
    cases hr : rightId p with
    | false =>
      simp only [Bool.not_false, if_true]
      have := H h3 (cc.nil D)
      simp only [loginNext, loginAns, hg, hr, Bool.false_eq_true, if_false] at this
      exact ⟨h3, St.le.refl _, this (s.chg0 cc)⟩
    | true =>
      simp only [Bool.not_true, Bool.false_eq_true, if_false, offV_ptr, bindV_some, loadV_ptr, o3, loadM_cells, partV_one, List.getElem?_cons_zero, Nat.zero_add, binNil_int, binV_neq, condK_bool, decide_eq_true_eq]
      by_cases hp : x.player = 0
      · have hp' : ¬ (x.player : Int) ≠ 0 := by omega
        rw [if_neg hp']
        simp only [idG_eq]
        refine .inr (.inr (.inl ⟨rfl, D, _, most, idle, M, p, rfl, s.chg0 cc, fun h4 c4 => ?_⟩))
        have c04 := cc.seq c4
        have ot4 := c04.at0 tn ot
        have m4 := c04.1
        simp only [binNil_int, binV_neq, bindV_some, condK_bool, decide_eq_true_eq]
        by_cases ho : connOf M p = 0
        · have ho' : ¬ (connOf M p : Int) ≠ 0 := by omega
          rw [if_neg ho']
          simp only [idG_eq]
          refine login_j0 (M1 := M) (fun i hi => hD i (by omega)) dt (by omega) ot4 (r.chg0 c04) fun h5 c5 s5 => ?_
          have := H h5 ((c04.nil D).step c5)
          simp only [loginNext, loginAns, hg, hr, if_true, if_pos hp, if_pos ho] at this
          rw [ho] at this ⊢
          exact this s5
        · have ho' : (connOf M p : Int) ≠ 0 := by omega
          rw [if_pos ho']
          simp only [nilV, offV_ptr, bindV_some, loadV_ptr, ot4, loadM_cells, partV_one, List.getElem?_cons_zero, Nat.zero_add]
          refine .inr (.inr (.inr (.inl ⟨rfl, _, rv, most, _, connOf M p, rfl, fun i hi => ⟨hD i (by omega), by omega⟩, r.chg0 c04, fun h5 c5 r5 => ?_⟩)))
          rw [rk_drop] at r5
          have ot5 := c5.at (by omega) (fun hh => hh.2 rfl) ot4
          have m5 := c5.1
          simp only [idG_eq]
          refine login_j0 (M1 := dropL M (connOf M p)) (fun i hi => hD i (by omega)) dt (by omega) ot5 r5 fun h6 c6 s6 => ?_
          have := H h6 (((c04.nil D).step (c5.mono fun i _ hi => hi.1)).step c6)
          simp only [loginNext, loginAns, hg, hr, if_true, if_pos hp, if_neg ho] at this
          exact this s6
      · have hp' : (x.player : Int) ≠ 0 := by omega
        rw [if_pos hp']
        have := H h3 (cc.nil D)
        simp only [loginNext, loginAns, hg, hr, if_true, if_neg hp] at this
        exact ⟨h3, St.le.refl _, this (s.chg0 cc)⟩
theorem loginN_good : SpecGood Try.prog (12, loginN) := by
  refine spec_good mixed Try.func12 (by kernel_rfl) (by kernel_rfl) (tab := [(30, linkN)]) (by simp [linkN_good]) (keep := ses_Login_keep) ?_
  rintro args h k ⟨x, y, z, rfl, H⟩
  refine ⟨0, ?_⟩
  show ses_Login (tabC _) idG 0 (.pointer none) x y z h _
  rw [ses_Login_eq]
  refine .inl ⟨rfl, x, rfl, fun h1 c1 => ?_⟩
  have m1 := c1.1
  simp only [ansL, Option.getD_none, Option.isSome_none, extV_two0, extV_two1, bindV_some, encL]
  refine allocE_in fun h2 c2 n2 o2 => ?_
  refine storeE_all o2 rfl rfl rfl fun h3 c3 n3 o3 => ?_
  simp only [unV_not, Bool.not_false, bindV_some, condK_bool, if_true]
  exact ⟨h3, St.le.refl _, H h3 ((c1.seq c2).new c3 (by omega))⟩
end Go.Proofs.Ytnelcpabjpchnaa

/- Sessions: Same, what the example says, 'SessionNil' and 'SessionIdle', walked. -/
set_option linter.unusedSimpArgs false
set_option linter.unusedVariables false
set_option maxHeartbeats 4000000
namespace Go.Proofs.Ytnelcpabjpchnaa
open Go.Abs Go.IntWalk
attribute [local congr] bindV_weak condK_weak guardK_weak groupK_weak allocE_weak boxE_weak storeE_weak storeM_weak tabC_weak ite_weak idG_weak appendE_weak buildSliceE_weak mapUpdateE_weak deleteE_weak makeMapE_weak copyE_weak clearE_weak callE_weak

theorem own_rowI {D : Nat → Prop} {h : St} {v : Value} {L : List Int} (s : OwnS D h v 1 (L.map (.int .u32)) L.length) {i : Nat} (hi : i < L.length) (k : IntKind) :
    ∃ b o, idxS 1 v (.int k i) = some (.pointer (some ⟨b, o, none⟩)) ∧ ∃ cs, h.objs b = some (.cells cs true) ∧ cs[o]? = some (.int .u32 L[i]) := by
  have s' : OwnS D h v 1 (L.flatMap fun x => [Value.int .u32 x]) L.length := by
    have : (L.flatMap fun x => [Value.int .u32 x]) = L.map (.int .u32) := by
      clear s hi
      induction L with
      | nil => rfl
      | cons x L ih => rw [List.flatMap_cons, ih, List.map_cons]; rfl
    rw [this]; exact s
  obtain ⟨b, o, g1, g2, g3, cs, g4, g5⟩ := s'.row (by simp) (List.getElem?_eq_getElem hi) k
  exact ⟨b, o, g1, cs, g4, by have := row_cell g5 0 (by omega); simpa using this⟩
def sameO : Abs.Spec := fun args h k => ∃ (D E : Nat → Prop) (v w : Value) (A B : List Int), args = [v, w] ∧ A.length ≤ 1000000 ∧ OwnS D h v 1 (A.map (.int .u32)) A.length ∧ OwnS E h w 1 (B.map (.int .u32)) B.length ∧ k (.bool (decide (A = B))) h
theorem same_l0 {nn : Nat} {v w x4 : Value} {D E : Nat → Prop} {A B : List Int} {h : St} {k : Cont} (few : A.length ≤ 1000000) (ll : A.length = B.length) (s : OwnS D h v 1 (A.map (.int .u32)) A.length) (t : OwnS E h w 1 (B.map (.int .u32)) B.length) (H : k (.bool (decide (A = B))) h) :
    ∀ (d i m0 : Nat), i + d = A.length → d < m0 → A.take i = B.take i →
      tiltyardref07_Same_l0 (tabC []) idG nn m0 v w x4 (.int .i64 (i : Int)) h (fun v h1 => ∃ h2, St.le h2 h1 ∧ k v h2) := by
  intro d
  induction d with
  | zero =>
    intro i m0 hi hm e
    obtain ⟨m0, rfl⟩ : ∃ m, m0 = m + 1 := ⟨m0 - 1, by omega⟩
    rw [tiltyardref07_Same_l0_eq]
    have e' : i = A.length := by omega
    subst e'
    rw [List.take_length, ll, List.take_length] at e
    simp only [s.len, bindV_some, binV_lss, condK_bool, Int.lt_irrefl, decide_false, Bool.false_eq_true, if_false, idG_eq]
    rw [tiltyardref07_Same_j1_eq]
    rw [decide_eq_true e] at H
    exact ⟨h, St.le.refl _, H⟩
  | succ d ih =>
    intro i m0 hi hm e
    obtain ⟨m0, rfl⟩ : ∃ m, m0 = m + 1 := ⟨m0 - 1, by omega⟩
    rw [tiltyardref07_Same_l0_eq]
    have hlt : (i : Int) < A.length := by omega
    have inc : IntKind.i64.wrap ((i : Int) + 1) = ((i + 1 : Nat) : Int) := by rw [i64_in _ (by omega)]; omega
    obtain ⟨b, o, g1, cs, g4, g5⟩ := own_rowI s (show i < A.length by omega) .i64
    obtain ⟨b', o', g1', cs', g4', g5'⟩ := own_rowI t (show i < B.length by omega) .i64
    simp only [s.len, bindV_some, binV_lss, condK_bool, hlt, decide_true, if_true, idG_eq, g1, loadV_ptr, g4, loadM_cells, partV_one, g5]
    refine ⟨trivial, ?_⟩
    simp only [bindV_some, g1', loadV_ptr, g4', loadM_cells, partV_one, g5']
    refine ⟨trivial, ?_⟩
    simp only [binV_neq, bindV_some, condK_bool, decide_eq_true_eq]
    by_cases ne : A[i] = B[i]
    · rw [if_neg (by simpa using ne)]
      simp only [idG_eq, binNil_int, binV_add, bindV_some, inc]
      refine ih (i + 1) m0 (by omega) (by omega) ?_
      rw [List.take_succ_eq_append_getElem (by omega), List.take_succ_eq_append_getElem (by omega), e, ne]
    · rw [if_pos ne]
      have : ¬ A = B := fun e => ne (by subst e; rfl)
      rw [decide_eq_false this] at H
      exact ⟨h, St.le.refl _, H⟩
theorem sameO_good : SpecGood Try.prog (32, sameO) := by
  refine spec_good mixed Try.func32 (by kernel_rfl) (by kernel_rfl) (tab := []) (by simp) (keep := tiltyardref07_Same_keep) ?_
  rintro args h k ⟨D, E, v, w, A, B, rfl, few, s, t, H⟩
  refine ⟨A.length + 1, ?_⟩
  show tiltyardref07_Same (tabC _) idG _ v w h _
  rw [tiltyardref07_Same_eq]
  simp only [s.len, t.len, bindV_some, binV_neq, condK_bool, decide_eq_true_eq]
  by_cases ll : A.length = B.length
  · rw [if_neg (by omega)]
    simp only [idG_eq]
    exact same_l0 few ll s t H A.length 0 _ (by omega) (by omega) rfl
  · rw [if_pos (by omega)]
    have : ¬ A = B := fun e => ll (by subst e; rfl)
    rw [decide_eq_false this] at H
    exact ⟨h, St.le.refl _, H⟩
/-! ### what the example says -/
def awakeO : Abs.Spec := fun args h k => args = [] ∧ ∀ h', Chg h h' [] → k (.bool true) h'
def tabAw : List (FuncId × Abs.Spec) := [(7, snewO), (8, openO), (12, loginO), (18, connsO), (32, sameO), (13, sconnO)]
theorem tabAw_good : ∀ p ∈ tabAw, SpecGood Try.prog p := by simp [tabAw, snewO_good, openO_good, loginO_good, connsO_good, sameO_good, sconnO_good]
theorem awakeO_good : SpecGood Try.prog (11, awakeO) := by
  refine spec_good mixed Try.func11 (by kernel_rfl) (by kernel_rfl) (tab := tabAw) tabAw_good (keep := tiltyardlaw10_awake_keep) ?_
  rintro args h k ⟨rfl, H⟩
  refine ⟨0, ?_⟩
  show tiltyardlaw10_awake (tabC tabAw) idG 0 h _
  rw [tiltyardlaw10_awake_eq]
  refine cK (S := snewO) (by simp [tabAw]) ⟨4, 5, rfl, by omega, fun h1 v c1 s1 => ?_⟩
  have m1 := c1.1
  refine cK (S := openO) (by simp [tabAw]) ⟨_, v, _, 5, [], 1, 0, rfl, fun i hi => by omega, s1, fun h2 c2 s2 => ?_⟩
  have m2 := c2.1
  have e2 : openNext [] (4 : Int).toNat 1 0 = [⟨1, 0, 0⟩] := by rfl
  rw [e2] at s2
  refine cK (S := openO) (by simp [tabAw]) ⟨_, v, _, 5, _, 2, 0, rfl, fun i hi => by omega, s2, fun h3 c3 s3 => ?_⟩
  have m3 := c3.1
  have e3 : openNext [⟨1, 0, 0⟩] (4 : Int).toNat 2 0 = [⟨1, 0, 0⟩, ⟨2, 0, 0⟩] := by rfl
  rw [e3] at s3
  refine cK (S := loginO) (by simp [tabAw]) ⟨_, v, _, 5, _, 1, 7, 0, rfl, fun i hi => by omega, s3, fun h4 c4 s4 => ?_⟩
  have m4 := c4.1
  have e4 : loginNext [⟨1, 0, 0⟩, ⟨2, 0, 0⟩] (4 : Int).toNat 1 7 0 = [⟨1, 7, 0⟩, ⟨2, 0, 0⟩] := by rfl
  rw [e4] at s4
  have a2 : openAns [] (4 : Int).toNat 1 = 0 := by rfl
  have a3 : openAns [⟨1, 0, 0⟩] (4 : Int).toNat 2 = 0 := by rfl
  have a4 : loginAns [⟨1, 0, 0⟩, ⟨2, 0, 0⟩] (4 : Int).toNat 1 7 = (0, 0) := by rfl
  have a5 : loginAns [⟨1, 7, 0⟩, ⟨2, 0, 0⟩] (4 : Int).toNat 2 7 = (1, 0) := by rfl
  simp only [a4, two, extV_two0, extV_two1, bindV_some]
  refine cK (S := loginO) (by simp [tabAw]) ⟨_, v, _, 5, _, 2, 7, 0, rfl, fun i hi => by omega, s4, fun h5 c5 s5 => ?_⟩
  have m5 := c5.1
  have e5 : loginNext [⟨1, 7, 0⟩, ⟨2, 0, 0⟩] (4 : Int).toNat 2 7 0 = [⟨2, 7, 0⟩] := by rfl
  rw [e5] at s5
  have c15 : Chg h h5 [] := (((((c1.nil (fun i => h.next ≤ i)).step c2).step c3).step c4).step c5).list fun j h1 h2 => by omega
  simp only [a2, a3, a5, two, extV_two0, extV_two1, bindV_some, Int.natCast_zero, Int.cast_ofNat_Int, Int.natCast_one, binNil_int, binV_eql, decide_true, groupK_eq, guardK_bool, if_true, idG_eq, getT, pickV_bool]
  refine cK (S := connsO) (by simp [tabAw]) ⟨_, v, _, 5, _, rfl, s5, fun h6 sv c6 s6 => ?_⟩
  have m6 := c6.1
  refine buildSliceE_in [.int .u32 2] rfl rfl rfl fun h7 c7 n7 o7 => ?_
  refine cK (S := sameO) (by simp [tabAw]) ⟨_, fun i => h6.next ≤ i, sv, _, [2], [2], rfl, by simp, s6.chg c7 (by simp), .inr ⟨h6.next, rfl, Nat.le_refl _, by omega, o7, rfl⟩, ?_⟩
  simp only [decide_true, getT, pickV_bool, if_true, bindV_some, groupK_eq, guardK_bool, idG_eq]
  have c57 : Chg h5 h7 [] := c6.seq c7
  refine cK (S := sconnO) (by simp [tabAw]) ⟨_, v, _, 5, _, 7, rfl, s5.chg0 c57, fun h8 c8 => ?_⟩
  have e8 : connOf [⟨2, 7, 0⟩] 7 = 2 := by rfl
  simp only [e8, Int.cast_ofNat_Int, binNil_int, binV_eql, decide_true, bindV_some, getT, pickV_bool, if_true, idG_eq]
  exact ⟨h8, St.le.refl _, H h8 ((c15.seq c57).seq c8)⟩
/-! ### 'SessionNil' -/
def nilLawO : Abs.Spec := fun args h k => ∃ a b c d : Int, args = [.agg #[.int .u8 a, .int .u32 b, .int .u32 c, .int .i64 d]] ∧ ∀ h', k (.bool true) h'
def tabNl : List (FuncId × Abs.Spec) := [(12, loginN), (15, logoutN), (16, closeN), (8, openN), (10, touchN), (14, playerN), (13, sconnN), (9, sidleN), (18, connsN), (17, splayersN), (11, awakeO)]
theorem tabNl_good : ∀ p ∈ tabNl, SpecGood Try.prog p := by simp [tabNl, loginN_good, logoutN_good, closeN_good, openN_good, touchN_good, playerN_good, sconnN_good, sidleN_good, connsN_good, splayersN_good, awakeO_good]
theorem nilLawO_good : SpecGood Try.prog (6, nilLawO) := by
  refine spec_good mixed Try.func6 (by kernel_rfl) (by kernel_rfl) (tab := tabNl) tabNl_good (keep := tiltyardlaw10_SessionNil_keep) ?_
  rintro args h k ⟨a, b, c, d, rfl, H⟩
  refine ⟨0, ?_⟩
  show tiltyardlaw10_SessionNil (tabC tabNl) idG 0 (.agg #[.int .u8 a, .int .u32 b, .int .u32 c, .int .i64 d]) h _
  rw [tiltyardlaw10_SessionNil_eq]
  refine boxE_in rfl fun h1 c1 n1 o1 => ?_
  have o1 : h1.objs h.next = some (.cells [.int .u8 a, .int .u32 b, .int .u32 c, .int .i64 d] true) := o1
  simp only [offV_ptr, bindV_some, loadV_ptr, o1, loadM_cells, partV_one, List.getElem?_cons_zero, List.getElem?_cons_succ, Nat.zero_add]
  refine cK (S := loginN) (by simp [tabNl]) ⟨_, _, _, rfl, fun h2 c2 => ?_⟩
  have o2 := c2.at0 (by omega) o1
  have m2 := c2.1
  simp only [two, extV_two0, extV_two1, offV_ptr, bindV_some, loadV_ptr, o2, loadM_cells, partV_one, List.getElem?_cons_zero, List.getElem?_cons_succ, Nat.zero_add]
  refine cK (S := logoutN) (by simp [tabNl]) ⟨_, rfl, fun h3 c3 => ?_⟩
  have o3 := c3.at0 (by omega) o2
  have m3 := c3.1
  simp only [two, extV_two0, extV_two1, offV_ptr, bindV_some, loadV_ptr, o3, loadM_cells, partV_one, List.getElem?_cons_zero, List.getElem?_cons_succ, Nat.zero_add]
  refine cK (S := closeN) (by simp [tabNl]) ⟨_, rfl, fun h4 c4 => ?_⟩
  have o4 := c4.at0 (by omega) o3
  have m4 := c4.1
  simp only [two, extV_two0, extV_two1, offV_ptr, bindV_some, loadV_ptr, o4, loadM_cells, partV_one, List.getElem?_cons_zero, List.getElem?_cons_succ, Nat.zero_add]
  refine cK (S := openN) (by simp [tabNl]) ⟨_, _, rfl, ?_⟩
  simp only [Int.natCast_zero, Int.cast_ofNat_Int, binNil_int, binV_eql, decide_true, groupK_eq, guardK_bool, if_true, idG_eq, getT, pickV_bool, bindV_some, offV_ptr, loadV_ptr, o4, loadM_cells, partV_one, List.getElem?_cons_zero, List.getElem?_cons_succ, Nat.zero_add]
  refine cK (S := touchN) (by simp [tabNl]) ⟨_, _, rfl, fun h5 c5 => ?_⟩
  have o5 := c5.at0 (by omega) o4
  have m5 := c5.1
  have w0 : IntKind.u32.wrap ((0 : Int) + 0) = 0 := by decide
  have w1 : IntKind.i64.wrap ((0 : Int) + 0) = 0 := by decide
  simp only [Int.natCast_zero, Int.cast_ofNat_Int, binNil_int, binV_eql, decide_true, groupK_eq, guardK_bool, if_true, idG_eq, getT, pickV_bool, bindV_some, binV_add, w0, offV_ptr, loadV_ptr, o5, loadM_cells, partV_one, List.getElem?_cons_zero, List.getElem?_cons_succ, Nat.zero_add]
  refine cK (S := playerN) (by simp [tabNl]) ⟨_, rfl, fun h6 c6 => ?_⟩
  have o6 := c6.at0 (by omega) o5
  have m6 := c6.1
  simp only [Int.natCast_zero, Int.cast_ofNat_Int, binNil_int, binV_eql, decide_true, groupK_eq, guardK_bool, if_true, idG_eq, getT, pickV_bool, bindV_some, offV_ptr, loadV_ptr, o6, loadM_cells, partV_one, List.getElem?_cons_zero, List.getElem?_cons_succ, Nat.zero_add]
  refine cK (S := sconnN) (by simp [tabNl]) ⟨_, rfl, fun h7 c7 => ?_⟩
  have o7 := c7.at0 (by omega) o6
  have m7 := c7.1
  simp only [Int.natCast_zero, Int.cast_ofNat_Int, binNil_int, binV_eql, decide_true, groupK_eq, guardK_bool, if_true, idG_eq, getT, pickV_bool, bindV_some, offV_ptr, loadV_ptr, o7, loadM_cells, partV_one, List.getElem?_cons_zero, List.getElem?_cons_succ, Nat.zero_add]
  refine cK (S := sidleN) (by simp [tabNl]) ⟨_, rfl, fun h8 c8 => ?_⟩
  simp only [lenS_slice, bindV_some]
  refine cK (S := connsN) (by simp [tabNl]) ⟨rfl, ?_⟩
  simp only [lenS_slice, bindV_some, Int.natCast_zero, Int.cast_ofNat_Int, binV_add, w1]
  refine cK (S := splayersN) (by simp [tabNl]) ⟨rfl, fun h9 c9 => ?_⟩
  simp only [lenS_slice, bindV_some, Int.natCast_zero, Int.cast_ofNat_Int, binV_add, w1, binNil_int, binV_eql, decide_true, groupK_eq, guardK_bool, if_true, idG_eq, getT, pickV_bool]
  refine cK (S := awakeO) (by simp [tabNl]) ⟨rfl, fun h10 c10 => ?_⟩
  simp only [getT, pickV_bool, bindV_some, if_true, idG_eq]
  exact ⟨h10, St.le.refl _, H h10⟩
end Go.Proofs.Ytnelcpabjpchnaa
