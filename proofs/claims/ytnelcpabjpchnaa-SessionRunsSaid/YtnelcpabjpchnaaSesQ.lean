/- 'SessionRuns', walked. -/
import Derived.Test.YtnelcpabjpchnaaSesP
set_option linter.unusedSimpArgs false
set_option linter.unusedVariables false
set_option maxHeartbeats 4000000
namespace Go.Proofs.Ytnelcpabjpchnaa
open Go.Abs Go.IntWalk
attribute [local congr] bindV_weak condK_weak guardK_weak groupK_weak allocE_weak boxE_weak storeE_weak storeM_weak tabC_weak ite_weak idG_weak appendE_weak buildSliceE_weak mapUpdateE_weak deleteE_weak makeMapE_weak copyE_weak clearE_weak callE_weak

/-! ### the table answers as the document -/
theorem get_some (M : List Lk) (c : Nat) : (rkGet (M.map rk) c).isSome = (getL M c).isSome := by
  rw [rk_get]; cases getL M c <;> rfl
theorem right_of {M : List Lk} (r : RkL (M.map rk)) {x : Lk} (hx : x ∈ M) : rightId x.conn = true := by
  have := r.ids (rk x) (List.mem_map_of_mem hx)
  have h : 1 ≤ x.conn ∧ x.conn ≤ 2147483647 := this
  simp [rightId, h.1, h.2]
theorem put_here {M : List Lk} (r : RkL (M.map rk)) (most : Nat) {x : Lk} (hx : x ∈ M) : putAns M most x.conn = 0 := by
  unfold putAns rkAns
  rw [if_pos (right_of r hx), if_pos (.inl (by rw [get_some, getL_at (rise_of r) hx]; rfl))]
theorem open_as {M : List Lk} (r : RkL (M.map rk)) (most c : Nat) (now : Int) : openAns M most c = ropenAns M most c ∧ openNext M most c now = ropenNext M most c now := by
  have e : openAns M most c = ropenAns M most c := by
    unfold openAns rkAddAns ropenAns rkAns
    rw [get_some, List.length_map]
    cases hg : getL M c with
    | some x =>
      obtain ⟨h1, h2⟩ := getL_some hg
      have := right_of r h1
      rw [h2] at this
      rw [this]; rfl
    | none =>
      simp only [Option.isSome_none, Bool.false_eq_true, if_false, false_or]
      by_cases hr : rightId c = true
      · rw [if_pos hr, if_pos hr]
        by_cases h : M.length < most
        · rw [if_pos h, if_neg (by omega)]
        · rw [if_neg h, if_pos (by omega)]
      · rw [if_neg hr, if_neg hr]
  refine ⟨e, ?_⟩
  unfold openNext ropenNext
  rw [e]
theorem touch_as {M : List Lk} (r : RkL (M.map rk)) (most c : Nat) (now : Int) : touchAns M most c = rtouchAns M c ∧ touchNext M most c now = rtouchNext M c now := by
  unfold touchAns rtouchAns touchNext rtouchNext
  cases hg : getL M c with
  | none => exact ⟨rfl, rfl⟩
  | some x =>
    obtain ⟨h1, h2⟩ := getL_some hg
    have := put_here r most h1
    rw [h2] at this
    refine ⟨this, ?_⟩
    show putNext M most c x.player now = putL M c x.player now
    unfold putNext
    rw [if_pos this]
theorem logout_as {M : List Lk} (r : RkL (M.map rk)) (most c : Nat) : logoutAns M most c = rlogoutAns M c ∧ logoutNext M most c = rlogoutNext M c := by
  unfold logoutAns rlogoutAns logoutNext rlogoutNext
  cases hg : getL M c with
  | none => exact ⟨rfl, rfl⟩
  | some x =>
    obtain ⟨h1, h2⟩ := getL_some hg
    have := put_here r most h1
    rw [h2] at this
    simp only
    by_cases hp : x.player = 0
    · rw [if_pos hp, if_pos hp, if_pos hp, if_pos hp]; exact ⟨rfl, rfl⟩
    · rw [if_neg hp, if_neg hp, if_neg hp, if_neg hp, this]
      refine ⟨rfl, ?_⟩
      unfold putNext
      rw [if_pos this]
theorem login_as {M : List Lk} (r : RkL (M.map rk)) (most c p : Nat) (now : Int) : loginAns M most c p = rloginAns M c p ∧ loginNext M most c p now = rloginNext M c p now := by
  unfold loginAns rloginAns loginNext rloginNext
  have rr := rise_of r
  have ids : ∀ x ∈ M, 1 ≤ x.conn := fun x hx => (r.ids (rk x) (List.mem_map_of_mem hx)).1
  cases hg : getL M c with
  | none => exact ⟨rfl, rfl⟩
  | some x =>
    obtain ⟨h1, h2⟩ := getL_some hg
    simp only
    by_cases hr : rightId p = true
    · rw [if_pos hr, if_pos hr, if_pos hr, if_pos hr]
      by_cases hp : x.player = 0
      · rw [if_pos hp, if_pos hp, if_pos hp, if_pos hp]
        obtain ⟨t1, t2⟩ := connOf_spec p ids
        have e : (if connOf M p = 0 then M else closeNext M (connOf M p)) = (if connOf M p = 0 then M else dropL M (connOf M p)) := by
          by_cases ho : connOf M p = 0
          · rw [if_pos ho, if_pos ho]
          · rw [if_neg ho, if_neg ho]
            obtain ⟨y, ym, _, _, yc⟩ := t2 ho
            unfold closeNext
            rw [← yc, getL_at rr ym]
        rw [e]
        have xm : x ∈ (if connOf M p = 0 then M else dropL M (connOf M p)) := by
          by_cases ho : connOf M p = 0
          · rw [if_pos ho]; exact h1
          · rw [if_neg ho, mem_dropL rr]
            obtain ⟨y, ym, ye, p0, yc⟩ := t2 ho
            refine ⟨h1, fun hh => ?_⟩
            have a1 := getL_at rr h1
            have a2 := getL_at rr ym
            rw [yc, ← hh, a1] at a2
            cases a2
            omega
        have r1 : RkL ((if connOf M p = 0 then M else dropL M (connOf M p)).map rk) := by
          by_cases ho : connOf M p = 0
          · rw [if_pos ho]; exact r
          · rw [if_neg ho]; exact r.sub ((dropL_sub M _).map rk)
        have pa := put_here r1 most xm
        rw [h2] at pa
        rw [pa]
        refine ⟨rfl, ?_⟩
        unfold putNext
        rw [if_pos pa, ← h2, withL_put (rise_of r1) xm]
      · rw [if_neg hp, if_neg hp, if_neg hp, if_neg hp]; exact ⟨rfl, rfl⟩
    · rw [if_neg hr, if_neg hr, if_neg hr, if_neg hr]; exact ⟨rfl, rfl⟩
/-- Players who are, and times. -/
def GoodM (M : List Lk) : Prop := ∀ x ∈ M, (x.player ≠ 0 → rightId x.player = true) ∧ In64 x.last
theorem good_put {M : List Lk} (g : GoodM M) (r : Rise M) {c p : Nat} {l : Int} (hp : p ≠ 0 → rightId p = true) (hl : In64 l) (most : Nat) : GoodM (putNext M most c p l) := by
  unfold putNext
  split
  · intro x hx
    rcases (mem_putL r c p l x).1 hx with rfl | ⟨hx, _⟩
    · exact ⟨hp, hl⟩
    · exact g x hx
  · exact g
theorem good_open {M : List Lk} (g : GoodM M) (r : Rise M) (most c : Nat) {l : Int} (hl : In64 l) : GoodM (openNext M most c l) := by
  unfold openNext
  split
  · intro x hx
    rcases (mem_putL r c 0 l x).1 hx with rfl | ⟨hx, _⟩
    · exact ⟨fun h => absurd rfl h, hl⟩
    · exact g x hx
  · exact g
theorem good_touch {M : List Lk} (g : GoodM M) (r : Rise M) (most c : Nat) {l : Int} (hl : In64 l) : GoodM (touchNext M most c l) := by
  unfold touchNext
  split
  · rename_i x hx
    exact good_put g r (g x (getL_some hx).1).1 hl most
  · exact g
theorem good_logout {M : List Lk} (g : GoodM M) (r : Rise M) (most c : Nat) : GoodM (logoutNext M most c) := by
  unfold logoutNext
  split
  · exact g
  · rename_i x hx
    split
    · exact g
    · exact good_put g r (fun h => absurd rfl h) (g x (getL_some hx).1).2 most
theorem good_close {M : List Lk} (g : GoodM M) (c : Nat) : GoodM (closeNext M c) := by
  unfold closeNext
  split
  · exact g
  · exact fun x hx => g x ((dropL_sub M c).subset hx)
theorem good_login {M : List Lk} (g : GoodM M) (r : Rise M) (most c p : Nat) {l : Int} (hl : In64 l) : GoodM (loginNext M most c p l) := by
  unfold loginNext
  split
  · exact g
  · split
    · rename_i hr
      split
      · refine good_put ?_ (rise_if r p) (fun _ => hr) hl most
        split
        · exact g
        · exact fun x hx => g x ((dropL_sub M _).subset hx)
      · exact g
    · exact g
/-! ### the walk -/
def RunS (h0 : St) (b8 : Nat) (v : Value) (most : Nat) (idle : Int) (h : St) (M : List Lk) : Prop :=
  ∃ (D E : Nat → Prop) (lv : Value), (∀ i, D i → h0.next ≤ i) ∧ (∀ i, h.next ≤ i → D i) ∧ ¬ D b8 ∧ (∀ i, E i → i < h.next ∧ i ≠ b8 ∧ ¬ D i) ∧ TbS D h v most idle M ∧ RtS E h lv M ∧ h.objs b8 = some (.cells [lv, .int .i64 (most : Int), .int .i64 idle] true) ∧ b8 < h.next ∧ h0.next ≤ b8 ∧ ChgP (fun i => h0.next ≤ i) h0 h
theorem RunS.chg0 {h0 h h' : St} {b8 : Nat} {v : Value} {most : Nat} {idle : Int} {M : List Lk} (s : RunS h0 b8 v most idle h M) (c : Chg h h' []) : RunS h0 b8 v most idle h' M := by
  obtain ⟨D, E, lv, d1, d2, d3, e1, t, r, o8, n8, n0, ch⟩ := s
  have m := c.1
  exact ⟨D, E, lv, d1, fun i hi => d2 i (by omega), d3, fun i hi => ⟨by have := (e1 i hi).1; omega, (e1 i hi).2⟩, t.chg0 c, r.chg0 c, c.at0 n8 o8, by omega, n0, ch.seq c⟩
def tabRu : List (FuncId × Abs.Spec) := [(7, snewO), (8, openO), (12, loginO), (15, logoutO), (16, closeO), (10, touchO), (19, ropenO), (20, rloginO), (21, rlogoutO), (22, rcloseO), (23, rtouchO), (24, likeO), (11, awakeO)]
theorem tabRu_good : ∀ p ∈ tabRu, SpecGood Try.prog p := by simp [tabRu, snewO_good, openO_good, loginO_good, logoutO_good, closeO_good, touchO_good, ropenO_good, rloginO_good, rlogoutO_good, rcloseO_good, rtouchO_good, likeO_good, awakeO_good]
/-- Behind both: the box is stored. -/
theorem runs_store {h0 h1 h2 : St} {b8 ba : Nat} {v lv' : Value} {most : Nat} {idle : Int} {M1 : List Lk} {D E : Nat → Prop} {z : List Value} {K : St → Prop} {a : SAct} (d1 : ∀ i, D i → h0.next ≤ i) (d2 : ∀ i, h1.next ≤ i → D i) (d3 : ¬ D b8) (e1 : ∀ i, E i → i < h1.next ∧ i ≠ b8 ∧ ¬ D i)
    (t : TbS D h1 v most idle M1) (c : Chg h1 h2 []) (r : RtS (NewE E h1) h2 lv' M1) (lz : z.length = 3) (o8 : h1.objs b8 = some (.cells z true)) (n8 : b8 < h1.next) (n0 : h0.next ≤ b8) (ch : ChgP (fun i => h0.next ≤ i) h0 h1) (na : ba < h1.next) (nab : ba ≠ b8) (oa : h1.objs ba = some (.cells (cellsA a) true))
    (hK : ∀ h3, RunS h0 b8 v most idle h3 M1 → ba < h3.next → h3.objs ba = some (.cells (cellsA a) true) → K h3) : storeE 3 (.pointer (some ⟨b8, 0, none⟩)) (encR lv' most idle) h2 fun _ h14 => K h14 := by
  have h1' := r.one
  have m := c.1
  refine storeE_all (c.at0 n8 o8) rfl lz (by show allOne [lv', _, _] = true; simp only [allOne, h1', Bool.true_and]; rfl) fun h3 c3 n3 o3 => ?_
  have nb : ¬ NewE E h1 b8 := fun hh => by
    rcases hh with hh | hh
    · exact (e1 _ hh).2.1 rfl
    · omega
  refine hK h3 ⟨fun i => D i ∧ ¬ (h1.next ≤ i ∧ i < h2.next), fun i => NewE E h1 i ∧ i < h2.next, lv', fun i hi => d1 i hi.1, fun i hi => ⟨d2 i (by omega), by omega⟩, fun hh => d3 hh.1, fun i hi => ?_, ?_, ?_, o3, by omega, n0, ?_⟩ (by omega) (c3.at1 (by omega) nab (c.at0 na oa))
  · obtain ⟨hi, hn⟩ := hi
    refine ⟨by omega, fun e => nb (e ▸ hi), fun hh => ?_⟩
    rcases hi with hi | hi
    · exact (e1 i hi).2.2 hh.1
    · exact hh.2 ⟨hi, hn⟩
  · exact ((t.imp fun i hi hh => ⟨hh, by omega⟩).chg0 c).chg c3 (by simp; exact fun hh => absurd hh d3)
  · exact OwnS.chg (OwnS.imp r fun i hi hh => ⟨hh, hi⟩) c3 (by simp; exact fun hh => absurd hh nb)
  · exact (ch.seq c).of_chg c3 (by simp; exact n0)

theorem runs_j1 {nn i m0 b8 ba : Nat} {x0 x1 x2 x6 v : Value} {most : Nat} {idle : Int} {M : List Lk} {h0 h : St} {k : Cont} {a : SAct} {n p : Int} (few : M.length ≤ 255) (s : RunS h0 b8 v most idle h M) (u : Uniq M) (g : GoodM M) (hid : In64 idle) (na : ba < h.next) (oa : h.objs ba = some (.cells (cellsA a) true)) (hi : i ≤ 1000)
    (H : ∀ h' y10 y11 y12 y13 y14, RunS h0 b8 v most idle h' M → tiltyardlaw10_SessionRuns_l0 (tabC tabRu) idG nn m0 x0 x1 x2 x6 v (.pointer (some ⟨b8, 0, none⟩)) (.int .i64 ((i + 1 : Nat) : Int)) y10 y11 y12 y13 y14 h' (KK k)) :
    tiltyardlaw10_SessionRuns_j1 (tabC tabRu) idG nn m0 x0 x1 x2 x6 v (.pointer (some ⟨b8, 0, none⟩)) (.int .i64 (i : Int)) (.pointer (some ⟨ba, 0, none⟩)) (.int .i64 n) (.int .i64 n) (.int .u32 p) (.int .u32 p) h (KK k) := by
  rw [tiltyardlaw10_SessionRuns_j1_eq]
  have s' := s
  obtain ⟨D, E, lv, d1, d2, d3, e1, t, r, o8, n8, n0, ch⟩ := s'
  have inc : IntKind.i64.wrap ((i : Int) + 1) = ((i + 1 : Nat) : Int) := by rw [i64_in _ (by omega)]; omega
  have tk : takeN (cellsA a) 0 4 = some (cellsA a) := rfl
  simp only [binV_neq, ne_eq, not_true_eq_false, decide_false, bindV_some, groupK_eq, guardK_bool, if_true, idG_eq, getT, pickV_bool, Bool.false_eq_true, if_false]
  rw [box_load r o8]
  simp only [bindV_some, loadV_ptr, oa, loadM_cells, partV_agg, tk, Option.map_some]
  refine cK (S := likeO) (by simp [tabRu]) ⟨D, E, v, lv, most, idle, M, a, rfl, few, t, r, u, fun x hx => (g x hx).1, hid, fun x hx => (g x hx).2, fun h1 c1 => ?_⟩
  simp only [unV_not, Bool.not_true, bindV_some, idG_eq, getT, pickV_bool, Bool.false_eq_true, if_false, condK_bool]
  rw [tiltyardlaw10_SessionRuns_j3_eq]
  simp only [binNil_int, binV_add, bindV_some, inc, idG_eq]
  exact H h1 _ _ _ _ _ (s.chg0 c1)
theorem runs_l0 {nn b8 : Nat} {x0 x1 x2 x6 v : Value} {most : Nat} {idle : Int} {l : List SAct} {h0 : St} {k : Cont} (sl : SliceAt (· < h0.next) h0 x2 l.length 4 (rowA l)) (hl : l.length ≤ 60) (hnow : ∀ a ∈ l, In64 a.now) (hid : In64 idle) (hmost : most ≤ 30) (H : ∀ h', k (.bool true) h') :
    ∀ (d i m0 : Nat) (h : St) (M : List Lk) (x10 x11 x12 x13 x14 : Value), i + d = l.length → d < m0 → RunS h0 b8 v most idle h M → Uniq M → GoodM M →
      tiltyardlaw10_SessionRuns_l0 (tabC tabRu) idG nn m0 x0 x1 x2 x6 v (.pointer (some ⟨b8, 0, none⟩)) (.int .i64 (i : Int)) x10 x11 x12 x13 x14 h (KK k) := by
  intro d
  induction d with
  | zero =>
    intro i m0 h M x10 x11 x12 x13 x14 hi hm s u g
    obtain ⟨m0, rfl⟩ : ∃ m, m0 = m + 1 := ⟨m0 - 1, by omega⟩
    rw [tiltyardlaw10_SessionRuns_l0_eq]
    have e' : i = l.length := by omega
    subst e'
    simp only [sl.len, bindV_some, binV_lss, condK_bool, Int.lt_irrefl, decide_false, Bool.false_eq_true, if_false, idG_eq]
    rw [tiltyardlaw10_SessionRuns_j2_eq]
    exact cK (S := awakeO) (by simp [tabRu]) ⟨rfl, fun h' _ => ⟨h', St.le.refl _, H h'⟩⟩
  | succ d ih =>
    intro i m0 h M x10 x11 x12 x13 x14 hi hm s u g
    obtain ⟨m0, rfl⟩ : ∃ m, m0 = m + 1 := ⟨m0 - 1, by omega⟩
    rw [tiltyardlaw10_SessionRuns_l0_eq]
    have hlt : (i : Int) < l.length := by omega
    have s' := s
    obtain ⟨D, E, lv, d1, d2, d3, e1, t, r, o8, n8, n0, ch⟩ := s'
    obtain ⟨rk, fewM, _⟩ := t.rows
    have rr := rise_of rk
    have ids : ∀ x ∈ M, 1 ≤ x.conn := fun x hx => (rk.ids _ (List.mem_map_of_mem hx)).1
    have sl' := sl.chgP ch (fun j hj hh => by omega)
    obtain ⟨b, o, g1, g2, g3, cs, own, g4, g5⟩ := sl'.idx (i := (i : Int)) (by omega) hlt .i64
    obtain ⟨a, ha⟩ : ∃ a, a = l[i]?.getD .zero := ⟨_, rfl⟩
    have er : rowA l (i : Int).toNat = cellsA a := by rw [ha]; rfl
    rw [er] at g5
    have an : In64 a.now := by
      rw [ha, List.getElem?_eq_getElem (by omega), Option.getD_some]
      exact hnow _ (List.getElem_mem _)
    simp only [sl.len, bindV_some, binV_lss, condK_bool, hlt, decide_true, if_true, idG_eq, g1, loadV_ptr, g4, loadM_cells, take_row g5]
    refine allocE_in fun h1 c1 n1 o1 => ?_
    refine storeE_all o1 rfl rfl rfl fun h2 c2 n2 o2 => ?_
    have o2 : h2.objs h.next = some (.cells (cellsA a) true) := o2
    have c02 : Chg h h2 [] := c1.new c2 (Nat.le_refl _)
    have s2 := s.chg0 c02
    have A0 : (cellsA a)[0]? = some (.int .u8 a.do_) := rfl
    have A1 : (cellsA a)[1]? = some (.int .u32 (a.conn : Int)) := rfl
    have A2 : (cellsA a)[2]? = some (.int .u32 (a.player : Int)) := rfl
    have A3 : (cellsA a)[3]? = some (.int .i64 a.now) := rfl
    -- the table without the act's own cells
    have dD : ∀ j, (D j ∧ j ≠ h.next) → h0.next ≤ j := fun j hj => d1 j hj.1
    have dN : ∀ j, h2.next ≤ j → (D j ∧ j ≠ h.next) := fun j hj => ⟨d2 j (by omega), by omega⟩
    have d8 : ¬ (D b8 ∧ b8 ≠ h.next) := fun hh => d3 hh.1
    have t2 : TbS (fun j => D j ∧ j ≠ h.next) h2 v most idle M := (t.imp fun j hj hh => ⟨hh, by omega⟩).chg0 c02
    have r2 := r.chg0 c02
    have p8 := c02.at0 n8 o8
    have ch2 := ch.seq c02
    -- what is kept when the table is changed
    have kept : ∀ h3, ChgP (fun j => D j ∧ j ≠ h.next) h2 h3 → RtS E h3 lv M ∧ h3.objs b8 = some (.cells [lv, .int .i64 (most : Int), .int .i64 idle] true) ∧ h3.objs h.next = some (.cells (cellsA a) true) ∧ b8 < h3.next ∧ h.next < h3.next ∧ ChgP (fun j => h0.next ≤ j) h0 h3 ∧ (∀ j, h3.next ≤ j → (D j ∧ j ≠ h.next)) ∧ (∀ j, E j → j < h3.next ∧ j ≠ b8 ∧ ¬ (D j ∧ j ≠ h.next)) := by
      intro h3 c3
      have m3 := c3.1
      refine ⟨OwnS.chgP r2 c3 fun j hj he => (e1 j he).2.2 hj.1, c3.at (by omega) d8 p8, c3.at (by omega) (fun hh => hh.2 rfl) o2, by omega, by omega, ch2.step (c3.mono fun j _ hj => d1 j hj.1), fun j hj => dN j (by omega), fun j hj => ⟨by have := (e1 j hj).1; omega, (e1 j hj).2.1, fun hh => (e1 j hj).2.2 hh.1⟩⟩
    -- behind it all
    have fin : ∀ h3 M' (n p : Int), RunS h0 b8 v most idle h3 M' → h.next < h3.next → h3.objs h.next = some (.cells (cellsA a) true) → Uniq M' → GoodM M' →
        tiltyardlaw10_SessionRuns_j1 (tabC tabRu) idG nn m0 x0 x1 x2 x6 v (.pointer (some ⟨b8, 0, none⟩)) (.int .i64 (i : Int)) (.pointer (some ⟨h.next, 0, none⟩)) (.int .i64 n) (.int .i64 n) (.int .u32 p) (.int .u32 p) h3 (KK k) := by
      intro h3 M' n p s3 na oa u3 g3
      have fw : M'.length ≤ 255 := by
        obtain ⟨_, _, _, _, _, _, _, t', _⟩ := s3
        have := t'.rows.2.1; omega
      exact runs_j1 fw s3 u3 g3 hid na oa (by omega) fun h4 y10 y11 y12 y13 y14 s4 => ih (i + 1) m0 h4 M' _ _ _ _ _ (by omega) (by omega) s4 u3 g3
    simp only [offV_ptr, bindV_some, loadV_ptr, o2, loadM_cells, partV_one, A0, Nat.zero_add, binNil_int, binV_eql, condK_bool, decide_eq_true_eq]
    by_cases d0 : a.do_ = 0
    · rw [if_pos d0]
      simp only [offV_ptr, bindV_some, loadV_ptr, o2, loadM_cells, partV_one, A1, A3, Nat.zero_add]
      refine cK (S := openO) (by simp [tabRu]) ⟨_, v, most, idle, M, a.conn, a.now, rfl, dN, t2, fun h3 c3 t3 => ?_⟩
      obtain ⟨k1, k2, k3, k4, k5, k6, k7, k8⟩ := kept h3 c3
      rw [box_load k1 k2]
      simp only [offV_ptr, bindV_some, loadV_ptr, k3, loadM_cells, partV_one, A1, A3, Nat.zero_add]
      refine cK (S := ropenO) (by simp [tabRu]) ⟨E, lv, most, idle, M, a.conn, a.now, rfl, by omega, rr, k1, fun h4 lv' c4 r4 => ?_⟩
      obtain ⟨q1, q2⟩ := open_as rk most a.conn a.now
      rw [← q2] at r4
      rw [q1]
      simp only [twoR, extV_two0, extV_two1, bindV_some]
      refine runs_store dD k7 d8 k8 t3 c4 r4 rfl k2 k4 n0 k6 k5 (by omega) k3 fun h5 s5 na oa => ?_
      simp only [idG_eq]
      exact fin h5 _ _ _ s5 na oa (uniq_open u rr most a.conn a.now) (good_open g rr most a.conn an)
    rw [if_neg d0]
    simp only [binNil_int, binV_eql, bindV_some, condK_bool, decide_eq_true_eq]
    by_cases d1' : a.do_ = 1
    · rw [if_pos d1']
      simp only [offV_ptr, bindV_some, loadV_ptr, o2, loadM_cells, partV_one, A1, A2, A3, Nat.zero_add]
      refine cK (S := loginO) (by simp [tabRu]) ⟨_, v, most, idle, M, a.conn, a.player, a.now, rfl, dN, t2, fun h3 c3 t3 => ?_⟩
      obtain ⟨k1, k2, k3, k4, k5, k6, k7, k8⟩ := kept h3 c3
      obtain ⟨q1, q2⟩ := login_as rk most a.conn a.player a.now
      rw [q1]
      simp only [two, extV_two0, extV_two1, bindV_some]
      rw [box_load k1 k2]
      simp only [offV_ptr, bindV_some, loadV_ptr, k3, loadM_cells, partV_one, A1, A2, A3, Nat.zero_add]
      refine cK (S := rloginO) (by simp [tabRu]) ⟨E, lv, most, idle, M, a.conn, a.player, a.now, rfl, by omega, rr, k1, fun h4 lv' c4 r4 => ?_⟩
      rw [← q2] at r4
      simp only [three, extV_three0, extV_three1, extV_three2, bindV_some]
      refine runs_store dD k7 d8 k8 t3 c4 r4 rfl k2 k4 n0 k6 k5 (by omega) k3 fun h5 s5 na oa => ?_
      simp only [idG_eq]
      exact fin h5 _ _ _ s5 na oa (uniq_login u rr ids most a.conn a.player a.now) (good_login g rr most a.conn a.player an)
    rw [if_neg d1']
    simp only [binNil_int, binV_eql, bindV_some, condK_bool, decide_eq_true_eq]
    by_cases d2' : a.do_ = 2
    · rw [if_pos d2']
      simp only [offV_ptr, bindV_some, loadV_ptr, o2, loadM_cells, partV_one, A1, Nat.zero_add]
      refine cK (S := logoutO) (by simp [tabRu]) ⟨_, v, most, idle, M, a.conn, rfl, dN, t2, fun h3 c3 t3 => ?_⟩
      obtain ⟨k1, k2, k3, k4, k5, k6, k7, k8⟩ := kept h3 c3
      obtain ⟨q1, q2⟩ := logout_as rk most a.conn
      rw [q1]
      simp only [two, extV_two0, extV_two1, bindV_some]
      rw [box_load k1 k2]
      simp only [offV_ptr, bindV_some, loadV_ptr, k3, loadM_cells, partV_one, A1, Nat.zero_add]
      refine cK (S := rlogoutO) (by simp [tabRu]) ⟨E, lv, most, idle, M, a.conn, rfl, by omega, rr, fun j hj => (k8 j hj).1, k1, fun h4 lv' c4 r4 => ?_⟩
      rw [← q2] at r4
      simp only [three, extV_three0, extV_three1, extV_three2, bindV_some]
      refine runs_store dD k7 d8 k8 t3 c4 r4 rfl k2 k4 n0 k6 k5 (by omega) k3 fun h5 s5 na oa => ?_
      simp only [idG_eq]
      exact fin h5 _ _ _ s5 na oa (uniq_logout u rr most a.conn) (good_logout g rr most a.conn)
    rw [if_neg d2']
    simp only [binNil_int, binV_eql, bindV_some, condK_bool, decide_eq_true_eq]
    by_cases d3' : a.do_ = 3
    · rw [if_pos d3']
      simp only [offV_ptr, bindV_some, loadV_ptr, o2, loadM_cells, partV_one, A1, Nat.zero_add]
      refine cK (S := closeO) (by simp [tabRu]) ⟨_, v, most, idle, M, a.conn, rfl, dN, t2, fun h3 c3 t3 => ?_⟩
      obtain ⟨k1, k2, k3, k4, k5, k6, k7, k8⟩ := kept h3 c3
      simp only [two, extV_two0, extV_two1, bindV_some]
      rw [box_load k1 k2]
      simp only [offV_ptr, bindV_some, loadV_ptr, k3, loadM_cells, partV_one, A1, Nat.zero_add]
      refine cK (S := rcloseO) (by simp [tabRu]) ⟨E, lv, most, idle, M, a.conn, rfl, by omega, rr, k1, fun h4 lv' c4 r4 => ?_⟩
      simp only [three, extV_three0, extV_three1, extV_three2, bindV_some]
      refine runs_store dD k7 d8 k8 t3 c4 r4 rfl k2 k4 n0 k6 k5 (by omega) k3 fun h5 s5 na oa => ?_
      simp only [idG_eq]
      exact fin h5 _ _ _ s5 na oa (uniq_close u a.conn) (good_close g a.conn)
    rw [if_neg d3']
    simp only [binNil_int, binV_eql, bindV_some, condK_bool, decide_eq_true_eq]
    by_cases d4' : a.do_ = 4
    · rw [if_pos d4']
      simp only [offV_ptr, bindV_some, loadV_ptr, o2, loadM_cells, partV_one, A1, A3, Nat.zero_add]
      refine cK (S := touchO) (by simp [tabRu]) ⟨_, v, most, idle, M, a.conn, a.now, rfl, dN, t2, fun h3 c3 t3 => ?_⟩
      obtain ⟨k1, k2, k3, k4, k5, k6, k7, k8⟩ := kept h3 c3
      rw [box_load k1 k2]
      simp only [offV_ptr, bindV_some, loadV_ptr, k3, loadM_cells, partV_one, A1, A3, Nat.zero_add]
      refine cK (S := rtouchO) (by simp [tabRu]) ⟨E, lv, most, idle, M, a.conn, a.now, rfl, by omega, rr, k1, fun h4 lv' c4 r4 => ?_⟩
      obtain ⟨q1, q2⟩ := touch_as rk most a.conn a.now
      rw [← q2] at r4
      rw [q1]
      simp only [twoR, extV_two0, extV_two1, bindV_some]
      refine runs_store dD k7 d8 k8 t3 c4 r4 rfl k2 k4 n0 k6 k5 (by omega) k3 fun h5 s5 na oa => ?_
      simp only [idG_eq]
      exact fin h5 _ _ _ s5 na oa (uniq_touch u rr most a.conn a.now) (good_touch g rr most a.conn an)
    rw [if_neg d4']
    simp only [idG_eq]
    exact fin h2 _ _ _ s2 (by omega) o2 u g
def runsLawO : Abs.Spec := fun args h k => ∃ (n idle : Int) (v : Value) (l : List SAct), args = [.int .i64 n, .int .i64 idle, v] ∧ In64 idle ∧ (∀ a ∈ l, In64 a.now) ∧ SliceAt (· < h.next) h v l.length 4 (rowA l) ∧ ∀ h', k (.bool true) h'
theorem runsLawO_good : SpecGood Try.prog (5, runsLawO) := by
  refine spec_good mixed Try.func5 (by kernel_rfl) (by kernel_rfl) (tab := tabRu) tabRu_good (keep := tiltyardlaw10_SessionRuns_keep) ?_
  rintro args h k ⟨n, idle, x2, l, rfl, hid, hnow, sl, H⟩
  refine ⟨l.length + 2, ?_⟩
  show tiltyardlaw10_SessionRuns (tabC tabRu) idG _ (.int .i64 n) (.int .i64 idle) x2 h (KK k)
  rw [tiltyardlaw10_SessionRuns_eq]
  simp only [binNil_int, binV_gtr, bindV_some, groupK_eq, guardK_bool, decide_eq_false_iff_not]
  by_cases h1 : n > 30
  · rw [if_neg (fun hh => hh h1)]
    simp only [h1, decide_true, idG_eq, pickV_bool, if_true, bindV_some, condK_bool]
    exact ⟨h, St.le.refl _, H h⟩
  · rw [if_pos h1]
    simp only [sl.len, binNil_int, binV_gtr, bindV_some, h1, decide_false, idG_eq, getT, pickV_bool, Bool.false_eq_true, if_false, condK_bool, decide_eq_true_eq]
    by_cases h2 : (l.length : Int) > 60
    · rw [if_pos h2]
      exact ⟨h, St.le.refl _, H h⟩
    · rw [if_neg h2]
      simp only [idG_eq]
      refine cK (S := snewO) (by simp [tabRu]) ⟨n, idle, rfl, by omega, fun h3 v c3 t3 => ?_⟩
      have e : (if n > 0 then n else 0) = ((n.toNat : Nat) : Int) := by split <;> omega
      simp only [maxV, if_true, e, bindV_some, encR_build]
      refine allocE_in fun h4 c4 n4 o4 => ?_
      refine storeE_all o4 rfl rfl rfl fun h5 c5 n5 o5 => ?_
      have o5 : h5.objs h3.next = some (.cells [.slice none 0 0, .int .i64 (n.toNat : Int), .int .i64 idle] true) := o5
      have m3 := c3.1
      have c35 : Chg h3 h5 [] := c4.new c5 (Nat.le_refl _)
      have t5 : TbS (fun j => h.next ≤ j ∧ j ≠ h3.next) h5 v n.toNat idle [] := (t3.imp fun j hj hh => ⟨hh, by omega⟩).chg0 c35
      have t3' := t3
      obtain ⟨tp, rv, rfl, _⟩ := t3'
      simp only [binNil_ptr_eql, Option.isNone_some, bindV_some, condK_bool, Bool.false_eq_true, if_false, idG_eq]
      refine runs_l0 (most := n.toNat) sl (by omega) hnow hid (by omega) H l.length 0 _ h5 [] _ _ _ _ _ (by omega) (by omega) ⟨fun j => h.next ≤ j ∧ j ≠ h3.next, fun _ => False, _, fun j hj => hj.1, fun j hj => ⟨by omega, by omega⟩, fun hh => hh.2 rfl, fun j hj => hj.elim, t5, .inl ⟨rfl, rfl, rfl⟩, o5, by omega, by omega, (c3.nil _).seq c35⟩ (by intro x hx; cases hx) (by intro x hx; cases hx)
end Go.Proofs.Ytnelcpabjpchnaa
