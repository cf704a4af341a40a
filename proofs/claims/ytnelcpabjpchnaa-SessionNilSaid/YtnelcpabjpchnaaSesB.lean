/- Sessions: which, Conn, Idle, Players, Login. -/
import Derived.Test.YtnelcpabjpchnaaSesA
set_option linter.unusedSimpArgs false
set_option linter.unusedVariables false
set_option maxHeartbeats 4000000
namespace Go.Proofs.Ytnelcpabjpchnaa
open Go.Abs Go.IntWalk
attribute [local congr] bindV_weak condK_weak guardK_weak groupK_weak allocE_weak boxE_weak storeE_weak storeM_weak tabC_weak ite_weak idG_weak appendE_weak buildSliceE_weak mapUpdateE_weak deleteE_weak makeMapE_weak copyE_weak clearE_weak callE_weak

/-! ### times -/
def tadd (a s : Int) : Int := if a > IntKind.i64.wrap (9223372036854775807 - (if s > 0 then s else 0)) then 9223372036854775807 else IntKind.i64.wrap (a + (if s > 0 then s else 0))
def taddO : Abs.Spec := fun args h k => ∃ a s : Int, args = [.int .i64 a, .int .i64 s] ∧ k (.int .i64 (tadd a s)) h
theorem taddO_good : SpecGood Try.prog (29, taddO) := by
  refine spec_good mixed Try.func29 (by kernel_rfl) (by kernel_rfl) (tab := []) (by simp) (keep := timer_Add_keep) ?_
  rintro args h k ⟨a, s, rfl, H⟩
  refine ⟨0, ?_⟩
  show timer_Add (tabC _) idG 0 (.int .i64 a) (.int .i64 s) h _
  rw [timer_Add_eq]
  unfold tadd at H
  obtain ⟨m, hm⟩ : ∃ m, m = (if s > 0 then s else 0) := ⟨_, rfl⟩
  rw [← hm] at H
  simp only [maxV, if_true, ← hm, bindV_some, binNil_int, binV_sub, binV_gtr, condK_bool, decide_eq_true_eq]
  by_cases hh : a > IntKind.i64.wrap (9223372036854775807 - m)
  · rw [if_pos hh] at H
    rw [if_pos hh]
    exact ⟨h, St.le.refl _, H⟩
  · rw [if_neg hh] at H
    rw [if_neg hh]
    simp only [idG_eq, binV_add, bindV_some]
    exact ⟨h, St.le.refl _, H⟩
/-! ### what is asked of a connection -/
def players1O : Abs.Spec := fun args h k => ∃ x : Lk, args = [encL x] ∧ ∀ h', Chg h h' [] → k (.bool (decide (x.player ≠ 0))) h'
theorem players1O_good : SpecGood Try.prog (36, players1O) := by
  refine spec_good mixed Try.func36 (by kernel_rfl) (by kernel_rfl) (tab := []) (by simp) (keep := ses_Players1_keep) ?_
  rintro args h k ⟨x, rfl, H⟩
  refine ⟨0, ?_⟩
  show ses_Players1 (tabC _) idG 0 (encL x) h _
  rw [ses_Players1_eq]
  refine boxE_in rfl fun h1 c1 n1 o1 => ?_
  have o1 : h1.objs h.next = some (.cells [.int .u32 (x.player : Int), .int .i64 x.last] true) := o1
  have e : decide ((x.player : Int) ≠ 0) = decide (x.player ≠ 0) := decide_eq_decide.2 (by omega)
  simp only [offV_ptr, bindV_some, loadV_ptr, o1, loadM_cells, partV_one, List.getElem?_cons_zero, Nat.zero_add, binNil_int, binV_neq, e]
  exact ⟨h1, St.le.refl _, H h1 c1⟩
def isAt (p : Nat) (x : Lk) : Bool := decide (p ≠ 0) && decide (x.player = p)
def conn1O : Abs.Spec := fun args h k => ∃ (x : Lk) (p b : Nat), args = [encL x, .pointer (some ⟨b, 0, none⟩)] ∧ b < h.next ∧ h.objs b = some (.cells [.int .u32 (p : Int)] true) ∧ ∀ h', Chg h h' [] → k (.bool (isAt p x)) h'
theorem conn1O_good : SpecGood Try.prog (35, conn1O) := by
  refine spec_good mixed Try.func35 (by kernel_rfl) (by kernel_rfl) (tab := []) (by simp) (keep := ses_Conn1_keep) ?_
  rintro args h k ⟨x, p, b, rfl, bn, ob, H⟩
  refine ⟨0, ?_⟩
  show ses_Conn1 (tabC _) idG 0 (encL x) (.pointer (some ⟨b, 0, none⟩)) h _
  rw [ses_Conn1_eq]
  refine boxE_in rfl fun h1 c1 n1 o1 => ?_
  have o1 : h1.objs h.next = some (.cells [.int .u32 (x.player : Int), .int .i64 x.last] true) := o1
  have ob1 := c1.at0 bn ob
  simp only [bindV_some, loadV_ptr, ob1, loadM_cells, partV_one, List.getElem?_cons_zero, binNil_int, binV_neq, groupK_eq, guardK_bool, decide_eq_true_eq]
  unfold isAt at H
  by_cases hp : p = 0
  · have hp' : ¬ (p : Int) ≠ 0 := by omega
    rw [if_neg hp']
    rw [decide_eq_false (by simpa using hp), Bool.false_and] at H
    simp only [idG_eq, hp', decide_false, pickV_bool, Bool.false_eq_true, if_false, bindV_some]
    exact ⟨h1, St.le.refl _, H h1 c1⟩
  · have hp' : (p : Int) ≠ 0 := by omega
    rw [if_pos hp']
    rw [decide_eq_true hp, Bool.true_and] at H
    have e : decide ((x.player : Int) = (p : Int)) = decide (x.player = p) := decide_eq_decide.2 (by omega)
    simp only [offV_ptr, bindV_some, loadV_ptr, o1, ob1, loadM_cells, partV_one, List.getElem?_cons_zero, Nat.zero_add, binV_eql, e, idG_eq]
    rw [decide_eq_true hp']
    simp only [getT, pickV_bool, if_true, bindV_some]
    exact ⟨h1, St.le.refl _, H h1 c1⟩
def isIdle (idle now : Int) (x : Lk) : Bool := decide (now ≥ tadd x.last idle)
def idle1O : Abs.Spec := fun args h k => ∃ (x : Lk) (now idle : Int) (rv : Value) (b3 b2 t : Nat), args = [encL x, .pointer (some ⟨b3, 0, none⟩), .pointer (some ⟨b2, 0, none⟩)] ∧ b3 < h.next ∧ h.objs b3 = some (.cells [.int .i64 now] true) ∧
  b2 < h.next ∧ h.objs b2 = some (.cells [.pointer (some ⟨t, 0, none⟩)] true) ∧ t < h.next ∧ h.objs t = some (.cells [rv, .int .i64 idle] true) ∧ ∀ h', Chg h h' [] → k (.bool (isIdle idle now x)) h'
theorem idle1O_good : SpecGood Try.prog (28, idle1O) := by
  refine spec_good mixed Try.func28 (by kernel_rfl) (by kernel_rfl) (tab := [(29, taddO)]) (by simp [taddO_good]) (keep := ses_Idle1_keep) ?_
  rintro args h k ⟨x, now, idle, rv, b3, b2, t, rfl, n3, o3, n2, o2, tn, ot, H⟩
  refine ⟨0, ?_⟩
  show ses_Idle1 (tabC _) idG 0 (encL x) (.pointer (some ⟨b3, 0, none⟩)) (.pointer (some ⟨b2, 0, none⟩)) h _
  rw [ses_Idle1_eq]
  refine boxE_in rfl fun h1 c1 n1 o1 => ?_
  have o1 : h1.objs h.next = some (.cells [.int .u32 (x.player : Int), .int .i64 x.last] true) := o1
  have p3 := c1.at0 n3 o3
  have p2 := c1.at0 n2 o2
  have pt := c1.at0 tn ot
  simp only [bindV_some, loadV_ptr, p3, loadM_cells, partV_one, List.getElem?_cons_zero]
  refine ⟨trivial, ?_⟩
  simp only [offV_ptr, bindV_some, loadV_ptr, o1, loadM_cells, partV_one, List.getElem?_cons_succ, List.getElem?_cons_zero, Nat.zero_add]
  refine ⟨trivial, ?_⟩
  simp only [bindV_some, loadV_ptr, p2, loadM_cells, partV_one, List.getElem?_cons_zero]
  refine ⟨trivial, ?_⟩
  simp only [nilV, offV_ptr, bindV_some, loadV_ptr, pt, loadM_cells, partV_one, List.getElem?_cons_succ, List.getElem?_cons_zero, Nat.zero_add]
  refine ⟨trivial, ?_⟩
  refine .inl ⟨rfl, x.last, idle, rfl, ⟨trivial, trivial, trivial, by simp only [loadV_ptr, p3, loadM_cells, partV_one, List.getElem?_cons_zero], trivial⟩, ?_⟩
  simp only [binV_geq, bindV_some]
  exact ⟨h1, St.le.refl _, H h1 c1⟩
/-! ### which -/
def tabCl : List (FuncId × Abs.Spec) := [(28, idle1O), (35, conn1O), (36, players1O)]
def tabWh : List (FuncId × Abs.Spec) := (18, connsO) :: (30, linkO) :: tabCl
theorem tabWh_good : ∀ p ∈ tabWh, SpecGood Try.prog p := by simp [tabWh, tabCl, connsO_good, linkO_good, idle1O_good, conn1O_good, players1O_good]
def idv (x : Lk) : Value := .int .u32 (x.conn : Int)
/-- What is asked of a connection is answered so. -/
def Asks (h0 : St) (M : List Lk) (g : FuncId) (caps : Array Value) (p : Lk → Bool) : Prop :=
  ∀ x ∈ M, ∀ h' (k : Cont), Chg h0 h' [] → (∀ h'', Chg h' h'' [] → k (.bool (p x)) h'') → tabC tabCl g (encL x :: caps.toList) h' k
def whichO : Abs.Spec := fun args h k => ∃ (D : Nat → Prop) (v : Value) (most : Nat) (idle : Int) (M : List Lk) (g : FuncId) (caps : Array Value) (p : Lk → Bool), args = [v, .func (.func g) #[] caps] ∧ TbS D h v most idle M ∧ Asks h M g caps p ∧
  ∀ h' sv, Chg h h' [] → OwnS (fun i => h.next ≤ i) h' sv 1 ((M.filter p).map idv) (M.filter p).length → k sv h'
theorem rise_of {M : List Lk} (r : RkL (M.map rk)) : M.Pairwise fun x y => x.conn < y.conn := by
  have := r.rise
  rw [List.pairwise_map] at this
  exact this
theorem getL_at {M : List Lk} (r : M.Pairwise fun x y => x.conn < y.conn) {x : Lk} (hx : x ∈ M) : getL M x.conn = some x := by
  induction M with
  | nil => cases hx
  | cons y M ih =>
    obtain ⟨r1, r2⟩ := List.pairwise_cons.1 r
    rw [getL]
    rcases List.mem_cons.1 hx with rfl | hx
    · rw [if_pos rfl]
    · have := r1 x hx
      rw [if_neg (by omega)]
      exact ih r2 hx
theorem own_row1 {D : Nat → Prop} {h0 h : St} {v : Value} {L : List Lk} {f : Lk → Value} (s : OwnS D h0 v 1 (L.map f) L.length) (c : Chg h0 h []) {i : Nat} (hi : i < L.length) (k : IntKind) :
    ∃ b o, idxS 1 v (.int k i) = some (.pointer (some ⟨b, o, none⟩)) ∧ ∃ cs, h.objs b = some (.cells cs true) ∧ cs[o]? = some (f L[i]) := by
  have s' : OwnS D h0 v 1 (L.flatMap fun x => [f x]) L.length := by
    have : (L.flatMap fun x => [f x]) = L.map f := by
      clear s hi
      induction L with
      | nil => rfl
      | cons x L ih => rw [List.flatMap_cons, ih, List.map_cons]; rfl
    rw [this]; exact s
  obtain ⟨b, o, g1, g2, g3, cs, g4, g5⟩ := s'.row (by simp) (List.getElem?_eq_getElem hi) k
  exact ⟨b, o, g1, cs, c.at0 g3 g4, by have := row_cell g5 0 (by omega); simpa using this⟩
theorem which_l0 {nn : Nat} {v x4 sv : Value} {D E : Nat → Prop} {most : Nat} {idle : Int} {M : List Lk} {g : FuncId} {caps : Array Value} {p : Lk → Bool} {h0 : St} {k : Cont} (s : TbS D h0 v most idle M) (cs : OwnS E h0 sv 1 (M.map idv) M.length) (A : Asks h0 M g caps p)
    (H : ∀ h' out, Chg h0 h' [] → OwnS (fun i => h0.next ≤ i) h' out 1 ((M.filter p).map idv) (M.filter p).length → k out h') :
    ∀ (d i m0 : Nat) (h : St) (out : Value), i + d = M.length → d < m0 → Chg h0 h [] → OwnS (fun i => h0.next ≤ i) h out 1 (((M.take i).filter p).map idv) ((M.take i).filter p).length →
      ses_which_l0 (tabC tabWh) idG nn m0 v (.func (.func g) #[] caps) x4 out sv (.int .i64 (M.length : Int)) (.int .i64 (i : Int)) h (fun v h1 => ∃ h2, St.le h2 h1 ∧ k v h2) := by
  intro d
  induction d with
  | zero =>
    intro i m0 h out hi hm c o
    obtain ⟨m0, rfl⟩ : ∃ m, m0 = m + 1 := ⟨m0 - 1, by omega⟩
    rw [ses_which_l0_eq]
    have e' : i = M.length := by omega
    subst e'
    rw [List.take_length] at o
    simp only [bindV_some, binV_lss, condK_bool, Int.lt_irrefl, decide_false, Bool.false_eq_true, if_false, idG_eq]
    rw [ses_which_j2_eq]
    exact ⟨h, St.le.refl _, H h out c o⟩
  | succ d ih =>
    intro i m0 h out hi hm c o
    obtain ⟨m0, rfl⟩ : ∃ m, m0 = m + 1 := ⟨m0 - 1, by omega⟩
    rw [ses_which_l0_eq]
    have hlt : (i : Int) < M.length := by omega
    obtain ⟨rr, few, mm⟩ := s.rows
    have inc : IntKind.i64.wrap ((i : Int) + 1) = ((i + 1 : Nat) : Int) := by rw [i64_in _ (by omega)]; omega
    obtain ⟨b, oo, g1, cc, g4, g5⟩ := own_row1 cs c (show i < M.length by omega) .i64
    have hx : M[i] ∈ M := List.getElem_mem _
    obtain ⟨x, ex⟩ : ∃ x, x = M[i] := ⟨_, rfl⟩
    rw [← ex] at g5 hx
    simp only [bindV_some, binV_lss, condK_bool, hlt, decide_true, if_true, idG_eq, g1, loadV_ptr, g4, loadM_cells, partV_one, g5, idv]
    refine .inr (.inl ⟨rfl, D, v, most, idle, M, x.conn, rfl, s.chg0 c, fun h1 c1 => ?_⟩)
    rw [getL_at (rise_of rr) hx]
    simp only [ansL, Option.getD_some, Option.isSome_some, extV_two0, extV_two1, bindV_some, encL]
    refine allocE_in fun h2 c2 n2 o2 => ?_
    refine storeE_all o2 rfl rfl rfl fun h3 c3 n3 o3 => ?_
    have m1 := c1.1
    have c13 : Chg h h3 [] := (c1.seq c2).new c3 (by omega)
    have c03 := c.seq c13
    have tk : takeN (Value.agg #[.int .u32 (x.player : Int), .int .i64 x.last]).cells.toList 0 2 = some [.int .u32 (x.player : Int), .int .i64 x.last] := rfl
    simp only [loadV_ptr, o3, loadM_cells, partV_agg, tk, Option.map_some, bindV_some]
    have tak : M.take (i + 1) = M.take i ++ [x] := by rw [ex]; exact List.take_succ_eq_append_getElem (by omega)
    unfold callE
    refine .inr (.inr ?_)
    refine A x hx h3 _ c03 fun h4 c4 => ?_
    have c04 := c03.seq c4
    have o4 : OwnS (fun i => h0.next ≤ i) h4 out 1 (((M.take i).filter p).map idv) ((M.take i).filter p).length := o.chg (c13.seq c4) (by simp)
    have lle : ((M.take i).filter p).length ≤ i := Nat.le_trans (List.length_filter_le ..) (by rw [List.length_take]; omega)
    simp only [condK_bool]
    cases hp : p x with
    | true =>
      rw [if_pos rfl]
      have m04 := c04.1
      have ext : ((M.take (i + 1)).filter p).map idv = ((M.take i).filter p).map idv ++ [.int .u32 (x.conn : Int)] := by
        rw [tak, List.filter_append, List.map_append, List.filter_cons_of_pos hp]; rfl
      have extl : ((M.take (i + 1)).filter p).length = ((M.take i).filter p).length + 1 := by
        rw [tak, List.filter_append, List.filter_cons_of_pos hp]; simp
      refine append_row (B := fun i => h0.next ≤ i) (fun j hj => by omega) o4 rfl rfl rfl rfl (by omega) (by omega) fun h5 out5 c5 s5 => ?_
      have c05 : Chg h0 h5 [] := ((c04.nil (fun i => h0.next ≤ i)).step c5).list fun j h1 h2 => by omega
      simp only [idG_eq]
      rw [ses_which_j1_eq]
      simp only [binNil_int, binV_add, bindV_some, inc, idG_eq]
      refine ih (i + 1) m0 h5 out5 (by omega) (by omega) c05 ?_
      rw [ext, extl]
      exact s5
    | false =>
      have same : (M.take (i + 1)).filter p = (M.take i).filter p := by
        rw [tak, List.filter_append, List.filter_cons_of_neg (by rw [hp]; simp)]; simp
      simp only [Bool.false_eq_true, if_false, idG_eq]
      rw [ses_which_j1_eq]
      simp only [binNil_int, binV_add, bindV_some, inc, idG_eq]
      refine ih (i + 1) m0 h4 out (by omega) (by omega) c04 ?_
      rw [same]
      exact o4
theorem whichO_good : SpecGood Try.prog (27, whichO) := by
  refine spec_good mixed Try.func27 (by kernel_rfl) (by kernel_rfl) (tab := tabWh) tabWh_good (keep := ses_which_keep) ?_
  rintro args h k ⟨D, v, most, idle, M, g, caps, p, rfl, s, A, H⟩
  refine ⟨M.length + 1, ?_⟩
  show ses_which (tabC _) idG _ v (.func (.func g) #[] caps) h _
  rw [ses_which_eq]
  refine .inl ⟨rfl, D, v, most, idle, M, rfl, s, fun h1 sv c1 s1 => ?_⟩
  simp only [s1.len, bindV_some, idG_eq]
  refine which_l0 (s.chg0 c1) s1 (fun x hx h' k c => A x hx h' k (c1.seq c)) (fun h' out c o => H h' out (c1.seq c) (o.imp fun i _ hi => Nat.le_trans c1.1 hi)) M.length 0 _ h1 _ (by omega) (by omega) (Chg.refl _ _) ?_
  exact .inl ⟨rfl, rfl, rfl⟩
def whichN : Abs.Spec := fun args h k => ∃ x : Value, args = [.pointer none, x] ∧ k (.slice none 0 0) h
theorem whichN_good : SpecGood Try.prog (27, whichN) := by
  refine spec_good mixed Try.func27 (by kernel_rfl) (by kernel_rfl) (tab := [(18, connsN)]) (by simp [connsN_good]) (keep := ses_which_keep) ?_
  rintro args h k ⟨x, rfl, H⟩
  refine ⟨1, ?_⟩
  show ses_which (tabC _) idG _ (.pointer none) x h _
  rw [ses_which_eq]
  refine .inl ⟨rfl, rfl, ?_⟩
  simp only [lenS_slice, bindV_some, idG_eq]
  rw [ses_which_l0_eq]
  simp only [binV_lss, bindV_some, condK_bool, Int.natCast_zero, Int.cast_ofNat_Int, Int.lt_irrefl, decide_false, Bool.false_eq_true, if_false, idG_eq]
  rw [ses_which_j2_eq]
  exact ⟨h, St.le.refl _, H⟩
end Go.Proofs.Ytnelcpabjpchnaa
