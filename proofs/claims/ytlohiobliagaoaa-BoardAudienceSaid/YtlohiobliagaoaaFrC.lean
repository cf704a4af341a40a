/- Friends: who, Links, full. -/
import Derived.Test.YtlohiobliagaoaaFrB
set_option linter.unusedSimpArgs false
set_option linter.unusedVariables false
set_option maxHeartbeats 4000000
namespace Go.Proofs.Ytlohiobliagaoaa
open Go.Abs Go.IntWalk
attribute [local congr] bindV_weak condK_weak guardK_weak groupK_weak allocE_weak boxE_weak storeE_weak storeM_weak tabC_weak ite_weak idG_weak appendE_weak buildSliceE_weak mapUpdateE_weak deleteE_weak makeMapE_weak copyE_weak clearE_weak callE_weak mapEntryE_weak entryStoreE_weak rangeE_weak nextE_weak

/-! ### rows that rise -/
/-! ### the closures -/
def pickTo (a w : Nat) (x : Ed) : Option Nat := if x.1 = a ∧ bit x.2.2 w = true then some x.2.1 else none
def pickBy (a : Nat) (x : Ed) : Option Nat := if x.2.1 = a ∧ bit x.2.2 1 = true then some x.1 else none
def box1 (h : St) (b : Nat) (v : Value) : Prop := b < h.next ∧ h.objs b = some (.cells [v] true)
theorem box1.chg0 {h h' : St} {b : Nat} {v : Value} (x : box1 h b v) (c : Chg h h' []) : box1 h' b v := ⟨Nat.lt_of_lt_of_le x.1 c.1, c.at0 x.1 x.2⟩
def pr1 (b : Nat) : Value := .pointer (some ⟨b, 0, none⟩)
def pick11O : Abs.Spec := fun args h k => ∃ (x : Ed) (a w p q : Nat), args = [ekE x, evE x, pr1 p, pr1 q] ∧ x.2.2 < 8 ∧ w < 8 ∧ box1 h p (.int .u32 (a : Int)) ∧ box1 h q (.int .i64 (w : Int)) ∧
  ∀ h', Chg h h' [] → k (.tuple #[.int .u32 (x.2.1 : Int), .bool (decide (x.1 = a) && bit x.2.2 w)]) h'
theorem pick11O_good : SpecGood Try.prog (47, pick11O) := by
  refine spec_good mixed Try.func47 (by kernel_rfl) (by kernel_rfl) (tab := []) (by simp) (keep := fr_Links11_keep) ?_
  rintro args h k ⟨⟨c, d, u⟩, a, w, p, q, rfl, hx, hw, ⟨pn, op⟩, ⟨qn, oq⟩, H⟩
  refine ⟨0, ?_⟩
  show fr_Links11 (tabC _) idG 0 (keyE c d) (.int .i64 (u : Int)) (pr1 p) (pr1 q) h _
  rw [fr_Links11_eq]
  refine boxE_in rfl fun h1 c1 n1 o1 => ?_
  have o1 : h1.objs h.next = some (.cells [.int .u32 (c : Int), .int .u32 (d : Int)] true) := o1
  have op1 := c1.at0 pn op
  have oq1 := c1.at0 qn oq
  simp only [offV_ptr, bindV_some, loadV_ptr, o1, loadM_cells, partV_one, List.getElem?_cons_zero, List.getElem?_cons_succ, Nat.zero_add]
  refine ⟨trivial, ?_⟩
  simp only [offV_ptr, bindV_some, loadV_ptr, o1, loadM_cells, partV_one, List.getElem?_cons_zero, List.getElem?_cons_succ, Nat.zero_add]
  refine ⟨trivial, ?_⟩
  simp only [pr1, bindV_some, loadV_ptr, op1, loadM_cells, partV_one, List.getElem?_cons_zero, Nat.zero_add]
  refine ⟨trivial, ?_⟩
  have e1 : decide ((c : Int) = (a : Int)) = decide (c = a) := decide_eq_decide.2 (by omega)
  have hx : u < 8 := hx
  simp only [binV_eql, bindV_some, groupK_eq, guardK_bool, e1, decide_eq_true_eq]
  have H : ∀ h', Chg h h' [] → k (.tuple #[.int .u32 (d : Int), .bool (decide (c = a) && bit u w)]) h' := H
  by_cases e : c = a
  · rw [if_pos e]
    rw [decide_eq_true e, Bool.true_and] at H
    simp only [pr1, bindV_some, loadV_ptr, oq1, loadM_cells, partV_one, List.getElem?_cons_zero, Nat.zero_add]
    refine ⟨trivial, ?_⟩
    simp only [bv_and hx hw, bindV_some, binNil_int, binV_neq, bit_int, idG_eq, decide_eq_true e, pickV_bool, if_true, getT]
    exact ⟨h1, St.le.refl _, H h1 c1⟩
  · rw [if_neg e]
    rw [decide_eq_false e, Bool.false_and] at H
    simp only [idG_eq, decide_eq_false e, pickV_bool, Bool.false_eq_true, if_false, bindV_some]
    exact ⟨h1, St.le.refl _, H h1 c1⟩
def pick2O : Abs.Spec := fun args h k => ∃ (x : Ed) (a p : Nat), args = [ekE x, evE x, pr1 p] ∧ x.2.2 < 8 ∧ box1 h p (.int .u32 (a : Int)) ∧
  ∀ h', Chg h h' [] → k (.tuple #[.int .u32 (x.1 : Int), .bool (decide (x.2.1 = a) && bit x.2.2 1)]) h'
theorem pick2O_good : SpecGood Try.prog (48, pick2O) := by
  refine spec_good mixed Try.func48 (by kernel_rfl) (by kernel_rfl) (tab := []) (by simp) (keep := fr_Links2_keep) ?_
  rintro args h k ⟨⟨c, d, u⟩, a, p, rfl, hx, ⟨pn, op⟩, H⟩
  refine ⟨0, ?_⟩
  show fr_Links2 (tabC _) idG 0 (keyE c d) (.int .i64 (u : Int)) (pr1 p) h _
  rw [fr_Links2_eq]
  refine boxE_in rfl fun h1 c1 n1 o1 => ?_
  have o1 : h1.objs h.next = some (.cells [.int .u32 (c : Int), .int .u32 (d : Int)] true) := o1
  have op1 := c1.at0 pn op
  have e1 : decide ((d : Int) = (a : Int)) = decide (d = a) := decide_eq_decide.2 (by omega)
  have hx : u < 8 := hx
  have an : binNil .and .other (.int .i64 (u : Int)) (.int .i64 1) = some (.int .i64 ((u &&& 1 : Nat) : Int)) := by
    rw [binNil_int]; exact bv_and (k := 1) hx (by omega)
  simp only [pr1, offV_ptr, bindV_some, loadV_ptr, o1, op1, loadM_cells, partV_one, List.getElem?_cons_zero, List.getElem?_cons_succ, Nat.zero_add, binV_eql, groupK_eq, guardK_bool, e1, decide_eq_true_eq]
  have H : ∀ h', Chg h h' [] → k (.tuple #[.int .u32 (c : Int), .bool (decide (d = a) && bit u 1)]) h' := H
  by_cases e : d = a
  · rw [if_pos e]
    rw [decide_eq_true e, Bool.true_and] at H
    simp only [an, bindV_some, binNil_int, binV_neq, bit_int, idG_eq, decide_eq_true e, pickV_bool, if_true, getT]
    exact ⟨h1, St.le.refl _, H h1 c1⟩
  · rw [if_neg e]
    rw [decide_eq_false e, Bool.false_and] at H
    simp only [idG_eq, decide_eq_false e, pickV_bool, Bool.false_eq_true, if_false, bindV_some]
    exact ⟨h1, St.le.refl _, H h1 c1⟩
/-! ### who -/
def tabPk : List (FuncId × Abs.Spec) := [(47, pick11O), (48, pick2O)]
def Picks (h0 : St) (g : FuncId) (caps : Array Value) (pick : Ed → Option Nat) : Prop :=
  ∀ (x : Ed), x.2.2 < 8 → ∀ h' (k : Cont), Chg h0 h' [] → (∀ h'' (id : Nat) (b : Bool), Chg h' h'' [] → (pick x = if b = true then some id else none) → k (.tuple #[.int .u32 (id : Int), .bool b]) h'') → tabC tabPk g (ekE x :: evE x :: caps.toList) h' k
theorem picks_to {h0 : St} {a w p q : Nat} (hw : w < 8) (bp : box1 h0 p (.int .u32 (a : Int))) (bq : box1 h0 q (.int .i64 (w : Int))) : Picks h0 47 #[pr1 p, pr1 q] (pickTo a w) := by
  intro x hx h' k c H
  refine cK (S := pick11O) (by simp [tabPk]) ⟨x, a, w, p, q, rfl, hx, hw, bp.chg0 c, bq.chg0 c, fun h'' c' => H h'' _ _ c' ?_⟩
  unfold pickTo
  by_cases e1 : x.1 = a
  · simp [e1]
  · simp [e1]
theorem picks_by {h0 : St} {a p : Nat} (bp : box1 h0 p (.int .u32 (a : Int))) : Picks h0 48 #[pr1 p] (pickBy a) := by
  intro x hx h' k c H
  refine cK (S := pick2O) (by simp [tabPk]) ⟨x, a, p, rfl, hx, bp.chg0 c, fun h'' c' => H h'' _ _ c' ?_⟩
  unfold pickBy
  by_cases e1 : x.2.1 = a
  · simp [e1]
  · simp [e1]
/-- A graph, or none. -/
def GrV (D : Nat → Prop) (h : St) (v : Value) (N : Nat) (F : Fn) : Prop := GrS D h v N F ∨ (v = .pointer none ∧ F = fun _ _ => 0)
theorem GrV.chg0 {D : Nat → Prop} {h h' : St} {v : Value} {N : Nat} {F : Fn} (s : GrV D h v N F) (c : Chg h h' []) : GrV D h' v N F := s.imp (fun s => s.chg0 c) id
theorem GrV.ok {D : Nat → Prop} {h : St} {v : Value} {N : Nat} {F : Fn} (s : GrV D h v N F) : FOk F := by
  rcases s with s | ⟨_, rfl⟩
  · exact s.ok
  · exact FOk.none
theorem GrV.one {D : Nat → Prop} {h : St} {v : Value} {N : Nat} {F : Fn} (s : GrV D h v N F) : v.cells = #[v] ∧ Abs.one v = true := by
  rcases s with ⟨g, m, rfl, _⟩ | ⟨rfl, _⟩ <;> exact ⟨rfl, rfl⟩
def whoO : Abs.Spec := fun args h k => ∃ (D : Nat → Prop) (v : Value) (N : Nat) (F : Fn) (g : FuncId) (caps : Array Value) (pick : Ed → Option Nat), args = [v, .func (.func g) #[] caps] ∧ N ≤ 255 ∧ GrV D h v N F ∧ Picks h g caps pick ∧
  ∀ h' sv (R : List Nat), Chg h h' [] → OwnS (fun i => h.next ≤ i) h' sv 1 (R.map idq) R.length → R.Pairwise (· ≤ ·) → R.length ≤ 255 → (∃ L, Is L F ∧ R.Perm (L.filterMap pick)) → k sv h'
theorem ext_one (b : Bool) : extV 0 (.tuple #[.bool b]) = some (.bool b) := by simp [extV]
theorem ext_next0 (x y : Value) : extV 0 (.tuple #[.bool true, x, y]) = some (.bool true) := by simp [extV]
def tabWho : List (FuncId × Abs.Spec) := (42, sortO) :: tabPk
theorem tabWho_good : ∀ p ∈ tabWho, SpecGood Try.prog p := by simp [tabWho, tabPk, sortO_good, pick11O_good, pick2O_good]
theorem who_j1 {nn it : Nat} {x1 x4 x16 : Value} {h0 h : St} {k : Cont} {out : Value} {got : List Nat} (len : got.length ≤ 255) (c : Chg h0 h []) (o : OwnS (fun i => h0.next ≤ i) h out 1 (got.map idq) got.length)
    (H : ∀ h' sv (R : List Nat), Chg h0 h' [] → OwnS (fun i => h0.next ≤ i) h' sv 1 (R.map idq) R.length → R.Pairwise (· ≤ ·) → R.Perm got → k sv h') :
    fr_who_j1 (tabC tabWho) idG nn x1 x4 out x16 h (fun v h1 => ∃ h2, St.le h2 h1 ∧ k v h2) := by
  rw [fr_who_j1_eq]
  have e1 : got.map idq = (got.map fun n : Nat => (n : Int)).map (Value.int .u32) := by rw [List.map_map]; rfl
  have e2 : (got.map fun n : Nat => (n : Int)).length = got.length := List.length_map ..
  refine cK (S := sortO) (by simp [tabWho]) ⟨_, out, got.map fun n : Nat => (n : Int), rfl, by rw [e2]; exact len, by rw [e2, ← e1]; exact o, fun h' L' c' o' p' s' => ?_⟩
  have e3 : L' = (L'.map Int.toNat).map fun n : Nat => (n : Int) := by
    rw [List.map_map]
    conv => lhs; rw [← List.map_id L']
    apply List.map_congr_left
    intro x hx
    obtain ⟨n, _, rfl⟩ := List.mem_map.1 (p'.mem_iff.1 hx)
    simp
  have p2 : (L'.map Int.toNat).Perm got := by
    have := p'.map Int.toNat
    rw [List.map_map] at this
    refine this.trans (.of_eq ?_)
    conv => rhs; rw [← List.map_id got]
    apply List.map_congr_left
    intro x hx
    simp
  refine ⟨h', St.le.refl _, H h' out (L'.map Int.toNat) (((c.nil _).trans c' (fun _ _ h => h) (fun _ _ h => h)).list fun j h1 h2 => by omega) ?_ ?_ p2⟩
  · have : ∀ M : List Nat, M.map idq = (M.map fun n : Nat => (n : Int)).map (Value.int .u32) := by intro M; rw [List.map_map]; rfl
    rw [this, ← e3, List.length_map]; exact o'
  · rw [e3] at s'
    rw [List.pairwise_map] at s'
    exact s'.imp fun h => by omega
theorem who_l0 {nn m it : Nat} {x4 : Value} {h0 : St} {k : Cont} {g : FuncId} {caps : Array Value} {pick : Ed → Option Nat} {full : List Nat} (A : Picks h0 g caps pick) (itm : it ≠ m) (mn : m < h0.next) (it0 : h0.next ≤ it) (len : full.length ≤ 255)
    (H : ∀ h' sv (R : List Nat), Chg h0 h' [] → OwnS (fun i => h0.next ≤ i) h' sv 1 (R.map idq) R.length → R.Pairwise (· ≤ ·) → R.Perm full → k sv h') :
    ∀ (n m0 : Nat) (left : List Ed) (got : List Nat) (h : St) (out : Value), n < m0 → Chg h0 h [] → Rng ekE evE h it m left n → (∀ x ∈ left, x.2.2 < 8) → (got ++ left.filterMap pick).Perm full → OwnS (fun i => h0.next ≤ i ∧ i ≠ it) h out 1 (got.map idq) got.length →
      fr_who_l0 (tabC tabWho) idG nn m0 (.func (.func g) #[] caps) x4 out (.pointer (some ⟨it, 0, none⟩)) h (fun v h1 => ∃ h2, St.le h2 h1 ∧ k v h2) := by
  intro n
  induction n with
  | zero =>
    intro m0 left got h out hm c r lt pm o
    obtain ⟨m0, rfl⟩ : ∃ m, m0 = m + 1 := ⟨m0 - 1, by omega⟩
    rw [fr_who_l0_eq]
    refine r.next itm (fun _ e => ?_) fun n' _ _ _ _ e => by omega
    subst e
    simp only [ext_one, bindV_some, condK_bool, Bool.false_eq_true, if_false, idG_eq]
    have pm : got.Perm full := by simpa using pm
    exact who_j1 (it := it) (by rw [pm.length_eq]; exact len) c (o.imp fun _ _ h => h.1) fun h' sv R c' o' s' p' => H h' sv R c' o' s' (p'.trans pm)
  | succ n ih =>
    intro m0 left got h out hm c r lt pm o
    obtain ⟨m0, rfl⟩ : ∃ m, m0 = m + 1 := ⟨m0 - 1, by omega⟩
    rw [fr_who_l0_eq]
    refine r.next itm (fun e _ => by omega) fun n' LA x LC h1 en el c1 n1 r1 ent => ?_
    have en : n' = n := by omega
    subst en
    subst el
    simp only [ext_next0, bindV_some, condK_bool, if_true, idG_eq, ent, extV_two0, extV_two1]
    refine allocE_in fun h2 c2 n2 o2 => ?_
    refine storeE_all o2 rfl rfl rfl fun h3 c3 n3 o3 => ?_
    have o3 : h3.objs h1.next = some (.cells [.int .u32 (x.1 : Int), .int .u32 (x.2.1 : Int)] true) := o3
    have tk : takeN [Value.int .u32 (x.1 : Int), .int .u32 (x.2.1 : Int)] 0 2 = some [.int .u32 (x.1 : Int), .int .u32 (x.2.1 : Int)] := rfl
    have key : (Value.agg [Value.int .u32 (x.1 : Int), .int .u32 (x.2.1 : Int)].toArray) = ekE x := rfl
    simp only [loadV_ptr, o3, loadM_cells, partV_agg, tk, Option.map_some, bindV_some, key]
    have mc0 := c.1
    have c13 : Chg h1 h3 [] := c2.new c3 (by omega)
    have c01 : Chg h0 h1 [] := c.new c1 (by omega)
    have c03 := c01.seq c13
    unfold callE
    refine .inr ?_
    refine A x (lt x (by simp)) h3 _ c03 fun h4 id b c4 pe => ?_
    have c04 := c03.seq c4
    have r4 := r1.chgP ((c13.seq c4).nil fun _ => False) (fun h => h) (fun h => h)
    have o4 : OwnS (fun i => h0.next ≤ i ∧ i ≠ it) h4 out 1 (got.map idq) got.length := (o.chg c1 (by simp)).chg (c13.seq c4) (by simp)
    have itn := r1.1
    simp only [extV_two0, extV_two1, bindV_some, condK_bool]
    have lt' : ∀ y ∈ LA ++ LC, y.2.2 < 8 := fun y hy => lt y (by
      rcases List.mem_append.1 hy with hy | hy
      · simp [hy]
      · simp [hy])
    have ll : got.length ≤ 255 := by
      have := pm.length_eq
      rw [List.length_append] at this; omega
    have m04 := c04.1
    have m13 := c13.1
    have m4 := c4.1
    cases b with
    | true =>
      rw [if_pos rfl]
      refine append_row (B := fun i => h0.next ≤ i ∧ i ≠ it) (fun j hj => ⟨by omega, by omega⟩) o4 rfl rfl rfl rfl (by omega) (by omega) fun h5 out5 c5 s5 => ?_
      have c05 : Chg h0 h5 [] := ((c04.nil (fun i => h0.next ≤ i)).step (c5.mono fun _ _ h => h.1)).list fun j h1 h2 => by omega
      have r5 := r4.chgP c5 (by simp) (fun hh => by have := hh.1; omega)
      refine ih m0 (LA ++ LC) (got ++ [id]) h5 out5 (by omega) c05 r5 lt' ?_ ?_
      · refine .trans ?_ pm
        have pe : pick x = some id := by simpa using pe
        rw [List.filterMap_append, List.filterMap_append, List.filterMap_cons_some pe, List.append_assoc]
        refine List.Perm.append_left _ ?_
        rw [List.singleton_append]
        exact List.perm_middle.symm
      · rw [List.map_append, List.length_append]; exact s5
    | false =>
      simp only [Bool.false_eq_true, if_false]
      have pe : pick x = none := by simpa using pe
      refine ih m0 (LA ++ LC) got h4 out (by omega) c04 r4 lt' ?_ o4
      refine .trans (.of_eq ?_) pm
      rw [List.filterMap_append, List.filterMap_append, List.filterMap_cons_none pe]
theorem whoO_good : SpecGood Try.prog (46, whoO) := by
  refine spec_good mixed Try.func46 (by kernel_rfl) (by kernel_rfl) (tab := tabWho) tabWho_good (keep := fr_who_keep) ?_
  rintro args h k ⟨D, v, N, F, g, caps, pick, rfl, hN, s, A, H⟩
  refine ⟨N + 1, ?_⟩
  show fr_who (tabC _) idG _ v (.func (.func g) #[] caps) h _
  rw [fr_who_eq]
  rcases s with ⟨gg, m, rfl, dg, gm, gn, og, f, L, ma, i, l⟩ | ⟨rfl, rfl⟩
  · have e1 : binNil .neq .ptr (.pointer (some ⟨gg, 0, none⟩)) (.pointer none) = some (.bool true) := rfl
    rw [e1]
    simp only [bindV_some, condK_bool, if_true, nilV, offV_ptr, loadV_ptr, og, loadM_cells, partV_one, List.getElem?_cons_zero, Nat.zero_add]
    have mn := ma.2.1
    refine ma.range lit_ek fun h1 c1 n1 r1 => ?_
    simp only [idG_eq]
    have ll : (L.filterMap pick).length ≤ 255 := Nat.le_trans (List.length_filterMap_le ..) (by omega)
    refine who_l0 A (by omega) mn (Nat.le_refl _) ll (fun h' sv R c o so p => H h' sv R c o so (by rw [p.length_eq]; exact ll) ⟨L, i, p⟩) L.length _ L [] h1 _ (by omega) c1 r1 (fun x hx => ?_) (by simp) (.inl ⟨rfl, rfl, rfl⟩)
    rw [← i.val x hx]; exact f.lt _ _
  · have e1 : binNil .neq .ptr (.pointer none) (.pointer none) = some (.bool false) := rfl
    rw [e1]
    simp only [bindV_some, condK_bool, Bool.false_eq_true, if_false, idG_eq]
    exact who_j1 (it := 0) (got := []) (by simp) (Chg.refl _ _) (.inl ⟨rfl, rfl, rfl⟩) fun h' sv R c o so p => H h' sv R c o so (by rw [p.length_eq]; simp) ⟨[], Is.nil, p⟩
/-! ### Links -/
theorem bit_zero (w : Nat) : bit 0 w = false := by simp [bit]
theorem ups_to {L : List Ed} {F : Fn} {a w : Nat} {R : List Nat} (i : Is L F) (f : FOk F) (s : R.Pairwise (· ≤ ·)) (p : R.Perm (L.filterMap (pickTo a w))) : R = ups fun y => bit (F a y) w := by
  have some_iff : ∀ x y, pickTo a w x = some y ↔ x.1 = a ∧ bit x.2.2 w = true ∧ x.2.1 = y := by
    intro x y
    unfold pickTo
    by_cases h : x.1 = a ∧ bit x.2.2 w = true
    · simp [h]
    · rw [if_neg h]; simp; intro h1 h2; exact absurd ⟨h1, h2⟩ h
  have nd : (L.filterMap (pickTo a w)).Nodup := by
    unfold List.Nodup
    rw [List.pairwise_filterMap]
    refine i.nd.imp fun {x y} hxy b hb b' hb' e => ?_
    rw [some_iff] at hb hb'
    exact hxy ⟨by rw [hb.1, hb'.1], by rw [hb.2.2, hb'.2.2]; exact e⟩
  refine ups_eq (lt_or_rise s (p.nodup_iff.2 nd)) fun y => ?_
  rw [p.mem_iff, List.mem_filterMap]
  constructor
  · rintro ⟨x, hx, e⟩
    rw [some_iff] at e
    have := i.val x hx
    rw [e.1, e.2.2] at this
    have nz : F a y ≠ 0 := fun h => by rw [this] at h; rw [h, bit_zero] at e; simp at e
    refine ⟨?_, by rw [this]; exact e.2.1⟩
    rw [topId_eq]; have := (f.rd a y nz).2.2; omega
  · rintro ⟨_, hb⟩
    have nz : F a y ≠ 0 := fun h => by rw [h, bit_zero] at hb; cases hb
    exact ⟨_, i.all a y nz, (some_iff _ _).2 ⟨rfl, hb, rfl⟩⟩
theorem ups_by {L : List Ed} {F : Fn} {a : Nat} {R : List Nat} (i : Is L F) (f : FOk F) (s : R.Pairwise (· ≤ ·)) (p : R.Perm (L.filterMap (pickBy a))) : R = ups fun x => bit (F x a) 1 := by
  have some_iff : ∀ x y, pickBy a x = some y ↔ x.2.1 = a ∧ bit x.2.2 1 = true ∧ x.1 = y := by
    intro x y
    unfold pickBy
    by_cases h : x.2.1 = a ∧ bit x.2.2 1 = true
    · simp [h]
    · rw [if_neg h]; simp; intro h1 h2; exact absurd ⟨h1, h2⟩ h
  have nd : (L.filterMap (pickBy a)).Nodup := by
    unfold List.Nodup
    rw [List.pairwise_filterMap]
    refine i.nd.imp fun {x y} hxy b hb b' hb' e => ?_
    rw [some_iff] at hb hb'
    exact hxy ⟨by rw [hb.2.2, hb'.2.2]; exact e, by rw [hb.1, hb'.1]⟩
  refine ups_eq (lt_or_rise s (p.nodup_iff.2 nd)) fun y => ?_
  rw [p.mem_iff, List.mem_filterMap]
  constructor
  · rintro ⟨x, hx, e⟩
    rw [some_iff] at e
    have := i.val x hx
    rw [e.1, e.2.2] at this
    have nz : F y a ≠ 0 := fun h => by rw [this] at h; rw [h, bit_zero] at e; simp at e
    refine ⟨?_, by rw [this]; exact e.2.1⟩
    rw [topId_eq]; have := (f.rd y a nz).1.2; omega
  · rintro ⟨_, hb⟩
    have nz : F y a ≠ 0 := fun h => by rw [h, bit_zero] at hb; cases hb
    exact ⟨_, i.all y a nz, (some_iff _ _).2 ⟨rfl, hb, rfl⟩⟩
noncomputable def tos (F : Fn) (w a : Nat) : List Nat := ups fun y => bit (F a y) w
noncomputable def bys (F : Fn) (a : Nat) : List Nat := ups fun x => bit (F x a) 1
def links1O : Abs.Spec := fun args h k => ∃ (D : Nat → Prop) (v : Value) (N : Nat) (F : Fn) (a w p q : Nat), args = [.int .i64 (w : Int), pr1 p, pr1 q] ∧ w < 8 ∧ N ≤ 255 ∧ GrV D h v N F ∧ box1 h p v ∧ box1 h q (.int .u32 (a : Int)) ∧
  ∀ h' sv, Chg h h' [] → OwnQ (fun i => h.next ≤ i) h' sv (tos F w a) → (tos F w a).length ≤ 255 → k sv h'
theorem links1O_good : SpecGood Try.prog (45, links1O) := by
  refine spec_good mixed Try.func45 (by kernel_rfl) (by kernel_rfl) (tab := [(46, whoO)]) (by simp [whoO_good]) (keep := fr_Links1_keep) ?_
  rintro args h k ⟨D, v, N, F, a, w, p, q, rfl, hw, hN, s, bp, bq, H⟩
  refine ⟨0, ?_⟩
  show fr_Links1 (tabC _) idG 0 (.int .i64 (w : Int)) (pr1 p) (pr1 q) h _
  rw [fr_Links1_eq]
  refine boxE_in rfl fun h1 c1 n1 o1 => ?_
  have bp1 := bp.chg0 c1
  simp only [pr1, loadV_ptr, bp1.2, loadM_cells, partV_one, List.getElem?_cons_zero, bindV_some]
  refine cK (S := whoO) (by simp) ⟨D, v, N, F, 47, #[pr1 q, pr1 h.next], pickTo a w, rfl, hN, s.chg0 c1, picks_to hw (bq.chg0 c1) ⟨by omega, o1⟩, fun h2 sv R c2 o2 s2 l2 ⟨L, i, p2⟩ => ?_⟩
  have e := ups_to i s.ok s2 p2
  subst e
  exact ⟨h2, St.le.refl _, H h2 sv (c1.seq c2) (o2.imp fun j _ hj => Nat.le_trans c1.1 hj) l2⟩
/-- Whom a player knows. -/
def Ln (n0 : Nat) (h : St) (s1 s2 s3 s4 : Value) (F : Fn) (a : Nat) : Prop :=
  ∃ n1, n0 ≤ n1 ∧ OwnQ (fun i => n0 ≤ i ∧ i < n1) h s1 (tos F 2 a) ∧ OwnQ (fun i => n0 ≤ i) h s2 (tos F 1 a) ∧ OwnQ (fun i => n0 ≤ i) h s3 (bys F a) ∧ OwnQ (fun i => n1 ≤ i) h s4 (tos F 4 a) ∧
    (tos F 2 a).length ≤ 255 ∧ (tos F 1 a).length ≤ 255 ∧ (bys F a).length ≤ 255 ∧ (tos F 4 a).length ≤ 255
theorem Ln.chg0 {n0 : Nat} {h h' : St} {s1 s2 s3 s4 : Value} {F : Fn} {a : Nat} (l : Ln n0 h s1 s2 s3 s4 F a) (c : Chg h h' []) : Ln n0 h' s1 s2 s3 s4 F a := by
  obtain ⟨n1, a0, a1, a2, a3, a4, r⟩ := l
  exact ⟨n1, a0, a1.chg c (by simp), a2.chg c (by simp), a3.chg c (by simp), a4.chg c (by simp), r⟩
def agg4 (s1 s2 s3 s4 : Value) : Value := .agg #[s1, s2, s3, s4]
theorem build4 {s1 s2 s3 s4 : Value} (h1 : s1.cells = #[s1]) (h2 : s2.cells = #[s2]) (h3 : s3.cells = #[s3]) (h4 : s4.cells = #[s4]) (u1 : isUnk s1 = false) (u2 : isUnk s2 = false) (u3 : isUnk s3 = false) (u4 : isUnk s4 = false) : buildV [.slice none 0 0, .slice none 0 0, .slice none 0 0, .slice none 0 0] (some [(0, 1, s1), (1, 1, s2), (2, 1, s3), (3, 1, s4)]) = some (agg4 s1 s2 s3 s4) := by
  simp [buildV, fillL, h1, h2, h3, h4, agg4, u1, u2, u3, u4]
def flinksO : Abs.Spec := fun args h k => ∃ (D : Nat → Prop) (v : Value) (N : Nat) (F : Fn) (a : Nat), args = [v, .int .u32 (a : Int)] ∧ N ≤ 255 ∧ GrV D h v N F ∧
  ∀ h' s1 s2 s3 s4, Chg h h' [] → Ln h.next h' s1 s2 s3 s4 F a → k (agg4 s1 s2 s3 s4) h'
theorem flinksO_good : SpecGood Try.prog (38, flinksO) := by
  refine spec_good mixed Try.func38 (by kernel_rfl) (by kernel_rfl) (tab := [(46, whoO), (45, links1O)]) (by simp [whoO_good, links1O_good]) (keep := fr_Links_keep) ?_
  rintro args h k ⟨D, v, N, F, a, rfl, hN, s, H⟩
  refine ⟨0, ?_⟩
  show fr_Links (tabC _) idG 0 v (.int .u32 (a : Int)) h _
  rw [fr_Links_eq]
  obtain ⟨v1, v2⟩ := s.one
  refine boxE_in (by rw [v1]; simp [allOne, v2]) fun h1 c1 n1 o1 => ?_
  rw [v1] at o1
  refine boxE_in rfl fun h2 c2 n2 o2 => ?_
  refine allocE_in fun h3 c3 n3 o3 => ?_
  have bp : box1 h3 h.next v := ⟨by omega, c3.at0 (by omega) (c2.at0 (by omega) o1)⟩
  have bq : box1 h3 h1.next (.int .u32 (a : Int)) := ⟨by omega, c3.at0 (by omega) o2⟩
  have c03 : Chg h h3 [] := (c1.seq c2).seq c3
  simp only [loadV_ptr, bp.2, loadM_cells, partV_one, List.getElem?_cons_zero, bindV_some]
  refine cK (S := whoO) (by simp) ⟨D, v, N, F, 48, #[pr1 h1.next], pickBy a, rfl, hN, s.chg0 c03, picks_by bq, fun h4 s3 R c4 q3 r3 l3 ⟨L, i, p3⟩ => ?_⟩
  have e := ups_by i s.ok r3 p3
  subst e
  have c04 := c03.seq c4
  unfold callE
  refine cK (S := links1O) (by simp) ⟨D, v, N, F, a, 2, h.next, h1.next, rfl, by omega, hN, s.chg0 c04, bp.chg0 c4, bq.chg0 c4, fun h5 s1 c5 q1 l1 => ?_⟩
  have c45 := c4.seq c5
  have c05 := c04.seq c5
  refine cK (S := links1O) (by simp) ⟨D, v, N, F, a, 1, h.next, h1.next, rfl, by omega, hN, s.chg0 c05, bp.chg0 c45, bq.chg0 c45, fun h6 s2 c6 q2 l2 => ?_⟩
  have c46 := c45.seq c6
  have c06 := c05.seq c6
  refine cK (S := links1O) (by simp) ⟨D, v, N, F, a, 4, h.next, h1.next, rfl, by omega, hN, s.chg0 c06, bp.chg0 c46, bq.chg0 c46, fun h7 s4 c7 q4 l4 => ?_⟩
  have c47 := c46.seq c7
  have c07 := c06.seq c7
  simp only [build4 (OwnS.cells1 q1) (OwnS.cells1 q2) (OwnS.cells1 q3) (OwnS.cells1 q4) (OwnS.isUnk q1) (OwnS.isUnk q2) (OwnS.isUnk q3) (OwnS.isUnk q4), bindV_some]
  have z1 := q1.one
  have z2 := q2.one
  have z3 := q3.one
  have z4 := q4.one
  have m03 := c03.1
  have m1 := c4.1
  have m2 := c5.1
  have m3 := c6.1
  have m4 := c7.1
  refine storeE_all (c47.at0 (by omega) o3) rfl rfl (by show allOne [s1, s2, s3, s4] = true; simp [allOne, z1, z2, z3, z4]) fun h8 c8 n8 o8 => ?_
  have o8 : h8.objs h2.next = some (.cells [s1, s2, s3, s4] true) := o8
  have tk : takeN [s1, s2, s3, s4] 0 4 = some [s1, s2, s3, s4] := rfl
  have ag : (Value.agg [s1, s2, s3, s4].toArray) = agg4 s1 s2 s3 s4 := rfl
  simp only [loadV_ptr, o8, loadM_cells, partV_agg, tk, Option.map_some, bindV_some, ag]
  have c08 : Chg h h8 [] := c07.new c8 (by omega)
  refine ⟨h8, St.le.refl _, H h8 s1 s2 s3 s4 c08 ⟨h5.next, by omega, ?_, ?_, ?_, ?_, l1, l2, l3, l4⟩⟩
  · refine OwnS.chg ((((OwnS.imp q1 fun j hj h => (⟨by omega, hj⟩ : h4.next ≤ j ∧ j < h5.next)).chg c6 (by simp)).chg c7 (by simp)).chg c8 (by simp; omega)) (Chg.refl _ []) (by simp) |>.imp fun j _ hj => ⟨by omega, hj.2⟩
  · exact (((q2.chg c7 (by simp)).chg c8 (by simp; omega))).imp fun j _ hj => by omega
  · exact ((q3.chg (c5.seq c6 |>.seq c7) (by simp)).chg c8 (by simp; omega)).imp fun j _ hj => by omega
  · exact (q4.chg c8 (by simp; omega)).imp fun j _ hj => by omega
/-! ### full -/
noncomputable def cnt (F : Fn) (a : Nat) : Nat := (tos F 2 a).length + (tos F 1 a).length + (bys F a).length
def ffullO : Abs.Spec := fun args h k => ∃ (D : Nat → Prop) (v : Value) (N : Nat) (F : Fn) (a : Nat), args = [v, .int .u32 (a : Int)] ∧ N ≤ 255 ∧ GrV D h v N F ∧ ∀ h', Chg h h' [] → k (.bool (decide (16 ≤ cnt F a))) h'
theorem ffullO_good : SpecGood Try.prog (34, ffullO) := by
  refine spec_good mixed Try.func34 (by kernel_rfl) (by kernel_rfl) (tab := [(38, flinksO)]) (by simp [flinksO_good]) (keep := fr_full_keep) ?_
  rintro args h k ⟨D, v, N, F, a, rfl, hN, s, H⟩
  refine ⟨0, ?_⟩
  show fr_full (tabC _) idG 0 v (.int .u32 (a : Int)) h _
  rw [fr_full_eq]
  refine cK (S := flinksO) (by simp) ⟨D, v, N, F, a, rfl, hN, s, fun h1 s1 s2 s3 s4 c1 ⟨n1, nn, q1, q2, q3, q4, l1, l2, l3, l4⟩ => ?_⟩
  refine allocE_in fun h2 c2 n2 o2 => ?_
  have z1 := q1.one
  have z2 := q2.one
  have z3 := q3.one
  have z4 := q4.one
  refine storeE_all o2 rfl rfl (by show allOne [s1, s2, s3, s4] = true; simp [allOne, z1, z2, z3, z4]) fun h3 c3 n3 o3 => ?_
  have o3 : h3.objs h1.next = some (.cells [s1, s2, s3, s4] true) := o3
  have a1 : IntKind.i64.wrap (((tos F 2 a).length : Int) + ((tos F 1 a).length : Int)) = (((tos F 2 a).length + (tos F 1 a).length : Nat) : Int) := by rw [i64_in _ (by omega)]; omega
  have a2 : IntKind.i64.wrap ((((tos F 2 a).length + (tos F 1 a).length : Nat) : Int) + ((bys F a).length : Int)) = ((cnt F a : Nat) : Int) := by rw [i64_in _ (by omega)]; unfold cnt; omega
  have a3 : decide (((cnt F a : Nat) : Int) ≥ 16) = decide (16 ≤ cnt F a) := decide_eq_decide.2 (by omega)
  simp only [offV_ptr, bindV_some, loadV_ptr, o3, loadM_cells, partV_one, List.getElem?_cons_zero, List.getElem?_cons_succ, Nat.zero_add, OwnS.len q1, OwnS.len q2, OwnS.len q3, binV_add, a1, a2, binNil_int, binV_geq, a3]
  have m1 := c1.1
  exact ⟨h3, St.le.refl _, H h3 ((c1.seq c2).new c3 (by omega))⟩
end Go.Proofs.Ytlohiobliagaoaa
