/- A ledger: entries by their nonces as a map; New, old, Get, Len, Nonces. -/
import Derived.Test.YtdgonebknphkcaaSeqC
import Derived.Test.YtdgonebknphkcaaGenL
set_option linter.unusedSimpArgs false
set_option linter.unusedVariables false
set_option maxHeartbeats 4000000
namespace Go.Proofs.Ytdgonebknphkcaa
open Go.Abs Go.IntWalk
attribute [local congr] bindV_weak condK_weak guardK_weak groupK_weak allocE_weak boxE_weak storeE_weak storeM_weak tabC_weak ite_weak idG_weak appendE_weak buildSliceE_weak mapUpdateE_weak deleteE_weak makeMapE_weak copyE_weak clearE_weak callE_weak

/-! ### entries, plainly -/
abbrev En := Nat × Nat × Nat × Int
def cellsE (e : En) : List Value := [.int .u64 (e.1 : Int), .int .u32 (e.2.1 : Int), .int .u32 (e.2.2.1 : Int), .int .i64 e.2.2.2]
def eV (e : En) : Value := .agg #[.int .u64 (e.1 : Int), .int .u32 (e.2.1 : Int), .int .u32 (e.2.2.1 : Int), .int .i64 e.2.2.2]
theorem eV_cells (e : En) : (Value.agg (cellsE e).toArray) = eV e := rfl
theorem len_E (e : En) : (cellsE e).length = 4 := rfl
def zE : En := (0, 0, 0, 0)
def pn (n : Nat) (x : En) : Bool := decide (n = x.1)
theorem pn_iff {n : Nat} {x : En} : pn n x = true ↔ n = x.1 := by simp [pn]
theorem pn_no {n : Nat} {x : En} : pn n x = false ↔ ¬ n = x.1 := by simp [pn]
def getW (W : List En) (n : Nat) : Option En := W.find? (pn n)
def wout (W : List En) (n : Nat) : List En := W.filter fun x => !pn n x
def swp (W : List En) (now : Int) : List En := W.filter fun x => decide (now ≤ x.2.2.2)
def insW : List En → En → List En
  | [], e => [e]
  | x :: W, e => if e.1 < x.1 then e :: x :: W else x :: insW W e
def Rise (W : List En) : Prop := W.Pairwise fun x y => x.1 < y.1
def issF (W : List En) (most : Nat) (e : En) (now : Int) : List En × Nat :=
  if e.2.2.2 < now then (W, 9) else if (getW W e.1).isSome = true then (W, 11) else if most ≤ W.length then (W, 10) else (insW W e, 0)
def spdF (W : List En) (n o w : Nat) (now : Int) : List En × Nat :=
  match getW W n with
  | none => (W, 12)
  | some e => if e.2.1 ≠ o ∨ e.2.2.1 ≠ w then (W, 13) else if e.2.2.2 < now then (W, 9) else (wout W n, 0)
theorem get_some {W : List En} {n : Nat} {e : En} (h : getW W n = some e) : e ∈ W ∧ e.1 = n := by
  unfold getW at h
  refine ⟨List.mem_of_find?_eq_some h, ?_⟩
  have := List.find?_some h
  exact (pn_iff.1 this).symm
theorem get_none {W : List En} {n : Nat} : getW W n = none ↔ ∀ x ∈ W, x.1 ≠ n := by
  unfold getW
  rw [List.find?_eq_none]
  exact ⟨fun h x hx e => h x hx (pn_iff.2 e.symm), fun h x hx e => h x hx (pn_iff.1 e).symm⟩
theorem rise_one {W : List En} (r : Rise W) {x y : En} (hx : x ∈ W) (hy : y ∈ W) (e : x.1 = y.1) : x = y := by
  unfold Rise at r
  rw [List.pairwise_iff_getElem] at r
  obtain ⟨i, hi, rfl⟩ := List.getElem_of_mem hx
  obtain ⟨j, hj, rfl⟩ := List.getElem_of_mem hy
  rcases Nat.lt_trichotomy i j with h | h | h
  · have := r i j hi hj h; omega
  · subst h; rfl
  · have := r j i hj hi h; omega
theorem get_mem {W : List En} (r : Rise W) {e : En} (he : e ∈ W) : getW W e.1 = some e := by
  cases h : getW W e.1 with
  | none => exact absurd rfl (get_none.1 h e he)
  | some x =>
    obtain ⟨h1, h2⟩ := get_some h
    rw [rise_one r h1 he h2]
theorem rise_out {W : List En} (r : Rise W) (n : Nat) : Rise (wout W n) := r.filter _
theorem rise_swp {W : List En} (r : Rise W) (now : Int) : Rise (swp W now) := r.filter _
theorem ins_mem {e x : En} : ∀ {W : List En}, x ∈ insW W e ↔ x = e ∨ x ∈ W
  | [] => by simp [insW]
  | y :: W => by
    unfold insW
    split
    · simp
    · rw [List.mem_cons, ins_mem (W := W), List.mem_cons]
      constructor
      · rintro (h | h | h)
        · exact .inr (.inl h)
        · exact .inl h
        · exact .inr (.inr h)
      · rintro (h | h | h)
        · exact .inr (.inl h)
        · exact .inl h
        · exact .inr (.inr h)
theorem ins_perm (e : En) : ∀ W : List En, (insW W e).Perm (e :: W)
  | [] => .refl _
  | y :: W => by
    unfold insW
    split
    · exact .refl _
    · exact ((ins_perm e W).cons y).trans (.swap ..)
theorem rise_ins {e : En} : ∀ {W : List En}, Rise W → (∀ x ∈ W, x.1 ≠ e.1) → Rise (insW W e)
  | [], _, _ => List.pairwise_singleton ..
  | y :: W, r, n => by
    unfold Rise at r
    rw [List.pairwise_cons] at r
    unfold insW
    split
    · rename_i h
      refine List.pairwise_cons.2 ⟨fun x hx => ?_, List.pairwise_cons.2 r⟩
      rcases List.mem_cons.1 hx with rfl | hx
      · exact h
      · have := r.1 x hx; omega
    · rename_i h
      refine List.pairwise_cons.2 ⟨fun x hx => ?_, rise_ins r.2 fun x hx => n x (by simp [hx])⟩
      have ny := n y (by simp)
      rcases ins_mem.1 hx with rfl | hx
      · omega
      · exact r.1 x hx
theorem ins_len (W : List En) (e : En) : (insW W e).length = W.length + 1 := by rw [(ins_perm e W).length_eq, List.length_cons]
/-- What goes out when a nonce goes. -/
theorem out_split {L A C : List En} {x : En} {n : Nat} (e : L = A ++ x :: C) (hx : pn n x = true) (nd : (L.map fun x : En => x.1).Nodup) : wout L n = A ++ C := by
  subst e
  have h1 := pn_iff.1 hx
  rw [List.map_append, List.map_cons, List.nodup_append] at nd
  obtain ⟨_, n2, n3⟩ := nd
  rw [List.nodup_cons] at n2
  have fa : ∀ y ∈ A, pn n y = false := fun y hy => pn_no.2 fun e => n3 y.1 (List.mem_map_of_mem hy) x.1 (by simp) (by rw [← h1, e])
  have fc : ∀ y ∈ C, pn n y = false := fun y hy => pn_no.2 fun e => n2.1 (by rw [← h1, e]; exact List.mem_map_of_mem (f := fun x : En => x.1) hy)
  unfold wout
  rw [List.filter_append, List.filter_cons_of_neg (by rw [hx]; simp), List.filter_eq_self.2 (fun y hy => by rw [fa y hy]; rfl), List.filter_eq_self.2 (fun y hy => by rw [fc y hy]; rfl)]
theorem out_none {L : List En} {n : Nat} (h : ∀ x ∈ L, pn n x = false) : wout L n = L := List.filter_eq_self.2 fun x hx => by rw [h x hx]; rfl
theorem rise_nodup {W : List En} (r : Rise W) : (W.map fun x : En => x.1).Nodup := List.Pairwise.map _ (fun a b h => by omega) r
theorem out_len {W : List En} (r : Rise W) (n : Nat) : (wout W n).length + (if (getW W n).isSome = true then 1 else 0) = W.length := by
  cases h : getW W n with
  | none => 
    have := get_none.1 h
    rw [out_none fun x hx => pn_no.2 fun e => this x hx e.symm]; simp
  | some e =>
    obtain ⟨h1, h2⟩ := get_some h
    obtain ⟨A, C, e1⟩ := List.append_of_mem h1
    rw [out_split e1 (pn_iff.2 h2.symm) (rise_nodup r)]
    subst e1; simp; omega
/-! ### in memory -/
def ekL (x : En) : Value := .int .u64 (x.1 : Int)
theorem find_L (n : Nat) : find (.int .u64) (.int .u64 (n : Int)) [] = some none := by simp [find, findE]
theorem cmp_L (n : Nat) (x : En) : cmpK (.int .u64) (.int .u64 (n : Int)) (ekL x) = some (pn n x) := by
  have : ((n : Int) == (x.1 : Int)) = pn n x := by
    unfold pn
    by_cases h : n = x.1
    · subst h; simp
    · have : ((n : Int) == (x.1 : Int)) = false := by simp; omega
      rw [this]; simp [h]
  simp only [cmpK, ekL, eqOne, if_true, this]
def big (n : Nat) : Prop := n < 18446744073709551616
theorem wf_big {x : Nat} (h : big x) : (Lit.int .u64 (x : Int)).wf = true := by
  unfold big at h
  simp [Lit.wf, IntKind.min, IntKind.max, IntKind.signed, IntKind.bits]
  omega
/-- A ledger in memory: so many entries at most. -/
def LdS (D : Nat → Prop) (h : St) (v : Value) (most : Nat) (W : List En) : Prop :=
  ∃ g m, v = .pointer (some ⟨g, 0, none⟩) ∧ D g ∧ g ≠ m ∧ g < h.next ∧ h.objs g = some (.cells [.map (some m), .int .i64 (most : Int)] true) ∧ Rise W ∧ (∀ x ∈ W, big x.1) ∧ W.length ≤ most ∧ ∃ L : List En, MapB D ekL eV h m L ∧ L.Perm W
theorem LdS.chgP {D E : Nat → Prop} {h h' : St} {v : Value} {most : Nat} {W : List En} (s : LdS D h v most W) (c : ChgP E h h') (hE : ∀ i, E i → ¬ D i) : LdS D h' v most W := by
  obtain ⟨g, m, e, dg, gm, gn, og, f1, f2, f3, L, ma, r⟩ := s
  exact ⟨g, m, e, dg, gm, Nat.lt_of_lt_of_le gn c.1, c.at gn (fun hh => hE _ hh dg) og, f1, f2, f3, L, ma.chgP c hE, r⟩
theorem LdS.chg {D : Nat → Prop} {h h' : St} {v : Value} {most : Nat} {W : List En} {S : List Nat} (s : LdS D h v most W) (c : Chg h h' S) (hS : ∀ i ∈ S, ¬ D i) : LdS D h' v most W := s.chgP (E := (· ∈ S)) (c.toP fun _ h => h) hS
theorem LdS.chg0 {D : Nat → Prop} {h h' : St} {v : Value} {most : Nat} {W : List En} (s : LdS D h v most W) (c : Chg h h' []) : LdS D h' v most W := s.chg c (by simp)
theorem LdS.imp {D D' : Nat → Prop} {h : St} {v : Value} {most : Nat} {W : List En} (s : LdS D h v most W) (hD : ∀ i, i < h.next → D i → D' i) : LdS D' h v most W := by
  obtain ⟨g, m, e, dg, gm, gn, og, f1, f2, f3, L, ma, r⟩ := s
  exact ⟨g, m, e, hD g gn dg, gm, gn, og, f1, f2, f3, L, ma.imp hD, r⟩
def ptrV (v : Value) : Prop := ∃ g, v = .pointer (some ⟨g, 0, none⟩)
theorem LdS.ptr {D : Nat → Prop} {h : St} {v : Value} {most : Nat} {W : List En} (s : LdS D h v most W) : ptrV v := by obtain ⟨g, m, e, _⟩ := s; exact ⟨g, e⟩
theorem LdS.rise {D : Nat → Prop} {h : St} {v : Value} {most : Nat} {W : List En} (s : LdS D h v most W) : Rise W := by obtain ⟨g, m, e, dg, gm, gn, og, f1, f2, f3, _⟩ := s; exact f1
theorem LdS.len {D : Nat → Prop} {h : St} {v : Value} {most : Nat} {W : List En} (s : LdS D h v most W) : W.length ≤ most := by obtain ⟨g, m, e, dg, gm, gn, og, f1, f2, f3, _⟩ := s; exact f3
theorem isNil_no {v : Value} (g : ptrV v) : binNil .eql .ptr v (.pointer none) = some (.bool false) := by obtain ⟨g, rfl⟩ := g; rfl
/-- What a lookup tells. -/
def gotE (W : List En) (n : Nat) : Value := .tuple #[eV ((getW W n).getD zE), .bool (getW W n).isSome]
theorem perm_get {L W : List En} (p : L.Perm W) (r : Rise W) (n : Nat) : (∀ A x C, L = A ++ x :: C → pn n x = true → getW W n = some x) ∧ ((∀ x ∈ L, pn n x = false) → getW W n = none) := by
  refine ⟨fun A x C e hx => ?_, fun h => get_none.2 fun x hx e => ?_⟩
  · have : x ∈ W := p.mem_iff.1 (by rw [e]; simp)
    rw [pn_iff.1 hx]; exact get_mem r this
  · have := pn_no.1 (h x (p.mem_iff.2 hx))
    exact this e.symm
theorem lookLd {B : Nat → Prop} {h : St} {m : Nat} {L W : List En} (a : MapB B ekL eV h m L) (p : L.Perm W) (r : Rise W) (n : Nat) : lookV (.int .u64) (eV zE) true (.map (some m)) (.int .u64 (n : Int)) h = some (gotE W n) := by
  obtain ⟨p1, p2⟩ := perm_get p r n
  unfold gotE
  rcases a.at.look (find_L n) (fun z _ => cmp_L n z) (eV zE) true with ⟨A, z, C, e1, e2, e3, e4⟩ | ⟨e1, e2⟩
  · rw [e4, p1 A z C e1 e2]; rfl
  · rw [e2, p2 e1]; rfl
theorem lookLd1 {B : Nat → Prop} {h : St} {m : Nat} {L W : List En} (a : MapB B ekL eV h m L) (p : L.Perm W) (r : Rise W) (n : Nat) : lookV (.int .u64) (eV zE) false (.map (some m)) (.int .u64 (n : Int)) h = some (eV ((getW W n).getD zE)) := by
  obtain ⟨p1, p2⟩ := perm_get p r n
  rcases a.at.look (find_L n) (fun z _ => cmp_L n z) (eV zE) false with ⟨A, z, C, e1, e2, e3, e4⟩ | ⟨e1, e2⟩
  · rw [e4, p1 A z C e1 e2]; rfl
  · rw [e2, p2 e1]; rfl
/-! ### New, old, Get, Len -/
def lnewO : Abs.Spec := fun args h k => ∃ n : Int, args = [.int .i64 n] ∧ n ≤ 90000 ∧ ∀ h' v, Chg h h' [] → LdS (fun i => h.next ≤ i) h' v n.toNat [] → k v h'
theorem lnewO_good : SpecGood Try.prog (7, lnewO) := by
  refine spec_good mixed Try.func7 (by kernel_rfl) (by kernel_rfl) (tab := []) (by simp) (keep := l_New_keep) ?_
  rintro args h k ⟨n, rfl, hn, H⟩
  refine ⟨0, ?_⟩
  show l_New (tabC _) idG 0 (.int .i64 n) h _
  rw [l_New_eq, makeMapE_eq]
  have c1 : Chg h (h.push (.map [] 0)) [] := Chg.push _ _
  have o1 : (h.push (.map [] 0)).objs h.next = some (.map [] 0) := push_at _ _
  have n1 : (h.push (.map [] 0)).next = h.next + 1 := rfl
  have e : (if n > 0 then n else 0) = ((n.toNat : Nat) : Int) := by split <;> omega
  have b : buildV [.map none, .int .i64 0] (some [(0, 1, .map (some h.next)), (1, 1, .int .i64 ((n.toNat : Nat) : Int))]) = some (.agg #[.map (some h.next), .int .i64 ((n.toNat : Nat) : Int)]) := rfl
  simp only [maxV, if_true, bindV_some, e, b]
  refine boxE_in (by rfl) fun h2 c2 n2 o2 => ?_
  refine ⟨h2, St.le.refl _, H h2 _ (c1.seq c2) ⟨_, h.next, rfl, by omega, by omega, by omega, o2, .nil, by simp, Nat.zero_le _, [], ⟨Nat.le_refl _, by omega, [], 0, c2.at0 (by omega) o1, rfl, by simp, by simp⟩, .refl _⟩⟩
def loldO : Abs.Spec := fun args h k => ∃ (e : En) (now : Int), args = [eV e, .int .i64 now] ∧ ∀ h', Chg h h' [] → k (.bool (decide (e.2.2.2 < now))) h'
theorem loldO_good : SpecGood Try.prog (23, loldO) := by
  refine spec_good mixed Try.func23 (by kernel_rfl) (by kernel_rfl) (tab := []) (by simp) (keep := l_old_keep) ?_
  rintro args h k ⟨e, now, rfl, H⟩
  refine ⟨0, ?_⟩
  show l_old (tabC _) idG 0 (eV e) (.int .i64 now) h _
  rw [l_old_eq]
  refine boxE_in rfl fun h1 c1 n1 o1 => ?_
  have o1 : h1.objs h.next = some (.cells (cellsE e) true) := o1
  have g : (cellsE e)[3]? = some (.int .i64 e.2.2.2) := rfl
  have d : decide (now > e.2.2.2) = decide (e.2.2.2 < now) := rfl
  simp only [offV_ptr, bindV_some, loadV_ptr, o1, loadM_cells, partV_one, Nat.zero_add, g, binV_gtr, d]
  exact ⟨h1, St.le.refl _, H h1 c1⟩
theorem tk_E (e : En) : takeN (cellsE e) 0 4 = some (cellsE e) := rfl
theorem load_E {h : St} {b : Nat} {e : En} (o : h.objs b = some (.cells (cellsE e) true)) : loadV true 4 (.pointer (some ⟨b, 0, none⟩)) h = some (eV e) := by
  simp only [loadV_ptr, o, loadM_cells, partV_agg, tk_E, Option.map_some]; rfl
theorem load_E0 {h : St} {b : Nat} {e : En} (o : h.objs b = some (.cells (cellsE e) true)) : loadV false 1 (.pointer (some ⟨b, 0, none⟩)) h = some (.int .u64 (e.1 : Int)) := by
  simp only [loadV_ptr, o, loadM_cells, partV_one]; rfl
theorem load_E1 {h : St} {b : Nat} {e : En} (o : h.objs b = some (.cells (cellsE e) true)) : loadV false 1 (.pointer (some ⟨b, 1, none⟩)) h = some (.int .u32 (e.2.1 : Int)) := by
  simp only [loadV_ptr, o, loadM_cells, partV_one]; rfl
theorem load_E2 {h : St} {b : Nat} {e : En} (o : h.objs b = some (.cells (cellsE e) true)) : loadV false 1 (.pointer (some ⟨b, 2, none⟩)) h = some (.int .u32 (e.2.2.1 : Int)) := by
  simp only [loadV_ptr, o, loadM_cells, partV_one]; rfl
theorem load_E3 {h : St} {b : Nat} {e : En} (o : h.objs b = some (.cells (cellsE e) true)) : loadV false 1 (.pointer (some ⟨b, 3, none⟩)) h = some (.int .i64 e.2.2.2) := by
  simp only [loadV_ptr, o, loadM_cells, partV_one]; rfl
/-- An entry put into a box of one's own. -/
theorem put_E {h : St} {b : Nat} {cs : List Value} {e : En} {k : Cont} (o : h.objs b = some (.cells cs true)) (l : cs.length = 4) (K : ∀ h', Chg h h' [b] → h'.next = h.next → h'.objs b = some (.cells (cellsE e) true) → k undef h') : storeE 4 (.pointer (some ⟨b, 0, none⟩)) (eV e) h k :=
  storeE_all o rfl l rfl fun h' c n o' => K h' c n o'
theorem zE_build : buildV [.int .u64 0, .int .u32 0, .int .u32 0, .int .i64 0] (some []) = some (eV zE) := rfl
def lgetO : Abs.Spec := fun args h k => ∃ (D : Nat → Prop) (v : Value) (most : Nat) (W : List En) (n : Nat), args = [v, .int .u64 (n : Int)] ∧ LdS D h v most W ∧ ∀ h', Chg h h' [] → k (gotE W n) h'
theorem lgetO_good : SpecGood Try.prog (12, lgetO) := by
  refine spec_good mixed Try.func12 (by kernel_rfl) (by kernel_rfl) (tab := []) (by simp) (keep := l_Get_keep) ?_
  rintro args h k ⟨D, v, most, W, n, rfl, s, H⟩
  refine ⟨0, ?_⟩
  show l_Get (tabC _) idG 0 v (.int .u64 (n : Int)) h _
  rw [l_Get_eq]
  refine allocE_in fun h1 c1 n1 o1 => ?_
  rw [isNil_no s.ptr]
  obtain ⟨g, m, rfl, dg, gm, gn, og, f1, f2, f3, L, ma, p⟩ := s
  have og1 := c1.at0 gn og
  have lk : lookV (.int .u64) (.agg #[.int .u64 0, .int .u32 0, .int .u32 0, .int .i64 0]) true (.map (some m)) (.int .u64 (n : Int)) h1 = some (gotE W n) := lookLd (ma.chg c1 (by simp)) p f1 n
  have x0 : extV 0 (gotE W n) = some (eV ((getW W n).getD zE)) := rfl
  have x1 : extV 1 (gotE W n) = some (.bool (getW W n).isSome) := rfl
  simp only [bindV_some, condK_bool, Bool.false_eq_true, if_false, idG_eq, nilV, offV_ptr, loadV_ptr, og1, loadM_cells, partV_one, List.getElem?_cons_zero, Nat.zero_add, lk, x0, x1]
  refine allocE_in fun h2 c2 n2 o2 => ?_
  refine put_E o2 rfl fun h3 c3 n3 o3 => ?_
  rw [load_E o3]
  simp only [bindV_some]
  refine put_E (c3.at1 (by omega) (by omega) (c2.at0 (by omega) o1)) rfl fun h4 c4 n4 o4 => ?_
  rw [load_E o4]
  simp only [bindV_some]
  exact ⟨h4, St.le.refl _, H h4 (((c1.seq c2).new c3 (by omega)).new c4 (by omega))⟩
def llenO : Abs.Spec := fun args h k => ∃ (D : Nat → Prop) (v : Value) (most : Nat) (W : List En), args = [v] ∧ LdS D h v most W ∧ k (.int .i64 (W.length : Int)) h
theorem llenO_good : SpecGood Try.prog (22, llenO) := by
  refine spec_good mixed Try.func22 (by kernel_rfl) (by kernel_rfl) (tab := []) (by simp) (keep := l_Len_keep) ?_
  rintro args h k ⟨D, v, most, W, rfl, s, H⟩
  refine ⟨0, ?_⟩
  show l_Len (tabC _) idG 0 v h _
  rw [l_Len_eq, isNil_no s.ptr]
  obtain ⟨g, m, rfl, dg, gm, gn, og, f1, f2, f3, L, ma, p⟩ := s
  have ml := ma.at.len
  rw [p.length_eq] at ml
  simp only [bindV_some, condK_bool, Bool.false_eq_true, if_false, idG_eq, nilV, offV_ptr, loadV_ptr, og, loadM_cells, partV_one, List.getElem?_cons_zero, Nat.zero_add, ml]
  exact ⟨h, St.le.refl _, H⟩
/-! ### Nonces -/
def idn (n : Nat) : Value := .int .u64 (n : Int)
def OwnN (B : Nat → Prop) (h : St) (v : Value) (R : List Nat) : Prop := OwnS B h v 1 (R.map idn) R.length
def keysW (W : List En) : List Nat := W.map fun x => x.1
def lnonO : Abs.Spec := fun args h k => ∃ (D : Nat → Prop) (v : Value) (most : Nat) (W : List En), args = [v] ∧ most ≤ 255 ∧ LdS D h v most W ∧ ∀ h' sv, Chg h h' [] → OwnN (fun i => h.next ≤ i) h' sv (keysW W) → k sv h'
theorem sorted_uniq : ∀ {A B : List Int}, A.Pairwise (· ≤ ·) → B.Pairwise (· ≤ ·) → A.Perm B → A = B := fun ha hb p => p.eq_of_pairwise (fun a b _ _ h1 h2 => by omega) ha hb
theorem lnonO_good : SpecGood Try.prog (11, lnonO) := by
  refine spec_good mixed Try.func11 (by kernel_rfl) (by kernel_rfl) (tab := [(25, keysO), (24, sortedO)]) (by simp [keysO_good, sortedO_good]) (keep := l_Nonces_keep) ?_
  rintro args h k ⟨D, v, most, W, rfl, hm, s, H⟩
  refine ⟨0, ?_⟩
  show l_Nonces (tabC _) idG 0 v h _
  rw [l_Nonces_eq, isNil_no s.ptr]
  obtain ⟨g, m, rfl, dg, gm, gn, og, f1, f2, f3, L, ma, p⟩ := s
  simp only [bindV_some, condK_bool, Bool.false_eq_true, if_false, idG_eq, nilV, offV_ptr, loadV_ptr, og, loadM_cells, partV_one, List.getElem?_cons_zero, Nat.zero_add]
  have ndW : (W.map fun x : En => (x.1 : Int)).Nodup := List.Pairwise.map _ (fun a b h => by omega) f1
  have ndL : (L.map fun x : En => (x.1 : Int)).Nodup := (p.map _).nodup_iff.2 ndW
  refine sorted_keys (by simp) (by simp) ma (fun x => (x.1 : Int)) (fun x => rfl) (fun x hx => wf_big (f2 x (p.mem_iff.1 hx))) ndL (by rw [p.length_eq]; omega) fun h1 sv ss c1 o1 p1 s1 => ?_
  have sW : (W.map fun x : En => (x.1 : Int)).Pairwise (· ≤ ·) := by
    rw [List.pairwise_map]; exact f1.imp fun h => by omega
  have e : ss = W.map fun x : En => (x.1 : Int) := sorted_uniq s1 sW (p1.trans (p.map _))
  refine ⟨h1, St.le.refl _, H h1 sv c1 ?_⟩
  subst e
  have e2 : (W.map fun x : En => (x.1 : Int)).map (Value.int .u64) = (keysW W).map idn := by unfold keysW; rw [List.map_map, List.map_map]; rfl
  rw [e2] at o1
  have e3 : (W.map fun x : En => (x.1 : Int)).length = (keysW W).length := by unfold keysW; rw [List.length_map, List.length_map]
  rw [e3] at o1
  exact o1
end Go.Proofs.Ytdgonebknphkcaa
