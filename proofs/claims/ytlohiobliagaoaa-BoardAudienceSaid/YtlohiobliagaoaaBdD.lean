/- The document's board: Flush. -/
import Derived.Test.YtlohiobliagaoaaBdC
set_option linter.unusedSimpArgs false
set_option linter.unusedVariables false
set_option maxHeartbeats 4000000
namespace Go.Proofs.Ytlohiobliagaoaa
open Go.Abs Go.IntWalk
attribute [local congr] bindV_weak condK_weak guardK_weak groupK_weak allocE_weak boxE_weak storeE_weak storeM_weak tabC_weak ite_weak idG_weak appendE_weak buildSliceE_weak mapUpdateE_weak deleteE_weak makeMapE_weak copyE_weak clearE_weak callE_weak

def flr (r : Em) : Em := (r.1, (r.2.1, seenN r.2.1))
def chR (r : Em) : Bool := !decide (seenN r.2.1 = r.2.2)
def upR (R : List Em) (i : Nat) : List Em := (R.take i).map flr ++ R.drop i
theorem up_len (R : List Em) (i : Nat) : (upR R i).length = R.length := by
  unfold upR; rw [List.length_append, List.length_map, List.length_take, List.length_drop]; omega
theorem up_at {R : List Em} {i : Nat} (hi : i < R.length) : (upR R i)[i]'(by rw [up_len]; exact hi) = R[i] := by
  unfold upR
  rw [List.getElem_append_right (by rw [List.length_map, List.length_take]; omega)]
  rw [List.getElem_drop]
  congr 1
  rw [List.length_map, List.length_take]; omega
theorem up_step {R : List Em} {i : Nat} (hi : i < R.length) : upR R (i + 1) = (upR R i).set i (flr R[i]) := by
  unfold upR
  rw [List.take_succ_eq_append_getElem hi, List.map_append, List.append_assoc, List.drop_eq_getElem_cons hi]
  rw [List.set_append_right _ _ (by rw [List.length_map, List.length_take]; omega)]
  have : i - ((R.take i).map flr).length = 0 := by rw [List.length_map, List.length_take]; omega
  rw [this, List.set_cons_zero]; rfl
theorem up_skip {R : List Em} {i : Nat} (hi : i < R.length) (h : chR R[i] = false) : upR R (i + 1) = upR R i := by
  have e : flr R[i] = R[i] := by
    unfold chR at h
    simp at h
    unfold flr
    rw [h]
  rw [up_step hi, e]
  have := up_at hi
  conv => lhs; rw [← this]
  exact List.set_getElem_self _
theorem up_all (R : List Em) : upR R R.length = R.map flr := by unfold upR; simp
theorem MR_fl (R : List Em) (p : Nat) : MR (R.map flr) p = flM (MR R) p := by
  induction R with
  | nil => exact congrArg (Prod.mk 0) seen0.symm
  | cons r R ih =>
    rw [List.map_cons, MR_cons, ih]
    unfold flM
    rw [MR_cons]
    by_cases e : r.1 = p
    · have : (flr r).1 = p := e
      rw [if_pos this, if_pos e]; rfl
    · have : ¬ (flr r).1 = p := e
      rw [if_neg this, if_neg e]
theorem Nd_fl {R : List Em} (nd : NdR R) : NdR (R.map flr) := List.Pairwise.map _ (fun _ _ h => h) nd
theorem chs_mem {R : List Em} (nd : NdR R) (ok : OkR R) {p : Nat} : p ∈ chs (MR R) ↔ ∃ r ∈ R, r.1 = p ∧ chR r = true := by
  unfold chs
  rw [ups_mem]
  constructor
  · rintro ⟨_, h⟩
    obtain ⟨r, hr, rfl⟩ := MR_in (chd_ne h)
    refine ⟨r, hr, rfl, ?_⟩
    unfold chd at h
    rw [MR_mem nd hr] at h
    exact h
  · rintro ⟨r, hr, rfl, h⟩
    refine ⟨?_, ?_⟩
    · have := (ok r hr).1.2
      rw [topId_eq]; omega
    · unfold chd
      rw [MR_mem nd hr]
      exact h
def seenV (M : Md) (p : Nat) : Value := .int .i64 (seenN (M p).1 : Int)
def eflO : Abs.Spec := fun args h k => ∃ (E : Nat → Prop) (lv : Value) (R : List Em), args = [lv] ∧ R.length ≤ 300 ∧ NdR R ∧ OkR R ∧ EtS E h lv R ∧
  ∀ h' iv sv ov, Chg h h' [] → OwnQ (fun i => h.next ≤ i) h' iv (chs (MR R)) → OwnS (fun i => h.next ≤ i) h' sv 1 ((chs (MR R)).map (seenV (MR R))) (chs (MR R)).length → EtS (fun i => h.next ≤ i) h' ov (R.map flr) → k (.tuple #[iv, sv, ov]) h'
def tabEf : List (FuncId × Abs.Spec) := [(16, eseenO), (21, hputO), (24, hidsO), (14, estatO)]
theorem tabEf_good : ∀ p ∈ tabEf, SpecGood Try.prog p := by simp [tabEf, eseenO_good, hputO_good, hidsO_good, estatO_good]
theorem efl_l3 {nn : Nat} {x2 x3 x4 x5 x7 iv ov : Value} {R : List Em} {Ids : List Nat} {E F : Nat → Prop} {h0 h1 : St} {k : Cont} (few : R.length ≤ 300) (fid : Ids.length ≤ 300) (nd : NdR R) (m01 : h0.next ≤ h1.next) (q : OwnQ E h1 iv Ids) (e : EtS F h1 ov (R.map flr))
    (H : ∀ h' sv, Chg h1 h' [] → OwnS (fun i => h0.next ≤ i) h' sv 1 (Ids.map (seenV (MR R))) Ids.length → k (.tuple #[iv, sv, ov]) h') :
    ∀ (d i m0 : Nat) (h : St) (out : Value), i + d = Ids.length → d < m0 → Chg h1 h [] → OwnS (fun i => h1.next ≤ i) h out 1 ((Ids.take i).map (seenV (MR R))) i →
      e_Flush_l3 (tabC tabEf) idG nn m0 x2 x3 x4 x5 ov x7 iv out (.int .i64 (i : Int)) h (fun v h1 => ∃ h2, St.le h2 h1 ∧ k v h2) := by
  intro d
  induction d with
  | zero =>
    intro i m0 h out hi hm c o
    obtain ⟨m0, rfl⟩ : ∃ m, m0 = m + 1 := ⟨m0 - 1, by omega⟩
    rw [e_Flush_l3_eq]
    have e' : i = Ids.length := by omega
    subst e'
    rw [List.take_length] at o
    simp only [OwnS.len q, bindV_some, binV_lss, condK_bool, Int.lt_irrefl, decide_false, Bool.false_eq_true, if_false, idG_eq]
    rw [e_Flush_j4_eq]
    exact ⟨h, St.le.refl _, H h out c (o.imp fun j _ hj => by omega)⟩
  | succ d ih =>
    intro i m0 h out hi hm c o
    obtain ⟨m0, rfl⟩ : ∃ m, m0 = m + 1 := ⟨m0 - 1, by omega⟩
    rw [e_Flush_l3_eq]
    have hlt : (i : Int) < Ids.length := by omega
    have inc : IntKind.i64.wrap ((i : Int) + 1) = ((i + 1 : Nat) : Int) := by rw [i64_in _ (by omega)]; omega
    obtain ⟨b, oo, g1, g2⟩ := own_rowq q (show i < Ids.length by omega) .i64
    have tak : (Ids.take (i + 1)).map (seenV (MR R)) = (Ids.take i).map (seenV (MR R)) ++ [seenV (MR R) (Ids[i]'(by omega))] := by
      rw [List.take_succ_eq_append_getElem (by omega), List.map_append]; rfl
    obtain ⟨p, ep⟩ : ∃ p, p = Ids[i]'(by omega) := ⟨_, rfl⟩
    rw [← ep] at g2 tak
    have mc := c.1
    simp only [OwnS.len q, bindV_some, binV_lss, condK_bool, hlt, decide_true, if_true, idG_eq, g1, g2 h c, idq]
    refine cK (S := estatO) (by simp [tabEf]) ⟨F, ov, R.map flr, p, rfl, by rw [List.length_map]; omega, Nd_fl nd, e.chg0 c, ?_⟩
    rw [MR_fl]
    refine cK (S := eseenO) (by simp [tabEf]) ⟨_, rfl, fun h2 c2 => ?_⟩
    have m2 := c2.1
    refine append_row (B := fun i => h1.next ≤ i) (fun j hj => by omega) (o.chg c2 (by simp)) rfl rfl rfl rfl (by omega) (by omega) fun h5 out5 c5 s5 => ?_
    simp only [idG_eq, binNil_int, binV_add, bindV_some, inc]
    refine ih (i + 1) m0 h5 out5 (by omega) (by omega) (fresh_out (c.seq c2) c5) ?_
    rw [tak]; exact s5
theorem efl_l0 {nn r n1 n2 : Nat} {x2 x3 x4 ov x8 x9 x10 : Value} {R : List Em} {h0 : St} {k : Cont} (few : R.length ≤ 300) (hnn : 301 ≤ nn) (nd : NdR R) (ok : OkR R) (r0 : h0.next ≤ r) (r1 : r < n1) (n12 : n1 ≤ n2)
    (H : ∀ h' iv sv ov, Chg h0 h' [] → OwnQ (fun i => h0.next ≤ i) h' iv (chs (MR R)) → OwnS (fun i => h0.next ≤ i) h' sv 1 ((chs (MR R)).map (seenV (MR R))) (chs (MR R)).length → EtS (fun i => h0.next ≤ i) h' ov (R.map flr) → k (.tuple #[iv, sv, ov]) h') :
    ∀ (d i m0 : Nat) (h : St) (lv : Value) (K : List Nat), i + d = R.length → d < m0 → Chg h0 h [] → n2 ≤ h.next → h.objs r = some (.cells [lv, .int .i64 (R.length : Int)] true) → EtS (fun j => n1 ≤ j ∧ j < n2) h ov (upR R i) → JtS (fun j => n2 ≤ j) h lv K →
      (∀ p, p ∈ K ↔ ∃ r ∈ R.take i, r.1 = p ∧ chR r = true) → K.length ≤ i →
      e_Flush_l0 (tabC tabEf) idG nn m0 x2 x3 x4 (.pointer (some ⟨r, 0, none⟩)) ov (.int .i64 (i : Int)) x8 x9 x10 h (fun v h1 => ∃ h2, St.le h2 h1 ∧ k v h2) := by
  intro d
  induction d with
  | zero =>
    intro i m0 h lv K hi hm c hn ob e j mem kl
    obtain ⟨m0, rfl⟩ : ∃ m, m0 = m + 1 := ⟨m0 - 1, by omega⟩
    rw [e_Flush_l0_eq]
    have e' : i = R.length := by omega
    subst e'
    have ln := OwnS.len e
    rw [up_len] at ln
    rw [List.take_length] at mem
    rw [up_all] at e
    simp only [ln, bindV_some, binV_lss, condK_bool, Int.lt_irrefl, decide_false, Bool.false_eq_true, if_false, idG_eq]
    rw [e_Flush_j2_eq, boxJ_load j ob]
    simp only [bindV_some]
    have few2 : (chs (MR R)).length ≤ K.length := len_sub (ups_rise _) fun x hx => (mem x).2 ((chs_mem nd ok).1 hx)
    have mc := c.1
    refine cK (S := hidsO) (by simp [tabEf]) ⟨_, lv, R.length, K, chs (MR R), rfl, by omega, by omega, ups_rise _, fun q => by rw [mem, chs_mem nd ok], fun q hq => ?_, j, fun h1 iv c1 q1 => ?_⟩
    · obtain ⟨r, hr, rfl, _⟩ := (chs_mem nd ok).1 hq
      exact (ok r hr).1.1
    simp only [idG_eq]
    have m1 := c1.1
    exact efl_l3 (h0 := h0) few (by omega) nd (by omega) q1 (e.chg0 c1) (fun h' sv c' o' => H h' iv sv ov ((c.seq c1).seq c') (OwnS.imp (OwnS.chg q1 c' (by simp)) fun j _ hj => by omega) o' (OwnS.imp (e.chg0 (c1.seq c')) fun j _ hj => by omega)) _ 0 _ h1 _ (Nat.zero_add _) (by omega) (Chg.refl _ _) (.inl ⟨rfl, rfl, rfl⟩)
  | succ d ih =>
    intro i m0 h lv K hi hm c hn ob e j mem kl
    obtain ⟨m0, rfl⟩ : ∃ m, m0 = m + 1 := ⟨m0 - 1, by omega⟩
    rw [e_Flush_l0_eq]
    have iR : i < R.length := by omega
    have hlt : (i : Int) < R.length := by omega
    have inc : IntKind.i64.wrap ((i : Int) + 1) = ((i + 1 : Nat) : Int) := by rw [i64_in _ (by omega)]; omega
    have ln := OwnS.len e
    rw [up_len] at ln
    have iU : i < (upR R i).length := by rw [up_len]; exact iR
    have ua := up_at iR
    obtain ⟨b, o, g1, g2⟩ := e.at iU .i64
    rw [ua] at g2
    have hx : R[i] ∈ R := List.getElem_mem iR
    have tak : R.take (i + 1) = R.take i ++ [R[i]] := List.take_succ_eq_append_getElem iR
    have mc := c.1
    obtain ⟨f0, f1, f2⟩ := g2 h (Chg.refl _ _)
    simp only [ln, bindV_some, binV_lss, condK_bool, hlt, decide_true, if_true, idG_eq, g1, offV_ptr, f1]
    refine ⟨trivial, ?_⟩
    refine cK (S := eseenO) (by simp [tabEf]) ⟨_, rfl, fun h1 c1 => ⟨⟨trivial, trivial⟩, ?_⟩⟩
    obtain ⟨_, e1, e2⟩ := g2 h1 c1
    simp only [g1, bindV_some, offV_ptr, e2]
    refine ⟨⟨f2, trivial⟩, ?_⟩
    simp only [neN, bindV_some, condK_bool]
    have m1 := c1.1
    have next : ∀ h3 lv3 K3, Chg h0 h3 [] → n2 ≤ h3.next → h3.objs r = some (.cells [lv3, .int .i64 (R.length : Int)] true) → EtS (fun j => n1 ≤ j ∧ j < n2) h3 ov (upR R (i + 1)) → JtS (fun j => n2 ≤ j) h3 lv3 K3 → (∀ p, p ∈ K3 ↔ ∃ r ∈ R.take (i + 1), r.1 = p ∧ chR r = true) → K3.length ≤ i + 1 →
        e_Flush_j1 (tabC tabEf) idG nn m0 x2 x3 x4 (.pointer (some ⟨r, 0, none⟩)) ov (.int .i64 (i : Int)) x8 x9 x10 h3 (fun v h1 => ∃ h2, St.le h2 h1 ∧ k v h2) := fun h3 lv3 K3 a1 a2 a3 a4 a5 a6 a7 => by
      rw [e_Flush_j1_eq]
      simp only [binNil_int, binV_add, bindV_some, inc, idG_eq]
      exact ih (i + 1) m0 h3 lv3 K3 (by omega) (by omega) a1 a2 a3 a4 a5 a6 a7
    cases ec : decide (seenN ((R[i].2.1 : Nat) : Int) = R[i].2.2) with
    | true =>
      have ch : chR R[i] = false := by unfold chR; rw [ec]; rfl
      simp only [Bool.not_true, Bool.false_eq_true, if_false, idG_eq]
      refine next h1 lv K (c.seq c1) (by omega) (c1.at0 (by omega) ob) ?_ (j.chg0 c1) (fun p => ?_) (by omega)
      · rw [up_skip iR ch]; exact e.chg0 c1
      · rw [mem, tak]
        constructor
        · rintro ⟨x, hx, h⟩; exact ⟨x, List.mem_append_left _ hx, h⟩
        · rintro ⟨x, hx, h1, h2⟩
          rcases List.mem_append.1 hx with hx | hx
          · exact ⟨x, hx, h1, h2⟩
          · simp only [List.mem_singleton] at hx
            subst hx; rw [ch] at h2; cases h2
    | false =>
      have ch : chR R[i] = true := by unfold chR; rw [ec]; rfl
      simp only [Bool.not_false, if_true, g1, bindV_some, offV_ptr, e1]
      refine cK (S := eseenO) (by simp [tabEf]) ⟨_, rfl, fun h2 c2 => ?_⟩
      have m2 := c2.1
      have c02 := c1.seq c2
      have cl : cellsB (flr R[i]) = (cellsB ((upR R i)[i]'iU)).set 2 (.int .i64 (seenN ((R[i].2.1 : Nat) : Int) : Int)) := by rw [ua]; rfl
      obtain ⟨b', o', p1, p2, p3, p4⟩ := (e.chg0 c02).put iU (j := 2) (by omega) (x := .int .i64 (seenN ((R[i].2.1 : Nat) : Int) : Int)) rfl rfl cl
      have eb : b' = b ∧ o' = o := by
        rw [g1] at p1
        cases p1; exact ⟨rfl, rfl⟩
      obtain ⟨rfl, rfl⟩ := eb
      simp only [g1, bindV_some, offV_ptr]
      refine p4 _ fun h3 c3 n3 e3 => ?_
      rw [← up_step iR] at e3
      have o3 := c3.at1 (by omega) (by omega) (c02.at0 (by omega) ob)
      have j3 : JtS (fun j => n2 ≤ j) h3 lv K := OwnS.chg (j.chg0 c02) c3 (by simp; omega)
      rw [boxJ_load j3 o3]
      simp only [bindV_some]
      refine ⟨trivial, ?_⟩
      have iU' : i < (upR R (i + 1)).length := by rw [up_len]; exact iR
      obtain ⟨b2, o2, y1, y2⟩ := e3.at iU' .i64
      have : b2 = b' ∧ o2 = o' := by
        rw [p1] at y1
        cases y1; exact ⟨rfl, rfl⟩
      obtain ⟨rfl, rfl⟩ := this
      have u1 : ((upR R (i + 1))[i]'iU').1 = R[i].1 := by
        have : (upR R (i + 1))[i]'iU' = flr R[i] := by
          simp only [up_step iR, List.getElem_set_self]
        rw [this]; rfl
      have f3 := (y2 h3 (Chg.refl _ _)).1
      rw [u1] at f3
      simp only [g1, bindV_some, offV_ptr, Nat.add_zero, f3]
      refine ⟨trivial, ?_⟩
      refine cK (S := hputO) (by simp [tabEf]) ⟨_, lv, R.length, K, R[i].1, rfl, rightId_iff.2 (ok _ hx).1, by omega, by omega, j3, fun h4 lv4 c4 j4 => ⟨⟨trivial, trivial, trivial⟩, ?_⟩⟩
      simp only [extV_two0, extV_two1, bindV_some]
      have m4 := c4.1
      have z4 := j4.one
      refine storeE_all (c4.at0 (by omega) o3) rfl rfl (by show allOne [lv4, _] = true; simp only [allOne, z4, Bool.true_and]; rfl) fun h5 c5 n5 o5 => ⟨⟨trivial, trivial, trivial⟩, ?_⟩
      simp only [idG_eq]
      have c05 : Chg h0 h5 [] := (((c.seq c02).new c3 (by omega)).seq c4).new c5 (by omega)
      refine next h5 lv4 (dropR K R[i].1 ++ [R[i].1]) c05 (by omega) o5 (OwnS.chg (OwnS.chg e3 c4 (by simp)) c5 (by simp; omega)) (OwnS.imp (OwnS.chg j4 c5 (by simp; omega)) fun q _ hq => by omega) (fun p => ?_) ?_
      · rw [tak, List.mem_append]
        unfold dropR
        rw [List.mem_filter, mem]
        simp only [List.mem_singleton, decide_eq_true_eq]
        constructor
        · rintro (⟨⟨x, hx, h⟩, _⟩ | rfl)
          · exact ⟨x, List.mem_append_left _ hx, h⟩
          · exact ⟨R[i], List.mem_append_right _ (List.mem_singleton.2 rfl), rfl, ch⟩
        · rintro ⟨x, hx, h1, h2⟩
          by_cases ep : p = R[i].1
          · exact .inr ep
          · left
            refine ⟨?_, ep⟩
            rcases List.mem_append.1 hx with hx | hx
            · exact ⟨x, hx, h1, h2⟩
            · simp only [List.mem_singleton] at hx
              subst hx; exact absurd h1.symm ep
      · have : (dropR K R[i].1).length ≤ K.length := List.length_filter_le ..
        simp; omega
theorem eflO_good : SpecGood Try.prog (8, eflO) := by
  refine spec_good mixed Try.func8 (by kernel_rfl) (by kernel_rfl) (tab := tabEf) tabEf_good (keep := e_Flush_keep) ?_
  rintro args h k ⟨E, lv, R, rfl, few, nd, ok, e, H⟩
  refine ⟨302, ?_⟩
  show e_Flush (tabC _) idG _ lv h _
  rw [e_Flush_eq]
  simp only [OwnS.len e, bindV_some, encJ_build]
  refine allocE_in fun h1 c1 n1 o1 => ?_
  refine storeE_all o1 rfl rfl rfl fun h2 c2 n2 o2 => ?_
  have o2 : h2.objs h.next = some (.cells [.slice none 0 0, .int .i64 (R.length : Int)] true) := o2
  have c02 : Chg h h2 [] := c1.new c2 (Nat.le_refl _)
  refine copyB (e.chg0 c02) (by omega) fun h3 ov c3 e3 => ?_
  simp only [idG_eq]
  have m3 := c3.1
  have u0 : upR R 0 = R := by unfold upR; simp
  exact efl_l0 (r := h.next) (n1 := h2.next) (n2 := h3.next) few (by omega) nd ok (Nat.le_refl _) (by omega) m3 H R.length 0 _ h3 _ [] (by omega) (by omega) (c02.seq c3) (Nat.le_refl _) (c3.at0 (by omega) o2) (by rw [u0]; exact OwnS.imp e3 fun j hj hh => ⟨hh, hj⟩) (.inl ⟨rfl, rfl, rfl⟩) (by simp) (by simp)
end Go.Proofs.Ytlohiobliagaoaa
