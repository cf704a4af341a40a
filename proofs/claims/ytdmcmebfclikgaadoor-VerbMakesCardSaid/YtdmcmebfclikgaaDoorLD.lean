/- The document's 'Read', walked: the loops. -/
import Derived.Test.YtdmcmebfclikgaaDoorLC
set_option linter.unusedSimpArgs false
set_option linter.unusedVariables false
set_option maxHeartbeats 4000000
namespace Go.Proofs.YtdmcmebfclikgaaDoor
open Go.Abs Go.IntWalk

def refNumS : Abs.Spec := fun args h k => ∃ (V : Nat → Prop) (v : Value) (l : List Nat), args = [v] ∧ l.length ≤ 8 ∧ (∀ c ∈ l, c < 256) ∧ SliceAt V h v l.length 1 (rowC l) ∧ k (.int .u64 (numB l)) h
theorem refNum_l0 {B : Nat → Prop} {nn : Nat} {v x2 : Value} {l : List Nat} {K : Cont} {h : St} {C : Oracle} (hl : l.length ≤ 8) (hx : ∀ c ∈ l, c < 256) (s4 : SliceAt B h v l.length 1 (rowC l)) (H : K (.int .u64 (numB l)) h) :
    ∀ (d i m0 : Nat), i + d = l.length → d < m0 → tiltyardref01_Number_l0 C idG nn m0 v x2 (.int .u64 (numB (l.take i))) (.int .i64 i) h K := by
  intro d
  induction d with
  | zero =>
    intro i m0 hi hm
    obtain ⟨m0, rfl⟩ : ∃ m, m0 = m + 1 := ⟨m0 - 1, by omega⟩
    rw [tiltyardref01_Number_l0_eq, s4.len]
    have e : i = l.length := by omega
    subst e
    simp only [bindV_some, binV_lss, condK_bool, Int.lt_irrefl, decide_false, Bool.false_eq_true, if_false, idG_eq]
    rw [tiltyardref01_Number_j1_eq, List.take_length]
    exact H
  | succ d ih =>
    intro i m0 hi hm
    obtain ⟨m0, rfl⟩ : ∃ m, m0 = m + 1 := ⟨m0 - 1, by omega⟩
    rw [tiltyardref01_Number_l0_eq, s4.len]
    have hlt : (i : Int) < l.length := by omega
    obtain ⟨b, o, g1, g2, g3, cs, own, g4, g5⟩ := s4.idx (Int.natCast_nonneg i) hlt .i64
    have g6 := takeN_get g5 (j := 0) (by omega)
    have hi' : i < l.length := by omega
    have hg : l[i]?.getD 0 = l[i] := by rw [List.getElem?_eq_getElem hi']; rfl
    have hc := hx l[i] (List.getElem_mem _)
    simp only [rowC, Int.toNat_natCast, hg, Nat.add_zero, List.getElem?_cons_zero] at g6
    have hlt2 := numB_lt (l.take i) fun c hc => hx c (List.mem_of_mem_take hc)
    have hp := pow256_le (i := i) (by omega)
    have hli : (l.take i).length = i := by simp; omega
    rw [hli] at hlt2
    have et : l.take (i + 1) = l.take i ++ [l[i]] := by rw [List.take_succ_eq_append_getElem hi']
    have w1 : IntKind.u64.wrap ((numB (l.take i) : Int) * 256) = ((numB (l.take i) * 256 : Nat) : Int) := by
      have : (numB (l.take i) : Int) * 256 = ((numB (l.take i) * 256 : Nat) : Int) := by rw [Int.natCast_mul]; rfl
      rw [this]; exact u64_wrap _ (by omega)
    have w2 : IntKind.u64.wrap (((numB (l.take i) * 256 : Nat) : Int) + (l[i] : Int)) = ((numB (l.take i) * 256 + l[i] : Nat) : Int) := by
      rw [← Int.natCast_add]; exact u64_wrap _ (by omega)
    simp only [binV_lss, bindV_some, condK_bool, hlt, decide_true, if_true, idG_eq, g1, loadV_ptr, g4, loadM_cells, partV_one, g6, bc, binNil_int, binV_mul, w1, wrapV_int, u64_wrap l[i] (by omega), binV_add, w2, inc (show i ≤ 1000000 by omega)]
    rw [← numB_snoc, ← et]
    exact ih (i + 1) m0 (by omega) (by omega)
theorem refNumS_good : SpecGood Tryd.prog (53, refNumS) := by
  refine spec_good mixed Tryd.func53 (by kernel_rfl) (by kernel_rfl) (tab := []) (by simp) (keep := tiltyardref01_Number_keep) ?_
  rintro args h k ⟨V, v, l, rfl, hl, hx, s, H⟩
  refine ⟨9, ?_⟩
  show tiltyardref01_Number (tabC []) idG 9 v h _
  rw [tiltyardref01_Number_eq]
  simp only [idG_eq]
  have e : numB (l.take 0) = 0 := by simp [numB]
  have := refNum_l0 (nn := 9) (x2 := .int .u64 0) (C := tabC []) (K := fun v h1 => ∃ h2, St.le h2 h1 ∧ k v h2) hl hx s ⟨_, St.le.refl _, H⟩ l.length 0 9 (by omega) (by omega)
  rw [e] at this
  exact this

def finZ (g : RSt) : Nat × RSt := if g.sh = true then (3, noSt) else if g.b.length > 0 then (4, noSt) else (0, g)
theorem read_fin (cs b : List Nat) (h : 0 ≤ leastZ cs) : readZ cs b = finZ (gatherZ cs ⟨b, false, [], [], []⟩) := by unfold readZ; rw [if_pos h]; rfl
theorem gather_true {cs : List Nat} {st : RSt} (hx : ∀ x ∈ st.b, x < 256) (h : st.sh = true) : (gatherZ cs st).sh = true := by
  cases hg : (gatherZ cs st).sh with
  | true => rfl
  | false => have := (items_law cs st hx hg).1; rw [h] at this; cases this
theorem fin_true {cs : List Nat} {st : RSt} {c : Nat} (hx : ∀ x ∈ st.b, x < 256) (h : (fieldZ c st).sh = true) : finZ (gatherZ (c :: cs) st) = (3, noSt) := by
  have : (gatherZ (c :: cs) st).sh = true := gather_true (cs := cs) (st := fieldZ c st) (fun x hm => hx x ((fieldZ_b c st).2.1 x hm)) h
  unfold finZ
  rw [if_pos this]
theorem field_short {c : Nat} {b : List Nat} {N : List Nat} {S : List ByteArray} {L : List (List Nat)} (h : b.length < wd c) : (fieldZ c ⟨b, false, N, S, L⟩).sh = true := by
  have hs := short_lt h false
  unfold fieldZ
  simp only [hs]
  split
  · exact short_true _ _
  · split
    · split <;> exact list_true _ _ _
    · rfl
theorem list_short {k : Nat} {b : List Nat} (hx : ∀ x ∈ b, x < 256) (h : b.length < 4 * k) (l : List Nat) : (listZ k b false l).2.1 = true := by
  cases hg : (listZ k b false l).2.1 with
  | true => rfl
  | false =>
    obtain ⟨pre, ln, r, e1, _, e3, _⟩ := list_law k b l false hx hg
    rw [e1, List.length_append] at h
    omega
theorem list_ok : ∀ (k : Nat) (b l : List Nat), 4 * k ≤ b.length → ∃ l', listZ k b false l = (b.drop (4 * k), false, l', true)
  | 0, b, l, _ => ⟨l, by simp [listZ]⟩
  | k + 1, b, l, h => by
    have h4 : ¬ 4 > b.length := by omega
    simp only [listZ, Bool.false_eq_true, if_false, leftZ, outZ, shortZ, h4]
    obtain ⟨l', e⟩ := list_ok k (b.drop 4) (l ++ [numB (b.take 4)]) (by simp; omega)
    refine ⟨l', ?_⟩
    rw [e, List.drop_drop]
    congr 2
    omega
theorem list_step {d : Nat} {b l : List Nat} (h : 4 ≤ b.length) : listZ (d + 1) b false l = listZ d (b.drop 4) false (l ++ [numB (b.take 4)]) := by
  have h4 : ¬ 4 > b.length := by omega
  simp only [listZ, Bool.false_eq_true, if_false, leftZ, outZ, shortZ, h4]

def tabQ : List (FuncId × Abs.Spec) := [(52, refWidthS), (53, refNumS), (50, refLeastS)]
/-- A part of the bytes. -/
theorem part_at {V : Nat → Prop} {h : St} {v : Value} {b : List Nat} (s : SliceAt V h v b.length 1 (rowC b)) {p m : Nat} (hm : p + m ≤ b.length) :
    ∃ v1, Abs.cutS 1 v (some (.int .i64 (p : Int))) (some (.int .i64 ((p + m : Nat) : Int))) = some v1 ∧ SliceAt V h v1 ((b.drop p).take m).length 1 (rowC ((b.drop p).take m)) := by
  obtain ⟨v1, hc1, s1⟩ := s.cut (lo := some (.int .i64 p)) (hi := some (.int .i64 (p + m : Nat))) (loHi_both (l := p) (e := p + m) (by omega) hm) (by omega) hm
  refine ⟨v1, hc1, ?_⟩
  have e : ((b.drop p).take m).length = p + m - p := by simp; omega
  rw [e]
  refine s1.rows fun i hi => ?_
  have hi' : i < m := by omega
  simp [rowC, hi']
theorem ref_l2 {s : ByteArray} {x1 x5 x8 x9 : Value} {r q N0 nn m0 n at0 : Nat} {vN vS vL : Value} {LV : List Value} {K : Cont} {hb : St} {st0 : RSt} {lfin : List Nat} (hn : n ≤ 255) (hL : st0.L.length ≤ 1000) (hbl : st0.b.length ≤ 100000) (hx : ∀ x ∈ st0.b, x < 256) (hat : at0 + 4 * n ≤ st0.b.length)
    (END : ∀ h' col' vL' LV', ChgP (fun i => ¬ i < N0) hb h' → RAt col' N0 h' q r x1 vN vS vL' LV' ⟨st0.b, st0.sh, st0.N, st0.S, st0.L ++ [lfin]⟩ → ∀ x11 x12, tiltyardref01_Read_j1 (tabC tabQ) idG nn m0 (.string s) x1 (ptr r) x5 (ptr q) (.int .i64 ((at0 + 4 * n : Nat) : Int)) x8 x9 (.int .u64 n) x11 x12 h' K) :
    ∀ (d k m1 : Nat) (h : St) (col : Nat → Nat) (x11 : Value) (l : List Nat), k + d = n → d < m1 → l.length = k → RAt col N0 h q r x1 vN vS vL LV st0 → OwnS (col · = 10 + st0.L.length) h x11 1 (l.map uc) l.length → ChgP (fun i => ¬ i < N0) hb h →
      listZ d (st0.b.drop (at0 + 4 * k)) false l = (st0.b.drop (at0 + 4 * n), false, lfin, true) →
      tiltyardref01_Read_l2 (tabC tabQ) idG nn m0 m1 (.string s) x1 (ptr r) x5 (ptr q) (.int .i64 ((at0 + 4 * k : Nat) : Int)) x8 x9 (.int .u64 n) x11 (.int .i64 k) h K := by
  have wn : IntKind.i64.wrap (n : Int) = n := i64_in _ (by omega)
  intro d
  induction d with
  | zero =>
    intro k m1 h col x11 l hk hm hl g o c T
    obtain ⟨m1, rfl⟩ : ∃ m, m1 = m + 1 := ⟨m1 - 1, by omega⟩
    rw [tiltyardref01_Read_l2_eq]
    have e : k = n := by omega
    subst e
    simp only [listZ, Prod.mk.injEq] at T
    obtain ⟨_, _, rfl, _⟩ := T
    simp only [bindV_some, wrapV_int, wn, binV_lss, condK_bool, Int.lt_irrefl, decide_false, Bool.false_eq_true, if_false, idG_eq]
    rw [tiltyardref01_Read_j5_eq]
    have go := g.obj
    simp only [ptr, offV_ptr, loadV_ptr, bindV_some, go, loadM_cells, partV_one, Nat.zero_add, List.getElem?_cons_succ, List.getElem?_cons_zero]
    rw [build1 _ _ o.one o.isUnk o.cells1]
    refine append_one g.sL o.one (by omega) (by omega) fun h1 S hS c1 n1 o1 => ?_
    have hqS : q ∉ S := fun hi => by have h1 : col q = 2 := hS _ hi; have h2 := g.cq; omega
    have a1 := c1.at g.qn hqS go
    simp [a1]
    obtain ⟨z1, z2⟩ := g.addL c1 hS (j := h.next + 1) (by omega) o1 (x5 := x11) (x := l) (own_u o)
    exact END _ _ _ _ (c.step z1) z2 _ _
  | succ d ih =>
    intro k m1 h col x11 l hk hm hl g o c T
    obtain ⟨m1, rfl⟩ : ∃ m, m1 = m + 1 := ⟨m1 - 1, by omega⟩
    rw [tiltyardref01_Read_l2_eq]
    have hlt : (k : Int) < n := by omega
    have w4 : IntKind.i64.wrap (((at0 + 4 * k : Nat) : Int) + 4) = ((at0 + 4 * k + 4 : Nat) : Int) := by rw [i64_in _ (by omega)]; omega
    obtain ⟨v1, hc1, s1⟩ := part_at g.sB (p := at0 + 4 * k) (m := 4) (by omega)
    rw [list_step (by simp; omega), List.drop_drop] at T
    simp only [bindV_some, wrapV_int, wn, binV_lss, condK_bool, hlt, decide_true, if_true, idG_eq, binNil_int, binV_add, w4, hc1]
    have hx4 : ∀ x ∈ (st0.b.drop (at0 + 4 * k)).take 4, x < 256 := fun x hm => hx x (List.mem_of_mem_drop (List.mem_of_mem_take hm))
    have l4 : ((st0.b.drop (at0 + 4 * k)).take 4).length = 4 := by simp; omega
    refine .inr (.inl ⟨rfl, _, v1, _, rfl, by omega, hx4, s1, ?_⟩)
    have hsm := numB_lt _ hx4
    rw [l4] at hsm
    have p4 : 256 ^ 4 = 4294967296 := by decide
    rw [p4] at hsm
    have hw : IntKind.u32.wrap ((numB ((st0.b.drop (at0 + 4 * k)).take 4) : Nat) : Int) = ((numB ((st0.b.drop (at0 + 4 * k)).take 4) : Nat) : Int) := by rw [u32_wrap, Nat.mod_eq_of_lt hsm]
    simp only [bindV_some, wrapV_int, hw]
    rw [build1 _ _ rfl rfl rfl]
    refine append_one o rfl (by omega) (by omega) fun h2 S hS c2 n2 o2 => ?_
    have hS' : ∀ i ∈ S, upd col (h.next + 1) (10 + st0.L.length) i = 10 + st0.L.length := by
      intro i hi
      by_cases e : i = h.next + 1
      · subst e; exact upd_at _ _ _
      · exact (upd_ne e).trans (hS i hi)
    have g2 := (g.upd (j := h.next + 1) (x := 10 + st0.L.length) (by omega)).chg c2 hS' (Nat.le_refl _)
    simp only [inc (show k ≤ 1000000 by omega)]
    have el : l.length + 1 = (l ++ [numB ((st0.b.drop (at0 + 4 * k)).take 4)]).length := by simp
    have e4 : at0 + 4 * k + 4 = at0 + 4 * (k + 1) := by omega
    rw [e4] at T ⊢
    refine ih (k + 1) m1 h2 _ _ (l ++ [numB ((st0.b.drop (at0 + 4 * k)).take 4)]) (by omega) (by omega) (by simp; omega) g2 ?_ (c.step (c2.toP (nlt_c g.old (by omega) hS))) T
    have o3 : OwnS (upd col (h.next + 1) (10 + st0.L.length) · = 10 + st0.L.length) h2 (.slice (some ⟨h.next + 1, 0, some 1⟩) (l.length + 1) 0) 1 (l.map uc ++ [.int .u32 (numB ((st0.b.drop (at0 + 4 * k)).take 4) : Nat)]) (l.length + 1) := o2.imp fun i _ hi => by have hi : i = h.next + 1 := hi; subst hi; exact upd_at _ _ _
    rw [← el]
    simpa [uc] using o3
end Go.Proofs.YtdmcmebfclikgaaDoor

/- The document's 'Read'; 'FieldReads'. -/
set_option linter.unusedSimpArgs false
set_option linter.unusedVariables false
set_option maxHeartbeats 4000000
namespace Go.Proofs.YtdmcmebfclikgaaDoor
open Go.Abs Go.IntWalk

theorem RAt.fields {col : Nat → Nat} {N0 q r : Nat} {h : St} {vB vN vS vL : Value} {LV : List Value} {st : RSt} (g : RAt col N0 h q r vB vN vS vL LV st) : FieldsAt (fun i => ¬ i < N0 ∧ i ≠ r) h vN vS vL (fun i => LV[i]?.getD (.slice none 0 0)) st.N st.S st.L := by
  have ne : ∀ a, a ≠ 8 → a ≠ 7 → ∀ i, i < h.next → col i = a → (¬ i < N0 ∧ i ≠ r) := fun a ha ha' i _ hc => ⟨fun hi => ha (hc.symm.trans (g.old i hi)), fun e => ha' (hc.symm.trans (e ▸ g.cr))⟩
  refine ⟨?_, ?_, ?_, fun i l hl => ?_⟩
  · have s := g.sN
    rw [map_flatV] at s
    exact (s.slice (row := rowQ st.N) (fun _ _ => rfl) (fun i x hx => by simp [rowQ, hx, qc])).imp (ne 0 (by decide) (by decide))
  · have s := g.sS
    rw [map_flatV] at s
    exact (s.slice (row := rowT st.S) (fun _ _ => rfl) (fun i x hx => by simp [rowT, hx])).imp (ne 1 (by decide) (by decide))
  · have s := g.sL
    have e := own_count s
    rw [← e] at s ⊢
    have e2 : LV = LV.flatMap fun v => [v] := by simp
    have s' : OwnS (col · = 2) h vL 1 (LV.flatMap fun v => [v]) LV.length := by rw [← e2]; exact s
    exact (s'.slice (fun _ _ => rfl) (fun i x hx => by simp [hx])).imp (ne 2 (by decide) (by decide))
  · obtain ⟨v, h1, h2⟩ := g.sX i l hl
    simp only [h1, Option.getD_some]
    exact h2.imp (ne (10 + i) (by omega) (by omega))
theorem nlt_r {col : Nat → Nat} {N0 q r : Nat} {h : St} {vB vN vS vL : Value} {LV : List Value} {st : RSt} (g : RAt col N0 h q r vB vN vS vL LV st) : ¬ r < N0 := fun hlt => by
  have h1 := g.old r hlt
  have h2 := g.cr
  omega
section loop
variable {s : ByteArray} {x1 x5 : Value} {r q N0 nn : Nat} {K : Cont} {hb : St} {b : List Nat} {T : Nat × RSt}
theorem ref_fail {col : Nat → Nat} {h : St} {vN vS vL : Value} {LV : List Value} {st : RSt} (g : RAt col N0 h q r x1 vN vS vL LV st) (c : ChgP (fun i => ¬ i < N0) hb h) {n : Nat} (hT : T = (n, noSt))
    (END : ∀ h' vN vS vL lv, ChgP (fun i => ¬ i < N0) hb h' → FieldsAt (fun i => ¬ i < N0) h' vN vS vL lv T.2.N T.2.S T.2.L → K (.tuple #[.agg #[vN, vS, vL], .int .i64 T.1]) h') :
    bindV (buildV [.slice none 0 0, .slice none 0 0, .slice none 0 0] (some [])) fun v33 => storeE 3 (ptr r) v33 h fun _ h9 => bindV (loadV true 3 (ptr r) h9) fun r10 => K (.tuple #[r10, (.int .i64 n)]) h9 := by
  subst hT
  have go := g.ro
  simp [buildV, fillL, ptr, go]
  exact END _ _ _ _ _ (c.of_set (.inl (nlt_r g))) (nilF _ _)
theorem ref_j4 {col : Nat → Nat} {h : St} {vN vS vL x8 x9 x10 x11 x12 : Value} {LV : List Value} {N : List Nat} {S : List ByteArray} {L : List (List Nat)} {at_ : Nat} {sh : Bool} (g : RAt col N0 h q r x1 vN vS vL LV ⟨b, sh, N, S, L⟩) (c : ChgP (fun i => ¬ i < N0) hb h) (hbl : b.length ≤ 100000) (hT : T = finZ ⟨b.drop at_, false, N, S, L⟩)
    (END : ∀ h' vN vS vL lv, ChgP (fun i => ¬ i < N0) hb h' → FieldsAt (fun i => ¬ i < N0) h' vN vS vL lv T.2.N T.2.S T.2.L → K (.tuple #[.agg #[vN, vS, vL], .int .i64 T.1]) h') :
    tiltyardref01_Read_j4 (tabC tabQ) idG nn (.string s) x1 (ptr r) x5 (ptr q) (.int .i64 at_) x8 x9 x10 x11 x12 h K := by
  rw [tiltyardref01_Read_j4_eq, g.sB.len]
  by_cases hl : at_ < b.length
  · have hl' : (at_ : Int) < b.length := by omega
    have e : T = (4, noSt) := by
      rw [hT]; unfold finZ
      rw [if_neg (by simp), if_pos (by simp; omega)]
    simp only [bindV_some, binV_lss, condK_bool, hl', decide_true, if_true]
    exact ref_fail g c e END
  · have hl' : ¬ (at_ : Int) < b.length := by omega
    have e : T = (0, ⟨b.drop at_, false, N, S, L⟩) := by
      rw [hT]; unfold finZ
      rw [if_neg (by simp), if_neg (by simp; omega)]
    subst e
    have f := g.fields
    have w1 := f.1.one; have w2 := f.2.1.one; have w3 := f.2.2.1.one
    have go := g.obj
    have gr := g.ro
    have hrq : r ≠ q := by intro e; have h1 := g.cr; have h2 := g.cq; rw [e] at h1; omega
    simp [ptr, hl', go, gr, w1, w2, w3]
    have f' := f.chgP (D := fun i => i = r) ((ChgP.refl _ h).of_set (o := .cells [vN, vS, vL] true) (.inl rfl)) (by intro i hi hh; exact hh.2 hi)
    exact END _ _ _ _ _ (c.of_set (.inl (nlt_r g))) ⟨f'.1.imp (fun i _ hi => hi.1), f'.2.1.imp (fun i _ hi => hi.1), f'.2.2.1.imp (fun i _ hi => hi.1), fun i l hl => (f'.2.2.2 i l hl).imp (fun i _ hi => hi.1)⟩
theorem ref_l0 (h8 : (letters s).length ≤ 8) (hbl : b.length ≤ 100000) (hx : ∀ x ∈ b, x < 256)
    (END : ∀ h' vN vS vL lv, ChgP (fun i => ¬ i < N0) hb h' → FieldsAt (fun i => ¬ i < N0) h' vN vS vL lv T.2.N T.2.S T.2.L → K (.tuple #[.agg #[vN, vS, vL], .int .i64 T.1]) h') :
    ∀ (d i m0 : Nat) (h : St) (col : Nat → Nat) (vN vS vL : Value) (LV : List Value) (N : List Nat) (S : List ByteArray) (L : List (List Nat)) (sh : Bool) (at_ : Nat) (x9 x10 x11 x12 : Value), i + d = (letters s).length → d + 300 < m0 → ChgP (fun i => ¬ i < N0) hb h → RAt col N0 h q r x1 vN vS vL LV ⟨b, sh, N, S, L⟩ → N.length ≤ i → S.length ≤ i → L.length ≤ i → at_ ≤ b.length →
      T = finZ (gatherZ ((letters s).drop i) ⟨b.drop at_, false, N, S, L⟩) →
      tiltyardref01_Read_l0 (tabC tabQ) idG nn m0 (.string s) x1 (ptr r) x5 (ptr q) (.int .i64 at_) (.int .i64 i) x9 x10 x11 x12 h K := by
  have hsz := letters_length s
  intro d
  induction d with
  | zero =>
    intro i m0 h col vN vS vL LV N S L sh at_ x9 x10 x11 x12 hi hm c g l1 l2 l3 ha hT
    obtain ⟨m0, rfl⟩ : ∃ m, m0 = m + 1 := ⟨m0 - 1, by omega⟩
    rw [tiltyardref01_Read_l0_eq]
    have e' : ¬ ((i : Int) < s.size) := by omega
    have z : (letters s).drop i = [] := by rw [List.drop_eq_nil_iff]; omega
    rw [z] at hT
    simp only [lenT_string, bindV_some, binV_lss, condK_bool, e', decide_false, Bool.false_eq_true, if_false, idG_eq]
    exact ref_j4 g c hbl hT END
  | succ d ih =>
    intro i m0 h col vN vS vL LV N S L sh at_ x9 x10 x11 x12 hi hm c g l1 l2 l3 ha hT
    obtain ⟨m0, rfl⟩ : ∃ m, m0 = m + 1 := ⟨m0 - 1, by omega⟩
    rw [tiltyardref01_Read_l0_eq]
    have hlt : i < (letters s).length := by omega
    have hlt' : ((i : Int) < s.size) := by omega
    obtain ⟨a, hla⟩ : ∃ a, (letters s)[i]? = some a := ⟨_, List.getElem?_eq_getElem hlt⟩
    have hd : (letters s).drop i = a :: (letters s).drop (i + 1) := by
      rw [List.drop_eq_getElem_cons hlt]
      congr 1
      exact (List.getElem?_eq_some_iff.1 hla).2
    rw [hd] at hT
    have hxd : ∀ x ∈ b.drop at_, x < 256 := fun x hm => hx x (List.mem_of_mem_drop hm)
    have hw8 := wd_le a
    simp only [lenT_string, bindV_some, binV_lss, condK_bool, hlt', decide_true, if_true, idG_eq, idxT_at hla]
    refine .inl ⟨rfl, a, rfl, fun h1 c1 => ?_⟩
    have g1 := g.chg (a := 10 + L.length) c1 (by simp) (Nat.le_refl _)
    have cc1 : ChgP (fun i => ¬ i < N0) hb h1 := c.step (c1.toP (by simp))
    have wsub : ∀ p : Nat, p ≤ b.length → IntKind.i64.wrap ((b.length : Int) - (p : Int)) = ((b.length - p : Nat) : Int) := by intro p hp; rw [i64_in _ (by omega)]; omega
    have ws1 := wsub at_ ha
    have sB : SliceAt (col · = 8) h1 x1 b.length 1 (rowC b) := g1.sB
    have hlen := sB.len
    show bindV (lenS x1) _
    simp only [hlen, bindV_some, binV_sub, ws1, binV_lss, condK_bool, idG_eq]
    have hT' : T = finZ (gatherZ ((letters s).drop (i + 1)) (fieldZ a ⟨b.drop at_, false, N, S, L⟩)) := hT
    by_cases hs : b.length - at_ < wd a
    · have hs' : ((b.length - at_ : Nat) : Int) < (wd a : Nat) := by omega
      have e3 : T = (3, noSt) := by rw [hT]; exact fin_true hxd (field_short (by simpa using hs))
      simp only [hs', decide_true, if_true]
      exact ref_fail g1 cc1 e3 END
    · have hs' : ¬ ((b.length - at_ : Nat) : Int) < (wd a : Nat) := by omega
      obtain ⟨v1, hc1, s1⟩ := part_at sB (p := at_) (m := wd a) (by omega)
      have wadd : IntKind.i64.wrap ((at_ : Int) + (wd a : Nat)) = ((at_ + wd a : Nat) : Int) := by rw [i64_in _ (by omega)]; omega
      have hxw : ∀ x ∈ (b.drop at_).take (wd a), x < 256 := fun x hm => hxd x (List.mem_of_mem_take hm)
      have lw : ((b.drop at_).take (wd a)).length = wd a := by simp; omega
      have hsm := numB_lt _ hxw
      rw [lw] at hsm
      have nw : ¬ wd a > (b.drop at_).length := by simp; omega
      have e_out : outZ (b.drop at_) (wd a) = (b.drop at_).take (wd a) := by simp only [outZ, if_neg nw]
      have e_left : leftZ (b.drop at_) (wd a) = b.drop (at_ + wd a) := by simp only [leftZ, if_neg nw, List.drop_drop]
      have e_sh : shortZ (b.drop at_) false (wd a) = false := by simp only [shortZ, if_neg nw]
      simp only [hs', decide_false, Bool.false_eq_true, if_false, binV_add, wadd, bindV_some, hc1]
      refine .inr (.inl ⟨rfl, _, v1, _, rfl, by omega, hxw, s1, ?_⟩)
      generalize hn : numB ((b.drop at_).take (wd a)) = n at *
      have nxt : ∀ (h' : St) (col' : Nat → Nat) (vN' vS' vL' : Value) (LV' : List Value) (N' : List Nat) (S' : List ByteArray) (L' : List (List Nat)) (sh' : Bool) (at' : Nat) (y9 y10 y11 y12 : Value), ChgP (fun i => ¬ i < N0) hb h' → RAt col' N0 h' q r x1 vN' vS' vL' LV' ⟨b, sh', N', S', L'⟩ → N'.length ≤ i + 1 → S'.length ≤ i + 1 → L'.length ≤ i + 1 → at' ≤ b.length →
          fieldZ a ⟨b.drop at_, false, N, S, L⟩ = ⟨b.drop at', false, N', S', L'⟩ →
          tiltyardref01_Read_j1 (tabC tabQ) idG nn m0 (.string s) x1 (ptr r) x5 (ptr q) (.int .i64 at') (.int .i64 i) y9 y10 y11 y12 h' K := by
        intro h' col' vN' vS' vL' LV' N' S' L' sh' at' y9 y10 y11 y12 q1 q2 q3 q4 q5 q6 q7
        rw [tiltyardref01_Read_j1_eq]
        simp only [binNil_int, binV_add, bindV_some, inc (show i ≤ 1000000 by omega), idG_eq]
        exact ih (i + 1) m0 h' col' vN' vS' vL' LV' N' S' L' sh' at' _ _ _ _ (by omega) (by omega) q1 q2 q3 q4 q5 q6 (by rw [hT', q7])
      have go := g1.obj
      by_cases t1 : a = 115
      · have t1i : (a : Int) = 115 := by omega
        have hw1 : wd a = 1 := by rw [t1]; rfl
        rw [hw1] at hsm
        have ef : fieldZ a ⟨b.drop at_, false, N, S, L⟩ = ⟨leftZ (b.drop (at_ + wd a)) n, shortZ (b.drop (at_ + wd a)) false n, N, S ++ [bytesText (outZ (b.drop (at_ + wd a)) n)], L⟩ := by
          unfold fieldZ
          rw [if_pos t1]
          simp only [e_out, e_left, e_sh, hn]
        have ws2 := wsub (at_ + wd a) (by omega)
        have wu : IntKind.u64.wrap ((b.length - (at_ + wd a) : Nat) : Int) = ((b.length - (at_ + wd a) : Nat) : Int) := u64_wrap _ (by omega)
        have wi : IntKind.i64.wrap (n : Int) = n := i64_in _ (by omega)
        simp only [t1i, binNil_int, binV_eql, bindV_some, condK_bool, decide_true, if_true, hlen, binV_sub, ws2, wrapV_int, wu, binV_lss]
        by_cases hs2 : b.length - (at_ + wd a) < n
        · have hs2' : ((b.length - (at_ + wd a) : Nat) : Int) < (n : Nat) := by omega
          have e3 : T = (3, noSt) := by
            rw [hT]
            refine fin_true hxd ?_
            rw [ef]
            exact short_lt (by simpa using hs2) _
          simp only [hs2', decide_true, if_true]
          exact ref_fail g1 cc1 e3 END
        · have hs2' : ¬ ((b.length - (at_ + wd a) : Nat) : Int) < (n : Nat) := by omega
          obtain ⟨v2, hc2, s2⟩ := part_at sB (p := at_ + wd a) (m := n) (by omega)
          have wadd2 : IntKind.i64.wrap (((at_ + wd a : Nat) : Int) + (n : Int)) = ((at_ + wd a + n : Nat) : Int) := by rw [i64_in _ (by omega)]; omega
          have tx := text_slice s2
          have nw2 : ¬ n > (b.drop (at_ + wd a)).length := by simp; omega
          simp only [hs2', decide_false, Bool.false_eq_true, if_false, ptr, offV_ptr, loadV_ptr, go, loadM_cells, partV_one, Nat.zero_add, List.getElem?_cons_succ, List.getElem?_cons_zero, true_and, wi, binV_add, wadd2, hc2, tx, bindV_some]
          rw [build1 _ _ rfl rfl rfl]
          have a3 : (h1.push (.cells [.string (bytesText ((b.drop (at_ + wd a)).take n))] true)).objs q = h1.objs q := push_ne g1.qn
          simp only [a3, go, loadM_cells, partV_one, Nat.zero_add, List.getElem?_cons_succ, List.getElem?_cons_zero, true_and, bindV_some]
          refine append_one g1.sS rfl (by simp; omega) (by simp; omega) fun h3 S3 hS3 c3 n3 o3 => ?_
          have hqS : q ∉ S3 := fun hi => by have h1 : col q = 1 := hS3 _ hi; have h2 := g.cq; omega
          have a4 := c3.at g1.qn hqS go
          simp only [a4, storeE_ptr, storeM_cells, true_and]
          refine ⟨by simp, ?_⟩
          obtain ⟨z1, z2⟩ := g1.addS c3 hS3 (j := h1.next + 1) (by omega) o3
          refine nxt _ _ _ _ _ _ N (S ++ [bytesText ((b.drop (at_ + wd a)).take n)]) L sh (at_ + wd a + n) _ _ _ _ (cc1.step z1) z2 (by omega) (by simp; omega) (by omega) (by omega) ?_
          rw [ef]
          simp only [leftZ, outZ, shortZ, if_neg nw2, List.drop_drop]
      · have t1i : ¬ (a : Int) = 115 := by omega
        by_cases t2 : a = 108
        · have t2i : (a : Int) = 108 := by omega
          have hw1 : wd a = 1 := by rw [t2]; rfl
          rw [hw1] at hsm
          have ef : fieldZ a ⟨b.drop at_, false, N, S, L⟩ = (if (listZ n (b.drop (at_ + wd a)) false []).2.2.2 = true then ⟨(listZ n (b.drop (at_ + wd a)) false []).1, (listZ n (b.drop (at_ + wd a)) false []).2.1, N, S, L ++ [(listZ n (b.drop (at_ + wd a)) false []).2.2.1]⟩ else ⟨(listZ n (b.drop (at_ + wd a)) false []).1, (listZ n (b.drop (at_ + wd a)) false []).2.1, N, S, L⟩) := by
            unfold fieldZ
            rw [if_neg t1, if_pos t2]
            simp only [e_out, e_left, e_sh, hn]
          have ws2 := wsub (at_ + wd a) (by omega)
          have wu : IntKind.u64.wrap ((b.length - (at_ + wd a) : Nat) : Int) = ((b.length - (at_ + wd a) : Nat) : Int) := u64_wrap _ (by omega)
          have w4 : IntKind.u64.wrap (4 * (n : Int)) = ((4 * n : Nat) : Int) := by
            have : 4 * (n : Int) = ((4 * n : Nat) : Int) := by omega
            rw [this]; exact u64_wrap _ (by omega)
          simp only [t1i, t2i, binNil_int, binV_eql, bindV_some, condK_bool, decide_true, decide_false, Bool.false_eq_true, if_false, if_true, hlen, binV_sub, ws2, wrapV_int, wu, binV_mul, w4, binV_lss]
          rw [if_neg (by decide)]
          by_cases hs2 : b.length - (at_ + wd a) < 4 * n
          · have hs2' : ((b.length - (at_ + wd a) : Nat) : Int) < ((4 * n : Nat) : Int) := by omega
            have e3 : T = (3, noSt) := by
              rw [hT]
              refine fin_true hxd ?_
              have := list_short (k := n) (b := b.drop (at_ + wd a)) (fun x hm => hx x (List.mem_of_mem_drop hm)) (by simpa using hs2) []
              rw [ef]
              split <;> exact this
            simp only [hs2', decide_true, if_true]
            exact ref_fail g1 cc1 e3 END
          · have hs2' : ¬ ((b.length - (at_ + wd a) : Nat) : Int) < ((4 * n : Nat) : Int) := by omega
            obtain ⟨lf, hlf⟩ := list_ok n (b.drop (at_ + wd a)) [] (by simp; omega)
            rw [List.drop_drop] at hlf
            simp only [hs2', decide_false, Bool.false_eq_true, if_false]
            refine ref_l2 (at0 := at_ + wd a) (n := n) (st0 := ⟨b, sh, N, S, L⟩) (lfin := lf) (by omega) (show L.length ≤ 1000 by omega) hbl hx (show at_ + wd a + 4 * n ≤ b.length by omega) ?_ n 0 m0 h1 col _ [] (by omega) (by omega) rfl g1 (.inl ⟨rfl, rfl, rfl⟩) cc1 hlf
            intro h' col' vL' LV' q1 q2 y11 y12
            refine nxt h' col' _ _ _ _ N S (L ++ [lf]) sh (at_ + wd a + 4 * n) _ _ _ _ q1 q2 (by omega) (by omega) (by simp; omega) (by omega) ?_
            rw [ef, hlf]
            rfl
        · have t2i : ¬ (a : Int) = 108 := by omega
          have ef : fieldZ a ⟨b.drop at_, false, N, S, L⟩ = ⟨b.drop (at_ + wd a), false, N ++ [n], S, L⟩ := by
            unfold fieldZ
            rw [if_neg t1, if_neg t2]
            simp only [e_out, e_left, e_sh, hn]
          simp only [t1i, t2i, binNil_int, binV_eql, bindV_some, condK_bool, decide_false, Bool.false_eq_true, if_false]
          rw [tiltyardref01_Read_j3_eq]
          simp only [ptr, offV_ptr, loadV_ptr, go, loadM_cells, partV_one, Nat.zero_add, List.getElem?_cons_succ, List.getElem?_cons_zero, bindV_some]
          rw [build1 _ _ rfl rfl rfl]
          refine append_one g1.sN rfl (by simp; omega) (by simp; omega) fun h3 S3 hS3 c3 n3 o3 => ?_
          have hqS : q ∉ S3 := fun hi => by have h1 : col q = 0 := hS3 _ hi; have h2 := g.cq; omega
          have a4 := c3.at g1.qn hqS go
          simp only [a4, storeE_ptr, storeM_cells, true_and]
          refine ⟨by simp, ?_⟩
          obtain ⟨z1, z2⟩ := g1.addN c3 hS3 (j := h1.next + 1) (by omega) o3
          exact nxt _ _ _ _ _ _ (N ++ [n]) S L sh (at_ + wd a) _ _ _ _ (cc1.step z1) z2 (by simp; omega) (by omega) (by omega) (by omega) ef
end loop
end Go.Proofs.YtdmcmebfclikgaaDoor

/- 'FieldReads', walked. -/
set_option linter.unusedSimpArgs false
set_option linter.unusedVariables false
set_option maxHeartbeats 4000000
namespace Go.Proofs.YtdmcmebfclikgaaDoor
open Go.Abs Go.IntWalk

theorem tabQ_good : ∀ p ∈ tabQ, SpecGood Tryd.prog p := by simp [tabQ, SpecGood, refWidthS_ok, refWidthS_live, refNumS_good.1, refNumS_good.2, refLeastS_ok, refLeastS_live]
theorem refReadS_good : SpecGood Tryd.prog (34, readS) := by
  refine spec_good mixed Tryd.func34 (by kernel_rfl) (by kernel_rfl) tabQ_good (keep := tiltyardref01_Read_keep) ?_
  rintro args h k ⟨V, s, v, b, rfl, hs, hbl, hx, sl, hV, H⟩
  refine ⟨400, ?_⟩
  show tiltyardref01_Read (tabC tabQ) idG 400 (.string s) v h _
  rw [tiltyardref01_Read_eq]
  simp only [allocE_some]
  refine .inr (.inr (.inl ⟨rfl, s, rfl, by omega, fun h2 c2 => ?_⟩))
  have c2' : Chg h h2 [] := (Chg.push _ []).of_chg c2 (by simp)
  have n2 : h.next + 1 ≤ h2.next := by have := c2.1; simpa using this
  have a2 : h2.objs h.next = some (.cells [.slice none 0 0, .slice none 0 0, .slice none 0 0] true) := c2.at (by simp) (by simp) (push_at _ _)
  by_cases hr : 0 ≤ leastZ (letters s)
  · have hr' : ¬ leastZ (letters s) < 0 := by omega
    have h8 : (letters s).length ≤ 8 := by
      unfold leastZ at hr
      split at hr <;> omega
    simp only [bindV_some, binNil_int, binV_lss, hr', decide_false, condK_bool, Bool.false_eq_true, if_false, idG_eq]
    have c3 : Chg h (h2.push (.cells [.slice none 0 0, .slice none 0 0, .slice none 0 0] true)) [] := c2'.of_push
    have cV : SliceAt (fun i => i < h.next) (h2.push (.cells [.slice none 0 0, .slice none 0 0, .slice none 0 0] true)) v b.length 1 (rowC b) := (sl.chg c3 (by simp)).imp fun i _ hi => hV i hi
    refine ref_l0 (N0 := h.next) (q := h2.next) (r := h.next) (hb := h2.push (.cells [.slice none 0 0, .slice none 0 0, .slice none 0 0] true)) (b := b) (T := readZ (letters s) b) h8 hbl hx ?_ (letters s).length 0 400 (h2.push (.cells [.slice none 0 0, .slice none 0 0, .slice none 0 0] true)) (fun i => if i = h2.next then 9 else if i = h.next then 7 else 8) _ _ _ [] [] [] [] false 0 _ _ _ _ (by omega) (by omega) (ChgP.refl _ _)
      ⟨by simp; omega, by simp, if_pos rfl, fun i hi => (if_neg (by omega)).trans (if_neg (by omega)), push_at _ _, by simp; omega, (if_neg (by omega)).trans (if_pos rfl), by rw [push_ne (by omega)]; exact a2, cV.imp (fun i _ hi => (if_neg (by have : i < h.next := hi; omega)).trans (if_neg (by have : i < h.next := hi; omega))), .inl ⟨rfl, rfl, rfl⟩, .inl ⟨rfl, rfl, rfl⟩, .inl ⟨rfl, rfl, rfl⟩, fun i l hl => by simp at hl⟩ (by simp) (by simp) (by simp) (by simp) (by rw [read_fin _ _ hr]; simp)
    intro h' vN vS vL lv c' F
    refine ⟨_, St.le.refl _, H h' vN vS vL lv (((c3.toP (D := fun i => ¬ i < h.next) (by simp)).step c').list (by intro i hi hh; omega)) ⟨F.1.imp (fun i _ hi => by omega), F.2.1.imp (fun i _ hi => by omega), F.2.2.1.imp (fun i _ hi => by omega), fun i l hl => (F.2.2.2 i l hl).imp (fun i _ hi => by omega)⟩⟩
  · have hr' : leastZ (letters s) < 0 := by omega
    have hz : readZ (letters s) b = (1, noSt) := by unfold readZ; rw [if_neg hr]
    rw [hz] at H
    simp [hr', buildV, fillL, a2]
    exact ⟨_, St.le.refl _, H _ _ _ _ _ (Chg.of_set c2' (.inr (Nat.le_refl _))) (nilF _ _)⟩
theorem least_len {cs : List Nat} (h : 0 ≤ leastZ cs) : cs.length ≤ 8 := by
  unfold leastZ at h
  split at h <;> omega
theorem read_small {cs b : List Nat} (hx : ∀ x ∈ b, x < 256) : (readZ cs b).2.N.length ≤ 8 ∧ (readZ cs b).2.S.length ≤ 8 ∧ (readZ cs b).2.L.length ≤ 8 ∧ ∀ l ∈ (readZ cs b).2.L, l.length ≤ 1000 := by
  by_cases h : (readZ cs b).1 = 0
  · obtain ⟨hl, n, s, l, e, I⟩ := read_zero hx h
    have h8 := least_len hl
    have := I.len
    rw [e]
    exact ⟨by simp only; omega, by simp only; omega, by simp only; omega, fun x hm => (I.small.2.2 x hm).1⟩
  · rw [read_not h]
    simp [noSt]
end Go.Proofs.YtdmcmebfclikgaaDoor

/- 'FieldBack', walked. -/
set_option linter.unusedSimpArgs false
set_option linter.unusedVariables false
set_option maxHeartbeats 4000000
namespace Go.Proofs.YtdmcmebfclikgaaDoor
open Go.Abs Go.IntWalk

def smallB (N : List Nat) (S : List ByteArray) (L : List (List Nat)) : Bool := S.all (fun s => decide (s.size ≤ 300)) && (L.all (fun l => decide (l.length ≤ 300)) && (decide (N.length ≤ 12) && decide (S.length ≤ 12) && decide (L.length ≤ 12)))
theorem inc' {i : Nat} (h : i ≤ 9223372036854775806) : IntKind.i64.wrap ((i : Int) + 1) = ((i + 1 : Nat) : Int) := by rw [i64_in _ (by omega)]; omega
section small
variable {V : Nat → Prop} {h : St} {pa nn : Nat} {vN vS vL x2 : Value} {lv : Nat → Value} {N : List Nat} {S : List ByteArray} {L : List (List Nat)} {K : Cont}
theorem small_j3 (hA : h.objs pa = some (.cells [vN, vS, vL] true)) (F : FieldsAt V h vN vS vL lv N S L) {x3 x4 : Value} (H : K (.bool (decide (N.length ≤ 12) && decide (S.length ≤ 12) && decide (L.length ≤ 12))) h) : tiltyardref01_Small_j3 (tabC []) idG nn (ptr pa) x2 x3 x4 h K := by
  rw [tiltyardref01_Small_j3_eq]
  have e : ∀ n : Nat, ((n : Int) ≤ 12) = (n ≤ 12) := by intro n; simp; omega
  by_cases h1 : N.length ≤ 12
  · by_cases h2 : S.length ≤ 12
    · simp only [ptr, offV_ptr, loadV_ptr, hA, loadM_cells, partV_one, Nat.zero_add, List.getElem?_cons_succ, List.getElem?_cons_zero, bindV_some, F.1.len, F.2.1.len, F.2.2.1.len, binNil_int, binV_leq, e, h1, h2, decide_true, groupK_eq, guardK_bool, if_true, getT, pickV_bool, idG_eq]
      simpa [h1, h2] using H
    · simp only [ptr, offV_ptr, loadV_ptr, hA, loadM_cells, partV_one, Nat.zero_add, List.getElem?_cons_succ, List.getElem?_cons_zero, bindV_some, F.1.len, F.2.1.len, F.2.2.1.len, binNil_int, binV_leq, e, h1, h2, decide_true, decide_false, groupK_eq, guardK_bool, if_true, getT, pickV_bool, idG_eq]
      simpa [h1, h2] using H
  · simp only [ptr, offV_ptr, loadV_ptr, hA, loadM_cells, partV_one, Nat.zero_add, List.getElem?_cons_succ, List.getElem?_cons_zero, bindV_some, F.1.len, F.2.1.len, F.2.2.1.len, binNil_int, binV_leq, e, h1, decide_false, groupK_eq, guardK_bool, getT, pickV_bool, idG_eq]
    simpa [h1] using H
theorem small_l2 (hA : h.objs pa = some (.cells [vN, vS, vL] true)) (F : FieldsAt V h vN vS vL lv N S L) (hL : L.length ≤ 9223372036854775807) {x3 : Value} :
    ∀ (d i m0 : Nat), i + d = L.length → d < m0 → K (.bool ((L.drop i).all (fun l => decide (l.length ≤ 300)) && (decide (N.length ≤ 12) && decide (S.length ≤ 12) && decide (L.length ≤ 12)))) h → tiltyardref01_Small_l2 (tabC []) idG nn m0 (ptr pa) x2 x3 (.int .i64 i) h K := by
  intro d
  induction d with
  | zero =>
    intro i m0 hi hm H
    obtain ⟨m0, rfl⟩ : ∃ m, m0 = m + 1 := ⟨m0 - 1, by omega⟩
    rw [tiltyardref01_Small_l2_eq]
    have e : i = L.length := by omega
    subst e
    rw [List.drop_length] at H
    have := small_j3 (nn := nn) (x2 := x2) (x3 := x3) (x4 := .int .i64 L.length) hA F (K := K) (by simpa using H)
    simp only [ptr] at *
    simp only [offV_ptr, loadV_ptr, hA, loadM_cells, partV_one, Nat.zero_add, List.getElem?_cons_succ, List.getElem?_cons_zero, bindV_some, F.2.2.1.len, binV_lss, condK_bool, Int.lt_irrefl, decide_false, Bool.false_eq_true, if_false, idG_eq]
    exact this
  | succ d ih =>
    intro i m0 hi hm H
    obtain ⟨m0, rfl⟩ : ∃ m, m0 = m + 1 := ⟨m0 - 1, by omega⟩
    rw [tiltyardref01_Small_l2_eq]
    have hlt : (i : Int) < L.length := by omega
    have hiL : i < L.length := by omega
    have hd : L.drop i = L[i] :: L.drop (i + 1) := List.drop_eq_getElem_cons hiL
    rw [hd, List.all_cons] at H
    obtain ⟨b, o, g1, g2, g3, cs, own, g4, g5⟩ := F.2.2.1.idx (Int.natCast_nonneg i) hlt .i64
    have g6 := takeN_get g5 (j := 0) (by omega)
    simp at g6
    have sl := F.2.2.2 i _ (List.getElem?_eq_getElem hiL)
    by_cases h3 : L[i].length ≤ 300
    · have h3' : ¬ (300 : Int) < L[i].length := by omega
      have ihh := ih (i + 1) m0 (by omega) (by omega) (by simpa [h3] using H)
      simp only [ptr] at *
      simp only [offV_ptr, loadV_ptr, hA, loadM_cells, partV_one, Nat.zero_add, List.getElem?_cons_succ, List.getElem?_cons_zero, bindV_some, F.2.2.1.len, binV_lss, condK_bool, hlt, decide_true, if_true, idG_eq, g1, g4, g6, sl.len, binNil_int, binV_gtr, gt_iff_lt, h3', decide_false, Bool.false_eq_true, if_false, binV_add, inc' (show i ≤ 9223372036854775806 by omega)]
      exact ihh
    · have h3' : (300 : Int) < L[i].length := by omega
      simp only [ptr] at *
      simp only [offV_ptr, loadV_ptr, hA, loadM_cells, partV_one, Nat.zero_add, List.getElem?_cons_succ, List.getElem?_cons_zero, bindV_some, F.2.2.1.len, binV_lss, condK_bool, hlt, decide_true, if_true, idG_eq, g1, g4, g6, sl.len, binNil_int, binV_gtr, gt_iff_lt, h3']
      simpa [h3] using H
theorem small_l0 (hA : h.objs pa = some (.cells [vN, vS, vL] true)) (F : FieldsAt V h vN vS vL lv N S L) (hS : S.length ≤ 9223372036854775807) (hL : L.length ≤ 9223372036854775807) (hn : L.length < nn) {x4 : Value} :
    ∀ (d i m0 : Nat), i + d = S.length → d < m0 → K (.bool ((S.drop i).all (fun s => decide (s.size ≤ 300)) && (L.all (fun l => decide (l.length ≤ 300)) && (decide (N.length ≤ 12) && decide (S.length ≤ 12) && decide (L.length ≤ 12))))) h → tiltyardref01_Small_l0 (tabC []) idG nn m0 (ptr pa) x2 (.int .i64 i) x4 h K := by
  intro d
  induction d with
  | zero =>
    intro i m0 hi hm H
    obtain ⟨m0, rfl⟩ : ∃ m, m0 = m + 1 := ⟨m0 - 1, by omega⟩
    rw [tiltyardref01_Small_l0_eq]
    have e : i = S.length := by omega
    subst e
    rw [List.drop_length] at H
    have := small_l2 (nn := nn) (x2 := x2) (x3 := .int .i64 S.length) hA F hL (K := K) L.length 0 nn (by omega) hn (by simpa using H)
    simp only [ptr] at *
    simp only [offV_ptr, loadV_ptr, hA, loadM_cells, partV_one, Nat.zero_add, List.getElem?_cons_succ, List.getElem?_cons_zero, bindV_some, F.2.1.len, binV_lss, condK_bool, Int.lt_irrefl, decide_false, Bool.false_eq_true, if_false, idG_eq]
    rw [tiltyardref01_Small_j1_eq]
    simp only [idG_eq]
    exact this
  | succ d ih =>
    intro i m0 hi hm H
    obtain ⟨m0, rfl⟩ : ∃ m, m0 = m + 1 := ⟨m0 - 1, by omega⟩
    rw [tiltyardref01_Small_l0_eq]
    have hlt : (i : Int) < S.length := by omega
    have hiL : i < S.length := by omega
    have hd : S.drop i = S[i] :: S.drop (i + 1) := List.drop_eq_getElem_cons hiL
    rw [hd, List.all_cons] at H
    obtain ⟨b, o, g1, g2, g3, cs, own, g4, g5⟩ := F.2.1.idx (Int.natCast_nonneg i) hlt .i64
    have g6 := takeN_get g5 (j := 0) (by omega)
    have hg : S[i]?.getD .empty = S[i] := by rw [List.getElem?_eq_getElem hiL]; rfl
    simp only [rowT, Int.toNat_natCast, hg, Nat.add_zero, List.getElem?_cons_zero] at g6
    by_cases h3 : S[i].size ≤ 300
    · have h3' : ¬ (300 : Int) < S[i].size := by omega
      have ihh := ih (i + 1) m0 (by omega) (by omega) (by simpa [h3] using H)
      simp only [ptr] at *
      simp only [offV_ptr, loadV_ptr, hA, loadM_cells, partV_one, Nat.zero_add, List.getElem?_cons_succ, List.getElem?_cons_zero, bindV_some, F.2.1.len, binV_lss, condK_bool, hlt, decide_true, if_true, idG_eq, g1, g4, g6, lenT_string, binNil_int, binV_gtr, gt_iff_lt, h3', decide_false, Bool.false_eq_true, if_false, binV_add, inc' (show i ≤ 9223372036854775806 by omega)]
      exact ihh
    · have h3' : (300 : Int) < S[i].size := by omega
      simp only [ptr] at *
      simp only [offV_ptr, loadV_ptr, hA, loadM_cells, partV_one, Nat.zero_add, List.getElem?_cons_succ, List.getElem?_cons_zero, bindV_some, F.2.1.len, binV_lss, condK_bool, hlt, decide_true, if_true, idG_eq, g1, g4, g6, lenT_string, binNil_int, binV_gtr, gt_iff_lt, h3']
      simpa [h3] using H
end small
def smallS : Abs.Spec := fun args h k => ∃ (V : Nat → Prop) (vN vS vL : Value) (lv : Nat → Value) (N : List Nat) (S : List ByteArray) (L : List (List Nat)), args = [.agg #[vN, vS, vL]] ∧ FieldsAt V h vN vS vL lv N S L ∧ S.length ≤ 9223372036854775807 ∧ L.length ≤ 9223372036854775807 ∧ ∀ h', Chg h h' [] → k (.bool (smallB N S L)) h'
theorem smallS_good : SpecGood Tryd.prog (10, smallS) := by
  refine spec_good mixed Tryd.func10 (by kernel_rfl) (by kernel_rfl) (tab := []) (by simp) (keep := tiltyardref01_Small_keep) ?_
  rintro args h k ⟨V, vN, vS, vL, lv, N, S, L, rfl, F, hS, hL, H⟩
  refine ⟨S.length + L.length + 2, ?_⟩
  show tiltyardref01_Small (tabC []) idG (S.length + L.length + 2) (.agg #[vN, vS, vL]) h _
  rw [tiltyardref01_Small_eq]
  have o1 := F.1.one; have o2 := F.2.1.one; have o3 := F.2.2.1.one
  simp only [boxE_eq, cells_agg, idG_eq]
  refine ⟨by simp [o1, o2, o3], ?_⟩
  have c := Chg.push (h := h) (.cells #[vN, vS, vL].toList true) []
  exact small_l0 (push_at _ _) (F.chgP (D := fun _ => False) (c.toP (by simp)) (fun _ h => h.elim)) hS hL (by omega) S.length 0 _ (by omega) (by omega) ⟨_, St.le.refl _, by simpa [smallB] using H _ c⟩

/-! ### what is written is read -/
theorem err_zero {e n w : Nat} (h : errN e n w = 0) : e = 0 ∧ (w < 8 → n / 256 ^ w = 0) := by
  unfold errN at h
  split at h
  · cases h
  · rename_i hc
    refine ⟨h, fun hw => ?_⟩
    cases hd : n / 256 ^ w with
    | zero => rfl
    | succ k => exact absurd ⟨hw, by rw [hd]; omega, h⟩ hc
theorem text_letters (s : ByteArray) : bytesText (letters s) = s := by
  obtain ⟨⟨l⟩⟩ := s
  simp [bytesText, letters, Function.comp_def]
theorem list_back : ∀ (l : List Nat) (r acc : List Nat), (∀ x ∈ l, x < 4294967296) → listZ l.length ((l.flatMap fun x => putB x 4) ++ r) false acc = (r, false, acc ++ l, true)
  | [], r, acc, _ => by simp [listZ]
  | x :: l, r, acc, h => by
    have hx := h x (by simp)
    have e : numB (putB x 4) = x := by
      rw [numB_putB]
      exact Nat.mod_eq_of_lt (by have p4 : 256 ^ 4 = 4294967296 := by decide
                                 rw [p4]; exact hx)
    obtain ⟨q1, q2, q3⟩ := short_out (pre := putB x 4) (r := (l.flatMap fun x => putB x 4) ++ r) (putB_length x 4)
    simp only [List.length_cons, List.flatMap_cons, List.append_assoc, listZ, Bool.false_eq_true, if_false, q1, q2, q3, e]
    rw [list_back l r _ fun x hx => h x (by simp [hx])]
    simp
def sumN : List Nat → Nat
  | [] => 0
  | c :: cs => wd c + sumN cs
theorem sumW_le : ∀ (cs : List Nat) (a : Nat), sumW cs a ≤ a + sumN cs
  | [], a => by simp [sumW, sumN]
  | c :: cs, a => by
    simp only [sumW, sumN]
    split
    · omega
    · have := sumW_le cs (a + wd c)
      simp at this ⊢
      omega
theorem wr_back : ∀ (cs N : List Nat) (S : List ByteArray) (L : List (List Nat)) (e : Nat) (out0 : List Nat), SmallF N S L → cnt 115 cs = S.length → cnt 108 cs = L.length → N.length + S.length + L.length = cs.length → (wr cs N S L (e, out0)).1 = 0 →
    e = 0 ∧ ∃ pre, (wr cs N S L (e, out0)).2 = out0 ++ pre ∧ sumN cs ≤ pre.length ∧ (∀ x ∈ pre, x < 256) ∧ pre.length ≤ 5000 * cs.length ∧ ∀ r N0 S0 L0, gatherZ cs ⟨pre ++ r, false, N0, S0, L0⟩ = ⟨r, false, N0 ++ N, S0 ++ S, L0 ++ L⟩
  | [], N, S, L, e, out0, SF, c1, c2, c3, h => by
    simp only [wr] at h
    have hN : N = [] := by cases N with | nil => rfl | cons x N => simp at c3
    have hS : S = [] := by cases S with | nil => rfl | cons x S => simp [cnt] at c1
    have hL : L = [] := by cases L with | nil => rfl | cons x L => simp [cnt] at c2
    subst hN; subst hS; subst hL
    exact ⟨h, [], by simp [wr], by simp [sumN], by simp, by simp, fun r N0 S0 L0 => by simp [gatherZ]⟩
  | c :: cs, N, S, L, e, out0, SF, c1, c2, c3, h => by
    have k1 : ∀ cs : List Nat, cnt 115 cs + cnt 108 cs ≤ cs.length := by
      intro cs; induction cs with
      | nil => exact Nat.le_refl _
      | cons x cs ih => simp only [cnt, List.length_cons]; split <;> split <;> omega
    simp only [List.length_cons] at c3
    by_cases t1 : c = 115
    · have t2 : ¬ c = 108 := by omega
      simp only [cnt, t1, if_true] at c1
      simp only [cnt, t2, if_false] at c2
      cases S with
      | nil => simp at c1
      | cons s S =>
        simp only [List.length_cons] at c1 c3
        simp only [wr, t1, if_true] at h ⊢
        obtain ⟨e1, pre, e2, e3, e4, e5, e6⟩ := wr_back cs N S L _ _ ⟨SF.1, fun x hx => SF.2.1 x (by simp [hx]), SF.2.2⟩ (by omega) c2 (by omega) h
        obtain ⟨e7, e8⟩ := err_zero e1
        have hs := SF.2.1 s (by simp)
        have hsz : s.size < 256 := by
          have := e8 (by omega)
          simp only [Nat.pow_one] at this
          exact (Nat.div_eq_zero_iff.1 this).resolve_left (by omega)
        have lx : ∀ x ∈ letters s, x < 256 := by
          intro x hx
          obtain ⟨i, hi⟩ := List.getElem?_of_mem hx
          exact letters_lt hi
        refine ⟨e7, putB s.size 1 ++ letters s ++ pre, ?_, ?_, ?_, ?_, ?_⟩
        · rw [e2]; simp
        · have hw : wd 115 = 1 := rfl
          simp only [sumN, t1, hw, List.length_append, putB_length]; omega
        · intro x hx
          rcases List.mem_append.1 hx with hx | hx
          · rcases List.mem_append.1 hx with hx | hx
            · exact putB_lt _ _ x hx
            · exact lx x hx
          · exact e4 x hx
        · simp only [List.length_append, putB_length, List.length_cons, letters_length]; omega
        · intro r N0 S0 L0
          have hn : numB (putB s.size 1) = s.size := by rw [numB_putB]; exact Nat.mod_eq_of_lt (by simpa using hsz)
          obtain ⟨q1, q2, q3⟩ := short_out (pre := putB s.size 1) (r := letters s ++ (pre ++ r)) (putB_length _ _)
          obtain ⟨q4, q5, q6⟩ := short_out (pre := letters s) (r := pre ++ r) (letters_length s)
          have hw : wd 115 = 1 := rfl
          have ef : fieldZ 115 ⟨putB s.size 1 ++ (letters s ++ (pre ++ r)), false, N0, S0, L0⟩ = ⟨pre ++ r, false, N0, S0 ++ [s], L0⟩ := by
            unfold fieldZ
            rw [if_pos rfl]
            simp only [hw, q1, q2, q3, hn, q4, q5, q6, text_letters]
          have : gatherZ (c :: cs) ⟨putB s.size 1 ++ letters s ++ pre ++ r, false, N0, S0, L0⟩ = gatherZ cs (fieldZ c ⟨putB s.size 1 ++ (letters s ++ (pre ++ r)), false, N0, S0, L0⟩) := by simp [gatherZ]
          rw [t1] at this
          rw [this, ef, e6]
          simp
    · by_cases t2 : c = 108
      · simp only [cnt, t1, if_false] at c1
        simp only [cnt, t2, if_true] at c2
        cases L with
        | nil => simp at c2
        | cons l L =>
          simp only [List.length_cons] at c2 c3
          simp only [wr, t1, t2, if_true, if_false] at h ⊢
          rw [if_neg (by decide)] at h ⊢
          obtain ⟨e1, pre, e2, e3, e4, e5, e6⟩ := wr_back cs N S L _ _ ⟨SF.1, SF.2.1, fun x hx => SF.2.2 x (by simp [hx])⟩ c1 (by omega) (by omega) h
          obtain ⟨e7, e8⟩ := err_zero e1
          have hl := SF.2.2 l (by simp)
          have hsz : l.length < 256 := by
            have := e8 (by omega)
            simp only [Nat.pow_one] at this
            exact (Nat.div_eq_zero_iff.1 this).resolve_left (by omega)
          have hal : ∀ l : List Nat, (l.flatMap fun x => putB x 4).length = 4 * l.length := by
            intro l; induction l with
            | nil => rfl
            | cons x l ih => simp only [List.flatMap_cons, List.length_append, putB_length, ih, List.length_cons]; omega
          refine ⟨e7, allOut l ++ pre, ?_, ?_, ?_, ?_, ?_⟩
          · rw [e2]; simp
          · have hw : wd 108 = 1 := rfl
            simp only [sumN, t2, hw, List.length_append, allOut, putB_length]; omega
          · intro x hx
            rcases List.mem_append.1 hx with hx | hx
            · rcases List.mem_append.1 hx with hx | hx
              · exact putB_lt _ _ x hx
              · obtain ⟨y, _, hy⟩ := List.mem_flatMap.1 hx
                exact putB_lt _ _ x hy
            · exact e4 x hx
          · have := hal l
            simp only [List.length_append, allOut, putB_length, List.length_cons, this]; omega
          · intro r N0 S0 L0
            have hn : numB (putB l.length 1) = l.length := by rw [numB_putB]; exact Nat.mod_eq_of_lt (by simpa using hsz)
            obtain ⟨q1, q2, q3⟩ := short_out (pre := putB l.length 1) (r := (l.flatMap fun x => putB x 4) ++ (pre ++ r)) (putB_length _ _)
            have hw : wd 108 = 1 := rfl
            have ef : fieldZ 108 ⟨putB l.length 1 ++ ((l.flatMap fun x => putB x 4) ++ (pre ++ r)), false, N0, S0, L0⟩ = ⟨pre ++ r, false, N0, S0, L0 ++ [l]⟩ := by
              unfold fieldZ
              rw [if_neg (by decide), if_pos rfl]
              simp only [hw, q1, q2, q3, hn]
              rw [list_back l (pre ++ r) [] hl.2]
              simp
            have : gatherZ (c :: cs) ⟨allOut l ++ pre ++ r, false, N0, S0, L0⟩ = gatherZ cs (fieldZ c ⟨putB l.length 1 ++ ((l.flatMap fun x => putB x 4) ++ (pre ++ r)), false, N0, S0, L0⟩) := by simp [gatherZ, allOut]
            rw [t2] at this
            rw [this, ef, e6]
            simp
      · simp only [cnt, t1, if_false] at c1
        simp only [cnt, t2, if_false] at c2
        cases N with
        | nil =>
          have := k1 cs
          simp at c3
          omega
        | cons x N =>
          simp only [List.length_cons] at c3
          simp only [wr, t1, t2, if_false] at h ⊢
          obtain ⟨e1, pre, e2, e3, e4, e5, e6⟩ := wr_back cs N S L _ _ ⟨fun y hy => SF.1 y (by simp [hy]), SF.2.1, SF.2.2⟩ c1 c2 (by omega) h
          obtain ⟨e7, e8⟩ := err_zero e1
          have hx := SF.1 x (by simp)
          have hw8 := wd_le c
          have hlt : x < 256 ^ wd c := by
            by_cases h8 : wd c < 8
            · exact (Nat.div_eq_zero_iff.1 (e8 h8)).resolve_left (by have := Nat.pos_of_ne_zero (n := 256 ^ wd c) (by simp); omega)
            · have : wd c = 8 := by omega
              rw [this]
              have p8 : 256 ^ 8 = 18446744073709551616 := by decide
              rw [p8]; exact hx
          refine ⟨e7, putB x (wd c) ++ pre, ?_, ?_, ?_, ?_, ?_⟩
          · rw [e2]; simp
          · simp only [sumN, List.length_append, putB_length]; omega
          · intro y hy
            rcases List.mem_append.1 hy with hy | hy
            · exact putB_lt _ _ y hy
            · exact e4 y hy
          · simp only [List.length_append, putB_length, List.length_cons]; omega
          · intro r N0 S0 L0
            have hn : numB (putB x (wd c)) = x := by rw [numB_putB]; exact Nat.mod_eq_of_lt hlt
            obtain ⟨q1, q2, q3⟩ := short_out (pre := putB x (wd c)) (r := pre ++ r) (putB_length _ _)
            have ef : fieldZ c ⟨putB x (wd c) ++ (pre ++ r), false, N0, S0, L0⟩ = ⟨pre ++ r, false, N0 ++ [x], S0, L0⟩ := by
              unfold fieldZ
              rw [if_neg t1, if_neg t2]
              simp only [q1, q2, q3, hn]
            have : gatherZ (c :: cs) ⟨putB x (wd c) ++ pre ++ r, false, N0, S0, L0⟩ = gatherZ cs (fieldZ c ⟨putB x (wd c) ++ (pre ++ r), false, N0, S0, L0⟩) := by simp [gatherZ]
            rw [this, ef, e6]
            simp
theorem err_two {e n w : Nat} (h : e ≤ 2) : errN e n w ≤ 2 := by unfold errN; split <;> omega
theorem wr_two : ∀ (cs N : List Nat) (S : List ByteArray) (L : List (List Nat)) (st : Nat × List Nat), st.1 ≤ 2 → (wr cs N S L st).1 ≤ 2 ∧ ((wr cs N S L st).1 = 1 → st.1 = 1)
  | [], N, S, L, st, h => ⟨h, fun h => h⟩
  | c :: cs, N, S, L, st, h => by
    have one : ∀ n w, errN st.1 n w = 1 → st.1 = 1 := by intro n w he; unfold errN at he; split at he; cases he; exact he
    simp only [wr]
    split
    · split
      · obtain ⟨a, b⟩ := wr_two cs N _ L _ (show (errN st.1 _ 1, _).1 ≤ 2 from err_two h)
        exact ⟨a, fun h => one _ _ (b h)⟩
      · exact ⟨h, fun h => h⟩
    · split
      · split
        · obtain ⟨a, b⟩ := wr_two cs N S _ _ (show (errN st.1 _ 1, _).1 ≤ 2 from err_two h)
          exact ⟨a, fun h => one _ _ (b h)⟩
        · exact ⟨h, fun h => h⟩
      · split
        · obtain ⟨a, b⟩ := wr_two cs _ S L _ (show (errN st.1 _ (wd c), _).1 ≤ 2 from err_two h)
          exact ⟨a, fun h => one _ _ (b h)⟩
        · exact ⟨h, fun h => h⟩
theorem write_back {cs N : List Nat} {S : List ByteArray} {L : List (List Nat)} (SF : SmallF N S L) (h : (writeZ cs N S L).1 = 0) : readZ cs (writeZ cs N S L).2 = (0, ⟨[], false, N, S, L⟩) ∧ leastZ cs ≤ (writeZ cs N S L).2.length ∧ (∀ x ∈ (writeZ cs N S L).2, x < 256) ∧ (writeZ cs N S L).2.length ≤ 40000 := by
  unfold writeZ at h ⊢
  split at h
  · rename_i hf
    rw [if_pos hf]
    split at h
    · rename_i he; exact absurd h he
    · rename_i he
      rw [if_neg he]
      simp only [Bool.and_eq_true, decide_eq_true_eq, fitsB] at hf
      obtain ⟨hl, ⟨f1, f2⟩, f3⟩ := hf
      obtain ⟨_, pre, e2, e3, e4, e5, e6⟩ := wr_back cs N S L 0 [] SF f1.symm f2.symm (by omega) h
      have h8 := least_len hl
      simp only [List.nil_append] at e2
      rw [e2]
      refine ⟨?_, ?_, e4, by omega⟩
      · rw [read_fin _ _ hl]
        have := e6 [] [] [] []
        simp only [List.append_nil, List.nil_append] at this
        rw [this]
        rfl
      · unfold leastZ
        rw [if_neg (by omega)]
        have := sumW_le cs 0
        simp at this
        omega
  · cases h
theorem write_err {cs N : List Nat} {S : List ByteArray} {L : List (List Nat)} (h : (writeZ cs N S L).1 ≠ 0) : (writeZ cs N S L).2 = [] ∧ ((writeZ cs N S L).1 = 1 ∨ (writeZ cs N S L).1 = 2) := by
  unfold writeZ at h ⊢
  split
  · rename_i hf
    rw [if_pos hf] at h
    split
    · rename_i he
      have := wr_two cs N S L (0, []) (by simp)
      refine ⟨rfl, ?_⟩
      simp only
      omega
    · rename_i he
      rw [if_neg he] at h
      exact absurd h (by simpa using he)
  · exact ⟨rfl, .inl rfl⟩
end Go.Proofs.YtdmcmebfclikgaaDoor
