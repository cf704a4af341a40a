/- The document's 'Read', walked: the loops. -/
import Derived.Test.YtiaijbkmgajieaaO
set_option linter.unusedSimpArgs false
set_option linter.unusedVariables false
set_option maxHeartbeats 4000000
namespace Go.Proofs.Ytiaijbkmgajieaa
open Go.Abs Go.IntWalk

def refNumS : Abs.Spec := fun args h k => ∃ (V : Nat → Prop) (v : Value) (l : List Nat), args = [v] ∧ l.length ≤ 8 ∧ (∀ c ∈ l, c < 256) ∧ SliceAt V h v l.length 1 (rowC l) ∧ k (.int .u64 (numB l)) h
theorem refNum_l0 {B : Nat → Prop} {nn : Nat} {v x2 : Value} {l : List Nat} {K : Cont} {h : St} {C : Oracle} (hl : l.length ≤ 8) (hx : ∀ c ∈ l, c < 256) (s4 : SliceAt B h v l.length 1 (rowC l)) (H : K (.int .u64 (numB l)) h) :
    ∀ (d i m0 : Nat), i + d = l.length → d < m0 → tiltyardref01_Number_l0 C idG nn m0 v x2 (.int .u64 (numB (l.take i))) (.int .i64 i) h K := by
  intro d
  induction d with
  | zero =>
    intro i m0 hi hm
    obtain ⟨m0, rfl⟩ : ∃ m, m0 = m + 1 := ⟨m0 - 1, by omega⟩
    rw [tiltyardref01_Number_l0_eq, s4.len]
    have e : i = l.length := by omega
    subst e
    simp only [bindV_some, binV_lss, condK_bool, Int.lt_irrefl, decide_false, Bool.false_eq_true, if_false, idG_eq]
    rw [tiltyardref01_Number_j1_eq, List.take_length]
    exact H
  | succ d ih =>
    intro i m0 hi hm
    obtain ⟨m0, rfl⟩ : ∃ m, m0 = m + 1 := ⟨m0 - 1, by omega⟩
    rw [tiltyardref01_Number_l0_eq, s4.len]
    have hlt : (i : Int) < l.length := by omega
    obtain ⟨b, o, g1, g2, g3, cs, own, g4, g5⟩ := s4.idx (Int.natCast_nonneg i) hlt .i64
    have g6 := takeN_get g5 (j := 0) (by omega)
    have hi' : i < l.length := by omega
    have hg : l[i]?.getD 0 = l[i] := by rw [List.getElem?_eq_getElem hi']; rfl
    have hc := hx l[i] (List.getElem_mem _)
    simp only [rowC, Int.toNat_natCast, hg, Nat.add_zero, List.getElem?_cons_zero] at g6
    have hlt2 := numB_lt (l.take i) fun c hc => hx c (List.mem_of_mem_take hc)
    have hp := pow256_le (i := i) (by omega)
    have hli : (l.take i).length = i := by simp; omega
    rw [hli] at hlt2
    have et : l.take (i + 1) = l.take i ++ [l[i]] := by rw [List.take_succ_eq_append_getElem hi']
    have w1 : IntKind.u64.wrap ((numB (l.take i) : Int) * 256) = ((numB (l.take i) * 256 : Nat) : Int) := by
      have : (numB (l.take i) : Int) * 256 = ((numB (l.take i) * 256 : Nat) : Int) := by rw [Int.natCast_mul]; rfl
      rw [this]; exact u64_wrap _ (by omega)
    have w2 : IntKind.u64.wrap (((numB (l.take i) * 256 : Nat) : Int) + (l[i] : Int)) = ((numB (l.take i) * 256 + l[i] : Nat) : Int) := by
      rw [← Int.natCast_add]; exact u64_wrap _ (by omega)
    simp only [binV_lss, bindV_some, condK_bool, hlt, decide_true, if_true, idG_eq, g1, loadV_ptr, g4, loadM_cells, partV_one, g6, bc, binNil_int, binV_mul, w1, wrapV_int, u64_wrap l[i] (by omega), binV_add, w2, inc (show i ≤ 1000000 by omega)]
    rw [← numB_snoc, ← et]
    exact ih (i + 1) m0 (by omega) (by omega)
theorem refNumS_good : SpecGood Try.prog (31, refNumS) := by
  refine spec_good mixed Try.func31 (by kernel_rfl) (by kernel_rfl) (tab := []) (by simp) (keep := tiltyardref01_Number_keep) ?_
  rintro args h k ⟨V, v, l, rfl, hl, hx, s, H⟩
  refine ⟨9, ?_⟩
  show tiltyardref01_Number (tabC []) idG 9 v h _
  rw [tiltyardref01_Number_eq]
  simp only [idG_eq]
  have e : numB (l.take 0) = 0 := by simp [numB]
  have := refNum_l0 (nn := 9) (x2 := .int .u64 0) (C := tabC []) (K := fun v h1 => ∃ h2, St.le h2 h1 ∧ k v h2) hl hx s ⟨_, St.le.refl _, H⟩ l.length 0 9 (by omega) (by omega)
  rw [e] at this
  exact this

def finZ (g : RSt) : Nat × RSt := if g.sh = true then (3, noSt) else if g.b.length > 0 then (4, noSt) else (0, g)
theorem read_fin (cs b : List Nat) (h : 0 ≤ leastZ cs) : readZ cs b = finZ (gatherZ cs ⟨b, false, [], [], []⟩) := by unfold readZ; rw [if_pos h]; rfl
theorem gather_true {cs : List Nat} {st : RSt} (hx : ∀ x ∈ st.b, x < 256) (h : st.sh = true) : (gatherZ cs st).sh = true := by
  cases hg : (gatherZ cs st).sh with
  | true => rfl
  | false => have := (items_law cs st hx hg).1; rw [h] at this; cases this
theorem fin_true {cs : List Nat} {st : RSt} {c : Nat} (hx : ∀ x ∈ st.b, x < 256) (h : (fieldZ c st).sh = true) : finZ (gatherZ (c :: cs) st) = (3, noSt) := by
  have : (gatherZ (c :: cs) st).sh = true := gather_true (cs := cs) (st := fieldZ c st) (fun x hm => hx x ((fieldZ_b c st).2.1 x hm)) h
  unfold finZ
  rw [if_pos this]
theorem field_short {c : Nat} {b : List Nat} {N : List Nat} {S : List ByteArray} {L : List (List Nat)} (h : b.length < wd c) : (fieldZ c ⟨b, false, N, S, L⟩).sh = true := by
  have hs := short_lt h false
  unfold fieldZ
  simp only [hs]
  split
  · exact short_true _ _
  · split
    · split <;> exact list_true _ _ _
    · rfl
theorem list_short {k : Nat} {b : List Nat} (hx : ∀ x ∈ b, x < 256) (h : b.length < 4 * k) (l : List Nat) : (listZ k b false l).2.1 = true := by
  cases hg : (listZ k b false l).2.1 with
  | true => rfl
  | false =>
    obtain ⟨pre, ln, r, e1, _, e3, _⟩ := list_law k b l false hx hg
    rw [e1, List.length_append] at h
    omega
theorem list_ok : ∀ (k : Nat) (b l : List Nat), 4 * k ≤ b.length → ∃ l', listZ k b false l = (b.drop (4 * k), false, l', true)
  | 0, b, l, _ => ⟨l, by simp [listZ]⟩
  | k + 1, b, l, h => by
    have h4 : ¬ 4 > b.length := by omega
    simp only [listZ, Bool.false_eq_true, if_false, leftZ, outZ, shortZ, h4]
    obtain ⟨l', e⟩ := list_ok k (b.drop 4) (l ++ [numB (b.take 4)]) (by simp; omega)
    refine ⟨l', ?_⟩
    rw [e, List.drop_drop]
    congr 2
    omega
theorem list_step {d : Nat} {b l : List Nat} (h : 4 ≤ b.length) : listZ (d + 1) b false l = listZ d (b.drop 4) false (l ++ [numB (b.take 4)]) := by
  have h4 : ¬ 4 > b.length := by omega
  simp only [listZ, Bool.false_eq_true, if_false, leftZ, outZ, shortZ, h4]

def tabQ : List (FuncId × Abs.Spec) := [(24, refWidthS), (31, refNumS), (10, refLeastS)]
/-- A part of the bytes. -/
theorem part_at {V : Nat → Prop} {h : St} {v : Value} {b : List Nat} (s : SliceAt V h v b.length 1 (rowC b)) {p m : Nat} (hm : p + m ≤ b.length) :
    ∃ v1, Abs.cutS 1 v (some (.int .i64 (p : Int))) (some (.int .i64 ((p + m : Nat) : Int))) = some v1 ∧ SliceAt V h v1 ((b.drop p).take m).length 1 (rowC ((b.drop p).take m)) := by
  obtain ⟨v1, hc1, s1⟩ := s.cut (lo := some (.int .i64 p)) (hi := some (.int .i64 (p + m : Nat))) (loHi_both (l := p) (e := p + m) (by omega) hm) (by omega) hm
  refine ⟨v1, hc1, ?_⟩
  have e : ((b.drop p).take m).length = p + m - p := by simp; omega
  rw [e]
  refine s1.rows fun i hi => ?_
  have hi' : i < m := by omega
  simp [rowC, hi']
theorem ref_l2 {s : ByteArray} {x1 x5 x8 x9 : Value} {r q N0 nn m0 n at0 : Nat} {vN vS vL : Value} {LV : List Value} {K : Cont} {hb : St} {st0 : RSt} {lfin : List Nat} (hn : n ≤ 255) (hL : st0.L.length ≤ 1000) (hbl : st0.b.length ≤ 100000) (hx : ∀ x ∈ st0.b, x < 256) (hat : at0 + 4 * n ≤ st0.b.length)
    (END : ∀ h' col' vL' LV', ChgP (fun i => ¬ i < N0) hb h' → RAt col' N0 h' q r x1 vN vS vL' LV' ⟨st0.b, st0.sh, st0.N, st0.S, st0.L ++ [lfin]⟩ → ∀ x11 x12, tiltyardref01_Read_j1 (tabC tabQ) idG nn m0 (.string s) x1 (ptr r) x5 (ptr q) (.int .i64 ((at0 + 4 * n : Nat) : Int)) x8 x9 (.int .u64 n) x11 x12 h' K) :
    ∀ (d k m1 : Nat) (h : St) (col : Nat → Nat) (x11 : Value) (l : List Nat), k + d = n → d < m1 → l.length = k → RAt col N0 h q r x1 vN vS vL LV st0 → OwnS (col · = 10 + st0.L.length) h x11 1 (l.map uc) l.length → ChgP (fun i => ¬ i < N0) hb h →
      listZ d (st0.b.drop (at0 + 4 * k)) false l = (st0.b.drop (at0 + 4 * n), false, lfin, true) →
      tiltyardref01_Read_l2 (tabC tabQ) idG nn m0 m1 (.string s) x1 (ptr r) x5 (ptr q) (.int .i64 ((at0 + 4 * k : Nat) : Int)) x8 x9 (.int .u64 n) x11 (.int .i64 k) h K := by
  have wn : IntKind.i64.wrap (n : Int) = n := i64_in _ (by omega)
  intro d
  induction d with
  | zero =>
    intro k m1 h col x11 l hk hm hl g o c T
    obtain ⟨m1, rfl⟩ : ∃ m, m1 = m + 1 := ⟨m1 - 1, by omega⟩
    rw [tiltyardref01_Read_l2_eq]
    have e : k = n := by omega
    subst e
    simp only [listZ, Prod.mk.injEq] at T
    obtain ⟨_, _, rfl, _⟩ := T
    simp only [bindV_some, wrapV_int, wn, binV_lss, condK_bool, Int.lt_irrefl, decide_false, Bool.false_eq_true, if_false, idG_eq]
    rw [tiltyardref01_Read_j5_eq]
    have go := g.obj
    simp only [ptr, offV_ptr, loadV_ptr, bindV_some, go, loadM_cells, partV_one, Nat.zero_add, List.getElem?_cons_succ, List.getElem?_cons_zero]
    rw [build1 _ _ o.one o.isUnk o.cells1]
    refine append_one g.sL o.one (by omega) (by omega) fun h1 S hS c1 n1 o1 => ?_
    have hqS : q ∉ S := fun hi => by have h1 : col q = 2 := hS _ hi; have h2 := g.cq; omega
    have a1 := c1.at g.qn hqS go
    simp [a1]
    obtain ⟨z1, z2⟩ := g.addL c1 hS (j := h.next + 1) (by omega) o1 (x5 := x11) (x := l) (own_u o)
    exact END _ _ _ _ (c.step z1) z2 _ _
  | succ d ih =>
    intro k m1 h col x11 l hk hm hl g o c T
    obtain ⟨m1, rfl⟩ : ∃ m, m1 = m + 1 := ⟨m1 - 1, by omega⟩
    rw [tiltyardref01_Read_l2_eq]
    have hlt : (k : Int) < n := by omega
    have w4 : IntKind.i64.wrap (((at0 + 4 * k : Nat) : Int) + 4) = ((at0 + 4 * k + 4 : Nat) : Int) := by rw [i64_in _ (by omega)]; omega
    obtain ⟨v1, hc1, s1⟩ := part_at g.sB (p := at0 + 4 * k) (m := 4) (by omega)
    rw [list_step (by simp; omega), List.drop_drop] at T
    simp only [bindV_some, wrapV_int, wn, binV_lss, condK_bool, hlt, decide_true, if_true, idG_eq, binNil_int, binV_add, w4, hc1]
    have hx4 : ∀ x ∈ (st0.b.drop (at0 + 4 * k)).take 4, x < 256 := fun x hm => hx x (List.mem_of_mem_drop (List.mem_of_mem_take hm))
    have l4 : ((st0.b.drop (at0 + 4 * k)).take 4).length = 4 := by simp; omega
    refine .inr (.inl ⟨rfl, _, v1, _, rfl, by omega, hx4, s1, ?_⟩)
    have hsm := numB_lt _ hx4
    rw [l4] at hsm
    have p4 : 256 ^ 4 = 4294967296 := by decide
    rw [p4] at hsm
    have hw : IntKind.u32.wrap ((numB ((st0.b.drop (at0 + 4 * k)).take 4) : Nat) : Int) = ((numB ((st0.b.drop (at0 + 4 * k)).take 4) : Nat) : Int) := by rw [u32_wrap, Nat.mod_eq_of_lt hsm]
    simp only [bindV_some, wrapV_int, hw]
    rw [build1 _ _ rfl rfl rfl]
    refine append_one o rfl (by omega) (by omega) fun h2 S hS c2 n2 o2 => ?_
    have hS' : ∀ i ∈ S, upd col (h.next + 1) (10 + st0.L.length) i = 10 + st0.L.length := by
      intro i hi
      by_cases e : i = h.next + 1
      · subst e; exact upd_at _ _ _
      · exact (upd_ne e).trans (hS i hi)
    have g2 := (g.upd (j := h.next + 1) (x := 10 + st0.L.length) (by omega)).chg c2 hS' (Nat.le_refl _)
    simp only [inc (show k ≤ 1000000 by omega)]
    have el : l.length + 1 = (l ++ [numB ((st0.b.drop (at0 + 4 * k)).take 4)]).length := by simp
    have e4 : at0 + 4 * k + 4 = at0 + 4 * (k + 1) := by omega
    rw [e4] at T ⊢
    refine ih (k + 1) m1 h2 _ _ (l ++ [numB ((st0.b.drop (at0 + 4 * k)).take 4)]) (by omega) (by omega) (by simp; omega) g2 ?_ (c.step (c2.toP (nlt_c g.old (by omega) hS))) T
    have o3 : OwnS (upd col (h.next + 1) (10 + st0.L.length) · = 10 + st0.L.length) h2 (.slice (some ⟨h.next + 1, 0, some 1⟩) (l.length + 1) 0) 1 (l.map uc ++ [.int .u32 (numB ((st0.b.drop (at0 + 4 * k)).take 4) : Nat)]) (l.length + 1) := o2.imp fun i _ hi => by have hi : i = h.next + 1 := hi; subst hi; exact upd_at _ _ _
    rw [← el]
    simpa [uc] using o3
end Go.Proofs.Ytiaijbkmgajieaa
