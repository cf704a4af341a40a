/- What is gathered: one letter, walked. -/
import Derived.Test.YtiaijbkmgajieaaI
import Derived.Test.YtiaijbkmgajieaaAbsLv
set_option linter.unusedSimpArgs false
set_option linter.unusedVariables false
set_option maxHeartbeats 4000000
namespace Go.Proofs.Ytiaijbkmgajieaa
open Go.Abs Go.IntWalk

theorem map_flatU (l : List Nat) : l.map uc = l.flatMap fun b => [uc b] := by
  induction l with
  | nil => rfl
  | cons x l ih => rw [List.map_cons, List.flatMap_cons, ih]; rfl
theorem own_u {B : Nat → Prop} {h : St} {v : Value} {l : List Nat} (s : OwnS B h v 1 (l.map uc) l.length) : SliceAt B h v l.length 1 (rowU l) := by
  rw [map_flatU] at s
  exact s.slice (fun _ _ => rfl) (fun i x hx => by simp [rowU, hx, uc])
theorem numB_small {b : List Nat} {w : Nat} (hx : ∀ x ∈ b, x < 256) : numB (outZ b w) < 256 ^ w := by
  have h1 := numB_lt (outZ b w) fun c hc => hx c (outZ_mem hc)
  exact Nat.lt_of_lt_of_le h1 (Nat.pow_le_pow_right (by omega) (outZ_le b w))
def tabF : List (FuncId × Abs.Spec) := [(25, widthS), (33, rnumS), (34, bytesS)]
theorem field_l0 {N0 q nn : Nat} {vN vS vL : Value} {LV : List Value} {K : Cont} {hb : St} {n : Nat} {st0 : RSt} (hn : n ≤ 255) (hL : st0.L.length ≤ 1000) :
    ∀ (d j m0 : Nat) (h : St) (col : Nat → Nat) (vB x5 : Value) (b : List Nat) (sh : Bool) (l : List Nat), j + d = n → d < m0 → l.length = j → b.length ≤ 100000 → (∀ x ∈ b, x < 256) → GAt col N0 h q vB vN vS vL LV ⟨b, sh, st0.N, st0.S, st0.L⟩ → OwnS (col · = 10 + st0.L.length) h x5 1 (l.map uc) l.length → ChgP (fun i => ¬ i < N0) hb h →
      (∀ h' col' vB' vL' LV', ChgP (fun i => ¬ i < N0) hb h' → (GAt col' N0 h' q vB' vN vS vL' LV' (if (listZ d b sh l).2.2.2 = true then ⟨(listZ d b sh l).1, (listZ d b sh l).2.1, st0.N, st0.S, st0.L ++ [(listZ d b sh l).2.2.1]⟩ else ⟨(listZ d b sh l).1, (listZ d b sh l).2.1, st0.N, st0.S, st0.L⟩)) → K (.tuple #[]) h') →
      field_gather_field_l0 (tabC tabF) idG nn m0 (ptr q) x5 (.int .u64 n) (.int .u64 j) h K := by
  intro d
  induction d with
  | zero =>
    intro j m0 h col vB x5 b sh l hj hm hl hbl hx g s c H
    obtain ⟨m0, rfl⟩ : ∃ m, m0 = m + 1 := ⟨m0 - 1, by omega⟩
    rw [field_gather_field_l0_eq]
    have e : j = n := by omega
    subst e
    simp only [bindV_some, binV_lss, condK_bool, Int.lt_irrefl, decide_false, Bool.false_eq_true, if_false, idG_eq]
    rw [field_gather_field_j1_eq]
    have go := g.obj
    simp only [ptr, nilV_ptr, offV_ptr, loadV_ptr, bindV_some, go, loadM_cells, partV_one, Nat.zero_add, List.getElem?_cons_succ, List.getElem?_cons_zero]
    rw [build1 _ _ s.one s.isUnk s.cells1]
    refine append_one g.sL s.one (by simp; omega) (by simp; omega) fun h1 S hS c1 n1 o1 => ?_
    have hqS : q ∉ S := fun hi => by have h1 : col q = 2 := hS _ hi; have h2 := g.cq; omega
    have a1 := c1.at g.qn hqS go
    simp [a1]
    obtain ⟨z1, z2⟩ := g.addL c1 hS (j := h.next + 1) (by omega) o1 (x5 := x5) (x := l) (own_u s)
    simp only [listZ, if_true] at H
    exact H _ _ vB _ _ (c.step z1) z2
  | succ d ih =>
    intro j m0 h col vB x5 b sh l hj hm hl hbl hx g s c H
    obtain ⟨m0, rfl⟩ : ∃ m, m0 = m + 1 := ⟨m0 - 1, by omega⟩
    rw [field_gather_field_l0_eq]
    have hlt : (j : Int) < n := by omega
    have go := g.obj
    simp only [ptr, bindV_some, binV_lss, condK_bool, hlt, decide_true, if_true, idG_eq, nilV_ptr, offV_ptr, loadV_ptr, go, loadM_cells, partV_one, Nat.zero_add, List.getElem?_cons_succ, List.getElem?_cons_zero]
    cases sh with
    | true =>
      simp only [if_true]
      simp only [listZ, if_true, Bool.false_eq_true, if_false] at H
      exact H h col vB vL LV c g
    | false =>
      simp only [Bool.false_eq_true, if_false]
      simp only [listZ, Bool.false_eq_true, if_false] at H
      refine .inr (.inl ⟨rfl, (col · = 8), q, vB, false, [vN, vS, vL], b, 4, rfl, by omega, g.qn, show ¬ col q = 8 by have := g.cq; omega, hbl, hx, go, g.sB, fun h1 vB1 c1 o1 s1 => ?_⟩)
      have hsm := numB_small (w := 4) hx
      have p4 : 256 ^ 4 = 4294967296 := by decide
      rw [p4] at hsm
      have hw : IntKind.u32.wrap ((numB (outZ b 4) : Nat) : Int) = ((numB (outZ b 4) : Nat) : Int) := by rw [u32_wrap, Nat.mod_eq_of_lt hsm]
      have g1 := g.cell c1 o1 s1
      have s5 := keep_own s c1 g.hq (by omega)
      simp only [bindV_some, wrapV_int, hw]
      rw [build1 _ _ rfl rfl rfl]
      refine append_one s5 rfl (by omega) (by omega) fun h2 S hS c2 n2 o2 => ?_
      have hS' : ∀ i ∈ S, upd col (h1.next + 1) (10 + st0.L.length) i = 10 + st0.L.length := by
        intro i hi
        by_cases e : i = h1.next + 1
        · subst e; exact upd_at _ _ _
        · exact (upd_ne e).trans (hS i hi)
      have g2 := (g1.upd (j := h1.next + 1) (x := 10 + st0.L.length) (by omega)).chg c2 hS' (Nat.le_refl _)
      have j1 : IntKind.u64.wrap ((j : Int) + 1) = ((j + 1 : Nat) : Int) := by rw [u64_in _ (by omega)]; omega
      simp only [binNil_int, binV_add, bindV_some, j1]
      have el : l.length + 1 = (l ++ [numB (outZ b 4)]).length := by simp
      refine ih (j + 1) m0 h2 _ vB1 _ _ _ (l ++ [numB (outZ b 4)]) (by omega) (by omega) (by simp; omega) (Nat.le_trans (leftZ_le _ _) hbl) (fun x hx' => hx x (leftZ_mem hx')) g2 ?_ ((c.step (c1.toP (nlt_q g))).step (c2.toP (nlt_c g.old (by omega) hS))) H
      have o3 : OwnS (upd col (h1.next + 1) (10 + st0.L.length) · = 10 + st0.L.length) h2 (.slice (some ⟨h1.next + 1, 0, some 1⟩) (l.length + 1) 0) 1 (l.map uc ++ [.int .u32 (numB (outZ b 4) : Nat)]) (l.length + 1) := o2.imp fun i _ hi => by have hi : i = h1.next + 1 := hi; subst hi; exact upd_at _ _ _
      rw [← el]
      simpa [uc] using o3

def fieldS : Abs.Spec := fun args h k => ∃ (col : Nat → Nat) (N0 q : Nat) (vB vN vS vL : Value) (LV : List Value) (st : RSt) (c : Nat), args = [ptr q, .int .u8 c] ∧ st.b.length ≤ 100000 ∧ (∀ x ∈ st.b, x < 256) ∧ st.N.length ≤ 1000 ∧ st.S.length ≤ 1000 ∧ st.L.length ≤ 1000 ∧ GAt col N0 h q vB vN vS vL LV st ∧
  ∀ h' col' vB' vN' vS' vL' LV', ChgP (fun i => ¬ i < N0) h h' → GAt col' N0 h' q vB' vN' vS' vL' LV' (fieldZ c st) → k (.tuple #[]) h'
theorem fieldS_good : SpecGood Try.prog (32, fieldS) := by
  refine spec_good mixed Try.func32 (by kernel_rfl) (by kernel_rfl) (tab := tabF) (by simp [tabF, SpecGood, widthS_ok, rnumS_ok, bytesS_ok, widthS_live, rnumS_live, bytesS_live]) (keep := field_gather_field_keep) ?_
  rintro args h k ⟨col, N0, q, vB, vN, vS, vL, LV, st, c, rfl, hb, hx, lN, lS, lL, g, H⟩
  refine ⟨300, ?_⟩
  show field_gather_field (tabC tabF) idG 300 (ptr q) (.int .u8 c) h _
  rw [field_gather_field_eq]
  have go := g.obj
  simp only [ptr, nilV_ptr, offV_ptr, bindV_some]
  refine .inl ⟨rfl, c, rfl, trivial, ?_⟩
  refine .inr (.inl ⟨rfl, (col · = 8), q, vB, st.sh, [vN, vS, vL], st.b, wd c, rfl, wd_le c, g.qn, show ¬ col q = 8 by have := g.cq; omega, hb, hx, go, g.sB, fun h1 vB1 c1 o1 s1 => ⟨trivial, ?_⟩⟩)
  have g1 := g.cell c1 o1 s1
  have hb1 : (leftZ st.b (wd c)).length ≤ 100000 := Nat.le_trans (leftZ_le _ _) hb
  have hx1 : ∀ x ∈ leftZ st.b (wd c), x < 256 := fun x h => hx x (leftZ_mem h)
  have cp1 : ChgP (fun i => ¬ i < N0) h h1 := c1.toP (nlt_q g)
  by_cases t1 : c = 115
  · have t1i : (c : Int) = 115 := by omega
    have hw1 : wd c = 1 := by rw [t1]; rfl
    have hsm := numB_small (w := wd c) hx
    rw [hw1] at hsm
    have hi : IntKind.i64.wrap ((numB (outZ st.b (wd c)) : Nat) : Int) = ((numB (outZ st.b (wd c)) : Nat) : Int) := by rw [hw1]; exact i64_in _ (by omega)
    simp only [binNil_int, binV_eql, bindV_some, condK_bool, t1i, decide_true, if_true, loadV_ptr, o1, loadM_cells, partV_one, Nat.zero_add, List.getElem?_cons_succ, List.getElem?_cons_zero, wrapV_int, hi, true_and, nilV_ptr, offV_ptr]
    refine .inr (.inr (.inl ⟨rfl, (col · = 8), q, vB1, _, [vN, vS, vL], leftZ st.b (wd c), numB (outZ st.b (wd c)), rfl, g1.qn, show ¬ col q = 8 by have := g.cq; omega, hb1, o1, s1, fun h2 v2 vB2 c2 o2 s2 s3 => ?_⟩))
    have g2 := g1.cell c2 o2 s2
    have tx := text_slice s3
    have cp2 : ChgP (fun i => ¬ i < N0) h1 h2 := c2.toP (nlt_q g1)
    simp only [o2, loadM_cells, partV_one, Nat.zero_add, List.getElem?_cons_succ, List.getElem?_cons_zero, true_and, tx, bindV_some]
    rw [build1 _ _ rfl rfl rfl]
    have a3 : (h2.push (.cells [.string (bytesText (outZ (leftZ st.b (wd c)) (numB (outZ st.b (wd c)))))] true)).objs q = h2.objs q := push_ne g2.qn
    simp only [a3, o2, loadM_cells, partV_one, Nat.zero_add, List.getElem?_cons_succ, List.getElem?_cons_zero, true_and, bindV_some]
    refine append_one g2.sS rfl (by simp; omega) (by simp; omega) fun h3 S hS c3 n3 o3 => ?_
    have hqS : q ∉ S := fun hi => by have h1 : col q = 1 := hS _ hi; have h2 := g.cq; omega
    have a4 := c3.at g2.qn hqS o2
    simp [a4]
    obtain ⟨z1, z2⟩ := g2.addS c3 hS (j := h2.next + 1) (by omega) o3
    have e : fieldZ c st = ⟨leftZ (leftZ st.b (wd c)) (numB (outZ st.b (wd c))), shortZ (leftZ st.b (wd c)) (shortZ st.b st.sh (wd c)) (numB (outZ st.b (wd c))), st.N, st.S ++ [bytesText (outZ (leftZ st.b (wd c)) (numB (outZ st.b (wd c))))], st.L⟩ := by unfold fieldZ; rw [if_pos t1]
    rw [e] at H
    exact ⟨_, St.le.refl _, H _ _ vB2 vN _ vL LV ((cp1.step cp2).step z1) z2⟩
  · have t1i : ¬ (c : Int) = 115 := by omega
    by_cases t2 : c = 108
    · have t2i : (c : Int) = 108 := by omega
      have hw1 : wd c = 1 := by rw [t2]; rfl
      have hsm := numB_small (w := wd c) hx
      rw [hw1] at hsm
      simp only [binNil_int, binV_eql, bindV_some, condK_bool, t1i, t2i, decide_true, decide_false, Bool.false_eq_true, if_false, if_true, idG_eq]
      rw [if_neg (by decide)]
      have e : fieldZ c st = (if (listZ (numB (outZ st.b (wd c))) (leftZ st.b (wd c)) (shortZ st.b st.sh (wd c)) []).2.2.2 = true
          then ⟨(listZ (numB (outZ st.b (wd c))) (leftZ st.b (wd c)) (shortZ st.b st.sh (wd c)) []).1, (listZ (numB (outZ st.b (wd c))) (leftZ st.b (wd c)) (shortZ st.b st.sh (wd c)) []).2.1, st.N, st.S, st.L ++ [(listZ (numB (outZ st.b (wd c))) (leftZ st.b (wd c)) (shortZ st.b st.sh (wd c)) []).2.2.1]⟩
          else ⟨(listZ (numB (outZ st.b (wd c))) (leftZ st.b (wd c)) (shortZ st.b st.sh (wd c)) []).1, (listZ (numB (outZ st.b (wd c))) (leftZ st.b (wd c)) (shortZ st.b st.sh (wd c)) []).2.1, st.N, st.S, st.L⟩) := by unfold fieldZ; rw [if_neg t1, if_pos t2]
      rw [e] at H
      exact field_l0 (st0 := st) (n := numB (outZ st.b (wd c))) (by rw [hw1]; omega) lL (numB (outZ st.b (wd c))) 0 300 h1 col vB1 _ _ _ [] (by omega) (by rw [hw1]; omega) rfl hb1 hx1 g1 (.inl ⟨rfl, rfl, rfl⟩) cp1 fun h' col' vB' vL' LV' c' g' => ⟨_, St.le.refl _, H h' col' vB' vN vS vL' LV' c' g'⟩
    · have t2i : ¬ (c : Int) = 108 := by omega
      simp only [binNil_int, binV_eql, bindV_some, condK_bool, t1i, t2i, decide_false, Bool.false_eq_true, if_false, loadV_ptr, o1, loadM_cells, partV_one, Nat.zero_add, List.getElem?_cons_succ, List.getElem?_cons_zero, nilV_ptr, offV_ptr]
      rw [build1 _ _ rfl rfl rfl]
      refine append_one g1.sN rfl (by simp; omega) (by simp; omega) fun h3 S hS c3 n3 o3 => ?_
      have hqS : q ∉ S := fun hi => by have h1 : col q = 0 := hS _ hi; have h2 := g.cq; omega
      have a4 := c3.at g1.qn hqS o1
      simp [a4]
      obtain ⟨z1, z2⟩ := g1.addN c3 hS (j := h1.next + 1) (by omega) o3
      have e : fieldZ c st = ⟨leftZ st.b (wd c), shortZ st.b st.sh (wd c), st.N ++ [numB (outZ st.b (wd c))], st.S, st.L⟩ := by unfold fieldZ; rw [if_neg t1, if_neg t2]
      rw [e] at H
      exact ⟨_, St.le.refl _, H _ _ vB1 _ vS vL LV (cp1.step z1) z2⟩
end Go.Proofs.Ytiaijbkmgajieaa
