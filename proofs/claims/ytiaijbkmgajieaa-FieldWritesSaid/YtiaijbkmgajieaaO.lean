/- The document's 'Read', walked. -/
import Derived.Test.YtiaijbkmgajieaaN
set_option linter.unusedSimpArgs false
set_option linter.unusedVariables false
set_option maxHeartbeats 4000000
namespace Go.Proofs.Ytiaijbkmgajieaa
open Go.Abs Go.IntWalk

/-- As 'GAt': the fields alone stand in the cells; beside them the result's cells, of the colour 7. -/
structure RAt (col : Nat → Nat) (N0 : Nat) (h : St) (q r : Nat) (vB vN vS vL : Value) (LV : List Value) (st : RSt) : Prop where
  next : N0 ≤ h.next
  qn : q < h.next
  cq : col q = 9
  old : ∀ i, i < N0 → col i = 8
  obj : h.objs q = some (.cells [vN, vS, vL] true)
  rn : r < h.next
  cr : col r = 7
  ro : h.objs r = some (.cells [.slice none 0 0, .slice none 0 0, .slice none 0 0] true)
  sB : SliceAt (col · = 8) h vB st.b.length 1 (rowC st.b)
  sN : OwnS (col · = 0) h vN 1 (st.N.map qc) st.N.length
  sS : OwnS (col · = 1) h vS 1 (st.S.map Value.string) st.S.length
  sL : OwnS (col · = 2) h vL 1 LV st.L.length
  sX : ∀ (i : Nat) (l : List Nat), st.L[i]? = some l → ∃ v, LV[i]? = some v ∧ SliceAt (col · = 10 + i) h v l.length 1 (rowU l)
theorem RAt.upd {col : Nat → Nat} {N0 q r j x : Nat} {h : St} {vB vN vS vL : Value} {LV : List Value} {st : RSt} (g : RAt col N0 h q r vB vN vS vL LV st) (hj : h.next ≤ j) : RAt (upd col j x) N0 h q r vB vN vS vL LV st :=
  ⟨g.next, g.qn, (upd_ne (by have := g.qn; omega)).trans g.cq, fun i hi => (upd_ne (by have := g.next; omega)).trans (g.old i hi), g.obj, g.rn, (upd_ne (by have := g.rn; omega)).trans g.cr, g.ro, at_upd g.sB hj, own_upd g.sN hj, own_upd g.sS hj, own_upd g.sL hj, fun i l hl => by
    obtain ⟨v, h1, h2⟩ := g.sX i l hl
    exact ⟨v, h1, at_upd h2 hj⟩⟩
theorem RAt.chg {col : Nat → Nat} {N0 q r a : Nat} {h h' : St} {vB vN vS vL : Value} {LV : List Value} {st : RSt} (g : RAt col N0 h q r vB vN vS vL LV st) {S : List Nat} (c : Chg h h' S) (hS : ∀ i ∈ S, col i = a) (ha : 10 + st.L.length ≤ a) : RAt col N0 h' q r vB vN vS vL LV st :=
  ⟨Nat.le_trans g.next c.1, Nat.lt_of_lt_of_le g.qn c.1, g.cq, g.old, c.at g.qn (fun hi => by have h1 := hS _ hi; have h2 := g.cq; omega) g.obj, Nat.lt_of_lt_of_le g.rn c.1, g.cr, c.at g.rn (fun hi => by have h1 := hS _ hi; have h2 := g.cr; omega) g.ro, keep_at g.sB c hS (by omega), keep_own g.sN c hS (by omega), keep_own g.sS c hS (by omega), keep_own g.sL c hS (by omega), fun i l hl => by
    obtain ⟨v, h1, h2⟩ := g.sX i l hl
    have : i < st.L.length := (List.getElem?_eq_some_iff.1 hl).1
    exact ⟨v, h1, keep_at h2 c hS (by omega)⟩⟩
theorem nltR_q {col : Nat → Nat} {N0 q r : Nat} {h : St} {vB vN vS vL : Value} {LV : List Value} {st : RSt} (g : RAt col N0 h q r vB vN vS vL LV st) : ∀ i ∈ [q], ¬ i < N0 := by
  intro i hi hlt
  simp at hi; subst hi
  have h1 := g.old i hlt
  have h2 := g.cq
  omega
theorem RAt.hq {col : Nat → Nat} {N0 q r : Nat} {h : St} {vB vN vS vL : Value} {LV : List Value} {st : RSt} (g : RAt col N0 h q r vB vN vS vL LV st) : ∀ i ∈ [q], col i = 9 := by intro i hi; simp at hi; subst hi; exact g.cq
/-- A number more. -/
theorem RAt.addN {col : Nat → Nat} {N0 q r : Nat} {h h1 : St} {vB vN vS vL : Value} {LV : List Value} {st : RSt} (g : RAt col N0 h q r vB vN vS vL LV st) {S : List Nat} (c1 : Chg h h1 S) (hS : ∀ i ∈ S, col i = 0) {j : Nat} {x : Nat} {v : Value} (hj : h.next ≤ j) (o : OwnS (· = j) h1 v 1 (st.N.map qc ++ [qc x]) (st.N.length + 1)) :
    ChgP (fun i => ¬ i < N0) h (h1.set q (.cells [v, vS, vL] true)) ∧ RAt (Ytiaijbkmgajieaa.upd col j 0) N0 (h1.set q (.cells [v, vS, vL] true)) q r vB v vS vL LV ⟨st.b, st.sh, st.N ++ [x], st.S, st.L⟩ := by
  have c2 : Chg h1 (h1.set q (.cells [v, vS, vL] true)) [q] := Chg.set _ (by simp)
  have hqj : q ≠ j := by have := g.qn; omega
  have hrj : r ≠ j := by have := g.rn; omega
  have hrq : r ≠ q := by intro e; have h1 := g.cr; have h2 := g.cq; rw [e] at h1; omega
  have hrS : r ∉ S := fun hi => by have h1 := hS _ hi; have h2 := g.cr; omega
  have n1 := g.next; have n2 := c1.1; have n3 := g.qn
  have hS' : ∀ i ∈ S, Ytiaijbkmgajieaa.upd col j 0 i = 0 := by
    intro i hi
    by_cases e : i = j
    · subst e; exact upd_at _ _ _
    · exact (upd_ne e).trans (hS i hi)
  have hq' : ∀ i ∈ [q], Ytiaijbkmgajieaa.upd col j 0 i = 9 := by intro i hi; simp at hi; subst hi; exact (upd_ne hqj).trans g.cq
  have o' : OwnS (Ytiaijbkmgajieaa.upd col j 0 · = 0) h1 v 1 (st.N.map qc ++ [qc x]) (st.N.length + 1) := o.imp fun i _ hi => by have hi : i = j := hi; subst hi; exact upd_at _ _ _
  refine ⟨(c1.toP (nlt_c g.old (by decide) hS)).step (c2.toP (nltR_q g)), by simp; omega, by simp; omega, (upd_ne hqj).trans g.cq, fun i hi => (upd_ne (by omega)).trans (g.old i hi), set_at _ _ _, Nat.lt_of_lt_of_le g.rn n2, (upd_ne hrj).trans g.cr, ?_, ?_, ?_, ?_, ?_, ?_⟩
  · rw [set_ne hrq]; exact c1.at g.rn hrS g.ro
  · exact keep_at (keep_at (at_upd g.sB hj) c1 hS' (by decide)) c2 hq' (by decide)
  · simpa using keep_own o' c2 hq' (by decide)
  · exact keep_own (keep_own (own_upd g.sS hj) c1 hS' (by decide)) c2 hq' (by decide)
  · exact keep_own (keep_own (own_upd g.sL hj) c1 hS' (by decide)) c2 hq' (by decide)
  · intro i l hl
    obtain ⟨w, h1, h2⟩ := g.sX i l hl
    exact ⟨w, h1, keep_at (keep_at (at_upd h2 hj) c1 hS' (by omega)) c2 hq' (by omega)⟩
/-- A text more. -/
theorem RAt.addS {col : Nat → Nat} {N0 q r : Nat} {h h1 : St} {vB vN vS vL : Value} {LV : List Value} {st : RSt} (g : RAt col N0 h q r vB vN vS vL LV st) {S : List Nat} (c1 : Chg h h1 S) (hS : ∀ i ∈ S, col i = 1) {j : Nat} {x : ByteArray} {v : Value} (hj : h.next ≤ j) (o : OwnS (· = j) h1 v 1 (st.S.map Value.string ++ [.string x]) (st.S.length + 1)) :
    ChgP (fun i => ¬ i < N0) h (h1.set q (.cells [vN, v, vL] true)) ∧ RAt (Ytiaijbkmgajieaa.upd col j 1) N0 (h1.set q (.cells [vN, v, vL] true)) q r vB vN v vL LV ⟨st.b, st.sh, st.N, st.S ++ [x], st.L⟩ := by
  have c2 : Chg h1 (h1.set q (.cells [vN, v, vL] true)) [q] := Chg.set _ (by simp)
  have hqj : q ≠ j := by have := g.qn; omega
  have hrj : r ≠ j := by have := g.rn; omega
  have hrq : r ≠ q := by intro e; have h1 := g.cr; have h2 := g.cq; rw [e] at h1; omega
  have hrS : r ∉ S := fun hi => by have h1 := hS _ hi; have h2 := g.cr; omega
  have n1 := g.next; have n2 := c1.1; have n3 := g.qn
  have hS' : ∀ i ∈ S, Ytiaijbkmgajieaa.upd col j 1 i = 1 := by
    intro i hi
    by_cases e : i = j
    · subst e; exact upd_at _ _ _
    · exact (upd_ne e).trans (hS i hi)
  have hq' : ∀ i ∈ [q], Ytiaijbkmgajieaa.upd col j 1 i = 9 := by intro i hi; simp at hi; subst hi; exact (upd_ne hqj).trans g.cq
  have o' : OwnS (Ytiaijbkmgajieaa.upd col j 1 · = 1) h1 v 1 (st.S.map Value.string ++ [.string x]) (st.S.length + 1) := o.imp fun i _ hi => by have hi : i = j := hi; subst hi; exact upd_at _ _ _
  refine ⟨(c1.toP (nlt_c g.old (by decide) hS)).step (c2.toP (nltR_q g)), by simp; omega, by simp; omega, (upd_ne hqj).trans g.cq, fun i hi => (upd_ne (by omega)).trans (g.old i hi), set_at _ _ _, Nat.lt_of_lt_of_le g.rn n2, (upd_ne hrj).trans g.cr, ?_, ?_, ?_, ?_, ?_, ?_⟩
  · rw [set_ne hrq]; exact c1.at g.rn hrS g.ro
  · exact keep_at (keep_at (at_upd g.sB hj) c1 hS' (by decide)) c2 hq' (by decide)
  · exact keep_own (keep_own (own_upd g.sN hj) c1 hS' (by decide)) c2 hq' (by decide)
  · simpa using keep_own o' c2 hq' (by decide)
  · exact keep_own (keep_own (own_upd g.sL hj) c1 hS' (by decide)) c2 hq' (by decide)
  · intro i l hl
    obtain ⟨w, h1, h2⟩ := g.sX i l hl
    exact ⟨w, h1, keep_at (keep_at (at_upd h2 hj) c1 hS' (by omega)) c2 hq' (by omega)⟩
/-- A list more. -/
theorem RAt.addL {col : Nat → Nat} {N0 q r : Nat} {h h1 : St} {vB vN vS vL : Value} {LV : List Value} {st : RSt} (g : RAt col N0 h q r vB vN vS vL LV st) {S : List Nat} (c1 : Chg h h1 S) (hS : ∀ i ∈ S, col i = 2) {j : Nat} {x5 : Value} {x : List Nat} {v : Value} (hj : h.next ≤ j) (o : OwnS (· = j) h1 v 1 (LV ++ [x5]) (st.L.length + 1)) (sx : SliceAt (col · = 10 + st.L.length) h x5 x.length 1 (rowU x)) :
    ChgP (fun i => ¬ i < N0) h (h1.set q (.cells [vN, vS, v] true)) ∧ RAt (Ytiaijbkmgajieaa.upd col j 2) N0 (h1.set q (.cells [vN, vS, v] true)) q r vB vN vS v (LV ++ [x5]) ⟨st.b, st.sh, st.N, st.S, st.L ++ [x]⟩ := by
  have c2 : Chg h1 (h1.set q (.cells [vN, vS, v] true)) [q] := Chg.set _ (by simp)
  have hqj : q ≠ j := by have := g.qn; omega
  have hrj : r ≠ j := by have := g.rn; omega
  have hrq : r ≠ q := by intro e; have h1 := g.cr; have h2 := g.cq; rw [e] at h1; omega
  have hrS : r ∉ S := fun hi => by have h1 := hS _ hi; have h2 := g.cr; omega
  have n1 := g.next; have n2 := c1.1; have n3 := g.qn
  have hS' : ∀ i ∈ S, Ytiaijbkmgajieaa.upd col j 2 i = 2 := by
    intro i hi
    by_cases e : i = j
    · subst e; exact upd_at _ _ _
    · exact (upd_ne e).trans (hS i hi)
  have hq' : ∀ i ∈ [q], Ytiaijbkmgajieaa.upd col j 2 i = 9 := by intro i hi; simp at hi; subst hi; exact (upd_ne hqj).trans g.cq
  have o' : OwnS (Ytiaijbkmgajieaa.upd col j 2 · = 2) h1 v 1 (LV ++ [x5]) (st.L.length + 1) := o.imp fun i _ hi => by have hi : i = j := hi; subst hi; exact upd_at _ _ _
  refine ⟨(c1.toP (nlt_c g.old (by decide) hS)).step (c2.toP (nltR_q g)), by simp; omega, by simp; omega, (upd_ne hqj).trans g.cq, fun i hi => (upd_ne (by omega)).trans (g.old i hi), set_at _ _ _, Nat.lt_of_lt_of_le g.rn n2, (upd_ne hrj).trans g.cr, ?_, ?_, ?_, ?_, ?_, ?_⟩
  · rw [set_ne hrq]; exact c1.at g.rn hrS g.ro
  · exact keep_at (keep_at (at_upd g.sB hj) c1 hS' (by decide)) c2 hq' (by decide)
  · exact keep_own (keep_own (own_upd g.sN hj) c1 hS' (by decide)) c2 hq' (by decide)
  · exact keep_own (keep_own (own_upd g.sS hj) c1 hS' (by decide)) c2 hq' (by decide)
  · simpa using keep_own o' c2 hq' (by decide)
  · intro i l hl
    by_cases hi : i < st.L.length
    · rw [List.getElem?_append_left hi] at hl
      obtain ⟨w, h1, h2⟩ := g.sX i l hl
      have hlv : i < LV.length := (List.getElem?_eq_some_iff.1 h1).1
      exact ⟨w, by rw [List.getElem?_append_left hlv]; exact h1, keep_at (keep_at (at_upd h2 hj) c1 hS' (by omega)) c2 hq' (by omega)⟩
    · have hi' : i = st.L.length := by
        have := (List.getElem?_eq_some_iff.1 hl).1
        simp at this; omega
      subst hi'
      simp at hl
      subst hl
      refine ⟨x5, ?_, keep_at (keep_at (at_upd sx hj) c1 hS' (by omega)) c2 hq' (by omega)⟩
      have e := own_count g.sL
      rw [← e]
      simp
end Go.Proofs.Ytiaijbkmgajieaa
