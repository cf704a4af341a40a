/- What is gathered: one letter. -/
import Derived.Test.YtiaijbkmgajieaaH
set_option linter.unusedSimpArgs false
set_option linter.unusedVariables false
set_option maxHeartbeats 4000000
namespace Go.Proofs.Ytiaijbkmgajieaa
open Go.Abs Go.IntWalk

structure RSt where
  b : List Nat
  sh : Bool
  N : List Nat
  S : List ByteArray
  L : List (List Nat)
def listZ : Nat → List Nat → Bool → List Nat → List Nat × Bool × List Nat × Bool
  | 0, b, sh, l => (b, sh, l, true)
  | k + 1, b, sh, l => if sh = true then (b, sh, l, false) else listZ k (leftZ b 4) (shortZ b sh 4) (l ++ [numB (outZ b 4)])
def fieldZ (c : Nat) (st : RSt) : RSt :=
  if c = 115 then ⟨leftZ (leftZ st.b (wd c)) (numB (outZ st.b (wd c))), shortZ (leftZ st.b (wd c)) (shortZ st.b st.sh (wd c)) (numB (outZ st.b (wd c))), st.N, st.S ++ [bytesText (outZ (leftZ st.b (wd c)) (numB (outZ st.b (wd c))))], st.L⟩
  else if c = 108 then
    if (listZ (numB (outZ st.b (wd c))) (leftZ st.b (wd c)) (shortZ st.b st.sh (wd c)) []).2.2.2 = true
    then ⟨(listZ (numB (outZ st.b (wd c))) (leftZ st.b (wd c)) (shortZ st.b st.sh (wd c)) []).1, (listZ (numB (outZ st.b (wd c))) (leftZ st.b (wd c)) (shortZ st.b st.sh (wd c)) []).2.1, st.N, st.S, st.L ++ [(listZ (numB (outZ st.b (wd c))) (leftZ st.b (wd c)) (shortZ st.b st.sh (wd c)) []).2.2.1]⟩
    else ⟨(listZ (numB (outZ st.b (wd c))) (leftZ st.b (wd c)) (shortZ st.b st.sh (wd c)) []).1, (listZ (numB (outZ st.b (wd c))) (leftZ st.b (wd c)) (shortZ st.b st.sh (wd c)) []).2.1, st.N, st.S, st.L⟩
  else ⟨leftZ st.b (wd c), shortZ st.b st.sh (wd c), st.N ++ [numB (outZ st.b (wd c))], st.S, st.L⟩
def qc (n : Nat) : Value := .int .u64 n
def uc (n : Nat) : Value := .int .u32 n
/-- A colour for each block: 8 what came in, 9 the gatherer, 0 the numbers, 1 the texts, 2 the lists, 10 and more each list. -/
structure GAt (col : Nat → Nat) (N0 : Nat) (h : St) (q : Nat) (vB vN vS vL : Value) (LV : List Value) (st : RSt) : Prop where
  next : N0 ≤ h.next
  qn : q < h.next
  cq : col q = 9
  old : ∀ i, i < N0 → col i = 8
  obj : h.objs q = some (.cells [vB, .bool st.sh, vN, vS, vL] true)
  sB : SliceAt (col · = 8) h vB st.b.length 1 (rowC st.b)
  sN : OwnS (col · = 0) h vN 1 (st.N.map qc) st.N.length
  sS : OwnS (col · = 1) h vS 1 (st.S.map Value.string) st.S.length
  sL : OwnS (col · = 2) h vL 1 LV st.L.length
  sX : ∀ (i : Nat) (l : List Nat), st.L[i]? = some l → ∃ v, LV[i]? = some v ∧ SliceAt (col · = 10 + i) h v l.length 1 (rowU l)
def upd (col : Nat → Nat) (j x : Nat) : Nat → Nat := fun i => if i = j then x else col i
theorem upd_at (col : Nat → Nat) (j x : Nat) : upd col j x j = x := by simp [upd]
theorem upd_ne {col : Nat → Nat} {j x i : Nat} (h : i ≠ j) : upd col j x i = col i := by simp [upd, h]
theorem own_upd {col : Nat → Nat} {a j x sz n : Nat} {h : St} {v : Value} {cs : List Value} (s : OwnS (col · = a) h v sz cs n) (hj : h.next ≤ j) : OwnS (upd col j x · = a) h v sz cs n := s.imp fun i hi hc => (upd_ne (by omega)).trans hc
theorem at_upd {col : Nat → Nat} {a j x sz n : Nat} {h : St} {v : Value} {row : Nat → List Value} (s : SliceAt (col · = a) h v n sz row) (hj : h.next ≤ j) : SliceAt (upd col j x · = a) h v n sz row := s.imp fun i hi hc => (upd_ne (by omega)).trans hc
theorem keep_at {col : Nat → Nat} {a b sz n : Nat} {h h' : St} {v : Value} {row : Nat → List Value} {S : List Nat} (s : SliceAt (col · = b) h v n sz row) (c : Chg h h' S) (hS : ∀ i ∈ S, col i = a) (hab : a ≠ b) : SliceAt (col · = b) h' v n sz row := s.chg c fun i hi hb => hab ((hS i hi).symm.trans hb)
theorem keep_own {col : Nat → Nat} {a b sz n : Nat} {h h' : St} {v : Value} {cs : List Value} {S : List Nat} (s : OwnS (col · = b) h v sz cs n) (c : Chg h h' S) (hS : ∀ i ∈ S, col i = a) (hab : a ≠ b) : OwnS (col · = b) h' v sz cs n := s.chg c fun i hi hb => hab ((hS i hi).symm.trans hb)
theorem GAt.upd {col : Nat → Nat} {N0 q j x : Nat} {h : St} {vB vN vS vL : Value} {LV : List Value} {st : RSt} (g : GAt col N0 h q vB vN vS vL LV st) (hj : h.next ≤ j) : GAt (upd col j x) N0 h q vB vN vS vL LV st :=
  ⟨g.next, g.qn, (upd_ne (by have := g.qn; omega)).trans g.cq, fun i hi => (upd_ne (by have := g.next; omega)).trans (g.old i hi), g.obj, at_upd g.sB hj, own_upd g.sN hj, own_upd g.sS hj, own_upd g.sL hj, fun i l hl => by
    obtain ⟨v, h1, h2⟩ := g.sX i l hl
    exact ⟨v, h1, at_upd h2 hj⟩⟩
theorem GAt.hq {col : Nat → Nat} {N0 q : Nat} {h : St} {vB vN vS vL : Value} {LV : List Value} {st : RSt} (g : GAt col N0 h q vB vN vS vL LV st) : ∀ i ∈ [q], col i = 9 := by intro i hi; simp at hi; subst hi; exact g.cq
/-- Whatever changes in blocks of another colour alone. -/
theorem GAt.chg {col : Nat → Nat} {N0 q a : Nat} {h h' : St} {vB vN vS vL : Value} {LV : List Value} {st : RSt} (g : GAt col N0 h q vB vN vS vL LV st) {S : List Nat} (c : Chg h h' S) (hS : ∀ i ∈ S, col i = a) (ha : 10 + st.L.length ≤ a) : GAt col N0 h' q vB vN vS vL LV st :=
  ⟨Nat.le_trans g.next c.1, Nat.lt_of_lt_of_le g.qn c.1, g.cq, g.old, c.at g.qn (fun hi => by have h1 := hS _ hi; have h2 := g.cq; omega) g.obj, keep_at g.sB c hS (by omega), keep_own g.sN c hS (by omega), keep_own g.sS c hS (by omega), keep_own g.sL c hS (by omega), fun i l hl => by
    obtain ⟨v, h1, h2⟩ := g.sX i l hl
    have : i < st.L.length := (List.getElem?_eq_some_iff.1 hl).1
    exact ⟨v, h1, keep_at h2 c hS (by omega)⟩⟩
/-- The gatherer's own cells are others now. -/
theorem GAt.cell {col : Nat → Nat} {N0 q : Nat} {h h' : St} {vB vN vS vL vB' : Value} {LV : List Value} {st : RSt} (g : GAt col N0 h q vB vN vS vL LV st) (c : Chg h h' [q]) {b : List Nat} {sh : Bool} (ho : h'.objs q = some (.cells [vB', .bool sh, vN, vS, vL] true)) (s : SliceAt (col · = 8) h' vB' b.length 1 (rowC b)) :
    GAt col N0 h' q vB' vN vS vL LV ⟨b, sh, st.N, st.S, st.L⟩ :=
  ⟨Nat.le_trans g.next c.1, Nat.lt_of_lt_of_le g.qn c.1, g.cq, g.old, ho, s, keep_own g.sN c g.hq (by decide), keep_own g.sS c g.hq (by decide), keep_own g.sL c g.hq (by decide), fun i l hl => by
    obtain ⟨v, h1, h2⟩ := g.sX i l hl
    exact ⟨v, h1, keep_at h2 c g.hq (by omega)⟩⟩
theorem build1 (z x : Value) (hx : one x = true) (hu : isUnk x = false) (hc : x.cells = #[x]) (h : St) (k : Cont) : buildSliceE 1 1 [z] [(0 * 1, 1, x)] h k = k (.slice (some ⟨h.next, 0, some 1⟩) 1 0) (h.push (.cells [x] true)) := by
  simp [buildSliceE, fillL, repL, allOne_eq, hx, hu, hc]
/-- 'append(own, x)', x one cell. -/
theorem append_one {B : Nat → Prop} {h : St} {v x : Value} {n bytes : Nat} {cs : List Value} (s : OwnS B h v 1 cs n) (hx : one x = true) (hb : (n + 1) * bytes ≤ 140737488355328) (hb' : n + 1 ≤ 140737488355328) {k : Cont}
    (hk : ∀ h' S, (∀ i ∈ S, B i) → Chg h h' S → h.next + 1 < h'.next → OwnS (· = h.next + 1) h' (.slice (some ⟨h.next + 1, 0, some 1⟩) (n + 1) 0) 1 (cs ++ [x]) (n + 1) → k (.slice (some ⟨h.next + 1, 0, some 1⟩) (n + 1) 0) h') :
    appendE 1 bytes v (.slice (some ⟨h.next, 0, some 1⟩) 1 0) (h.push (.cells [x] true)) k := by
  have s' := s.chgP (D := fun _ => False) ((ChgP.refl _ h).of_push (o := .cells [x] true)) (fun _ h => h.elim)
  refine append_own (cs := cs) (new := [x]) (m := 1) s' (by simp [newCells]) (by omega) rfl (by simp [hx]) hb hb' fun h' S hS c n' o' e' => ?_
  have c' : Chg h h' S := ((Chg.push _ []).trans c (by simp) (fun i hi _ => hi))
  exact hk h' S hS c' (by simpa using n') (.inr ⟨_, rfl, rfl, n', o', e'⟩)
theorem nlt_q {col : Nat → Nat} {N0 q : Nat} {h : St} {vB vN vS vL : Value} {LV : List Value} {st : RSt} (g : GAt col N0 h q vB vN vS vL LV st) : ∀ i ∈ [q], ¬ i < N0 := by
  intro i hi hlt
  have h1 := g.old i hlt
  have h2 := g.hq i hi
  omega
theorem nlt_c {col : Nat → Nat} {N0 a : Nat} (old : ∀ i, i < N0 → col i = 8) (ha : a ≠ 8) {S : List Nat} (hS : ∀ i ∈ S, col i = a) : ∀ i ∈ S, ¬ i < N0 := by
  intro i hi hlt
  have h1 := old i hlt
  have h2 := hS i hi
  omega

theorem own_count {B : Nat → Prop} {h : St} {v : Value} {n : Nat} {cs : List Value} (s : OwnS B h v 1 cs n) : cs.length = n := by
  rcases s with ⟨_, rfl, rfl⟩ | ⟨_, _, _, _, _, e⟩
  · rfl
  · simpa using e
/-- A number more. -/
theorem GAt.addN {col : Nat → Nat} {N0 q : Nat} {h h1 : St} {vB vN vS vL : Value} {LV : List Value} {st : RSt} (g : GAt col N0 h q vB vN vS vL LV st) {S : List Nat} (c1 : Chg h h1 S) (hS : ∀ i ∈ S, col i = 0) {j : Nat} {x : Nat} {v : Value} (hj : h.next ≤ j) (o : OwnS (· = j) h1 v 1 (st.N.map qc ++ [qc x]) (st.N.length + 1)) :
    ChgP (fun i => ¬ i < N0) h (h1.set q (.cells [vB, .bool st.sh, v, vS, vL] true)) ∧ GAt (Ytiaijbkmgajieaa.upd col j 0) N0 (h1.set q (.cells [vB, .bool st.sh, v, vS, vL] true)) q vB v vS vL LV ⟨st.b, st.sh, st.N ++ [x], st.S, st.L⟩ := by
  have c2 : Chg h1 (h1.set q (.cells [vB, .bool st.sh, v, vS, vL] true)) [q] := Chg.set _ (by simp)
  have hqj : q ≠ j := by have := g.qn; omega
  have n1 := g.next; have n2 := c1.1; have n3 := g.qn
  have hS' : ∀ i ∈ S, Ytiaijbkmgajieaa.upd col j 0 i = 0 := by
    intro i hi
    by_cases e : i = j
    · subst e; exact upd_at _ _ _
    · exact (upd_ne e).trans (hS i hi)
  have hq' : ∀ i ∈ [q], Ytiaijbkmgajieaa.upd col j 0 i = 9 := by intro i hi; simp at hi; subst hi; exact (upd_ne hqj).trans g.cq
  have o' : OwnS (Ytiaijbkmgajieaa.upd col j 0 · = 0) h1 v 1 (st.N.map qc ++ [qc x]) (st.N.length + 1) := o.imp fun i _ hi => by have hi : i = j := hi; subst hi; exact upd_at _ _ _
  refine ⟨(c1.toP (nlt_c g.old (by decide) hS)).step (c2.toP (nlt_q g)), by simp; omega, by simp; omega, (upd_ne hqj).trans g.cq, fun i hi => (upd_ne (by omega)).trans (g.old i hi), set_at _ _ _, ?_, ?_, ?_, ?_, ?_⟩
  · exact keep_at (keep_at (at_upd g.sB hj) c1 hS' (by decide)) c2 hq' (by decide)
  · simpa using keep_own o' c2 hq' (by decide)
  · exact keep_own (keep_own (own_upd g.sS hj) c1 hS' (by decide)) c2 hq' (by decide)
  · exact keep_own (keep_own (own_upd g.sL hj) c1 hS' (by decide)) c2 hq' (by decide)
  · intro i l hl
    obtain ⟨w, h1, h2⟩ := g.sX i l hl
    exact ⟨w, h1, keep_at (keep_at (at_upd h2 hj) c1 hS' (by omega)) c2 hq' (by omega)⟩
/-- A text more. -/
theorem GAt.addS {col : Nat → Nat} {N0 q : Nat} {h h1 : St} {vB vN vS vL : Value} {LV : List Value} {st : RSt} (g : GAt col N0 h q vB vN vS vL LV st) {S : List Nat} (c1 : Chg h h1 S) (hS : ∀ i ∈ S, col i = 1) {j : Nat} {x : ByteArray} {v : Value} (hj : h.next ≤ j) (o : OwnS (· = j) h1 v 1 (st.S.map Value.string ++ [.string x]) (st.S.length + 1)) :
    ChgP (fun i => ¬ i < N0) h (h1.set q (.cells [vB, .bool st.sh, vN, v, vL] true)) ∧ GAt (Ytiaijbkmgajieaa.upd col j 1) N0 (h1.set q (.cells [vB, .bool st.sh, vN, v, vL] true)) q vB vN v vL LV ⟨st.b, st.sh, st.N, st.S ++ [x], st.L⟩ := by
  have c2 : Chg h1 (h1.set q (.cells [vB, .bool st.sh, vN, v, vL] true)) [q] := Chg.set _ (by simp)
  have hqj : q ≠ j := by have := g.qn; omega
  have n1 := g.next; have n2 := c1.1; have n3 := g.qn
  have hS' : ∀ i ∈ S, Ytiaijbkmgajieaa.upd col j 1 i = 1 := by
    intro i hi
    by_cases e : i = j
    · subst e; exact upd_at _ _ _
    · exact (upd_ne e).trans (hS i hi)
  have hq' : ∀ i ∈ [q], Ytiaijbkmgajieaa.upd col j 1 i = 9 := by intro i hi; simp at hi; subst hi; exact (upd_ne hqj).trans g.cq
  have o' : OwnS (Ytiaijbkmgajieaa.upd col j 1 · = 1) h1 v 1 (st.S.map Value.string ++ [.string x]) (st.S.length + 1) := o.imp fun i _ hi => by have hi : i = j := hi; subst hi; exact upd_at _ _ _
  refine ⟨(c1.toP (nlt_c g.old (by decide) hS)).step (c2.toP (nlt_q g)), by simp; omega, by simp; omega, (upd_ne hqj).trans g.cq, fun i hi => (upd_ne (by omega)).trans (g.old i hi), set_at _ _ _, ?_, ?_, ?_, ?_, ?_⟩
  · exact keep_at (keep_at (at_upd g.sB hj) c1 hS' (by decide)) c2 hq' (by decide)
  · exact keep_own (keep_own (own_upd g.sN hj) c1 hS' (by decide)) c2 hq' (by decide)
  · simpa using keep_own o' c2 hq' (by decide)
  · exact keep_own (keep_own (own_upd g.sL hj) c1 hS' (by decide)) c2 hq' (by decide)
  · intro i l hl
    obtain ⟨w, h1, h2⟩ := g.sX i l hl
    exact ⟨w, h1, keep_at (keep_at (at_upd h2 hj) c1 hS' (by omega)) c2 hq' (by omega)⟩
/-- A list more. -/
theorem GAt.addL {col : Nat → Nat} {N0 q : Nat} {h h1 : St} {vB vN vS vL : Value} {LV : List Value} {st : RSt} (g : GAt col N0 h q vB vN vS vL LV st) {S : List Nat} (c1 : Chg h h1 S) (hS : ∀ i ∈ S, col i = 2) {j : Nat} {x5 : Value} {x : List Nat} {v : Value} (hj : h.next ≤ j) (o : OwnS (· = j) h1 v 1 (LV ++ [x5]) (st.L.length + 1)) (sx : SliceAt (col · = 10 + st.L.length) h x5 x.length 1 (rowU x)) :
    ChgP (fun i => ¬ i < N0) h (h1.set q (.cells [vB, .bool st.sh, vN, vS, v] true)) ∧ GAt (Ytiaijbkmgajieaa.upd col j 2) N0 (h1.set q (.cells [vB, .bool st.sh, vN, vS, v] true)) q vB vN vS v (LV ++ [x5]) ⟨st.b, st.sh, st.N, st.S, st.L ++ [x]⟩ := by
  have c2 : Chg h1 (h1.set q (.cells [vB, .bool st.sh, vN, vS, v] true)) [q] := Chg.set _ (by simp)
  have hqj : q ≠ j := by have := g.qn; omega
  have n1 := g.next; have n2 := c1.1; have n3 := g.qn
  have hS' : ∀ i ∈ S, Ytiaijbkmgajieaa.upd col j 2 i = 2 := by
    intro i hi
    by_cases e : i = j
    · subst e; exact upd_at _ _ _
    · exact (upd_ne e).trans (hS i hi)
  have hq' : ∀ i ∈ [q], Ytiaijbkmgajieaa.upd col j 2 i = 9 := by intro i hi; simp at hi; subst hi; exact (upd_ne hqj).trans g.cq
  have o' : OwnS (Ytiaijbkmgajieaa.upd col j 2 · = 2) h1 v 1 (LV ++ [x5]) (st.L.length + 1) := o.imp fun i _ hi => by have hi : i = j := hi; subst hi; exact upd_at _ _ _
  refine ⟨(c1.toP (nlt_c g.old (by decide) hS)).step (c2.toP (nlt_q g)), by simp; omega, by simp; omega, (upd_ne hqj).trans g.cq, fun i hi => (upd_ne (by omega)).trans (g.old i hi), set_at _ _ _, ?_, ?_, ?_, ?_, ?_⟩
  · exact keep_at (keep_at (at_upd g.sB hj) c1 hS' (by decide)) c2 hq' (by decide)
  · exact keep_own (keep_own (own_upd g.sN hj) c1 hS' (by decide)) c2 hq' (by decide)
  · exact keep_own (keep_own (own_upd g.sS hj) c1 hS' (by decide)) c2 hq' (by decide)
  · simpa using keep_own o' c2 hq' (by decide)
  · intro i l hl
    by_cases hi : i < st.L.length
    · rw [List.getElem?_append_left hi] at hl
      obtain ⟨w, h1, h2⟩ := g.sX i l hl
      have hlv : i < LV.length := (List.getElem?_eq_some_iff.1 h1).1
      exact ⟨w, by rw [List.getElem?_append_left hlv]; exact h1, keep_at (keep_at (at_upd h2 hj) c1 hS' (by omega)) c2 hq' (by omega)⟩
    · have hi' : i = st.L.length := by
        have := (List.getElem?_eq_some_iff.1 hl).1
        simp at this; omega
      subst hi'
      simp at hl
      subst hl
      refine ⟨x5, ?_, keep_at (keep_at (at_upd sx hj) c1 hS' (by omega)) c2 hq' (by omega)⟩
      have e := own_count g.sL
      rw [← e]
      simp
end Go.Proofs.Ytiaijbkmgajieaa
