/- 'Read', walked. -/
import Derived.Test.YtiaijbkmgajieaaJ
set_option linter.unusedSimpArgs false
set_option linter.unusedVariables false
set_option maxHeartbeats 4000000
namespace Go.Proofs.Ytiaijbkmgajieaa
open Go.Abs Go.IntWalk

def gatherZ (cs : List Nat) (st : RSt) : RSt := cs.foldl (fun st c => fieldZ c st) st
def noSt : RSt := ⟨[], false, [], [], []⟩
def readZ (cs b : List Nat) : Nat × RSt :=
  if 0 ≤ leastZ cs then
    (if (gatherZ cs ⟨b, false, [], [], []⟩).sh = true then (3, noSt) else if (gatherZ cs ⟨b, false, [], [], []⟩).b.length > 0 then (4, noSt) else (0, gatherZ cs ⟨b, false, [], [], []⟩))
  else (1, noSt)
theorem listZ_b {k : Nat} : ∀ {b : List Nat} {sh : Bool} {l : List Nat}, (listZ k b sh l).1.length ≤ b.length ∧ (∀ x ∈ (listZ k b sh l).1, x ∈ b) := by
  induction k with
  | zero => intro b sh l; exact ⟨Nat.le_refl _, fun _ h => h⟩
  | succ k ih =>
    intro b sh l
    simp only [listZ]
    split
    · exact ⟨Nat.le_refl _, fun _ h => h⟩
    · obtain ⟨h1, h2⟩ := ih (b := leftZ b 4) (sh := shortZ b sh 4) (l := l ++ [numB (outZ b 4)])
      exact ⟨Nat.le_trans h1 (leftZ_le _ _), fun x hx => leftZ_mem (h2 x hx)⟩
theorem fieldZ_b (c : Nat) (st : RSt) : (fieldZ c st).b.length ≤ st.b.length ∧ (∀ x ∈ (fieldZ c st).b, x ∈ st.b) ∧ (fieldZ c st).N.length ≤ st.N.length + 1 ∧ (fieldZ c st).S.length ≤ st.S.length + 1 ∧ (fieldZ c st).L.length ≤ st.L.length + 1 := by
  unfold fieldZ
  split
  · refine ⟨Nat.le_trans (leftZ_le _ _) (leftZ_le _ _), fun x hx => leftZ_mem (leftZ_mem hx), ?_, ?_, ?_⟩ <;> simp
  · split
    · obtain ⟨h1, h2⟩ := listZ_b (k := numB (outZ st.b (wd c))) (b := leftZ st.b (wd c)) (sh := shortZ st.b st.sh (wd c)) (l := [])
      split
      · refine ⟨Nat.le_trans h1 (leftZ_le _ _), fun x hx => leftZ_mem (h2 x hx), ?_, ?_, ?_⟩ <;> simp
      · refine ⟨Nat.le_trans h1 (leftZ_le _ _), fun x hx => leftZ_mem (h2 x hx), ?_, ?_, ?_⟩ <;> simp
    · refine ⟨leftZ_le _ _, fun x hx => leftZ_mem hx, ?_, ?_, ?_⟩ <;> simp
def tabR : List (FuncId × Abs.Spec) := [(11, rightS), (32, fieldS)]
theorem read_l0 {s : ByteArray} {n q N0 : Nat} {x1 x4 x5 : Value} {K : Cont} {hb : St} {target : RSt} (h8 : (letters s).length ≤ 8)
    (END : ∀ h col vB vN vS vL LV, ChgP (fun i => ¬ i < N0) hb h → GAt col N0 h q vB vN vS vL LV target → field_Read_j1 (tabC tabR) idG n (.string s) x1 x4 x5 (ptr q) (.int .i64 (letters s).length) (.int .i64 (letters s).length) h K) :
    ∀ (d i m0 : Nat) (h : St) (col : Nat → Nat) (vB vN vS vL : Value) (LV : List Value) (st : RSt), i + d = (letters s).length → d < m0 → ChgP (fun i => ¬ i < N0) hb h → GAt col N0 h q vB vN vS vL LV st → st.b.length ≤ 100000 → (∀ x ∈ st.b, x < 256) → st.N.length ≤ i → st.S.length ≤ i → st.L.length ≤ i → gatherZ ((letters s).drop i) st = target →
      field_Read_l0 (tabC tabR) idG n m0 (.string s) x1 x4 x5 (ptr q) (.int .i64 (letters s).length) (.int .i64 i) h K := by
  intro d
  induction d with
  | zero =>
    intro i m0 h col vB vN vS vL LV st hi hm c g hbl hx l1 l2 l3 T
    obtain ⟨m0, rfl⟩ : ∃ m, m0 = m + 1 := ⟨m0 - 1, by omega⟩
    rw [field_Read_l0_eq]
    have e : i = (letters s).length := by omega
    subst e
    rw [List.drop_length] at T
    simp only [gatherZ, List.foldl_nil] at T
    subst T
    simp only [bindV_some, binV_lss, condK_bool, Int.lt_irrefl, decide_false, Bool.false_eq_true, if_false, idG_eq]
    exact END h col vB vN vS vL LV c g
  | succ d ih =>
    intro i m0 h col vB vN vS vL LV st hi hm c g hbl hx l1 l2 l3 T
    obtain ⟨m0, rfl⟩ : ∃ m, m0 = m + 1 := ⟨m0 - 1, by omega⟩
    rw [field_Read_l0_eq]
    have hlt : i < (letters s).length := by omega
    have hlt' : (i : Int) < (letters s).length := by omega
    obtain ⟨a, ha⟩ : ∃ a, (letters s)[i]? = some a := ⟨_, List.getElem?_eq_getElem hlt⟩
    have hd : (letters s).drop i = a :: (letters s).drop (i + 1) := by
      rw [List.drop_eq_getElem_cons hlt]
      congr 1
      exact (List.getElem?_eq_some_iff.1 ha).2
    rw [hd] at T
    have T' : gatherZ ((letters s).drop (i + 1)) (fieldZ a st) = target := T
    have j1 : IntKind.i64.wrap ((i : Int) + 1) = ((i + 1 : Nat) : Int) := by rw [i64_in _ (by omega)]; omega
    simp only [bindV_some, binV_lss, condK_bool, hlt', decide_true, if_true, idG_eq, idxT_at ha]
    refine .inr (.inl ⟨rfl, col, N0, q, vB, vN, vS, vL, LV, st, a, rfl, hbl, hx, by omega, by omega, by omega, g, fun h' col' vB' vN' vS' vL' LV' c' g' => ?_⟩)
    simp only [binNil_int, binV_add, bindV_some, j1]
    obtain ⟨k1, k2, k3, k4, k5⟩ := fieldZ_b a st
    exact ih (i + 1) m0 h' col' vB' vN' vS' vL' LV' _ (by omega) (by omega) (c.step c') g' (by omega) (fun x hx' => hx x (k2 x hx')) (by omega) (by omega) (by omega) T'
def readS : Abs.Spec := fun args h k => ∃ (V : Nat → Prop) (s : ByteArray) (v : Value) (b : List Nat), args = [.string s, v] ∧ s.size ≤ 1000 ∧ b.length ≤ 100000 ∧ (∀ x ∈ b, x < 256) ∧ SliceAt V h v b.length 1 (rowC b) ∧ (∀ i, V i → i < h.next) ∧
  ∀ h' vN vS vL lv, Chg h h' [] → FieldsAt (h.next ≤ ·) h' vN vS vL lv (readZ (letters s) b).2.N (readZ (letters s) b).2.S (readZ (letters s) b).2.L → k (.tuple #[.agg #[vN, vS, vL], .int .i64 (readZ (letters s) b).1]) h'
theorem nilF (V : Nat → Prop) (h : St) : FieldsAt V h (.slice none 0 0) (.slice none 0 0) (.slice none 0 0) (fun _ => .slice none 0 0) noSt.N noSt.S noSt.L := ⟨.inl ⟨rfl, rfl⟩, .inl ⟨rfl, rfl⟩, .inl ⟨rfl, rfl⟩, fun i l hl => by simp [noSt] at hl⟩
theorem map_flatV {α : Type} (f : α → Value) (l : List α) : l.map f = l.flatMap fun b => [f b] := by
  induction l with
  | nil => rfl
  | cons x l ih => rw [List.map_cons, List.flatMap_cons, ih]; rfl
theorem GAt.fields {col : Nat → Nat} {N0 q : Nat} {h : St} {vB vN vS vL : Value} {LV : List Value} {st : RSt} (g : GAt col N0 h q vB vN vS vL LV st) : FieldsAt (fun i => ¬ i < N0 ∧ i ≠ q) h vN vS vL (fun i => LV[i]?.getD (.slice none 0 0)) st.N st.S st.L := by
  have ne : ∀ a, a ≠ 8 → a ≠ 9 → ∀ i, i < h.next → col i = a → (¬ i < N0 ∧ i ≠ q) := fun a ha ha' i _ hc => ⟨fun hi => ha (hc.symm.trans (g.old i hi)), fun e => ha' (hc.symm.trans (e ▸ g.cq))⟩
  refine ⟨?_, ?_, ?_, fun i l hl => ?_⟩
  · have s := g.sN
    rw [map_flatV] at s
    exact (s.slice (row := rowQ st.N) (fun _ _ => rfl) (fun i x hx => by simp [rowQ, hx, qc])).imp (ne 0 (by decide) (by decide))
  · have s := g.sS
    rw [map_flatV] at s
    exact (s.slice (row := rowT st.S) (fun _ _ => rfl) (fun i x hx => by simp [rowT, hx])).imp (ne 1 (by decide) (by decide))
  · have s := g.sL
    have e := own_count s
    rw [← e] at s ⊢
    have e2 : LV = LV.flatMap fun v => [v] := by simp
    have s' : OwnS (col · = 2) h vL 1 (LV.flatMap fun v => [v]) LV.length := by rw [← e2]; exact s
    exact (s'.slice (fun _ _ => rfl) (fun i x hx => by simp [hx])).imp (ne 2 (by decide) (by decide))
  · obtain ⟨v, h1, h2⟩ := g.sX i l hl
    simp only [h1, Option.getD_some]
    exact h2.imp (ne (10 + i) (by omega) (by omega))
theorem readS_good : SpecGood Try.prog (20, readS) := by
  refine spec_good mixed Try.func20 (by kernel_rfl) (by kernel_rfl) (tab := tabR) (by simp [tabR, SpecGood, rightS_ok, rightS_live, fieldS_good.1, fieldS_good.2]) (keep := field_Read_keep) ?_
  rintro args h k ⟨V, s, v, b, rfl, hs, hbl, hx, sl, hV, H⟩
  refine ⟨9, ?_⟩
  show field_Read (tabC tabR) idG 9 (.string s) v h _
  rw [field_Read_eq]
  simp only [allocE_some]
  refine .inl ⟨rfl, s, rfl, by omega, ?_⟩
  by_cases hr : 0 ≤ leastZ (letters s)
  · have h8 : (letters s).length ≤ 8 := by
      unfold leastZ at hr
      split at hr <;> omega
    have hv1 := sl.one; have hv2 := sl.isUnk; have hv3 := sl.cells1
    simp [hr, buildV, fillL, hv1, hv2, hv3]
    rw [← letters_length]
    have c1 : Chg h ((h.push (.cells [.slice none 0 0, .slice none 0 0, .slice none 0 0] true)).push (.cells [.slice none 0 0, .bool false, .slice none 0 0, .slice none 0 0, .slice none 0 0] true)) [] := (Chg.push _ []).of_push
    have c2 : Chg h (((h.push (.cells [.slice none 0 0, .slice none 0 0, .slice none 0 0] true)).push (.cells [.slice none 0 0, .bool false, .slice none 0 0, .slice none 0 0, .slice none 0 0] true)).set (h.next + 1) (.cells [v, .bool false, .slice none 0 0, .slice none 0 0, .slice none 0 0] true)) [] := Chg.of_set c1 (.inr (by simp))
    obtain ⟨g0, hg0⟩ : ∃ g, g = (((h.push (.cells [.slice none 0 0, .slice none 0 0, .slice none 0 0] true)).push (.cells [.slice none 0 0, .bool false, .slice none 0 0, .slice none 0 0, .slice none 0 0] true)).set (h.next + 1) (.cells [v, .bool false, .slice none 0 0, .slice none 0 0, .slice none 0 0] true)) := ⟨_, rfl⟩
    rw [← hg0] at c2 ⊢
    have q1 : g0.objs (h.next + 1) = some (.cells [v, .bool false, .slice none 0 0, .slice none 0 0, .slice none 0 0] true) := by rw [hg0]; exact set_at _ _ _
    have q0 : g0.objs h.next = some (.cells [.slice none 0 0, .slice none 0 0, .slice none 0 0] true) := by rw [hg0, set_ne (by omega), push_ne (by simp)]; exact push_at _ _
    have qn : g0.next = h.next + 2 := by rw [hg0]; rfl
    clear hg0 c1
    have cV : SliceAt (fun i => i ≠ h.next + 1 ∧ i ≠ h.next) g0 v b.length 1 (rowC b) := (sl.chg c2 (by simp)).imp fun i _ hi => by have := hV i hi; omega
    refine read_l0 (N0 := h.next + 1) (q := h.next + 1) (hb := g0) (target := gatherZ (letters s) ⟨b, false, [], [], []⟩) h8 ?_ (letters s).length 0 9 g0 (fun i => if i = h.next + 1 then 9 else 8) v _ _ _ [] ⟨b, false, [], [], []⟩ (by omega) (by omega) (ChgP.refl _ _)
      ⟨by omega, by omega, by simp, fun i hi => if_neg (by omega), q1, cV.imp (fun i _ hi => if_neg hi.1), .inl ⟨rfl, rfl, rfl⟩, .inl ⟨rfl, rfl, rfl⟩, .inl ⟨rfl, rfl, rfl⟩, fun i l hl => by simp at hl⟩ hbl hx (by simp) (by simp) (by simp) (by simp)
    intro h3 col vB vN vS vL LV c3 g
    have o3 := g.obj
    have a3 : h3.objs h.next = some (.cells [.slice none 0 0, .slice none 0 0, .slice none 0 0] true) := c3.at (by omega) (by omega) q0
    have c4 : Chg h h3 [] := ((c2.toP (D := fun i => ¬ i < h.next + 1) (by simp)).step c3).list (by intro i hi hh; omega)
    have cs : ∀ o, Chg h (h3.set h.next o) [] := fun o => Chg.of_set c4 (.inr (Nat.le_refl _))
    have n3 := c3.1
    have hz : readZ (letters s) b = if (gatherZ (letters s) ⟨b, false, [], [], []⟩).sh = true then (3, noSt) else if (gatherZ (letters s) ⟨b, false, [], [], []⟩).b.length > 0 then (4, noSt) else (0, gatherZ (letters s) ⟨b, false, [], [], []⟩) := by unfold readZ; rw [if_pos hr]
    rw [field_Read_j1_eq]
    have hl := g.sB.len
    generalize gatherZ (letters s) ⟨b, false, [], [], []⟩ = tg at *
    cases hsh : tg.sh with
    | true =>
      rw [hsh] at o3
      rw [hz, if_pos hsh] at H
      simp [ptr, o3, a3, buildV, fillL]
      exact ⟨_, St.le.refl _, H _ _ _ _ _ (cs _) (nilF _ _)⟩
    | false =>
      rw [hsh] at o3
      rw [hz, if_neg (by simp [hsh])] at H
      by_cases hlen : tg.b.length > 0
      · rw [if_pos hlen] at H
        have hlen' : (0 : Int) < tg.b.length := by omega
        simp [ptr, o3, a3, buildV, fillL, hl, hlen, hlen']
        exact ⟨_, St.le.refl _, H _ _ _ _ _ (cs _) (nilF _ _)⟩
      · rw [if_neg hlen] at H
        have hlen' : ¬ (0 : Int) < tg.b.length := by omega
        have f := g.fields
        have w1 := f.1.one; have w2 := f.2.1.one; have w3 := f.2.2.1.one
        have tk : takeN [vB, Value.bool false, vN, vS, vL] 2 3 = some [vN, vS, vL] := rfl
        simp [ptr, o3, a3, hl, hlen, hlen', tk, w1, w2, w3]
        have f' : FieldsAt (fun i => ¬ i < h.next + 1 ∧ i ≠ h.next + 1) (h3.set h.next (.cells [vN, vS, vL] true)) vN vS vL (fun i => LV[i]?.getD (.slice none 0 0)) tg.N tg.S tg.L := f.chgP (D := fun i => i = h.next) ((ChgP.refl _ _).of_set (.inl rfl)) (by intro i hi hh; omega)
        exact ⟨_, St.le.refl _, H _ _ _ _ _ (cs _) ⟨f'.1.imp (fun i _ hi => by omega), f'.2.1.imp (fun i _ hi => by omega), f'.2.2.1.imp (fun i _ hi => by omega), fun i l hl => (f'.2.2.2 i l hl).imp (fun i _ hi => by omega)⟩⟩
  · have hz : readZ (letters s) b = (1, noSt) := by unfold readZ; rw [if_neg hr]
    rw [hz] at H
    simp [hr, buildV, fillL]
    exact ⟨_, St.le.refl _, H _ _ _ _ _ (Chg.of_set (Chg.push _ []) (.inr (Nat.le_refl _))) (nilF _ _)⟩
end Go.Proofs.Ytiaijbkmgajieaa
