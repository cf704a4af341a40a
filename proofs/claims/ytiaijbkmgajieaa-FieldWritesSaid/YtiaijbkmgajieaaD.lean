/- The bytes of fields. -/
import Derived.Test.YtiaijbkmgajieaaC
set_option linter.unusedSimpArgs false
set_option linter.unusedVariables false
set_option maxHeartbeats 4000000
namespace Go.Proofs.Ytiaijbkmgajieaa
open Go.Abs Go.IntWalk

def wr : List Nat → List Nat → List ByteArray → List (List Nat) → Nat × List Nat → Nat × List Nat
  | [], _, _, _, st => st
  | c :: cs, N, S, L, st =>
    if c = 115 then match S with
      | s :: S' => wr cs N S' L (errN st.1 s.size 1, st.2 ++ putB s.size 1 ++ letters s)
      | [] => st
    else if c = 108 then match L with
      | l :: L' => wr cs N S L' (errN st.1 l.length 1, st.2 ++ allOut l)
      | [] => st
    else match N with
      | n :: N' => wr cs N' S L (errN st.1 n (wd c), st.2 ++ putB n (wd c))
      | [] => st
def writeZ (cs N : List Nat) (S : List ByteArray) (L : List (List Nat)) : Nat × List Nat :=
  if (decide (0 ≤ leastZ cs) && fitsB cs N.length S.length L.length) = true then (if (wr cs N S L (0, [])).1 ≠ 0 then ((wr cs N S L (0, [])).1, []) else wr cs N S L (0, [])) else (1, [])
def rowQ (N : List Nat) (i : Nat) : List Value := [.int .u64 (N[i]?.getD 0 : Nat)]
def rowT (S : List ByteArray) (i : Nat) : List Value := [.string (S[i]?.getD .empty)]
/-- Fields, as they lie there. -/
def FieldsAt (V : Nat → Prop) (h : St) (vN vS vL : Value) (lv : Nat → Value) (N : List Nat) (S : List ByteArray) (L : List (List Nat)) : Prop :=
  SliceAt V h vN N.length 1 (rowQ N) ∧ SliceAt V h vS S.length 1 (rowT S) ∧ SliceAt V h vL L.length 1 (fun i => [lv i]) ∧ ∀ (i : Nat) (l : List Nat), L[i]? = some l → SliceAt V h (lv i) l.length 1 (rowU l)
theorem FieldsAt.chgP {V D : Nat → Prop} {h h' : St} {vN vS vL : Value} {lv : Nat → Value} {N : List Nat} {S : List ByteArray} {L : List (List Nat)} (f : FieldsAt V h vN vS vL lv N S L) (c : ChgP D h h') (hD : ∀ i, D i → ¬ V i) : FieldsAt V h' vN vS vL lv N S L :=
  ⟨f.1.chgP c hD, f.2.1.chgP c hD, f.2.2.1.chgP c hD, fun i l hl => (f.2.2.2 i l hl).chgP c hD⟩
/-- Fields that are few and short. -/
def SmallF (N : List Nat) (S : List ByteArray) (L : List (List Nat)) : Prop := (∀ x ∈ N, x < 18446744073709551616) ∧ (∀ s ∈ S, s.size ≤ 1000) ∧ ∀ l ∈ L, l.length ≤ 1000 ∧ ∀ x ∈ l, x < 4294967296
theorem newCells_text (s : ByteArray) (h : St) : newCells 1 (.string s) h = some ((letters s).map bc, (letters s).length) := by
  simp only [newCells, Nat.beq_refl]
  rw [letters_length]
  simp [letters, bc, Function.comp_def]
def tabW : List (FuncId × Abs.Spec) := [(11, rightS), (26, fitsS), (27, numberS), (28, allS), (25, widthS)]
theorem write_l0 {s : ByteArray} {n fb wq N0 V0 : Nat} {x4 x5 : Value} {K : Cont} {hb : St} {target : Nat × List Nat} (hv : V0 ≤ fb) (hv' : V0 ≤ wq) (hfw : fb ≠ wq) (hf0 : fb < N0) (hw0 : wq < N0)
    (END : ∀ h, N0 ≤ h.next → ChgP (fun i => i = fb ∨ i = wq ∨ N0 ≤ i) hb h → WAt (N0 ≤ ·) h wq target.2 target.1 → field_Write_j2 (tabC tabW) idG n (.string s) (ptr fb) x4 x5 (ptr wq) (.int .i64 (letters s).length) (.int .i64 (letters s).length) h K) :
    ∀ (d i m0 : Nat) (h : St) (N : List Nat) (S : List ByteArray) (L : List (List Nat)) (e : Nat) (out : List Nat) (vN vS vL : Value) (lv : Nat → Value), i + d = (letters s).length → (letters s).length ≤ 8 → d < m0 → N0 ≤ h.next → ChgP (fun i => i = fb ∨ i = wq ∨ N0 ≤ i) hb h →
      FieldsAt (· < V0) h vN vS vL lv N S L → SmallF N S L → h.objs fb = some (.cells [vN, vS, vL] true) → WAt (N0 ≤ ·) h wq out e → out.length + 10000 * d ≤ 1000000 →
      cnt 115 ((letters s).drop i) = S.length → cnt 108 ((letters s).drop i) = L.length → N.length + S.length + L.length = d → wr ((letters s).drop i) N S L (e, out) = target →
      field_Write_l0 (tabC tabW) idG n m0 (.string s) (ptr fb) x4 x5 (ptr wq) (.int .i64 (letters s).length) (.int .i64 i) h K := by
  intro d
  induction d with
  | zero =>
    intro i m0 h N S L e out vN vS vL lv hi h8 hm hN c F SF hfb W ho c1 c2 c3 T
    obtain ⟨m0, rfl⟩ : ∃ m, m0 = m + 1 := ⟨m0 - 1, by omega⟩
    rw [field_Write_l0_eq]
    have e : i = (letters s).length := by omega
    subst e
    rw [List.drop_length] at T
    simp only [wr] at T
    simp only [bindV_some, binV_lss, condK_bool, Int.lt_irrefl, decide_false, Bool.false_eq_true, if_false, idG_eq]
    exact END h hN c (by rw [← T]; exact W)
  | succ d ih =>
    intro i m0 h N S L e out vN vS vL lv hi h8 hm hN c F SF hfb W ho c1 c2 c3 T
    obtain ⟨m0, rfl⟩ : ∃ m, m0 = m + 1 := ⟨m0 - 1, by omega⟩
    rw [field_Write_l0_eq]
    have hlt : i < (letters s).length := by omega
    have hlt' : (i : Int) < (letters s).length := by omega
    obtain ⟨a, ha⟩ : ∃ a, (letters s)[i]? = some a := ⟨_, List.getElem?_eq_getElem hlt⟩
    have hd : (letters s).drop i = a :: (letters s).drop (i + 1) := by
      rw [List.drop_eq_getElem_cons hlt]
      congr 1
      exact (List.getElem?_eq_some_iff.1 ha).2
    rw [hd] at c1 c2 T
    simp only [wr] at T
    simp only [cnt] at c1 c2
    have j1 : IntKind.i64.wrap ((i : Int) + 1) = ((i + 1 : Nat) : Int) := by rw [i64_in _ (by omega)]; omega
    have nxt : ∀ (h' : St) (N' : List Nat) (S' : List ByteArray) (L' : List (List Nat)) (e' : Nat) (out' : List Nat) (vN' vS' vL' : Value) (lv' : Nat → Value), ChgP (fun i => i = fb ∨ i = wq ∨ N0 ≤ i) h h' → FieldsAt (· < V0) h' vN' vS' vL' lv' N' S' L' → SmallF N' S' L' → h'.objs fb = some (.cells [vN', vS', vL'] true) → WAt (N0 ≤ ·) h' wq out' e' → out'.length ≤ out.length + 10000 →
        cnt 115 ((letters s).drop (i + 1)) = S'.length → cnt 108 ((letters s).drop (i + 1)) = L'.length → N'.length + S'.length + L'.length = d → wr ((letters s).drop (i + 1)) N' S' L' (e', out') = target →
        field_Write_j1 (tabC tabW) idG n m0 (.string s) (ptr fb) x4 x5 (ptr wq) (.int .i64 (letters s).length) (.int .i64 i) h' K := by
      intro h' N' S' L' e' out' vN' vS' vL' lv' q1 q2 q3 q4 q5 q6 q7 q8 q9 q10
      rw [field_Write_j1_eq]
      simp only [binNil_int, binV_add, bindV_some, idG_eq, j1]
      exact ih (i + 1) m0 h' N' S' L' e' out' vN' vS' vL' lv' (by omega) h8 (by omega) (Nat.le_trans hN q1.1) (c.step q1) q2 q3 q4 q5 (by omega) q7 q8 q9 q10
    have hBn : ∀ j, h.next ≤ j → N0 ≤ j := fun j hj => Nat.le_trans hN hj
    obtain ⟨F1, F2, F3, F4⟩ := id F
    by_cases t1 : a = 115
    · have t1i : (a : Int) = 115 := by omega
      have t2 : ¬ a = 108 := by omega
      simp only [t1, if_true] at c1 T
      simp only [t2, if_false] at c2
      cases S with
      | nil => simp at c1
      | cons sv S' =>
        simp only [List.length_cons] at c1 c3
        simp only at T
        have hsv := SF.2.1 sv (by simp)
        obtain ⟨b, o, g1, g2, g3, cs, own, g4, g5⟩ := F2.idx (i := 0) (by omega) (by simp) .i64
        have g6 := takeN_get g5 (j := 0) (by omega)
        simp [rowT] at g6
        have hw1 : IntKind.u64.wrap (sv.size : Int) = (sv.size : Int) := u64_in _ (by omega)
        simp [hlt, idxT_at ha, t1i, ptr, hfb, g1, g4, g6, hw1]
        refine .inr (.inr (.inl ⟨rfl, (N0 ≤ ·), wq, out, e, sv.size, 1, rfl, by omega, by omega, by omega, hBn, W, fun h8' c8 W8 => ?_⟩))
        have c8' : ChgP (fun i => i = fb ∨ i = wq ∨ N0 ≤ i) h h8' := c8.mono (by intro i _ hi; rcases hi with hi | hi; exact .inr (.inl hi); exact .inr (.inr hi))
        have a8f := c8.at (by omega) (by omega) hfb
        have a8b := c8.at g3 (by omega) g4
        have n8 := c8.1
        obtain ⟨w1, w2, v48, w3, w4, w5⟩ := W8
        simp [a8f, w3, g1, a8b, g6]
        refine append_own' (B := (N0 ≤ ·)) (new := (letters sv).map bc) (m := (letters sv).length) (by omega) w5 (newCells_text _ _) (by simp) (one_bc _) (by simp [putB_length]; rw [letters_length]; omega) (by simp [putB_length]; rw [letters_length]; omega) fun h9 v9 c9 o9 => ?_
        have a9w := c9.at w1 (by omega) w3
        have a9f := c9.at (by omega) (by omega) a8f
        have n9 := c9.1
        obtain ⟨v', hcut, s'⟩ := F2.cut (lo := some (.int .i64 1)) (hi := none) (loHi_lo (l := 1) (by simp)) (by simp) (Nat.le_refl _)
        have hc1 : cutS 1 vS (some (.int .i64 1)) none = some v' := hcut
        have c10 : ChgP (fun i => i = fb ∨ i = wq ∨ N0 ≤ i) h ((h9.set wq (.cells [v9, .int .i64 ((errN e sv.size 1 : Nat) : Int)] true)).set fb (.cells [vN, v', vL] true)) :=
          ((c8'.step (c9.mono fun i _ hi => .inr (.inr hi))).of_set (.inl (.inr (.inl rfl)))).of_set (.inl (.inl rfl))
        simp (disch := (try simp only [push_next, set_next, kill_next]); omega) [a9w, a9f, o9.cells1, o9.one, set_ne, hc1, s'.one, s'.cells1]
        refine nxt _ N S' L (errN e sv.size 1) (out ++ putB sv.size 1 ++ letters sv) vN v' vL lv c10 ⟨(F.chgP c10 (by omega)).1, ?_, (F.chgP c10 (by omega)).2.2.1, (F.chgP c10 (by omega)).2.2.2⟩ ⟨SF.1, fun x hx => SF.2.1 x (by simp [hx]), SF.2.2⟩ (set_at _ _ _) ⟨?_, w2, v9, ?_, o9.one, ?_⟩ (by simp [putB_length]; rw [letters_length]; omega) (by omega) c2 (by omega) T
        · have s2 := (s'.chgP c10 (by omega)).rows (row' := rowT S') (fun i hi => by simp [rowT, Nat.add_comm 1 i])
          simpa using s2
        · simp; omega
        · rw [set_ne (by omega)]; exact set_at _ _ _
        · have o10 := o9.chgP (D := fun i => i = fb ∨ i = wq) (((ChgP.refl _ h9).of_set (i := wq) (o := .cells [v9, .int .i64 ((errN e sv.size 1 : Nat) : Int)] true) (.inl (.inr rfl))).of_set (i := fb) (o := .cells [vN, v', vL] true) (.inl (.inl rfl))) (by intro i hi hi'; rcases hi with hi | hi <;> omega)
          simpa [Nat.add_assoc] using o10
    · have t1' : ¬ ((a : Int) = 115) := by omega
      simp only [t1, if_false] at c1 T
      by_cases t2 : a = 108
      · have t2i : (a : Int) = 108 := by omega
        simp only [t2, if_true] at c2 T
        cases L with
        | nil => simp at c2
        | cons l L' =>
          simp only [List.length_cons] at c2 c3
          simp only at T
          have hl := SF.2.2 l (by simp)
          obtain ⟨b, o, g1, g2, g3, cs, own, g4, g5⟩ := F3.idx (i := 0) (by omega) (by simp) .i64
          have g6 := takeN_get g5 (j := 0) (by omega)
          simp at g6
          have hlv := F4 0 l rfl
          simp [hlt, idxT_at ha, t1', t2i, ptr, hfb, g1, g4, g6]
          refine .inr (.inr (.inr (.inl ⟨rfl, (N0 ≤ ·), (· < V0), wq, out, e, lv 0, l, rfl, by omega, hl.1, hl.2, hlv, by omega, hBn, W, fun h8' c8 W8 => ?_⟩)))
          have c8' : ChgP (fun i => i = fb ∨ i = wq ∨ N0 ≤ i) h h8' := c8.mono (by intro i _ hi; rcases hi with hi | hi; exact .inr (.inl hi); exact .inr (.inr hi))
          have a8f := c8.at (by omega) (by omega) hfb
          have n8 := c8.1
          obtain ⟨v', hcut, s'⟩ := F3.cut (lo := some (.int .i64 1)) (hi := none) (loHi_lo (l := 1) (by simp)) (by simp) (Nat.le_refl _)
          have hc1 : cutS 1 vL (some (.int .i64 1)) none = some v' := hcut
          have c10 : ChgP (fun i => i = fb ∨ i = wq ∨ N0 ≤ i) h (h8'.set fb (.cells [vN, vS, v'] true)) := c8'.of_set (.inl (.inl rfl))
          simp (disch := (try simp only [push_next, set_next, kill_next]); omega) [a8f, set_ne, hc1, s'.one, s'.cells1]
          have F' := F.chgP c10 (by omega)
          have hal : (allOut l).length ≤ 10000 := by
            have : ∀ l : List Nat, (l.flatMap fun x => putB x 4).length = 4 * l.length := by
              intro l; induction l with
              | nil => rfl
              | cons x l ih => simp only [List.flatMap_cons, List.length_append, putB_length, ih, List.length_cons]; omega
            simp only [allOut, List.length_append, putB_length, this]
            omega
          refine nxt _ N S L' (errN e l.length 1) (out ++ allOut l) vN vS v' (fun i => lv (1 + i)) c10 ⟨F'.1, F'.2.1, ?_, fun i l' hi => F'.2.2.2 (1 + i) l' (by rw [Nat.add_comm]; simpa using hi)⟩ ⟨SF.1, SF.2.1, fun x hx => SF.2.2 x (by simp [hx])⟩ (set_at _ _ _) (W8.chgP (D := fun i => i = fb) ((ChgP.refl _ h8').of_set (.inl rfl)) (by omega) (by intro i hi hi'; omega)) (by simp; omega) c1 (by omega) (by omega) T
          have s2 := s'.chgP c10 (by omega)
          simpa using s2
      · have t2' : ¬ ((a : Int) = 108) := by omega
        simp only [t2, if_false] at c2 T
        cases N with
        | nil => 
          have := cnt_le 115 ((letters s).drop (i + 1))
          have k1 : ∀ cs : List Nat, cnt 115 cs + cnt 108 cs ≤ cs.length := by
            intro cs; induction cs with
            | nil => exact Nat.le_refl _
            | cons x cs ih => simp only [cnt, List.length_cons]; split <;> split <;> omega
          have := k1 ((letters s).drop (i + 1))
          simp at c3 this
          omega
        | cons x N' =>
          simp only [List.length_cons] at c3
          simp only at T
          have hx := SF.1 x (by simp)
          obtain ⟨b, o, g1, g2, g3, cs, own, g4, g5⟩ := F1.idx (i := 0) (by omega) (by simp) .i64
          have g6 := takeN_get g5 (j := 0) (by omega)
          simp [rowQ] at g6
          simp [hlt, idxT_at ha, t1', t2', ptr, hfb, g1, g4, g6]
          refine .inr (.inr (.inr (.inr (.inl ⟨rfl, a, rfl, ?_⟩))))
          simp [hfb, g4, g6]
          refine .inr (.inr (.inl ⟨rfl, (N0 ≤ ·), wq, out, e, x, wd a, rfl, wd_le a, hx, by omega, hBn, W, fun h8' c8 W8 => ?_⟩))
          have c8' : ChgP (fun i => i = fb ∨ i = wq ∨ N0 ≤ i) h h8' := c8.mono (by intro i _ hi; rcases hi with hi | hi; exact .inr (.inl hi); exact .inr (.inr hi))
          have a8f := c8.at (by omega) (by omega) hfb
          have n8 := c8.1
          obtain ⟨v', hcut, s'⟩ := F1.cut (lo := some (.int .i64 1)) (hi := none) (loHi_lo (l := 1) (by simp)) (by simp) (Nat.le_refl _)
          have hc1 : cutS 1 vN (some (.int .i64 1)) none = some v' := hcut
          have c10 : ChgP (fun i => i = fb ∨ i = wq ∨ N0 ≤ i) h (h8'.set fb (.cells [v', vS, vL] true)) := c8'.of_set (.inl (.inl rfl))
          simp (disch := (try simp only [push_next, set_next, kill_next]); omega) [a8f, set_ne, hc1, s'.one, s'.cells1]
          have F' := F.chgP c10 (by omega)
          have := wd_le a
          refine nxt _ N' S L (errN e x (wd a)) (out ++ putB x (wd a)) v' vS vL lv c10 ⟨?_, F'.2.1, F'.2.2.1, F'.2.2.2⟩ ⟨fun y hy => SF.1 y (by simp [hy]), SF.2.1, SF.2.2⟩ (set_at _ _ _) (W8.chgP (D := fun i => i = fb) ((ChgP.refl _ h8').of_set (.inl rfl)) (by omega) (by intro i hi hi'; omega)) (by simp [putB_length]; omega) c1 c2 (by omega) T
          have s2 := (s'.chgP c10 (by omega)).rows (row' := rowQ N') (fun i hi => by simp [rowQ, Nat.add_comm 1 i])
          simpa using s2

def writeS : Abs.Spec := fun args h k => ∃ (s : ByteArray) (vN vS vL : Value) (lv : Nat → Value) (N : List Nat) (S : List ByteArray) (L : List (List Nat)), args = [.string s, .agg #[vN, vS, vL]] ∧ s.size ≤ 1000 ∧ SmallF N S L ∧ FieldsAt (· < h.next) h vN vS vL lv N S L ∧
  ∀ h' v', Chg h h' [] → OwnS (h.next ≤ ·) h' v' 1 ((writeZ (letters s) N S L).2.map bc) (writeZ (letters s) N S L).2.length → k (.tuple #[v', .int .i64 (writeZ (letters s) N S L).1]) h'
theorem writeS_live : SpecLive writeS := by
  rintro args h k ⟨s, vN, vS, vL, lv, N, S, L, rfl, _, _, _, H⟩
  exact ⟨_, _, H (h.push (.cells ((writeZ (letters s) N S L).2.map bc) true)) (.slice (some ⟨h.next, 0, some 1⟩) _ 0) (Chg.push _ _) (.inr ⟨h.next, rfl, Nat.le_refl _, by simp, push_at _ _, by simp⟩)⟩
theorem writeS_ok : SpecOk Try.prog 15 writeS := by
  refine specOk_wf mixed Try.func15 (by kernel_rfl) (by kernel_rfl) (tab := tabW) (by simp [tabW, rightS_ok, fitsS_ok, numberS_ok, allS_ok, widthS_ok]) (by simp [tabW, rightS_live, fitsS_live, numberS_live, allS_live, widthS_live]) (keep := field_Write_keep) ?_
  rintro args h k wf ⟨s, vN, vS, vL, lv, N, S, L, rfl, hs, SF, F, H⟩
  refine ⟨9, ?_⟩
  show field_Write (tabC tabW) idG 9 (.string s) (.agg #[vN, vS, vL]) h _
  rw [field_Write_eq]
  have o1 := F.1.one; have o2 := F.2.1.one; have o3 := F.2.2.1.one
  simp [o1, o2, o3]
  refine .inl ⟨rfl, s, rfl, by omega, ?_⟩
  have c1 := Chg.push (h := h) (.cells [vN, vS, vL] true) []
  by_cases hr : 0 ≤ leastZ (letters s)
  · simp [hr, groupK_eq]
    refine .inr (.inl ⟨rfl, s, vN, vS, vL, N.length, S.length, L.length, rfl, hs, ⟨o1, o2, o3⟩, F.1.len, F.2.1.len, F.2.2.1.len, fun h2 c2 => ?_⟩)
    have c3 : Chg h h2 [] := c1.of_chg c2 (by simp)
    by_cases hf : fitsB (letters s) N.length S.length L.length = true
    · have h8 : (letters s).length ≤ 8 := by
        unfold leastZ at hr
        split at hr
        · omega
        · omega
      have hf' := hf
      rw [fitsB] at hf'
      simp only [Bool.and_eq_true, decide_eq_true_eq] at hf'
      obtain ⟨⟨f1, f2⟩, f3⟩ := hf'
      have a2 : h2.objs h.next = some (.cells [vN, vS, vL] true) := c2.at (by simp) (by simp) (push_at _ _)
      have n2 : h.next + 1 ≤ h2.next := by have := c2.1; simpa using this
      simp [hf, getT, ← letters_length]
      refine write_l0 (V0 := h.next) (N0 := h2.next + 1) (hb := h2.push (.cells [.slice none 0 0, .int .i64 0] true)) (target := wr (letters s) N S L (0, [])) (Nat.le_refl _) (by omega) (by omega) (by omega) (by omega) ?_ (letters s).length 0 9 (h2.push (.cells [.slice none 0 0, .int .i64 0] true)) N S L 0 [] vN vS vL lv (by omega) h8 (by omega) (by simp) (ChgP.refl _ _)
        (F.chgP (D := fun _ => False) ((c3.of_push).toP (by simp)) (by simp)) SF (by rw [push_ne (by omega)]; exact a2) ⟨by simp, by omega, _, push_at _ _, rfl, .inl ⟨rfl, rfl, rfl⟩⟩ (by simp; omega) (by simpa using f1.symm) (by simpa using f2.symm) (by omega) (by simp)
      intro h3 n3 c4 W
      obtain ⟨w1, w2, v, w3, w4, w5⟩ := W
      have c5 : Chg h h3 [] := ((ChgP.trans (E := fun i => h.next ≤ i) ((c3.of_push (o := .cells [.slice none 0 0, .int .i64 0] true)).toP (D := fun _ => False) (by simp)) c4 (by simp) (by intro i hi hh; omega))).list (by intro i hi hh; omega)
      rw [field_Write_j2_eq]
      have hz : writeZ (letters s) N S L = if (wr (letters s) N S L (0, [])).1 ≠ 0 then ((wr (letters s) N S L (0, [])).1, []) else wr (letters s) N S L (0, []) := by
        unfold writeZ
        rw [if_pos (by simp [hr, hf])]
      by_cases he : (wr (letters s) N S L (0, [])).1 = 0
      · rw [hz, if_neg (by simp [he])] at H
        simp [ptr, w3, he]
        rw [he] at H
        refine ⟨_, St.le.refl _, H h3 v c5 (w5.imp (by intro i _ hi; omega))⟩
      · rw [hz, if_pos he] at H
        simp [ptr, w3, he]
        exact ⟨_, St.le.refl _, H h3 _ c5 (.inl ⟨rfl, rfl, rfl⟩)⟩
    · have hz : writeZ (letters s) N S L = (1, []) := by
        unfold writeZ
        rw [if_neg (by simp [hf])]
      rw [hz] at H
      have hf' : fitsB (letters s) N.length S.length L.length = false := by simpa using hf
      simp [hf', getT]
      exact ⟨_, St.le.refl _, H h2 _ c3 (.inl ⟨rfl, rfl, rfl⟩)⟩
  · have hz : writeZ (letters s) N S L = (1, []) := by
      unfold writeZ
      rw [if_neg (by simp [hr])]
    rw [hz] at H
    simp [hr, groupK_eq, getT]
    exact ⟨_, St.le.refl _, H _ _ c1 (.inl ⟨rfl, rfl, rfl⟩)⟩
end Go.Proofs.Ytiaijbkmgajieaa
