/- 'FieldBack', walked. -/
import Derived.Test.YtiaijbkmgajieaaR
set_option linter.unusedSimpArgs false
set_option linter.unusedVariables false
set_option maxHeartbeats 4000000
namespace Go.Proofs.Ytiaijbkmgajieaa
open Go.Abs Go.IntWalk

def smallB (N : List Nat) (S : List ByteArray) (L : List (List Nat)) : Bool := S.all (fun s => decide (s.size ≤ 300)) && (L.all (fun l => decide (l.length ≤ 300)) && (decide (N.length ≤ 12) && decide (S.length ≤ 12) && decide (L.length ≤ 12)))
theorem inc' {i : Nat} (h : i ≤ 9223372036854775806) : IntKind.i64.wrap ((i : Int) + 1) = ((i + 1 : Nat) : Int) := by rw [i64_in _ (by omega)]; omega
section small
variable {V : Nat → Prop} {h : St} {pa nn : Nat} {vN vS vL x2 : Value} {lv : Nat → Value} {N : List Nat} {S : List ByteArray} {L : List (List Nat)} {K : Cont}
theorem small_j3 (hA : h.objs pa = some (.cells [vN, vS, vL] true)) (F : FieldsAt V h vN vS vL lv N S L) {x3 x4 : Value} (H : K (.bool (decide (N.length ≤ 12) && decide (S.length ≤ 12) && decide (L.length ≤ 12))) h) : tiltyardref01_Small_j3 (tabC []) idG nn (ptr pa) x2 x3 x4 h K := by
  rw [tiltyardref01_Small_j3_eq]
  have e : ∀ n : Nat, ((n : Int) ≤ 12) = (n ≤ 12) := by intro n; simp; omega
  by_cases h1 : N.length ≤ 12
  · by_cases h2 : S.length ≤ 12
    · simp only [ptr, offV_ptr, loadV_ptr, hA, loadM_cells, partV_one, Nat.zero_add, List.getElem?_cons_succ, List.getElem?_cons_zero, bindV_some, F.1.len, F.2.1.len, F.2.2.1.len, binNil_int, binV_leq, e, h1, h2, decide_true, groupK_eq, guardK_bool, if_true, getT, pickV_bool, idG_eq]
      simpa [h1, h2] using H
    · simp only [ptr, offV_ptr, loadV_ptr, hA, loadM_cells, partV_one, Nat.zero_add, List.getElem?_cons_succ, List.getElem?_cons_zero, bindV_some, F.1.len, F.2.1.len, F.2.2.1.len, binNil_int, binV_leq, e, h1, h2, decide_true, decide_false, groupK_eq, guardK_bool, if_true, getT, pickV_bool, idG_eq]
      simpa [h1, h2] using H
  · simp only [ptr, offV_ptr, loadV_ptr, hA, loadM_cells, partV_one, Nat.zero_add, List.getElem?_cons_succ, List.getElem?_cons_zero, bindV_some, F.1.len, F.2.1.len, F.2.2.1.len, binNil_int, binV_leq, e, h1, decide_false, groupK_eq, guardK_bool, getT, pickV_bool, idG_eq]
    simpa [h1] using H
theorem small_l2 (hA : h.objs pa = some (.cells [vN, vS, vL] true)) (F : FieldsAt V h vN vS vL lv N S L) (hL : L.length ≤ 9223372036854775807) {x3 : Value} :
    ∀ (d i m0 : Nat), i + d = L.length → d < m0 → K (.bool ((L.drop i).all (fun l => decide (l.length ≤ 300)) && (decide (N.length ≤ 12) && decide (S.length ≤ 12) && decide (L.length ≤ 12)))) h → tiltyardref01_Small_l2 (tabC []) idG nn m0 (ptr pa) x2 x3 (.int .i64 i) h K := by
  intro d
  induction d with
  | zero =>
    intro i m0 hi hm H
    obtain ⟨m0, rfl⟩ : ∃ m, m0 = m + 1 := ⟨m0 - 1, by omega⟩
    rw [tiltyardref01_Small_l2_eq]
    have e : i = L.length := by omega
    subst e
    rw [List.drop_length] at H
    have := small_j3 (nn := nn) (x2 := x2) (x3 := x3) (x4 := .int .i64 L.length) hA F (K := K) (by simpa using H)
    simp only [ptr] at *
    simp only [offV_ptr, loadV_ptr, hA, loadM_cells, partV_one, Nat.zero_add, List.getElem?_cons_succ, List.getElem?_cons_zero, bindV_some, F.2.2.1.len, binV_lss, condK_bool, Int.lt_irrefl, decide_false, Bool.false_eq_true, if_false, idG_eq]
    exact this
  | succ d ih =>
    intro i m0 hi hm H
    obtain ⟨m0, rfl⟩ : ∃ m, m0 = m + 1 := ⟨m0 - 1, by omega⟩
    rw [tiltyardref01_Small_l2_eq]
    have hlt : (i : Int) < L.length := by omega
    have hiL : i < L.length := by omega
    have hd : L.drop i = L[i] :: L.drop (i + 1) := List.drop_eq_getElem_cons hiL
    rw [hd, List.all_cons] at H
    obtain ⟨b, o, g1, g2, g3, cs, own, g4, g5⟩ := F.2.2.1.idx (Int.natCast_nonneg i) hlt .i64
    have g6 := takeN_get g5 (j := 0) (by omega)
    simp at g6
    have sl := F.2.2.2 i _ (List.getElem?_eq_getElem hiL)
    by_cases h3 : L[i].length ≤ 300
    · have h3' : ¬ (300 : Int) < L[i].length := by omega
      have ihh := ih (i + 1) m0 (by omega) (by omega) (by simpa [h3] using H)
      simp only [ptr] at *
      simp only [offV_ptr, loadV_ptr, hA, loadM_cells, partV_one, Nat.zero_add, List.getElem?_cons_succ, List.getElem?_cons_zero, bindV_some, F.2.2.1.len, binV_lss, condK_bool, hlt, decide_true, if_true, idG_eq, g1, g4, g6, sl.len, binNil_int, binV_gtr, gt_iff_lt, h3', decide_false, Bool.false_eq_true, if_false, binV_add, inc' (show i ≤ 9223372036854775806 by omega)]
      exact ihh
    · have h3' : (300 : Int) < L[i].length := by omega
      simp only [ptr] at *
      simp only [offV_ptr, loadV_ptr, hA, loadM_cells, partV_one, Nat.zero_add, List.getElem?_cons_succ, List.getElem?_cons_zero, bindV_some, F.2.2.1.len, binV_lss, condK_bool, hlt, decide_true, if_true, idG_eq, g1, g4, g6, sl.len, binNil_int, binV_gtr, gt_iff_lt, h3']
      simpa [h3] using H
theorem small_l0 (hA : h.objs pa = some (.cells [vN, vS, vL] true)) (F : FieldsAt V h vN vS vL lv N S L) (hS : S.length ≤ 9223372036854775807) (hL : L.length ≤ 9223372036854775807) (hn : L.length < nn) {x4 : Value} :
    ∀ (d i m0 : Nat), i + d = S.length → d < m0 → K (.bool ((S.drop i).all (fun s => decide (s.size ≤ 300)) && (L.all (fun l => decide (l.length ≤ 300)) && (decide (N.length ≤ 12) && decide (S.length ≤ 12) && decide (L.length ≤ 12))))) h → tiltyardref01_Small_l0 (tabC []) idG nn m0 (ptr pa) x2 (.int .i64 i) x4 h K := by
  intro d
  induction d with
  | zero =>
    intro i m0 hi hm H
    obtain ⟨m0, rfl⟩ : ∃ m, m0 = m + 1 := ⟨m0 - 1, by omega⟩
    rw [tiltyardref01_Small_l0_eq]
    have e : i = S.length := by omega
    subst e
    rw [List.drop_length] at H
    have := small_l2 (nn := nn) (x2 := x2) (x3 := .int .i64 S.length) hA F hL (K := K) L.length 0 nn (by omega) hn (by simpa using H)
    simp only [ptr] at *
    simp only [offV_ptr, loadV_ptr, hA, loadM_cells, partV_one, Nat.zero_add, List.getElem?_cons_succ, List.getElem?_cons_zero, bindV_some, F.2.1.len, binV_lss, condK_bool, Int.lt_irrefl, decide_false, Bool.false_eq_true, if_false, idG_eq]
    rw [tiltyardref01_Small_j1_eq]
    simp only [idG_eq]
    exact this
  | succ d ih =>
    intro i m0 hi hm H
    obtain ⟨m0, rfl⟩ : ∃ m, m0 = m + 1 := ⟨m0 - 1, by omega⟩
    rw [tiltyardref01_Small_l0_eq]
    have hlt : (i : Int) < S.length := by omega
    have hiL : i < S.length := by omega
    have hd : S.drop i = S[i] :: S.drop (i + 1) := List.drop_eq_getElem_cons hiL
    rw [hd, List.all_cons] at H
    obtain ⟨b, o, g1, g2, g3, cs, own, g4, g5⟩ := F.2.1.idx (Int.natCast_nonneg i) hlt .i64
    have g6 := takeN_get g5 (j := 0) (by omega)
    have hg : S[i]?.getD .empty = S[i] := by rw [List.getElem?_eq_getElem hiL]; rfl
    simp only [rowT, Int.toNat_natCast, hg, Nat.add_zero, List.getElem?_cons_zero] at g6
    by_cases h3 : S[i].size ≤ 300
    · have h3' : ¬ (300 : Int) < S[i].size := by omega
      have ihh := ih (i + 1) m0 (by omega) (by omega) (by simpa [h3] using H)
      simp only [ptr] at *
      simp only [offV_ptr, loadV_ptr, hA, loadM_cells, partV_one, Nat.zero_add, List.getElem?_cons_succ, List.getElem?_cons_zero, bindV_some, F.2.1.len, binV_lss, condK_bool, hlt, decide_true, if_true, idG_eq, g1, g4, g6, lenT_string, binNil_int, binV_gtr, gt_iff_lt, h3', decide_false, Bool.false_eq_true, if_false, binV_add, inc' (show i ≤ 9223372036854775806 by omega)]
      exact ihh
    · have h3' : (300 : Int) < S[i].size := by omega
      simp only [ptr] at *
      simp only [offV_ptr, loadV_ptr, hA, loadM_cells, partV_one, Nat.zero_add, List.getElem?_cons_succ, List.getElem?_cons_zero, bindV_some, F.2.1.len, binV_lss, condK_bool, hlt, decide_true, if_true, idG_eq, g1, g4, g6, lenT_string, binNil_int, binV_gtr, gt_iff_lt, h3']
      simpa [h3] using H
end small
def smallS : Abs.Spec := fun args h k => ∃ (V : Nat → Prop) (vN vS vL : Value) (lv : Nat → Value) (N : List Nat) (S : List ByteArray) (L : List (List Nat)), args = [.agg #[vN, vS, vL]] ∧ FieldsAt V h vN vS vL lv N S L ∧ S.length ≤ 9223372036854775807 ∧ L.length ≤ 9223372036854775807 ∧ ∀ h', Chg h h' [] → k (.bool (smallB N S L)) h'
theorem smallS_good : SpecGood Try.prog (14, smallS) := by
  refine spec_good mixed Try.func14 (by kernel_rfl) (by kernel_rfl) (tab := []) (by simp) (keep := tiltyardref01_Small_keep) ?_
  rintro args h k ⟨V, vN, vS, vL, lv, N, S, L, rfl, F, hS, hL, H⟩
  refine ⟨S.length + L.length + 2, ?_⟩
  show tiltyardref01_Small (tabC []) idG (S.length + L.length + 2) (.agg #[vN, vS, vL]) h _
  rw [tiltyardref01_Small_eq]
  have o1 := F.1.one; have o2 := F.2.1.one; have o3 := F.2.2.1.one
  simp only [boxE_eq, cells_agg, idG_eq]
  refine ⟨by simp [o1, o2, o3], ?_⟩
  have c := Chg.push (h := h) (.cells #[vN, vS, vL].toList true) []
  exact small_l0 (push_at _ _) (F.chgP (D := fun _ => False) (c.toP (by simp)) (fun _ h => h.elim)) hS hL (by omega) S.length 0 _ (by omega) (by omega) ⟨_, St.le.refl _, by simpa [smallB] using H _ c⟩

/-! ### what is written is read -/
theorem err_zero {e n w : Nat} (h : errN e n w = 0) : e = 0 ∧ (w < 8 → n / 256 ^ w = 0) := by
  unfold errN at h
  split at h
  · cases h
  · rename_i hc
    refine ⟨h, fun hw => ?_⟩
    cases hd : n / 256 ^ w with
    | zero => rfl
    | succ k => exact absurd ⟨hw, by rw [hd]; omega, h⟩ hc
theorem text_letters (s : ByteArray) : bytesText (letters s) = s := by
  obtain ⟨⟨l⟩⟩ := s
  simp [bytesText, letters, Function.comp_def]
theorem list_back : ∀ (l : List Nat) (r acc : List Nat), (∀ x ∈ l, x < 4294967296) → listZ l.length ((l.flatMap fun x => putB x 4) ++ r) false acc = (r, false, acc ++ l, true)
  | [], r, acc, _ => by simp [listZ]
  | x :: l, r, acc, h => by
    have hx := h x (by simp)
    have e : numB (putB x 4) = x := by
      rw [numB_putB]
      exact Nat.mod_eq_of_lt (by have p4 : 256 ^ 4 = 4294967296 := by decide
                                 rw [p4]; exact hx)
    obtain ⟨q1, q2, q3⟩ := short_out (pre := putB x 4) (r := (l.flatMap fun x => putB x 4) ++ r) (putB_length x 4)
    simp only [List.length_cons, List.flatMap_cons, List.append_assoc, listZ, Bool.false_eq_true, if_false, q1, q2, q3, e]
    rw [list_back l r _ fun x hx => h x (by simp [hx])]
    simp
def sumN : List Nat → Nat
  | [] => 0
  | c :: cs => wd c + sumN cs
theorem sumW_le : ∀ (cs : List Nat) (a : Nat), sumW cs a ≤ a + sumN cs
  | [], a => by simp [sumW, sumN]
  | c :: cs, a => by
    simp only [sumW, sumN]
    split
    · omega
    · have := sumW_le cs (a + wd c)
      simp at this ⊢
      omega
theorem wr_back : ∀ (cs N : List Nat) (S : List ByteArray) (L : List (List Nat)) (e : Nat) (out0 : List Nat), SmallF N S L → cnt 115 cs = S.length → cnt 108 cs = L.length → N.length + S.length + L.length = cs.length → (wr cs N S L (e, out0)).1 = 0 →
    e = 0 ∧ ∃ pre, (wr cs N S L (e, out0)).2 = out0 ++ pre ∧ sumN cs ≤ pre.length ∧ (∀ x ∈ pre, x < 256) ∧ pre.length ≤ 5000 * cs.length ∧ ∀ r N0 S0 L0, gatherZ cs ⟨pre ++ r, false, N0, S0, L0⟩ = ⟨r, false, N0 ++ N, S0 ++ S, L0 ++ L⟩
  | [], N, S, L, e, out0, SF, c1, c2, c3, h => by
    simp only [wr] at h
    have hN : N = [] := by cases N with | nil => rfl | cons x N => simp at c3
    have hS : S = [] := by cases S with | nil => rfl | cons x S => simp [cnt] at c1
    have hL : L = [] := by cases L with | nil => rfl | cons x L => simp [cnt] at c2
    subst hN; subst hS; subst hL
    exact ⟨h, [], by simp [wr], by simp [sumN], by simp, by simp, fun r N0 S0 L0 => by simp [gatherZ]⟩
  | c :: cs, N, S, L, e, out0, SF, c1, c2, c3, h => by
    have k1 : ∀ cs : List Nat, cnt 115 cs + cnt 108 cs ≤ cs.length := by
      intro cs; induction cs with
      | nil => exact Nat.le_refl _
      | cons x cs ih => simp only [cnt, List.length_cons]; split <;> split <;> omega
    simp only [List.length_cons] at c3
    by_cases t1 : c = 115
    · have t2 : ¬ c = 108 := by omega
      simp only [cnt, t1, if_true] at c1
      simp only [cnt, t2, if_false] at c2
      cases S with
      | nil => simp at c1
      | cons s S =>
        simp only [List.length_cons] at c1 c3
        simp only [wr, t1, if_true] at h ⊢
        obtain ⟨e1, pre, e2, e3, e4, e5, e6⟩ := wr_back cs N S L _ _ ⟨SF.1, fun x hx => SF.2.1 x (by simp [hx]), SF.2.2⟩ (by omega) c2 (by omega) h
        obtain ⟨e7, e8⟩ := err_zero e1
        have hs := SF.2.1 s (by simp)
        have hsz : s.size < 256 := by
          have := e8 (by omega)
          simp only [Nat.pow_one] at this
          exact (Nat.div_eq_zero_iff.1 this).resolve_left (by omega)
        have lx : ∀ x ∈ letters s, x < 256 := by
          intro x hx
          obtain ⟨i, hi⟩ := List.getElem?_of_mem hx
          exact letters_lt hi
        refine ⟨e7, putB s.size 1 ++ letters s ++ pre, ?_, ?_, ?_, ?_, ?_⟩
        · rw [e2]; simp
        · have hw : wd 115 = 1 := rfl
          simp only [sumN, t1, hw, List.length_append, putB_length]; omega
        · intro x hx
          rcases List.mem_append.1 hx with hx | hx
          · rcases List.mem_append.1 hx with hx | hx
            · exact putB_lt _ _ x hx
            · exact lx x hx
          · exact e4 x hx
        · simp only [List.length_append, putB_length, List.length_cons, letters_length]; omega
        · intro r N0 S0 L0
          have hn : numB (putB s.size 1) = s.size := by rw [numB_putB]; exact Nat.mod_eq_of_lt (by simpa using hsz)
          obtain ⟨q1, q2, q3⟩ := short_out (pre := putB s.size 1) (r := letters s ++ (pre ++ r)) (putB_length _ _)
          obtain ⟨q4, q5, q6⟩ := short_out (pre := letters s) (r := pre ++ r) (letters_length s)
          have hw : wd 115 = 1 := rfl
          have ef : fieldZ 115 ⟨putB s.size 1 ++ (letters s ++ (pre ++ r)), false, N0, S0, L0⟩ = ⟨pre ++ r, false, N0, S0 ++ [s], L0⟩ := by
            unfold fieldZ
            rw [if_pos rfl]
            simp only [hw, q1, q2, q3, hn, q4, q5, q6, text_letters]
          have : gatherZ (c :: cs) ⟨putB s.size 1 ++ letters s ++ pre ++ r, false, N0, S0, L0⟩ = gatherZ cs (fieldZ c ⟨putB s.size 1 ++ (letters s ++ (pre ++ r)), false, N0, S0, L0⟩) := by simp [gatherZ]
          rw [t1] at this
          rw [this, ef, e6]
          simp
    · by_cases t2 : c = 108
      · simp only [cnt, t1, if_false] at c1
        simp only [cnt, t2, if_true] at c2
        cases L with
        | nil => simp at c2
        | cons l L =>
          simp only [List.length_cons] at c2 c3
          simp only [wr, t1, t2, if_true, if_false] at h ⊢
          rw [if_neg (by decide)] at h ⊢
          obtain ⟨e1, pre, e2, e3, e4, e5, e6⟩ := wr_back cs N S L _ _ ⟨SF.1, SF.2.1, fun x hx => SF.2.2 x (by simp [hx])⟩ c1 (by omega) (by omega) h
          obtain ⟨e7, e8⟩ := err_zero e1
          have hl := SF.2.2 l (by simp)
          have hsz : l.length < 256 := by
            have := e8 (by omega)
            simp only [Nat.pow_one] at this
            exact (Nat.div_eq_zero_iff.1 this).resolve_left (by omega)
          have hal : ∀ l : List Nat, (l.flatMap fun x => putB x 4).length = 4 * l.length := by
            intro l; induction l with
            | nil => rfl
            | cons x l ih => simp only [List.flatMap_cons, List.length_append, putB_length, ih, List.length_cons]; omega
          refine ⟨e7, allOut l ++ pre, ?_, ?_, ?_, ?_, ?_⟩
          · rw [e2]; simp
          · have hw : wd 108 = 1 := rfl
            simp only [sumN, t2, hw, List.length_append, allOut, putB_length]; omega
          · intro x hx
            rcases List.mem_append.1 hx with hx | hx
            · rcases List.mem_append.1 hx with hx | hx
              · exact putB_lt _ _ x hx
              · obtain ⟨y, _, hy⟩ := List.mem_flatMap.1 hx
                exact putB_lt _ _ x hy
            · exact e4 x hx
          · have := hal l
            simp only [List.length_append, allOut, putB_length, List.length_cons, this]; omega
          · intro r N0 S0 L0
            have hn : numB (putB l.length 1) = l.length := by rw [numB_putB]; exact Nat.mod_eq_of_lt (by simpa using hsz)
            obtain ⟨q1, q2, q3⟩ := short_out (pre := putB l.length 1) (r := (l.flatMap fun x => putB x 4) ++ (pre ++ r)) (putB_length _ _)
            have hw : wd 108 = 1 := rfl
            have ef : fieldZ 108 ⟨putB l.length 1 ++ ((l.flatMap fun x => putB x 4) ++ (pre ++ r)), false, N0, S0, L0⟩ = ⟨pre ++ r, false, N0, S0, L0 ++ [l]⟩ := by
              unfold fieldZ
              rw [if_neg (by decide), if_pos rfl]
              simp only [hw, q1, q2, q3, hn]
              rw [list_back l (pre ++ r) [] hl.2]
              simp
            have : gatherZ (c :: cs) ⟨allOut l ++ pre ++ r, false, N0, S0, L0⟩ = gatherZ cs (fieldZ c ⟨putB l.length 1 ++ ((l.flatMap fun x => putB x 4) ++ (pre ++ r)), false, N0, S0, L0⟩) := by simp [gatherZ, allOut]
            rw [t2] at this
            rw [this, ef, e6]
            simp
      · simp only [cnt, t1, if_false] at c1
        simp only [cnt, t2, if_false] at c2
        cases N with
        | nil =>
          have := k1 cs
          simp at c3
          omega
        | cons x N =>
          simp only [List.length_cons] at c3
          simp only [wr, t1, t2, if_false] at h ⊢
          obtain ⟨e1, pre, e2, e3, e4, e5, e6⟩ := wr_back cs N S L _ _ ⟨fun y hy => SF.1 y (by simp [hy]), SF.2.1, SF.2.2⟩ c1 c2 (by omega) h
          obtain ⟨e7, e8⟩ := err_zero e1
          have hx := SF.1 x (by simp)
          have hw8 := wd_le c
          have hlt : x < 256 ^ wd c := by
            by_cases h8 : wd c < 8
            · exact (Nat.div_eq_zero_iff.1 (e8 h8)).resolve_left (by have := Nat.pos_of_ne_zero (n := 256 ^ wd c) (by simp); omega)
            · have : wd c = 8 := by omega
              rw [this]
              have p8 : 256 ^ 8 = 18446744073709551616 := by decide
              rw [p8]; exact hx
          refine ⟨e7, putB x (wd c) ++ pre, ?_, ?_, ?_, ?_, ?_⟩
          · rw [e2]; simp
          · simp only [sumN, List.length_append, putB_length]; omega
          · intro y hy
            rcases List.mem_append.1 hy with hy | hy
            · exact putB_lt _ _ y hy
            · exact e4 y hy
          · simp only [List.length_append, putB_length, List.length_cons]; omega
          · intro r N0 S0 L0
            have hn : numB (putB x (wd c)) = x := by rw [numB_putB]; exact Nat.mod_eq_of_lt hlt
            obtain ⟨q1, q2, q3⟩ := short_out (pre := putB x (wd c)) (r := pre ++ r) (putB_length _ _)
            have ef : fieldZ c ⟨putB x (wd c) ++ (pre ++ r), false, N0, S0, L0⟩ = ⟨pre ++ r, false, N0 ++ [x], S0, L0⟩ := by
              unfold fieldZ
              rw [if_neg t1, if_neg t2]
              simp only [q1, q2, q3, hn]
            have : gatherZ (c :: cs) ⟨putB x (wd c) ++ pre ++ r, false, N0, S0, L0⟩ = gatherZ cs (fieldZ c ⟨putB x (wd c) ++ (pre ++ r), false, N0, S0, L0⟩) := by simp [gatherZ]
            rw [this, ef, e6]
            simp
theorem err_two {e n w : Nat} (h : e ≤ 2) : errN e n w ≤ 2 := by unfold errN; split <;> omega
theorem wr_two : ∀ (cs N : List Nat) (S : List ByteArray) (L : List (List Nat)) (st : Nat × List Nat), st.1 ≤ 2 → (wr cs N S L st).1 ≤ 2 ∧ ((wr cs N S L st).1 = 1 → st.1 = 1)
  | [], N, S, L, st, h => ⟨h, fun h => h⟩
  | c :: cs, N, S, L, st, h => by
    have one : ∀ n w, errN st.1 n w = 1 → st.1 = 1 := by intro n w he; unfold errN at he; split at he; cases he; exact he
    simp only [wr]
    split
    · split
      · obtain ⟨a, b⟩ := wr_two cs N _ L _ (show (errN st.1 _ 1, _).1 ≤ 2 from err_two h)
        exact ⟨a, fun h => one _ _ (b h)⟩
      · exact ⟨h, fun h => h⟩
    · split
      · split
        · obtain ⟨a, b⟩ := wr_two cs N S _ _ (show (errN st.1 _ 1, _).1 ≤ 2 from err_two h)
          exact ⟨a, fun h => one _ _ (b h)⟩
        · exact ⟨h, fun h => h⟩
      · split
        · obtain ⟨a, b⟩ := wr_two cs _ S L _ (show (errN st.1 _ (wd c), _).1 ≤ 2 from err_two h)
          exact ⟨a, fun h => one _ _ (b h)⟩
        · exact ⟨h, fun h => h⟩
theorem write_back {cs N : List Nat} {S : List ByteArray} {L : List (List Nat)} (SF : SmallF N S L) (h : (writeZ cs N S L).1 = 0) : readZ cs (writeZ cs N S L).2 = (0, ⟨[], false, N, S, L⟩) ∧ leastZ cs ≤ (writeZ cs N S L).2.length ∧ (∀ x ∈ (writeZ cs N S L).2, x < 256) ∧ (writeZ cs N S L).2.length ≤ 40000 := by
  unfold writeZ at h ⊢
  split at h
  · rename_i hf
    rw [if_pos hf]
    split at h
    · rename_i he; exact absurd h he
    · rename_i he
      rw [if_neg he]
      simp only [Bool.and_eq_true, decide_eq_true_eq, fitsB] at hf
      obtain ⟨hl, ⟨f1, f2⟩, f3⟩ := hf
      obtain ⟨_, pre, e2, e3, e4, e5, e6⟩ := wr_back cs N S L 0 [] SF f1.symm f2.symm (by omega) h
      have h8 := least_len hl
      simp only [List.nil_append] at e2
      rw [e2]
      refine ⟨?_, ?_, e4, by omega⟩
      · rw [read_fin _ _ hl]
        have := e6 [] [] [] []
        simp only [List.append_nil, List.nil_append] at this
        rw [this]
        rfl
      · unfold leastZ
        rw [if_neg (by omega)]
        have := sumW_le cs 0
        simp at this
        omega
  · cases h
theorem write_err {cs N : List Nat} {S : List ByteArray} {L : List (List Nat)} (h : (writeZ cs N S L).1 ≠ 0) : (writeZ cs N S L).2 = [] ∧ ((writeZ cs N S L).1 = 1 ∨ (writeZ cs N S L).1 = 2) := by
  unfold writeZ at h ⊢
  split
  · rename_i hf
    rw [if_pos hf] at h
    split
    · rename_i he
      have := wr_two cs N S L (0, []) (by simp)
      refine ⟨rfl, ?_⟩
      simp only
      omega
    · rename_i he
      rw [if_neg he] at h
      exact absurd h (by simpa using he)
  · exact ⟨rfl, .inl rfl⟩
end Go.Proofs.Ytiaijbkmgajieaa
