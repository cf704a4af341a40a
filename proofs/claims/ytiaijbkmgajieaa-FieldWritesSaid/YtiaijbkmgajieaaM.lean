/- 'FieldOnly' and 'FieldCut'. -/
import Derived.Test.YtiaijbkmgajieaaL
set_option linter.unusedSimpArgs false
set_option linter.unusedVariables false
set_option maxHeartbeats 4000000
namespace Go.Proofs.Ytiaijbkmgajieaa
open Go.Abs Go.IntWalk

structure Items (cs : List Nat) (st : RSt) (pre : List Nat) (n : List Nat) (s : List ByteArray) (l : List (List Nat)) : Prop where
  all : ∀ r' N S L, gatherZ cs ⟨pre ++ r', false, N, S, L⟩ = ⟨r', false, N ++ n, S ++ s, L ++ l⟩
  cut : ∀ j N S L, j < pre.length → (gatherZ cs ⟨pre.take j, false, N, S, L⟩).sh = true
  small : SmallF n s l
  cS : cnt 115 cs = s.length
  cL : cnt 108 cs = l.length
  len : n.length + s.length + l.length = cs.length
  wr1 : ∀ out, wr cs n s l (0, out) = (0, out ++ pre)
theorem cnt_cons (a c : Nat) (cs : List Nat) : cnt a (c :: cs) = cnt a [c] + cnt a cs := by simp only [cnt]; split <;> omega
theorem items_law : ∀ (cs : List Nat) (st : RSt), (∀ x ∈ st.b, x < 256) → (gatherZ cs st).sh = false → st.sh = false ∧ ∃ pre n s l, st.b = pre ++ (gatherZ cs st).b ∧ gatherZ cs st = ⟨(gatherZ cs st).b, false, st.N ++ n, st.S ++ s, st.L ++ l⟩ ∧ Items cs st pre n s l
  | [], st, hx, h => by
    refine ⟨h, [], [], [], [], rfl, ?_, ⟨fun r' N S L => by simp [gatherZ], fun j N S L hj => by simp at hj, ⟨by simp, by simp, by simp⟩, rfl, rfl, rfl, fun out => by simp [wr]⟩⟩
    obtain ⟨b, sh, N, S, L⟩ := st
    simp only [gatherZ, List.foldl_nil] at h ⊢
    subst h
    simp
  | c :: cs, st, hx, h => by
    have hx1 : ∀ x ∈ (fieldZ c st).b, x < 256 := fun x hm => hx x ((fieldZ_b c st).2.1 x hm)
    have h' : (gatherZ cs (fieldZ c st)).sh = false := h
    obtain ⟨s1, p2, n2, t2, l2, e1, e2, I2⟩ := items_law cs (fieldZ c st) hx1 h'
    obtain ⟨s2, p1, n1, t1, l1, e3, e4, I1⟩ := item_law hx s1
    have eg : gatherZ (c :: cs) st = gatherZ cs (fieldZ c st) := rfl
    have pN : (fieldZ c st).N = st.N ++ n1 := by rw [e4]
    have pS : (fieldZ c st).S = st.S ++ t1 := by rw [e4]
    have pL : (fieldZ c st).L = st.L ++ l1 := by rw [e4]
    refine ⟨s2, p1 ++ p2, n1 ++ n2, t1 ++ t2, l1 ++ l2, ?_, ?_, ⟨fun r' N S L => ?_, fun j N S L hj => ?_, ?_, ?_, ?_, ?_, fun out => ?_⟩⟩
    · rw [eg, List.append_assoc, ← e1]; exact e3
    · rw [eg]
      rw [pN, pS, pL] at e2
      rw [e2]
      simp
    · show gatherZ cs (fieldZ c ⟨p1 ++ p2 ++ r', false, N, S, L⟩) = _
      rw [List.append_assoc, I1.all, I2.all]
      simp
    · show (gatherZ cs (fieldZ c ⟨(p1 ++ p2).take j, false, N, S, L⟩)).sh = true
      by_cases h1 : j < p1.length
      · have et : (p1 ++ p2).take j = p1.take j := by rw [List.take_append_of_le_length (by omega)]
        rw [et]
        have := I1.cut j N S L h1
        cases hg : (gatherZ cs (fieldZ c ⟨p1.take j, false, N, S, L⟩)).sh with
        | true => rfl
        | false =>
          have hb : ∀ x ∈ (fieldZ c ⟨p1.take j, false, N, S, L⟩).b, x < 256 := fun x hm => by
            have := (fieldZ_b c ⟨p1.take j, false, N, S, L⟩).2.1 x hm
            exact hx x (by rw [e3]; exact List.mem_append_left _ (List.mem_of_mem_take this))
          have := (items_law cs _ hb hg).1
          rw [I1.cut j N S L h1] at this
          cases this
      · have et : (p1 ++ p2).take j = p1 ++ p2.take (j - p1.length) := by rw [List.take_append, List.take_of_length_le (by omega)]
        rw [et, I1.all]
        exact I2.cut _ _ _ _ (by rw [List.length_append] at hj; omega)
    · refine ⟨fun x hm => ?_, fun x hm => ?_, fun x hm => ?_⟩
      · rcases List.mem_append.1 hm with hm | hm
        · exact I1.small.1 x hm
        · exact I2.small.1 x hm
      · rcases List.mem_append.1 hm with hm | hm
        · exact I1.small.2.1 x hm
        · exact I2.small.2.1 x hm
      · rcases List.mem_append.1 hm with hm | hm
        · exact I1.small.2.2 x hm
        · exact I2.small.2.2 x hm
    · rw [cnt_cons, I1.cs, I2.cS, List.length_append]
    · rw [cnt_cons, I1.cl, I2.cL, List.length_append]
    · have := I1.len; have := I2.len
      simp only [List.length_append, List.length_cons]; omega
    · rw [I1.wr1, I2.wr1, List.append_assoc]
theorem read_zero {cs b : List Nat} (hx : ∀ x ∈ b, x < 256) (h : (readZ cs b).1 = 0) : 0 ≤ leastZ cs ∧ ∃ n s l, readZ cs b = (0, ⟨[], false, n, s, l⟩) ∧ Items cs ⟨b, false, [], [], []⟩ b n s l := by
  unfold readZ at h ⊢
  split at h
  · rename_i hl
    rw [if_pos hl]
    refine ⟨hl, ?_⟩
    split at h
    · cases h
    · rename_i hs
      have hs' : (gatherZ cs ⟨b, false, [], [], []⟩).sh = false := by simpa using hs
      rw [if_neg hs]
      split at h
      · cases h
      · rename_i hb
        rw [if_neg hb]
        obtain ⟨_, pre, n, s, l, e1, e2, I⟩ := items_law cs ⟨b, false, [], [], []⟩ hx hs'
        have hb' : (gatherZ cs ⟨b, false, [], [], []⟩).b = [] := List.eq_nil_of_length_eq_zero (by omega)
        rw [hb'] at e1 e2
        simp at e1 e2
        rw [e2]
        refine ⟨n, s, l, rfl, ?_⟩
        rw [e1]
        rw [e1] at I
        exact I
  · cases h
theorem read_not {cs b : List Nat} (h : (readZ cs b).1 ≠ 0) : (readZ cs b).2 = noSt := by
  unfold readZ at h ⊢
  split
  · rename_i hl
    rw [if_pos hl] at h
    split
    · rfl
    · rename_i hs
      rw [if_neg hs] at h
      split
      · rfl
      · rename_i hb; rw [if_neg hb] at h; exact absurd rfl h
  · rfl
theorem only_law {cs b : List Nat} (hx : ∀ x ∈ b, x < 256) (h : (readZ cs b).1 = 0) : SmallF (readZ cs b).2.N (readZ cs b).2.S (readZ cs b).2.L ∧ writeZ cs (readZ cs b).2.N (readZ cs b).2.S (readZ cs b).2.L = (0, b) := by
  obtain ⟨hl, n, s, l, e, I⟩ := read_zero hx h
  rw [e]
  refine ⟨I.small, ?_⟩
  have hf : fitsB cs n.length s.length l.length = true := by
    have := I.len
    simp only [fitsB, I.cS, I.cL, decide_true, Bool.true_and, decide_eq_true_eq]
    omega
  have hw := I.wr1 []
  simp only [List.nil_append] at hw
  unfold writeZ
  rw [if_pos (by simp [hl, hf]), hw]
  rfl
theorem cut_law {cs b : List Nat} (hx : ∀ x ∈ b, x < 256) (h : (readZ cs b).1 = 0) : (∀ x, (readZ cs (b ++ [x])).1 = 4) ∧ ∀ j, j < b.length → (readZ cs (b.take j)).1 = 3 := by
  obtain ⟨hl, n, s, l, e, I⟩ := read_zero hx h
  refine ⟨fun x => ?_, fun j hj => ?_⟩
  · have := I.all [x] [] [] []
    unfold readZ
    rw [if_pos hl, this]
    rfl
  · have := I.cut j [] [] [] hj
    unfold readZ
    rw [if_pos hl, if_pos this]

/-! ### 'FieldOnly' -/
def tabY : List (FuncId × Abs.Spec) := [(20, readS), (15, writeS), (13, awakeS)]
theorem tabY_good : ∀ p ∈ tabY, SpecGood Try.prog p := by simp [tabY, SpecGood, readS_good.1, readS_good.2, writeS_ok, writeS_live, awakeS_ok, awakeS_live]
def onlyS : Abs.Spec := fun args h k => ∃ (s : ByteArray) (v : Value) (b : List Nat), args = [.string s, v] ∧ (∀ x ∈ b, x < 256) ∧ SliceAt (· < h.next) h v b.length 1 (rowC b) ∧ ∀ h', k (.bool true) h'
theorem onlyS_good : SpecGood Try.prog (8, onlyS) := by
  refine spec_good mixed Try.func8 (by kernel_rfl) (by kernel_rfl) tabY_good (keep := tiltyardlaw01_FieldOnly_keep) ?_
  rintro args h k ⟨s, v, b, rfl, hx, sl, H⟩
  refine ⟨0, ?_⟩
  show tiltyardlaw01_FieldOnly (tabC tabY) idG 0 (.string s) v h _
  rw [tiltyardlaw01_FieldOnly_eq, sl.len]
  have fin : ∀ h', ∃ h2, St.le h2 h' ∧ k (.bool true) h2 := fun h' => ⟨h', St.le.refl _, H h'⟩
  by_cases h1 : (100 : Int) < s.size
  · simp [h1, groupK_eq]; exact fin h
  by_cases h2 : (1000 : Int) < b.length
  · simp [h1, h2, groupK_eq, getT]; exact fin h
  simp [h1, h2, groupK_eq, getT]
  refine .inl ⟨rfl, _, s, v, b, rfl, by omega, by omega, hx, sl, fun _ h => h, fun h3 vN vS vL lv c3 F => ?_⟩
  have o1 := F.1.one; have o2 := F.2.1.one; have o3 := F.2.2.1.one
  have l1 := F.1.len; have l2 := F.2.1.len; have l3 := F.2.2.1.len
  have r3 := c3.1
  have c4 : Chg h3 ((h3.push (.cells [.slice none 0 0, .slice none 0 0, .slice none 0 0] true)).set h3.next (.cells [vN, vS, vL] true)) [] := Chg.of_set (Chg.push _ []) (.inr (Nat.le_refl _))
  by_cases he : (readZ (letters s) b).1 = 0
  · obtain ⟨hs, hw⟩ := only_law hx he
    simp [he, o1, o2, o3]
    have F' := F.chgP (D := fun _ => False) (c4.toP (by simp)) (fun _ h => h.elim)
    have r4 := c4.1
    refine .inr (.inl ⟨rfl, s, vN, vS, vL, lv, _, _, _, rfl, by omega, hs, ⟨F'.1.imp (fun i hi _ => hi), F'.2.1.imp (fun i hi _ => hi), F'.2.2.1.imp (fun i hi _ => hi), fun i l hl => (F'.2.2.2 i l hl).imp (fun i hi _ => hi)⟩, fun h5 v5 c5 o5 => ?_⟩)
    rw [hw] at o5 ⊢
    have t5 := text_slice (own_bytes o5)
    have t0 := text_slice (sl.chg ((c3.of_chg c4 (by simp)).of_chg c5 (by simp)) (by simp))
    simp [t5, t0]
    exact .inr (.inr (.inl ⟨rfl, rfl, fun h6 c6 => fin h6⟩))
  · have hn := read_not he
    rw [hn] at l1 l2 l3
    have he' : ¬ (((readZ (letters s) b).1 : Int) = 0) := by omega
    have z0 : IntKind.i64.wrap (0 : Int) = 0 := by decide
    simp [he, he', o1, o2, o3, l1, l2, l3, noSt, z0]
    exact .inr (.inr (.inl ⟨rfl, rfl, fun h6 c6 => fin h6⟩))

/-! ### 'FieldCut' -/
def cutS : Abs.Spec := fun args h k => ∃ (s : ByteArray) (v : Value) (b : List Nat) (a : Nat), args = [.string s, v, .int .u16 a] ∧ a < 65536 ∧ (∀ x ∈ b, x < 256) ∧ SliceAt (· < h.next) h v b.length 1 (rowC b) ∧ ∀ h', k (.bool true) h'
theorem cutS_good : SpecGood Try.prog (9, cutS) := by
  refine spec_good mixed Try.func9 (by kernel_rfl) (by kernel_rfl) tabY_good (keep := tiltyardlaw01_FieldCut_keep) ?_
  rintro args h k ⟨s, v, b, a, rfl, ha, hx, sl, H⟩
  refine ⟨0, ?_⟩
  show tiltyardlaw01_FieldCut (tabC tabY) idG 0 (.string s) v (.int .u16 a) h _
  rw [tiltyardlaw01_FieldCut_eq, sl.len]
  have fin : ∀ h', ∃ h2, St.le h2 h' ∧ k (.bool true) h2 := fun h' => ⟨h', St.le.refl _, H h'⟩
  by_cases h1 : (100 : Int) < s.size
  · simp [h1, groupK_eq]; exact fin h
  by_cases h2 : (1000 : Int) < b.length
  · simp [h1, h2, groupK_eq, getT]; exact fin h
  simp only [lenT_string, bindV_some, binNil_int, binV_gtr, gt_iff_lt, h1, h2, decide_false, groupK_eq, guardK_bool, if_true, getT, idG_eq, pickV_bool, condK_bool, Bool.false_eq_true, if_false]
  refine .inl ⟨rfl, _, s, v, b, rfl, by omega, by omega, hx, sl, fun _ h => h, fun h3 vN vS vL lv c3 F => ?_⟩
  have o1 := F.1.one; have o2 := F.2.1.one; have o3 := F.2.2.1.one
  have c4 : Chg h3 ((h3.push (.cells [.slice none 0 0, .slice none 0 0, .slice none 0 0] true)).set h3.next (.cells [vN, vS, vL] true)) [] := Chg.of_set (Chg.push _ []) (.inr (Nat.le_refl _))
  have c4' := c3.of_chg c4 (by simp)
  by_cases he : (readZ (letters s) b).1 = 0
  · obtain ⟨k1, k2⟩ := cut_law hx he
    simp only [extV_two0, extV_two1, bindV_some, allocE_some, storeE_ptr, push_at, storeM_cells, he, binNil_int, binV_neq, condK_bool]
    refine ⟨by simp [o1, o2, o3], ?_⟩
    simp only [cells_agg, List.take_zero, List.nil_append, set_at, push_next, idG_eq]
    have s4 := sl.chg c4' (by simp)
    rw [if_neg (by simp)]
    have e4 : (h3.push (.cells [.slice none 0 0, .slice none 0 0, .slice none 0 0] true)).set h3.next (.cells (#[vN, vS, vL].toList ++ List.drop (0 + 3) [.slice none 0 0, .slice none 0 0, .slice none 0 0]) true) = (h3.push (.cells [.slice none 0 0, .slice none 0 0, .slice none 0 0] true)).set h3.next (.cells [vN, vS, vL] true) := rfl
    rw [e4]
    refine append_new s4 (by omega) fun h5 v5 c5 o5 => ?_
    have hw : IntKind.u8.wrap (a : Int) = ((a % 256 : Nat) : Int) := u8_wrap a
    simp only [wrapV_int, hw, bindV_some]
    rw [build1 _ _ rfl rfl rfl]
    refine append_one o5 rfl (by omega) (by omega) fun h6 S hS c6 n6 o6 => ?_
    have c6' : Chg h h6 [] := ((((c4'.toP (D := fun i => h.next ≤ i) (by simp)).step (c5.toP (by simp))).step (c6.toP fun i hi => Nat.le_trans (Nat.le_trans c4'.1 (by simp)) (hS i hi)))).list (by intro i hi hh; omega)
    have o6' : OwnS (· = h5.next + 1) h6 (.slice (some ⟨h5.next + 1, 0, some 1⟩) (b.length + 1) 0) 1 ((b ++ [a % 256]).map bc) (b ++ [a % 256]).length := by simpa [bc] using o6
    have n6' := c6'.1
    refine .inl ⟨rfl, _, s, _, b ++ [a % 256], rfl, by omega, by simp; omega, ?_, own_bytes o6', fun i hi => by have hi : i = h5.next + 1 := hi; omega, fun h7 wN wS wL lw c7 G => ?_⟩
    · intro x hm
      rcases List.mem_append.1 hm with hm | hm
      · exact hx x hm
      · simp at hm; subst hm; exact Nat.mod_lt _ (by omega)
    have p1 := G.1.one; have p2 := G.2.1.one; have p3 := G.2.2.1.one
    rw [k1]
    have c8 : Chg h7 ((h7.push (.cells [.slice none 0 0, .slice none 0 0, .slice none 0 0] true)).set h7.next (.cells [wN, wS, wL] true)) [] := Chg.of_set (Chg.push _ []) (.inr (Nat.le_refl _))
    have c8' := (c6'.of_chg c7 (by simp)).of_chg c8 (by simp)
    by_cases hb : b.length = 0
    · simp [p1, p2, p3, groupK_eq, getT, sl.len, hb]
      exact .inr (.inr (.inl ⟨rfl, rfl, fun h' _ => fin h'⟩))
    · have hb' : ¬ ((b.length : Int) = 0) := by omega
      have hb2 : b ≠ [] := fun e => hb (by rw [e]; rfl)
      have hm : a % b.length < b.length := Nat.mod_lt _ (by omega)
      have w64 : IntKind.i64.wrap (a : Int) = a := i64_in _ (by omega)
      have rm := rem_nat .other .i64 a b.length hb
      obtain ⟨v', hcut, s'⟩ := sl.cut (lo := none) (hi := some (.int .i64 (a % b.length : Nat))) (loHi_hi (e := a % b.length) (by omega)) (Nat.zero_le _) (by omega)
      have hc1 : Abs.cutS 1 v none (some (.int .i64 ((a % b.length : Nat) : Int))) = some v' := hcut
      simp only [extV_two0, extV_two1, bindV_some, allocE_some, storeE_ptr, push_at, storeM_cells, binNil_int, binV_neq, condK_bool]
      refine ⟨by simp [p1, p2, p3], ?_⟩
      simp only [cells_agg, List.take_zero, List.nil_append, groupK_eq, guardK_bool, sl.len, bindV_some, binNil_int, binV_eql, hb', wrapV_int, w64, rm, hc1, idG_eq, getT, pickV_bool, condK_bool]
      simp
      have s8 := s'.chg c8' (by simp)
      have el : (b.take (a % b.length)).length = a % b.length - 0 := by simp; omega
      refine .inl ⟨rfl, _, s, v', b.take (a % b.length), rfl, by omega, by simp; omega, fun x hm => hx x (List.mem_of_mem_take hm), ?_, fun i hi => Nat.lt_of_lt_of_le hi c8'.1, fun h9 uN uS uL lu c9 U => ?_⟩
      · rw [el]
        exact s8.rows fun i hi => by simp at hi; simp [rowC, hi]
      have q1 := U.1.one; have q2 := U.2.1.one; have q3 := U.2.2.1.one
      rw [k2 _ hm]
      simp [q1, q2, q3, groupK_eq, getT]
      exact .inr (.inr (.inl ⟨rfl, rfl, fun h' _ => fin h'⟩))
  · have he' : ¬ (((readZ (letters s) b).1 : Int) = 0) := by omega
    simp [he, he', o1, o2, o3]
    exact .inr (.inr (.inl ⟨rfl, rfl, fun h' _ => fin h'⟩))
end Go.Proofs.Ytiaijbkmgajieaa
