/- The plain laws of reading and writing. -/
import Derived.Test.YtdmcmebfclikgaaDoorLB
set_option linter.unusedSimpArgs false
set_option linter.unusedVariables false
set_option maxHeartbeats 4000000
namespace Go.Proofs.YtdmcmebfclikgaaDoor
open Go.Abs Go.IntWalk

theorem short_out {pre r : List Nat} {w : Nat} (h : pre.length = w) : outZ (pre ++ r) w = pre ∧ leftZ (pre ++ r) w = r ∧ ∀ sh, shortZ (pre ++ r) sh w = sh := by
  subst h
  have n : ¬ pre.length > (pre ++ r).length := by simp
  refine ⟨?_, ?_, fun sh => ?_⟩
  · rw [outZ, if_neg n, List.take_left']; rfl
  · rw [leftZ, if_neg n, List.drop_left']; rfl
  · rw [shortZ, if_neg n]
theorem short_true (b : List Nat) (w : Nat) : shortZ b true w = true := by unfold shortZ; split <;> rfl
theorem short_lt {b : List Nat} {w : Nat} (h : b.length < w) (sh : Bool) : shortZ b sh w = true := by unfold shortZ; rw [if_pos h]
theorem short_false {b : List Nat} {sh : Bool} {w : Nat} (h : shortZ b sh w = false) : w ≤ b.length ∧ sh = false ∧ b = b.take w ++ b.drop w ∧ (b.take w).length = w := by
  unfold shortZ at h
  split at h
  · cases h
  · exact ⟨by omega, h, (List.take_append_drop _ _).symm, by simp; omega⟩
theorem list_true : ∀ (k : Nat) (b l : List Nat), (listZ k b true l).2.1 = true
  | 0, _, _ => rfl
  | k + 1, b, l => by simp [listZ]
theorem list_done : ∀ (k : Nat) (b : List Nat) (sh : Bool) (l : List Nat), (listZ k b sh l).2.1 = false → (listZ k b sh l).2.2.2 = true
  | 0, _, _, _, _ => rfl
  | k + 1, b, sh, l, h => by
    simp only [listZ] at h ⊢
    split
    · rename_i hs; rw [if_pos hs] at h; rw [hs] at h; cases h
    · rename_i hs; rw [if_neg hs] at h; exact list_done k _ _ _ h
theorem putB_numB : ∀ (l : List Nat), (∀ x ∈ l, x < 256) → putB (numB l) l.length = l
  | [], _ => rfl
  | c :: l, h => by
    have ih := putB_numB l fun x hx => h x (by simp [hx])
    have hl := numB_lt l fun x hx => h x (by simp [hx])
    have hc := h c (by simp)
    have hp : 0 < 256 ^ l.length := Nat.lt_of_le_of_lt (Nat.zero_le _) hl
    rw [List.length_cons, putB, numB_cons]
    have e1 : (c * 256 ^ l.length + numB l) / 256 ^ l.length = c := by
      rw [Nat.add_comm, Nat.add_mul_div_right _ _ hp, Nat.div_eq_of_lt hl, Nat.zero_add]
    have e2 : putB (c * 256 ^ l.length + numB l) l.length = putB (numB l) l.length := by
      rw [← putB_mod (c * 256 ^ l.length + numB l) l.length l.length (Nat.le_refl _), Nat.add_comm, Nat.add_mul_mod_self_right, Nat.mod_eq_of_lt hl]
    rw [e1, e2, ih, Nat.mod_eq_of_lt hc]
theorem list_law : ∀ (k : Nat) (b l : List Nat) (sh : Bool), (∀ x ∈ b, x < 256) → (listZ k b sh l).2.1 = false → ∃ pre ln r, b = pre ++ r ∧ sh = false ∧ pre.length = 4 * k ∧ ln.length = k ∧ (∀ x ∈ ln, x < 4294967296) ∧ (ln.flatMap fun x => putB x 4) = pre ∧
    (∀ r' l', listZ k (pre ++ r') false l' = (r', false, l' ++ ln, true)) ∧ listZ k b sh l = (r, false, l ++ ln, true) ∧ ∀ j l', j < pre.length → (listZ k (pre.take j) false l').2.1 = true
  | 0, b, l, sh, hx, h => by
    simp only [listZ] at h
    refine ⟨[], [], b, rfl, h, rfl, rfl, by simp, rfl, fun r' l' => by simp [listZ], by simp [listZ, h], fun j l' hj => by simp at hj⟩
  | k + 1, b, l, sh, hx, h => by
    simp only [listZ] at h
    split at h
    · rename_i hs; rw [hs] at h; cases h
    · rename_i hs
      have hs : sh = false := by simpa using hs
      have hx' : ∀ x ∈ leftZ b 4, x < 256 := fun x h => hx x (leftZ_mem h)
      obtain ⟨pre, ln, r, e1, e2, e3, e4, e5, e6, e7, e8, e9⟩ := list_law k _ _ _ hx' h
      obtain ⟨s1, _, s3, s4⟩ := short_false e2
      obtain ⟨o1, o2, o3⟩ := short_out (pre := b.take 4) (r := b.drop 4) s4
      rw [← s3] at o1 o2
      have hp4 : ∀ x ∈ b.take 4, x < 256 := fun x h => hx x (List.mem_of_mem_take h)
      have hn4 := numB_lt (b.take 4) hp4
      rw [s4] at hn4
      have hpb := putB_numB (b.take 4) hp4
      rw [s4] at hpb
      rw [o2] at e1
      have p4 : 256 ^ 4 = 4294967296 := by decide
      rw [p4] at hn4
      refine ⟨b.take 4 ++ pre, numB (b.take 4) :: ln, r, ?_, hs, ?_, by simp [e4], ?_, ?_, ?_, ?_, ?_⟩
      · rw [List.append_assoc, ← e1]; exact s3
      · rw [List.length_append, s4, e3]; omega
      · intro x hx; rcases List.mem_cons.1 hx with rfl | hx
        · exact hn4
        · exact e5 x hx
      · rw [List.flatMap_cons, e6, hpb]
      · intro r' l'
        obtain ⟨q1, q2, q3⟩ := short_out (pre := b.take 4) (r := pre ++ r') s4
        simp only [listZ, Bool.false_eq_true, if_false, List.append_assoc, q1, q2, q3]
        rw [e7]
        simp
      · simp only [listZ, hs, Bool.false_eq_true, if_false]
        rw [hs] at e8
        rw [e8, o1]
        simp
      · intro j l' hj
        by_cases h4 : j < 4
        · have hl : ((b.take 4 ++ pre).take j).length < 4 := by rw [List.length_take]; omega
          simp only [listZ, Bool.false_eq_true, if_false, short_lt hl]
          exact list_true _ _ _
        · have et : (b.take 4 ++ pre).take j = b.take 4 ++ pre.take (j - 4) := by rw [List.take_append, s4, List.take_of_length_le (by omega)]
          obtain ⟨q1, q2, q3⟩ := short_out (pre := b.take 4) (r := pre.take (j - 4)) s4
          rw [et]
          simp only [listZ, Bool.false_eq_true, if_false, q1, q2, q3]
          exact e9 (j - 4) _ (by rw [List.length_append, s4] at hj; omega)
theorem letters_text {l : List Nat} (h : ∀ x ∈ l, x < 256) : letters (bytesText l) = l := by
  unfold letters bytesText
  simp only [List.map_map]
  conv => rhs; rw [← List.map_id l]
  apply List.map_congr_left
  intro x hx
  have := h x hx
  simp [Function.comp, UInt8.toNat_ofNat', Nat.mod_eq_of_lt this]
theorem text_size (l : List Nat) : (bytesText l).size = l.length := by simp [bytesText, ByteArray.size]

/-- What one letter reads, bears on bytes that begin so, and what is written of it is what was read. -/
structure Item (c : Nat) (st : RSt) (pre : List Nat) (n : List Nat) (s : List ByteArray) (l : List (List Nat)) : Prop where
  all : ∀ r' N S L, fieldZ c ⟨pre ++ r', false, N, S, L⟩ = ⟨r', false, N ++ n, S ++ s, L ++ l⟩
  cut : ∀ j N S L, j < pre.length → (fieldZ c ⟨pre.take j, false, N, S, L⟩).sh = true
  small : SmallF n s l
  cs : cnt 115 [c] = s.length
  cl : cnt 108 [c] = l.length
  len : n.length + s.length + l.length = 1
  wr1 : ∀ cs N S L out, wr (c :: cs) (n ++ N) (s ++ S) (l ++ L) (0, out) = wr cs N S L (0, out ++ pre)
theorem item_law {c : Nat} {st : RSt} (hx : ∀ x ∈ st.b, x < 256) (h : (fieldZ c st).sh = false) : st.sh = false ∧ ∃ pre n s l, st.b = pre ++ (fieldZ c st).b ∧ fieldZ c st = ⟨(fieldZ c st).b, false, st.N ++ n, st.S ++ s, st.L ++ l⟩ ∧ Item c st pre n s l := by
  by_cases t1 : c = 115
  · have hw : wd c = 1 := by rw [t1]; rfl
    have ef : ∀ st, fieldZ c st = ⟨leftZ (leftZ st.b 1) (numB (outZ st.b 1)), shortZ (leftZ st.b 1) (shortZ st.b st.sh 1) (numB (outZ st.b 1)), st.N, st.S ++ [bytesText (outZ (leftZ st.b 1) (numB (outZ st.b 1)))], st.L⟩ := by
      intro st; unfold fieldZ; rw [if_pos t1, hw]
    rw [ef] at h ⊢
    simp only at h ⊢
    obtain ⟨a1, a2, a3, a4⟩ := short_false h
    obtain ⟨b1, b2, b3, b4⟩ := short_false a2
    obtain ⟨o1, o2, _⟩ := short_out (pre := st.b.take 1) (r := st.b.drop 1) b4
    rw [← b3] at o1 o2
    rw [o1, o2] at a1 a3 a4 h ⊢
    generalize hp : st.b.take 1 = p1 at *
    generalize hd : st.b.drop 1 = b1' at *
    generalize hn : numB p1 = n at *
    obtain ⟨o4, o5, _⟩ := short_out (pre := b1'.take n) (r := b1'.drop n) a4
    rw [← a3] at o4 o5
    have hp1 : ∀ x ∈ p1, x < 256 := fun x h => hx x (by rw [b3]; exact List.mem_append_left _ h)
    have hp2 : ∀ x ∈ b1'.take n, x < 256 := fun x h => hx x (by rw [b3]; exact List.mem_append_right _ (List.mem_of_mem_take h))
    have hn1 := numB_lt p1 hp1
    rw [b4, hn] at hn1
    have hpb := putB_numB p1 hp1
    rw [b4, hn] at hpb
    refine ⟨b2, p1 ++ b1'.take n, [], [bytesText (b1'.take n)], [], ?_, ?_, ?_⟩
    · rw [o5, List.append_assoc, ← a3]; exact b3
    · rw [o4, o5, h]; simp
    · refine ⟨fun r' N S L => ?_, fun j N S L hj => ?_, ⟨by simp, by simp [text_size]; omega, by simp⟩, by simp [cnt, t1], by simp [cnt, t1], rfl, fun cs N S L out => ?_⟩
      · rw [ef]
        obtain ⟨q1, q2, q3⟩ := short_out (pre := p1) (r := b1'.take n ++ r') b4
        obtain ⟨q4, q5, q6⟩ := short_out (pre := b1'.take n) (r := r') a4
        simp only [List.append_assoc, q1, q2, q3, hn, q4, q5, q6]
        simp
      · rw [ef]
        simp only
        by_cases hj1 : j < 1
        · have hl : ((p1 ++ b1'.take n).take j).length < 1 := by rw [List.length_take]; omega
          rw [short_lt hl]
          exact short_true _ _
        · have et : (p1 ++ b1'.take n).take j = p1 ++ (b1'.take n).take (j - 1) := by rw [List.take_append, b4, List.take_of_length_le (by omega)]
          obtain ⟨q1, q2, q3⟩ := short_out (pre := p1) (r := (b1'.take n).take (j - 1)) b4
          rw [et, q1, q2, q3, hn]
          refine short_lt ?_ _
          rw [List.length_append, b4, a4] at hj
          rw [List.length_take]
          omega
      · simp only [wr, t1, if_true, List.cons_append, List.nil_append, text_size, a4, letters_text hp2, hpb]
        have he : errN 0 n 1 = 0 := by simp [errN]; omega
        rw [he, List.append_assoc]
  · by_cases t2 : c = 108
    · have hw : wd c = 1 := by rw [t2]; rfl
      have ef : ∀ st, fieldZ c st = if (listZ (numB (outZ st.b 1)) (leftZ st.b 1) (shortZ st.b st.sh 1) []).2.2.2 = true
          then ⟨(listZ (numB (outZ st.b 1)) (leftZ st.b 1) (shortZ st.b st.sh 1) []).1, (listZ (numB (outZ st.b 1)) (leftZ st.b 1) (shortZ st.b st.sh 1) []).2.1, st.N, st.S, st.L ++ [(listZ (numB (outZ st.b 1)) (leftZ st.b 1) (shortZ st.b st.sh 1) []).2.2.1]⟩
          else ⟨(listZ (numB (outZ st.b 1)) (leftZ st.b 1) (shortZ st.b st.sh 1) []).1, (listZ (numB (outZ st.b 1)) (leftZ st.b 1) (shortZ st.b st.sh 1) []).2.1, st.N, st.S, st.L⟩ := by
        intro st; unfold fieldZ; rw [if_neg t1, if_pos t2, hw]
      have esh : ∀ st, (fieldZ c st).sh = (listZ (numB (outZ st.b 1)) (leftZ st.b 1) (shortZ st.b st.sh 1) []).2.1 := by
        intro st; rw [ef]; split <;> rfl
      rw [esh] at h
      have hx' : ∀ x ∈ leftZ st.b 1, x < 256 := fun x h => hx x (leftZ_mem h)
      obtain ⟨pre, ln, r, e1, e2, e3, e4, e5, e6, e7, e8, e9⟩ := list_law _ _ _ _ hx' h
      obtain ⟨b1, b2, b3, b4⟩ := short_false e2
      obtain ⟨o1, o2, _⟩ := short_out (pre := st.b.take 1) (r := st.b.drop 1) b4
      rw [← b3] at o1 o2
      have e8' := e8
      rw [ef, e8]
      simp only [if_true]
      rw [o2] at e1
      rw [o1] at e3 e4
      simp only [o1] at e7 e9
      generalize hp : st.b.take 1 = p1 at *
      generalize hd : st.b.drop 1 = b1' at *
      generalize hn : numB p1 = n at *
      have hp1 : ∀ x ∈ p1, x < 256 := fun x h => hx x (by rw [b3]; exact List.mem_append_left _ h)
      have hn1 := numB_lt p1 hp1
      rw [b4, hn] at hn1
      have hpb := putB_numB p1 hp1
      rw [b4, hn] at hpb
      refine ⟨b2, p1 ++ pre, [], [], [ln], ?_, by simp, ?_⟩
      · rw [List.append_assoc, ← e1]; exact b3
      · refine ⟨fun r' N S L => ?_, fun j N S L hj => ?_, ⟨by simp, by simp, by simp; exact ⟨by omega, e5⟩⟩, by simp [cnt, t2], by simp [cnt, t2], rfl, fun cs N S L out => ?_⟩
        · rw [ef]
          obtain ⟨q1, q2, q3⟩ := short_out (pre := p1) (r := pre ++ r') b4
          simp only [List.append_assoc, q1, q2, q3, hn, e7]
          simp
        · rw [esh]
          simp only
          by_cases hj1 : j < 1
          · have hl : ((p1 ++ pre).take j).length < 1 := by rw [List.length_take]; omega
            rw [short_lt hl]
            exact list_true _ _ _
          · have et : (p1 ++ pre).take j = p1 ++ pre.take (j - 1) := by rw [List.take_append, b4, List.take_of_length_le (by omega)]
            obtain ⟨q1, q2, q3⟩ := short_out (pre := p1) (r := pre.take (j - 1)) b4
            rw [et, q1, q2, q3, hn]
            exact e9 _ _ (by rw [List.length_append, b4] at hj; omega)
        · have t3 : ¬ c = 115 := t1
          simp only [wr, t3, t2, if_true, if_false, List.cons_append, List.nil_append, e4, allOut, e6, hpb]
          rw [if_neg (by decide)]
          have he : errN 0 n 1 = 0 := by simp [errN]; omega
          rw [he]
    · have ef : ∀ st, fieldZ c st = ⟨leftZ st.b (wd c), shortZ st.b st.sh (wd c), st.N ++ [numB (outZ st.b (wd c))], st.S, st.L⟩ := by
        intro st; unfold fieldZ; rw [if_neg t1, if_neg t2]
      rw [ef] at h ⊢
      simp only at h ⊢
      obtain ⟨a1, a2, a3, a4⟩ := short_false h
      obtain ⟨o1, o2, _⟩ := short_out (pre := st.b.take (wd c)) (r := st.b.drop (wd c)) a4
      rw [← a3] at o1 o2
      have hp1 : ∀ x ∈ st.b.take (wd c), x < 256 := fun x h => hx x (List.mem_of_mem_take h)
      have hn1 := numB_lt _ hp1
      rw [a4] at hn1
      have hpb := putB_numB _ hp1
      rw [a4] at hpb
      have h8 := wd_le c
      have hn8 : numB (st.b.take (wd c)) < 18446744073709551616 := by
        have := Nat.pow_le_pow_right (n := 256) (by omega) h8
        have p8 : 256 ^ 8 = 18446744073709551616 := by decide
        rw [p8] at this
        exact Nat.lt_of_lt_of_le hn1 this
      refine ⟨a2, st.b.take (wd c), [numB (st.b.take (wd c))], [], [], by rw [o2]; exact a3, by rw [o1, o2, h]; simp, ⟨fun r' N S L => ?_, fun j N S L hj => ?_, ⟨by simpa using hn8, by simp, by simp⟩, by simp [cnt, t1], by simp [cnt, t2], rfl, fun cs N S L out => ?_⟩⟩
      · rw [ef]
        obtain ⟨q1, q2, q3⟩ := short_out (pre := st.b.take (wd c)) (r := r') a4
        simp only [q1, q2, q3]
        simp
      · rw [ef]
        exact short_lt (by rw [List.length_take]; omega) _
      · simp only [wr, t1, t2, if_false, List.cons_append, List.nil_append, hpb]
        have he : errN 0 (numB (st.b.take (wd c))) (wd c) = 0 := by simp [errN, Nat.div_eq_of_lt hn1]
        rw [he]
end Go.Proofs.YtdmcmebfclikgaaDoor

/- 'FieldOnly' and 'FieldCut'. -/
set_option linter.unusedSimpArgs false
set_option linter.unusedVariables false
set_option maxHeartbeats 4000000
namespace Go.Proofs.YtdmcmebfclikgaaDoor
open Go.Abs Go.IntWalk

structure Items (cs : List Nat) (st : RSt) (pre : List Nat) (n : List Nat) (s : List ByteArray) (l : List (List Nat)) : Prop where
  all : ∀ r' N S L, gatherZ cs ⟨pre ++ r', false, N, S, L⟩ = ⟨r', false, N ++ n, S ++ s, L ++ l⟩
  cut : ∀ j N S L, j < pre.length → (gatherZ cs ⟨pre.take j, false, N, S, L⟩).sh = true
  small : SmallF n s l
  cS : cnt 115 cs = s.length
  cL : cnt 108 cs = l.length
  len : n.length + s.length + l.length = cs.length
  wr1 : ∀ out, wr cs n s l (0, out) = (0, out ++ pre)
theorem cnt_cons (a c : Nat) (cs : List Nat) : cnt a (c :: cs) = cnt a [c] + cnt a cs := by simp only [cnt]; split <;> omega
theorem items_law : ∀ (cs : List Nat) (st : RSt), (∀ x ∈ st.b, x < 256) → (gatherZ cs st).sh = false → st.sh = false ∧ ∃ pre n s l, st.b = pre ++ (gatherZ cs st).b ∧ gatherZ cs st = ⟨(gatherZ cs st).b, false, st.N ++ n, st.S ++ s, st.L ++ l⟩ ∧ Items cs st pre n s l
  | [], st, hx, h => by
    refine ⟨h, [], [], [], [], rfl, ?_, ⟨fun r' N S L => by simp [gatherZ], fun j N S L hj => by simp at hj, ⟨by simp, by simp, by simp⟩, rfl, rfl, rfl, fun out => by simp [wr]⟩⟩
    obtain ⟨b, sh, N, S, L⟩ := st
    simp only [gatherZ, List.foldl_nil] at h ⊢
    subst h
    simp
  | c :: cs, st, hx, h => by
    have hx1 : ∀ x ∈ (fieldZ c st).b, x < 256 := fun x hm => hx x ((fieldZ_b c st).2.1 x hm)
    have h' : (gatherZ cs (fieldZ c st)).sh = false := h
    obtain ⟨s1, p2, n2, t2, l2, e1, e2, I2⟩ := items_law cs (fieldZ c st) hx1 h'
    obtain ⟨s2, p1, n1, t1, l1, e3, e4, I1⟩ := item_law hx s1
    have eg : gatherZ (c :: cs) st = gatherZ cs (fieldZ c st) := rfl
    have pN : (fieldZ c st).N = st.N ++ n1 := by rw [e4]
    have pS : (fieldZ c st).S = st.S ++ t1 := by rw [e4]
    have pL : (fieldZ c st).L = st.L ++ l1 := by rw [e4]
    refine ⟨s2, p1 ++ p2, n1 ++ n2, t1 ++ t2, l1 ++ l2, ?_, ?_, ⟨fun r' N S L => ?_, fun j N S L hj => ?_, ?_, ?_, ?_, ?_, fun out => ?_⟩⟩
    · rw [eg, List.append_assoc, ← e1]; exact e3
    · rw [eg]
      rw [pN, pS, pL] at e2
      rw [e2]
      simp
    · show gatherZ cs (fieldZ c ⟨p1 ++ p2 ++ r', false, N, S, L⟩) = _
      rw [List.append_assoc, I1.all, I2.all]
      simp
    · show (gatherZ cs (fieldZ c ⟨(p1 ++ p2).take j, false, N, S, L⟩)).sh = true
      by_cases h1 : j < p1.length
      · have et : (p1 ++ p2).take j = p1.take j := by rw [List.take_append_of_le_length (by omega)]
        rw [et]
        have := I1.cut j N S L h1
        cases hg : (gatherZ cs (fieldZ c ⟨p1.take j, false, N, S, L⟩)).sh with
        | true => rfl
        | false =>
          have hb : ∀ x ∈ (fieldZ c ⟨p1.take j, false, N, S, L⟩).b, x < 256 := fun x hm => by
            have := (fieldZ_b c ⟨p1.take j, false, N, S, L⟩).2.1 x hm
            exact hx x (by rw [e3]; exact List.mem_append_left _ (List.mem_of_mem_take this))
          have := (items_law cs _ hb hg).1
          rw [I1.cut j N S L h1] at this
          cases this
      · have et : (p1 ++ p2).take j = p1 ++ p2.take (j - p1.length) := by rw [List.take_append, List.take_of_length_le (by omega)]
        rw [et, I1.all]
        exact I2.cut _ _ _ _ (by rw [List.length_append] at hj; omega)
    · refine ⟨fun x hm => ?_, fun x hm => ?_, fun x hm => ?_⟩
      · rcases List.mem_append.1 hm with hm | hm
        · exact I1.small.1 x hm
        · exact I2.small.1 x hm
      · rcases List.mem_append.1 hm with hm | hm
        · exact I1.small.2.1 x hm
        · exact I2.small.2.1 x hm
      · rcases List.mem_append.1 hm with hm | hm
        · exact I1.small.2.2 x hm
        · exact I2.small.2.2 x hm
    · rw [cnt_cons, I1.cs, I2.cS, List.length_append]
    · rw [cnt_cons, I1.cl, I2.cL, List.length_append]
    · have := I1.len; have := I2.len
      simp only [List.length_append, List.length_cons]; omega
    · rw [I1.wr1, I2.wr1, List.append_assoc]
theorem read_zero {cs b : List Nat} (hx : ∀ x ∈ b, x < 256) (h : (readZ cs b).1 = 0) : 0 ≤ leastZ cs ∧ ∃ n s l, readZ cs b = (0, ⟨[], false, n, s, l⟩) ∧ Items cs ⟨b, false, [], [], []⟩ b n s l := by
  unfold readZ at h ⊢
  split at h
  · rename_i hl
    rw [if_pos hl]
    refine ⟨hl, ?_⟩
    split at h
    · cases h
    · rename_i hs
      have hs' : (gatherZ cs ⟨b, false, [], [], []⟩).sh = false := by simpa using hs
      rw [if_neg hs]
      split at h
      · cases h
      · rename_i hb
        rw [if_neg hb]
        obtain ⟨_, pre, n, s, l, e1, e2, I⟩ := items_law cs ⟨b, false, [], [], []⟩ hx hs'
        have hb' : (gatherZ cs ⟨b, false, [], [], []⟩).b = [] := List.eq_nil_of_length_eq_zero (by omega)
        rw [hb'] at e1 e2
        simp at e1 e2
        rw [e2]
        refine ⟨n, s, l, rfl, ?_⟩
        rw [e1]
        rw [e1] at I
        exact I
  · cases h
theorem read_not {cs b : List Nat} (h : (readZ cs b).1 ≠ 0) : (readZ cs b).2 = noSt := by
  unfold readZ at h ⊢
  split
  · rename_i hl
    rw [if_pos hl] at h
    split
    · rfl
    · rename_i hs
      rw [if_neg hs] at h
      split
      · rfl
      · rename_i hb; rw [if_neg hb] at h; exact absurd rfl h
  · rfl
theorem only_law {cs b : List Nat} (hx : ∀ x ∈ b, x < 256) (h : (readZ cs b).1 = 0) : SmallF (readZ cs b).2.N (readZ cs b).2.S (readZ cs b).2.L ∧ writeZ cs (readZ cs b).2.N (readZ cs b).2.S (readZ cs b).2.L = (0, b) := by
  obtain ⟨hl, n, s, l, e, I⟩ := read_zero hx h
  rw [e]
  refine ⟨I.small, ?_⟩
  have hf : fitsB cs n.length s.length l.length = true := by
    have := I.len
    simp only [fitsB, I.cS, I.cL, decide_true, Bool.true_and, decide_eq_true_eq]
    omega
  have hw := I.wr1 []
  simp only [List.nil_append] at hw
  unfold writeZ
  rw [if_pos (by simp [hl, hf]), hw]
  rfl
theorem cut_law {cs b : List Nat} (hx : ∀ x ∈ b, x < 256) (h : (readZ cs b).1 = 0) : (∀ x, (readZ cs (b ++ [x])).1 = 4) ∧ ∀ j, j < b.length → (readZ cs (b.take j)).1 = 3 := by
  obtain ⟨hl, n, s, l, e, I⟩ := read_zero hx h
  refine ⟨fun x => ?_, fun j hj => ?_⟩
  · have := I.all [x] [] [] []
    unfold readZ
    rw [if_pos hl, this]
    rfl
  · have := I.cut j [] [] [] hj
    unfold readZ
    rw [if_pos hl, if_pos this]

/-! ### 'FieldOnly' -/
end Go.Proofs.YtdmcmebfclikgaaDoor

/- Fields that are alike; the document's numbers. -/
set_option linter.unusedSimpArgs false
set_option linter.unusedVariables false
set_option maxHeartbeats 4000000
namespace Go.Proofs.YtdmcmebfclikgaaDoor
open Go.Abs Go.IntWalk

@[simp] theorem binV_text_ne (s : Shp) (a b : ByteArray) : binV .neq s (.string a) (.string b) = some (.bool (!(a.toList == b.toList))) := by simp [binV, isShift, textV]
theorem inc {i : Nat} (h : i ≤ 1000000) : IntKind.i64.wrap ((i : Int) + 1) = ((i + 1 : Nat) : Int) := by rw [i64_in _ (by omega)]; omega
section same
variable {V V' : Nat → Prop} {h : St} {pa pb nn : Nat} {vN vS vL wN wS wL x4 : Value} {lv lw : Nat → Value} {N : List Nat} {S : List ByteArray} {L : List (List Nat)} {K : Cont}
theorem same_l5 (hA : h.objs pa = some (.cells [vN, vS, vL] true)) (hB : h.objs pb = some (.cells [wN, wS, wL] true)) (F : FieldsAt V h vN vS vL lv N S L) (G : FieldsAt V' h wN wS wL lw N S L) {i : Nat} {l : List Nat} (hi : L[i]? = some l) (hl : l.length ≤ 1000) {m0 : Nat} {x5 x6 : Value}
    (H : tiltyardref01_Same_j7 (tabC []) idG nn m0 (ptr pa) (ptr pb) x4 x5 x6 (.int .i64 i) (.int .i64 l.length) h K) : ∀ (d j m1 : Nat), j + d = l.length → d < m1 → tiltyardref01_Same_l5 (tabC []) idG nn m0 m1 (ptr pa) (ptr pb) x4 x5 x6 (.int .i64 i) (.int .i64 j) h K := by
  have hiL : i < L.length := (List.getElem?_eq_some_iff.1 hi).1
  have hiI : (i : Int) < L.length := by omega
  obtain ⟨b, o, g1, g2, g3, cs, own, g4, g5⟩ := F.2.2.1.idx (Int.natCast_nonneg i) hiI .i64
  have g6 := takeN_get g5 (j := 0) (by omega)
  simp at g6
  obtain ⟨b', o', g1', g2', g3', cs', own', g4', g5'⟩ := G.2.2.1.idx (Int.natCast_nonneg i) hiI .i64
  have g6' := takeN_get g5' (j := 0) (by omega)
  simp at g6'
  have sl := F.2.2.2 i l hi
  have sr := G.2.2.2 i l hi
  intro d
  induction d with
  | zero =>
    intro j m1 hj hm
    obtain ⟨m1, rfl⟩ : ∃ m, m1 = m + 1 := ⟨m1 - 1, by omega⟩
    rw [tiltyardref01_Same_l5_eq]
    have e : j = l.length := by omega
    subst e
    simp only [ptr] at *
    simp only [offV_ptr, loadV_ptr, hA, loadM_cells, partV_one, Nat.zero_add, List.getElem?_cons_succ, List.getElem?_cons_zero, bindV_some, g1, g4, g6, sl.len, binV_lss, condK_bool, Int.lt_irrefl, decide_false, Bool.false_eq_true, if_false, idG_eq]
    exact H
  | succ d ih =>
    intro j m1 hj hm
    obtain ⟨m1, rfl⟩ : ∃ m, m1 = m + 1 := ⟨m1 - 1, by omega⟩
    rw [tiltyardref01_Same_l5_eq]
    have hlt : (j : Int) < l.length := by omega
    obtain ⟨c, p, k1, k2, k3, ds, ow, k4, k5⟩ := sl.idx (Int.natCast_nonneg j) hlt .i64
    have k6 := takeN_get k5 (j := 0) (by omega)
    simp [rowU] at k6
    obtain ⟨c', p', k1', k2', k3', ds', ow', k4', k5'⟩ := sr.idx (Int.natCast_nonneg j) hlt .i64
    have k6' := takeN_get k5' (j := 0) (by omega)
    simp [rowU] at k6'
    have ihh := ih (j + 1) m1 (by omega) (by omega)
    simp only [ptr] at *
    simp only [offV_ptr, loadV_ptr, hA, hB, loadM_cells, partV_one, Nat.zero_add, List.getElem?_cons_succ, List.getElem?_cons_zero, bindV_some, g1, g4, g6, g1', g4', g6', sl.len, binV_lss, condK_bool, hlt, decide_true, if_true, idG_eq, k1, k4, k6, k1', k4', k6', binV_neq, ne_eq, not_true_eq_false, decide_false, Bool.false_eq_true, if_false, true_and, binNil_int, binV_add, inc (show j ≤ 1000000 by omega)]
    exact ihh
theorem same_l4 (hA : h.objs pa = some (.cells [vN, vS, vL] true)) (hB : h.objs pb = some (.cells [wN, wS, wL] true)) (F : FieldsAt V h vN vS vL lv N S L) (G : FieldsAt V' h wN wS wL lw N S L) (hL : L.length ≤ 1000) (hl : ∀ l ∈ L, l.length ≤ 1000) (H : K (.bool true) h) {x5 x6 : Value} :
    ∀ (d i m0 : Nat) (x8 : Value), i + d = L.length → d + 1001 < m0 → tiltyardref01_Same_l4 (tabC []) idG nn m0 (ptr pa) (ptr pb) x4 x5 x6 (.int .i64 i) x8 h K := by
  intro d
  induction d with
  | zero =>
    intro i m0 x8 hi hm
    obtain ⟨m0, rfl⟩ : ∃ m, m0 = m + 1 := ⟨m0 - 1, by omega⟩
    rw [tiltyardref01_Same_l4_eq]
    have e : i = L.length := by omega
    subst e
    simp only [ptr, offV_ptr, loadV_ptr, hA, loadM_cells, partV_one, Nat.zero_add, List.getElem?_cons_succ, List.getElem?_cons_zero, bindV_some, F.2.2.1.len, binV_lss, condK_bool, Int.lt_irrefl, decide_false, Bool.false_eq_true, if_false, idG_eq]
    rw [tiltyardref01_Same_j6_eq]
    exact H
  | succ d ih =>
    intro i m0 x8 hi hm
    obtain ⟨m0, rfl⟩ : ∃ m, m0 = m + 1 := ⟨m0 - 1, by omega⟩
    rw [tiltyardref01_Same_l4_eq]
    have hlt : (i : Int) < L.length := by omega
    have hiL : i < L.length := by omega
    have hi' : L[i]? = some L[i] := List.getElem?_eq_getElem hiL
    have hll := hl L[i] (List.getElem_mem _)
    obtain ⟨b, o, g1, g2, g3, cs, own, g4, g5⟩ := F.2.2.1.idx (Int.natCast_nonneg i) hlt .i64
    have g6 := takeN_get g5 (j := 0) (by omega)
    simp at g6
    obtain ⟨b', o', g1', g2', g3', cs', own', g4', g5'⟩ := G.2.2.1.idx (Int.natCast_nonneg i) hlt .i64
    have g6' := takeN_get g5' (j := 0) (by omega)
    simp at g6'
    have sl := F.2.2.2 i _ hi'
    have sr := G.2.2.2 i _ hi'
    have nx := same_l5 (nn := nn) (K := K) (x4 := x4) (x5 := x5) (x6 := x6) (m0 := m0) hA hB F G hi' hll (by
      rw [tiltyardref01_Same_j7_eq]
      simp only [binNil_int, binV_add, bindV_some, inc (show i ≤ 1000000 by omega), idG_eq]
      exact ih (i + 1) m0 _ (by omega) (by omega)) L[i].length 0 m0 (by omega) (by omega)
    simp only [ptr] at *
    simp only [offV_ptr, loadV_ptr, hA, hB, loadM_cells, partV_one, Nat.zero_add, List.getElem?_cons_succ, List.getElem?_cons_zero, bindV_some, F.2.2.1.len, binV_lss, condK_bool, hlt, decide_true, if_true, idG_eq, g1, g4, g6, g1', g4', g6', sl.len, sr.len, binV_neq, ne_eq, not_true_eq_false, decide_false, Bool.false_eq_true, if_false, true_and]
    exact nx
theorem same_l2 (hA : h.objs pa = some (.cells [vN, vS, vL] true)) (hB : h.objs pb = some (.cells [wN, wS, wL] true)) (F : FieldsAt V h vN vS vL lv N S L) (G : FieldsAt V' h wN wS wL lw N S L) (hS : S.length ≤ 1000) {x5 x7 x8 : Value} (H : tiltyardref01_Same_j3 (tabC []) idG nn (ptr pa) (ptr pb) x4 x5 (.int .i64 S.length) x7 x8 h K) :
    ∀ (d i m0 : Nat), i + d = S.length → d < m0 → tiltyardref01_Same_l2 (tabC []) idG nn m0 (ptr pa) (ptr pb) x4 x5 (.int .i64 i) x7 x8 h K := by
  intro d
  induction d with
  | zero =>
    intro i m0 hi hm
    obtain ⟨m0, rfl⟩ : ∃ m, m0 = m + 1 := ⟨m0 - 1, by omega⟩
    rw [tiltyardref01_Same_l2_eq]
    have e : i = S.length := by omega
    subst e
    simp only [ptr] at *
    simp only [offV_ptr, loadV_ptr, hA, loadM_cells, partV_one, Nat.zero_add, List.getElem?_cons_succ, List.getElem?_cons_zero, bindV_some, F.2.1.len, binV_lss, condK_bool, Int.lt_irrefl, decide_false, Bool.false_eq_true, if_false, idG_eq]
    exact H
  | succ d ih =>
    intro i m0 hi hm
    obtain ⟨m0, rfl⟩ : ∃ m, m0 = m + 1 := ⟨m0 - 1, by omega⟩
    rw [tiltyardref01_Same_l2_eq]
    have hlt : (i : Int) < S.length := by omega
    obtain ⟨b, o, g1, g2, g3, cs, own, g4, g5⟩ := F.2.1.idx (Int.natCast_nonneg i) hlt .i64
    have g6 := takeN_get g5 (j := 0) (by omega)
    simp [rowT] at g6
    obtain ⟨b', o', g1', g2', g3', cs', own', g4', g5'⟩ := G.2.1.idx (Int.natCast_nonneg i) hlt .i64
    have g6' := takeN_get g5' (j := 0) (by omega)
    simp [rowT] at g6'
    have ihh := ih (i + 1) m0 (by omega) (by omega)
    simp only [ptr] at *
    simp only [offV_ptr, loadV_ptr, hA, hB, loadM_cells, partV_one, Nat.zero_add, List.getElem?_cons_succ, List.getElem?_cons_zero, bindV_some, F.2.1.len, binV_lss, condK_bool, hlt, decide_true, if_true, idG_eq, g1, g4, g6, g1', g4', g6', binV_text_ne, beq_self_eq_true, Bool.not_true, Bool.false_eq_true, if_false, true_and, binNil_int, binV_add, inc (show i ≤ 1000000 by omega)]
    exact ihh
theorem same_l0 (hA : h.objs pa = some (.cells [vN, vS, vL] true)) (hB : h.objs pb = some (.cells [wN, wS, wL] true)) (F : FieldsAt V h vN vS vL lv N S L) (G : FieldsAt V' h wN wS wL lw N S L) (hN : N.length ≤ 1000) {x6 x7 x8 : Value} (H : tiltyardref01_Same_j1 (tabC []) idG nn (ptr pa) (ptr pb) x4 (.int .i64 N.length) x6 x7 x8 h K) :
    ∀ (d i m0 : Nat), i + d = N.length → d < m0 → tiltyardref01_Same_l0 (tabC []) idG nn m0 (ptr pa) (ptr pb) x4 (.int .i64 i) x6 x7 x8 h K := by
  intro d
  induction d with
  | zero =>
    intro i m0 hi hm
    obtain ⟨m0, rfl⟩ : ∃ m, m0 = m + 1 := ⟨m0 - 1, by omega⟩
    rw [tiltyardref01_Same_l0_eq]
    have e : i = N.length := by omega
    subst e
    simp only [ptr] at *
    simp only [offV_ptr, loadV_ptr, hA, loadM_cells, partV_one, Nat.zero_add, List.getElem?_cons_succ, List.getElem?_cons_zero, bindV_some, F.1.len, binV_lss, condK_bool, Int.lt_irrefl, decide_false, Bool.false_eq_true, if_false, idG_eq]
    exact H
  | succ d ih =>
    intro i m0 hi hm
    obtain ⟨m0, rfl⟩ : ∃ m, m0 = m + 1 := ⟨m0 - 1, by omega⟩
    rw [tiltyardref01_Same_l0_eq]
    have hlt : (i : Int) < N.length := by omega
    obtain ⟨b, o, g1, g2, g3, cs, own, g4, g5⟩ := F.1.idx (Int.natCast_nonneg i) hlt .i64
    have g6 := takeN_get g5 (j := 0) (by omega)
    simp [rowQ] at g6
    obtain ⟨b', o', g1', g2', g3', cs', own', g4', g5'⟩ := G.1.idx (Int.natCast_nonneg i) hlt .i64
    have g6' := takeN_get g5' (j := 0) (by omega)
    simp [rowQ] at g6'
    have ihh := ih (i + 1) m0 (by omega) (by omega)
    simp only [ptr] at *
    simp only [offV_ptr, loadV_ptr, hA, hB, loadM_cells, partV_one, Nat.zero_add, List.getElem?_cons_succ, List.getElem?_cons_zero, bindV_some, F.1.len, binV_lss, condK_bool, hlt, decide_true, if_true, idG_eq, g1, g4, g6, g1', g4', g6', binV_neq, ne_eq, not_true_eq_false, decide_false, Bool.false_eq_true, if_false, true_and, binNil_int, binV_add, inc (show i ≤ 1000000 by omega)]
    exact ihh
end same
def sameS : Abs.Spec := fun args h k => ∃ (V V' : Nat → Prop) (vN vS vL wN wS wL : Value) (lv lw : Nat → Value) (N : List Nat) (S : List ByteArray) (L : List (List Nat)), args = [.agg #[vN, vS, vL], .agg #[wN, wS, wL]] ∧ FieldsAt V h vN vS vL lv N S L ∧ FieldsAt V' h wN wS wL lw N S L ∧
  N.length ≤ 1000 ∧ S.length ≤ 1000 ∧ L.length ≤ 1000 ∧ (∀ l ∈ L, l.length ≤ 1000) ∧ ∀ h', Chg h h' [] → k (.bool true) h'
theorem sameS_good : SpecGood Tryd.prog (35, sameS) := by
  refine spec_good mixed Tryd.func35 (by kernel_rfl) (by kernel_rfl) (tab := []) (by simp) (keep := tiltyardref01_Same_keep) ?_
  rintro args h k ⟨V, V', vN, vS, vL, wN, wS, wL, lv, lw, N, S, L, rfl, F, G, hN, hS, hL, hl, H⟩
  refine ⟨3000, ?_⟩
  show tiltyardref01_Same (tabC []) idG 3000 (.agg #[vN, vS, vL]) (.agg #[wN, wS, wL]) h _
  rw [tiltyardref01_Same_eq]
  have o1 := F.1.one; have o2 := F.2.1.one; have o3 := F.2.2.1.one; have p1 := G.1.one; have p2 := G.2.1.one; have p3 := G.2.2.1.one
  simp only [boxE_eq, cells_agg]
  refine ⟨by simp [o1, o2, o3], by simp [p1, p2, p3], ?_⟩
  obtain ⟨g, hg⟩ : ∃ g, g = (h.push (.cells #[vN, vS, vL].toList true)).push (.cells #[wN, wS, wL].toList true) := ⟨_, rfl⟩
  have cg : Chg h g [] := by rw [hg]; exact (Chg.push _ []).of_push
  have hA : g.objs h.next = some (.cells [vN, vS, vL] true) := by rw [hg, push_ne (by simp)]; exact push_at _ _
  have hB : g.objs (h.next + 1) = some (.cells [wN, wS, wL] true) := by rw [hg]; exact push_at (h.push _) _
  simp only [push_next]
  rw [← hg]
  clear hg
  have F' := F.chgP (D := fun _ => False) (cg.toP (by simp)) (fun _ h => h.elim)
  have G' := G.chgP (D := fun _ => False) (cg.toP (by simp)) (fun _ h => h.elim)
  have l1 := F'.1.len; have l2 := F'.2.1.len; have l3 := F'.2.2.1.len; have m1 := G'.1.len; have m2 := G'.2.1.len; have m3 := G'.2.2.1.len
  simp only [offV_ptr, loadV_ptr, hA, hB, loadM_cells, partV_one, Nat.zero_add, List.getElem?_cons_succ, List.getElem?_cons_zero, bindV_some, l1, l2, l3, m1, m2, m3, binV_neq, ne_eq, not_true_eq_false, decide_false, groupK_eq, guardK_bool, if_true, getT, pickV_bool, Bool.false_eq_true, if_false, idG_eq, condK_bool]
  refine same_l0 hA hB F' G' hN ?_ N.length 0 3000 (by omega) (by omega)
  rw [tiltyardref01_Same_j1_eq]
  simp only [idG_eq]
  refine same_l2 hA hB F' G' hS ?_ S.length 0 3000 (by omega) (by omega)
  rw [tiltyardref01_Same_j3_eq]
  simp only [idG_eq]
  exact same_l4 hA hB F' G' hL hl ⟨_, St.le.refl _, H g cg⟩ L.length 0 3000 _ (by omega) (by omega)

end Go.Proofs.YtdmcmebfclikgaaDoor

/- The document's 'Read', walked. -/
set_option linter.unusedSimpArgs false
set_option linter.unusedVariables false
set_option maxHeartbeats 4000000
namespace Go.Proofs.YtdmcmebfclikgaaDoor
open Go.Abs Go.IntWalk

/-- As 'GAt': the fields alone stand in the cells; beside them the result's cells, of the colour 7. -/
structure RAt (col : Nat → Nat) (N0 : Nat) (h : St) (q r : Nat) (vB vN vS vL : Value) (LV : List Value) (st : RSt) : Prop where
  next : N0 ≤ h.next
  qn : q < h.next
  cq : col q = 9
  old : ∀ i, i < N0 → col i = 8
  obj : h.objs q = some (.cells [vN, vS, vL] true)
  rn : r < h.next
  cr : col r = 7
  ro : h.objs r = some (.cells [.slice none 0 0, .slice none 0 0, .slice none 0 0] true)
  sB : SliceAt (col · = 8) h vB st.b.length 1 (rowC st.b)
  sN : OwnS (col · = 0) h vN 1 (st.N.map qc) st.N.length
  sS : OwnS (col · = 1) h vS 1 (st.S.map Value.string) st.S.length
  sL : OwnS (col · = 2) h vL 1 LV st.L.length
  sX : ∀ (i : Nat) (l : List Nat), st.L[i]? = some l → ∃ v, LV[i]? = some v ∧ SliceAt (col · = 10 + i) h v l.length 1 (rowU l)
theorem RAt.upd {col : Nat → Nat} {N0 q r j x : Nat} {h : St} {vB vN vS vL : Value} {LV : List Value} {st : RSt} (g : RAt col N0 h q r vB vN vS vL LV st) (hj : h.next ≤ j) : RAt (upd col j x) N0 h q r vB vN vS vL LV st :=
  ⟨g.next, g.qn, (upd_ne (by have := g.qn; omega)).trans g.cq, fun i hi => (upd_ne (by have := g.next; omega)).trans (g.old i hi), g.obj, g.rn, (upd_ne (by have := g.rn; omega)).trans g.cr, g.ro, at_upd g.sB hj, own_upd g.sN hj, own_upd g.sS hj, own_upd g.sL hj, fun i l hl => by
    obtain ⟨v, h1, h2⟩ := g.sX i l hl
    exact ⟨v, h1, at_upd h2 hj⟩⟩
theorem RAt.chg {col : Nat → Nat} {N0 q r a : Nat} {h h' : St} {vB vN vS vL : Value} {LV : List Value} {st : RSt} (g : RAt col N0 h q r vB vN vS vL LV st) {S : List Nat} (c : Chg h h' S) (hS : ∀ i ∈ S, col i = a) (ha : 10 + st.L.length ≤ a) : RAt col N0 h' q r vB vN vS vL LV st :=
  ⟨Nat.le_trans g.next c.1, Nat.lt_of_lt_of_le g.qn c.1, g.cq, g.old, c.at g.qn (fun hi => by have h1 := hS _ hi; have h2 := g.cq; omega) g.obj, Nat.lt_of_lt_of_le g.rn c.1, g.cr, c.at g.rn (fun hi => by have h1 := hS _ hi; have h2 := g.cr; omega) g.ro, keep_at g.sB c hS (by omega), keep_own g.sN c hS (by omega), keep_own g.sS c hS (by omega), keep_own g.sL c hS (by omega), fun i l hl => by
    obtain ⟨v, h1, h2⟩ := g.sX i l hl
    have : i < st.L.length := (List.getElem?_eq_some_iff.1 hl).1
    exact ⟨v, h1, keep_at h2 c hS (by omega)⟩⟩
theorem nltR_q {col : Nat → Nat} {N0 q r : Nat} {h : St} {vB vN vS vL : Value} {LV : List Value} {st : RSt} (g : RAt col N0 h q r vB vN vS vL LV st) : ∀ i ∈ [q], ¬ i < N0 := by
  intro i hi hlt
  simp at hi; subst hi
  have h1 := g.old i hlt
  have h2 := g.cq
  omega
theorem RAt.hq {col : Nat → Nat} {N0 q r : Nat} {h : St} {vB vN vS vL : Value} {LV : List Value} {st : RSt} (g : RAt col N0 h q r vB vN vS vL LV st) : ∀ i ∈ [q], col i = 9 := by intro i hi; simp at hi; subst hi; exact g.cq
/-- A number more. -/
theorem RAt.addN {col : Nat → Nat} {N0 q r : Nat} {h h1 : St} {vB vN vS vL : Value} {LV : List Value} {st : RSt} (g : RAt col N0 h q r vB vN vS vL LV st) {S : List Nat} (c1 : Chg h h1 S) (hS : ∀ i ∈ S, col i = 0) {j : Nat} {x : Nat} {v : Value} (hj : h.next ≤ j) (o : OwnS (· = j) h1 v 1 (st.N.map qc ++ [qc x]) (st.N.length + 1)) :
    ChgP (fun i => ¬ i < N0) h (h1.set q (.cells [v, vS, vL] true)) ∧ RAt (YtdmcmebfclikgaaDoor.upd col j 0) N0 (h1.set q (.cells [v, vS, vL] true)) q r vB v vS vL LV ⟨st.b, st.sh, st.N ++ [x], st.S, st.L⟩ := by
  have c2 : Chg h1 (h1.set q (.cells [v, vS, vL] true)) [q] := Chg.set _ (by simp)
  have hqj : q ≠ j := by have := g.qn; omega
  have hrj : r ≠ j := by have := g.rn; omega
  have hrq : r ≠ q := by intro e; have h1 := g.cr; have h2 := g.cq; rw [e] at h1; omega
  have hrS : r ∉ S := fun hi => by have h1 := hS _ hi; have h2 := g.cr; omega
  have n1 := g.next; have n2 := c1.1; have n3 := g.qn
  have hS' : ∀ i ∈ S, YtdmcmebfclikgaaDoor.upd col j 0 i = 0 := by
    intro i hi
    by_cases e : i = j
    · subst e; exact upd_at _ _ _
    · exact (upd_ne e).trans (hS i hi)
  have hq' : ∀ i ∈ [q], YtdmcmebfclikgaaDoor.upd col j 0 i = 9 := by intro i hi; simp at hi; subst hi; exact (upd_ne hqj).trans g.cq
  have o' : OwnS (YtdmcmebfclikgaaDoor.upd col j 0 · = 0) h1 v 1 (st.N.map qc ++ [qc x]) (st.N.length + 1) := o.imp fun i _ hi => by have hi : i = j := hi; subst hi; exact upd_at _ _ _
  refine ⟨(c1.toP (nlt_c g.old (by decide) hS)).step (c2.toP (nltR_q g)), by simp; omega, by simp; omega, (upd_ne hqj).trans g.cq, fun i hi => (upd_ne (by omega)).trans (g.old i hi), set_at _ _ _, Nat.lt_of_lt_of_le g.rn n2, (upd_ne hrj).trans g.cr, ?_, ?_, ?_, ?_, ?_, ?_⟩
  · rw [set_ne hrq]; exact c1.at g.rn hrS g.ro
  · exact keep_at (keep_at (at_upd g.sB hj) c1 hS' (by decide)) c2 hq' (by decide)
  · simpa using keep_own o' c2 hq' (by decide)
  · exact keep_own (keep_own (own_upd g.sS hj) c1 hS' (by decide)) c2 hq' (by decide)
  · exact keep_own (keep_own (own_upd g.sL hj) c1 hS' (by decide)) c2 hq' (by decide)
  · intro i l hl
    obtain ⟨w, h1, h2⟩ := g.sX i l hl
    exact ⟨w, h1, keep_at (keep_at (at_upd h2 hj) c1 hS' (by omega)) c2 hq' (by omega)⟩
/-- A text more. -/
theorem RAt.addS {col : Nat → Nat} {N0 q r : Nat} {h h1 : St} {vB vN vS vL : Value} {LV : List Value} {st : RSt} (g : RAt col N0 h q r vB vN vS vL LV st) {S : List Nat} (c1 : Chg h h1 S) (hS : ∀ i ∈ S, col i = 1) {j : Nat} {x : ByteArray} {v : Value} (hj : h.next ≤ j) (o : OwnS (· = j) h1 v 1 (st.S.map Value.string ++ [.string x]) (st.S.length + 1)) :
    ChgP (fun i => ¬ i < N0) h (h1.set q (.cells [vN, v, vL] true)) ∧ RAt (YtdmcmebfclikgaaDoor.upd col j 1) N0 (h1.set q (.cells [vN, v, vL] true)) q r vB vN v vL LV ⟨st.b, st.sh, st.N, st.S ++ [x], st.L⟩ := by
  have c2 : Chg h1 (h1.set q (.cells [vN, v, vL] true)) [q] := Chg.set _ (by simp)
  have hqj : q ≠ j := by have := g.qn; omega
  have hrj : r ≠ j := by have := g.rn; omega
  have hrq : r ≠ q := by intro e; have h1 := g.cr; have h2 := g.cq; rw [e] at h1; omega
  have hrS : r ∉ S := fun hi => by have h1 := hS _ hi; have h2 := g.cr; omega
  have n1 := g.next; have n2 := c1.1; have n3 := g.qn
  have hS' : ∀ i ∈ S, YtdmcmebfclikgaaDoor.upd col j 1 i = 1 := by
    intro i hi
    by_cases e : i = j
    · subst e; exact upd_at _ _ _
    · exact (upd_ne e).trans (hS i hi)
  have hq' : ∀ i ∈ [q], YtdmcmebfclikgaaDoor.upd col j 1 i = 9 := by intro i hi; simp at hi; subst hi; exact (upd_ne hqj).trans g.cq
  have o' : OwnS (YtdmcmebfclikgaaDoor.upd col j 1 · = 1) h1 v 1 (st.S.map Value.string ++ [.string x]) (st.S.length + 1) := o.imp fun i _ hi => by have hi : i = j := hi; subst hi; exact upd_at _ _ _
  refine ⟨(c1.toP (nlt_c g.old (by decide) hS)).step (c2.toP (nltR_q g)), by simp; omega, by simp; omega, (upd_ne hqj).trans g.cq, fun i hi => (upd_ne (by omega)).trans (g.old i hi), set_at _ _ _, Nat.lt_of_lt_of_le g.rn n2, (upd_ne hrj).trans g.cr, ?_, ?_, ?_, ?_, ?_, ?_⟩
  · rw [set_ne hrq]; exact c1.at g.rn hrS g.ro
  · exact keep_at (keep_at (at_upd g.sB hj) c1 hS' (by decide)) c2 hq' (by decide)
  · exact keep_own (keep_own (own_upd g.sN hj) c1 hS' (by decide)) c2 hq' (by decide)
  · simpa using keep_own o' c2 hq' (by decide)
  · exact keep_own (keep_own (own_upd g.sL hj) c1 hS' (by decide)) c2 hq' (by decide)
  · intro i l hl
    obtain ⟨w, h1, h2⟩ := g.sX i l hl
    exact ⟨w, h1, keep_at (keep_at (at_upd h2 hj) c1 hS' (by omega)) c2 hq' (by omega)⟩
/-- A list more. -/
theorem RAt.addL {col : Nat → Nat} {N0 q r : Nat} {h h1 : St} {vB vN vS vL : Value} {LV : List Value} {st : RSt} (g : RAt col N0 h q r vB vN vS vL LV st) {S : List Nat} (c1 : Chg h h1 S) (hS : ∀ i ∈ S, col i = 2) {j : Nat} {x5 : Value} {x : List Nat} {v : Value} (hj : h.next ≤ j) (o : OwnS (· = j) h1 v 1 (LV ++ [x5]) (st.L.length + 1)) (sx : SliceAt (col · = 10 + st.L.length) h x5 x.length 1 (rowU x)) :
    ChgP (fun i => ¬ i < N0) h (h1.set q (.cells [vN, vS, v] true)) ∧ RAt (YtdmcmebfclikgaaDoor.upd col j 2) N0 (h1.set q (.cells [vN, vS, v] true)) q r vB vN vS v (LV ++ [x5]) ⟨st.b, st.sh, st.N, st.S, st.L ++ [x]⟩ := by
  have c2 : Chg h1 (h1.set q (.cells [vN, vS, v] true)) [q] := Chg.set _ (by simp)
  have hqj : q ≠ j := by have := g.qn; omega
  have hrj : r ≠ j := by have := g.rn; omega
  have hrq : r ≠ q := by intro e; have h1 := g.cr; have h2 := g.cq; rw [e] at h1; omega
  have hrS : r ∉ S := fun hi => by have h1 := hS _ hi; have h2 := g.cr; omega
  have n1 := g.next; have n2 := c1.1; have n3 := g.qn
  have hS' : ∀ i ∈ S, YtdmcmebfclikgaaDoor.upd col j 2 i = 2 := by
    intro i hi
    by_cases e : i = j
    · subst e; exact upd_at _ _ _
    · exact (upd_ne e).trans (hS i hi)
  have hq' : ∀ i ∈ [q], YtdmcmebfclikgaaDoor.upd col j 2 i = 9 := by intro i hi; simp at hi; subst hi; exact (upd_ne hqj).trans g.cq
  have o' : OwnS (YtdmcmebfclikgaaDoor.upd col j 2 · = 2) h1 v 1 (LV ++ [x5]) (st.L.length + 1) := o.imp fun i _ hi => by have hi : i = j := hi; subst hi; exact upd_at _ _ _
  refine ⟨(c1.toP (nlt_c g.old (by decide) hS)).step (c2.toP (nltR_q g)), by simp; omega, by simp; omega, (upd_ne hqj).trans g.cq, fun i hi => (upd_ne (by omega)).trans (g.old i hi), set_at _ _ _, Nat.lt_of_lt_of_le g.rn n2, (upd_ne hrj).trans g.cr, ?_, ?_, ?_, ?_, ?_, ?_⟩
  · rw [set_ne hrq]; exact c1.at g.rn hrS g.ro
  · exact keep_at (keep_at (at_upd g.sB hj) c1 hS' (by decide)) c2 hq' (by decide)
  · exact keep_own (keep_own (own_upd g.sN hj) c1 hS' (by decide)) c2 hq' (by decide)
  · exact keep_own (keep_own (own_upd g.sS hj) c1 hS' (by decide)) c2 hq' (by decide)
  · simpa using keep_own o' c2 hq' (by decide)
  · intro i l hl
    by_cases hi : i < st.L.length
    · rw [List.getElem?_append_left hi] at hl
      obtain ⟨w, h1, h2⟩ := g.sX i l hl
      have hlv : i < LV.length := (List.getElem?_eq_some_iff.1 h1).1
      exact ⟨w, by rw [List.getElem?_append_left hlv]; exact h1, keep_at (keep_at (at_upd h2 hj) c1 hS' (by omega)) c2 hq' (by omega)⟩
    · have hi' : i = st.L.length := by
        have := (List.getElem?_eq_some_iff.1 hl).1
        simp at this; omega
      subst hi'
      simp at hl
      subst hl
      refine ⟨x5, ?_, keep_at (keep_at (at_upd sx hj) c1 hS' (by omega)) c2 hq' (by omega)⟩
      have e := own_count g.sL
      rw [← e]
      simp
end Go.Proofs.YtdmcmebfclikgaaDoor
