/- The plain laws of reading and writing. -/
import Derived.Test.YtiaijbkmgajieaaK
set_option linter.unusedSimpArgs false
set_option linter.unusedVariables false
set_option maxHeartbeats 4000000
namespace Go.Proofs.Ytiaijbkmgajieaa
open Go.Abs Go.IntWalk

theorem short_out {pre r : List Nat} {w : Nat} (h : pre.length = w) : outZ (pre ++ r) w = pre ∧ leftZ (pre ++ r) w = r ∧ ∀ sh, shortZ (pre ++ r) sh w = sh := by
  subst h
  have n : ¬ pre.length > (pre ++ r).length := by simp
  refine ⟨?_, ?_, fun sh => ?_⟩
  · rw [outZ, if_neg n, List.take_left']; rfl
  · rw [leftZ, if_neg n, List.drop_left']; rfl
  · rw [shortZ, if_neg n]
theorem short_true (b : List Nat) (w : Nat) : shortZ b true w = true := by unfold shortZ; split <;> rfl
theorem short_lt {b : List Nat} {w : Nat} (h : b.length < w) (sh : Bool) : shortZ b sh w = true := by unfold shortZ; rw [if_pos h]
theorem short_false {b : List Nat} {sh : Bool} {w : Nat} (h : shortZ b sh w = false) : w ≤ b.length ∧ sh = false ∧ b = b.take w ++ b.drop w ∧ (b.take w).length = w := by
  unfold shortZ at h
  split at h
  · cases h
  · exact ⟨by omega, h, (List.take_append_drop _ _).symm, by simp; omega⟩
theorem list_true : ∀ (k : Nat) (b l : List Nat), (listZ k b true l).2.1 = true
  | 0, _, _ => rfl
  | k + 1, b, l => by simp [listZ]
theorem list_done : ∀ (k : Nat) (b : List Nat) (sh : Bool) (l : List Nat), (listZ k b sh l).2.1 = false → (listZ k b sh l).2.2.2 = true
  | 0, _, _, _, _ => rfl
  | k + 1, b, sh, l, h => by
    simp only [listZ] at h ⊢
    split
    · rename_i hs; rw [if_pos hs] at h; rw [hs] at h; cases h
    · rename_i hs; rw [if_neg hs] at h; exact list_done k _ _ _ h
theorem putB_numB : ∀ (l : List Nat), (∀ x ∈ l, x < 256) → putB (numB l) l.length = l
  | [], _ => rfl
  | c :: l, h => by
    have ih := putB_numB l fun x hx => h x (by simp [hx])
    have hl := numB_lt l fun x hx => h x (by simp [hx])
    have hc := h c (by simp)
    have hp : 0 < 256 ^ l.length := Nat.lt_of_le_of_lt (Nat.zero_le _) hl
    rw [List.length_cons, putB, numB_cons]
    have e1 : (c * 256 ^ l.length + numB l) / 256 ^ l.length = c := by
      rw [Nat.add_comm, Nat.add_mul_div_right _ _ hp, Nat.div_eq_of_lt hl, Nat.zero_add]
    have e2 : putB (c * 256 ^ l.length + numB l) l.length = putB (numB l) l.length := by
      rw [← putB_mod (c * 256 ^ l.length + numB l) l.length l.length (Nat.le_refl _), Nat.add_comm, Nat.add_mul_mod_self_right, Nat.mod_eq_of_lt hl]
    rw [e1, e2, ih, Nat.mod_eq_of_lt hc]
theorem list_law : ∀ (k : Nat) (b l : List Nat) (sh : Bool), (∀ x ∈ b, x < 256) → (listZ k b sh l).2.1 = false → ∃ pre ln r, b = pre ++ r ∧ sh = false ∧ pre.length = 4 * k ∧ ln.length = k ∧ (∀ x ∈ ln, x < 4294967296) ∧ (ln.flatMap fun x => putB x 4) = pre ∧
    (∀ r' l', listZ k (pre ++ r') false l' = (r', false, l' ++ ln, true)) ∧ listZ k b sh l = (r, false, l ++ ln, true) ∧ ∀ j l', j < pre.length → (listZ k (pre.take j) false l').2.1 = true
  | 0, b, l, sh, hx, h => by
    simp only [listZ] at h
    refine ⟨[], [], b, rfl, h, rfl, rfl, by simp, rfl, fun r' l' => by simp [listZ], by simp [listZ, h], fun j l' hj => by simp at hj⟩
  | k + 1, b, l, sh, hx, h => by
    simp only [listZ] at h
    split at h
    · rename_i hs; rw [hs] at h; cases h
    · rename_i hs
      have hs : sh = false := by simpa using hs
      have hx' : ∀ x ∈ leftZ b 4, x < 256 := fun x h => hx x (leftZ_mem h)
      obtain ⟨pre, ln, r, e1, e2, e3, e4, e5, e6, e7, e8, e9⟩ := list_law k _ _ _ hx' h
      obtain ⟨s1, _, s3, s4⟩ := short_false e2
      obtain ⟨o1, o2, o3⟩ := short_out (pre := b.take 4) (r := b.drop 4) s4
      rw [← s3] at o1 o2
      have hp4 : ∀ x ∈ b.take 4, x < 256 := fun x h => hx x (List.mem_of_mem_take h)
      have hn4 := numB_lt (b.take 4) hp4
      rw [s4] at hn4
      have hpb := putB_numB (b.take 4) hp4
      rw [s4] at hpb
      rw [o2] at e1
      have p4 : 256 ^ 4 = 4294967296 := by decide
      rw [p4] at hn4
      refine ⟨b.take 4 ++ pre, numB (b.take 4) :: ln, r, ?_, hs, ?_, by simp [e4], ?_, ?_, ?_, ?_, ?_⟩
      · rw [List.append_assoc, ← e1]; exact s3
      · rw [List.length_append, s4, e3]; omega
      · intro x hx; rcases List.mem_cons.1 hx with rfl | hx
        · exact hn4
        · exact e5 x hx
      · rw [List.flatMap_cons, e6, hpb]
      · intro r' l'
        obtain ⟨q1, q2, q3⟩ := short_out (pre := b.take 4) (r := pre ++ r') s4
        simp only [listZ, Bool.false_eq_true, if_false, List.append_assoc, q1, q2, q3]
        rw [e7]
        simp
      · simp only [listZ, hs, Bool.false_eq_true, if_false]
        rw [hs] at e8
        rw [e8, o1]
        simp
      · intro j l' hj
        by_cases h4 : j < 4
        · have hl : ((b.take 4 ++ pre).take j).length < 4 := by rw [List.length_take]; omega
          simp only [listZ, Bool.false_eq_true, if_false, short_lt hl]
          exact list_true _ _ _
        · have et : (b.take 4 ++ pre).take j = b.take 4 ++ pre.take (j - 4) := by rw [List.take_append, s4, List.take_of_length_le (by omega)]
          obtain ⟨q1, q2, q3⟩ := short_out (pre := b.take 4) (r := pre.take (j - 4)) s4
          rw [et]
          simp only [listZ, Bool.false_eq_true, if_false, q1, q2, q3]
          exact e9 (j - 4) _ (by rw [List.length_append, s4] at hj; omega)
theorem letters_text {l : List Nat} (h : ∀ x ∈ l, x < 256) : letters (bytesText l) = l := by
  unfold letters bytesText
  simp only [List.map_map]
  conv => rhs; rw [← List.map_id l]
  apply List.map_congr_left
  intro x hx
  have := h x hx
  simp [Function.comp, UInt8.toNat_ofNat', Nat.mod_eq_of_lt this]
theorem text_size (l : List Nat) : (bytesText l).size = l.length := by simp [bytesText, ByteArray.size]

/-- What one letter reads, bears on bytes that begin so, and what is written of it is what was read. -/
structure Item (c : Nat) (st : RSt) (pre : List Nat) (n : List Nat) (s : List ByteArray) (l : List (List Nat)) : Prop where
  all : ∀ r' N S L, fieldZ c ⟨pre ++ r', false, N, S, L⟩ = ⟨r', false, N ++ n, S ++ s, L ++ l⟩
  cut : ∀ j N S L, j < pre.length → (fieldZ c ⟨pre.take j, false, N, S, L⟩).sh = true
  small : SmallF n s l
  cs : cnt 115 [c] = s.length
  cl : cnt 108 [c] = l.length
  len : n.length + s.length + l.length = 1
  wr1 : ∀ cs N S L out, wr (c :: cs) (n ++ N) (s ++ S) (l ++ L) (0, out) = wr cs N S L (0, out ++ pre)
theorem item_law {c : Nat} {st : RSt} (hx : ∀ x ∈ st.b, x < 256) (h : (fieldZ c st).sh = false) : st.sh = false ∧ ∃ pre n s l, st.b = pre ++ (fieldZ c st).b ∧ fieldZ c st = ⟨(fieldZ c st).b, false, st.N ++ n, st.S ++ s, st.L ++ l⟩ ∧ Item c st pre n s l := by
  by_cases t1 : c = 115
  · have hw : wd c = 1 := by rw [t1]; rfl
    have ef : ∀ st, fieldZ c st = ⟨leftZ (leftZ st.b 1) (numB (outZ st.b 1)), shortZ (leftZ st.b 1) (shortZ st.b st.sh 1) (numB (outZ st.b 1)), st.N, st.S ++ [bytesText (outZ (leftZ st.b 1) (numB (outZ st.b 1)))], st.L⟩ := by
      intro st; unfold fieldZ; rw [if_pos t1, hw]
    rw [ef] at h ⊢
    simp only at h ⊢
    obtain ⟨a1, a2, a3, a4⟩ := short_false h
    obtain ⟨b1, b2, b3, b4⟩ := short_false a2
    obtain ⟨o1, o2, _⟩ := short_out (pre := st.b.take 1) (r := st.b.drop 1) b4
    rw [← b3] at o1 o2
    rw [o1, o2] at a1 a3 a4 h ⊢
    generalize hp : st.b.take 1 = p1 at *
    generalize hd : st.b.drop 1 = b1' at *
    generalize hn : numB p1 = n at *
    obtain ⟨o4, o5, _⟩ := short_out (pre := b1'.take n) (r := b1'.drop n) a4
    rw [← a3] at o4 o5
    have hp1 : ∀ x ∈ p1, x < 256 := fun x h => hx x (by rw [b3]; exact List.mem_append_left _ h)
    have hp2 : ∀ x ∈ b1'.take n, x < 256 := fun x h => hx x (by rw [b3]; exact List.mem_append_right _ (List.mem_of_mem_take h))
    have hn1 := numB_lt p1 hp1
    rw [b4, hn] at hn1
    have hpb := putB_numB p1 hp1
    rw [b4, hn] at hpb
    refine ⟨b2, p1 ++ b1'.take n, [], [bytesText (b1'.take n)], [], ?_, ?_, ?_⟩
    · rw [o5, List.append_assoc, ← a3]; exact b3
    · rw [o4, o5, h]; simp
    · refine ⟨fun r' N S L => ?_, fun j N S L hj => ?_, ⟨by simp, by simp [text_size]; omega, by simp⟩, by simp [cnt, t1], by simp [cnt, t1], rfl, fun cs N S L out => ?_⟩
      · rw [ef]
        obtain ⟨q1, q2, q3⟩ := short_out (pre := p1) (r := b1'.take n ++ r') b4
        obtain ⟨q4, q5, q6⟩ := short_out (pre := b1'.take n) (r := r') a4
        simp only [List.append_assoc, q1, q2, q3, hn, q4, q5, q6]
        simp
      · rw [ef]
        simp only
        by_cases hj1 : j < 1
        · have hl : ((p1 ++ b1'.take n).take j).length < 1 := by rw [List.length_take]; omega
          rw [short_lt hl]
          exact short_true _ _
        · have et : (p1 ++ b1'.take n).take j = p1 ++ (b1'.take n).take (j - 1) := by rw [List.take_append, b4, List.take_of_length_le (by omega)]
          obtain ⟨q1, q2, q3⟩ := short_out (pre := p1) (r := (b1'.take n).take (j - 1)) b4
          rw [et, q1, q2, q3, hn]
          refine short_lt ?_ _
          rw [List.length_append, b4, a4] at hj
          rw [List.length_take]
          omega
      · simp only [wr, t1, if_true, List.cons_append, List.nil_append, text_size, a4, letters_text hp2, hpb]
        have he : errN 0 n 1 = 0 := by simp [errN]; omega
        rw [he, List.append_assoc]
  · by_cases t2 : c = 108
    · have hw : wd c = 1 := by rw [t2]; rfl
      have ef : ∀ st, fieldZ c st = if (listZ (numB (outZ st.b 1)) (leftZ st.b 1) (shortZ st.b st.sh 1) []).2.2.2 = true
          then ⟨(listZ (numB (outZ st.b 1)) (leftZ st.b 1) (shortZ st.b st.sh 1) []).1, (listZ (numB (outZ st.b 1)) (leftZ st.b 1) (shortZ st.b st.sh 1) []).2.1, st.N, st.S, st.L ++ [(listZ (numB (outZ st.b 1)) (leftZ st.b 1) (shortZ st.b st.sh 1) []).2.2.1]⟩
          else ⟨(listZ (numB (outZ st.b 1)) (leftZ st.b 1) (shortZ st.b st.sh 1) []).1, (listZ (numB (outZ st.b 1)) (leftZ st.b 1) (shortZ st.b st.sh 1) []).2.1, st.N, st.S, st.L⟩ := by
        intro st; unfold fieldZ; rw [if_neg t1, if_pos t2, hw]
      have esh : ∀ st, (fieldZ c st).sh = (listZ (numB (outZ st.b 1)) (leftZ st.b 1) (shortZ st.b st.sh 1) []).2.1 := by
        intro st; rw [ef]; split <;> rfl
      rw [esh] at h
      have hx' : ∀ x ∈ leftZ st.b 1, x < 256 := fun x h => hx x (leftZ_mem h)
      obtain ⟨pre, ln, r, e1, e2, e3, e4, e5, e6, e7, e8, e9⟩ := list_law _ _ _ _ hx' h
      obtain ⟨b1, b2, b3, b4⟩ := short_false e2
      obtain ⟨o1, o2, _⟩ := short_out (pre := st.b.take 1) (r := st.b.drop 1) b4
      rw [← b3] at o1 o2
      have e8' := e8
      rw [ef, e8]
      simp only [if_true]
      rw [o2] at e1
      rw [o1] at e3 e4
      simp only [o1] at e7 e9
      generalize hp : st.b.take 1 = p1 at *
      generalize hd : st.b.drop 1 = b1' at *
      generalize hn : numB p1 = n at *
      have hp1 : ∀ x ∈ p1, x < 256 := fun x h => hx x (by rw [b3]; exact List.mem_append_left _ h)
      have hn1 := numB_lt p1 hp1
      rw [b4, hn] at hn1
      have hpb := putB_numB p1 hp1
      rw [b4, hn] at hpb
      refine ⟨b2, p1 ++ pre, [], [], [ln], ?_, by simp, ?_⟩
      · rw [List.append_assoc, ← e1]; exact b3
      · refine ⟨fun r' N S L => ?_, fun j N S L hj => ?_, ⟨by simp, by simp, by simp; exact ⟨by omega, e5⟩⟩, by simp [cnt, t2], by simp [cnt, t2], rfl, fun cs N S L out => ?_⟩
        · rw [ef]
          obtain ⟨q1, q2, q3⟩ := short_out (pre := p1) (r := pre ++ r') b4
          simp only [List.append_assoc, q1, q2, q3, hn, e7]
          simp
        · rw [esh]
          simp only
          by_cases hj1 : j < 1
          · have hl : ((p1 ++ pre).take j).length < 1 := by rw [List.length_take]; omega
            rw [short_lt hl]
            exact list_true _ _ _
          · have et : (p1 ++ pre).take j = p1 ++ pre.take (j - 1) := by rw [List.take_append, b4, List.take_of_length_le (by omega)]
            obtain ⟨q1, q2, q3⟩ := short_out (pre := p1) (r := pre.take (j - 1)) b4
            rw [et, q1, q2, q3, hn]
            exact e9 _ _ (by rw [List.length_append, b4] at hj; omega)
        · have t3 : ¬ c = 115 := t1
          simp only [wr, t3, t2, if_true, if_false, List.cons_append, List.nil_append, e4, allOut, e6, hpb]
          rw [if_neg (by decide)]
          have he : errN 0 n 1 = 0 := by simp [errN]; omega
          rw [he]
    · have ef : ∀ st, fieldZ c st = ⟨leftZ st.b (wd c), shortZ st.b st.sh (wd c), st.N ++ [numB (outZ st.b (wd c))], st.S, st.L⟩ := by
        intro st; unfold fieldZ; rw [if_neg t1, if_neg t2]
      rw [ef] at h ⊢
      simp only at h ⊢
      obtain ⟨a1, a2, a3, a4⟩ := short_false h
      obtain ⟨o1, o2, _⟩ := short_out (pre := st.b.take (wd c)) (r := st.b.drop (wd c)) a4
      rw [← a3] at o1 o2
      have hp1 : ∀ x ∈ st.b.take (wd c), x < 256 := fun x h => hx x (List.mem_of_mem_take h)
      have hn1 := numB_lt _ hp1
      rw [a4] at hn1
      have hpb := putB_numB _ hp1
      rw [a4] at hpb
      have h8 := wd_le c
      have hn8 : numB (st.b.take (wd c)) < 18446744073709551616 := by
        have := Nat.pow_le_pow_right (n := 256) (by omega) h8
        have p8 : 256 ^ 8 = 18446744073709551616 := by decide
        rw [p8] at this
        exact Nat.lt_of_lt_of_le hn1 this
      refine ⟨a2, st.b.take (wd c), [numB (st.b.take (wd c))], [], [], by rw [o2]; exact a3, by rw [o1, o2, h]; simp, ⟨fun r' N S L => ?_, fun j N S L hj => ?_, ⟨by simpa using hn8, by simp, by simp⟩, by simp [cnt, t1], by simp [cnt, t2], rfl, fun cs N S L out => ?_⟩⟩
      · rw [ef]
        obtain ⟨q1, q2, q3⟩ := short_out (pre := st.b.take (wd c)) (r := r') a4
        simp only [q1, q2, q3]
        simp
      · rw [ef]
        exact short_lt (by rw [List.length_take]; omega) _
      · simp only [wr, t1, t2, if_false, List.cons_append, List.nil_append, hpb]
        have he : errN 0 (numB (st.b.take (wd c))) (wd c) = 0 := by simp [errN, Nat.div_eq_of_lt hn1]
        rw [he]
end Go.Proofs.Ytiaijbkmgajieaa
