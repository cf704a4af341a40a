/- Friends: the plain law. -/
import Derived.Test.YtnndflbpcemecaaFrH
set_option linter.unusedSimpArgs false
set_option linter.unusedVariables false
set_option maxHeartbeats 4000000
namespace Go.Proofs.Ytnndflbpcemecaa
open Go.Abs Go.IntWalk

/-! ### how many -/
theorem cnt_range {P Q : Nat → Bool} {y : Nat} (h : ∀ x, x ≠ y → P x = Q x) : ∀ n, ((List.range n).filter P).length + (if y < n then (Q y).toNat else 0) = ((List.range n).filter Q).length + (if y < n then (P y).toNat else 0)
  | 0 => by simp
  | n + 1 => by
    have ih := cnt_range h n
    rw [List.range_succ, List.filter_append, List.filter_append, List.length_append, List.length_append]
    by_cases e : n = y
    · subst e
      rw [if_neg (by omega), if_neg (by omega)] at ih
      rw [if_pos (by omega), if_pos (by omega)]
      cases hp : P n <;> cases hq : Q n <;> simp [hp, hq] <;> omega
    · have e2 := h n e
      have l1 : (y < n + 1) = (y < n) := propext (by omega)
      simp only [l1]
      cases hq : Q n
      · rw [hq] at e2; simp [e2, hq]; omega
      · rw [hq] at e2; simp [e2, hq]; omega
theorem ups_len {P Q : Nat → Bool} {y : Nat} (hy : rid y) (h : ∀ x, x ≠ y → P x = Q x) : (ups P).length + (Q y).toNat = (ups Q).length + (P y).toNat := by
  have := cnt_range h topId
  have yt : y < topId := by rw [topId_eq]; have := hy.2; omega
  rw [if_pos yt, if_pos yt] at this
  exact this
/-! ### two players -/
def up2 (F : Fn) (a b u v : Nat) : Fn := fun c d => if c = a ∧ d = b then u else if c = b ∧ d = a then v else F c d
def okP (w v : Nat) : Prop := (w = 0 ∧ v = 0) ∨ (w = 1 ∧ v = 0) ∨ (w = 0 ∧ v = 1) ∨ (w = 2 ∧ v = 2) ∨ (w = 4 ∧ v = 0) ∨ (w = 0 ∧ v = 4) ∨ (w = 4 ∧ v = 4)
def lk (w v : Nat) : Nat := (bit w 2).toNat + (bit w 1).toNat + (bit v 1).toNat
def bk (w : Nat) : Nat := (bit w 4).toNat
structure Inv (F : Fn) : Prop where
  self : ∀ a, F a a = 0
  pair : ∀ a b, okP (F a b) (F b a)
  few : ∀ a, cnt F a ≤ 16
  bks : ∀ a, (tos F 4 a).length ≤ 16
theorem ups_none : ups (fun _ => false) = [] := by simp [ups]
theorem inv0 : Inv fun _ _ => 0 := by
  have e : ∀ w a, tos (fun _ _ => 0) w a = [] := fun w a => by unfold tos; rw [show (fun y : Nat => bit 0 w) = fun _ => false from funext fun _ => bit_zero w]; exact ups_none
  have e2 : ∀ a, bys (fun _ _ => 0) a = [] := fun a => by unfold bys; rw [show (fun y : Nat => bit 0 1) = fun _ => false from funext fun _ => bit_zero 1]; exact ups_none
  exact ⟨fun _ => rfl, fun _ _ => .inl ⟨rfl, rfl⟩, fun a => by unfold cnt; rw [e, e, e2]; simp, fun a => by rw [e]; simp⟩
section
variable {F : Fn} {a b u v : Nat}
theorem up2_ab (ne : a ≠ b) : up2 F a b u v a b = u := by unfold up2; rw [if_pos ⟨rfl, rfl⟩]
theorem up2_ba (ne : a ≠ b) : up2 F a b u v b a = v := by
  unfold up2
  rw [if_neg (fun h => ne h.1.symm), if_pos ⟨rfl, rfl⟩]
theorem up2_no {c d : Nat} (h1 : ¬ (c = a ∧ d = b)) (h2 : ¬ (c = b ∧ d = a)) : up2 F a b u v c d = F c d := by
  unfold up2
  rw [if_neg h1, if_neg h2]
theorem tos_a (ne : a ≠ b) (rb : rid b) (w : Nat) : (tos (up2 F a b u v) w a).length + (bit (F a b) w).toNat = (tos F w a).length + (bit u w).toNat := by
  have := ups_len (P := fun y => bit (up2 F a b u v a y) w) (Q := fun y => bit (F a y) w) rb fun x hx => by rw [up2_no (fun h => hx h.2) (fun h => ne h.1)]
  rw [up2_ab ne] at this
  exact this
theorem tos_b (ne : a ≠ b) (ra : rid a) (w : Nat) : (tos (up2 F a b u v) w b).length + (bit (F b a) w).toNat = (tos F w b).length + (bit v w).toNat := by
  have := ups_len (P := fun y => bit (up2 F a b u v b y) w) (Q := fun y => bit (F b y) w) ra fun x hx => by rw [up2_no (fun h => ne h.1.symm) (fun h => hx h.2)]
  rw [up2_ba ne] at this
  exact this
theorem bys_a (ne : a ≠ b) (rb : rid b) : (bys (up2 F a b u v) a).length + (bit (F b a) 1).toNat = (bys F a).length + (bit v 1).toNat := by
  have := ups_len (P := fun y => bit (up2 F a b u v y a) 1) (Q := fun y => bit (F y a) 1) rb fun x hx => by rw [up2_no (fun h => ne h.2) (fun h => hx h.1)]
  rw [up2_ba ne] at this
  exact this
theorem bys_b (ne : a ≠ b) (ra : rid a) : (bys (up2 F a b u v) b).length + (bit (F a b) 1).toNat = (bys F b).length + (bit u 1).toNat := by
  have := ups_len (P := fun y => bit (up2 F a b u v y b) 1) (Q := fun y => bit (F y b) 1) ra fun x hx => by rw [up2_no (fun h => hx h.1) (fun h => ne h.2.symm)]
  rw [up2_ab ne] at this
  exact this
theorem tos_no {c : Nat} (h1 : c ≠ a) (h2 : c ≠ b) (w : Nat) : tos (up2 F a b u v) w c = tos F w c := by
  unfold tos
  exact ups_congr fun x _ => by rw [up2_no (fun h => h1 h.1) (fun h => h2 h.1)]
theorem bys_no {c : Nat} (h1 : c ≠ a) (h2 : c ≠ b) : bys (up2 F a b u v) c = bys F c := by
  unfold bys
  exact ups_congr fun x _ => by rw [up2_no (fun h => h2 h.2) (fun h => h1 h.2)]
theorem okP_symm {w v : Nat} (h : okP w v) : okP v w := by unfold okP at h ⊢; omega
theorem lk_symm {w v : Nat} (h : okP w v) : lk w v = lk v w := by
  rcases h with ⟨rfl, rfl⟩ | ⟨rfl, rfl⟩ | ⟨rfl, rfl⟩ | ⟨rfl, rfl⟩ | ⟨rfl, rfl⟩ | ⟨rfl, rfl⟩ | ⟨rfl, rfl⟩ <;> decide
theorem cnt_a (ne : a ≠ b) (rb : rid b) : cnt (up2 F a b u v) a + lk (F a b) (F b a) = cnt F a + lk u v := by
  have t2 := tos_a (F := F) (u := u) (v := v) ne rb 2
  have t1 := tos_a (F := F) (u := u) (v := v) ne rb 1
  have t3 := bys_a (F := F) (u := u) (v := v) ne rb
  unfold cnt lk
  omega
theorem cnt_b (ne : a ≠ b) (ra : rid a) : cnt (up2 F a b u v) b + lk (F b a) (F a b) = cnt F b + lk v u := by
  have t2 := tos_b (F := F) (u := u) (v := v) ne ra 2
  have t1 := tos_b (F := F) (u := u) (v := v) ne ra 1
  have t3 := bys_b (F := F) (u := u) (v := v) ne ra
  unfold cnt lk
  omega
theorem Inv.up (i : Inv F) (ne : a ≠ b) (ra : rid a) (rb : rid b) (ok : okP u v) (hc : lk u v ≤ lk (F a b) (F b a) ∨ (cnt F a + lk u v ≤ 16 ∧ cnt F b + lk u v ≤ 16)) (hb : bk u ≤ bk (F a b) ∨ (tos F 4 a).length + bk u ≤ 16) (hb' : bk v ≤ bk (F b a)) : Inv (up2 F a b u v) := by
  refine ⟨fun c => ?_, fun c d => ?_, fun c => ?_, fun c => ?_⟩
  · rw [up2_no (fun h => ne (h.1.symm.trans h.2)) (fun h => ne (h.2.symm.trans h.1))]; exact i.self c
  · by_cases h1 : c = a ∧ d = b
    · obtain ⟨rfl, rfl⟩ := h1
      rw [up2_ab ne, up2_ba ne]; exact ok
    · by_cases h2 : c = b ∧ d = a
      · obtain ⟨rfl, rfl⟩ := h2
        rw [up2_ab ne, up2_ba ne]; exact okP_symm ok
      · rw [up2_no h1 h2, up2_no (fun h => h2 ⟨h.2, h.1⟩) (fun h => h1 ⟨h.2, h.1⟩)]; exact i.pair c d
  · by_cases h1 : c = a
    · subst h1
      have := cnt_a (F := F) (u := u) (v := v) ne rb
      have := i.few c
      omega
    · by_cases h2 : c = b
      · subst h2
        have := cnt_b (F := F) (u := u) (v := v) ne ra
        have := i.few c
        have := lk_symm ok
        have := lk_symm (i.pair a c)
        omega
      · unfold cnt
        rw [tos_no h1 h2, tos_no h1 h2, bys_no h1 h2]; exact i.few c
  · by_cases h1 : c = a
    · subst h1
      have := tos_a (F := F) (u := u) (v := v) ne rb 4
      have := i.bks c
      unfold bk at hb
      omega
    · by_cases h2 : c = b
      · subst h2
        have := tos_b (F := F) (u := u) (v := v) ne ra 4
        have := i.bks c
        unfold bk at hb'
        omega
      · rw [tos_no h1 h2]; exact i.bks c
end
theorem upd_up {F : Fn} {a b w : Nat} : updF F a b w = up2 F a b w (F b a) := by
  funext c d
  unfold updF up2
  split
  · rfl
  · split
    · rename_i h; rw [h.1, h.2]
    · rfl
theorem upd_up' {F : Fn} {a b w : Nat} (ne : a ≠ b) : updF F b a w = up2 F a b (F a b) w := by
  funext c d
  simp only [updF, up2]
  by_cases h : c = b ∧ d = a
  · have h' : ¬ (c = a ∧ d = b) := fun h' => ne (h'.1.symm.trans h.1)
    simp only [h', if_false]
  · by_cases h' : c = a ∧ d = b
    · have h1 : ¬ (a = b ∧ b = a) := fun h => ne h.1
      simp only [h', h1, and_self, if_true, if_false]
    · simp only [h, h', if_false]
theorem end2_up {F : Fn} {a b w : Nat} (ne : a ≠ b) : endF2 F a b w = up2 F a b (clr (F a b) w) (clr (F b a) w) := by
  have h1 : ¬ (b = a ∧ a = b) := fun h => ne h.2
  have h2 : ¬ (a = b ∧ b = a) := fun h => ne h.1
  funext c d
  simp only [endF2, updF, up2]
  by_cases h : c = b ∧ d = a
  · have h' : ¬ (c = a ∧ d = b) := fun h' => ne (h'.1.symm.trans h.1)
    simp only [h, h', h1, h2, and_self, if_true, if_false]
  · by_cases h' : c = a ∧ d = b
    · simp only [h, h', h1, h2, and_self, if_true, if_false]
    · simp only [h, h', if_false]
theorem bef_up {F : Fn} {a b : Nat} (ne : a ≠ b) : befF F a b = up2 F a b (clr (F a b) 1 ||| 2) (clr (F b a) 1 ||| 2) := by
  have h1 : ¬ (b = a ∧ a = b) := fun h => ne h.2
  have h2 : ¬ (a = b ∧ b = a) := fun h => ne h.1
  funext c d
  simp only [befF, updF, up2]
  by_cases h : c = b ∧ d = a
  · have h' : ¬ (c = a ∧ d = b) := fun h' => ne (h'.1.symm.trans h.1)
    simp only [h, h', h1, h2, and_self, if_true, if_false]
  · by_cases h' : c = a ∧ d = b
    · simp only [h, h', h1, h2, and_self, if_true, if_false]
    · simp only [h, h', if_false]
theorem blk_up {F : Fn} {a b : Nat} (ne : a ≠ b) : updF (endF2 F a b 3) a b (endF2 F a b 3 a b ||| 4) = up2 F a b (clr (F a b) 3 ||| 4) (clr (F b a) 3) := by
  rw [end2_up ne, up2_ab ne]
  funext c d
  unfold updF up2
  by_cases h : c = a ∧ d = b
  · rw [if_pos h, if_pos h]
  · rw [if_neg h, if_neg h, if_neg h]
/-! ### one act -/
noncomputable def stF (t : Nat) (F : Fn) (a b : Nat) : Fn × Bool × Nat :=
  match t with
  | 0 => fAsk F a b
  | 1 => ((fAccept F a b).1, false, (fAccept F a b).2)
  | 2 => ((fRefuse F a b).1, false, (fRefuse F a b).2)
  | 3 => ((fRemove F a b).1, false, (fRemove F a b).2)
  | 4 => fBlock F a b
  | 5 => ((fUnblock F a b).1, false, (fUnblock F a b).2)
  | _ => (F, false, 0)
theorem ne_of {F : Fn} (i : Inv F) {a b w : Nat} (h : bit (F a b) w = true) : a ≠ b := fun e => by
  subst e; rw [i.self, bit_zero] at h; cases h
theorem inv_st {F : Fn} (i : Inv F) (f : FOk F) (t a b : Nat) : Inv (stF t F a b).1 := by
  have pr := i.pair a b
  unfold stF
  split
  · unfold fAsk
    by_cases w : wrongN a b ≠ 0
    · rw [if_pos w]; exact i
    rw [if_neg w]
    obtain ⟨ra, rb, ab⟩ := wrong_rid (show wrongN a b = 0 by omega)
    split
    · exact i
    · rename_i n1
      split
      · exact i
      · rename_i n2
        split
        · rename_i n3
          show Inv (befF F a b)
          rw [bef_up ab]
          rcases pr with ⟨e1, e2⟩ | ⟨e1, e2⟩ | ⟨e1, e2⟩ | ⟨e1, e2⟩ | ⟨e1, e2⟩ | ⟨e1, e2⟩ | ⟨e1, e2⟩ <;> rw [e1, e2] at n1 <;> rw [e1] at n2 <;> rw [e2] at n3 <;> first | (exfalso; revert n1 n2 n3; decide) | skip
          exact i.up ab ra rb (by rw [e1, e2]; unfold okP; decide) (.inl (by rw [e1, e2]; decide)) (.inl (by rw [e1]; decide)) (by rw [e2]; decide)
        · rename_i n3
          split
          · exact i
          · rename_i n4
            show Inv (updF F a b (F a b ||| 1))
            rw [upd_up]
            rcases pr with ⟨e1, e2⟩ | ⟨e1, e2⟩ | ⟨e1, e2⟩ | ⟨e1, e2⟩ | ⟨e1, e2⟩ | ⟨e1, e2⟩ | ⟨e1, e2⟩ <;> rw [e1, e2] at n1 <;> rw [e1] at n2 <;> rw [e2] at n3 <;> first | (exfalso; revert n1 n2 n3; decide) | skip
            rw [e1, e2]
            have l1 : lk (0 ||| 1) 0 = 1 := by decide
            exact i.up ab ra rb (by unfold okP; decide) (.inr (by rw [l1]; omega)) (.inl (by rw [e1]; decide)) (by rw [e2]; decide)
  · unfold fAccept
    split
    · rename_i n
      obtain ⟨rb, ra⟩ := bit_rid f n
      have ab : a ≠ b := (ne_of i n).symm
      show Inv (befF F a b)
      rw [bef_up ab]
      rcases pr with ⟨e1, e2⟩ | ⟨e1, e2⟩ | ⟨e1, e2⟩ | ⟨e1, e2⟩ | ⟨e1, e2⟩ | ⟨e1, e2⟩ | ⟨e1, e2⟩ <;> rw [e2] at n <;> first | (exfalso; revert n; decide) | skip
      exact i.up ab ra rb (by rw [e1, e2]; unfold okP; decide) (.inl (by rw [e1, e2]; decide)) (.inl (by rw [e1]; decide)) (by rw [e2]; decide)
    · exact i
  · unfold fRefuse
    split
    · rename_i n
      obtain ⟨rb, ra⟩ := bit_rid f n
      have ab : a ≠ b := (ne_of i n).symm
      show Inv (updF F b a (clr (F b a) 1))
      rw [upd_up' ab]
      rcases pr with ⟨e1, e2⟩ | ⟨e1, e2⟩ | ⟨e1, e2⟩ | ⟨e1, e2⟩ | ⟨e1, e2⟩ | ⟨e1, e2⟩ | ⟨e1, e2⟩ <;> rw [e2] at n <;> first | (exfalso; revert n; decide) | skip
      exact i.up ab ra rb (by rw [e1, e2]; unfold okP; decide) (.inl (by rw [e1, e2]; decide)) (.inl (by rw [e1]; decide)) (by rw [e2]; decide)
    · exact i
  · unfold fRemove
    split
    · rename_i n
      obtain ⟨ra, rb⟩ := bit_rid f n
      have ab : a ≠ b := ne_of i n
      show Inv (endF2 F a b 2)
      rw [end2_up ab]
      rcases pr with ⟨e1, e2⟩ | ⟨e1, e2⟩ | ⟨e1, e2⟩ | ⟨e1, e2⟩ | ⟨e1, e2⟩ | ⟨e1, e2⟩ | ⟨e1, e2⟩ <;> rw [e1] at n <;> first | (exfalso; revert n; decide) | skip
      exact i.up ab ra rb (by rw [e1, e2]; unfold okP; decide) (.inl (by rw [e1, e2]; decide)) (.inl (by rw [e1]; decide)) (by rw [e2]; decide)
    · exact i
  · unfold fBlock
    by_cases w : wrongN a b ≠ 0
    · rw [if_pos w]; exact i
    rw [if_neg w]
    obtain ⟨ra, rb, ab⟩ := wrong_rid (show wrongN a b = 0 by omega)
    split
    · exact i
    · rename_i n1
      split
      · exact i
      · rename_i n2
        show Inv (updF (endF2 F a b 3) a b (endF2 F a b 3 a b ||| 4))
        rw [blk_up ab]
        have b4 : bk 4 = 1 := by decide
        rcases pr with ⟨e1, e2⟩ | ⟨e1, e2⟩ | ⟨e1, e2⟩ | ⟨e1, e2⟩ | ⟨e1, e2⟩ | ⟨e1, e2⟩ | ⟨e1, e2⟩ <;> rw [e1] at n1 <;> first | (exfalso; revert n1; decide) | skip
        all_goals exact i.up ab ra rb (by rw [e1, e2]; unfold okP; decide) (.inl (by rw [e1, e2]; decide)) (.inr (by rw [e1]; show _ + bk 4 ≤ 16; rw [b4]; omega)) (by rw [e2]; decide)
  · unfold fUnblock
    split
    · rename_i n
      obtain ⟨ra, rb⟩ := bit_rid f n
      have ab : a ≠ b := ne_of i n
      show Inv (updF F a b (clr (F a b) 4))
      rw [upd_up]
      rcases pr with ⟨e1, e2⟩ | ⟨e1, e2⟩ | ⟨e1, e2⟩ | ⟨e1, e2⟩ | ⟨e1, e2⟩ | ⟨e1, e2⟩ | ⟨e1, e2⟩ <;> rw [e1] at n <;> first | (exfalso; revert n; decide) | skip
      all_goals exact i.up ab ra rb (by rw [e1, e2]; unfold okP; decide) (.inl (by rw [e1, e2]; decide)) (.inl (by rw [e1]; decide)) (by rw [e2]; decide)
    · exact i
  · exact i
end Go.Proofs.Ytnndflbpcemecaa
