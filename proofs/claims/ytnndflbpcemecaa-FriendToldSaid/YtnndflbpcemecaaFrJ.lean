/- Friends: the graph and the document's rows go together. -/
import Derived.Test.YtnndflbpcemecaaFrI
set_option linter.unusedSimpArgs false
set_option linter.unusedVariables false
set_option maxHeartbeats 4000000
namespace Go.Proofs.Ytnndflbpcemecaa
open Go.Abs Go.IntWalk

def cd (p q r : Bool) : Nat := p.toNat + 2 * q.toNat + 4 * r.toNat
theorem cd1 (p q r : Bool) : bit (cd p q r) 1 = p := by cases p <;> cases q <;> cases r <;> decide
theorem cd2 (p q r : Bool) : bit (cd p q r) 2 = q := by cases p <;> cases q <;> cases r <;> decide
theorem cd4 (p q r : Bool) : bit (cd p q r) 4 = r := by cases p <;> cases q <;> cases r <;> decide
theorem cd3 (p q r : Bool) : bit (cd p q r) 3 = (q || p) := by cases p <;> cases q <;> cases r <;> decide
def has (R : List Rw) (w a b : Nat) : Bool := decide ((w, a, b) ∈ R)
theorem frd_has (R : List Rw) (a b : Nat) : frd R a b = (has R 2 a b || has R 2 b a) := rfl
theorem frd_symm (R : List Rw) (a b : Nat) : frd R a b = frd R b a := by rw [frd_has, frd_has, Bool.or_comm]
def code (R : List Rw) (a b : Nat) : Nat := cd (has R 1 a b) (frd R a b) (has R 3 a b)
def Rel (F : Fn) (R : List Rw) : Prop := ∀ a b, F a b = code R a b
theorem rel0 : Rel (fun _ _ => 0) [] := fun a b => by simp [code, has, frd, cd]
def ispair (a b c d : Nat) : Bool := (decide (c = a) && decide (d = b)) || (decide (c = b) && decide (d = a))
theorem wh_has (R : List Rw) (a b w c d : Nat) : has (whR R a b) w c d = (has R w c d && (decide (w = 3) || !ispair a b c d)) := by
  unfold has whR
  have : (decide (w = 3) || !ispair a b c d) = keepW a b (w, c, d) := rfl
  rw [this]
  by_cases h : (w, c, d) ∈ R
  · cases hk : keepW a b (w, c, d)
    · simp [List.mem_filter, h, hk]
    · simp [List.mem_filter, h, hk]
  · simp [List.mem_filter, h]
theorem un_has (R : List Rw) (a b w c d : Nat) : has (unR R a b) w c d = (has R w c d && (!decide (w = 3) || !decide (c = a) || !decide (d = b))) := by
  unfold has unR
  have : (!decide (w = 3) || !decide (c = a) || !decide (d = b)) = unK a b (w, c, d) := rfl
  rw [this]
  by_cases h : (w, c, d) ∈ R
  · cases hk : unK a b (w, c, d)
    · simp [List.mem_filter, h, hk]
    · simp [List.mem_filter, h, hk]
  · simp [List.mem_filter, h]
theorem app_has (R : List Rw) (w' a b w c d : Nat) : has (R ++ [(w', a, b)]) w c d = (has R w c d || (decide (w = w') && decide (c = a) && decide (d = b))) := by
  unfold has
  by_cases h : (w, c, d) ∈ R
  · simp [h]
  · by_cases h2 : w = w' ∧ c = a ∧ d = b
    · obtain ⟨rfl, rfl, rfl⟩ := h2; simp
    · have : (decide (w = w') && decide (c = a) && decide (d = b)) = false := by
        rw [Bool.eq_false_iff]
        simpa [and_assoc] using h2
      rw [this]
      simp [h]
      exact fun h1 h3 h4 => h2 ⟨h1, h3, h4⟩
theorem isp_ab {a b : Nat} : ispair a b a b = true := by simp [ispair]
theorem isp_ba {a b : Nat} : ispair a b b a = true := by simp [ispair]
theorem isp_no {a b c d : Nat} (h1 : ¬ (c = a ∧ d = b)) (h2 : ¬ (c = b ∧ d = a)) : ispair a b c d = false := by
  unfold ispair
  rw [Bool.or_eq_false_iff]
  refine ⟨?_, ?_⟩
  · rw [Bool.eq_false_iff]; simpa using h1
  · rw [Bool.eq_false_iff]; simpa using h2
theorem isp_sw (a b c d : Nat) : ispair a b d c = ispair a b c d := by
  unfold ispair
  rw [Bool.or_comm, Bool.and_comm (decide (d = a)), Bool.and_comm (decide (d = b))]
theorem wh_code (R : List Rw) (a b c d : Nat) : code (whR R a b) c d = cd (has R 1 c d && !ispair a b c d) (frd R c d && !ispair a b c d) (has R 3 c d) := by
  unfold code
  rw [frd_has, frd_has, wh_has, wh_has, wh_has, wh_has, isp_sw a b c d]
  congr 1
  · simp [Bool.and_or_distrib_right]
  · simp
theorem un_code (R : List Rw) (a b c d : Nat) : code (unR R a b) c d = cd (has R 1 c d) (frd R c d) (has R 3 c d && !(decide (c = a) && decide (d = b))) := by
  unfold code
  rw [frd_has, frd_has, un_has, un_has, un_has, un_has]
  congr 1
  · simp
  · simp
  · simp
theorem ap1_code (R : List Rw) (a b c d : Nat) : code (R ++ [(1, a, b)]) c d = cd (has R 1 c d || (decide (c = a) && decide (d = b))) (frd R c d) (has R 3 c d) := by
  unfold code
  rw [frd_has, frd_has, app_has, app_has, app_has, app_has]
  congr 1 <;> simp
theorem ap2_code (R : List Rw) (a b c d : Nat) : code (R ++ [(2, a, b)]) c d = cd (has R 1 c d) (frd R c d || ispair a b c d) (has R 3 c d) := by
  unfold code
  rw [frd_has, frd_has, app_has, app_has, app_has, app_has]
  congr 1
  · simp
  · unfold ispair
    simp only [decide_true, Bool.true_and]
    generalize has R 2 c d = x
    generalize has R 2 d c = y
    rw [Bool.and_comm (decide (d = a))]
    generalize (decide (c = a) && decide (d = b)) = z
    generalize (decide (c = b) && decide (d = a)) = w
    cases x <;> cases y <;> cases z <;> cases w <;> rfl
  · simp
theorem ap3_code (R : List Rw) (a b c d : Nat) : code (R ++ [(3, a, b)]) c d = cd (has R 1 c d) (frd R c d) (has R 3 c d || (decide (c = a) && decide (d = b))) := by
  unfold code
  rw [frd_has, frd_has, app_has, app_has, app_has, app_has]
  congr 1 <;> simp
/-- Both sides in a case of two players. -/
theorem rel_up {F : Fn} {R R' : List Rw} {a b u v : Nat} (rel : Rel F R) (ne : a ≠ b) (h1 : u = code R' a b) (h2 : v = code R' b a) (h3 : ∀ c d, ispair a b c d = false → ¬ (c = a ∧ d = b) → code R' c d = code R c d) : Rel (up2 F a b u v) R' := by
  intro c d
  by_cases e1 : c = a ∧ d = b
  · obtain ⟨rfl, rfl⟩ := e1
    rw [up2_ab ne]; exact h1
  · by_cases e2 : c = b ∧ d = a
    · obtain ⟨rfl, rfl⟩ := e2
      rw [up2_ba ne]; exact h2
    · rw [up2_no e1 e2, rel c d, h3 c d (isp_no e1 e2) e1]
noncomputable def stR (t : Nat) (R : List Rw) (a b : Nat) : List Rw × Bool × Nat :=
  match t with
  | 0 => dAskF R a b
  | 1 => ((dAcceptF R a b).1, false, (dAcceptF R a b).2)
  | 2 => ((dRefuseF R a b).1, false, (dRefuseF R a b).2)
  | 3 => ((dRemoveF R a b).1, false, (dRemoveF R a b).2)
  | 4 => dBlockF R a b
  | 5 => ((dUnblockF R a b).1, false, (dUnblockF R a b).2)
  | _ => (R, false, 0)
section
variable {F : Fn} {R : List Rw}
theorem Rel.b1 (r : Rel F R) (a b : Nat) : bit (F a b) 1 = has R 1 a b := by rw [r a b]; exact cd1 _ _ _
theorem Rel.b2 (r : Rel F R) (a b : Nat) : bit (F a b) 2 = frd R a b := by rw [r a b]; exact cd2 _ _ _
theorem Rel.b4 (r : Rel F R) (a b : Nat) : bit (F a b) 4 = has R 3 a b := by rw [r a b]; exact cd4 _ _ _
theorem Rel.b3 (r : Rel F R) (a b : Nat) : bit (F a b) 3 = (frd R a b || has R 1 a b) := by rw [r a b]; exact cd3 _ _ _
theorem Rel.t1 (r : Rel F R) (a : Nat) : tos F 1 a = dto R 1 a := ups_congr fun x _ => r.b1 a x
theorem Rel.t2 (r : Rel F R) (a : Nat) : tos F 2 a = dfr R a := ups_congr fun x _ => r.b2 a x
theorem Rel.t4 (r : Rel F R) (a : Nat) : tos F 4 a = dto R 3 a := ups_congr fun x _ => r.b4 a x
theorem Rel.tb (r : Rel F R) (a : Nat) : bys F a = dby R a := ups_congr fun x _ => r.b1 x a
theorem Rel.cn (r : Rel F R) (a : Nat) : cnt F a = dcnt R a := by unfold cnt dcnt; rw [r.t1, r.t2, r.tb]
end
theorem rid_wh {R : List Rw} {a b : Nat} (rr : RidR R) : RidR (whR R a b) := fun r hr => rr r (List.mem_filter.1 hr).1
theorem rid_un {R : List Rw} {a b : Nat} (rr : RidR R) : RidR (unR R a b) := fun r hr => rr r (List.mem_filter.1 hr).1
theorem rid_app {R : List Rw} {w a b : Nat} (rr : RidR R) (ra : rid a) (rb : rid b) : RidR (R ++ [(w, a, b)]) := fun r hr => by
  rcases List.mem_append.1 hr with hr | hr
  · exact rr r hr
  · simp only [List.mem_singleton] at hr
    subst hr; exact ⟨ra, rb⟩
theorem has_iff {R : List Rw} {w a b : Nat} : (w, a, b) ∈ R ↔ has R w a b = true := by simp [has]
def Good (R : List Rw) (x : Fn × Bool × Nat) (y : List Rw × Bool × Nat) : Prop := Rel x.1 y.1 ∧ RidR y.1 ∧ x.2 = y.2 ∧ y.1.length ≤ R.length + 1
theorem st_ok {F : Fn} {R : List Rw} (i : Inv F) (f : FOk F) (r : Rel F R) (rr : RidR R) (t a b : Nat) : Good R (stF t F a b) (stR t R a b) := by
  have pr := i.pair a b
  have wl := wh_len (R := R) (a := a) (b := b)
  have keep : ∀ x : Bool × Nat, Good R (F, x) (R, x) := fun x => ⟨r, rr, rfl, Nat.le_succ _⟩
  have ea : F a b = cd (has R 1 a b) (frd R a b) (has R 3 a b) := r a b
  have eb : F b a = cd (has R 1 b a) (frd R a b) (has R 3 b a) := by rw [frd_symm]; exact r b a
  have befr : ∀ x : Bool × Nat, a ≠ b → rid a → rid b → Good R (befF F a b, x) (whR R a b ++ [(2, a, b)], x) := fun x ne ra rb => by
    refine ⟨?_, rid_app (rid_wh rr) ra rb, rfl, by simp; omega⟩
    show Rel (befF F a b) (whR R a b ++ [(2, a, b)])
    rw [bef_up ne]
    have cw : ∀ c d, code (whR R a b ++ [(2, a, b)]) c d = cd (has R 1 c d && !ispair a b c d) ((frd R c d && !ispair a b c d) || ispair a b c d) (has R 3 c d) := fun c d => by
      rw [ap2_code, wh_has, wh_has, frd_has, wh_has, wh_has, isp_sw a b c d]
      congr 1
      · simp [frd_has, Bool.and_or_distrib_right]
      · simp
    refine rel_up r ne ?_ ?_ fun c d h1 h2 => ?_
    · rw [cw, isp_ab, ea]
      cases has R 1 a b <;> cases frd R a b <;> cases has R 3 a b <;> rfl
    · rw [cw, isp_ba, eb, frd_symm R b a]
      cases has R 1 b a <;> cases frd R a b <;> cases has R 3 b a <;> rfl
    · rw [cw, h1]; simp [code]
  unfold stF stR
  split
  · unfold fAsk dAskF
    by_cases w : wrongN a b ≠ 0
    · rw [if_pos w, if_pos w]; exact keep _
    rw [if_neg w, if_neg w]
    obtain ⟨ra, rb, ab⟩ := wrong_rid (show wrongN a b = 0 by omega)
    simp only [has_iff, r.b4, r.b3, r.b1, r.cn, Bool.or_eq_true]
    by_cases c1 : has R 3 a b = true ∨ has R 3 b a = true
    · rw [if_pos c1, if_pos c1]; exact keep _
    rw [if_neg c1, if_neg c1]
    by_cases c2 : frd R a b = true ∨ has R 1 a b = true
    · rw [if_pos c2, if_pos c2]; exact keep _
    rw [if_neg c2, if_neg c2]
    by_cases c3 : has R 1 b a = true
    · rw [if_pos c3, if_pos c3]; exact befr _ ab ra rb
    rw [if_neg c3, if_neg c3]
    by_cases c4 : 16 ≤ dcnt R a ∨ 16 ≤ dcnt R b
    · rw [if_pos c4, if_pos c4]; exact keep _
    rw [if_neg c4, if_neg c4]
    refine ⟨?_, rid_app rr ra rb, rfl, by simp⟩
    show Rel (updF F a b (F a b ||| 1)) (R ++ [(1, a, b)])
    rw [upd_up]
    refine rel_up r ab ?_ ?_ fun c d h1 h2 => ?_
    · rw [ap1_code, ea]
      simp only [decide_true, Bool.and_true, Bool.or_true]
      cases has R 1 a b <;> cases frd R a b <;> cases has R 3 a b <;> rfl
    · rw [ap1_code, eb, frd_symm R b a]
      have : (decide (b = a) && decide (a = b)) = false := by simp; omega
      rw [this, Bool.or_false]
    · rw [ap1_code]
      have : (decide (c = a) && decide (d = b)) = false := by rw [Bool.eq_false_iff]; simpa using h2
      rw [this, Bool.or_false]; rfl
  · unfold fAccept dAcceptF
    simp only [has_iff, r.b1]
    by_cases c1 : has R 1 b a = true
    · rw [if_pos c1, if_pos c1]
      have n : bit (F b a) 1 = true := by rw [r.b1]; exact c1
      obtain ⟨rb, ra⟩ := bit_rid f n
      exact befr _ (ne_of i n).symm ra rb
    · rw [if_neg c1, if_neg c1]; exact keep _
  · unfold fRefuse dRefuseF
    simp only [has_iff, r.b1]
    by_cases c1 : has R 1 b a = true
    · rw [if_pos c1, if_pos c1]
      have n : bit (F b a) 1 = true := by rw [r.b1]; exact c1
      have ab : a ≠ b := (ne_of i n).symm
      refine ⟨?_, rid_wh rr, rfl, by show (whR R a b).length ≤ _; omega⟩
      show Rel (updF F b a (clr (F b a) 1)) (whR R a b)
      rw [upd_up' ab]
      rw [ea, eb, c1] at pr
      refine rel_up r ab ?_ ?_ fun c d h1 h2 => ?_
      · rw [wh_code, isp_ab, ea]
        revert pr
        cases has R 1 a b <;> cases frd R a b <;> cases has R 3 a b <;> cases has R 3 b a <;> unfold okP <;> decide
      · rw [wh_code, isp_ba, eb, frd_symm R b a, c1]
        revert pr
        cases has R 1 a b <;> cases frd R a b <;> cases has R 3 a b <;> cases has R 3 b a <;> unfold okP <;> decide
      · rw [wh_code, h1]; simp [code]
    · rw [if_neg c1, if_neg c1]; exact keep _
  · unfold fRemove dRemoveF
    simp only [r.b2]
    by_cases c1 : frd R a b = true
    · rw [if_pos c1, if_pos c1]
      have n : bit (F a b) 2 = true := by rw [r.b2]; exact c1
      have ab : a ≠ b := ne_of i n
      refine ⟨?_, rid_wh rr, rfl, by show (whR R a b).length ≤ _; omega⟩
      show Rel (endF2 F a b 2) (whR R a b)
      rw [end2_up ab]
      rw [ea, eb, c1] at pr
      refine rel_up r ab ?_ ?_ fun c d h1 h2 => ?_
      · rw [wh_code, isp_ab, ea, c1]
        revert pr
        cases has R 1 a b <;> cases has R 1 b a <;> cases has R 3 a b <;> cases has R 3 b a <;> unfold okP <;> decide
      · rw [wh_code, isp_ba, eb, frd_symm R b a, c1]
        revert pr
        cases has R 1 a b <;> cases has R 1 b a <;> cases has R 3 a b <;> cases has R 3 b a <;> unfold okP <;> decide
      · rw [wh_code, h1]; simp [code]
    · rw [if_neg c1, if_neg c1]; exact keep _
  · unfold fBlock dBlockF
    by_cases w : wrongN a b ≠ 0
    · rw [if_pos w, if_pos w]; exact keep _
    rw [if_neg w, if_neg w]
    obtain ⟨ra, rb, ab⟩ := wrong_rid (show wrongN a b = 0 by omega)
    simp only [has_iff, r.b4, r.b2, r.t4]
    by_cases c1 : has R 3 a b = true
    · rw [if_pos c1, if_pos c1]; exact keep _
    rw [if_neg c1, if_neg c1]
    by_cases c2 : 16 ≤ (dto R 3 a).length
    · rw [if_pos c2, if_pos c2]; exact keep _
    rw [if_neg c2, if_neg c2]
    refine ⟨?_, rid_app (rid_wh rr) ra rb, rfl, by simp; omega⟩
    show Rel (updF (endF2 F a b 3) a b (endF2 F a b 3 a b ||| 4)) (whR R a b ++ [(3, a, b)])
    rw [blk_up ab]
    have cw : ∀ c d, code (whR R a b ++ [(3, a, b)]) c d = cd (has R 1 c d && !ispair a b c d) (frd R c d && !ispair a b c d) (has R 3 c d || (decide (c = a) && decide (d = b))) := fun c d => by
      rw [ap3_code, wh_has, wh_has, frd_has, wh_has, wh_has, isp_sw a b c d]
      congr 1
      · simp [frd_has, Bool.and_or_distrib_right]
      · simp
    refine rel_up r ab ?_ ?_ fun c d h1 h2 => ?_
    · rw [cw, isp_ab, ea]
      simp only [decide_true, Bool.and_true, Bool.or_true]
      cases has R 1 a b <;> cases frd R a b <;> cases has R 3 a b <;> rfl
    · rw [cw, isp_ba, eb, frd_symm R b a]
      have : (decide (b = a) && decide (a = b)) = false := by simp; omega
      rw [this, Bool.or_false]
      cases has R 1 b a <;> cases frd R a b <;> cases has R 3 b a <;> rfl
    · rw [cw, h1]
      have : (decide (c = a) && decide (d = b)) = false := by rw [Bool.eq_false_iff]; simpa using h2
      rw [this]; simp [code]
  · unfold fUnblock dUnblockF
    simp only [has_iff, r.b4]
    by_cases c1 : has R 3 a b = true
    · rw [if_pos c1, if_pos c1]
      have n : bit (F a b) 4 = true := by rw [r.b4]; exact c1
      have ab : a ≠ b := ne_of i n
      refine ⟨?_, rid_un rr, rfl, Nat.le_trans (List.length_filter_le ..) (Nat.le_succ _)⟩
      show Rel (updF F a b (clr (F a b) 4)) (unR R a b)
      rw [upd_up]
      refine rel_up r ab ?_ ?_ fun c d h1 h2 => ?_
      · rw [un_code, ea]
        simp only [decide_true, Bool.and_true, Bool.not_true, Bool.and_false]
        cases has R 1 a b <;> cases frd R a b <;> cases has R 3 a b <;> rfl
      · rw [un_code, eb, frd_symm R b a]
        have : (decide (b = a) && decide (a = b)) = false := by simp; omega
        rw [this]; simp
      · rw [un_code]
        have : (decide (c = a) && decide (d = b)) = false := by rw [Bool.eq_false_iff]; simpa using h2
        rw [this]; simp [code]
    · rw [if_neg c1, if_neg c1]; exact keep _
  · split <;> first | exact keep _ | (exfalso; simp_all; done)
end Go.Proofs.Ytnndflbpcemecaa
