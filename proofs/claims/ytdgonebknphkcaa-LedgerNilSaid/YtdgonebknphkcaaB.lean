/- 'Spend' and the chapter's example. -/
import Derived.Test.YtdgonebknphkcaaA
set_option linter.unusedSimpArgs false
set_option linter.unusedVariables false
namespace Go.Proofs.Ytdgonebknphkcaa
open Go.Abs

def spendL (L : List Ent) (n owner what now : Int) : Int × List Ent :=
  match getL L n with
  | none => (12, L)
  | some e => if e.owner ≠ owner ∨ e.what ≠ what then (13, L) else if now > e.expiry then (9, L) else (0, without L n)
theorem spendL_nodup {L : List Ent} (n owner what now : Int) (h : (L.map Ent.nonce).Nodup) : ((spendL L n owner what now).2.map Ent.nonce).Nodup := by
  unfold spendL
  split
  · exact h
  · split
    · exact h
    · split
      · exact h
      · exact without_nodup n h
def spendS : Abs.Spec := fun args h k => ∃ p m most L n owner what now, args = [ptr p, .int .u64 n, .int .u32 owner, .int .u32 what, .int .i64 now] ∧ Led h p m most L ∧
  ∀ h', Chg h h' [m] → Led h' p m most (spendL L n owner what now).2 → k (.int .i64 (spendL L n owner what now).1) h'
theorem spendS_live : SpecLive spendS := by
  rintro args h k ⟨p, m, most, L, n, owner, what, now, rfl, hl, H⟩
  obtain ⟨h', c, l⟩ := hl.live _ (spendL_nodup n owner what now hl.2.2.2.2.1)
  exact ⟨_, _, H h' c l⟩
theorem spendS_ok : SpecOk Try.prog 9 spendS := by
  refine specOk_wf mixed Try.func9 (by kernel_rfl) (by kernel_rfl) (tab := [(12, getS), (23, oldS)]) (by simp [oldS_ok, getS_ok]) (by simp [oldS_live, getS_live]) (keep := ledger_Ledger_Spend_keep) ?_
  rintro args h k wf ⟨p, m, most, L, n, owner, what, now, rfl, hl, H⟩
  refine ⟨0, ?_⟩
  show ledger_Ledger_Spend (tabC [(12, getS), (23, oldS)]) idG 0 (ptr p) (.int .u64 n) (.int .u32 owner) (.int .u32 what) (.int .i64 now) h _
  rw [ledger_Ledger_Spend_eq]
  refine .inl ⟨rfl, p, m, most, L, n, rfl, hl, fun h1 c1 => ?_⟩
  have l1 := hl.chg c1 (by simp) (by simp)
  have nd := hl.2.2.2.2.1
  have r1 := c1.1
  cases hg : getL L n with
  | none =>
    have hi : spendL L n owner what now = (12, L) := by simp only [spendL, hg]
    simp (disch := (try simp only [push_next, set_next, kill_next]); omega) [enc, ptr, push_ne, set_ne, takeN, List.getElem?_cons_zero, List.getElem?_cons_succ]
    refine ⟨_, St.le.refl _, ?_⟩
    rw [hi] at H
    exact H _ (Chg.of_set (Chg.of_push (c1.mono (by simp))) (.inr (by simpa using r1))) (l1.chg (S := []) (by repeat' (first | exact Chg.refl _ _ | apply Chg.of_push | (apply Chg.of_set _ (by first | (left; simp; done) | (right; simp; done))))) (by simp) (by simp))
  | some e =>
    simp (disch := (try simp only [push_next, set_next, kill_next]); omega) [enc, ptr, push_ne, set_ne, takeN, groupK_eq, List.getElem?_cons_zero, List.getElem?_cons_succ, getT]
    by_cases ho : e.owner = owner
    · by_cases hw : e.what = what
      · simp [ho, hw]
        refine .inr (.inl ⟨rfl, e, now, by simp [enc, ho, hw], fun h5 c5 => ?_⟩)
        have c : Chg h h5 [] := Chg.of_chg (T := []) (by exact Chg.of_set (Chg.of_push c1) (.inr (by simpa using r1))) c5 (by simp)
        have l5 := hl.chg c (by simp) (by simp)
        by_cases hx : now > e.expiry
        · have hi : spendL L n owner what now = (9, L) := by simp only [spendL, hg]; simp [ho, hw, hx]
          simp [hx]
          refine ⟨_, St.le.refl _, ?_⟩
          have := H h5 (c.mono (by simp)); rw [hi] at this; exact this l5
        · have hi : spendL L n owner what now = (0, without L n) := by simp only [spendL, hg]; simp [ho, hw]; omega
          obtain ⟨d1, d2, d3, d4, _, es, cl, d6, d7⟩ := l5
          rcases find_rep n es L 0 d7 nd with ⟨j, e', x, b1, b2, b3, b4, b5, b6⟩ | ⟨_, b2, _⟩
          · simp (disch := (try simp only [push_next, set_next, kill_next]); omega) [hx, ptr, d4, deleteE_ptr, d6, b1, List.getElem?_cons_zero]
            refine ⟨_, St.le.refl _, ?_⟩
            have := H (h5.set m (.map (es.eraseIdx j) cl)) (Chg.of_set (c.mono (by simp)) (by simp))
            rw [hi] at this
            exact this ⟨d1, d2, d3, by rw [set_ne d3]; exact d4, without_nodup n nd, _, _, set_at _ _ _, b6⟩
          · rw [hg] at b2; cases b2
      · have hi : spendL L n owner what now = (13, L) := by simp only [spendL, hg]; simp [hw]
        simp [ho, hw]
        refine ⟨_, St.le.refl _, ?_⟩
        rw [hi] at H
        exact H _ (Chg.of_set (Chg.of_push (c1.mono (by simp))) (.inr (by simpa using r1))) (l1.chg (S := []) (by repeat' (first | exact Chg.refl _ _ | apply Chg.of_push | (apply Chg.of_set _ (by first | (left; simp; done) | (right; simp; done))))) (by simp) (by simp))
    · have hi : spendL L n owner what now = (13, L) := by simp only [spendL, hg]; simp [ho]
      simp [ho]
      refine ⟨_, St.le.refl _, ?_⟩
      rw [hi] at H
      exact H _ (Chg.of_set (Chg.of_push (c1.mono (by simp))) (.inr (by simpa using r1))) (l1.chg (S := []) (by repeat' (first | exact Chg.refl _ _ | apply Chg.of_push | (apply Chg.of_set _ (by first | (left; simp; done) | (right; simp; done))))) (by simp) (by simp))
def awakeS : Abs.Spec := fun args h k => args = [] ∧ ∀ h', Chg h h' [] → k (.bool true) h'
theorem awakeS_live : SpecLive awakeS := by
  rintro args h k ⟨rfl, H⟩; exact ⟨_, _, H h (Chg.refl _ _)⟩
theorem awakeS_ok : SpecOk Try.prog 10 awakeS := by
  refine specOk_wf mixed Try.func10 (by kernel_rfl) (by kernel_rfl) (tab := [(7, newS), (8, issueS), (9, spendS)]) (by simp [newS_ok, issueS_ok, spendS_ok]) (by simp [newS_live, issueS_live, spendS_live]) (keep := tiltyardlaw09_awake_keep) ?_
  rintro args h k wf ⟨rfl, H⟩
  refine ⟨0, ?_⟩
  show tiltyardlaw09_awake (tabC [(7, newS), (8, issueS), (9, spendS)]) idG 0 h _
  rw [tiltyardlaw09_awake_eq]
  refine .inl ⟨rfl, 4, rfl, fun h1 p m c1 hp hm l1 => ?_⟩
  simp [buildV, fillL]
  refine .inr (.inl ⟨rfl, p, m, _, [], ⟨5, 7, 0, 9⟩, 0, rfl, l1, fun h2 c2 l2 => ?_⟩)
  refine .inr (.inr (.inl ⟨rfl, p, m, _, _, 5, 8, 0, 0, rfl, l2, fun h3 c3 l3 => ?_⟩))
  refine .inr (.inr (.inl ⟨rfl, p, m, _, _, 5, 7, 0, 0, rfl, l3, fun h4 c4 l4 => ?_⟩))
  refine .inr (.inr (.inl ⟨rfl, p, m, _, _, 5, 7, 0, 0, rfl, l4, fun h5 c5 l5 => ?_⟩))
  have c : Chg h h5 [] := (((c1.of_chg c2 (by simpa using hm)).of_chg c3 (by simpa using hm)).of_chg c4 (by simpa using hm)).of_chg c5 (by simpa using hm)
  have e1 : issueL [] (max 0 4) ⟨5, 7, 0, 9⟩ 0 = (0, [⟨5, 7, 0, 9⟩]) := by decide
  have e2 : spendL [⟨5, 7, 0, 9⟩] 5 8 0 0 = (13, [⟨5, 7, 0, 9⟩]) := by decide
  have e3 : spendL [⟨5, 7, 0, 9⟩] 5 7 0 0 = (0, []) := by decide
  have e4 : spendL [] 5 7 0 0 = (12, []) := by decide
  simp [e1, e2, e3, e4, groupK_eq, getT]
  exact ⟨_, St.le.refl _, H _ c⟩
end Go.Proofs.Ytdgonebknphkcaa
