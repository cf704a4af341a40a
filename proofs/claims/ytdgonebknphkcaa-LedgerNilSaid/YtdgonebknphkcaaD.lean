/- 'LedgerOnce', walked. -/
import Derived.Test.YtdgonebknphkcaaC
import Derived.Test.YtdgonebknphkcaaAbsSl
set_option linter.unusedSimpArgs false
set_option linter.unusedVariables false
set_option maxHeartbeats 4000000
namespace Go.Proofs.Ytdgonebknphkcaa
open Go.Abs Go.IntWalk

def tabO : List (FuncId × Abs.Spec) := [(7, newS), (8, issueS), (9, spendS), (10, awakeS)]
def rowE (I : List Ent) (i : Nat) : List Value := cellsE (I[i]?.getD .zero)
def rowB (S : List Bool) (i : Nat) : List Value := [.bool (S[i]?.getD false)]
theorem mayF_succ (I : List Ent) (S : List Bool) (t : Ent) (k : Nat) : mayF I S t (k + 1) = if may I S t k = true then (k : Int) else mayF I S t k := rfl
theorem l4_ok {I : List Ent} {S : List Bool} {t : Ent} {C : Oracle} {n m0 tb : Nat} {x0 x1 x4 x5 x6 x7 x8 x9 x11 : Value} {K : Cont} {B6 B8 : Nat → Prop} (hS : S.length = I.length) (hI : I.length ≤ 20) :
    ∀ (d k m1 : Nat) (h : St), k + d = I.length → d < m1 → SliceAt B6 h x6 I.length 4 (rowE I) → SliceAt B8 h x8 I.length 1 (rowB S) → tb < h.next → h.objs tb = some (.cells (cellsE t) true) →
      (∀ h', Chg h h' [] → tiltyardlaw09_LedgerOnce_j7 C idG n m0 x0 x1 x4 x5 x6 x7 x8 x9 (ptr tb) x11 (.int .i64 (mayF I S t I.length)) (.int .i64 I.length) h' K) →
      tiltyardlaw09_LedgerOnce_l4 C idG n m0 m1 x0 x1 x4 x5 x6 x7 x8 x9 (ptr tb) x11 (.int .i64 (mayF I S t k)) (.int .i64 k) h K := by
  intro d
  induction d with
  | zero =>
    intro k m1 h hk hm s6 s8 htb ht H
    obtain ⟨m1, rfl⟩ : ∃ m, m1 = m + 1 := ⟨m1 - 1, by omega⟩
    rw [tiltyardlaw09_LedgerOnce_l4_eq, s6.len]
    have e : k = I.length := by omega
    subst e
    simpa using H h (Chg.refl _ _)
  | succ d ih =>
    intro k m1 h hk hm s6 s8 htb ht H
    obtain ⟨m1, rfl⟩ : ∃ m, m1 = m + 1 := ⟨m1 - 1, by omega⟩
    rw [tiltyardlaw09_LedgerOnce_l4_eq, s6.len]
    have hlt : (k : Int) < I.length := by omega
    obtain ⟨b, o, g1, g2, g3, cs, own, g4, g5⟩ := s6.idx (Int.natCast_nonneg k) hlt .i64
    obtain ⟨b', o', q1, q2, q3, cs', own', q4, q5⟩ := s8.idx (Int.natCast_nonneg k) hlt .i64
    have hx : ∃ x, I[k]? = some x := ⟨I[k], List.getElem?_eq_getElem (by omega)⟩
    obtain ⟨x, hx⟩ := hx
    have hs : ∃ s, S[k]? = some s := ⟨S[k], List.getElem?_eq_getElem (by omega)⟩
    obtain ⟨s, hs⟩ := hs
    have q6 := takeN_get q5 (j := 0) (by omega)
    simp [rowE, hx] at g5
    simp [rowB, hs] at q6
    have fin : ∀ b : Bool, may I S t k = b → ∀ h', Chg h h' [] → tiltyardlaw09_LedgerOnce_j6 C idG n m0 m1 x0 x1 x4 x5 x6 x7 x8 x9 (ptr tb) x11 (if b = true then .int .i64 k else .int .i64 (mayF I S t k)) (.int .i64 k) h' K := by
      intro b hb h' c
      rw [tiltyardlaw09_LedgerOnce_j6_eq]
      have hk1 : ((k : Int) + 1) = ((k + 1 : Nat) : Int) := by omega
      simp (disch := omega) only [binNil_int, binV_add, bindV_some, idG_eq, i64_in]
      have e : (if b = true then Value.int .i64 k else .int .i64 (mayF I S t k)) = .int .i64 (mayF I S t (k + 1)) := by
        rw [mayF_succ, hb]; cases b <;> rfl
      rw [e, hk1]
      exact ih (k + 1) m1 h' (by omega) (by omega) (s6.chg c (by simp)) (s8.chg c (by simp)) (Nat.lt_of_lt_of_le htb c.1) (c.at htb (by simp) ht) fun h'' c' => H h'' (c.of_chg c' (by simp))
    by_cases c1 : x.nonce = t.nonce
    · by_cases c2 : x.owner = t.owner
      · by_cases c3 : x.what = t.what
        · by_cases c4 : t.expiry ≤ x.expiry
          · cases s
            · simp (disch := (try simp only [push_next, set_next, kill_next]); omega) [hlt, g1, g4, g5, cellsE, push_ne, set_ne, ptr, ht, q1, q4, q6, groupK_eq, getT, c1, c2, c3, c4]
              refine fin true (by simp [may, hx, hs, c1, c2, c3, c4]) _ ?_
              repeat' (first | exact Chg.refl _ _ | apply Chg.of_push | (apply Chg.of_set _ (by first | (left; simp; done) | (right; simp; done))))
            · simp (disch := (try simp only [push_next, set_next, kill_next]); omega) [hlt, g1, g4, g5, cellsE, push_ne, set_ne, ptr, ht, q1, q4, q6, groupK_eq, getT, c1, c2, c3, c4]
              refine fin false (by simp [may, hx, hs, c1, c2, c3, c4]) _ ?_
              repeat' (first | exact Chg.refl _ _ | apply Chg.of_push | (apply Chg.of_set _ (by first | (left; simp; done) | (right; simp; done))))
          · simp (disch := (try simp only [push_next, set_next, kill_next]); omega) [hlt, g1, g4, g5, cellsE, push_ne, set_ne, ptr, ht, q1, q4, q6, groupK_eq, getT, c1, c2, c3, c4]
            refine fin false (by simp [may, hx, hs, c1, c2, c3, c4]) _ ?_
            repeat' (first | exact Chg.refl _ _ | apply Chg.of_push | (apply Chg.of_set _ (by first | (left; simp; done) | (right; simp; done))))
        · simp (disch := (try simp only [push_next, set_next, kill_next]); omega) [hlt, g1, g4, g5, cellsE, push_ne, set_ne, ptr, ht, q1, q4, q6, groupK_eq, getT, c1, c2, c3]
          refine fin false (by simp [may, hx, hs, c1, c2, c3]) _ ?_
          repeat' (first | exact Chg.refl _ _ | apply Chg.of_push | (apply Chg.of_set _ (by first | (left; simp; done) | (right; simp; done))))
      · simp (disch := (try simp only [push_next, set_next, kill_next]); omega) [hlt, g1, g4, g5, cellsE, push_ne, set_ne, ptr, ht, q1, q4, q6, groupK_eq, getT, c1, c2]
        refine fin false (by simp [may, hx, hs, c1, c2]) _ ?_
        repeat' (first | exact Chg.refl _ _ | apply Chg.of_push | (apply Chg.of_set _ (by first | (left; simp; done) | (right; simp; done))))
    · simp (disch := (try simp only [push_next, set_next, kill_next]); omega) [hlt, g1, g4, g5, cellsE, push_ne, set_ne, ptr, ht, q1, q4, q6, groupK_eq, getT, c1]
      refine fin false (by simp [may, hx, hs, c1]) _ ?_
      repeat' (first | exact Chg.refl _ _ | apply Chg.of_push | (apply Chg.of_set _ (by first | (left; simp; done) | (right; simp; done))))
end Go.Proofs.Ytdgonebknphkcaa
