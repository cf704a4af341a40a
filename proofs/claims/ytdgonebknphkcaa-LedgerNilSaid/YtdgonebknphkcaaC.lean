/- The plain law of 'LedgerOnce': lists alone. -/
import Derived.Test.YtdgonebknphkcaaB
set_option linter.unusedSimpArgs false
set_option linter.unusedVariables false
namespace Go.Proofs.Ytdgonebknphkcaa
open Go.Abs

/-- What was issued and is not spent. -/
def unspent : List Ent → List Bool → List Ent
  | x :: I, s :: S => match s with
    | true => unspent I S
    | false => x :: unspent I S
  | _, _ => []
theorem unspent_new : ∀ I : List Ent, unspent I (List.replicate I.length false) = I
  | [] => rfl
  | x :: I => by simp [List.replicate_succ, unspent, unspent_new I]
theorem unspent_sub : ∀ (I : List Ent) (S : List Bool), (unspent I S).Sublist I
  | [], _ => by cases ‹List Bool› <;> simp [unspent]
  | x :: I, [] => by simp [unspent]
  | x :: I, true :: S => by simpa [unspent] using (unspent_sub I S).cons x
  | x :: I, false :: S => by simpa [unspent] using (unspent_sub I S).cons_cons x
theorem unspent_some : ∀ (I : List Ent) (S : List Bool) (n : Int) (e : Ent), getL (unspent I S) n = some e → ∃ k : Nat, I[k]? = some e ∧ S[k]? = some false ∧ e.nonce = n
  | [], S, n, e, h => by cases S <;> simp [unspent, getL] at h
  | x :: I, [], n, e, h => by simp [unspent, getL] at h
  | x :: I, true :: S, n, e, h => by
    obtain ⟨k, a, b, c⟩ := unspent_some I S n e (by simpa [unspent] using h)
    exact ⟨k + 1, by simpa using a, by simpa using b, c⟩
  | x :: I, false :: S, n, e, h => by
    simp only [unspent, getL, List.find?_cons] at h
    split at h
    · rename_i hx
      cases h
      exact ⟨0, rfl, rfl, by simpa using hx⟩
    · obtain ⟨k, a, b, c⟩ := unspent_some I S n e h
      exact ⟨k + 1, by simpa using a, by simpa using b, c⟩
theorem unspent_none : ∀ (I : List Ent) (S : List Bool) (n : Int), getL (unspent I S) n = none → ∀ (k : Nat) (e : Ent), I[k]? = some e → S[k]? = some false → e.nonce ≠ n
  | [], S, n, h, k, e, a, b => by simp at a
  | x :: I, [], n, h, k, e, a, b => by simp at b
  | x :: I, true :: S, n, h, k, e, a, b => by
    cases k with
    | zero => simp at b
    | succ k => exact unspent_none I S n (by simpa [unspent] using h) k e (by simpa using a) (by simpa using b)
  | x :: I, false :: S, n, h, k, e, a, b => by
    simp only [unspent, getL, List.find?_cons] at h
    split at h
    · cases h
    · rename_i hx
      cases k with
      | zero => simp at a; subst a; simpa using hx
      | succ k => exact unspent_none I S n h k e (by simpa using a) (by simpa using b)
theorem nonce_inj {I : List Ent} (nd : (I.map Ent.nonce).Nodup) {k k' : Nat} {e e' : Ent} (h : I[k]? = some e) (h' : I[k']? = some e') (hn : e.nonce = e'.nonce) : k = k' := by
  obtain ⟨hk, e1⟩ := List.getElem?_eq_some_iff.1 h
  obtain ⟨hk', e2⟩ := List.getElem?_eq_some_iff.1 h'
  exact (List.getElem_inj (h₀ := by simpa using hk) (h₁ := by simpa using hk') nd).1 (by simp [e1, e2, hn])
theorem without_unspent : ∀ (I : List Ent) (S : List Bool) (k : Nat) (e : Ent), (I.map Ent.nonce).Nodup → I[k]? = some e → S[k]? = some false → without (unspent I S) e.nonce = unspent I (S.set k true)
  | [], S, k, e, nd, a, b => by simp at a
  | x :: I, [], k, e, nd, a, b => by simp at b
  | x :: I, s :: S, k, e, nd, a, b => by
    simp only [List.map_cons, List.nodup_cons] at nd
    cases k with
    | zero =>
      simp at a b
      subst a; subst b
      have : without (x :: unspent I S) x.nonce = without (unspent I S) x.nonce := by simp [without]
      simp only [unspent, List.set_cons_zero]
      rw [this]
      refine without_not fun h => nd.1 ?_
      obtain ⟨y, hy, e⟩ := List.mem_map.1 h
      exact List.mem_map.2 ⟨y, (unspent_sub I S).subset hy, e⟩
    | succ k =>
      simp at a b
      have ih := without_unspent I S k e nd.2 a b
      have hx : x.nonce ≠ e.nonce := by
        intro hx
        exact nd.1 (List.mem_map.2 ⟨e, List.mem_of_getElem? a, hx.symm⟩)
      cases s with
      | true => simpa [unspent] using ih
      | false =>
        have : without (x :: unspent I S) e.nonce = x :: without (unspent I S) e.nonce := by simp [without, hx]
        simp only [unspent, List.set_cons_succ]
        rw [this, ih]

/-- An attempt fits what was issued in the place k. -/
def may (I : List Ent) (S : List Bool) (t : Ent) (k : Nat) : Bool :=
  match I[k]?, S[k]? with
  | some x, some s => decide (x.nonce = t.nonce) && decide (x.owner = t.owner) && decide (x.what = t.what) && decide (t.expiry ≤ x.expiry) && !s
  | _, _ => false
def mayF (I : List Ent) (S : List Bool) (t : Ent) : Nat → Int
  | 0 => -1
  | k + 1 => if may I S t k = true then k else mayF I S t k
theorem mayF_spec (I : List Ent) (S : List Bool) (t : Ent) : ∀ n, (mayF I S t n = -1 ∧ ∀ k, k < n → may I S t k = false) ∨ ∃ k, k < n ∧ mayF I S t n = k ∧ may I S t k = true
  | 0 => .inl ⟨rfl, fun k h => by omega⟩
  | n + 1 => by
    by_cases h : may I S t n = true
    · exact .inr ⟨n, by omega, by simp [mayF, h], h⟩
    · rcases mayF_spec I S t n with ⟨a, b⟩ | ⟨k, a, b, c⟩
      · refine .inl ⟨by simp [mayF, h, a], fun k hk => ?_⟩
        by_cases e : k = n
        · subst e; simpa using h
        · exact b k (by omega)
      · exact .inr ⟨k, by omega, by simp [mayF, h, b], c⟩
theorem may_true {I : List Ent} {S : List Bool} {t : Ent} {k : Nat} (h : may I S t k = true) : ∃ x, I[k]? = some x ∧ S[k]? = some false ∧ x.nonce = t.nonce ∧ x.owner = t.owner ∧ x.what = t.what ∧ t.expiry ≤ x.expiry := by
  unfold may at h
  split at h
  · rename_i x s hx hs
    simp at h
    obtain ⟨⟨⟨⟨h1, h2⟩, h3⟩, h4⟩, h5⟩ := h
    exact ⟨x, hx, by rw [hs, h5], h1, h2, h3, h4⟩
  · cases h
/-- An attempt is taken just when one fits; then what is left is all but that. -/
theorem once_law {I : List Ent} {S : List Bool} (t : Ent) (nd : (I.map Ent.nonce).Nodup) :
    ((spendL (unspent I S) t.nonce t.owner t.what t.expiry).1 ≠ 0 ∧ mayF I S t I.length = -1 ∧ (spendL (unspent I S) t.nonce t.owner t.what t.expiry).2 = unspent I S) ∨
      ∃ k, k < I.length ∧ (spendL (unspent I S) t.nonce t.owner t.what t.expiry).1 = 0 ∧ mayF I S t I.length = k ∧ (spendL (unspent I S) t.nonce t.owner t.what t.expiry).2 = unspent I (S.set k true) := by
  rcases mayF_spec I S t I.length with ⟨a, b⟩ | ⟨k, a, b, c⟩
  · left
    cases hg : getL (unspent I S) t.nonce with
    | none => simp [spendL, hg, a]
    | some e =>
      obtain ⟨k, h1, h2, h3⟩ := unspent_some _ _ _ _ hg
      have hk := b k (List.getElem?_eq_some_iff.1 h1).1
      simp [may, h1, h2, h3] at hk
      simp only [spendL, hg]
      by_cases ho : e.owner ≠ t.owner ∨ e.what ≠ t.what
      · simp [ho, a]
      · simp only [ho, if_false]
        have : t.expiry > e.expiry := by
          simp at ho
          exact hk ho.1 ho.2
        simp [this, a]
  · right
    obtain ⟨x, h1, h2, h3, h4, h5, h6⟩ := may_true c
    refine ⟨k, a, ?_⟩
    have hg : getL (unspent I S) t.nonce = some x := by
      cases hg : getL (unspent I S) t.nonce with
      | none => exact absurd h3 (unspent_none _ _ _ hg k x h1 h2)
      | some e =>
        obtain ⟨k', g1, g2, g3⟩ := unspent_some _ _ _ _ hg
        have := nonce_inj nd h1 g1 (h3.trans g3.symm)
        subst this
        rw [h1] at g1
        exact g1.symm
    have ho : ¬(x.owner ≠ t.owner ∨ x.what ≠ t.what) := by simp [h4, h5]
    have hx : ¬ t.expiry > x.expiry := by omega
    simp only [spendL, hg, if_neg ho, if_neg hx]
    refine ⟨trivial, b, ?_⟩
    rw [← h3]
    exact without_unspent I S k x nd h1 h2
end Go.Proofs.Ytdgonebknphkcaa
