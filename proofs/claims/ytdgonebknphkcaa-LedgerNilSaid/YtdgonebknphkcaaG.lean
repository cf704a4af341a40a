/- 'LedgerNil', walked: what the functions do without a ledger. -/
import Derived.Test.YtdgonebknphkcaaE
set_option linter.unusedSimpArgs false
set_option linter.unusedVariables false
set_option maxHeartbeats 4000000
namespace Go.Proofs.Ytdgonebknphkcaa
open Go.Abs Go.IntWalk

def nilP : Value := .pointer none
def getN : Abs.Spec := fun args h k => ∃ n, args = [nilP, .int .u64 n] ∧ ∀ h', Chg h h' [] → k (.tuple #[enc .zero, .bool false]) h'
theorem getN_live : SpecLive getN := by rintro args h k ⟨n, rfl, H⟩; exact ⟨_, _, H h (Chg.refl _ _)⟩
theorem getN_ok : SpecOk Try.prog 12 getN := by
  refine specOk_wf mixed Try.func12 (by kernel_rfl) (by kernel_rfl) (tab := []) (by simp) (by simp) (keep := ledger_Ledger_Get_keep) ?_
  rintro args h k wf ⟨n, rfl, H⟩
  refine ⟨0, ?_⟩
  show ledger_Ledger_Get (tabC []) idG 0 nilP (.int .u64 n) h _
  rw [ledger_Ledger_Get_eq]
  simp [nilP, buildV, fillL]
  refine ⟨_, St.le.refl _, H _ ?_⟩
  repeat' (first | exact Chg.refl _ _ | apply Chg.of_push | (apply Chg.of_set _ (by first | (left; simp; done) | (right; simp; done))))
def issueN : Abs.Spec := fun args h k => ∃ e now, args = [nilP, enc e, .int .i64 now] ∧ ∀ h', Chg h h' [] → k (.int .i64 10) h'
theorem issueN_live : SpecLive issueN := by rintro args h k ⟨e, now, rfl, H⟩; exact ⟨_, _, H h (Chg.refl _ _)⟩
theorem issueN_ok : SpecOk Try.prog 8 issueN := by
  refine specOk_wf mixed Try.func8 (by kernel_rfl) (by kernel_rfl) (tab := []) (by simp) (by simp) (keep := ledger_Ledger_Issue_keep) ?_
  rintro args h k wf ⟨e, now, rfl, H⟩
  refine ⟨0, ?_⟩
  show ledger_Ledger_Issue (tabC []) idG 0 nilP (enc e) (.int .i64 now) h _
  rw [ledger_Ledger_Issue_eq]
  simp [nilP, enc]
  refine ⟨_, St.le.refl _, H _ ?_⟩
  repeat' (first | exact Chg.refl _ _ | apply Chg.of_push | (apply Chg.of_set _ (by first | (left; simp; done) | (right; simp; done))))
def spendN : Abs.Spec := fun args h k => ∃ n o w t, args = [nilP, .int .u64 n, .int .u32 o, .int .u32 w, .int .i64 t] ∧ ∀ h', Chg h h' [] → k (.int .i64 12) h'
theorem spendN_live : SpecLive spendN := by rintro args h k ⟨n, o, w, t, rfl, H⟩; exact ⟨_, _, H h (Chg.refl _ _)⟩
theorem spendN_ok : SpecOk Try.prog 9 spendN := by
  refine specOk_wf mixed Try.func9 (by kernel_rfl) (by kernel_rfl) (tab := [(12, getN)]) (by simp [getN_ok]) (by simp [getN_live]) (keep := ledger_Ledger_Spend_keep) ?_
  rintro args h k wf ⟨n, o, w, t, rfl, H⟩
  refine ⟨0, ?_⟩
  show ledger_Ledger_Spend (tabC [(12, getN)]) idG 0 nilP (.int .u64 n) (.int .u32 o) (.int .u32 w) (.int .i64 t) h _
  rw [ledger_Ledger_Spend_eq]
  refine .inl ⟨rfl, n, rfl, fun h1 c1 => ?_⟩
  have r1 := c1.1
  simp [enc]
  exact ⟨_, St.le.refl _, H _ (Chg.of_set (Chg.of_push c1) (.inr (by simpa using r1)))⟩
/-- Nonces, by the row. -/
def rowN (L : List Int) (i : Nat) : List Value := [.int .u64 (L[i]?.getD 0)]
def revokeN : Abs.Spec := fun args h k => ∃ v L, args = [nilP, v] ∧ SliceAt (fun _ => True) h v L.length 1 (rowN L) ∧ L.length ≤ 1000 ∧ ∀ h', Chg h h' [] → k (.int .i64 0) h'
theorem revokeN_live : SpecLive revokeN := by rintro args h k ⟨v, L, rfl, _, _, H⟩; exact ⟨_, _, H h (Chg.refl _ _)⟩
theorem revokeN_l0 {n : Nat} {x4 x10 : Value} {L : List Int} {K : Cont} (hL : L.length ≤ 1000) : ∀ (d j m0 : Nat) (h : St), j + d = L.length → d < m0 → SliceAt (fun _ => True) h x10 L.length 1 (rowN L) → (∀ h', Chg h h' [] → K (.int .i64 0) h') →
    ledger_Ledger_Revoke_l0 (tabC [(12, getN)]) idG n m0 nilP x4 (.int .i64 0) x10 (.int .i64 L.length) (.int .i64 j) h K := by
  intro d
  induction d with
  | zero =>
    intro j m0 h hj hm s H
    obtain ⟨m0, rfl⟩ : ∃ m, m0 = m + 1 := ⟨m0 - 1, by omega⟩
    rw [ledger_Ledger_Revoke_l0_eq]
    have e : j = L.length := by omega
    subst e
    simp only [bindV_some, binV_lss, condK_bool, Int.lt_irrefl, decide_false, Bool.false_eq_true, if_false, idG_eq]
    rw [ledger_Ledger_Revoke_j2_eq]
    exact H h (Chg.refl _ _)
  | succ d ih =>
    intro j m0 h hj hm s H
    obtain ⟨m0, rfl⟩ : ∃ m, m0 = m + 1 := ⟨m0 - 1, by omega⟩
    rw [ledger_Ledger_Revoke_l0_eq]
    have hlt : (j : Int) < L.length := by omega
    obtain ⟨b, o, g1, _, g3, cs, own, g4, g5⟩ := s.idx (Int.natCast_nonneg j) hlt .i64
    have g6 := takeN_get g5 (j := 0) (by omega)
    simp [rowN] at g6
    simp [hlt, g1, g4, g6]
    refine .inl ⟨rfl, _, rfl, fun h1 c1 => ?_⟩
    have r1 := c1.1
    simp [enc]
    rw [ledger_Ledger_Revoke_j1_eq]
    have hj1 : ((j : Int) + 1) = ((j + 1 : Nat) : Int) := by omega
    simp (disch := omega) only [binNil_int, binV_add, bindV_some, idG_eq, i64_in]
    rw [hj1]
    have c : Chg h ((h1.push (.cells [.int .u64 0, .int .u32 0, .int .u32 0, .int .i64 0] true)).set h1.next (.cells [.int .u64 Ent.zero.nonce, .int .u32 Ent.zero.owner, .int .u32 Ent.zero.what, .int .i64 Ent.zero.expiry] true)) [] :=
      Chg.of_set (Chg.of_push c1) (.inr (by simpa using r1))
    exact ih (j + 1) m0 _ (by omega) (by omega) (s.chg c (by simp)) fun h' c' => H h' (c.of_chg c' (by simp))
theorem revokeN_ok : SpecOk Try.prog 17 revokeN := by
  refine specOk_wf mixed Try.func17 (by kernel_rfl) (by kernel_rfl) (tab := [(12, getN)]) (by simp [getN_ok]) (by simp [getN_live]) (keep := ledger_Ledger_Revoke_keep) ?_
  rintro args h k wf ⟨v, L, rfl, s, hL, H⟩
  refine ⟨1001, ?_⟩
  show ledger_Ledger_Revoke (tabC [(12, getN)]) idG 1001 nilP v h _
  rw [ledger_Ledger_Revoke_eq, s.len]
  exact revokeN_l0 hL L.length 0 1001 h (by omega) (by omega) s fun h' c => ⟨_, St.le.refl _, H h' c⟩
def noncesN : Abs.Spec := fun args h k => args = [nilP] ∧ k (.slice none 0 0) h
theorem noncesN_live : SpecLive noncesN := by rintro args h k ⟨rfl, H⟩; exact ⟨_, _, H⟩
theorem noncesN_ok : SpecOk Try.prog 11 noncesN := by
  refine specOk_wf mixed Try.func11 (by kernel_rfl) (by kernel_rfl) (tab := []) (by simp) (by simp) (keep := ledger_Ledger_Nonces_keep) ?_
  rintro args h k wf ⟨rfl, H⟩
  refine ⟨0, ?_⟩
  show ledger_Ledger_Nonces (tabC []) idG 0 nilP h _
  rw [ledger_Ledger_Nonces_eq]
  simp [nilP]
  exact ⟨_, St.le.refl _, H⟩
def lenN : Abs.Spec := fun args h k => args = [nilP] ∧ k (.int .i64 0) h
theorem lenN_live : SpecLive lenN := by rintro args h k ⟨rfl, H⟩; exact ⟨_, _, H⟩
theorem lenN_ok : SpecOk Try.prog 22 lenN := by
  refine specOk_wf mixed Try.func22 (by kernel_rfl) (by kernel_rfl) (tab := []) (by simp) (by simp) (keep := ledger_Ledger_Len_keep) ?_
  rintro args h k wf ⟨rfl, H⟩
  refine ⟨0, ?_⟩
  show ledger_Ledger_Len (tabC []) idG 0 nilP h _
  rw [ledger_Ledger_Len_eq]
  simp [nilP]
  exact ⟨_, St.le.refl _, H⟩
def sweepN : Abs.Spec := fun args h k => ∃ t, args = [nilP, .int .i64 t] ∧ ∀ h', Chg h h' [] → k (.int .i64 0) h'
theorem sweepN_live : SpecLive sweepN := by rintro args h k ⟨t, rfl, H⟩; exact ⟨_, _, H h (Chg.refl _ _)⟩
theorem sweepN_ok : SpecOk Try.prog 19 sweepN := by
  refine specOk_wf mixed Try.func19 (by kernel_rfl) (by kernel_rfl) (tab := [(11, noncesN), (17, revokeN)]) (by simp [noncesN_ok, revokeN_ok]) (by simp [noncesN_live, revokeN_live]) (keep := ledger_Ledger_Sweep_keep) ?_
  rintro args h k wf ⟨t, rfl, H⟩
  refine ⟨1, ?_⟩
  show ledger_Ledger_Sweep (tabC [(11, noncesN), (17, revokeN)]) idG 1 nilP (.int .i64 t) h _
  rw [ledger_Ledger_Sweep_eq]
  refine .inl ⟨rfl, rfl, ?_⟩
  simp
  rw [ledger_Ledger_Sweep_l0_eq]
  simp
  rw [ledger_Ledger_Sweep_j2_eq]
  exact .inr (.inl ⟨rfl, .slice none 0 0, [], rfl, .inl ⟨rfl, rfl⟩, by simp, fun h' c => ⟨_, St.le.refl _, H h' c⟩⟩)

def tabN : List (FuncId × Abs.Spec) := [(12, getN), (8, issueN), (9, spendN), (17, revokeN), (19, sweepN), (11, noncesN), (22, lenN), (10, awakeS)]
def nilS : Abs.Spec := fun args h k => ∃ e t : Ent, args = [enc e, enc t] ∧ ∀ h', k (.bool true) h'
theorem nilS_ok : SpecOk Try.prog 6 nilS := by
  refine specOk_wf mixed Try.func6 (by kernel_rfl) (by kernel_rfl) (tab := tabN) (by simp [tabN, getN_ok, issueN_ok, spendN_ok, revokeN_ok, sweepN_ok, noncesN_ok, lenN_ok, awakeS_ok])
    (by simp [tabN, getN_live, issueN_live, spendN_live, revokeN_live, sweepN_live, noncesN_live, lenN_live, awakeS_live]) (keep := tiltyardlaw09_LedgerNil_keep) ?_
  rintro args h k wf ⟨e, t, rfl, H⟩
  refine ⟨0, ?_⟩
  show tiltyardlaw09_LedgerNil (tabC tabN) idG 0 (enc e) (enc t) h _
  rw [tiltyardlaw09_LedgerNil_eq]
  simp (disch := (try simp only [push_next, set_next, kill_next]); omega) [enc, push_ne, set_ne]
  refine .inl ⟨rfl, _, rfl, fun h1 c1 => ?_⟩
  have n1 : h.next + 2 ≤ h1.next := by have := c1.1; simpa using this
  have a1 : h1.objs h.next = some (.cells (cellsE e) true) := c1.at (by simp; omega) (by simp) (by simp (disch := (try simp only [push_next, set_next, kill_next]); omega) [push_ne, cellsE])
  have b1 : h1.objs (h.next + 1) = some (.cells (cellsE t) true) := c1.at (by simp) (by simp) (by simp (disch := (try simp only [push_next, set_next, kill_next]); omega) [push_ne, cellsE]; exact push_at (h.push _) _)
  simp (disch := (try simp only [push_next, set_next, kill_next]); omega) [enc, cellsE, push_ne, set_ne, a1, b1]
  obtain ⟨g, hg⟩ : ∃ g, g = (h1.push (.cells [.int .u64 0, .int .u32 0, .int .u32 0, .int .i64 0] true)).set h1.next (.cells [.int .u64 Ent.zero.nonce, .int .u32 Ent.zero.owner, .int .u32 Ent.zero.what, .int .i64 Ent.zero.expiry] true) := ⟨_, rfl⟩
  rw [← hg]
  have cg : Chg h1 g [] := by rw [hg]; repeat' (first | exact Chg.refl _ _ | apply Chg.of_push | (apply Chg.of_set _ (by first | (left; simp; done) | (right; simp; done))))
  have n2 : h1.next + 1 ≤ g.next := by rw [hg]; simp
  have a2 := cg.at (by omega) (by simp) a1
  have b2 := cg.at (by omega) (by simp) b1
  have x2 : g.objs h1.next = some (.cells (cellsE .zero) true) := by rw [hg]; simp [cellsE]
  clear hg
  refine .inr (.inl ⟨rfl, e, t.expiry, rfl, fun h2 c2 => ?_⟩)
  have n3 : h1.next + 1 ≤ h2.next := Nat.le_trans n2 c2.1
  have a3 := c2.at (by omega) (by simp) a2
  have b3 := c2.at (by omega) (by simp) b2
  have x3 := c2.at (by omega) (by simp) x2
  simp [groupK_eq, getT, b3, cellsE]
  refine .inr (.inr (.inl ⟨rfl, _, _, _, _, rfl, fun h3 c3 => ?_⟩))
  have n4 : h1.next + 1 ≤ h3.next := Nat.le_trans n3 c3.1
  have b4 := c3.at (by omega) (by simp) b3
  have x4 := c3.at (by omega) (by simp) x3
  simp [groupK_eq, getT, b4, cellsE, buildSliceE, fillL, repL, allOne_eq]
  refine .inr (.inr (.inr (.inl ⟨rfl, _, [t.nonce], rfl, .inr ⟨h3.next, 0, some 1, 0, rfl, fun _ => ⟨trivial, by simp, _, _, push_at _ _, fun i hi => ?_⟩⟩, by simp, fun h4 c4 => ?_⟩)))
  · have : i = 0 := by simpa using hi
    subst this; rfl
  have n5 : h1.next + 1 ≤ h4.next := Nat.le_trans (by simp; omega) c4.1
  have b5 := c4.at (by simp; omega) (by simp) ((push_ne (by omega)).trans b4)
  have x5 := c4.at (by simp; omega) (by simp) ((push_ne (by omega)).trans x4)
  simp [groupK_eq, getT, b5, cellsE]
  refine .inr (.inr (.inr (.inr (.inl ⟨rfl, _, rfl, fun h5 c5 => ?_⟩))))
  have x6 := c5.at (by omega) (by simp) x5
  simp [groupK_eq, getT, x6, cellsE, buildV, fillL, binV, eqV, eqAll, eqCk, Ent.zero]
  refine .inr (.inr (.inr (.inr (.inr (.inl ⟨rfl, rfl, ?_⟩)))))
  simp [groupK_eq, getT]
  refine .inr (.inr (.inr (.inr (.inr (.inr (.inl ⟨rfl, rfl, ?_⟩))))))
  simp [groupK_eq, getT]
  refine .inr (.inr (.inr (.inr (.inr (.inr (.inr (.inl ⟨rfl, rfl, fun h' c' => ?_⟩)))))))
  simp [groupK_eq, getT]
  exact ⟨_, St.le.refl _, H _⟩
end Go.Proofs.Ytdgonebknphkcaa
