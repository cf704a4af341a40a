/- 'LedgerOnce', the attempts. -/
import Derived.Test.YtdgonebknphkcaaD
set_option linter.unusedSimpArgs false
set_option linter.unusedVariables false
set_option maxHeartbeats 4000000
namespace Go.Proofs.Ytdgonebknphkcaa
open Go.Abs Go.IntWalk

theorem set_cells (S : List Bool) (k : Nat) (hk : k < S.length) : (S.map Value.bool).take k ++ [.bool true] ++ (S.map Value.bool).drop (k + 1) = (S.set k true).map Value.bool := by
  rw [List.map_set, List.set_eq_take_append_cons_drop, if_pos (by simpa using hk)]
  simp
theorem map_flat {α : Type} (f : α → Value) : ∀ S : List α, S.map f = S.flatMap fun x => [f x]
  | [] => rfl
  | x :: S => by rw [List.map_cons, List.flatMap_cons, map_flat f S]; rfl
theorem l3_ok {I : List Ent} {T : Nat → Ent} {n nt p m : Nat} {most : Int} {x0 x1 x4 x6 x7 x8 : Value} {K : Cont} {B1 B6 B8 : Nat → Prop}
    (nd : (I.map Ent.nonce).Nodup) (hI : I.length ≤ 20) (hT : nt ≤ 40)
    (hB1 : ∀ i, B1 i → i ≠ m ∧ ¬ B8 i) (hB6 : ∀ i, B6 i → i ≠ m ∧ ¬ B8 i) (hB8 : ∀ i, B8 i → i ≠ m ∧ i ≠ p) (HK : ∀ h', K (.bool true) h') :
    ∀ (d j m0 : Nat) (h : St) (S : List Bool) (x10 x11 x12 x13 : Value), j + d = nt → I.length + d < m0 → S.length = I.length → Led h p m most (unspent I S) →
      OwnS B6 h x6 4 (I.flatMap cellsE) I.length → OwnS B8 h x8 1 (S.map Value.bool) I.length → SliceAt B1 h x1 nt 4 (fun i => cellsE (T i)) →
      tiltyardlaw09_LedgerOnce_l3 (tabC tabO) idG n m0 x0 x1 x4 (ptr p) x6 x7 x8 (.int .i64 j) x10 x11 x12 x13 h K := by
  intro d
  induction d with
  | zero =>
    intro j m0 h S x10 x11 x12 x13 hj hm hS led s6 s8 s1
    obtain ⟨m0, rfl⟩ : ∃ m, m0 = m + 1 := ⟨m0 - 1, by omega⟩
    rw [tiltyardlaw09_LedgerOnce_l3_eq, s1.len]
    have e : j = nt := by omega
    subst e
    simp only [bindV_some, binV_lss, condK_bool, Int.lt_irrefl, decide_false, Bool.false_eq_true, if_false, idG_eq]
    rw [tiltyardlaw09_LedgerOnce_j5_eq]
    exact .inr (.inr (.inr (.inl ⟨rfl, rfl, fun h' _ => HK h'⟩)))
  | succ d ih =>
    intro j m0 h S x10 x11 x12 x13 hj hm hS led s6 s8 s1
    obtain ⟨m0, rfl⟩ : ∃ m, m0 = m + 1 := ⟨m0 - 1, by omega⟩
    rw [tiltyardlaw09_LedgerOnce_l3_eq, s1.len]
    have hlt : (j : Int) < nt := by omega
    obtain ⟨b, o, g1, g2, g3, cs, own, g4, g5⟩ := s1.idx (Int.natCast_nonneg j) hlt .i64
    simp only [Int.toNat_natCast] at g5
    simp (disch := (try simp only [push_next, set_next, kill_next]); omega) [hlt, g1, g4, g5, cellsE, push_ne, set_ne]
    have led1 := led.chg (S := []) (h' := (h.push (.cells [.int .u64 0, .int .u32 0, .int .u32 0, .int .i64 0] true)).set h.next (.cells [.int .u64 (T j).nonce, .int .u32 (T j).owner, .int .u32 (T j).what, .int .i64 (T j).expiry] true)) (by repeat' (first | exact Chg.refl _ _ | apply Chg.of_push | (apply Chg.of_set _ (by first | (left; simp; done) | (right; simp; done))))) (by simp) (by simp)
    refine .inr (.inr (.inl ⟨rfl, p, m, most, unspent I S, (T j).nonce, (T j).owner, (T j).what, (T j).expiry, rfl, led1, fun h12 c12 led12 => ?_⟩))
    have c : Chg h h12 [m] := Chg.of_chg (by repeat' (first | exact Chg.refl _ _ | apply Chg.of_push | (apply Chg.of_set _ (by first | (left; simp; done) | (right; simp; done))))) c12 (by simp)
    have ht : h12.objs h.next = some (.cells (cellsE (T j)) true) := c12.at (by simp) (by simp; have := led.2.1; omega) (by simp [cellsE])
    have s6' := s6.chg c (by simpa using fun h => (hB6 _ h).1 rfl)
    have s8' := s8.chg c (by simpa using fun h => (hB8 _ h).1 rfl)
    have s1' := s1.chg c (by simpa using fun h => (hB1 _ h).1 rfl)
    have a6 : SliceAt B6 h12 x6 I.length 4 (rowE I) := s6'.slice (fun _ _ => rfl) (fun i x hx => by simp [rowE, hx])
    have a8 : SliceAt B8 h12 x8 I.length 1 (rowB S) := by
      rw [map_flat, ← hS] at s8'
      rw [← hS]
      exact s8'.slice (fun _ _ => rfl) (fun i x hx => by simp [rowB, hx])
    simp only [binNil_int, binV_eql, bindV_some]
    refine l4_ok (I := I) (S := S) (t := T j) hS hI I.length 0 m0 h12 (by omega) (by omega) a6 a8 (Nat.lt_of_lt_of_le (by simp) c12.1) ht fun h' c' => ?_
    rw [tiltyardlaw09_LedgerOnce_j7_eq]
    have hj1 : ((j : Int) + 1) = ((j + 1 : Nat) : Int) := by omega
    have next : ∀ (h'' : St) (S' : List Bool), S'.length = I.length → Led h'' p m most (unspent I S') → OwnS B6 h'' x6 4 (I.flatMap cellsE) I.length → OwnS B8 h'' x8 1 (S'.map Value.bool) I.length → SliceAt B1 h'' x1 nt 4 (fun i => cellsE (T i)) →
        tiltyardlaw09_LedgerOnce_j8 (tabC tabO) idG n m0 x0 x1 x4 (ptr p) x6 x7 x8 (.int .i64 j) (ptr h.next) (.bool (decide ((spendL (unspent I S) (T j).nonce (T j).owner (T j).what (T j).expiry).1 = 0))) (.int .i64 (mayF I S (T j) I.length)) (.int .i64 I.length) h'' K := by
      intro h'' S' hS' l' t6 t8 t1
      rw [tiltyardlaw09_LedgerOnce_j8_eq]
      simp (disch := omega) only [binNil_int, binV_add, bindV_some, idG_eq, i64_in]
      rw [hj1]
      exact ih (j + 1) m0 h'' S' _ _ _ _ (by omega) (by omega) hS' l' t6 t8 t1
    have s6'' := s6'.chg c' (by simp)
    have s8'' := s8'.chg c' (by simp)
    have s1'' := s1'.chg c' (by simp)
    have led'' := led12.chg c' (by simp) (by simp)
    rcases once_law (S := S) (T j) nd with ⟨z1, z2, z3⟩ | ⟨k, z0, z1, z2, z3⟩
    · rw [z3] at led''
      have := next h' S hS led'' s6'' s8'' s1''
      rw [z2] at this ⊢
      simp [z1] at this ⊢
      exact this
    · rw [z3] at led''
      rcases s8'' with ⟨_, q, _⟩ | ⟨q, rfl, q1, q2, q3, q4⟩
      · omega
      have := next (h'.set q (.cells ((S.set k true).map Value.bool) true)) (S.set k true) (by simpa using hS) (led''.chg (Chg.set (S := [q]) _ (by simp)) (by simpa using fun e => (hB8 _ q1).2 e.symm) (by simpa using fun e => (hB8 _ q1).1 e.symm))
        (s6''.chg (Chg.set (S := [q]) _ (by simp)) (by simpa using fun h => (hB6 _ h).2 q1)) (.inr ⟨q, rfl, q1, q2, set_at _ _ _, by simp [hS]⟩) (s1''.chg (Chg.set (S := [q]) _ (by simp)) (by simpa using fun h => (hB1 _ h).2 q1))
      have hk : (k : Int) < I.length := by omega
      have sc := set_cells S k (by omega)
      rw [z2] at this ⊢
      simp [z1, idxS, hk, q3] at this ⊢
      simp at sc
      rw [sc]
      exact ⟨by omega, this⟩

theorem issue_once (I : List Ent) (most : Int) (e : Ent) : issueL I most e e.expiry = (0, I ++ [e]) ∨ ((issueL I most e e.expiry).1 ≠ 0 ∧ (issueL I most e e.expiry).2 = I) := by
  unfold issueL
  rw [if_neg (by omega)]
  split
  · right; exact ⟨by simp, rfl⟩
  · split
    · right; exact ⟨by simp, rfl⟩
    · exact .inl rfl
theorem l0_ok {E T : Nat → Ent} {n ne nt p m N0 : Nat} {most : Int} {x1 x4 x0 : Value} {K : Cont} {B1 : Nat → Prop} (hE : ne ≤ 20) (hm : m < N0) (hp : p < N0)
    (hB1 : ∀ i, B1 i → i ≠ m ∧ i < N0)
    (END : ∀ (h : St) (I : List Ent) (x6 x7 x8 x9 x10 x11 x12 x13 : Value), N0 ≤ h.next → (I.map Ent.nonce).Nodup → I.length ≤ ne → Led h p m most I → OwnS (N0 ≤ ·) h x6 4 (I.flatMap cellsE) I.length → SliceAt B1 h x1 nt 4 (fun i => cellsE (T i)) →
      tiltyardlaw09_LedgerOnce_j2 (tabC tabO) idG n x0 x1 x4 (ptr p) x6 x7 x8 x9 x10 x11 x12 x13 h K) :
    ∀ (d j m0 : Nat) (h : St) (I : List Ent) (x6 x8 x9 x10 x11 x12 x13 : Value), j + d = ne → d < m0 → N0 ≤ h.next → I.length ≤ j → Led h p m most I →
      OwnS (N0 ≤ ·) h x6 4 (I.flatMap cellsE) I.length → SliceAt B1 h x0 ne 4 (fun i => cellsE (E i)) → SliceAt B1 h x1 nt 4 (fun i => cellsE (T i)) →
      tiltyardlaw09_LedgerOnce_l0 (tabC tabO) idG n m0 x0 x1 x4 (ptr p) x6 (.int .i64 j) x8 x9 x10 x11 x12 x13 h K := by
  intro d
  induction d with
  | zero =>
    intro j m0 h I x6 x8 x9 x10 x11 x12 x13 hj hm0 hN hI led s6 s0 s1
    obtain ⟨m0, rfl⟩ : ∃ m, m0 = m + 1 := ⟨m0 - 1, by omega⟩
    rw [tiltyardlaw09_LedgerOnce_l0_eq, s0.len]
    have e : j = ne := by omega
    subst e
    simp only [bindV_some, binV_lss, condK_bool, Int.lt_irrefl, decide_false, Bool.false_eq_true, if_false, idG_eq]
    exact END h I _ _ _ _ _ _ _ _ hN led.2.2.2.2.1 hI led s6 s1
  | succ d ih =>
    intro j m0 h I x6 x8 x9 x10 x11 x12 x13 hj hm0 hN hI led s6 s0 s1
    obtain ⟨m0, rfl⟩ : ∃ m, m0 = m + 1 := ⟨m0 - 1, by omega⟩
    rw [tiltyardlaw09_LedgerOnce_l0_eq, s0.len]
    have hlt : (j : Int) < ne := by omega
    obtain ⟨b, o, g1, g2, g3, cs, own, g4, g5⟩ := s0.idx (Int.natCast_nonneg j) hlt .i64
    simp only [Int.toNat_natCast] at g5
    have g6 := takeN_get g5 (j := 3) (by omega)
    simp [cellsE] at g6
    have gm := hB1 b g2
    simp (disch := (try simp only [push_next, set_next, kill_next]); omega) [hlt, g1, g4, g5, g6, cellsE, push_ne, set_ne]
    refine .inr (.inl ⟨rfl, p, m, most, I, E j, (E j).expiry, rfl, led, fun h5 c5 led5 => ?_⟩)
    have f4 : h5.objs b = some (.cells cs own) := c5.at g3 (by simpa using gm.1) g4
    have g5' : takeN cs o 4 = some [.int .u64 (E j).nonce, .int .u32 (E j).owner, .int .u32 (E j).what, .int .i64 (E j).expiry] := g5
    have s6' := s6.chg c5 (by simpa using hm)
    have s0' := s0.chg c5 (by simpa using fun h => (hB1 _ h).1 rfl)
    have s1' := s1.chg c5 (by simpa using fun h => (hB1 _ h).1 rfl)
    have r5 := c5.1
    have next : ∀ (h' : St) (I' : List Ent) (y6 : Value), N0 ≤ h'.next → I'.length ≤ j + 1 → Led h' p m most I' → OwnS (N0 ≤ ·) h' y6 4 (I'.flatMap cellsE) I'.length → SliceAt B1 h' x0 ne 4 (fun i => cellsE (E i)) → SliceAt B1 h' x1 nt 4 (fun i => cellsE (T i)) →
        tiltyardlaw09_LedgerOnce_j1 (tabC tabO) idG n m0 x0 x1 x4 (ptr p) y6 (.int .i64 j) x8 x9 x10 x11 x12 x13 h' K := by
      intro h' I' y6 a1 a2 a3 a4 a5 a6
      rw [tiltyardlaw09_LedgerOnce_j1_eq]
      simp (disch := omega) only [binNil_int, binV_add, bindV_some, idG_eq, i64_in]
      have hj1 : ((j : Int) + 1) = ((j + 1 : Nat) : Int) := by omega
      rw [hj1]
      exact ih (j + 1) m0 h' I' y6 _ _ _ _ _ _ (by omega) (by omega) a1 a2 a3 a4 a5 a6
    rcases issue_once I most (E j) with z | ⟨z1, z2⟩
    · rw [z] at led5 ⊢
      simp (disch := (try simp only [push_next, set_next, kill_next]); omega) [hlt, g1, f4, g5', g6, buildSliceE, fillL, repL, allOne_eq]
      have s6'' := s6'.chg (Chg.push (h := h5) (.cells [.int .u64 (E j).nonce, .int .u32 (E j).owner, .int .u32 (E j).what, .int .i64 (E j).expiry] true) []) (by simp)
      have s0'' := s0'.chg (Chg.push (h := h5) (.cells [.int .u64 (E j).nonce, .int .u32 (E j).owner, .int .u32 (E j).what, .int .i64 (E j).expiry] true) []) (by simp)
      have s1'' := s1'.chg (Chg.push (h := h5) (.cells [.int .u64 (E j).nonce, .int .u32 (E j).owner, .int .u32 (E j).what, .int .i64 (E j).expiry] true) []) (by simp)
      have led6 := led5.chg (Chg.push (h := h5) (.cells [.int .u64 (E j).nonce, .int .u32 (E j).owner, .int .u32 (E j).what, .int .i64 (E j).expiry] true) []) (by simp) (by simp)
      refine append_own (cs := I.flatMap cellsE) (new := cellsE (E j)) (m := 1) s6'' (by simp [newCells, cellsE]) (by omega) rfl (by simp [cellsE]) (by omega) (by omega) fun h7 S hS c7 n7 o7 e7 => ?_
      have e : I.flatMap cellsE ++ cellsE (E j) = (I ++ [E j]).flatMap cellsE := by simp
      have el : I.length + 1 = (I ++ [E j]).length := by simp
      rw [e] at o7 e7
      rw [el] at e7 ⊢
      refine next h7 (I ++ [E j]) _ ?_ (by simpa using hI) (led6.chg c7 (fun h => ?_) (fun h => ?_)) (.inr ⟨_, rfl, ?_, n7, o7, e7⟩) (s0''.chg c7 fun i hi => ?_) (s1''.chg c7 fun i hi => ?_)
      · have := c7.1; simp at this; omega
      · have := hS _ h; omega
      · have := hS _ h; omega
      · show N0 ≤ _; simp; omega
      · intro hb; have := hS _ hi; have := (hB1 _ hb).2; omega
      · intro hb; have := hS _ hi; have := (hB1 _ hb).2; omega
    · have f : (issueL I most (E j) (E j).expiry).1 ≠ 0 := z1
      rw [z2] at led5
      simp [f, f4, g5', g6]
      exact next h5 I x6 (by omega) (by omega) led5 s6' s0' s1'

/-- What the law's function is asked: rows that fit. -/
def onceS : Abs.Spec := fun args h k => ∃ (v0 v1 : Value) (ne nt : Nat) (E T : Nat → Ent), args = [v0, v1] ∧ SliceAt (· < h.next) h v0 ne 4 (fun i => cellsE (E i)) ∧ SliceAt (· < h.next) h v1 nt 4 (fun i => cellsE (T i)) ∧ ∀ h', k (.bool true) h'
theorem onceS_ok : SpecOk Try.prog 3 onceS := by
  refine specOk_wf mixed Try.func3 (by kernel_rfl) (by kernel_rfl) (tab := tabO) (by simp [tabO, newS_ok, issueS_ok, spendS_ok, awakeS_ok]) (by simp [tabO, newS_live, issueS_live, spendS_live, awakeS_live]) (keep := tiltyardlaw09_LedgerOnce_keep) ?_
  rintro args h k wf ⟨v0, v1, ne, nt, E, T, rfl, s0, s1, H⟩
  refine ⟨100, ?_⟩
  show tiltyardlaw09_LedgerOnce (tabC tabO) idG 100 v0 v1 h _
  rw [tiltyardlaw09_LedgerOnce_eq, s0.len, s1.len]
  have HK : ∀ h', ∃ h2, St.le h2 h' ∧ k (.bool true) h2 := fun h' => ⟨h', St.le.refl _, H h'⟩
  by_cases c0 : (ne : Int) > 20
  · simp [c0, groupK_eq]
    exact HK h
  by_cases c1 : (nt : Int) > 40
  · have c0' : ¬ (20 : Int) < ne := c0
    have c1' : (40 : Int) < nt := c1
    simp [c0', c1', groupK_eq, getT]
    exact HK h
  have c0' : ¬ (20 : Int) < ne := c0
  have c1' : ¬ (40 : Int) < nt := c1
  simp [c0', c1', groupK_eq, getT]
  refine .inl ⟨rfl, 20, rfl, fun h1 p m cc hp hm led => ?_⟩
  have t0 := s0.chg cc (by simp)
  have t1 := s1.chg cc (by simp)
  refine l0_ok (E := E) (T := T) (ne := ne) (nt := nt) (m := m) (N0 := h1.next) (most := max 0 20) (B1 := (· < h.next)) (by omega) led.2.1 led.1 (fun i hi => ⟨by omega, Nat.lt_of_lt_of_le hi cc.1⟩) ?_ ne 0 100 h1 [] _ _ _ _ _ _ _ (by omega) (by omega) (Nat.le_refl _) (by simp) led (.inl ⟨rfl, rfl, rfl⟩) t0 t1
  intro h2 I x6 x7 x8 x9 x10 x11 x12 x13 hN nd hI led2 s6 s1'
  rw [tiltyardlaw09_LedgerOnce_j2_eq, s6.len]
  simp [makeSliceE]
  refine ⟨by omega, ?_⟩
  have rep : ∀ n, repL [Value.bool false] n = (List.replicate n false).map Value.bool := by
    intro n; induction n with
    | zero => rfl
    | succ n ih => simp only [repL, ih, List.replicate_succ, List.map_cons]; rfl
  have c2 := Chg.push (h := h2) (.cells (repL [.bool false] I.length) true) []
  refine l3_ok (I := I) (T := T) (nt := nt) (m := m) (most := max 0 20) (B1 := (· < h.next)) (B6 := fun b => h1.next ≤ b ∧ b < h2.next) (B8 := (· = h2.next)) nd (by omega) (by omega)
    (fun i hi => ⟨by omega, by have := cc.1; omega⟩) (fun i hi => ⟨by have := led.2.1; omega, by omega⟩) (fun i hi => ⟨by have := led2.2.1; omega, by have := led2.1; omega⟩) HK
    nt 0 100 _ (List.replicate I.length false) _ _ _ _ (by omega) (by omega) (by simp) ?_ ?_ ?_ (s1'.chg c2 (by simp))
  · rw [unspent_new]; exact led2.chg c2 (by simp) (by simp)
  · exact (s6.imp fun i hi hb => ⟨hb, hi⟩).chg c2 (by simp)
  · exact .inr ⟨h2.next, rfl, rfl, by simp, by rw [push_at, rep], by simp⟩
end Go.Proofs.Ytdgonebknphkcaa
