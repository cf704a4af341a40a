/- The ledger's functions: what each does, over the abstract heap. -/
import Derived.Test.YtdgonebknphkcaaAbsKit
import Derived.Test.YtdgonebknphkcaaGenA
set_option linter.unusedSimpArgs false
set_option linter.unusedVariables false
namespace Go.Proofs.Ytdgonebknphkcaa
open Go.Abs

theorem mixed : Try.prog.follows .mixedOrders = true := by kernel_rfl
structure Ent where
  nonce : Int
  owner : Int
  what : Int
  expiry : Int
deriving DecidableEq
def cellsE (e : Ent) : List Value := [.int .u64 e.nonce, .int .u32 e.owner, .int .u32 e.what, .int .i64 e.expiry]
def enc (e : Ent) : Value := .agg #[.int .u64 e.nonce, .int .u32 e.owner, .int .u32 e.what, .int .i64 e.expiry]
def Ent.zero : Ent := ⟨0, 0, 0, 0⟩

/-! ### a map of entries -/
def kv (e : MapEntry) : Value × Value := (e.key, e.val)
def kvE (x : Ent) : Value × Value := (.int .u64 x.nonce, enc x)
def Rep (es : List MapEntry) (L : List Ent) : Prop := es.map kv = L.map kvE
def getL (L : List Ent) (n : Int) : Option Ent := L.find? fun x => x.nonce == n
def without (L : List Ent) (n : Int) : List Ent := L.filter fun x => x.nonce != n
theorem without_not {L : List Ent} {n : Int} (h : n ∉ L.map Ent.nonce) : without L n = L := by
  unfold without
  rw [List.filter_eq_self]
  intro x hx
  have : x.nonce ≠ n := fun e => h (List.mem_map.2 ⟨x, hx, e⟩)
  simpa using this
theorem find_rep (n : Int) : ∀ (es : List MapEntry) (L : List Ent) (i : Nat), Rep es L → (L.map Ent.nonce).Nodup →
    (∃ j e x, findE (.int .u64 n) es i = some (some (i + j, e)) ∧ e.val = enc x ∧ x.nonce = n ∧ getL L n = some x ∧ n ∈ L.map Ent.nonce ∧ Rep (es.eraseIdx j) (without L n)) ∨
      (findE (.int .u64 n) es i = some none ∧ getL L n = none ∧ n ∉ L.map Ent.nonce)
  | [], L, i, h, _ => by
    cases L with
    | nil => exact .inr ⟨rfl, rfl, by simp⟩
    | cons x L => simp [Rep] at h
  | e :: es, L, i, h, nd => by
    cases L with
    | nil => simp [Rep] at h
    | cons x L =>
      simp only [Rep, List.map_cons, List.cons.injEq] at h
      obtain ⟨h1, h2⟩ := h
      have hk : e.key = .int .u64 x.nonce := congrArg Prod.fst h1
      have hv : e.val = enc x := congrArg Prod.snd h1
      simp only [List.map_cons, List.nodup_cons] at nd
      by_cases hx : x.nonce = n
      · left
        refine ⟨0, e, x, ?_, hv, hx, ?_, by simp [hx], ?_⟩
        · simp [findE, hk, eqOne, hx]
        · simp [getL, hx]
        · have : without (x :: L) n = without L n := by simp [without, hx]
          rw [this, without_not (by rw [← hx]; exact nd.1)]
          exact h2
      · have hf : findE (.int .u64 n) (e :: es) i = findE (.int .u64 n) es (i + 1) := by
          have : (n == x.nonce) = false := by simpa using fun e => hx e.symm
          simp [findE, hk, eqOne, this]
        have hg : getL (x :: L) n = getL L n := by simp [getL, hx]
        rw [hf, hg]
        rcases find_rep n es L (i + 1) h2 nd.2 with ⟨j, e', x', a1, a2, a3, a4, a5, a6⟩ | ⟨a1, a2, a3⟩
        · refine .inl ⟨j + 1, e', x', by rw [a1]; congr 3; omega, a2, a3, a4, by simp [a5], ?_⟩
          have : without (x :: L) n = x :: without L n := by simp [without, hx]
          rw [this]
          simp only [List.eraseIdx_cons_succ, Rep, List.map_cons, h1]
          exact congrArg _ a6
        · exact .inr ⟨a1, a2, by simp [a3]; exact fun e => hx e.symm⟩

/-- A ledger. -/
def Led (h : St) (p m : Nat) (most : Int) (L : List Ent) : Prop :=
  p < h.next ∧ m < h.next ∧ p ≠ m ∧ h.objs p = some (.cells [.map (some m), .int .i64 most] true) ∧ (L.map Ent.nonce).Nodup ∧ ∃ es c, h.objs m = some (.map es c) ∧ Rep es L
theorem Led.chg {h h' : St} {p m : Nat} {most : Int} {L : List Ent} (l : Led h p m most L) {S : List Nat} (c : Chg h h' S) (h1 : p ∉ S) (h2 : m ∉ S) : Led h' p m most L := by
  obtain ⟨a1, a2, a3, a4, a5, es, cl, a6, a7⟩ := l
  exact ⟨Nat.lt_of_lt_of_le a1 c.1, Nat.lt_of_lt_of_le a2 c.1, a3, c.at a1 h1 a4, a5, es, cl, c.at a2 h2 a6, a7⟩
theorem Led.look {h : St} {p m : Nat} {most : Int} {L : List Ent} (l : Led h p m most L) (n : Int) :
    lookV (.int .u64) (.agg #[.int .u64 0, .int .u32 0, .int .u32 0, .int .i64 0]) true (.map (some m)) (.int .u64 n) h = some (.tuple #[enc ((getL L n).getD .zero), .bool (getL L n).isSome]) := by
  obtain ⟨_, _, _, _, a5, es, c, a6, a7⟩ := l
  simp only [lookV, a6, find, if_true]
  rcases find_rep n es L 0 a7 a5 with ⟨j, e, x, b1, b2, b3, b4, _⟩ | ⟨b1, b2, _⟩
  · simp [b1, b2, b4, outV]
  · simp [b1, b2, outV, enc, Ent.zero]
/-- The heap with another map of entries. -/
theorem Led.live {h : St} {p m : Nat} {most : Int} {L : List Ent} (l : Led h p m most L) (L' : List Ent) (nd : (L'.map Ent.nonce).Nodup) : ∃ h', Chg h h' [m] ∧ Led h' p m most L' := by
  obtain ⟨a1, a2, a3, a4, a5, es, cl, a6, a7⟩ := l
  refine ⟨h.set m (.map (L'.map fun x => ⟨(kvE x).1, (kvE x).2, 0⟩) 0), Chg.set _ (by simp), a1, a2, a3, by rw [set_ne a3]; exact a4, nd, _, _, set_at _ _ _, ?_⟩
  simp [Rep, kv, Function.comp_def]
theorem without_nodup {L : List Ent} (n : Int) (h : (L.map Ent.nonce).Nodup) : ((without L n).map Ent.nonce).Nodup := by
  unfold without
  exact List.Nodup.sublist (List.Sublist.map _ List.filter_sublist) h
theorem getL_none {L : List Ent} {n : Int} : getL L n = none ↔ n ∉ L.map Ent.nonce := by
  simp [getL]

def ptr (p : Nat) : Value := .pointer (some ⟨p, 0, none⟩)
/-! ### the functions -/
def oldS : Abs.Spec := fun args h k => ∃ e now, args = [enc e, .int .i64 now] ∧ ∀ h', Chg h h' [] → k (.bool (decide (now > e.expiry))) h'
theorem oldS_live : SpecLive oldS := by
  rintro args h k ⟨e, now, rfl, H⟩; exact ⟨_, _, H h (Chg.refl _ _)⟩
theorem oldS_ok : SpecOk Try.prog 23 oldS := by
  refine specOk_wf mixed Try.func23 (by kernel_rfl) (by kernel_rfl) (tab := []) (by simp) (by simp) (keep := ledger_Entry_old_keep) ?_
  rintro args h k wf ⟨e, now, rfl, H⟩
  refine ⟨0, ?_⟩
  show ledger_Entry_old (tabC []) idG 0 (enc e) (.int .i64 now) h _
  rw [ledger_Entry_old_eq]
  simp [enc]
  exact ⟨_, St.le.refl _, H _ (Chg.push _ _)⟩

def newS : Abs.Spec := fun args h k => ∃ most, args = [.int .i64 most] ∧ ∀ h' p m, Chg h h' [] → h.next ≤ p → h.next ≤ m → Led h' p m (max 0 most) [] → k (ptr p) h'
theorem newS_live : SpecLive newS := by
  rintro args h k ⟨most, rfl, H⟩
  refine ⟨_, _, H ((h.push (.map [] 0)).push (.cells [.map (some h.next), .int .i64 (max 0 most)] true)) (h.next + 1) h.next ?_ (Nat.le_succ _) (Nat.le_refl _) ?_⟩
  · exact (Chg.push _ []).trans (Chg.push _ []) (by simp) (by simp)
  · refine ⟨by simp, by simp; omega, by simp, push_at _ _, by simp, [], 0, ?_, rfl⟩
    rw [push_ne (by simp)]; exact push_at _ _
theorem newS_ok : SpecOk Try.prog 7 newS := by
  refine specOk_wf mixed Try.func7 (by kernel_rfl) (by kernel_rfl) (tab := []) (by simp) (by simp) (keep := ledger_New_keep) ?_
  rintro args h k wf ⟨most, rfl, H⟩
  refine ⟨0, ?_⟩
  show ledger_New (tabC []) idG 0 (.int .i64 most) h _
  rw [ledger_New_eq]
  have hm : (if most > 0 then most else 0) = max 0 most := by rw [Int.max_def]; split <;> split <;> omega
  simp [maxV, buildV, fillL]
  refine ⟨_, St.le.refl _, ?_⟩
  rw [show (if 0 < most then most else 0) = max 0 most from hm]
  refine H _ (h.next + 1) h.next ((Chg.push _ []).trans (Chg.push _ []) (by simp) (by simp)) (Nat.le_succ _) (Nat.le_refl _) ?_
  refine ⟨by simp, by simp; omega, by simp, push_at _ _, by simp, [], 0, ?_, rfl⟩
  rw [push_ne (by simp)]; exact push_at _ _

/-- 'Get' of a ledger. -/
def getS : Abs.Spec := fun args h k => ∃ p m most L n, args = [ptr p, .int .u64 n] ∧ Led h p m most L ∧ ∀ h', Chg h h' [] → k (.tuple #[enc ((getL L n).getD .zero), .bool (getL L n).isSome]) h'
theorem getS_live : SpecLive getS := by
  rintro args h k ⟨p, m, most, L, n, rfl, hl, H⟩; exact ⟨_, _, H h (Chg.refl _ _)⟩
theorem getS_ok : SpecOk Try.prog 12 getS := by
  refine specOk_wf mixed Try.func12 (by kernel_rfl) (by kernel_rfl) (tab := []) (by simp) (by simp) (keep := ledger_Ledger_Get_keep) ?_
  rintro args h k wf ⟨p, m, most, L, n, rfl, hl, H⟩
  refine ⟨0, ?_⟩
  show ledger_Ledger_Get (tabC []) idG 0 (ptr p) (.int .u64 n) h _
  rw [ledger_Ledger_Get_eq]
  have c1 := Chg.push (h := h) (.cells [.int .u64 0, .int .u32 0, .int .u32 0, .int .i64 0] true) []
  have l1 := hl.chg c1 (by simp) (by simp)
  have hp : (h.push (.cells [.int .u64 0, .int .u32 0, .int .u32 0, .int .i64 0] true)).objs p = some (.cells [.map (some m), .int .i64 most] true) := l1.2.2.2.1
  have hne : p ≠ h.next := Nat.ne_of_lt hl.1
  have hp0 := hl.1
  simp [ptr, hp]
  rw [l1.look n]
  simp (disch := (try simp only [push_next, set_next, kill_next]); omega) [enc, takeN, set_ne, push_ne]
  refine ⟨_, St.le.refl _, H _ ?_⟩
  repeat' (first | exact Chg.refl _ _ | apply Chg.of_push | (apply Chg.of_set _ (by first | (left; simp; done) | (right; simp; done))))

theorem Rep.length {es : List MapEntry} {L : List Ent} (h : Rep es L) : es.length = L.length := by
  have := congrArg List.length h
  simpa using this
def issueL (L : List Ent) (most : Int) (e : Ent) (now : Int) : Int × List Ent :=
  if now > e.expiry then (9, L) else if (getL L e.nonce).isSome then (11, L) else if (L.length : Int) ≥ most then (10, L) else (0, L ++ [e])
theorem issueL_nodup {L : List Ent} (most : Int) (e : Ent) (now : Int) (h : (L.map Ent.nonce).Nodup) : ((issueL L most e now).2.map Ent.nonce).Nodup := by
  unfold issueL
  split
  · exact h
  · split
    · exact h
    · split
      · exact h
      · rename_i hg _
        have : getL L e.nonce = none := by cases hx : getL L e.nonce with | none => rfl | some x => simp [hx] at hg
        rw [getL_none] at this
        simp only [List.map_append, List.map_cons, List.map_nil, List.nodup_append]
        refine ⟨h, by simp, ?_⟩
        intro a ha b hb
        simp at hb
        subst hb
        exact fun e => this (e ▸ ha)
def issueS : Abs.Spec := fun args h k => ∃ p m most L e now, args = [ptr p, enc e, .int .i64 now] ∧ Led h p m most L ∧
  ∀ h', Chg h h' [m] → Led h' p m most (issueL L most e now).2 → k (.int .i64 (issueL L most e now).1) h'
theorem issueS_live : SpecLive issueS := by
  rintro args h k ⟨p, m, most, L, e, now, rfl, hl, H⟩
  obtain ⟨h', c, l⟩ := hl.live _ (issueL_nodup most e now hl.2.2.2.2.1)
  exact ⟨_, _, H h' c l⟩
theorem issueS_ok : SpecOk Try.prog 8 issueS := by
  refine specOk_wf mixed Try.func8 (by kernel_rfl) (by kernel_rfl) (tab := [(23, oldS)]) (by simp [oldS_ok]) (by simp [oldS_live]) (keep := ledger_Ledger_Issue_keep) ?_
  rintro args h k wf ⟨p, m, most, L, e, now, rfl, hl, H⟩
  refine ⟨0, ?_⟩
  show ledger_Ledger_Issue (tabC [(23, oldS)]) idG 0 (ptr p) (enc e) (.int .i64 now) h _
  rw [ledger_Ledger_Issue_eq]
  have hl' := hl
  obtain ⟨a1, a2, a3, a4, a5, es, cl, a6, a7⟩ := hl
  have hlen := a7.length
  rcases find_rep e.nonce es L 0 a7 a5 with ⟨j, e', x, b1, b2, b3, b4, b5, b6⟩ | ⟨b1, b2, b3⟩
  · simp (disch := (try simp only [push_next, set_next, kill_next]); omega) [enc, ptr, push_ne, set_ne, a4, a6, lookV_ptr, b1, b2, takeN, List.getElem?_cons_zero, List.getElem?_cons_succ]
    refine .inl ⟨rfl, e, now, rfl, fun h5 c5 => ?_⟩
    have c : Chg h h5 [m] := Chg.of_chg (by repeat' (first | exact Chg.refl _ _ | apply Chg.of_push | (apply Chg.of_set _ (by first | (left; simp; done) | (right; simp; done))))) c5 (by simp)
    have l5 := hl'.chg (S := []) (Chg.of_chg (by repeat' (first | exact Chg.refl _ _ | apply Chg.of_push | (apply Chg.of_set _ (by first | (left; simp; done) | (right; simp; done))))) c5 (by simp)) (by simp) (by simp)
    by_cases ho : now > e.expiry
    · have hi : issueL L most e now = (9, L) := by simp only [issueL, if_pos ho]
      simp [ho]
      refine ⟨_, St.le.refl _, ?_⟩
      have := H h5 c; rw [hi] at this; exact this l5
    · have hi : issueL L most e now = (11, L) := by simp only [issueL, if_neg ho, b4]; rfl
      simp [ho]
      refine ⟨_, St.le.refl _, ?_⟩
      have := H h5 c; rw [hi] at this; exact this l5
  · simp (disch := (try simp only [push_next, set_next, kill_next]); omega) [enc, ptr, push_ne, set_ne, a4, a6, lookV_ptr, b1, takeN, List.getElem?_cons_zero, List.getElem?_cons_succ]
    refine .inl ⟨rfl, e, now, rfl, fun h5 c5 => ?_⟩
    have c : Chg h h5 [m] := Chg.of_chg (by repeat' (first | exact Chg.refl _ _ | apply Chg.of_push | (apply Chg.of_set _ (by first | (left; simp; done) | (right; simp; done))))) c5 (by simp)
    have l5 := hl'.chg (S := []) (Chg.of_chg (by repeat' (first | exact Chg.refl _ _ | apply Chg.of_push | (apply Chg.of_set _ (by first | (left; simp; done) | (right; simp; done))))) c5 (by simp)) (by simp) (by simp)
    by_cases ho : now > e.expiry
    · have hi : issueL L most e now = (9, L) := by simp only [issueL, if_pos ho]
      simp [ho]
      refine ⟨_, St.le.refl _, ?_⟩
      have := H h5 c; rw [hi] at this; exact this l5
    · simp only [ho]
      have e5 : h5.objs h.next = some (.cells (cellsE e) true) := c5.at (by simp; omega) (by simp) (by simp (disch := (try simp only [push_next, set_next, kill_next]); omega) [push_ne, set_ne, cellsE])
      obtain ⟨d1, d2, _, d4, _, es', cl', d6, d7⟩ := l5
      have hlen' := d7.length
      simp (disch := (try simp only [push_next, set_next, kill_next]); omega) [push_ne, set_ne, d4, d6, e5, hlen', List.getElem?_cons_zero, List.getElem?_cons_succ]
      have hg : (getL L e.nonce).isSome = false := by rw [b2]; rfl
      by_cases hm : most ≤ L.length
      · have hi : issueL L most e now = (10, L) := by simp only [issueL, if_neg ho, hg]; simp [hm]
        simp [hm]
        refine ⟨_, St.le.refl _, ?_⟩
        have := H h5 c; rw [hi] at this; exact this (hl'.chg (S := []) (Chg.of_chg (by repeat' (first | exact Chg.refl _ _ | apply Chg.of_push | (apply Chg.of_set _ (by first | (left; simp; done) | (right; simp; done))))) c5 (by simp)) (by simp) (by simp))
      · have hi : issueL L most e now = (0, L ++ [e]) := by simp only [issueL, if_neg ho, hg]; simp [hm]
        simp only [hm, if_false]
        have hf : findE (.int .u64 e.nonce) es' 0 = some none := by
          rcases find_rep e.nonce es' L 0 d7 a5 with ⟨_, _, _, _, _, _, _, q, _⟩ | ⟨q, _⟩
          · exact absurd q b3
          · exact q
        have hne : h.next ≠ m := by omega
        simp (disch := (try simp only [push_next, set_next, kill_next]); omega) [cellsE, takeN, mapUpdateE_ptr, d6, hf, set_ne, d4, e5, List.getElem?_cons_zero, List.getElem?_cons_succ]
        refine ⟨_, St.le.refl _, ?_⟩
        have nd := issueL_nodup most e now a5
        have := H (h5.set m (.map (es' ++ [⟨.int .u64 e.nonce, .agg #[.int .u64 e.nonce, .int .u32 e.owner, .int .u32 e.what, .int .i64 e.expiry], cl'⟩]) (cl' + 1))) (Chg.of_set c (by simp))
        rw [hi] at this nd
        refine this ⟨d1, d2, a3, by rw [set_ne a3]; exact d4, nd, _, _, set_at _ _ _, ?_⟩
        unfold Rep at d7 ⊢
        rw [List.map_append, List.map_append, d7]
        rfl
end Go.Proofs.Ytdgonebknphkcaa
