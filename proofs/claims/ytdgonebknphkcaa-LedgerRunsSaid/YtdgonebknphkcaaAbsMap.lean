/- Maps over the abstract heap: their entries as the rows of a list. -/
import Derived.Test.YtdgonebknphkcaaAbsSl
set_option linter.unusedSimpArgs false
set_option linter.unusedVariables false
namespace Go.Abs

/-- How a key that is asked for and one that is there compare. -/
def cmpK : KeyMode → Value → Value → Option Bool
  | .int _, a, b => eqOne a b
  | .text, a, b => eqOne a b
  | .bool, a, b => eqOne a b
  | .flat ks, .agg c, .agg d => eqAll ks c.toList d.toList
  | _, _, _ => none
def findBy (f : Value → Option Bool) : List MapEntry → Nat → Option (Option (Nat × MapEntry))
  | [], _ => some none
  | e :: es, i => match f e.key with
    | some true => some (some (i, e))
    | some false => findBy f es (i + 1)
    | none => none
theorem findE_by (k : Value) : ∀ (es : List MapEntry) (i : Nat), findE k es i = findBy (eqOne k) es i
  | [], _ => rfl
  | e :: es, i => by simp only [findE, findBy, findE_by k es]; rfl
theorem findF_by (ks : List Ck) (c : Array Value) : ∀ (es : List MapEntry) (i : Nat), findF ks c.toList es i = findBy (cmpK (.flat ks) (.agg c)) es i
  | [], _ => rfl
  | e :: es, i => by
    unfold findF findBy
    cases hk : e.key with
    | agg d =>
      simp only [cmpK, findF_by ks c es]
      rcases eqAll ks c.toList d.toList with _ | _ | _ <;> rfl
    | _ => rfl
theorem find_by {m : KeyMode} {q : Value} (hq : find m q [] = some none) (es : List MapEntry) : find m q es = findBy (cmpK m q) es 0 := by
  unfold find at hq ⊢
  split at hq <;> try split at hq
  all_goals try cases hq
  · rename_i h; rw [if_pos h]; exact findE_by _ _ _
  · exact findE_by _ _ _
  · exact findE_by _ _ _
  · rename_i h; simp only [h, if_true]; exact findF_by _ _ _ _
def kv (e : MapEntry) : Value × Value := (e.key, e.val)
/-- The entries of a map, told by a list. -/
def Rep {α : Type} (ek ev : α → Value) (es : List MapEntry) (L : List α) : Prop := es.map kv = L.map fun x => (ek x, ev x)
theorem Rep.length {α : Type} {ek ev : α → Value} {es : List MapEntry} {L : List α} (h : Rep ek ev es L) : es.length = L.length := by
  have := congrArg List.length h
  simpa using this
theorem Rep.push {α : Type} {ek ev : α → Value} {es : List MapEntry} {L : List α} (h : Rep ek ev es L) (x : α) (c : Nat) : Rep ek ev (es ++ [⟨ek x, ev x, c⟩]) (L ++ [x]) := by
  unfold Rep at *
  simp only [List.map_append, h, List.map_cons, List.map_nil, kv]
theorem find_rep' {α : Type} {ek ev : α → Value} {f : Value → Option Bool} {p : α → Bool} : ∀ (es : List MapEntry) (L : List α) (i : Nat), Rep ek ev es L → (∀ x ∈ L, f (ek x) = some (p x)) →
    (∃ A x B e, L = A ++ x :: B ∧ p x = true ∧ (∀ y ∈ A, p y = false) ∧ findBy f es i = some (some (i + A.length, e)) ∧ e.key = ek x ∧ e.val = ev x ∧ Rep ek ev (es.eraseIdx A.length) (A ++ B) ∧ ∀ x', Rep ek ev (entrySet es A.length (ek x') (ev x')) (A ++ x' :: B)) ∨
      (findBy f es i = some none ∧ ∀ x ∈ L, p x = false)
  | [], L, i, h, _ => by
    cases L with
    | nil => exact .inr ⟨rfl, by simp⟩
    | cons x L => simp [Rep] at h
  | e :: es, L, i, h, hp => by
    cases L with
    | nil => simp [Rep] at h
    | cons x L =>
      simp only [Rep, List.map_cons, List.cons.injEq] at h
      obtain ⟨h1, h2⟩ := h
      have hk : e.key = ek x := congrArg Prod.fst h1
      have hv : e.val = ev x := congrArg Prod.snd h1
      have hx := hp x (by simp)
      cases px : p x with
      | true =>
        refine .inl ⟨[], x, L, e, rfl, px, by simp, ?_, hk, hv, h2, fun x' => ?_⟩
        · rw [px] at hx; simp [findBy, hk, hx]
        · simp only [Rep, entrySet, List.length_nil, List.modify_zero_cons, List.nil_append, List.map_cons, kv]
          exact congrArg _ h2
      | false =>
        have hf : findBy f (e :: es) i = findBy f es (i + 1) := by rw [px] at hx; simp [findBy, hk, hx]
        rw [hf]
        rcases find_rep' es L (i + 1) h2 (fun y hy => hp y (by simp [hy])) with ⟨A, y, B, e', a1, a2, a3, a4, a5, a6, a7, a8⟩ | ⟨a1, a2⟩
        · refine .inl ⟨x :: A, y, B, e', by rw [a1]; rfl, a2, ?_, by rw [a4]; simp; omega, a5, a6, ?_, fun x' => ?_⟩
          · intro z hz
            rcases List.mem_cons.1 hz with rfl | hz
            · exact px
            · exact a3 z hz
          · simp only [Rep, List.length_cons, List.eraseIdx_cons_succ, List.map_cons, List.cons_append, h1]
            exact congrArg _ a7
          · have := a8 x'
            simp only [Rep, entrySet, List.length_cons, List.modify_succ_cons, List.map_cons, List.cons_append, h1] at this ⊢
            exact congrArg _ this
        · refine .inr ⟨a1, fun y hy => ?_⟩
          rcases List.mem_cons.1 hy with rfl | hy
          · exact px
          · exact a2 y hy
/-- What a key finds. -/
theorem find_rep {α : Type} {ek ev : α → Value} {m : KeyMode} {q : Value} {p : α → Bool} {es : List MapEntry} {L : List α} (hq : find m q [] = some none) (h : Rep ek ev es L) (hp : ∀ x ∈ L, cmpK m q (ek x) = some (p x)) :
    (∃ A x B e, L = A ++ x :: B ∧ p x = true ∧ (∀ y ∈ A, p y = false) ∧ find m q es = some (some (A.length, e)) ∧ e.key = ek x ∧ e.val = ev x ∧ Rep ek ev (es.eraseIdx A.length) (A ++ B) ∧ ∀ x', Rep ek ev (entrySet es A.length (ek x') (ev x')) (A ++ x' :: B)) ∨
      (find m q es = some none ∧ ∀ x ∈ L, p x = false) := by
  rw [find_by hq]
  have := find_rep' (f := cmpK m q) (p := p) es L 0 h hp
  simpa using this
/-- A map as it lies. -/
def MapAt {α : Type} (B : Nat → Prop) (ek ev : α → Value) (h : St) (m : Nat) (L : List α) : Prop := B m ∧ m < h.next ∧ ∃ es c, h.objs m = some (.map es c) ∧ Rep ek ev es L
theorem MapAt.chgP {α : Type} {B D : Nat → Prop} {ek ev : α → Value} {h h' : St} {m : Nat} {L : List α} (a : MapAt B ek ev h m L) (c : ChgP D h h') (hD : ∀ i, D i → ¬ B i) : MapAt B ek ev h' m L := by
  obtain ⟨a1, a2, es, cl, a3, a4⟩ := a
  exact ⟨a1, Nat.lt_of_lt_of_le a2 c.1, es, cl, c.at a2 (fun e => hD _ e a1) a3, a4⟩
theorem MapAt.chg {α : Type} {B : Nat → Prop} {ek ev : α → Value} {h h' : St} {m : Nat} {L : List α} {S : List Nat} (a : MapAt B ek ev h m L) (c : Chg h h' S) (hS : m ∉ S) : MapAt B ek ev h' m L := by
  obtain ⟨a1, a2, es, cl, a3, a4⟩ := a
  exact ⟨a1, Nat.lt_of_lt_of_le a2 c.1, es, cl, c.at a2 hS a3, a4⟩
theorem MapAt.imp {α : Type} {B B' : Nat → Prop} {ek ev : α → Value} {h : St} {m : Nat} {L : List α} (a : MapAt B ek ev h m L) (hB : ∀ i, i < h.next → B i → B' i) : MapAt B' ek ev h m L := by
  obtain ⟨a1, a2, a3⟩ := a
  exact ⟨hB _ a2 a1, a2, a3⟩
theorem MapAt.len {α : Type} {B : Nat → Prop} {ek ev : α → Value} {h : St} {m : Nat} {L : List α} (a : MapAt B ek ev h m L) : lenM (.map (some m)) h = some (.int .i64 L.length) := by
  obtain ⟨_, _, es, c, a3, a4⟩ := a
  rw [lenM_some, a3]
  simp only [a4.length]
/-- The lookup of a key: what is found, or none of it. -/
theorem MapAt.look {α : Type} {B : Nat → Prop} {ek ev : α → Value} {h : St} {m : Nat} {L : List α} (a : MapAt B ek ev h m L) {km : KeyMode} {q : Value} {p : α → Bool} (hq : find km q [] = some none) (hp : ∀ x ∈ L, cmpK km q (ek x) = some (p x)) (zero : Value) (ok : Bool) :
    (∃ A x C, L = A ++ x :: C ∧ p x = true ∧ (∀ y ∈ A, p y = false) ∧ lookV km zero ok (.map (some m)) q h = some (outV ok (ev x) true)) ∨ ((∀ x ∈ L, p x = false) ∧ lookV km zero ok (.map (some m)) q h = some (outV ok zero false)) := by
  obtain ⟨_, _, es, c, a3, a4⟩ := a
  rw [lookV_ptr, a3, lookM_map]
  rcases find_rep hq a4 hp with ⟨A, x, C, e, b1, b2, b3, b4, b5, b6, _⟩ | ⟨b1, b2⟩
  · exact .inl ⟨A, x, C, b1, b2, b3, by rw [b4]; simp [b6]⟩
  · exact .inr ⟨b2, by rw [b1]; rfl⟩
/-- An entry put in. -/
theorem MapAt.put {α : Type} {B : Nat → Prop} {ek ev : α → Value} {h : St} {m : Nat} {L : List α} (a : MapAt B ek ev h m L) {km : KeyMode} {p : α → Bool} (x' : α) (hq : find km (ek x') [] = some none) (hp : ∀ x ∈ L, cmpK km (ek x') (ek x) = some (p x)) {k : Cont}
    (H1 : ∀ A x C h', L = A ++ x :: C → p x = true → (∀ y ∈ A, p y = false) → Chg h h' [m] → h'.next = h.next → MapAt B ek ev h' m (A ++ x' :: C) → k undef h')
    (H2 : (∀ x ∈ L, p x = false) → ∀ h', Chg h h' [m] → h'.next = h.next → MapAt B ek ev h' m (L ++ [x']) → k undef h') : mapUpdateE km (.map (some m)) (ek x') (ev x') h k := by
  obtain ⟨a1, a2, es, c, a3, a4⟩ := a
  rw [mapUpdateE_ptr, a3, updM_map]
  rcases find_rep hq a4 hp with ⟨A, x, C, e, b1, b2, b3, b4, b5, b6, b7, b8⟩ | ⟨b1, b2⟩
  · rw [b4]
    exact H1 A x C _ b1 b2 b3 (Chg.set _ (by simp)) rfl ⟨a1, a2, _, _, set_at _ _ _, b8 x'⟩
  · rw [b1]
    exact H2 b2 _ (Chg.set _ (by simp)) rfl ⟨a1, a2, _, _, set_at _ _ _, a4.push x' c⟩
/-- An entry taken away. -/
theorem MapAt.del {α : Type} {B : Nat → Prop} {ek ev : α → Value} {h : St} {m : Nat} {L : List α} (a : MapAt B ek ev h m L) {km : KeyMode} {q : Value} {p : α → Bool} (hq : find km q [] = some none) (hp : ∀ x ∈ L, cmpK km q (ek x) = some (p x)) {k : Cont}
    (H1 : ∀ A x C h', L = A ++ x :: C → p x = true → (∀ y ∈ A, p y = false) → Chg h h' [m] → h'.next = h.next → MapAt B ek ev h' m (A ++ C) → k undef h')
    (H2 : (∀ x ∈ L, p x = false) → k undef h) : deleteE km (.map (some m)) q h k := by
  obtain ⟨a1, a2, es, c, a3, a4⟩ := a
  rw [deleteE_ptr, a3, delM_map]
  rcases find_rep hq a4 hp with ⟨A, x, C, e, b1, b2, b3, b4, b5, b6, b7, b8⟩ | ⟨b1, b2⟩
  · rw [b4]
    exact H1 A x C _ b1 b2 b3 (Chg.set _ (by simp)) rfl ⟨a1, a2, _, _, set_at _ _ _, b7⟩
  · rw [b1]
    exact H2 b2
end Go.Abs
