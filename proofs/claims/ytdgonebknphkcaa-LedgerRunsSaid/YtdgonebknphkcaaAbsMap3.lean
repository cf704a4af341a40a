/- Maps whose entries are changed and ranged over: MapAt that knows when each entry was laid in. -/
import Derived.Test.YtdgonebknphkcaaAbsMap2
set_option linter.unusedSimpArgs false
set_option linter.unusedVariables false
namespace Go.Abs

/-- A map as it lies, with its clock. -/
def MapB {α : Type} (B : Nat → Prop) (ek ev : α → Value) (h : St) (m : Nat) (L : List α) : Prop :=
  B m ∧ m < h.next ∧ ∃ es c, h.objs m = some (.map es c) ∧ Rep ek ev es L ∧ (es.map (·.born)).Nodup ∧ ∀ e ∈ es, e.born < c
theorem MapB.at {α : Type} {B : Nat → Prop} {ek ev : α → Value} {h : St} {m : Nat} {L : List α} (a : MapB B ek ev h m L) : MapAt B ek ev h m L := by
  obtain ⟨a1, a2, es, c, a3, a4, _⟩ := a
  exact ⟨a1, a2, es, c, a3, a4⟩
theorem MapB.chgP {α : Type} {B D : Nat → Prop} {ek ev : α → Value} {h h' : St} {m : Nat} {L : List α} (a : MapB B ek ev h m L) (c : ChgP D h h') (hD : ∀ i, D i → ¬ B i) : MapB B ek ev h' m L := by
  obtain ⟨a1, a2, es, cl, a3, a4⟩ := a
  exact ⟨a1, Nat.lt_of_lt_of_le a2 c.1, es, cl, c.at a2 (fun e => hD _ e a1) a3, a4⟩
theorem MapB.chg {α : Type} {B : Nat → Prop} {ek ev : α → Value} {h h' : St} {m : Nat} {L : List α} {S : List Nat} (a : MapB B ek ev h m L) (c : Chg h h' S) (hS : m ∉ S) : MapB B ek ev h' m L := by
  obtain ⟨a1, a2, es, cl, a3, a4⟩ := a
  exact ⟨a1, Nat.lt_of_lt_of_le a2 c.1, es, cl, c.at a2 hS a3, a4⟩
theorem MapB.imp {α : Type} {B B' : Nat → Prop} {ek ev : α → Value} {h : St} {m : Nat} {L : List α} (a : MapB B ek ev h m L) (hB : ∀ i, i < h.next → B i → B' i) : MapB B' ek ev h m L := by
  obtain ⟨a1, a2, a3⟩ := a
  exact ⟨hB _ a2 a1, a2, a3⟩
theorem findBy_at {f : Value → Option Bool} : ∀ {es : List MapEntry} {j i : Nat} {e : MapEntry}, findBy f es j = some (some (j + i, e)) → es[i]? = some e
  | [], _, _, _, h => by simp [findBy] at h
  | x :: t, j, i, e, h => by
    unfold findBy at h
    rcases hf : f x.key with _ | _ | _
    · simp [hf] at h
    · simp only [hf] at h
      have ge : ∀ (l : List MapEntry) (k i : Nat) (e : MapEntry), findBy f l k = some (some (i, e)) → k ≤ i := by
        intro l
        induction l with
        | nil => intro k i e h; simp [findBy] at h
        | cons y l ih =>
          intro k i e h
          unfold findBy at h
          rcases hy : f y.key with _ | _ | _
          · simp [hy] at h
          · simp only [hy] at h; have := ih (k + 1) i e h; omega
          · simp [hy] at h; omega
      have := ge _ _ _ _ h
      obtain ⟨i, rfl⟩ : ∃ i', i = i' + 1 := ⟨i - 1, by omega⟩
      rw [show j + (i + 1) = j + 1 + i by omega] at h
      simpa using findBy_at h
    · simp only [hf] at h
      simp at h
      obtain ⟨h1, h2⟩ := h
      have : i = 0 := by omega
      subst this; simp [h2]
theorem modify_self {α : Type} {f : α → α} : ∀ {l : List α} {i : Nat} {x : α}, l[i]? = some x → f x = x → l.modify i f = l
  | [], _, _, h, _ => by simp at h
  | y :: t, 0, x, h, hf => by
    simp at h; subst h; simp [hf]
  | y :: t, i + 1, x, h, hf => by
    simp at h
    simp [modify_self h hf]
theorem modify_last {α : Type} {f : α → α} : ∀ (l : List α) (x y : α), f x = y → (l ++ [x]).modify l.length f = l ++ [y]
  | [], x, y, h => by simp [h]
  | z :: t, x, y, h => by simp only [List.cons_append, List.length_cons, List.modify_succ_cons, modify_last t x y h]
theorem findIdx_born : ∀ {es : List MapEntry} {i : Nat} {e : MapEntry}, (es.map (·.born)).Nodup → es[i]? = some e → es.findIdx? (fun x => (x.born : Int) == (e.born : Int)) = some i
  | [], _, _, _, h => by simp at h
  | x :: t, 0, e, nd, h => by
    simp at h; subst h; simp [List.findIdx?_cons]
  | x :: t, i + 1, e, nd, h => by
    rw [List.map_cons, List.nodup_cons] at nd
    simp at h
    have ne : x.born ≠ e.born := fun hh => nd.1 (by rw [hh]; exact List.mem_map_of_mem (List.mem_of_getElem? h))
    have ne' : ((x.born : Int) == (e.born : Int)) = false := by simp; omega
    rw [List.findIdx?_cons, ne', findIdx_born nd.2 h]
    simp
theorem born_modify (es : List MapEntry) (i : Nat) (x : Value) : (es.modify i fun e => { e with val := x }).map (·.born) = es.map (·.born) := by
  induction es generalizing i with
  | nil => cases i <;> rfl
  | cons e t ih =>
    cases i with
    | zero => rfl
    | succ i => simp only [List.modify_succ_cons, List.map_cons, ih]
theorem born_erase (es : List MapEntry) (i : Nat) : ((es.eraseIdx i).map (·.born)).Sublist (es.map (·.born)) := List.Sublist.map _ (List.eraseIdx_sublist ..)
/-- The key that is looked up and the entry that it finds, as the program's text changes an entry (`|=`, `&^=`). -/
theorem MapB.edit {α : Type} {B : Nat → Prop} {ek ev : α → Value} {h : St} {m : Nat} {L : List α} (a : MapB B ek ev h m L) {km : KeyMode} {p : α → Bool} {q zero : Value} (x0 x1 : α) (hq : find km q [] = some none) (hp : ∀ x, cmpK km q (ek x) = some (p x)) (hk : ∀ x, p x = true → ek x = q)
    (k0 : ek x0 = q) (k1 : ek x1 = q) (v0 : ev x0 = zero) (p0 : p x0 = true) {Q : St → Prop} {R : Prop} {K : St → Prop} (hR : R)
    (hQ : ∀ h', lookV km zero false (.map (some m)) q h' = lookV km zero false (.map (some m)) q h → Chg h h' [m] → h'.next = h.next → Q h')
    (H1 : ∀ A x C h', L = A ++ x :: C → p x = true → (∀ y ∈ A, p y = false) → Chg h h' [m] → h'.next = h.next → MapB B ek ev h' m (A ++ x1 :: C) → K h')
    (H2 : (∀ x ∈ L, p x = false) → ∀ h', Chg h h' [m] → h'.next = h.next → MapB B ek ev h' m (L ++ [x1]) → K h') :
    mapEntryE km zero (.map (some m)) q h fun v1 h1 => Q h1 ∧ bindV (extV 1 v1) fun v2 => entryStoreE (.map (some m)) v2 (ev x1) h1 fun _ h3 => R ∧ K h3 := by
  obtain ⟨a1, a2, es, c, a3, a4, nd, bl⟩ := a
  have hfb : find km q es = findBy (cmpK km q) es 0 := find_by hq es
  rcases find_rep hq a4 (fun x _ => hp x) with ⟨A, x, C, e, b1, b2, b3, b4, b5, b6, b7, b8⟩ | ⟨b1, b2⟩
  · have at_ : es[A.length]? = some e := findBy_at (j := 0) (by rw [← hfb, b4, Nat.zero_add])
    have same : entrySet es A.length q e.val = es := modify_self at_ (by
      have : e.key = q := by rw [b5]; exact hk _ b2
      rw [← this])
    unfold mapEntryE
    simp only [a3, b4, same]
    have c1 : Chg h (h.set m (.map es c)) [m] := Chg.set _ (by simp)
    have o1 : (h.set m (.map es c)).objs m = some (.map es c) := set_at _ _ _
    refine ⟨hQ _ ?_ c1 rfl, ?_⟩
    · rw [lookV_ptr, lookV_ptr, o1, a3]
    · have e1 : extV 1 (.tuple #[e.val, .int .i64 (e.born : Int)]) = some (.int .i64 (e.born : Int)) := by simp [extV]
      rw [e1]
      simp only [bindV_some]
      unfold entryStoreE
      simp only [o1, findIdx_born nd at_]
      have c2 : Chg (h.set m (.map es c)) ((h.set m (.map es c)).set m (.map (es.modify A.length fun e => { e with val := ev x1 }) c)) [m] := Chg.set _ (by simp)
      have key : (es.modify A.length fun e => { e with val := ev x1 }) = entrySet es A.length (ek x1) (ev x1) := by
        unfold entrySet
        rw [k1]
        have ek' : e.key = q := by rw [b5]; exact hk _ b2
        clear same b4 b7 b8 b1 hfb a3 o1 c1 c2 a4 nd bl
        induction es generalizing A with
        | nil => simp
        | cons y t ih =>
          cases A with
          | nil => simp at at_; subst at_; simp [← ek']
          | cons z A =>
            simp at at_
            simp only [List.length_cons, List.modify_succ_cons]
            rw [ih A (fun y hy => b3 y (by simp [hy])) at_]
      refine ⟨hR, H1 A x C _ b1 b2 b3 (c1.trans c2 (by simp) (by simp)) rfl ⟨a1, a2, _, c, set_at _ _ _, ?_, ?_, ?_⟩⟩
      · rw [key]; exact b8 x1
      · rw [born_modify]; exact nd
      · intro e' he'
        have : e'.born ∈ es.map (·.born) := by rw [← born_modify es A.length (ev x1)]; exact List.mem_map_of_mem he'
        obtain ⟨e'', m1, m2⟩ := List.mem_map.1 this
        rw [← m2]; exact bl _ m1
  · unfold mapEntryE
    simp only [a3, b1]
    have c1 : Chg h (h.set m (.map (es ++ [⟨q, zero, c⟩]) (c + 1))) [m] := Chg.set _ (by simp)
    have o1 : (h.set m (.map (es ++ [⟨q, zero, c⟩]) (c + 1))).objs m = some (.map (es ++ [⟨q, zero, c⟩]) (c + 1)) := set_at _ _ _
    have r0 : Rep ek ev (es ++ [⟨q, zero, c⟩]) (L ++ [x0]) := by
      have := a4.push x0 c
      rw [k0, v0] at this; exact this
    refine ⟨hQ _ ?_ c1 rfl, ?_⟩
    · rw [lookV_ptr, lookV_ptr, o1, a3, lookM_map, lookM_map, b1]
      rcases find_rep hq r0 (fun x _ => hp x) with ⟨A, x, C, e, d1, d2, d3, d4, d5, d6, _⟩ | ⟨_, d2⟩
      · rw [d4]
        have : x = x0 := by
          have mx : x ∈ L ++ [x0] := by rw [d1]; simp
          rcases List.mem_append.1 mx with mx | mx
          · rw [b2 x mx] at d2; cases d2
          · simpa using mx
        simp [d6, this, v0]
      · have := d2 x0 (by simp)
        rw [p0] at this; cases this
    · have e1 : extV 1 (.tuple #[zero, .int .i64 (c : Int)]) = some (.int .i64 (c : Int)) := by simp [extV]
      rw [e1]
      simp only [bindV_some]
      unfold entryStoreE
      have nd' : ((es ++ [(⟨q, zero, c⟩ : MapEntry)]).map (·.born)).Nodup := by
        rw [List.map_append, List.nodup_append]
        refine ⟨nd, by simp, ?_⟩
        intro x hx y hy
        simp at hy
        obtain ⟨e, m1, m2⟩ := List.mem_map.1 hx
        have := bl e m1
        rw [hy, ← m2]; omega
      have at_ : (es ++ [(⟨q, zero, c⟩ : MapEntry)])[es.length]? = some ⟨q, zero, c⟩ := by simp
      have fi : (es ++ [(⟨q, zero, c⟩ : MapEntry)]).findIdx? (fun x => (x.born : Int) == (c : Int)) = some es.length := findIdx_born nd' at_
      simp only [o1, fi]
      have c2 : Chg (h.set m (.map (es ++ [⟨q, zero, c⟩]) (c + 1))) ((h.set m (.map (es ++ [⟨q, zero, c⟩]) (c + 1))).set m (.map ((es ++ [(⟨q, zero, c⟩ : MapEntry)]).modify es.length fun e => { e with val := ev x1 }) (c + 1))) [m] := Chg.set _ (by simp)
      have key : ((es ++ [(⟨q, zero, c⟩ : MapEntry)]).modify es.length fun e => { e with val := ev x1 }) = es ++ [⟨q, ev x1, c⟩] := by
        exact modify_last es _ _ rfl
      refine ⟨hR, H2 b2 _ (c1.trans c2 (by simp) (by simp)) rfl ⟨a1, a2, _, c + 1, set_at _ _ _, ?_, ?_, ?_⟩⟩
      · rw [key]
        have := a4.push x1 c
        rw [k1] at this; exact this
      · rw [born_modify]; exact nd'
      · rw [key]
        intro e he
        rcases List.mem_append.1 he with he | he
        · have := bl e he; omega
        · simp at he; subst he; show c < c + 1; omega
/-- An entry taken away. -/
theorem MapB.del {α : Type} {B : Nat → Prop} {ek ev : α → Value} {h : St} {m : Nat} {L : List α} (a : MapB B ek ev h m L) {km : KeyMode} {q : Value} {p : α → Bool} (hq : find km q [] = some none) (hp : ∀ x, cmpK km q (ek x) = some (p x)) {k : Cont}
    (H1 : ∀ A x C h', L = A ++ x :: C → p x = true → (∀ y ∈ A, p y = false) → Chg h h' [m] → h'.next = h.next → MapB B ek ev h' m (A ++ C) → k undef h')
    (H2 : (∀ x ∈ L, p x = false) → k undef h) : deleteE km (.map (some m)) q h k := by
  obtain ⟨a1, a2, es, c, a3, a4, nd, bl⟩ := a
  rw [deleteE_ptr, a3, delM_map]
  rcases find_rep hq a4 (fun x _ => hp x) with ⟨A, x, C, e, b1, b2, b3, b4, b5, b6, b7, b8⟩ | ⟨b1, b2⟩
  · rw [b4]
    refine H1 A x C _ b1 b2 b3 (Chg.set _ (by simp)) rfl ⟨a1, a2, _, _, set_at _ _ _, b7, nd.sublist (born_erase ..), fun e' he' => bl e' (List.mem_of_mem_eraseIdx he')⟩
  · rw [b1]
    exact H2 b2
/-! ### a range -/
/-- A range over a map that lies still: `left` are those of the list that are to come. -/
def Rng {α : Type} (ek ev : α → Value) (h : St) (it m : Nat) (left : List α) (n : Nat) : Prop :=
  it < h.next ∧ m < h.next ∧ ∃ es c seen, h.objs it = some (.iter (some m) c seen c) ∧ h.objs m = some (.map es c) ∧ (es.map (·.born)).Nodup ∧ (∀ e ∈ es, e.born < c) ∧ (∀ e ∈ es, lit e.key = true) ∧ (∃ P : List MapEntry, P.Perm (leftE es seen) ∧ Rep ek ev P left) ∧ left.length = n
theorem Rng.chgP {α : Type} {D : Nat → Prop} {ek ev : α → Value} {h h' : St} {it m n : Nat} {left : List α} (r : Rng ek ev h it m left n) (c : ChgP D h h') (d1 : ¬ D it) (d2 : ¬ D m) : Rng ek ev h' it m left n := by
  obtain ⟨i1, i2, es, cl, seen, r1, r2, r3⟩ := r
  exact ⟨Nat.lt_of_lt_of_le i1 c.1, Nat.lt_of_lt_of_le i2 c.1, es, cl, seen, c.at i1 d1 r1, c.at i2 d2 r2, r3⟩
theorem MapB.range {α : Type} {B : Nat → Prop} {ek ev : α → Value} {h : St} {m : Nat} {L : List α} (a : MapB B ek ev h m L) (hl : ∀ x, lit (ek x) = true) {k : Cont}
    (H : ∀ h', Chg h h' [] → h'.next = h.next + 1 → Rng ek ev h' h.next m L L.length → k (.pointer (some ⟨h.next, 0, none⟩)) h') : rangeE (.map (some m)) h k := by
  obtain ⟨a1, a2, es, c, a3, a4, nd, bl⟩ := a
  refine rangeE_in a3 fun h' c' n' o' => H h' c' n' ⟨by omega, by omega, es, c, [], o', c'.at0 a2 a3, nd, bl, ?_, ⟨es, by rw [leftE_nil], a4⟩, rfl⟩
  intro e he
  have : kv e ∈ es.map kv := List.mem_map_of_mem he
  rw [a4] at this
  obtain ⟨x, _, hx⟩ := List.mem_map.1 this
  have hk : e.key = ek x := by have := congrArg Prod.fst hx; simpa [kv] using this.symm
  rw [hk]; exact hl x
theorem rep_split {α : Type} {ek ev : α → Value} : ∀ {P : List MapEntry} {L : List α} {e : MapEntry}, Rep ek ev P L → e ∈ P → ∃ A x C PA PC, L = A ++ x :: C ∧ P = PA ++ e :: PC ∧ Rep ek ev PA A ∧ Rep ek ev PC C ∧ e.key = ek x ∧ e.val = ev x
  | [], _, _, _, h => by cases h
  | y :: P, L, e, r, h => by
    cases L with
    | nil => simp [Rep] at r
    | cons x L =>
      simp only [Rep, List.map_cons, List.cons.injEq] at r
      obtain ⟨r1, r2⟩ := r
      rcases List.mem_cons.1 h with rfl | h
      · refine ⟨[], x, L, [], P, rfl, rfl, rfl, r2, ?_, ?_⟩
        · exact congrArg Prod.fst r1
        · exact congrArg Prod.snd r1
      · obtain ⟨A, z, C, PA, PC, e1, e2, e3, e4, e5, e6⟩ := rep_split r2 h
        refine ⟨x :: A, z, C, y :: PA, PC, by rw [e1]; rfl, by rw [e2]; rfl, ?_, e4, e5, e6⟩
        simp only [Rep, List.map_cons, r1]
        exact congrArg _ e3
theorem Rng.next {α : Type} {ek ev : α → Value} {h : St} {it m n : Nat} {left : List α} (r : Rng ek ev h it m left n) {k : Cont} (itm : it ≠ m)
    (H0 : n = 0 → left = [] → k (.tuple #[.bool false]) h)
    (H1 : ∀ n' A x C h', n = n' + 1 → left = A ++ x :: C → Chg h h' [it] → h'.next = h.next → Rng ek ev h' it m (A ++ C) n' → entryV (.pointer (some ⟨it, 0, none⟩)) h' = some (.tuple #[ek x, ev x]) → k (.tuple #[.bool true, ek x, ev x]) h') :
    nextE (.pointer (some ⟨it, 0, none⟩)) false h k := by
  obtain ⟨i1, i2, es, c, seen, r1, r2, nd, bl, hl, ⟨P, pp, rp⟩, ln⟩ := r
  refine nextE_in r1 r2 bl hl (fun e0 => ?_) fun e he h' c' n' o' => ?_
  · rw [e0] at pp
    have := pp.eq_nil
    subst this
    have l0 : left = [] := by
      have := rp.length
      exact List.eq_nil_of_length_eq_zero this.symm
    exact H0 (by rw [← ln, l0]; rfl) l0
  · have heP : e ∈ P := pp.mem_iff.2 he
    obtain ⟨A, x, C, PA, PC, e1, e2, e3, e4, e5, e6⟩ := rep_split rp heP
    have hes : e ∈ es := (List.mem_filter.1 he).1
    have om' : h'.objs m = some (.map es c) := c'.at1 i2 (fun hh => itm hh.symm) r2
    have ent := entryV_in nd hes (hl e hes) o' om'
    rw [e5, e6] at ent ⊢
    rw [e1] at ln
    simp only [List.length_append, List.length_cons] at ln
    refine H1 (n - 1) A x C h' (by omega) e1 c' n' ⟨by omega, by omega, es, c, _, o', om', nd, bl, hl, ⟨PA ++ PC, ?_, ?_⟩, by simp only [List.length_append]; omega⟩ ent
    · have p1 := pp.trans (leftE_perm nd he)
      rw [e2] at p1
      exact (List.perm_middle.symm.trans p1).cons_inv
    · unfold Rep at e3 e4 ⊢
      simp only [List.map_append, e3, e4]
end Go.Abs
