/- The relation between the abstract machine's states and the worlds. -/
import Derived.Test.YtdgonebknphkcaaAbsA
namespace Go.Abs
open Go.RowKit (Below)

/-- Where an object lies: its block, how many cells may be used, whether it is the call's own. -/
structure Loc where
  blk : Nat
  lim : Nat
  own : Bool
abbrev Rho := Nat → Option Loc

/-- An abstract value stands for a value. -/
inductive VRel (ρ : Rho) : Value → Value → Prop
  | unk (v : Value) : VRel ρ unk v
  | lit (v : Value) (h : lit1 v = true) : VRel ρ v v
  | ptr (i off : Nat) (l : Loc) (h : ρ i = some l) : VRel ρ (.pointer (some ⟨i, off, none⟩)) (.pointer (some ⟨l.blk, off, none⟩))
  | slice (i off n c cap : Nat) (l : Loc) (h : ρ i = some l) (ho : l.own = false) (hn : n ≤ cap) (hc : cap ≤ maxLen) :
      VRel ρ (.slice (some ⟨i, off, none⟩) n c) (.slice (some ⟨l.blk, off, none⟩) n cap)
  | owned (i off n c cap z : Nat) (l : Loc) (h : ρ i = some l) (hn : n ≤ cap) (hc : cap ≤ maxLen) (hl : off + cap * z ≤ l.lim) (hk : c ≠ 0 → c = cap + 1) :
      VRel ρ (.slice (some ⟨i, off, some z⟩) n c) (.slice (some ⟨l.blk, off, none⟩) n cap)
  | empty (a : Addr) (c : Nat) (b : Addr) (hk : a.spot ≠ none → c ≤ 1) : VRel ρ (.slice (some a) 0 c) (.slice (some b) 0 0)
  | map (i : Nat) (l : Loc) (h : ρ i = some l) : VRel ρ (.map (some i)) (.map (some l.blk))
  | func (fn : Fn) (a b a' b' : Array Value) (ha : a.size = a'.size) (hb : b.size = b'.size)
      (h : ∀ i (h1 : i < a.size) (h2 : i < a'.size), VRel ρ a[i] a'[i]) (h' : ∀ i (h1 : i < b.size) (h2 : i < b'.size), VRel ρ b[i] b'[i]) : VRel ρ (.func fn a b) (.func fn a' b')
  | iface (t : TypeId) (v v' : Value) (h : VRel ρ v v') : VRel ρ (.iface t v) (.iface t v')
  | agg (a a' : Array Value) (ha : a.size = a'.size) (h : ∀ i (h1 : i < a.size) (h2 : i < a'.size), VRel ρ a[i] a'[i]) : VRel ρ (.agg a) (.agg a')
  | tuple (a a' : Array Value) (ha : a.size = a'.size) (h : ∀ i (h1 : i < a.size) (h2 : i < a'.size), VRel ρ a[i] a'[i]) : VRel ρ (.tuple a) (.tuple a')

def Rho.le (ρ ρ' : Rho) : Prop := ∀ i l, ρ i = some l → ρ' i = some l
theorem Rho.le.refl (ρ : Rho) : ρ.le ρ := fun _ _ h => h
theorem Rho.le.trans {a b c : Rho} (h : a.le b) (k : b.le c) : a.le c := fun i l hi => k i l (h i l hi)

theorem VRel.mono {ρ ρ' : Rho} (hle : ρ.le ρ') {v v' : Value} (h : VRel ρ v v') : VRel ρ' v v' := by
  induction h with
  | unk v => exact .unk v
  | lit v h => exact .lit v h
  | ptr i off l h => exact .ptr i off l (hle _ _ h)
  | slice i off n c cap l h ho hn hc => exact .slice i off n c cap l (hle _ _ h) ho hn hc
  | owned i off n c cap z l h hn hc hl hk => exact .owned i off n c cap z l (hle _ _ h) hn hc hl hk
  | empty a c b hk => exact .empty a c b hk
  | map i l h => exact .map i l (hle _ _ h)
  | func fn a b a' b' ha hb _ _ ih ih' => exact .func fn a b a' b' ha hb ih ih'
  | iface t v v' _ ih => exact .iface t v v' ih
  | agg a a' ha _ ih => exact .agg a a' ha ih
  | tuple a a' ha _ ih => exact .tuple a a' ha ih

theorem VRel.undef (ρ : Rho) : VRel ρ undef undef := .tuple #[] #[] rfl fun i h => by simp at h
theorem VRel.int (ρ : Rho) (k : IntKind) (n : Int) : VRel ρ (.int k n) (.int k n) := .lit _ rfl
theorem VRel.bool (ρ : Rho) (b : Bool) : VRel ρ (.bool b) (.bool b) := .lit _ rfl
theorem VRel.string (ρ : Rho) (s : ByteArray) : VRel ρ (.string s) (.string s) := .lit _ rfl

/-- Lists of values, one by one. -/
inductive LRel (ρ : Rho) : List Value → List Value → Prop
  | nil : LRel ρ [] []
  | cons {v v' : Value} {l l' : List Value} (h : VRel ρ v v') (t : LRel ρ l l') : LRel ρ (v :: l) (v' :: l')
theorem LRel.mono {ρ ρ' : Rho} (hle : ρ.le ρ') {l l' : List Value} (h : LRel ρ l l') : LRel ρ' l l' := by
  induction h with
  | nil => exact .nil
  | cons h _ ih => exact .cons (h.mono hle) ih
theorem LRel.length {ρ : Rho} {l l' : List Value} (h : LRel ρ l l') : l.length = l'.length := by
  induction h with
  | nil => rfl
  | cons _ _ ih => simp [ih]
theorem LRel.get {ρ : Rho} {l l' : List Value} (h : LRel ρ l l') : ∀ {i : Nat} {v : Value}, l[i]? = some v → ∃ v', l'[i]? = some v' ∧ VRel ρ v v' := by
  induction h with
  | nil => intro i v h; simp at h
  | cons h _ ih =>
    intro i v hi
    cases i with
    | zero => simp at hi; subst hi; exact ⟨_, rfl, h⟩
    | succ i => simpa using ih (by simpa using hi)
theorem LRel.of_get {ρ : Rho} : ∀ {l l' : List Value}, l.length = l'.length → (∀ (i : Nat) (v v' : Value), l[i]? = some v → l'[i]? = some v' → VRel ρ v v') → LRel ρ l l'
  | [], [], _, _ => .nil
  | [], _ :: _, h, _ => by simp at h
  | _ :: _, [], h, _ => by simp at h
  | v :: l, v' :: l', h, k => .cons (k 0 v v' rfl rfl) (LRel.of_get (by simpa using h) fun i x x' hx hx' => k (i + 1) x x' (by simpa using hx) (by simpa using hx'))
theorem LRel.append {ρ : Rho} {a a' b b' : List Value} (h : LRel ρ a a') (k : LRel ρ b b') : LRel ρ (a ++ b) (a' ++ b') := by
  induction h with
  | nil => exact k
  | cons h _ ih => exact .cons h ih
theorem LRel.take {ρ : Rho} {a a' : List Value} (h : LRel ρ a a') (n : Nat) : LRel ρ (a.take n) (a'.take n) := by
  induction h generalizing n with
  | nil => simpa using LRel.nil
  | cons h _ ih => cases n with
    | zero => exact .nil
    | succ n => exact .cons h (ih n)
theorem LRel.drop {ρ : Rho} {a a' : List Value} (h : LRel ρ a a') (n : Nat) : LRel ρ (a.drop n) (a'.drop n) := by
  induction h generalizing n with
  | nil => simpa using LRel.nil
  | cons h t ih => cases n with
    | zero => exact .cons h t
    | succ n => exact ih n
theorem LRel.refl {ρ : Rho} : ∀ {l : List Value}, l.all lit1 = true → LRel ρ l l
  | [], _ => .nil
  | v :: l, h => by
    simp only [List.all_cons, Bool.and_eq_true] at h
    exact .cons (.lit v h.1) (LRel.refl h.2)
theorem LRel.of_array {ρ : Rho} {a a' : Array Value} (ha : a.size = a'.size) (h : ∀ i (h1 : i < a.size) (h2 : i < a'.size), VRel ρ a[i] a'[i]) : LRel ρ a.toList a'.toList := by
  refine LRel.of_get (by simpa using ha) fun i v v' hv hv' => ?_
  simp only [Array.getElem?_toList, Array.getElem?_eq_some_iff] at hv hv'
  obtain ⟨h1, rfl⟩ := hv
  obtain ⟨h2, rfl⟩ := hv'
  exact h i h1 h2
theorem LRel.array {ρ : Rho} {a a' : Array Value} (h : LRel ρ a.toList a'.toList) : ∀ i (h1 : i < a.size) (h2 : i < a'.size), VRel ρ a[i] a'[i] := by
  intro i h1 h2
  obtain ⟨v', e, r⟩ := h.get (i := i) (v := a[i]) (by simp [h1])
  simp [h2] at e
  subst e
  exact r
theorem LRel.size {ρ : Rho} {a a' : Array Value} (h : LRel ρ a.toList a'.toList) : a.size = a'.size := by simpa using h.length
theorem VRel.aggL {ρ : Rho} {l : List Value} {a' : Array Value} (h : LRel ρ l a'.toList) : VRel ρ (.agg l.toArray) (.agg a') :=
  .agg _ _ (LRel.size (a := l.toArray) (by simpa using h)) (LRel.array (a := l.toArray) (by simpa using h))
theorem VRel.tupleL {ρ : Rho} {l : List Value} {a' : Array Value} (h : LRel ρ l a'.toList) : VRel ρ (.tuple l.toArray) (.tuple a') :=
  .tuple _ _ (LRel.size (a := l.toArray) (by simpa using h)) (LRel.array (a := l.toArray) (by simpa using h))

theorem VRel.cells {ρ : Rho} {v v' : Value} (h : VRel ρ v v') (hu : v ≠ Abs.unk) : LRel ρ v.cells.toList v'.cells.toList := by
  cases h with
  | unk => exact absurd rfl hu
  | agg a a' ha h => exact LRel.of_array ha h
  | lit v h => cases v <;> first | exact .cons (.lit _ h) .nil | (simp [lit1] at h)
  | ptr i off l h => exact .cons (.ptr i off l h) .nil
  | slice i off n c cap l h ho hn hc => exact .cons (.slice i off n c cap l h ho hn hc) .nil
  | owned i off n c cap z l h hn hc hl hk => exact .cons (.owned i off n c cap z l h hn hc hl hk) .nil
  | empty a c b hk => exact .cons (.empty a c b hk) .nil
  | map i l h => exact .cons (.map i l h) .nil
  | func fn a b a' b' ha hb h h' => exact .cons (.func fn a b a' b' ha hb h h') .nil
  | iface t v v' h => exact .cons (.iface t v v' h) .nil
  | tuple a a' ha h => exact .cons (.tuple a a' ha h) .nil
theorem VRel.one {ρ : Rho} {v v' : Value} (h : VRel ρ v v') (ho : Abs.one v = true) : Abs.one v' = true := by
  cases h <;> first | assumption | rfl | (simp [Abs.one, Abs.unk] at ho)
theorem LRel.one {ρ : Rho} {l l' : List Value} (h : LRel ρ l l') (ho : l.all Abs.one = true) : l'.all Abs.one = true := by
  induction h with
  | nil => rfl
  | cons h _ ih =>
    simp only [List.all_cons, Bool.and_eq_true] at ho ⊢
    exact ⟨h.one ho.1, ih ho.2⟩

/-- An entry of a map. -/
def ERel (ρ : Rho) (e e' : MapEntry) : Prop := e.key = e'.key ∧ e.born = e'.born ∧ VRel ρ e.val e'.val
inductive MRel (ρ : Rho) : List MapEntry → List MapEntry → Prop
  | nil : MRel ρ [] []
  | cons {e e' : MapEntry} {l l' : List MapEntry} (h : ERel ρ e e') (t : MRel ρ l l') : MRel ρ (e :: l) (e' :: l')
theorem MRel.mono {ρ ρ' : Rho} (hle : ρ.le ρ') {l l' : List MapEntry} (h : MRel ρ l l') : MRel ρ' l l' := by
  induction h with
  | nil => exact .nil
  | cons h _ ih => exact .cons ⟨h.1, h.2.1, h.2.2.mono hle⟩ ih
theorem MRel.length {ρ : Rho} {l l' : List MapEntry} (h : MRel ρ l l') : l.length = l'.length := by
  induction h with
  | nil => rfl
  | cons _ _ ih => simp [ih]

/-- An abstract object stands for what lies in a block. -/
def ORel (ρ : Rho) (B : Nat) (o : AObj) (l : Loc) (w : World) : Prop :=
  match o with
  | .cells cs own => own = l.own ∧ (own = true → B ≤ l.blk ∧ cs.all one = true) ∧ ∃ arr ty fr, w.heap[l.blk]? = some (.cells arr ty fr) ∧
      (own = true → fr = (0, 0) ∧ l.lim ≤ arr.size) ∧ cs.length ≤ arr.size ∧ LRel ρ cs (arr.toList.take cs.length)
  | .map es clock => l.own = true ∧ B ≤ l.blk ∧ ∃ es', w.heap[l.blk]? = some (.map es' clock) ∧ MRel ρ es es'.toList
  | .iter m since seen stepped => l.own = true ∧ B ≤ l.blk ∧ ∃ m', w.heap[l.blk]? = some (.mapIter m' since seen.toArray stepped) ∧
      (match m, m' with | some i, some b => ∃ li, ρ i = some li ∧ li.blk = b | none, none => True | _, _ => False)

structure HRel (P : Program) (B : Nat) (w0 : World) (ρ : Rho) (h : St) (w : World) : Prop where
  below : Below B w0 w
  base : w0.heap.size = B
  globs : P.globals.size ≤ B
  old : ∀ g, g < P.globals.size → ∃ l, ρ g = some l ∧ l.blk = g
  dom : ∀ i l, ρ i = some l → i < h.next
  obj : ∀ i o, h.objs i = some o → ∃ l, ρ i = some l ∧ ORel ρ B o l w
  sep : ∀ i j o o' li lj, h.objs i = some o → h.objs j = some o' → ρ i = some li → ρ j = some lj → li.own = true → li.blk = lj.blk → i = j

theorem HRel.size {P : Program} {B : Nat} {w0 w : World} {ρ : Rho} {h : St} (H : HRel P B w0 ρ h w) : B ≤ w.heap.size := by
  have := H.below.size; rw [H.base] at this; exact this
theorem ORel.lt {ρ : Rho} {B : Nat} {o : AObj} {l : Loc} {w : World} (h : ORel ρ B o l w) : l.blk < w.heap.size := by
  cases o with
  | cells cs own => obtain ⟨_, _, arr, ty, fr, hb, _⟩ := h; exact (Array.getElem?_eq_some_iff.1 hb).1
  | map es c => obtain ⟨_, _, es', hb, _⟩ := h; exact (Array.getElem?_eq_some_iff.1 hb).1
  | iter m s q t => obtain ⟨_, _, m', hb, _⟩ := h; exact (Array.getElem?_eq_some_iff.1 hb).1
/-- The same block in another world, under more places. -/
theorem ORel.keep {ρ ρ' : Rho} (hle : ρ.le ρ') {B : Nat} {o : AObj} {l : Loc} {w w' : World} (h : ORel ρ B o l w) (hb : w'.heap[l.blk]? = w.heap[l.blk]?) : ORel ρ' B o l w' := by
  cases o with
  | cells cs own => obtain ⟨h1, h2, arr, ty, fr, h3, h4, h5, h6⟩ := h; exact ⟨h1, h2, arr, ty, fr, hb.trans h3, h4, h5, h6.mono hle⟩
  | map es c => obtain ⟨h1, h2, es', h3, h4⟩ := h; exact ⟨h1, h2, es', hb.trans h3, h4.mono hle⟩
  | iter m s q t =>
    obtain ⟨h1, h2, m', h3, h4⟩ := h
    refine ⟨h1, h2, m', hb.trans h3, ?_⟩
    cases m <;> cases m' <;> simp only at h4 ⊢
    obtain ⟨li, h5, h6⟩ := h4
    exact ⟨li, hle _ _ h5, h6⟩

/-- The same object, or the front of its cells. -/
def OLe (o o' : AObj) : Prop := o = o' ∨ ∃ cs cs' own, o = .cells cs own ∧ o' = .cells (cs ++ cs') own
theorem ORel.pre {ρ : Rho} {B : Nat} {o o' : AObj} {l : Loc} {w : World} (h : ORel ρ B o' l w) (hl : OLe o o') : ORel ρ B o l w := by
  rcases hl with rfl | ⟨cs, cs', own, rfl, rfl⟩
  · exact h
  · obtain ⟨h1, h2, arr, ty, fr, h3, h4, h5, h6⟩ := h
    rw [List.length_append] at h5 h6
    refine ⟨h1, fun ho => ⟨(h2 ho).1, ?_⟩, arr, ty, fr, h3, h4, by omega, ?_⟩
    · have := (h2 ho).2
      rw [List.all_append, Bool.and_eq_true] at this
      exact this.1
    · have := h6.take cs.length
      rw [List.take_left', List.take_take, Nat.min_eq_left (by omega)] at this
      · exact this
      · rfl
/-- The heap has what is forgotten no more. -/
def St.le (h h' : St) : Prop := h.next = h'.next ∧ ∀ i o, h.objs i = some o → ∃ o', h'.objs i = some o' ∧ OLe o o'
theorem St.le.refl (h : St) : St.le h h := ⟨rfl, fun _ o h => ⟨o, h, .inl rfl⟩⟩
theorem HRel.weaken {P : Program} {B : Nat} {w0 w : World} {ρ : Rho} {h h' : St} (H : HRel P B w0 ρ h' w) (hle : h.le h') : HRel P B w0 ρ h w :=
  ⟨H.below, H.base, H.globs, H.old, fun i l hi => by rw [hle.1]; exact H.dom i l hi, fun i o ho => by
    obtain ⟨o', h1, h2⟩ := hle.2 i o ho
    obtain ⟨l, h3, h4⟩ := H.obj i o' h1
    exact ⟨l, h3, h4.pre h2⟩,
    fun i j o o' li lj h1 h2 => by
      obtain ⟨p, p1, _⟩ := hle.2 i o h1
      obtain ⟨q, q1, _⟩ := hle.2 j o' h2
      exact H.sep i j p q li lj p1 q1⟩
theorem HRel.draw {P : Program} {B : Nat} {w0 w : World} {ρ : Rho} {h : St} (H : HRel P B w0 ρ h w) (n : Nat) : HRel P B w0 ρ h { w with drawn := n } :=
  ⟨⟨H.below.os, H.below.tape, H.below.output, H.below.size, H.below.block⟩, H.base, H.globs, H.old, H.dom, fun i o ho => by
    obtain ⟨l, h1, h2⟩ := H.obj i o ho
    exact ⟨l, h1, h2.keep (Rho.le.refl ρ) rfl⟩, H.sep⟩
theorem HRel.wf {P : Program} {B : Nat} {w0 w : World} {ρ : Rho} {h : St} (H : HRel P B w0 ρ h w) {i : Nat} {o : AObj} (ho : h.objs i = some o) : i < h.next := by
  obtain ⟨l, hl, _⟩ := H.obj i o ho
  exact H.dom i l hl
/-- A new block for a new object. -/
def Rho.push (ρ : Rho) (n : Nat) (l : Loc) : Rho := fun i => if i = n then some l else ρ i
theorem HRel.fresh {P : Program} {B : Nat} {w0 w : World} {ρ : Rho} {h : St} (H : HRel P B w0 ρ h w) (l : Loc) : ρ.le (ρ.push h.next l) := by
  intro i l' hi
  have := H.dom i l' hi
  simp only [Rho.push]
  rw [if_neg (by omega)]
  exact hi
theorem HRel.push {P : Program} {B : Nat} {w0 w : World} {ρ : Rho} {h : St} (H : HRel P B w0 ρ h w) (o : AObj) (x : Obj) (l : Loc) (hb : l.blk = w.heap.size)
    (ho : ORel (ρ.push h.next l) B o l (w.alloc x)) : HRel P B w0 (ρ.push h.next l) (h.push o) (w.alloc x) := by
  have hle := H.fresh l
  have hsz := H.size
  refine ⟨H.below.alloc hsz x, H.base, H.globs, ?_, ?_, ?_, ?_⟩
  · intro g hg
    obtain ⟨lg, h1, h2⟩ := H.old g hg
    exact ⟨lg, hle _ _ h1, h2⟩
  · intro i l' hi
    simp only [Rho.push] at hi
    show i < h.next + 1
    split at hi
    · omega
    · have := H.dom i l' hi; omega
  · intro i o' hi
    simp only [St.push] at hi
    split at hi
    · rename_i e; subst e
      cases hi
      exact ⟨l, by simp [Rho.push], ho⟩
    · obtain ⟨l', h1, h2⟩ := H.obj i o' hi
      exact ⟨l', hle _ _ h1, h2.keep hle (Below.heap_alloc w x l'.blk h2.lt)⟩
  · intro i j o1 o2 li lj h1 h2 h3 h4 h5 h6
    simp only [St.push] at h1 h2
    have key : ∀ k o', h.objs k = some o' → ∀ lk, (ρ.push h.next l) k = some lk → lk.blk < w.heap.size := by
      intro k o' hk lk hlk
      obtain ⟨l', e1, e2⟩ := H.obj k o' hk
      have : lk = l' := by have := hle _ _ e1; rw [this] at hlk; exact (Option.some.inj hlk).symm
      subst this
      exact e2.lt
    have top : ∀ lk, (ρ.push h.next l) h.next = some lk → lk = l := by intro lk hlk; simp [Rho.push] at hlk; exact hlk.symm
    split at h1
    · rename_i e; subst e
      have := top li h3; subst this
      split at h2
      · rename_i e; exact e.symm
      · have := key j o2 h2 lj h4; omega
    · split at h2
      · rename_i e; subst e
        have := top lj h4; subst this
        have := key i o1 h1 li h3; omega
      · obtain ⟨l1, e1, _⟩ := H.obj i o1 h1
        obtain ⟨l2, e2, _⟩ := H.obj j o2 h2
        have a1 := hle _ _ e1; rw [a1] at h3; cases h3
        have a2 := hle _ _ e2; rw [a2] at h4; cases h4
        exact H.sep i j o1 o2 _ _ h1 h2 e1 e2 h5 h6
/-- One object is written; its block alone turns. -/
theorem HRel.set {P : Program} {B : Nat} {w0 w w' : World} {ρ : Rho} {h : St} (H : HRel P B w0 ρ h w) {i : Nat} {o o' : AObj} {l : Loc} (hi : h.objs i = some o) (hl : ρ i = some l) (hown : l.own = true) (hB : B ≤ l.blk)
    (hos : w'.os = w.os) (htape : w'.tape = w.tape) (hout : w'.output = w.output) (hsize : w.heap.size ≤ w'.heap.size) (hblk : ∀ k, k < w.heap.size → k ≠ l.blk → w'.heap[k]? = w.heap[k]?)
    (ho : ORel ρ B o' l w') : HRel P B w0 ρ (h.set i o') w' := by
  have hsz := H.size
  refine ⟨⟨hos.trans H.below.os, htape.trans H.below.tape, hout.trans H.below.output, Nat.le_trans H.below.size hsize, fun k hk => ?_⟩, H.base, H.globs, H.old, H.dom, ?_, ?_⟩
  · rw [hblk k (by omega) (by omega)]
    exact H.below.block k hk
  · intro j q hj
    simp only [St.set] at hj
    split at hj
    · rename_i e; subst e; cases hj
      exact ⟨l, hl, ho⟩
    · rename_i hne
      obtain ⟨lj, h1, h2⟩ := H.obj j q hj
      refine ⟨lj, h1, h2.keep (Rho.le.refl ρ) (hblk _ h2.lt fun e => hne ?_)⟩
      exact (H.sep i j o q l lj hi hj hl h1 hown e.symm).symm
  · intro j k q q' lj lk h1 h2 h3 h4 h5 h6
    have f : ∀ {n : Nat} {x : AObj}, (h.set i o').objs n = some x → ∃ y, h.objs n = some y := by
      intro n x hx
      simp only [St.set] at hx
      split at hx
      · rename_i e; subst e; exact ⟨o, hi⟩
      · exact ⟨x, hx⟩
    obtain ⟨y1, g1⟩ := f h1
    obtain ⟨y2, g2⟩ := f h2
    exact H.sep j k y1 y2 lj lk g1 g2 h3 h4 h5 h6
theorem St.kill_le (h : St) (i : Nat) : (h.kill i).le h := ⟨rfl, fun j o hj => by simp only [St.kill] at hj; split at hj; cases hj; exact ⟨o, hj, .inl rfl⟩⟩
end Go.Abs
