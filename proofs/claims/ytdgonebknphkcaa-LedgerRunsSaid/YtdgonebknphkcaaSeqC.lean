/- slices.Sorted(maps.Keys(m)): Keys, Collect, Sorted; entries put into a map that is ranged over. -/
import Derived.Test.YtdgonebknphkcaaSeqB
set_option linter.unusedSimpArgs false
set_option linter.unusedVariables false
set_option maxHeartbeats 1000000
namespace Go.Abs
theorem born_entrySet (es : List MapEntry) (i : Nat) (k v : Value) : (entrySet es i k v).map (·.born) = es.map (·.born) := by
  unfold entrySet
  induction es generalizing i with
  | nil => cases i <;> rfl
  | cons e t ih =>
    cases i with
    | zero => rfl
    | succ i => simp only [List.modify_succ_cons, List.map_cons, ih]
theorem MapB.put {α : Type} {B : Nat → Prop} {ek ev : α → Value} {h : St} {m : Nat} {L : List α} (a : MapB B ek ev h m L) {km : KeyMode} {p : α → Bool} (x' : α) (hq : find km (ek x') [] = some none) (hp : ∀ x, cmpK km (ek x') (ek x) = some (p x)) {k : Cont}
    (H1 : ∀ A x C h', L = A ++ x :: C → p x = true → (∀ y ∈ A, p y = false) → Chg h h' [m] → h'.next = h.next → MapB B ek ev h' m (A ++ x' :: C) → k undef h')
    (H2 : (∀ x ∈ L, p x = false) → ∀ h', Chg h h' [m] → h'.next = h.next → MapB B ek ev h' m (L ++ [x']) → k undef h') : mapUpdateE km (.map (some m)) (ek x') (ev x') h k := by
  obtain ⟨a1, a2, es, c, a3, a4, nd, bl⟩ := a
  rw [mapUpdateE_ptr, a3, updM_map]
  rcases find_rep hq a4 (fun x _ => hp x) with ⟨A, x, C, e, b1, b2, b3, b4, b5, b6, b7, b8⟩ | ⟨b1, b2⟩
  · rw [b4]
    refine H1 A x C _ b1 b2 b3 (Chg.set _ (by simp)) rfl ⟨a1, a2, _, _, set_at _ _ _, b8 x', by rw [born_entrySet]; exact nd, fun e' he' => ?_⟩
    have : e'.born ∈ es.map (·.born) := by rw [← born_entrySet es A.length (ek x') (ev x')]; exact List.mem_map_of_mem he'
    obtain ⟨e'', m1, m2⟩ := List.mem_map.1 this
    rw [← m2]; exact bl _ m1
  · rw [b1]
    refine H2 b2 _ (Chg.set _ (by simp)) rfl ⟨a1, a2, _, _, set_at _ _ _, a4.push x' c, ?_, fun e he => ?_⟩
    · rw [List.map_append, List.nodup_append]
      refine ⟨nd, by simp, ?_⟩
      intro x hx y hy
      simp at hy
      obtain ⟨e, m1, m2⟩ := List.mem_map.1 hx
      have := bl e m1
      rw [hy, ← m2]; omega
    · rcases List.mem_append.1 he with he | he
      · have := bl e he; omega
      · simp at he; subst he; show c < c + 1; omega
end Go.Abs
namespace Go.Proofs.Ytdgonebknphkcaa
open Go.Abs Go.IntWalk
attribute [local congr] bindV_weak condK_weak guardK_weak groupK_weak allocE_weak boxE_weak storeE_weak storeM_weak tabC_weak ite_weak idG_weak appendE_weak buildSliceE_weak mapUpdateE_weak deleteE_weak makeMapE_weak copyE_weak clearE_weak callE_weak

theorem MapB.ints {α : Type} {B : Nat → Prop} {ek ev : α → Value} {h : St} {m : Nat} {L : List α} (a : MapB B ek ev h m L) (f : α → Int) (hf : ∀ x, ek x = .int .u64 (f x)) (wf : ∀ x ∈ L, (Lit.int .u64 (f x)).wf = true) (nd : (L.map f).Nodup) (few : L.length ≤ 100000) :
    ∃ es c, h.objs m = some (.map es c) ∧ IntMap es c (L.map f) := by
  obtain ⟨_, _, es, c, a3, a4, a5, a6⟩ := a
  refine ⟨es, c, a3, ⟨?_, ?_, nd, a5, a6, by rw [a4.length]; exact few⟩⟩
  · have : (es.map kv).map (·.1) = (L.map fun x => (ek x, ev x)).map (·.1) := congrArg _ a4
    rw [List.map_map, List.map_map] at this
    rw [List.map_map]
    refine this.trans (List.map_congr_left fun x _ => hf x)
  · intro x hx
    obtain ⟨y, hy, rfl⟩ := List.mem_map.1 hx
    exact wf y hy
def keysO : Abs.Spec := fun args h k => ∃ m : Nat, args = [.map (some m)] ∧ ∀ h', Chg h h' [] → h'.next = h.next + 1 → h'.objs h.next = some (.cells [.map (some m)] true) → k (.func (.func 28) #[] #[.pointer (some ⟨h.next, 0, none⟩)]) h'
theorem keysO_good : SpecGood Try.prog (25, keysO) := by
  refine spec_good mixed Try.func25 (by kernel_rfl) (by kernel_rfl) (tab := []) (by simp) (keep := k_Keys_keep) ?_
  rintro args h k ⟨m, rfl, H⟩
  refine ⟨0, ?_⟩
  show k_Keys (tabC _) idG 0 (.map (some m)) h _
  rw [k_Keys_eq]
  refine boxE_in (by rfl) fun h1 c1 n1 o1 => ?_
  exact ⟨h1, St.le.refl _, H h1 c1 n1 o1⟩
theorem collectO_good : SpecGood Try.prog (26, fun args h k => ∃ f, args = [f] ∧ appO [.slice none 0 0, f] h k) := by
  refine spec_good mixed Try.func26 (by kernel_rfl) (by kernel_rfl) (tab := [(29, appO)]) (by simp [appO_good]) (keep := k_Collect_keep) ?_
  rintro args h k ⟨f, rfl, b, m, c, own, es, xs, e, ob, om, im, H⟩
  refine ⟨0, ?_⟩
  show k_Collect (tabC _) idG 0 f h _
  rw [k_Collect_eq]
  exact cK (S := appO) (by simp) ⟨b, m, c, own, es, xs, e, ob, om, im, fun h' v ss c' o' p' => ⟨h', St.le.refl _, H h' v ss c' o' p'⟩⟩
def sortedO : Abs.Spec := fun args h k => ∃ (b m c : Nat) (own : Bool) (es : List MapEntry) (xs : List Int), args = [.func (.func 28) #[] #[.pointer (some ⟨b, 0, none⟩)]] ∧ h.objs b = some (.cells [.map (some m)] own) ∧ h.objs m = some (.map es c) ∧ IntMap es c xs ∧ xs.length ≤ 255 ∧
  ∀ h' v (ss : List Int), Chg h h' [] → OwnS (fun i => h.next ≤ i) h' v 1 (ss.map (Value.int .u64)) ss.length → ss.Perm xs → ss.Pairwise (· ≤ ·) → k v h'
theorem sortedO_good : SpecGood Try.prog (24, sortedO) := by
  refine spec_good mixed Try.func24 (by kernel_rfl) (by kernel_rfl) (tab := [(26, fun args h k => ∃ f, args = [f] ∧ appO [.slice none 0 0, f] h k), (27, sortO)]) (by
    intro p hp
    simp only [List.mem_cons, List.not_mem_nil, or_false] at hp
    rcases hp with rfl | rfl
    · exact collectO_good
    · exact sortO_good) (keep := k_Sorted_keep) ?_
  rintro args h k ⟨b, m, c, own, es, xs, rfl, ob, om, im, few, H⟩
  refine ⟨0, ?_⟩
  show k_Sorted (tabC _) idG 0 (.func (.func 28) #[] #[.pointer (some ⟨b, 0, none⟩)]) h _
  rw [k_Sorted_eq]
  refine .inl ⟨rfl, _, rfl, b, m, c, own, es, xs, rfl, ob, om, im, fun h1 v ss c1 o1 p1 => ?_⟩
  refine .inr (.inl ⟨rfl, _, v, ss, rfl, by rw [p1.length_eq]; exact few, o1, fun h2 ss2 c2 o2 p2 s2 => ?_⟩)
  exact ⟨h2, St.le.refl _, H h2 v ss2 (((c1.nil (fun i => h.next ≤ i)).trans c2 (fun _ _ h => h) (fun _ _ h => h)).list fun j h1 h2 => by omega) o2 (p2.trans p1) s2⟩
/-- The keys of a map, rising. -/
theorem sorted_keys {T : List (FuncId × Abs.Spec)} (hk : (25, keysO) ∈ T) (hs : (24, sortedO) ∈ T) {α : Type} {B : Nat → Prop} {ek ev : α → Value} {h : St} {m : Nat} {L : List α} (a : MapB B ek ev h m L) (f : α → Int) (hf : ∀ x, ek x = .int .u64 (f x)) (wf : ∀ x ∈ L, (Lit.int .u64 (f x)).wf = true) (nd : (L.map f).Nodup)
    (few : L.length ≤ 255) {k : Cont} (H : ∀ h' v (ss : List Int), Chg h h' [] → OwnS (fun i => h.next ≤ i) h' v 1 (ss.map (Value.int .u64)) ss.length → ss.Perm (L.map f) → ss.Pairwise (· ≤ ·) → k v h') :
    tabC T 25 [.map (some m)] h fun v1 h1 => tabC T 24 [v1] h1 k := by
  obtain ⟨es, c, om, im⟩ := MapB.ints a f hf wf nd (by omega)
  have mn := a.2.1
  refine cK hk ⟨m, rfl, fun h1 c1 n1 o1 => ?_⟩
  refine cK hs ⟨h.next, m, c, true, es, L.map f, rfl, o1, c1.at0 mn om, im, by rw [List.length_map]; exact few, fun h' v ss c' o' p' s' => ?_⟩
  exact H h' v ss (c1.seq c') (o'.imp fun j _ hj => Nat.le_trans c1.1 hj) p' s'
end Go.Proofs.Ytdgonebknphkcaa
