/- The chapter's example; 'FieldShapes'. -/
import Derived.Test.YtiaijbkmgajieaaD
set_option linter.unusedSimpArgs false
set_option linter.unusedVariables false
set_option maxHeartbeats 4000000
namespace Go.Proofs.Ytiaijbkmgajieaa
open Go.Abs Go.IntWalk

/-- Bytes as a text. -/
def bytesText (l : List Nat) : ByteArray := ⟨(l.map UInt8.ofNat).toArray⟩
def rowC (l : List Nat) (i : Nat) : List Value := [bc (l[i]?.getD 0)]
theorem bytesOf_map : ∀ l : List Nat, bytesOf (l.map bc) = some (l.map UInt8.ofNat)
  | [] => rfl
  | b :: l => by
    have := bytesOf_map l
    simp only [List.map_cons, bytesOf, this]
    rfl
theorem takeN_rows {cs : List Value} {off n : Nat} {x : Nat → Value} (h : ∀ i, i < n → takeN cs (off + i) 1 = some [x i]) (hn : 0 < n) : takeN cs off n = some ((List.range n).map x) := by
  have hl : off + n ≤ cs.length := by have := (takeN_some (h (n - 1) (by omega))).1; omega
  unfold takeN
  rw [if_pos hl]
  congr 1
  apply List.ext_getElem?
  intro j
  rw [List.getElem?_take]
  split
  · rename_i hj
    have := takeN_get (h j hj) (j := 0) (by omega)
    rw [List.getElem?_drop]
    simpa [hj] using this
  · rename_i hj
    rw [List.getElem?_eq_none (by simp; omega)]
theorem range_map (l : List Nat) : (List.range l.length).map (fun i => bc (l[i]?.getD 0)) = l.map bc := by
  apply List.ext_getElem?
  intro j
  by_cases hj : j < l.length
  · simp [hj]
  · simp [hj]
theorem text_slice {B : Nat → Prop} {h : St} {v : Value} {l : List Nat} (s : SliceAt B h v l.length 1 (rowC l)) : textOf v h = some (.string (bytesText l)) := by
  rcases s with ⟨rfl, hl⟩ | ⟨b, off, sp, c, rfl, _, hs⟩
  · have : l = [] := List.eq_nil_of_length_eq_zero hl
    subst this
    rfl
  · cases hn : l.length with
    | zero =>
      have : l = [] := List.eq_nil_of_length_eq_zero hn
      subst this
      rfl
    | succ n =>
      obtain ⟨_, _, cs, own, g3, g4⟩ := hs (by omega)
      have := takeN_rows (cs := cs) (off := off) (n := n + 1) (x := fun i => bc (l[i]?.getD 0)) (fun i hi => by have := g4 i (by omega); rwa [Nat.mul_one] at this) (by omega)
      rw [← hn, range_map, hn] at this
      simp only [textOf, g3, this, Option.bind_some, bytesOf_map]
      rfl
theorem map_flat (l : List Nat) : l.map bc = l.flatMap fun b => [bc b] := by
  induction l with
  | nil => rfl
  | cons x l ih => rw [List.map_cons, List.flatMap_cons, ih]; rfl
theorem own_bytes {B : Nat → Prop} {h : St} {v : Value} {l : List Nat} (s : OwnS B h v 1 (l.map bc) l.length) : SliceAt B h v l.length 1 (rowC l) := by
  rw [map_flat] at s
  exact s.slice (fun _ _ => rfl) (fun i x hx => by simp [rowC, hx])
@[simp] theorem binV_text (s : Shp) (a b : ByteArray) : binV .eql s (.string a) (.string b) = some (.bool (a.toList == b.toList)) := by simp [binV, isShift, textV]
def awakeS : Abs.Spec := fun args h k => args = [] ∧ ∀ h', Chg h h' [] → k (.bool true) h'
theorem awakeS_live : SpecLive awakeS := by
  rintro args h k ⟨rfl, H⟩; exact ⟨_, _, H h (Chg.refl _ _)⟩
def tabA : List (FuncId × Abs.Spec) := [(15, writeS), (12, leastS)]
theorem awakeS_ok : SpecOk Try.prog 13 awakeS := by
  refine specOk_wf mixed Try.func13 (by kernel_rfl) (by kernel_rfl) (tab := tabA) (by simp [tabA, writeS_ok, leastS_ok]) (by simp [tabA, writeS_live, leastS_live]) (keep := tiltyardlaw01_awake_keep) ?_
  rintro args h k wf ⟨rfl, H⟩
  refine ⟨0, ?_⟩
  show tiltyardlaw01_awake (tabC tabA) idG 0 h _
  rw [tiltyardlaw01_awake_eq]
  simp [buildSliceE, buildV, fillL, repL, allOne_eq]
  obtain ⟨g, hg⟩ : ∃ g, g = (h.push (.cells [.int .u64 7, .int .u64 258] true)).push (.cells [.string ⟨#[97, 98]⟩] true) := ⟨_, rfl⟩
  rw [← hg]
  have cg : Chg h g [] := by rw [hg]; repeat' (first | exact Chg.refl _ _ | apply Chg.of_push)
  have ng : g.next = h.next + 2 := by rw [hg]; rfl
  have g0 : g.objs h.next = some (.cells [.int .u64 7, .int .u64 258] true) := by rw [hg, push_ne (by simp)]; exact push_at _ _
  have g1 : g.objs (h.next + 1) = some (.cells [.string ⟨#[97, 98]⟩] true) := by rw [hg]; exact push_at (h.push _) _
  clear hg
  have hz : writeZ (letters ⟨#[98, 119, 115]⟩) [7, 258] [⟨#[97, 98]⟩] [] = (0, [7, 1, 2, 2, 97, 98]) := by decide
  refine .inl ⟨rfl, ⟨#[98, 119, 115]⟩, _, _, _, fun _ => .slice none 0 0, [7, 258], [⟨#[97, 98]⟩], [], rfl, by decide, ⟨by simp, by simp; decide, by simp⟩, ⟨.inr ⟨h.next, 0, some 1, 0, rfl, .inr rfl, fun _ => ⟨by omega, by omega, _, _, g0, fun i hi => ?_⟩⟩, .inr ⟨h.next + 1, 0, some 1, 0, rfl, .inr rfl, fun _ => ⟨by omega, by omega, _, _, g1, fun i hi => ?_⟩⟩, .inl ⟨rfl, rfl⟩, fun i l hi => by simp at hi⟩, fun h3 v3 c3 o3 => ?_⟩
  · have : i = 0 ∨ i = 1 := by simp at hi; omega
    rcases this with rfl | rfl <;> rfl
  · have : i = 0 := by simp at hi; omega
    subst this; rfl
  rw [hz] at o3 ⊢
  have tx := text_slice (own_bytes o3)
  have c3' : Chg h h3 [] := cg.of_chg c3 (by simp)
  have s6 : SliceAt (fun _ => True) (h3.push (.cells [.int .u8 7, .int .u8 1, .int .u8 2, .int .u8 2, .int .u8 97, .int .u8 98] true)) (.slice (some ⟨h3.next, 0, some 1⟩) 6 0) [7, 1, 2, 2, 97, 98].length 1 (rowC [7, 1, 2, 2, 97, 98]) :=
    own_bytes (l := [7, 1, 2, 2, 97, 98]) (.inr ⟨h3.next, rfl, trivial, by simp, by exact push_at _ _, rfl⟩)
  have ty := text_slice s6
  simp [groupK_eq, getT, tx, ty, buildSliceE, fillL, repL, allOne_eq]
  refine .inr (.inl ⟨rfl, ⟨#[113, 115, 108]⟩, rfl, by decide, ?_⟩)
  have hl : leastZ (letters ⟨#[113, 115, 108]⟩) = 10 := by decide
  simp [hl]
  exact ⟨_, St.le.refl _, H _ (Chg.of_push c3')⟩

/-! ### 'FieldShapes' -/
def tabS : List (FuncId × Abs.Spec) := [(10, refLeastS), (11, rightS), (12, leastS), (13, awakeS)]
def shapesS : Abs.Spec := fun args h k => ∃ s : ByteArray, args = [.string s] ∧ s.size ≤ maxLen ∧ ∀ h', k (.bool true) h'
theorem shapesS_ok : SpecOk Try.prog 3 shapesS := by
  refine specOk_wf mixed Try.func3 (by kernel_rfl) (by kernel_rfl) (tab := tabS) (by simp [tabS, refLeastS_ok, rightS_ok, leastS_ok, awakeS_ok]) (by simp [tabS, refLeastS_live, rightS_live, leastS_live, awakeS_live]) (keep := tiltyardlaw01_FieldShapes_keep) ?_
  rintro args h k wf ⟨s, rfl, hs, H⟩
  refine ⟨0, ?_⟩
  show tiltyardlaw01_FieldShapes (tabC tabS) idG 0 (.string s) h _
  rw [tiltyardlaw01_FieldShapes_eq]
  have fin : ∀ h', ∃ h2, St.le h2 h' ∧ k (.bool true) h2 := fun h' => ⟨h', St.le.refl _, H h'⟩
  by_cases hb : (100 : Int) < s.size
  · simp [hb]; exact fin h
  have hs' : s.size < 9223372036854775808 := by omega
  simp [hb]
  refine .inl ⟨rfl, s, rfl, hs', fun h1 c1 => ?_⟩
  refine .inr (.inl ⟨rfl, s, rfl, hs', ?_⟩)
  simp [groupK_eq, getT]
  refine .inr (.inr (.inl ⟨rfl, s, rfl, hs', ?_⟩))
  simp
  refine .inr (.inr (.inr (.inl ⟨rfl, rfl, fun h2 c2 => ?_⟩)))
  exact fin h2
end Go.Proofs.Ytiaijbkmgajieaa
