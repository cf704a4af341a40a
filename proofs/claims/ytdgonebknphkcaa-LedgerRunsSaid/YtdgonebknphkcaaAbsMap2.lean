/- Ranges over maps: what is left of the entries. -/
import Derived.Test.YtdgonebknphkcaaAbsIn
set_option linter.unusedSimpArgs false
set_option linter.unusedVariables false
namespace Go.Abs

theorem born_split : ∀ (l : List MapEntry) (e : MapEntry), (l.map (·.born)).Nodup → e ∈ l → l.Perm (e :: l.filter fun x => !(x.born == e.born))
  | [], _, _, h => by cases h
  | x :: t, e, nd, h => by
    rw [List.map_cons, List.nodup_cons] at nd
    obtain ⟨n1, n2⟩ := nd
    rcases List.mem_cons.1 h with rfl | h
    · have all : t.filter (fun x => !(x.born == e.born)) = t := by
        rw [List.filter_eq_self]
        intro y hy
        have : y.born ≠ e.born := fun hh => n1 (by rw [← hh]; exact List.mem_map_of_mem hy)
        simpa using this
      rw [List.filter_cons_of_neg (by simp), all]
    · have ne : x.born ≠ e.born := fun hh => n1 (by rw [hh]; exact List.mem_map_of_mem h)
      rw [List.filter_cons_of_pos (by simpa using ne)]
      exact ((born_split t e n2 h).cons x).trans (.swap ..)
theorem leftE_nil (es : List MapEntry) : leftE es [] = es := by
  unfold leftE
  rw [List.filter_eq_self]
  simp
theorem leftE_step (es : List MapEntry) (seen : List Nat) (e : MapEntry) : leftE es (seen ++ [e.born]) = (leftE es seen).filter fun x => !(x.born == e.born) := by
  unfold leftE
  rw [List.filter_filter]
  apply List.filter_congr
  intro x _
  simp only [List.contains_append, List.contains_cons, List.contains_nil, Bool.or_false, Bool.not_or, Bool.and_comm]
theorem leftE_nodup {es : List MapEntry} (nd : (es.map (·.born)).Nodup) (seen : List Nat) : ((leftE es seen).map (·.born)).Nodup :=
  nd.sublist (List.Sublist.map _ List.filter_sublist)
/-- One is taken of those that are left. -/
theorem leftE_perm {es : List MapEntry} (nd : (es.map (·.born)).Nodup) {seen : List Nat} {e : MapEntry} (he : e ∈ leftE es seen) : (leftE es seen).Perm (e :: leftE es (seen ++ [e.born])) := by
  rw [leftE_step]
  exact born_split _ _ (leftE_nodup nd seen) he
theorem find_born : ∀ {es : List MapEntry} {e : MapEntry}, (es.map (·.born)).Nodup → e ∈ es → es.find? (fun x => x.born == e.born) = some e
  | [], _, _, h => by cases h
  | x :: t, e, nd, h => by
    rw [List.map_cons, List.nodup_cons] at nd
    rcases List.mem_cons.1 h with rfl | h
    · rw [List.find?_cons_of_pos (by simp)]
    · have ne : x.born ≠ e.born := fun hh => nd.1 (by rw [hh]; exact List.mem_map_of_mem h)
      rw [List.find?_cons_of_neg (by simpa using ne)]
      exact find_born nd.2 h
theorem rangeE_in {h : St} {r clock : Nat} {es : List MapEntry} {k : Cont} (om : h.objs r = some (.map es clock)) (H : ∀ h', Chg h h' [] → h'.next = h.next + 1 → h'.objs h.next = some (.iter (some r) clock [] clock) → k (.pointer (some ⟨h.next, 0, none⟩)) h') : rangeE (.map (some r)) h k := by
  unfold rangeE
  simp only [om]
  exact H _ (Chg.push _ _) rfl (push_at _ _)
theorem nextE_in {h : St} {it r clock : Nat} {es : List MapEntry} {seen : List Nat} {k : Cont} (oi : h.objs it = some (.iter (some r) clock seen clock)) (om : h.objs r = some (.map es clock)) (hb : ∀ e ∈ es, e.born < clock) (hl : ∀ e ∈ es, lit e.key = true)
    (H0 : leftE es seen = [] → k (.tuple #[.bool false]) h) (H1 : ∀ e ∈ leftE es seen, ∀ h', Chg h h' [it] → h'.next = h.next → h'.objs it = some (.iter (some r) clock (seen ++ [e.born]) clock) → k (.tuple #[.bool true, e.key, e.val]) h') : nextE (.pointer (some ⟨it, 0, none⟩)) false h k := by
  unfold nextE
  simp only [oi, om]
  exact ⟨⟨fun e he => ⟨hb e he, hl e he⟩, Nat.le_refl _⟩, H0, fun e he => H1 e he _ (Chg.set _ (by simp)) rfl (set_at _ _ _)⟩
theorem entryV_in {h : St} {it r clock since : Nat} {es : List MapEntry} {seen : List Nat} {e : MapEntry} (nd : (es.map (·.born)).Nodup) (he : e ∈ es) (hl : lit e.key = true) (oi : h.objs it = some (.iter (some r) since (seen ++ [e.born]) clock)) (om : h.objs r = some (.map es clock)) : entryV (.pointer (some ⟨it, 0, none⟩)) h = some (.tuple #[e.key, e.val]) := by
  unfold entryV
  simp only [oi, om, List.getLast?_concat, find_born nd he, hl]
  have : Nat.beq clock clock = true := Nat.beq_refl clock
  rw [this]
end Go.Abs
