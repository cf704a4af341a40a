/- Parts laid into cells; all looking operations in one. -/
import Derived.Test.YtdgonebknphkcaaAbsH
set_option linter.unusedSimpArgs false
set_option linter.unusedVariables false
namespace Go.Abs
open Go.RowKit (Below)

section
variable {P : Program} {B : Nat} {w0 w : World} {ρ : Rho} {h : St}

theorem laid_list : ∀ (vc : List Value) (k off : Nat) (cs : Array Value), off + k + vc.length ≤ cs.size →
    ((vc.zipIdx k).foldl (fun cs (p : Value × Nat) => cs.setIfInBounds (off + p.2) p.1) cs).toList = cs.toList.take (off + k) ++ vc ++ cs.toList.drop (off + k + vc.length)
  | [], k, off, cs, hle => by simp
  | v :: vc, k, off, cs, hle => by
    simp only [List.length_cons] at hle
    rw [List.zipIdx_cons, List.foldl_cons, laid_list vc (k + 1) off _ (by simp; omega)]
    simp only [Array.toList_setIfInBounds, List.length_cons]
    have hk : off + k < cs.toList.length := by simp; omega
    rw [List.set_eq_take_append_cons_drop, if_pos hk]
    have hl : (cs.toList.take (off + k)).length = off + k := by rw [List.length_take]; omega
    rw [List.take_append, List.drop_append, hl]
    have e1 : off + (k + 1) - (off + k) = 1 := by omega
    have e2 : off + (k + 1) + vc.length - (off + k) = vc.length + 1 := by omega
    rw [e1, e2]
    simp only [List.take_succ_cons, List.take_zero, List.drop_succ_cons, List.drop_drop]
    rw [List.take_of_length_le (by rw [hl]; omega), List.drop_of_length_le (by rw [hl]; omega)]
    simp only [List.nil_append, List.append_assoc, List.singleton_append, List.cons_append]
    congr 3
    congr 1
    omega

inductive PRel (ρ : Rho) (place : Nat → Option (Nat × Nat)) : List (Nat × Nat × Value) → List (Nat × Value) → Prop
  | nil : PRel ρ place [] []
  | cons {off n i : Nat} {v v' : Value} {l : List (Nat × Nat × Value)} {l' : List (Nat × Value)} (hp : place i = some (off, n)) (hv : VRel ρ v v') (t : PRel ρ place l l') :
      PRel ρ place ((off, n, v) :: l) ((i, v') :: l')
theorem unk_cells : (unk : Value).cells.size = 1 := rfl
theorem VRel.cellsSize {v v' : Value} (hv : VRel ρ v v') (hu : v ≠ Abs.unk) : v'.cells.size = v.cells.size := (LRel.size (hv.cells hu)).symm
/-- No part is unknown. -/
def known : List (Nat × Nat × Value) → Prop
  | [] => True
  | (_, _, v) :: r => v ≠ unk ∧ known r
theorem fillL_sound {place : Nat → Option (Nat × Nat)} : ∀ {l : List (Nat × Nat × Value)} {l' : List (Nat × Value)}, PRel ρ place l l' → known l → ∀ {cs : List Value} {cs' : Array Value} {out : List Value}, LRel ρ cs cs'.toList → fillL l cs = some out →
    ∃ out', Instr.fill place cs' l' = some out' ∧ LRel ρ out out'.toList
  | _, _, .nil, _, cs, cs', out, hc, hf => by simp [fillL] at hf; subst hf; exact ⟨cs', rfl, hc⟩
  | _, _, .cons (off := off) (n := n) (i := i) (v := v) (v' := v') hp hv t, hk, cs, cs', out, hc, hf => by
    simp only [fillL] at hf
    split at hf
    · rename_i hcond
      obtain ⟨h1, h2⟩ := hcond
      have hsz := hv.cellsSize hk.1
      have hlen := hc.length
      have hfit : off + v'.cells.size ≤ cs'.size := by rw [hsz, h1]; simpa [hlen] using h2
      have hlaid := laid_list v'.cells.toList 0 off cs' (by simpa using hfit)
      have hc2 : LRel ρ (cs.take off ++ v.cells.toList ++ cs.drop (off + n)) (v'.cells.zipIdx.foldl (fun cs (c, j) => cs.setIfInBounds (off + j) c) cs').toList := by
        have e : (v'.cells.zipIdx.foldl (fun cs (c, j) => cs.setIfInBounds (off + j) c) cs').toList = cs'.toList.take off ++ v'.cells.toList ++ cs'.toList.drop (off + n) := by
          rw [← Array.foldl_toList, Array.toList_zipIdx]
          have := hlaid
          simp only [Nat.add_zero] at this
          rw [show (v'.cells.toList.zipIdx) = v'.cells.toList.zipIdx 0 from rfl, this, Array.length_toList, hsz, h1]
        rw [e]
        exact ((hc.take off).append (hv.cells hk.1)).append (hc.drop (off + n))
      obtain ⟨out', g1, g2⟩ := fillL_sound t hk.2 hc2 hf
      refine ⟨out', ?_, g2⟩
      unfold Instr.fill
      simp only [hp]
      rw [if_neg (by simp; omega)]
      exact g1
    · cases hf
theorem zeroOf_spec {t : TypeId} {z : List Value} (hz : zeroOf P t = some z) : ∃ i v, P.info? t = some i ∧ i.zero = some v ∧ v.cells.toList = z ∧ z.all lit1 = true ∧ ∀ w, (zeroValue t).run P w = .ok v w := by
  unfold zeroOf at hz
  split at hz
  · rename_i i hi
    split at hz
    · rename_i v e
      split at hz
      · rename_i hl
        cases hz
        exact ⟨i, v, hi, e, rfl, hl, fun w => by simp [zeroValue, typeInfo, hi, e, Result.andThen]⟩
      · cases hz
    · cases hz
  · cases hz
theorem knownB_spec : ∀ {l : List (Nat × Nat × Value)}, (l.all fun p => !isUnk p.2.2) = true → known l
  | [], _ => trivial
  | (_, _, v) :: r, h => by
    simp only [List.all_cons, Bool.and_eq_true, Bool.not_eq_true'] at h
    refine ⟨fun e => ?_, knownB_spec h.2⟩
    rw [e] at h
    simp [isUnk, unk] at h
theorem placesOf_rel {fields : Array Field} {ev ev' : Operand → Value} (hev : ∀ x, VRel ρ (ev x) (ev' x)) {places : Array (Nat × Nat)} (hpl : ∀ (i : Nat) (f : Field) (ti : TypeInfo), fields[i]? = some f → P.info? f.type = some ti → places[i]? = some (f.offset, ti.size)) :
    ∀ {l : List (Nat × Operand)} {out : List (Nat × Nat × Value)}, placesOf P fields ev l = some out → PRel ρ (places[·]?) out (l.map fun (i, x) => (i, ev' x))
  | [], out, h => by simp [placesOf] at h; subst h; exact .nil
  | (i, x) :: r, out, h => by
    simp only [placesOf] at h
    split at h
    · rename_i f l hf hl
      split at h
      · rename_i ti hti
        cases h
        exact .cons (hpl i f ti hf hti) (hev x) (placesOf_rel hev hpl hl)
      · cases h
    · cases h
theorem partsV_rel {ev ev' : Operand → Value} (hev : ∀ x, VRel ρ (ev x) (ev' x)) {elem : TypeId} {n : Nat} : ∀ (l : List (Nat × Operand)),
    PRel ρ (fun i => some (i * n, n)) (partsV P elem ev l n) (l.map fun (i, x) => (i, ev' x))
  | [] => .nil
  | (i, x) :: r => .cons rfl (hev x) (partsV_rel hev r)
theorem run_places {fields : Array Field} (hs : sizesOk P fields = true) (w : World) : ∃ places : Array (Nat × Nat), (fields.mapM fun f => do pure (f.offset, ← sizeOf f.type) : Sem (Array (Nat × Nat))).run P w = .ok places w ∧
    ∀ (i : Nat) (f : Field) (ti : TypeInfo), fields[i]? = some f → P.info? f.type = some ti → places[i]? = some (f.offset, ti.size) := by
  rw [Array.mapM_eq_mapM_toList]
  have key : ∀ l : List Field, (l.all fun f => (P.info? f.type).isSome) = true → ∃ out : List (Nat × Nat), (l.mapM fun f => do pure (f.offset, ← sizeOf f.type) : Sem (List (Nat × Nat))).run P w = .ok out w ∧
      ∀ (i : Nat) (f : Field) (ti : TypeInfo), l[i]? = some f → P.info? f.type = some ti → out[i]? = some (f.offset, ti.size) := by
    intro l
    induction l with
    | nil => intro _; exact ⟨[], by simp, fun i f ti h => by simp at h⟩
    | cons f l ih =>
      intro h
      simp only [List.all_cons, Bool.and_eq_true] at h
      obtain ⟨out, h1, h2⟩ := ih h.2
      obtain ⟨ti, hti⟩ := Option.isSome_iff_exists.1 h.1
      refine ⟨(f.offset, ti.size) :: out, ?_, ?_⟩
      · simp only [List.mapM_cons, Sem.run_bind, run_size' hti, Result.andThen, Sem.run_pure, h1]
      · intro i g tg hg htg
        cases i with
        | zero => simp at hg; subst hg; rw [hti] at htg; cases htg; rfl
        | succ i => exact h2 i g tg (by simpa using hg) htg
  obtain ⟨out, h1, h2⟩ := key fields.toList hs
  refine ⟨out.toArray, by rw [Sem.run_map, h1]; rfl, fun i f ti hf hti => ?_⟩
  simpa using h2 i f ti (by simpa using hf) hti
theorem buildOp_sound {t : TypeId} {parts : Array (Nat × Operand)} {ev ev' : Operand → Value} (hev : ∀ x, VRel ρ (ev x) (ev' x)) {v : Value} (hv : buildOp P t parts ev = some v) (w : World) :
    ∃ v', (Instr.build t (parts.map fun (i, x) => (i, ev' x))).run P w = .ok v' w ∧ VRel ρ v v' := by
  unfold buildOp at hv
  split at hv
  · rename_i fields hu
    split at hv
    · rename_i z hs hz
      unfold buildV at hv
      split at hv
      · rename_i l hl
        split at hv
        · rename_i hkn
          simp only [Option.map_eq_some_iff] at hv
          obtain ⟨cs, e1, rfl⟩ := hv
          obtain ⟨i, zv, hi, hz1, hz2, hz3, hz4⟩ := zeroOf_spec hz
          obtain ⟨places, hp1, hp2⟩ := run_places hs w
          obtain ⟨out', g1, g2⟩ := fillL_sound (placesOf_rel hev hp2 hl) (knownB_spec hkn) (cs' := zv.cells) (by rw [hz2]; exact LRel.refl hz3) e1
          refine ⟨.agg out', ?_, VRel.aggL g2⟩
          simp only [Instr.build, Sem.run_bind, hz4, run_underlying hu, hp1, Result.andThen, Array.toList_map]
          rw [g1]
          rfl
        · cases hv
      · cases hv
    · cases hv
  · rename_i n elem hu
    split at hv
    · rename_i i z hi hz
      unfold buildV at hv
      split at hv
      · rename_i l hl
        cases hl
        split at hv
        · rename_i hkn
          simp only [Option.map_eq_some_iff] at hv
          obtain ⟨cs, e1, rfl⟩ := hv
          obtain ⟨i2, zv, hi2, hz1, hz2, hz3, hz4⟩ := zeroOf_spec hz
          obtain ⟨out', g1, g2⟩ := fillL_sound (partsV_rel (P := P) hev (elem := elem) (n := i.size) parts.toList) (knownB_spec hkn) (cs' := zv.cells) (by rw [hz2]; exact LRel.refl hz3) e1
          refine ⟨.agg out', ?_, VRel.aggL g2⟩
          simp only [Instr.build, Sem.run_bind, hz4, run_underlying hu, run_size' hi, Result.andThen, Array.toList_map]
          rw [g1]
          rfl
        · cases hv
      · cases hv
    · cases hv
  · cases hv
end
end Go.Abs
