/- What the abstract machine's looking operations answer, the machine's answer. -/
import Derived.Test.YtdgonebknphkcaaAbsB
import Derived.OwnWalk
import Derived.Laws.AppendOwn
import Derived.Laws.Cells
import Derived.Laws.CopyRow
import Derived.Lib.AppendStr
import Derived.ChangeKeysEq
set_option linter.unusedSimpArgs false
set_option linter.unusedVariables false
namespace Go.Abs
open Go.RowKit (Below)

section
variable {P : Program} {B : Nat} {w0 w : World} {ρ : Rho} {h : St}

theorem getT_rel {t t' : List Value} (hr : LRel ρ t t') (n : Nat) : VRel ρ (getT t n) (t'.getD n Go.undef) := by
  induction hr generalizing n with
  | nil => simpa [getT] using VRel.undef ρ
  | cons h _ ih => cases n with
    | zero => simpa [getT] using h
    | succ n => simpa [getT] using ih n
theorem setT_rel {t t' : List Value} (hr : LRel ρ t t') (n : Nat) {v v' : Value} (hv : VRel ρ v v') : LRel ρ (setT t n v) (t'.set n v') := by
  induction hr generalizing n with
  | nil => simpa [setT] using LRel.nil
  | cons h t ih => cases n with
    | zero => exact .cons hv t
    | succ n => exact .cons h (ih n)
theorem putT_rel {t : List Value} {a : Act} (hr : LRel ρ t a.tmps.toList) (d : Option Tmp) {v v' : Value} (hv : VRel ρ v v') : LRel ρ (putT t d v) (a.put d v').tmps.toList := by
  cases d with
  | none => exact hr
  | some d => simpa [putT, Act.put] using setT_rel hr d hv
theorem maskT_rel {t t' : List Value} (hr : LRel ρ t t') (m : List Bool) : LRel ρ (maskT m t) t' := by
  induction hr generalizing m with
  | nil => cases m <;> exact .nil
  | cons h t ih => cases m with
    | nil => exact .cons h t
    | cons b m => cases b
                  · exact .cons (.unk _) (ih m)
                  · exact .cons h (ih m)
theorem VRel.of_lit {v : Value} (hv : Abs.lit v = true) : VRel ρ v v := by
  cases v with
  | agg cs => exact .agg _ _ rfl (LRel.array (LRel.refl (by simpa [Abs.lit] using hv)))
  | _ => exact .lit _ (by simpa [Abs.lit] using hv)
theorem evA_rel (H : HRel P B w0 ρ h w) {t : List Value} {a : Act} (hr : LRel ρ t a.tmps.toList) (x : Operand) : VRel ρ (evA P t x) (a.eval x) := by
  cases x with
  | tmp n => simpa [evA, Act.eval] using getT_rel hr n
  | const v =>
    simp only [evA, Act.eval]
    split
    · rename_i hl; exact VRel.of_lit hl
    · exact .unk v
  | global g =>
    simp only [evA, Act.eval]
    split
    · rename_i hg
      obtain ⟨l, h1, h2⟩ := H.old g (by simpa using hg)
      have := VRel.ptr (ρ := ρ) g 0 l h1
      rwa [h2] at this
    · exact .unk _
  | func f => exact .func _ _ _ _ _ rfl rfl (fun i h => by simp at h) (fun i h => by simp at h)

/-! ### reading -/
theorem ORel.cell {cs : List Value} {own : Bool} {l : Loc} (ho : ORel ρ B (.cells cs own) l w) {k : Nat} {v : Value} (hk : cs[k]? = some v) :
    ∃ v', w.cell? ⟨l.blk, k, none⟩ = some v' ∧ VRel ρ v v' := by
  obtain ⟨_, _, arr, ty, fr, hb, _, hlen, hl⟩ := ho
  obtain ⟨v', e, r⟩ := hl.get hk
  refine ⟨v', ?_, r⟩
  rw [List.getElem?_take] at e
  split at e
  · simp only [World.cell?, hb]; simpa using e
  · cases e
theorem ORel.cells {cs : List Value} {own : Bool} {l : Loc} (ho : ORel ρ B (.cells cs own) l w) {off n : Nat} {vs : List Value} (hk : takeN cs off n = some vs) :
    ∃ vs', vs'.length = n ∧ LRel ρ vs vs' ∧ ∀ j v, vs'[j]? = some v → w.cell? ⟨l.blk, off + j, none⟩ = some v := by
  obtain ⟨_, _, arr, ty, fr, hb, _, hlen, hl⟩ := ho
  simp only [takeN] at hk
  split at hk
  · rename_i hle
    cases hk
    refine ⟨((arr.toList.take cs.length).drop off).take n, ?_, (hl.drop off).take n, ?_⟩
    · simp only [List.length_take, List.length_drop, Array.length_toList]; omega
    · intro j v hj
      rw [List.getElem?_take] at hj
      split at hj
      · rw [List.getElem?_drop, List.getElem?_take] at hj
        split at hj
        · simp only [World.cell?, hb]; simpa using hj
        · cases hj
      · cases hj
  · cases hk
theorem add_none (b o n : Nat) : (⟨b, o, none⟩ : Addr).add n = ⟨b, o + n, none⟩ := by
  unfold Addr.add; split <;> simp_all
theorem run_loadCells_at {b off n : Nat} {vs : List Value} (hn : vs.length = n) (hc : ∀ j v, vs[j]? = some v → w.cell? ⟨b, off + j, none⟩ = some v) :
    (loadCells ⟨b, off, none⟩ n).run P w = .ok vs.toArray w := by
  subst hn
  exact run_loadCells_list w _ vs (fun j v hj => by rw [add_none]; exact hc j v hj)

theorem run_isAgg' {t : TypeId} {g : Bool} (hg : aggT P t = some g) (w : World) : (isAgg t).run P w = .ok g w := by
  simp only [aggT] at hg
  unfold isAgg
  cases hu : P.underlying t with
  | none => simp [hu] at hg
  | some d =>
    simp only [Sem.run_bind, run_underlying hu, Result.andThen]
    rw [hu] at hg
    cases d <;> simp at hg <;> subst hg <;> rfl
theorem run_size' {t : TypeId} {i : TypeInfo} (hi : P.info? t = some i) (w : World) : (sizeOf t).run P w = .ok i.size w := by
  simp [sizeOf, typeInfo, hi]

theorem loadV_sound (H : HRel P B w0 ρ h w) {t : TypeId} {g : Bool} {i : TypeInfo} (hg : aggT P t = some g) (hi : P.info? t = some i) {p p' v : Value} (hp : VRel ρ p p')
    (hv : loadV g i.size p h = some v) : ∃ v', (Instr.loadAt t p').run P w = .ok v' w ∧ VRel ρ v v' := by
  unfold loadV at hv
  split at hv
  · rename_i id off
    split at hv
    · rename_i cs own ho
      obtain ⟨l, hl, hor⟩ := H.obj id _ ho
      cases hp with
      | lit _ e => simp [lit1] at e
      | ptr _ _ l' hl' =>
        have : l' = l := by rw [hl] at hl'; exact (Option.some.inj hl').symm
        subst this
        unfold partV at hv
        cases g with
        | true =>
          simp only [Option.map_eq_some_iff] at hv
          obtain ⟨vs, e, rfl⟩ := hv
          obtain ⟨vs', h1, h2, h3⟩ := hor.cells e
          refine ⟨.agg vs'.toArray, ?_, VRel.aggL (by simpa using h2)⟩
          simp [Instr.loadAt, Instr.sureAddr, loadVar, run_isAgg' hg, run_size' hi, run_loadCells_at h1 h3, Result.andThen]
        | false =>
          obtain ⟨v', h1, h2⟩ := hor.cell hv
          refine ⟨v', ?_, h2⟩
          simp [Instr.loadAt, Instr.sureAddr, loadVar, run_isAgg' hg, h1, Result.andThen]
    · cases hv
  · cases hv
theorem loadOp_sound (H : HRel P B w0 ρ h w) {t : TypeId} {p p' v : Value} (hp : VRel ρ p p') (hv : loadOp P t p h = some v) : ∃ v', (Instr.loadAt t p').run P w = .ok v' w ∧ VRel ρ v v' := by
  unfold loadOp at hv
  split at hv
  · rename_i g i hg hi
    exact loadV_sound H hg hi hp hv
  · cases hv

theorem partV_sound {t : TypeId} {g : Bool} {i : TypeInfo} (hg : aggT P t = some g) (hi : P.info? t = some i) {cs : Array Value} {cs' : Array Value} (hc : LRel ρ cs.toList cs'.toList) {off : Nat} {v : Value}
    (hv : partV g i.size cs.toList off = some v) (w : World) : ∃ v', (part t cs' off).run P w = .ok v' w ∧ VRel ρ v v' := by
  unfold partV at hv
  cases g with
  | true =>
    simp only [Option.map_eq_some_iff] at hv
    obtain ⟨vs, e, rfl⟩ := hv
    simp only [takeN] at e
    split at e
    · cases e
      refine ⟨.agg (cs'.extract off (off + i.size)), by simp [part, run_isAgg' hg, run_size' hi, Result.andThen], VRel.aggL ?_⟩
      have := (hc.drop off).take i.size
      simpa [Array.toList_extract, List.extract_eq_take_drop] using this
    · cases e
  | false =>
    obtain ⟨v', e, r⟩ := hc.get hv
    exact ⟨v', by simp at e; simp [part, run_isAgg' hg, Result.andThen, e], r⟩

theorem offV_sound {p p' v : Value} {o : Nat} (hp : VRel ρ p p') (hv : offV o p = some v) : ∃ a', p' = .pointer (some a') ∧ VRel ρ v (.pointer (some (a'.add o))) := by
  unfold offV at hv
  split at hv
  · cases hv
    cases hp with
    | lit _ e => simp [lit1] at e
    | ptr _ _ l hl => exact ⟨_, rfl, by rw [add_none]; exact .ptr _ _ l hl⟩
  · cases hv
theorem fieldOf_spec {s : TypeId} {f o n : Nat} {g : Bool} (hf : fieldOf P s f = some (o, n, g)) : ∃ fields fd i, P.underlying s = some (.struct fields) ∧ fields[f]? = some fd ∧ P.info? fd.type = some i ∧ aggT P fd.type = some g ∧ fd.offset = o ∧ i.size = n := by
  unfold fieldOf at hf
  split at hf
  · rename_i fields hu
    split at hf
    · rename_i fd hfd
      split at hf
      · rename_i i a hi ha
        cases hf
        exact ⟨fields, fd, i, hu, hfd, hi, ha, rfl, rfl⟩
      · cases hf
    · cases hf
  · cases hf
theorem fieldAddrOp_sound {s : TypeId} {f : Nat} {x x' v : Value} (hx : VRel ρ x x') (hv : fieldAddrOp P s f x = some v) (w : World) : ∃ v', (Instr.fieldAt s x' f).run P w = .ok v' w ∧ VRel ρ v v' := by
  unfold fieldAddrOp at hv
  split at hv
  · rename_i o n g hf
    obtain ⟨fields, fd, i, hu, hfd, hi, ha, ho, hn⟩ := fieldOf_spec hf
    split at hv
    · cases hv
    · rename_i m
      obtain ⟨a', rfl, r⟩ := offV_sound hx hv
      refine ⟨_, ?_, r⟩
      simp [Instr.fieldAt, run_underlying hu, hfd, Instr.sureAddr, fieldPlace, run_size' hi, hn, ho, Result.andThen]
  · cases hv
theorem fieldOp_sound {s : TypeId} {f : Nat} {x x' v : Value} (hx : VRel ρ x x') (hv : fieldOp P s f x = some v) (w : World) : ∃ v', (Instr.field s x' f).run P w = .ok v' w ∧ VRel ρ v v' := by
  unfold fieldOp at hv
  split at hv
  · rename_i o n g hf
    obtain ⟨fields, fd, i, hu, hfd, hi, ha, ho, hn⟩ := fieldOf_spec hf
    unfold fieldV at hv
    split at hv
    · rename_i cs
      cases hx with
      | lit _ e => simp [lit1] at e
      | agg _ cs' hs hc =>
        subst hn
        obtain ⟨v', e, r⟩ := partV_sound ha hi (LRel.of_array hs hc) hv w
        exact ⟨v', by simp [Instr.field, run_underlying hu, hfd, asAgg, ho, e, Result.andThen], r⟩
    · cases hv
  · cases hv
theorem run_asIntOf (k : IntKind) (n : Int) (w : World) : (asIntOf (.int k n)).run P w = .ok (k, n) w := rfl
theorem VRel.int_inv {k : IntKind} {n : Int} {v' : Value} (hx : VRel ρ (.int k n) v') : v' = .int k n := by cases hx; rfl
theorem VRel.bool_inv {b : Bool} {v' : Value} (hx : VRel ρ (.bool b) v') : v' = .bool b := by cases hx; rfl
theorem VRel.string_inv {s : ByteArray} {v' : Value} (hx : VRel ρ (.string s) v') : v' = .string s := by cases hx; rfl

theorem indexAddrOp_sound {t : TypeId} {x x' i i' v : Value} (hx : VRel ρ x x') (hi : VRel ρ i i') (hv : indexAddrOp P t x i = some v) (w : World) : ∃ v', (Instr.indexAt t x' i').run P w = .ok v' w ∧ VRel ρ v v' := by
  unfold indexAddrOp at hv
  split at hv
  · rename_i e hu
    split at hv
    · rename_i ti hti
      unfold idxS at hv
      split at hv
      · rename_i a n c k j
        obtain rfl := hi.int_inv
        split at hv
        · rename_i hj
          cases hv
          cases hx with
          | lit _ e => simp [lit1] at e
          | empty => omega
          | slice _ off _ _ cap l hl ho hn hc =>
            refine ⟨.pointer (some (Addr.add ⟨l.blk, off, none⟩ (j.toNat * ti.size))), ?_, by rw [add_none]; exact .ptr _ _ l hl⟩
            simp [Instr.indexAt, run_asIntOf, run_underlying hu, run_size' hti, hj, Result.andThen]
          | owned _ off _ _ cap z l hl hn hc hlim =>
            refine ⟨.pointer (some (Addr.add ⟨l.blk, off, none⟩ (j.toNat * ti.size))), ?_, by rw [add_none]; exact .ptr _ _ l hl⟩
            simp [Instr.indexAt, run_asIntOf, run_underlying hu, run_size' hti, hj, Result.andThen]
        · cases hv
      · cases hv
    · cases hv
  · rename_i n e hu
    split at hv
    · rename_i ti hti
      unfold idxA at hv
      split at hv
      · rename_i a off k j
        obtain rfl := hi.int_inv
        split at hv
        · rename_i hj
          cases hv
          cases hx with
          | lit _ e => simp [lit1] at e
          | ptr _ _ l hl =>
            refine ⟨.pointer (some (Addr.add ⟨l.blk, off, none⟩ (j.toNat * ti.size))), ?_, by rw [add_none]; exact .ptr _ _ l hl⟩
            simp [Instr.indexAt, run_asIntOf, run_underlying hu, run_size' hti, hj, Instr.sureAddr, Result.andThen]
        · cases hv
      · cases hv
    · cases hv
  · cases hv
theorem indexOp_sound {t : TypeId} {x x' i i' v : Value} (hx : VRel ρ x x') (hi : VRel ρ i i') (hv : indexOp P t x i = some v) (w : World) : ∃ v', (Instr.index t x' i').run P w = .ok v' w ∧ VRel ρ v v' := by
  unfold indexOp at hv
  split at hv
  · rename_i hu
    unfold idxT at hv
    split at hv
    · rename_i s k j
      obtain rfl := hi.int_inv
      obtain rfl := hx.string_inv
      split at hv
      · rename_i hj
        simp only [Option.map_eq_some_iff] at hv
        obtain ⟨b, e, rfl⟩ := hv
        exact ⟨_, by simp [Instr.index, run_asIntOf, run_underlying hu, hj, e, Result.andThen], .int _ _ _⟩
      · cases hv
    · cases hv
  · rename_i n e hu
    split at hv
    · rename_i ti g hti hg
      unfold idxV at hv
      split at hv
      · rename_i cs k j
        obtain rfl := hi.int_inv
        split at hv
        · rename_i hj
          cases hx with
          | lit _ e => simp [lit1] at e
          | agg _ cs' hs hc =>
            obtain ⟨v', e, r⟩ := partV_sound hg hti (LRel.of_array hs hc) hv w
            exact ⟨v', by simp [Instr.index, run_asIntOf, run_underlying hu, run_size' hti, hj, e, Result.andThen], r⟩
        · cases hv
      · cases hv
    · cases hv
  · cases hv
end
end Go.Abs
