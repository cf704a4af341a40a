/- Maps: made, written, asked, cleared. -/
import Derived.Test.YtdgonebknphkcaaAbsK
set_option linter.unusedSimpArgs false
set_option linter.unusedVariables false
namespace Go.Abs
open Go.RowKit (Below)

section
variable {P : Program} {B : Nat} {w0 w : World} {ρ : Rho} {h : St}

/-- The world with another object in a block. -/
def withObj (w : World) (r : Nat) (o : Obj) : World := { w with heap := w.heap.setIfInBounds r o }
theorem run_setObj_map (w : World) {r : Nat} {es : Array MapEntry} {c : Nat} (hr : w.heap[r]? = some (.map es c)) (o : Obj) : (setObj r o).run P w = .ok () (withObj w r o) := by
  simp [setObj, Sem.run, hr, withObj]
theorem run_getObj_map (w : World) {r : Nat} {es : Array MapEntry} {c : Nat} (hr : w.heap[r]? = some (.map es c)) : (getObj r).run P w = .ok (.map es c) w := by
  simp [getObj, Sem.run, hr]
/-- A map's object behind a value. -/
theorem HRel.mapAt (H : HRel P B w0 ρ h w) {r : Nat} {es : List MapEntry} {c : Nat} (ho : h.objs r = some (.map es c)) {m' : Value} (hm : VRel ρ (.map (some r)) m') :
    ∃ l es', ρ r = some l ∧ m' = .map (some l.blk) ∧ l.own = true ∧ B ≤ l.blk ∧ w.heap[l.blk]? = some (.map es' c) ∧ MRel ρ es es'.toList := by
  obtain ⟨l, hl, hown, hB, es', hblk, hes⟩ := H.obj _ _ ho
  cases hm with
  | lit _ e => simp [lit1] at e
  | map _ l' hl' =>
    have : l' = l := by rw [hl] at hl'; exact (Option.some.inj hl').symm
    subst this
    exact ⟨l', es', hl, rfl, hown, hB, hblk, hes⟩
theorem HRel.setMap (H : HRel P B w0 ρ h w) {r : Nat} {es es2 : List MapEntry} {c c2 : Nat} {es' es2' : Array MapEntry} {l : Loc} (ho : h.objs r = some (.map es c)) (hl : ρ r = some l) (hown : l.own = true) (hB : B ≤ l.blk)
    (hblk : w.heap[l.blk]? = some (.map es' c)) (h2 : MRel ρ es2 es2'.toList) : HRel P B w0 ρ (h.set r (.map es2 c2)) (withObj w l.blk (.map es2' c2)) := by
  have hlt : l.blk < w.heap.size := (Array.getElem?_eq_some_iff.1 hblk).1
  refine H.set ho hl hown hB rfl rfl rfl (by simp [withObj]) (fun q _ hq => by simp [withObj, Array.getElem?_setIfInBounds, Ne.symm hq]) ⟨hown, hB, es2', ?_, h2⟩
  simp [withObj, Array.getElem?_setIfInBounds, hlt]
theorem makeMap_sound (H : HRel P B w0 ρ h w) {t : TypeId} {k : Cont} (hk : makeMapE h k) : Post P B w0 ρ k ((do pure (.value (← Instr.makeMap t none)) : Sem Next).run P w) := by
  have : (do pure (.value (← Instr.makeMap t none)) : Sem Next).run P w = .ok (.value (.map (some w.heap.size))) (w.alloc (.map #[] 0)) := by
    simp [Instr.makeMap, Result.andThen]
  rw [this]
  refine ⟨_, _, ρ.push h.next ⟨w.heap.size, 0, true⟩, hk, H.fresh _, H.push _ _ _ rfl ⟨rfl, H.size, #[], heap_alloc_new w _, .nil⟩, .map h.next ⟨w.heap.size, 0, true⟩ (by simp [Rho.push])⟩
theorem MRel.get {es es' : List MapEntry} (hr : MRel ρ es es') {i : Nat} {e : MapEntry} (hi : es[i]? = some e) : ∃ e', es'[i]? = some e' ∧ ERel ρ e e' := by
  induction hr generalizing i with
  | nil => simp at hi
  | cons hh _ ih => cases i with
    | zero => simp at hi; subst hi; exact ⟨_, rfl, hh⟩
    | succ i => simpa using ih (by simpa using hi)
theorem MRel.modify {es es' : List MapEntry} (hr : MRel ρ es es') (i : Nat) {f f' : MapEntry → MapEntry} (hf : ∀ e e', es[i]? = some e → es'[i]? = some e' → ERel ρ e e' → ERel ρ (f e) (f' e')) : MRel ρ (es.modify i f) (es'.modify i f') := by
  induction hr generalizing i with
  | nil => simpa using MRel.nil
  | cons hh t ih => cases i with
    | zero => exact .cons (hf _ _ rfl rfl hh) t
    | succ i => exact .cons hh (ih i fun e e' h1 h2 h3 => hf e e' (by simpa using h1) (by simpa using h2) h3)
theorem MRel.snoc {es es' : List MapEntry} (hr : MRel ρ es es') {e e' : MapEntry} (hh : ERel ρ e e') : MRel ρ (es ++ [e]) (es' ++ [e']) := by
  induction hr with
  | nil => exact .cons hh .nil
  | cons h2 _ ih => exact .cons h2 ih
theorem MRel.erase {es es' : List MapEntry} (hr : MRel ρ es es') (i : Nat) : MRel ρ (es.eraseIdx i) (es'.eraseIdx i) := by
  induction hr generalizing i with
  | nil => simpa using MRel.nil
  | cons hh t ih => cases i with
    | zero => exact t
    | succ i => exact .cons hh (ih i)
theorem beq_bytes {a b : ByteArray} (h : (a == b) = true) : (b == a) = true := by
  rw [beq_toListBytes] at h ⊢
  rw [beq_iff_eq] at h ⊢
  exact h.symm
theorem eqOne_bits {a b : Value} (h : eqOne a b = some true) (n : Nat) : Instr.sameBits n b a = true := by
  cases a <;> cases b <;> simp [eqOne] at h
  · simp [Instr.sameBits, h]
  · simp [Instr.sameBits, h.1, h.2]
  · simp only [Instr.sameBits]; exact beq_bytes h
theorem eqCk_bits {c : Ck} {a b : Value} (h : eqCk c a b = some true) (n : Nat) : Instr.sameBits n b a = true := by
  cases c <;> cases a <;> cases b <;> simp [eqCk] at h
  · simp [Instr.sameBits, h]
  · simp [Instr.sameBits, h.1, h.2]
  · simp only [Instr.sameBits]; exact beq_bytes h
theorem eqAll_bits : ∀ {cs : List Ck} {a b : List Value}, eqAll cs a b = some true → ∀ n, b.length = a.length ∧ ((b.zip a).all fun (x, y) => Instr.sameBits n x y) = true
  | [], [], [], _, n => by simp
  | [], [], _ :: _, h, _ => by simp [eqAll] at h
  | [], _ :: _, [], h, _ => by simp [eqAll] at h
  | [], _ :: _, _ :: _, h, _ => by simp [eqAll] at h
  | _ :: _, [], [], h, _ => by simp [eqAll] at h
  | _ :: _, [], _ :: _, h, _ => by simp [eqAll] at h
  | _ :: _, _ :: _, [], h, _ => by simp [eqAll] at h
  | c :: cs, x :: a, y :: b, h, n => by
    simp only [eqAll] at h
    split at h
    · rename_i e
      obtain ⟨h1, h2⟩ := eqAll_bits h n
      simp [h1, eqCk_bits e n]
      simpa using h2
    · cases h
    · cases h
theorem findE_bits {k : Value} : ∀ {es : List MapEntry} {i j : Nat} {e : MapEntry}, findE k es i = some (some (j, e)) → ∀ n, Instr.sameBits n e.key k = true
  | [], i, j, e, h => by simp [findE] at h
  | a :: es, i, j, e, h => by
    simp only [findE] at h
    split at h
    · rename_i e1; cases h; exact eqOne_bits e1
    · exact findE_bits h
    · cases h
theorem findF_bits {ks : List Ck} {c : Array Value} : ∀ {es : List MapEntry} {i j : Nat} {e : MapEntry}, findF ks c.toList es i = some (some (j, e)) → ∀ n, Instr.sameBits (n + 1) e.key (.agg c) = true
  | [], i, j, e, h => by simp [findF] at h
  | a :: es, i, j, e, h => by
    simp only [findF] at h
    split at h
    · rename_i q hq
      split at h
      · rename_i e1
        cases h
        intro n
        obtain ⟨h1, h2⟩ := eqAll_bits e1 n
        rw [hq]
        simp only [Instr.sameBits, Bool.and_eq_true, beq_iff_eq]
        exact ⟨by simpa using h1, h2⟩
      · exact findF_bits h
      · cases h
    · cases h
theorem find_bits {m : KeyMode} {k : Value} {es : List MapEntry} {i : Nat} {e : MapEntry} (h : find m k es = some (some (i, e))) : Instr.sameBits 10000 e.key k = true := by
  unfold find at h
  split at h
  · split at h
    · exact findE_bits h _
    · cases h
  · exact findE_bits h _
  · exact findE_bits h _
  · split at h
    · exact findF_bits h 9999
    · cases h
  · cases h
theorem run_keyThatStays {old new : Value} (h : Instr.sameBits 10000 old new = true) (w : World) : (Instr.keyThatStays old new).run P w = .ok new w := by
  simp [Instr.keyThatStays, h]

theorem mapUpdate_sound (H : HRel P B w0 ρ h w) {t : TypeId} {m m' x x' v v' : Value} (hm : VRel ρ m m') (hx : VRel ρ x x') (hv : VRel ρ v v') {k : Cont} (hk : mapUpdateOp P t m x v h k) :
    Post P B w0 ρ k ((do Instr.mapUpdate t m' x' v'; pure .skip : Sem Next).run P w) := by
  unfold mapUpdateOp at hk
  split at hk
  · rename_i key el hu
    unfold mapUpdateE at hk
    split at hk
    · rename_i r
      split at hk
      · rename_i es clock ho
        obtain ⟨l, es', hl, rfl, hown, hB, hblk, hes⟩ := H.mapAt ho hm
        split at hk
        · rename_i i e e1
          obtain ⟨rfl, hc, r', h1, h2⟩ := find_sound (P := P) hx hes e1 false w
          cases r' with
          | none => simp [Found] at h2
          | some jv =>
            obtain ⟨j, vv⟩ := jv
            obtain ⟨rfl, e', h4, h5, h6⟩ := h2
            have hbits := find_bits e1
            rw [h6.1] at hbits
            have he' : es'[i]? = some e' := by simpa using h4
            have : (do Instr.mapUpdate t (.map (some l.blk)) x' v'; pure .skip : Sem Next).run P w = .ok .skip (withObj w l.blk (.map (es'.modify i fun e => { e with key := x', val := v' }) clock)) := by
              simp only [Instr.mapUpdate, Sem.run_bind, run_underlying hu, Result.andThen, run_getObj_map w hblk, hc, h1, he', Option.map_some, Option.getD_some, run_keyThatStays hbits, run_setObj_map w hblk, Sem.run_pure]
            rw [this]
            refine ⟨_, ρ, hk, Rho.le.refl ρ, H.setMap ho hl hown hB hblk ?_⟩
            rw [Array.toList_modify]
            exact hes.modify i fun a b _ _ hab => ⟨rfl, hab.2.1, hv⟩
        · rename_i e1
          obtain ⟨rfl, hc, r', h1, h2⟩ := find_sound (P := P) hx hes e1 false w
          have hr : r' = none := by cases r' <;> simp [Found] at h2 ⊢
          subst hr
          have : (do Instr.mapUpdate t (.map (some l.blk)) x' v'; pure .skip : Sem Next).run P w = .ok .skip (withObj w l.blk (.map (es'.push { key := x', val := v', born := clock }) (clock + 1))) := by
            simp only [Instr.mapUpdate, Sem.run_bind, run_underlying hu, Result.andThen, run_getObj_map w hblk, hc, h1, run_setObj_map w hblk, Sem.run_pure]
          rw [this]
          refine ⟨_, ρ, hk, Rho.le.refl ρ, H.setMap ho hl hown hB hblk ?_⟩
          rw [Array.toList_push]
          exact hes.snoc ⟨rfl, rfl, hv⟩
        · exact hk.elim
      · exact hk.elim
    · exact hk.elim
  · exact hk.elim
theorem mapEntry_sound (H : HRel P B w0 ρ h w) {t : TypeId} {m m' x x' : Value} (hm : VRel ρ m m') (hx : VRel ρ x x') {k : Cont} (hk : mapEntryOp P t m x h k) :
    Post P B w0 ρ k ((do pure (.value (← Instr.mapEntry t m' x')) : Sem Next).run P w) := by
  unfold mapEntryOp at hk
  split at hk
  · rename_i key el hu
    split at hk
    · rename_i z hz
      obtain ⟨hz1, hz2⟩ := zeroV_spec hz w
      unfold mapEntryE at hk
      split at hk
      · rename_i r
        split at hk
        · rename_i es clock ho
          obtain ⟨l, es', hl, rfl, hown, hB, hblk, hes⟩ := H.mapAt ho hm
          split at hk
          · rename_i i e e1
            obtain ⟨rfl, hc, r', h1, h2⟩ := find_sound (P := P) hx hes e1 false w
            cases r' with
            | none => simp [Found] at h2
            | some jv =>
              obtain ⟨j, vv⟩ := jv
              obtain ⟨rfl, e', h4, rfl, h6⟩ := h2
              have hbits := find_bits e1
              rw [h6.1] at hbits
              have he' : es'[i]? = some e' := by simpa using h4
              have : (do pure (.value (← Instr.mapEntry t (.map (some l.blk)) x')) : Sem Next).run P w = .ok (.value (.tuple #[e'.val, goInt e'.born])) (withObj w l.blk (.map (es'.modify i fun e => { e with key := x' }) clock)) := by
                simp only [Instr.mapEntry, Sem.run_bind, run_underlying hu, Result.andThen, run_getObj_map w hblk, hc, h1, he', Option.map_some, Option.getD_some, run_keyThatStays hbits, run_setObj_map w hblk, Sem.run_pure]
              rw [this]
              refine ⟨_, _, ρ, hk, Rho.le.refl ρ, H.setMap ho hl hown hB hblk ?_, ?_⟩
              · rw [Array.toList_modify]
                refine hes.modify i fun a b ha hb hab => ⟨rfl, hab.2.1, ?_⟩
                obtain ⟨e'', g1, g2⟩ := hes.get ha
                have hbe : b = e' := by rw [hb] at h4; exact Option.some.inj h4
                subst hbe
                exact h6.2.2
              · rw [h6.2.1]
                exact VRel.tupleL (l := [e.val, .int .i64 e'.born]) (a' := #[e'.val, goInt e'.born]) (.cons h6.2.2 (.cons (.int _ _ _) .nil))
          · rename_i e1
            obtain ⟨rfl, hc, r', h1, h2⟩ := find_sound (P := P) hx hes e1 false w
            have hr : r' = none := by cases r' <;> simp [Found] at h2 ⊢
            subst hr
            have : (do pure (.value (← Instr.mapEntry t (.map (some l.blk)) x')) : Sem Next).run P w = .ok (.value (.tuple #[z, goInt clock])) (withObj w l.blk (.map (es'.push { key := x', val := z, born := clock }) (clock + 1))) := by
              simp only [Instr.mapEntry, Sem.run_bind, run_underlying hu, Result.andThen, run_getObj_map w hblk, hc, h1, hz1, run_setObj_map w hblk, Sem.run_pure]
            rw [this]
            refine ⟨_, _, ρ, hk, Rho.le.refl ρ, H.setMap ho hl hown hB hblk ?_, ?_⟩
            · rw [Array.toList_push]
              exact hes.snoc ⟨rfl, rfl, VRel.of_lit hz2⟩
            · exact VRel.tupleL (l := [z, .int .i64 clock]) (a' := #[z, goInt clock]) (.cons (VRel.of_lit hz2) (.cons (.int _ _ _) .nil))
          · exact hk.elim
        · exact hk.elim
      · exact hk.elim
    · exact hk.elim
  · exact hk.elim
theorem MRel.findIdx {es es' : List MapEntry} (hr : MRel ρ es es') (b : Int) : es'.findIdx? (fun e => (e.born : Int) == b) = es.findIdx? (fun e => (e.born : Int) == b) := by
  induction hr with
  | nil => rfl
  | cons hh _ ih => simp only [List.findIdx?_cons, hh.2.1, ih]
theorem entryStore_sound (H : HRel P B w0 ρ h w) {t : TypeId} {m m' s s' x x' : Value} (hm : VRel ρ m m') (hs : VRel ρ s s') (hx : VRel ρ x x') {k : Cont} (hk : entryStoreE m s x h k) :
    Post P B w0 ρ k ((do Instr.entryStore t m' s' x'; pure .skip : Sem Next).run P w) := by
  unfold entryStoreE at hk
  split at hk
  · rename_i r q b
    obtain rfl := hs.int_inv
    split at hk
    · rename_i es clock ho
      obtain ⟨l, es', hl, rfl, hown, hB, hblk, hes⟩ := H.mapAt ho hm
      split at hk
      · rename_i i hi
        have hi' : es'.findIdx? (fun e => (e.born : Int) == b) = some i := by
          have h0 := (hes.findIdx b).trans hi
          obtain ⟨l0⟩ := es'
          simpa using h0
        have : (do Instr.entryStore t (.map (some l.blk)) (.int q b) x'; pure .skip : Sem Next).run P w = .ok .skip (withObj w l.blk (.map (es'.modify i fun e => { e with val := x' }) clock)) := by
          have ha : (asInt (.int q b)).run P w = .ok b w := rfl
          simp only [Instr.entryStore, Sem.run_bind, Result.andThen, run_getObj_map w hblk, ha, hi', run_setObj_map w hblk, Sem.run_pure]
        rw [this]
        refine ⟨_, ρ, hk, Rho.le.refl ρ, H.setMap ho hl hown hB hblk ?_⟩
        rw [Array.toList_modify]
        exact hes.modify i fun a b _ _ hab => ⟨hab.1, hab.2.1, hx⟩
      · exact hk.elim
    · exact hk.elim
  · exact hk.elim
end
end Go.Abs
