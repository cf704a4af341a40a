/- What the abstract machine's writing operations do, the machine does. | Maps: made, written, asked, cleared. | Slices made, appended to; entries struck; calls. | What the abstract machine's append does, the machine does. | What the abstract machine's copying, clearing and ranging over maps do, the machine does. | What the abstract machine's operations do, the machine does: all of them. | What the abstract machine does in a statement whose order is the text's, the machine does. | What the abstract machine does in a body, the machine does. | Towards statements whose order Go leaves open: what an operation looks at, what waits for what, that something comes of every doing. | Statements whose order Go leaves open: an abstract walk through every order. -/
import Derived.Test.YtfghmaheokgceaaGreatDoorMA
import Derived.Lib.ConvBytes
import Derived.Deep.AppendSrc
import Derived.Deep.Upon
import Derived.Lib.AppendZeros
import Derived.Lib.AppendZerosOnto
import Derived.Maps.RangeRun
import Derived.LoopN
section
set_option linter.unusedSimpArgs false
set_option linter.unusedVariables false
namespace Go.Abs
open Go.RowKit (Below)

/-- What is asked of an operation's outcome. -/
def Post (P : Program) (B : Nat) (w0 : World) (ρ : Rho) (k : Cont) : Result Next → Prop
  | .ok (.value v') w' => ∃ v h' ρ', k v h' ∧ ρ.le ρ' ∧ HRel P B w0 ρ' h' w' ∧ VRel ρ' v v'
  | .ok .skip w' => ∃ h' ρ', k undef h' ∧ ρ.le ρ' ∧ HRel P B w0 ρ' h' w'
  | .ok (.enter f args) w' => Calls P f args w' fun e w'' => ∃ v v' h' ρ', e = .returned v' ∧ k v h' ∧ ρ.le ρ' ∧ HRel P B w0 ρ' h' w'' ∧ VRel ρ' v v'
  | _ => False

section
variable {P : Program} {B : Nat} {w0 w : World} {ρ : Rho} {h : St}

theorem HRel.newCells (H : HRel P B w0 ρ h w) {cs : List Value} {arr : Array Value} (ty : TypeId) (hlen : cs.length ≤ arr.size) (hcs : LRel ρ cs (arr.toList.take cs.length)) (hone : cs.all one = true) :
    ρ.le (ρ.push h.next ⟨w.heap.size, arr.size, true⟩) ∧ HRel P B w0 (ρ.push h.next ⟨w.heap.size, arr.size, true⟩) (h.push (.cells cs true)) (w.alloc (.cells arr ty)) :=
  ⟨H.fresh _, H.push _ _ _ rfl ⟨rfl, fun _ => ⟨H.size, hone⟩, arr, ty, (0, 0), heap_alloc_new w _, fun _ => ⟨rfl, rfl⟩, hlen, hcs.mono (H.fresh _)⟩⟩
theorem HRel.newPtr (H : HRel P B w0 ρ h w) {cs : List Value} {arr : Array Value} (ty : TypeId) (hcs : LRel ρ cs arr.toList) (hone : cs.all one = true) {k : Cont}
    (hk : k (.pointer (some ⟨h.next, 0, none⟩)) (h.push (.cells cs true))) : Post P B w0 ρ k (.ok (.value (.pointer (some ⟨w.heap.size, 0, none⟩))) (w.alloc (.cells arr ty))) := by
  have hl := hcs.length
  have hl' : cs.length = arr.size := by simpa using hl
  obtain ⟨h1, h2⟩ := H.newCells (cs := cs) (arr := arr) ty (by omega) (by rw [hl', ← Array.length_toList, List.take_length]; exact hcs) hone
  exact ⟨_, _, _, hk, h1, h2, .ptr h.next 0 ⟨w.heap.size, arr.size, true⟩ (by simp [Rho.push])⟩
theorem lit1_one {v : Value} (h : lit1 v = true) : one v = true := by cases v <;> simp [lit1] at h <;> rfl
theorem all_lit1_one {l : List Value} (h : l.all lit1 = true) : l.all one = true := by
  simp only [List.all_eq_true] at h ⊢
  exact fun x hx => lit1_one (h x hx)
theorem one_known {v : Value} (h : v.cells.toList.all one = true) : v ≠ unk := by
  intro e; subst e; simp [unk, Value.cells, one] at h

theorem alloc_sound (H : HRel P B w0 ρ h w) {t : TypeId} {k : Cont} (hk : allocE (zeroOf P t) h k) : Post P B w0 ρ k ((do pure (.value (← Instr.alloc t true (.tuple #[]))) : Sem Next).run P w) := by
  unfold allocE at hk
  split at hk
  · rename_i cs hz
    obtain ⟨i, v, hi, hz1, rfl, hz3, hz4⟩ := zeroOf_spec hz
    have : (do pure (.value (← Instr.alloc t true (.tuple #[]))) : Sem Next).run P w = .ok (.value (.pointer (some ⟨w.heap.size, 0, none⟩))) (w.alloc (.cells v.cells t)) := by
      simp [Instr.alloc, hz4, Result.andThen, newVar, newRow]
    rw [this]
    exact H.newPtr t (LRel.refl hz3) (all_lit1_one hz3) hk
  · exact hk.elim
theorem box_sound (H : HRel P B w0 ρ h w) {t : TypeId} {x x' : Value} (hx : VRel ρ x x') {k : Cont} (hk : boxE x h k) : Post P B w0 ρ k ((do pure (.value (← Instr.box t x')) : Sem Next).run P w) := by
  obtain ⟨h1, h2⟩ := hk
  have : (do pure (.value (← Instr.box t x')) : Sem Next).run P w = .ok (.value (.pointer (some ⟨w.heap.size, 0, none⟩))) (w.alloc (.cells x'.cells t)) := by
    simp [Instr.box, Result.andThen, newVar, newRow]
  rw [this]
  exact H.newPtr t (hx.cells (one_known h1)) h1 h2
theorem one_oneCell {v : Value} : v.oneCell' = one v := by cases v <;> rfl
theorem take_three {A X D : List Value} {a b n : Nat} (ha : A.length = a) (hb : X.length = b) (hn : a + b ≤ n) : (A ++ X ++ D).take n = A ++ X ++ D.take (n - (a + b)) := by
  rw [List.take_append, List.take_of_length_le (by rw [List.length_append, ha, hb]; exact hn), List.length_append, ha, hb]
theorem store_sound (H : HRel P B w0 ρ h w) {t : TypeId} {a a' x x' : Value} (ha : VRel ρ a a') (hx : VRel ρ x x') {k : Cont} (hk : storeOp P t a x h k) :
    Post P B w0 ρ k ((do Instr.storeAt t a' x'; pure .skip : Sem Next).run P w) := by
  unfold storeOp at hk
  split at hk
  · rename_i i hi
    unfold storeE at hk
    split at hk
    · rename_i id off
      split at hk
      · rename_i cs ho
        obtain ⟨⟨h1, h2, h3⟩, h4⟩ := hk
        obtain ⟨l, hl, hown, hB, arr, ty, fr, hblk, hfr, hlen, hcs⟩ := H.obj _ _ ho
        obtain ⟨hB1, hB2⟩ := hB rfl
        obtain ⟨rfl, hlim⟩ := hfr rfl
        cases ha with
        | lit _ e => simp [lit1] at e
        | ptr _ _ l' hl' =>
          have : l' = l := by rw [hl] at hl'; exact (Option.some.inj hl').symm
          subst this
          have hxc := hx.cells (one_known h3)
          have hxl := hxc.length
          have hxs : x'.cells.size = i.size := by rw [← h1]; simpa using hxl.symm
          have hone := hxc.one h3
          have hrun := run_storeCells_at P l'.blk off ty x'.cells.toList 0 arr w hblk (by simp; omega) (by
            intro v hv; rw [one_oneCell]; exact List.all_eq_true.1 hone v hv)
          have : (do Instr.storeAt t (.pointer (some ⟨l'.blk, off, none⟩)) x'; pure .skip : Sem Next).run P w = .ok .skip (w.setRow l'.blk (arr.toList.take off ++ x'.cells.toList ++ arr.toList.drop (off + x'.cells.size)).toArray) := by
            simp only [Instr.storeAt, Instr.sureAddr, storeVar, Sem.run_bind, Sem.run_pure, Result.andThen, run_size' hi, hxs, ne_eq, not_true_eq_false, if_false]
            simp only [Nat.add_zero] at hrun
            rw [hrun]
            simp [hxs]
          rw [this]
          refine ⟨_, ρ, h4, Rho.le.refl ρ, H.set ho hl hown.symm hB1 rfl rfl rfl (by simp [World.setRow]) (fun q _ hq => setRow_other w l'.blk q _ hq) ?_⟩
          have hfull : (arr.toList.take off ++ x'.cells.toList ++ arr.toList.drop (off + x'.cells.size)).length = arr.size := by
            simp only [List.length_append, List.length_take, List.length_drop, Array.length_toList]; omega
          have hnew : (cs.take off ++ x.cells.toList ++ cs.drop (off + i.size)).length = cs.length := by
            simp only [List.length_append, List.length_take, List.length_drop, Array.length_toList]; omega
          refine ⟨hown, fun _ => ⟨hB1, ?_⟩, _, ty, (0, 0), setRow_heap w l'.blk arr _ ty _ hblk, fun _ => ⟨rfl, by simp only [List.size_toArray, hfull]; exact hlim⟩, by simp only [List.size_toArray, hfull, hnew]; exact hlen, ?_⟩
          · simp only [List.all_append, Bool.and_eq_true]
            simp only [List.all_eq_true] at hB2 h3 ⊢
            exact ⟨⟨fun v hv => hB2 v (List.mem_of_mem_take hv), h3⟩, fun v hv => hB2 v (List.mem_of_mem_drop hv)⟩
          · rw [hnew]
            simp only [List.toList_toArray]
            have e : (arr.toList.take off ++ x'.cells.toList ++ arr.toList.drop (off + x'.cells.size)).take cs.length = (arr.toList.take cs.length).take off ++ x'.cells.toList ++ (arr.toList.take cs.length).drop (off + i.size) := by
              have t1 : (arr.toList.take off).length = off := by simp only [List.length_take, Array.length_toList]; omega
              rw [take_three (a := off) (b := i.size) t1 (by simpa using hxs) (by omega), hxs, List.take_take, Nat.min_eq_left (by omega), List.drop_take]
            rw [e]
            exact ((hcs.take off).append hxc).append (hcs.drop (off + i.size))
      · exact hk.elim
    · exact hk.elim
  · exact hk.elim
end
end Go.Abs
end

section
set_option linter.unusedSimpArgs false
set_option linter.unusedVariables false
namespace Go.Abs
open Go.RowKit (Below)

section
variable {P : Program} {B : Nat} {w0 w : World} {ρ : Rho} {h : St}

/-- The world with another object in a block. -/
def withObj (w : World) (r : Nat) (o : Obj) : World := { w with heap := w.heap.setIfInBounds r o }
theorem run_setObj_map (w : World) {r : Nat} {es : Array MapEntry} {c : Nat} (hr : w.heap[r]? = some (.map es c)) (o : Obj) : (setObj r o).run P w = .ok () (withObj w r o) := by
  simp [setObj, Sem.run, hr, withObj]
theorem run_getObj_map (w : World) {r : Nat} {es : Array MapEntry} {c : Nat} (hr : w.heap[r]? = some (.map es c)) : (getObj r).run P w = .ok (.map es c) w := by
  simp [getObj, Sem.run, hr]
/-- A map's object behind a value. -/
theorem HRel.mapAt (H : HRel P B w0 ρ h w) {r : Nat} {es : List MapEntry} {c : Nat} (ho : h.objs r = some (.map es c)) {m' : Value} (hm : VRel ρ (.map (some r)) m') :
    ∃ l es', ρ r = some l ∧ m' = .map (some l.blk) ∧ l.own = true ∧ B ≤ l.blk ∧ w.heap[l.blk]? = some (.map es' c) ∧ MRel ρ es es'.toList := by
  obtain ⟨l, hl, hown, hB, es', hblk, hes⟩ := H.obj _ _ ho
  cases hm with
  | lit _ e => simp [lit1] at e
  | map _ l' hl' =>
    have : l' = l := by rw [hl] at hl'; exact (Option.some.inj hl').symm
    subst this
    exact ⟨l', es', hl, rfl, hown, hB, hblk, hes⟩
theorem HRel.setMap (H : HRel P B w0 ρ h w) {r : Nat} {es es2 : List MapEntry} {c c2 : Nat} {es' es2' : Array MapEntry} {l : Loc} (ho : h.objs r = some (.map es c)) (hl : ρ r = some l) (hown : l.own = true) (hB : B ≤ l.blk)
    (hblk : w.heap[l.blk]? = some (.map es' c)) (h2 : MRel ρ es2 es2'.toList) : HRel P B w0 ρ (h.set r (.map es2 c2)) (withObj w l.blk (.map es2' c2)) := by
  have hlt : l.blk < w.heap.size := (Array.getElem?_eq_some_iff.1 hblk).1
  refine H.set ho hl hown hB rfl rfl rfl (by simp [withObj]) (fun q _ hq => by simp [withObj, Array.getElem?_setIfInBounds, Ne.symm hq]) ⟨hown, hB, es2', ?_, h2⟩
  simp [withObj, Array.getElem?_setIfInBounds, hlt]
theorem makeMap_sound (H : HRel P B w0 ρ h w) {t : TypeId} {k : Cont} (hk : makeMapE h k) : Post P B w0 ρ k ((do pure (.value (← Instr.makeMap t none)) : Sem Next).run P w) := by
  have : (do pure (.value (← Instr.makeMap t none)) : Sem Next).run P w = .ok (.value (.map (some w.heap.size))) (w.alloc (.map #[] 0)) := by
    simp [Instr.makeMap, Result.andThen]
  rw [this]
  refine ⟨_, _, ρ.push h.next ⟨w.heap.size, 0, true⟩, hk, H.fresh _, H.push _ _ _ rfl ⟨rfl, H.size, #[], heap_alloc_new w _, .nil⟩, .map h.next ⟨w.heap.size, 0, true⟩ (by simp [Rho.push])⟩
theorem MRel.get {es es' : List MapEntry} (hr : MRel ρ es es') {i : Nat} {e : MapEntry} (hi : es[i]? = some e) : ∃ e', es'[i]? = some e' ∧ ERel ρ e e' := by
  induction hr generalizing i with
  | nil => simp at hi
  | cons hh _ ih => cases i with
    | zero => simp at hi; subst hi; exact ⟨_, rfl, hh⟩
    | succ i => simpa using ih (by simpa using hi)
theorem MRel.modify {es es' : List MapEntry} (hr : MRel ρ es es') (i : Nat) {f f' : MapEntry → MapEntry} (hf : ∀ e e', es[i]? = some e → es'[i]? = some e' → ERel ρ e e' → ERel ρ (f e) (f' e')) : MRel ρ (es.modify i f) (es'.modify i f') := by
  induction hr generalizing i with
  | nil => simpa using MRel.nil
  | cons hh t ih => cases i with
    | zero => exact .cons (hf _ _ rfl rfl hh) t
    | succ i => exact .cons hh (ih i fun e e' h1 h2 h3 => hf e e' (by simpa using h1) (by simpa using h2) h3)
theorem MRel.snoc {es es' : List MapEntry} (hr : MRel ρ es es') {e e' : MapEntry} (hh : ERel ρ e e') : MRel ρ (es ++ [e]) (es' ++ [e']) := by
  induction hr with
  | nil => exact .cons hh .nil
  | cons h2 _ ih => exact .cons h2 ih
theorem MRel.erase {es es' : List MapEntry} (hr : MRel ρ es es') (i : Nat) : MRel ρ (es.eraseIdx i) (es'.eraseIdx i) := by
  induction hr generalizing i with
  | nil => simpa using MRel.nil
  | cons hh t ih => cases i with
    | zero => exact t
    | succ i => exact .cons hh (ih i)
theorem beq_bytes {a b : ByteArray} (h : (a == b) = true) : (b == a) = true := by
  rw [beq_toListBytes] at h ⊢
  rw [beq_iff_eq] at h ⊢
  exact h.symm
theorem eqOne_bits {a b : Value} (h : eqOne a b = some true) (n : Nat) : Instr.sameBits n b a = true := by
  cases a <;> cases b <;> simp [eqOne] at h
  · simp [Instr.sameBits, h]
  · simp [Instr.sameBits, h.1, h.2]
  · simp only [Instr.sameBits]; exact beq_bytes h
theorem eqCk_bits {c : Ck} {a b : Value} (h : eqCk c a b = some true) (n : Nat) : Instr.sameBits n b a = true := by
  cases c <;> cases a <;> cases b <;> simp [eqCk] at h
  · simp [Instr.sameBits, h]
  · simp [Instr.sameBits, h.1, h.2]
  · simp only [Instr.sameBits]; exact beq_bytes h
theorem eqAll_bits : ∀ {cs : List Ck} {a b : List Value}, eqAll cs a b = some true → ∀ n, b.length = a.length ∧ ((b.zip a).all fun (x, y) => Instr.sameBits n x y) = true
  | [], [], [], _, n => by simp
  | [], [], _ :: _, h, _ => by simp [eqAll] at h
  | [], _ :: _, [], h, _ => by simp [eqAll] at h
  | [], _ :: _, _ :: _, h, _ => by simp [eqAll] at h
  | _ :: _, [], [], h, _ => by simp [eqAll] at h
  | _ :: _, [], _ :: _, h, _ => by simp [eqAll] at h
  | _ :: _, _ :: _, [], h, _ => by simp [eqAll] at h
  | c :: cs, x :: a, y :: b, h, n => by
    simp only [eqAll] at h
    split at h
    · rename_i e
      obtain ⟨h1, h2⟩ := eqAll_bits h n
      simp [h1, eqCk_bits e n]
      simpa using h2
    · cases h
    · cases h
theorem findE_bits {k : Value} : ∀ {es : List MapEntry} {i j : Nat} {e : MapEntry}, findE k es i = some (some (j, e)) → ∀ n, Instr.sameBits n e.key k = true
  | [], i, j, e, h => by simp [findE] at h
  | a :: es, i, j, e, h => by
    simp only [findE] at h
    split at h
    · rename_i e1; cases h; exact eqOne_bits e1
    · exact findE_bits h
    · cases h
theorem findF_bits {ks : List Ck} {c : Array Value} : ∀ {es : List MapEntry} {i j : Nat} {e : MapEntry}, findF ks c.toList es i = some (some (j, e)) → ∀ n, Instr.sameBits (n + 1) e.key (.agg c) = true
  | [], i, j, e, h => by simp [findF] at h
  | a :: es, i, j, e, h => by
    simp only [findF] at h
    split at h
    · rename_i q hq
      split at h
      · rename_i e1
        cases h
        intro n
        obtain ⟨h1, h2⟩ := eqAll_bits e1 n
        rw [hq]
        simp only [Instr.sameBits, Bool.and_eq_true, beq_iff_eq]
        exact ⟨by simpa using h1, h2⟩
      · exact findF_bits h
      · cases h
    · cases h
theorem find_bits {m : KeyMode} {k : Value} {es : List MapEntry} {i : Nat} {e : MapEntry} (h : find m k es = some (some (i, e))) : Instr.sameBits 10000 e.key k = true := by
  unfold find at h
  split at h
  · split at h
    · exact findE_bits h _
    · cases h
  · exact findE_bits h _
  · exact findE_bits h _
  · split at h
    · exact findF_bits h 9999
    · cases h
  · cases h
theorem run_keyThatStays {old new : Value} (h : Instr.sameBits 10000 old new = true) (w : World) : (Instr.keyThatStays old new).run P w = .ok new w := by
  simp [Instr.keyThatStays, h]

theorem mapUpdate_sound (H : HRel P B w0 ρ h w) {t : TypeId} {m m' x x' v v' : Value} (hm : VRel ρ m m') (hx : VRel ρ x x') (hv : VRel ρ v v') {k : Cont} (hk : mapUpdateOp P t m x v h k) :
    Post P B w0 ρ k ((do Instr.mapUpdate t m' x' v'; pure .skip : Sem Next).run P w) := by
  unfold mapUpdateOp at hk
  split at hk
  · rename_i key el hu
    unfold mapUpdateE at hk
    split at hk
    · rename_i r
      split at hk
      · rename_i es clock ho
        obtain ⟨l, es', hl, rfl, hown, hB, hblk, hes⟩ := H.mapAt ho hm
        split at hk
        · rename_i i e e1
          obtain ⟨rfl, hc, r', h1, h2⟩ := find_sound (P := P) hx hes e1 false w
          cases r' with
          | none => simp [Found] at h2
          | some jv =>
            obtain ⟨j, vv⟩ := jv
            obtain ⟨rfl, e', h4, h5, h6⟩ := h2
            have hbits := find_bits e1
            rw [h6.1] at hbits
            have he' : es'[i]? = some e' := by simpa using h4
            have : (do Instr.mapUpdate t (.map (some l.blk)) x' v'; pure .skip : Sem Next).run P w = .ok .skip (withObj w l.blk (.map (es'.modify i fun e => { e with key := x', val := v' }) clock)) := by
              simp only [Instr.mapUpdate, Sem.run_bind, run_underlying hu, Result.andThen, run_getObj_map w hblk, hc, h1, he', Option.map_some, Option.getD_some, run_keyThatStays hbits, run_setObj_map w hblk, Sem.run_pure]
            rw [this]
            refine ⟨_, ρ, hk, Rho.le.refl ρ, H.setMap ho hl hown hB hblk ?_⟩
            rw [Array.toList_modify]
            exact hes.modify i fun a b _ _ hab => ⟨rfl, hab.2.1, hv⟩
        · rename_i e1
          obtain ⟨rfl, hc, r', h1, h2⟩ := find_sound (P := P) hx hes e1 false w
          have hr : r' = none := by cases r' <;> simp [Found] at h2 ⊢
          subst hr
          have : (do Instr.mapUpdate t (.map (some l.blk)) x' v'; pure .skip : Sem Next).run P w = .ok .skip (withObj w l.blk (.map (es'.push { key := x', val := v', born := clock }) (clock + 1))) := by
            simp only [Instr.mapUpdate, Sem.run_bind, run_underlying hu, Result.andThen, run_getObj_map w hblk, hc, h1, run_setObj_map w hblk, Sem.run_pure]
          rw [this]
          refine ⟨_, ρ, hk, Rho.le.refl ρ, H.setMap ho hl hown hB hblk ?_⟩
          rw [Array.toList_push]
          exact hes.snoc ⟨rfl, rfl, hv⟩
        · exact hk.elim
      · exact hk.elim
    · exact hk.elim
  · exact hk.elim
theorem mapEntry_sound (H : HRel P B w0 ρ h w) {t : TypeId} {m m' x x' : Value} (hm : VRel ρ m m') (hx : VRel ρ x x') {k : Cont} (hk : mapEntryOp P t m x h k) :
    Post P B w0 ρ k ((do pure (.value (← Instr.mapEntry t m' x')) : Sem Next).run P w) := by
  unfold mapEntryOp at hk
  split at hk
  · rename_i key el hu
    split at hk
    · rename_i z hz
      obtain ⟨hz1, hz2⟩ := zeroV_spec hz w
      unfold mapEntryE at hk
      split at hk
      · rename_i r
        split at hk
        · rename_i es clock ho
          obtain ⟨l, es', hl, rfl, hown, hB, hblk, hes⟩ := H.mapAt ho hm
          split at hk
          · rename_i i e e1
            obtain ⟨rfl, hc, r', h1, h2⟩ := find_sound (P := P) hx hes e1 false w
            cases r' with
            | none => simp [Found] at h2
            | some jv =>
              obtain ⟨j, vv⟩ := jv
              obtain ⟨rfl, e', h4, rfl, h6⟩ := h2
              have hbits := find_bits e1
              rw [h6.1] at hbits
              have he' : es'[i]? = some e' := by simpa using h4
              have : (do pure (.value (← Instr.mapEntry t (.map (some l.blk)) x')) : Sem Next).run P w = .ok (.value (.tuple #[e'.val, goInt e'.born])) (withObj w l.blk (.map (es'.modify i fun e => { e with key := x' }) clock)) := by
                simp only [Instr.mapEntry, Sem.run_bind, run_underlying hu, Result.andThen, run_getObj_map w hblk, hc, h1, he', Option.map_some, Option.getD_some, run_keyThatStays hbits, run_setObj_map w hblk, Sem.run_pure]
              rw [this]
              refine ⟨_, _, ρ, hk, Rho.le.refl ρ, H.setMap ho hl hown hB hblk ?_, ?_⟩
              · rw [Array.toList_modify]
                refine hes.modify i fun a b ha hb hab => ⟨rfl, hab.2.1, ?_⟩
                obtain ⟨e'', g1, g2⟩ := hes.get ha
                have hbe : b = e' := by rw [hb] at h4; exact Option.some.inj h4
                subst hbe
                exact h6.2.2
              · rw [h6.2.1]
                exact VRel.tupleL (l := [e.val, .int .i64 e'.born]) (a' := #[e'.val, goInt e'.born]) (.cons h6.2.2 (.cons (.int _ _ _) .nil))
          · rename_i e1
            obtain ⟨rfl, hc, r', h1, h2⟩ := find_sound (P := P) hx hes e1 false w
            have hr : r' = none := by cases r' <;> simp [Found] at h2 ⊢
            subst hr
            have : (do pure (.value (← Instr.mapEntry t (.map (some l.blk)) x')) : Sem Next).run P w = .ok (.value (.tuple #[z, goInt clock])) (withObj w l.blk (.map (es'.push { key := x', val := z, born := clock }) (clock + 1))) := by
              simp only [Instr.mapEntry, Sem.run_bind, run_underlying hu, Result.andThen, run_getObj_map w hblk, hc, h1, hz1, run_setObj_map w hblk, Sem.run_pure]
            rw [this]
            refine ⟨_, _, ρ, hk, Rho.le.refl ρ, H.setMap ho hl hown hB hblk ?_, ?_⟩
            · rw [Array.toList_push]
              exact hes.snoc ⟨rfl, rfl, VRel.of_lit hz2⟩
            · exact VRel.tupleL (l := [z, .int .i64 clock]) (a' := #[z, goInt clock]) (.cons (VRel.of_lit hz2) (.cons (.int _ _ _) .nil))
          · exact hk.elim
        · exact hk.elim
      · exact hk.elim
    · exact hk.elim
  · exact hk.elim
theorem MRel.findIdx {es es' : List MapEntry} (hr : MRel ρ es es') (b : Int) : es'.findIdx? (fun e => (e.born : Int) == b) = es.findIdx? (fun e => (e.born : Int) == b) := by
  induction hr with
  | nil => rfl
  | cons hh _ ih => simp only [List.findIdx?_cons, hh.2.1, ih]
theorem entryStore_sound (H : HRel P B w0 ρ h w) {t : TypeId} {m m' s s' x x' : Value} (hm : VRel ρ m m') (hs : VRel ρ s s') (hx : VRel ρ x x') {k : Cont} (hk : entryStoreE m s x h k) :
    Post P B w0 ρ k ((do Instr.entryStore t m' s' x'; pure .skip : Sem Next).run P w) := by
  unfold entryStoreE at hk
  split at hk
  · rename_i r q b
    obtain rfl := hs.int_inv
    split at hk
    · rename_i es clock ho
      obtain ⟨l, es', hl, rfl, hown, hB, hblk, hes⟩ := H.mapAt ho hm
      split at hk
      · rename_i i hi
        have hi' : es'.findIdx? (fun e => (e.born : Int) == b) = some i := by
          have h0 := (hes.findIdx b).trans hi
          obtain ⟨l0⟩ := es'
          simpa using h0
        have : (do Instr.entryStore t (.map (some l.blk)) (.int q b) x'; pure .skip : Sem Next).run P w = .ok .skip (withObj w l.blk (.map (es'.modify i fun e => { e with val := x' }) clock)) := by
          have ha : (asInt (.int q b)).run P w = .ok b w := rfl
          simp only [Instr.entryStore, Sem.run_bind, Result.andThen, run_getObj_map w hblk, ha, hi', run_setObj_map w hblk, Sem.run_pure]
        rw [this]
        refine ⟨_, ρ, hk, Rho.le.refl ρ, H.setMap ho hl hown hB hblk ?_⟩
        rw [Array.toList_modify]
        exact hes.modify i fun a b _ _ hab => ⟨hab.1, hab.2.1, hx⟩
      · exact hk.elim
    · exact hk.elim
  · exact hk.elim
end
end Go.Abs
end

section
set_option linter.unusedSimpArgs false
set_option linter.unusedVariables false
namespace Go.Abs
open Go.RowKit (Below)

section
variable {P : Program} {B : Nat} {w0 w : World} {ρ : Rho} {h : St}

theorem withObj_same {r : Nat} {o : Obj} (hr : w.heap[r]? = some o) : withObj w r o = w := by
  have : w.heap.setIfInBounds r o = w.heap := by
    apply Array.ext_getElem?
    intro i
    rw [Array.getElem?_setIfInBounds]
    split
    · rename_i e; subst e
      have hlt : r < w.heap.size := (Array.getElem?_eq_some_iff.1 hr).1
      rw [if_pos hlt, hr]
    · rfl
  simp [withObj, this]
theorem delete_sound (H : HRel P B w0 ρ h w) {t ty : TypeId} {ts : Array TypeId} {xs : Array Value} {m m' x x' : Value} (ht : ts[0]? = some t) (h0 : xs[0]? = some m') (h1 : xs[1]? = some x') (hm : VRel ρ m m') (hx : VRel ρ x x') {k : Cont}
    (hk : deleteOp P t m x h k) : Post P B w0 ρ k ((do pure (.value (← Builtin.delete_ ts ty xs)) : Sem Next).run P w) := by
  unfold deleteOp at hk
  split at hk
  · rename_i key el hu
    unfold deleteE at hk
    split at hk
    · obtain ⟨h2, h3⟩ := hk
      obtain ⟨m2, rfl, hm2⟩ := hm.map_inv
      obtain rfl := none_of_isNone hm2
      obtain ⟨r, hr⟩ := Option.isSome_iff_exists.1 h2
      obtain ⟨rfl, hc, _⟩ := find_sound (P := P) (ρ := ρ) hx .nil hr true w
      have : (do pure (.value (← Builtin.delete_ ts ty xs)) : Sem Next).run P w = .ok (.value (.tuple #[])) w := by
        simp only [Builtin.delete_, ht, h0, h1, Sem.run_bind, run_underlying hu, Result.andThen, hc, Sem.run_pure]
      rw [this]
      exact ⟨undef, h, ρ, h3, Rho.le.refl ρ, H, VRel.undef ρ⟩
    · rename_i r
      split at hk
      · rename_i es clock ho
        obtain ⟨l, es', hl, rfl, hown, hB, hblk, hes⟩ := H.mapAt ho hm
        split at hk
        · rename_i i e e1
          obtain ⟨rfl, hc, r', g1, g2⟩ := find_sound (P := P) hx hes e1 es'.isEmpty w
          cases r' with
          | none => simp [Found] at g2
          | some jv =>
            obtain ⟨j, vv⟩ := jv
            obtain ⟨rfl, e', h4, h5, h6⟩ := g2
            have : (do pure (.value (← Builtin.delete_ ts ty xs)) : Sem Next).run P w = .ok (.value (.tuple #[])) (withObj w l.blk (.map (es'.eraseIdxIfInBounds i) clock)) := by
              simp only [Builtin.delete_, ht, h0, h1, Sem.run_bind, run_underlying hu, Result.andThen, run_getObj_map w hblk, hc, g1, run_setObj_map w hblk, Sem.run_pure]
            rw [this]
            refine ⟨undef, _, ρ, hk, Rho.le.refl ρ, H.setMap ho hl hown hB hblk ?_, VRel.undef ρ⟩
            have he := hes.erase i
            obtain ⟨l0⟩ := es'
            simpa using he
        · rename_i e1
          obtain ⟨rfl, hc, r', g1, g2⟩ := find_sound (P := P) hx hes e1 es'.isEmpty w
          have hr : r' = none := by cases r' <;> simp [Found] at g2 ⊢
          subst hr
          have : (do pure (.value (← Builtin.delete_ ts ty xs)) : Sem Next).run P w = .ok (.value (.tuple #[])) w := by
            simp only [Builtin.delete_, ht, h0, h1, Sem.run_bind, run_underlying hu, Result.andThen, run_getObj_map w hblk, hc, g1, run_setObj_map w hblk, Sem.run_pure, withObj_same hblk]
          rw [this]
          exact ⟨undef, h, ρ, hk, Rho.le.refl ρ, H, VRel.undef ρ⟩
        · exact hk.elim
      · exact hk.elim
    · exact hk.elim
  · exact hk.elim

theorem rep_range (z : Array Value) : ∀ n : Nat, ((Array.range (n * z.size)).map (z[· % z.size]!)).toList = repL z.toList n
  | 0 => by simp [repL]
  | n + 1 => by
    have ih := rep_range z n
    simp only [Array.toList_map, Array.toList_range] at ih ⊢
    rw [Nat.succ_mul, Nat.add_comm, List.range_add, List.map_append, repL, List.map_map]
    congr 1
    · apply List.ext_getElem
      · simp
      · intro i h1 h2
        have hi : i < z.size := by simpa using h1
        simp [Nat.mod_eq_of_lt hi, hi]
    · rw [← ih]
      apply List.map_congr_left
      intro i _
      simp
theorem fillL_length : ∀ {l : List (Nat × Nat × Value)} {cs out : List Value}, fillL l cs = some out → out.length = cs.length
  | [], cs, out, h => by simp [fillL] at h; rw [h]
  | (off, n, v) :: r, cs, out, h => by
    simp only [fillL] at h
    split at h
    · rename_i hc
      rw [fillL_length h]
      have : v.cells.toList.length = n := by simpa using hc.1
      simp only [List.length_append, List.length_take, List.length_drop, this]
      omega
    · cases h
theorem repL_lit {z : List Value} (hz : z.all lit1 = true) : ∀ n, (repL z n).all lit1 = true
  | 0 => rfl
  | n + 1 => by simp only [repL, List.all_append, Bool.and_eq_true]; exact ⟨hz, repL_lit hz n⟩
theorem repL_length (z : List Value) : ∀ n, (repL z n).length = n * z.length
  | 0 => by simp [repL]
  | n + 1 => by simp only [repL, List.length_append, repL_length z n, Nat.succ_mul]; omega
theorem repL_nil : ∀ n, repL [] n = []
  | 0 => rfl
  | n + 1 => by simp [repL, repL_nil n]
theorem buildSlice_sound (H : HRel P B w0 ρ h w) {t : TypeId} {len : Nat} {parts : Array (Nat × Operand)} {ev ev' : Operand → Value} (hev : ∀ x, VRel ρ (ev x) (ev' x)) {k : Cont} (hk : buildSliceOp P t len parts ev h k) :
    Post P B w0 ρ k ((do pure (.value (← Instr.buildSlice t len (parts.map fun (i, x) => (i, ev' x)))) : Sem Next).run P w) := by
  unfold buildSliceOp at hk
  split at hk
  · rename_i e hu
    split at hk
    · rename_i i z hi hz
      split at hk
      · rename_i hc
        simp only [Bool.and_eq_true, Nat.ble_eq, Nat.beq_eq] at hc
        obtain ⟨⟨hc1, hc3⟩, hc2⟩ := hc
        obtain ⟨i2, zv, hi2, hz1, rfl, hz3, hz4⟩ := zeroOf_spec hz
        have hzs : zv.cells.size = i.size := by simpa using hc2
        unfold buildSliceE at hk
        split at hk
        · rename_i cs hf
          obtain ⟨h1, h2⟩ := hk
          obtain ⟨hkn, h3⟩ := h2
          have hstart : LRel ρ (repL zv.cells.toList len) ((Array.range (len * i.size)).map ((if len * i.size = 0 then #[] else zv.cells)[· % (if len * i.size = 0 then #[] else zv.cells : Array Value).size]!)).toList := by
            by_cases h0 : len * i.size = 0
            · simp only [h0, if_true]
              have : repL zv.cells.toList len = [] := by
                rcases Nat.mul_eq_zero.1 h0 with h | h
                · subst h; rfl
                · have hz0 : zv.cells.toList = [] := by apply List.eq_nil_of_length_eq_zero; simp [hzs, h]
                  rw [hz0, repL_nil]
              rw [this]; simpa using LRel.nil
            · simp only [if_neg h0]
              rw [← hzs, rep_range]
              exact LRel.refl (repL_lit hz3 len)
          obtain ⟨out', g1, g2⟩ := fillL_sound (partsV_rel (P := P) hev (elem := e) (n := i.size) parts.toList) (knownB_spec hkn) hstart hf
          have hrun : (do pure (.value (← Instr.buildSlice t len (parts.map fun (i, x) => (i, ev' x)))) : Sem Next).run P w = .ok (.value (.slice (some ⟨w.heap.size, 0, none⟩) len len)) (w.alloc (.cells out' e)) := by
            have hle : ¬ (len * i.size > 2 ^ 24) := by omega
            simp only [Instr.buildSlice, Sem.run_bind, run_underlying hu, run_size' hi, Result.andThen, if_neg hle, Array.toList_map]
            by_cases h0 : len * i.size = 0
            · simp only [if_pos h0] at g1 ⊢
              simp only [Sem.run_pure, g1, newRow, Sem.run_bind, run_newObj, Result.andThen]
              rfl
            · simp only [if_neg h0] at g1 ⊢
              simp only [Sem.run_bind, hz4, Sem.run_pure, Result.andThen, g1, newRow, run_newObj]
              rfl
          rw [hrun]
          have hl := g2.length
          have hol : cs.length = out'.size := by simpa using hl
          obtain ⟨q1, q2⟩ := H.newCells (cs := cs) (arr := out') e (by omega) (by rw [hol, ← Array.length_toList, List.take_length]; exact g2) h1
          refine ⟨_, _, _, h3, q1, q2, .owned h.next 0 len 0 len i.size ⟨w.heap.size, out'.size, true⟩ (by simp [Rho.push]) (Nat.le_refl _) ?_ ?_ (fun h => absurd rfl h)⟩
          · unfold maxLen; omega
          · have hsz := fillL_length hf
            rw [repL_length, hc2] at hsz
            show 0 + len * i.size ≤ out'.size
            omega
        · exact hk.elim
      · exact hk.elim
    · exact hk.elim
  · exact hk.elim
theorem makeSlice_sound (H : HRel P B w0 ρ h w) {t : TypeId} {l l' c c' : Value} (hl : VRel ρ l l') (hc : VRel ρ c c') {k : Cont} (hk : makeSliceOp P t l c h k) :
    Post P B w0 ρ k ((do pure (.value (← Instr.makeSlice t l' c')) : Sem Next).run P w) := by
  unfold makeSliceOp at hk
  split at hk
  · rename_i e hu
    split at hk
    · rename_i i z hi hz
      split at hk
      · rename_i hzl
        obtain ⟨i2, zv, hi2, hz1, rfl, hz3, hz4⟩ := zeroOf_spec hz
        have hzs : zv.cells.size = i.size := by simpa using hzl
        unfold makeSliceE at hk
        split at hk
        · rename_i kl nl kc nc
          obtain rfl := hl.int_inv
          obtain rfl := hc.int_inv
          obtain ⟨⟨h1, h2, h3, h4⟩, h5⟩ := hk
          have w1 : IntKind.i64.wrap nl = nl := by simp only [IntKind.wrap, IntKind.bits, IntKind.signed]; simp; omega
          have w2 : IntKind.i64.wrap nc = nc := by simp only [IntKind.wrap, IntKind.bits, IntKind.signed]; simp; omega
          have hlarge : ¬ (nc < 0) ∧ ¬ ((i.bytes : Int) * nc > 2 ^ 48) := by constructor; omega; rw [Int.mul_comm]; omega
          have hrun : (do pure (.value (← Instr.makeSlice t (.int kl nl) (.int kc nc))) : Sem Next).run P w = .ok (.value (.slice (some ⟨w.heap.size, 0, none⟩) nl.toNat nc.toNat)) (w.alloc (.cells ((Array.range (nc.toNat * zv.cells.size)).map (zv.cells[· % zv.cells.size]!)) e)) := by
            have a1 : (asInt (.int kl nl)).run P w = .ok nl w := rfl
            have a2 : (asInt (.int kc nc)).run P w = .ok nc w := rfl
            have ti : (typeInfo e).run P w = .ok i w := by simp [typeInfo, hi]
            have cond : ¬ ((decide (nc < 0) || decide ((i.bytes : Int) * nc > 2 ^ 48) || decide (nl < 0) || decide (nl > nc)) = true) := by
              simp only [Bool.or_eq_true, decide_eq_true_eq, not_or]
              exact ⟨⟨hlarge, by omega⟩, by omega⟩
            simp only [Instr.makeSlice, Sem.run_bind, run_underlying hu, Result.andThen, a1, a2, ti, w1, w2]
            rw [if_neg cond]
            simp only [run_askRoom, Sem.run_bind, Result.andThen, run_size' hi]
            by_cases h0 : nc.toNat * i.size = 0
            · simp only [if_pos h0, Sem.run_pure, newRow, Sem.run_bind, run_newObj, Result.andThen]
              have e0 : (Array.range (nc.toNat * i.size)).map ((#[] : Array Value)[· % (#[] : Array Value).size]!) = (Array.range (nc.toNat * zv.cells.size)).map (zv.cells[· % zv.cells.size]!) := by
                rw [hzs, h0]
                apply Array.ext
                · simp
                · intro j h1 h2
                  simp at h1
              rw [← e0]
              rfl
            · simp only [if_neg h0, Sem.run_bind, hz4, Sem.run_pure, Result.andThen, newRow, run_newObj, hzs]
              rfl
          rw [hrun]
          have hlist := rep_range zv.cells nc.toNat
          have hlen : (repL zv.cells.toList nc.toNat).length = nc.toNat * i.size := by rw [repL_length]; simp [hzs]
          obtain ⟨q1, q2⟩ := H.newCells (cs := repL zv.cells.toList nc.toNat) (arr := (Array.range (nc.toNat * zv.cells.size)).map (zv.cells[· % zv.cells.size]!)) e (by rw [hlen]; simp [hzs])
            (by rw [hlist, List.take_length]; exact LRel.refl (repL_lit hz3 _)) (all_lit1_one (repL_lit hz3 _))
          refine ⟨_, _, _, h5, q1, q2, .owned h.next 0 nl.toNat 0 nc.toNat i.size ⟨w.heap.size, ((Array.range (nc.toNat * zv.cells.size)).map (zv.cells[· % zv.cells.size]!)).size, true⟩ (by simp [Rho.push]) (by omega) (by unfold maxLen; omega) (by simp [hzs]) (fun h => absurd rfl h)⟩
        · exact hk.elim
      · exact hk.elim
    · exact hk.elim
  · exact hk.elim
theorem HRel.pushTo (H : HRel P B w0 ρ h w) {w' : World} (o : AObj) (l : Loc) (hb : l.blk = w.heap.size)
    (hos : w'.os = w.os) (htape : w'.tape = w.tape) (hout : w'.output = w.output) (hsize : w.heap.size ≤ w'.heap.size) (hblk : ∀ k, k < w.heap.size → w'.heap[k]? = w.heap[k]?)
    (ho : ORel (ρ.push h.next l) B o l w') : HRel P B w0 (ρ.push h.next l) (h.push o) w' := by
  have hle := H.fresh l
  have hsz := H.size
  refine ⟨⟨hos.trans H.below.os, htape.trans H.below.tape, hout.trans H.below.output, Nat.le_trans H.below.size hsize, fun k hk => ?_⟩, H.base, H.globs, ?_, ?_, ?_, ?_⟩
  · rw [hblk k (by omega)]
    exact H.below.block k hk
  · intro g hg
    obtain ⟨lg, h1, h2⟩ := H.old g hg
    exact ⟨lg, hle _ _ h1, h2⟩
  · intro i l' hi
    simp only [Rho.push] at hi
    show i < h.next + 1
    split at hi
    · omega
    · have := H.dom i l' hi; omega
  · intro i o' hi
    simp only [St.push] at hi
    split at hi
    · rename_i e; subst e
      cases hi
      exact ⟨l, by simp [Rho.push], ho⟩
    · obtain ⟨l', h1, h2⟩ := H.obj i o' hi
      exact ⟨l', hle _ _ h1, h2.keep hle (hblk l'.blk h2.lt)⟩
  · intro i j o1 o2 li lj h1 h2 h3 h4 h5 h6
    simp only [St.push] at h1 h2
    have key : ∀ k o', h.objs k = some o' → ∀ lk, (ρ.push h.next l) k = some lk → lk.blk < w.heap.size := by
      intro k o' hk lk hlk
      obtain ⟨l', e1, e2⟩ := H.obj k o' hk
      have : lk = l' := by have := hle _ _ e1; rw [this] at hlk; exact (Option.some.inj hlk).symm
      subst this
      exact e2.lt
    have top : ∀ lk, (ρ.push h.next l) h.next = some lk → lk = l := by intro lk hlk; simp [Rho.push] at hlk; exact hlk.symm
    split at h1
    · rename_i e; subst e
      have := top li h3; subst this
      split at h2
      · rename_i e; exact e.symm
      · have := key j o2 h2 lj h4; omega
    · split at h2
      · rename_i e; subst e
        have := top lj h4; subst this
        have := key i o1 h1 li h3; omega
      · obtain ⟨l1, e1, _⟩ := H.obj i o1 h1
        obtain ⟨l2, e2, _⟩ := H.obj j o2 h2
        have a1 := hle _ _ e1; rw [a1] at h3; cases h3
        have a2 := hle _ _ e2; rw [a2] at h4; cases h4
        exact H.sep i j o1 o2 _ _ h1 h2 e1 e2 h5 h6
theorem bytes_lit : ∀ l : List UInt8, (l.map fun b => Value.int .u8 b.toNat).all lit1 = true
  | [] => rfl
  | b :: r => by
    simp only [List.map_cons, List.all_cons, bytes_lit r, Bool.and_true]
    rfl
theorem toBytes_sound (H : HRel P B w0 ρ h w) {s d : TypeId} {x x' : Value} (hx : VRel ρ x x') (hs : ∃ u, P.underlying s = some u) {k : Cont} (hk : toBytesOp P d x h k) :
    Post P B w0 ρ k ((do pure (.value (← convert s d x')) : Sem Next).run P w) := by
  obtain ⟨u, hs⟩ := hs
  unfold toBytesOp at hk
  split at hk
  · rename_i e hd
    split at hk
    · rename_i he
      unfold toBytesE at hk
      split at hk
      · rename_i txt
        obtain rfl := hx.string_inv
        obtain ⟨h1, h2⟩ := hk
        have hrun : (do pure (.value (← convert s d (.string txt))) : Sem Next).run P w = .ok (.value (.slice (some ⟨w.heap.size, 0, none⟩) txt.size (grownCap w txt.size 0 e))) (Lib.bytesWorld w e txt) := by
          simp only [Sem.run_bind, Lib.run_convert_string_bytes w s d e txt hs hd he, Result.andThen, Sem.run_pure]
        rw [hrun]
        have hlen : (txt.data.toList.map fun b => Value.int .u8 b.toNat).length = txt.size := by simp
        have hn := Lib.bytesWorld_at_new w e txt
        have q := H.pushTo (w' := Lib.bytesWorld w e txt) (.cells (txt.data.toList.map fun b => Value.int .u8 b.toNat) false) ⟨w.heap.size, txt.size, false⟩ rfl rfl rfl rfl
          (by rw [Lib.bytesWorld_size]; omega) (fun k hk => Lib.bytesWorld_at_old w e txt k hk) ?_
        · refine ⟨_, _, _, h2, H.fresh _, q, .slice h.next 0 txt.size 0 (grownCap w txt.size 0 e) ⟨w.heap.size, txt.size, false⟩ (by simp [Rho.push]) rfl (grownCap_ge _ _ _ _) (grownCap_le_maxLen _ _ _ _ (by unfold maxLen; omega))⟩
        · refine ⟨rfl, (fun hf => by cases hf), Lib.bytesCells w e txt, e, _, hn, (fun hf => by cases hf), ?_, ?_⟩
          · rw [hlen]; simp [Lib.bytesCells]
          · rw [hlen]
            have : (Lib.bytesCells w e txt).toList.take txt.size = txt.data.toList.map fun b => Value.int .u8 b.toNat := by
              simp only [Lib.bytesCells, Array.toList_append, Array.toList_map]
              rw [List.take_append_of_le_length (by simp), List.take_of_length_le (by simp)]
            rw [this]
            exact LRel.refl (bytes_lit _)
      · exact hk.elim
    · exact hk.elim
  · exact hk.elim
end
end Go.Abs
end

section
set_option linter.unusedSimpArgs false
set_option linter.unusedVariables false
namespace Go.Abs
open Go.RowKit (Below)
section
variable {P : Program} {B : Nat} {w0 w : World} {ρ : Rho} {h : St}

/-- An object lives on under a new name; its old name is forgotten. -/
theorem HRel.move (H : HRel P B w0 ρ h w) {i : Nat} {o o' : AObj} {l : Loc} (hi : h.objs i = some o) (hl : ρ i = some l) (hown : l.own = true) (ho : ORel ρ B o' l w) :
    HRel P B w0 (ρ.push h.next l) ((h.kill i).push o') w := by
  have hle := H.fresh l
  have hobj : ∀ j q, ((h.kill i).push o').objs j = some q → (j = h.next ∧ q = o') ∨ (j ≠ h.next ∧ j ≠ i ∧ h.objs j = some q) := by
    intro j q hj
    have hj : (if j = h.next then some o' else if j = i then none else h.objs j) = some q := hj
    by_cases e : j = h.next
    · rw [if_pos e] at hj; exact .inl ⟨e, (Option.some.inj hj).symm⟩
    · rw [if_neg e] at hj
      by_cases e2 : j = i
      · rw [if_pos e2] at hj; cases hj
      · rw [if_neg e2] at hj; exact .inr ⟨e, e2, hj⟩
  have hat : ∀ j q, h.objs j = some q → ∀ lj, (ρ.push h.next l) j = some lj → ρ j = some lj := by
    intro j q hj lj hlj
    obtain ⟨l', e1, _⟩ := H.obj j q hj
    have := hle _ _ e1; rw [this] at hlj; cases hlj; exact e1
  have top : ∀ lk, (ρ.push h.next l) h.next = some lk → lk = l := by intro lk hlk; simp [Rho.push] at hlk; exact hlk.symm
  refine ⟨H.below, H.base, H.globs, ?_, ?_, ?_, ?_⟩
  · intro g hg
    obtain ⟨lg, h1, h2⟩ := H.old g hg
    exact ⟨lg, hle _ _ h1, h2⟩
  · intro j l' hj
    simp only [Rho.push] at hj
    show j < h.next + 1
    split at hj
    · omega
    · have := H.dom j l' hj; omega
  · intro j q hj
    rcases hobj j q hj with ⟨rfl, rfl⟩ | ⟨e1, e2, e3⟩
    · exact ⟨l, by simp [Rho.push], ho.keep hle rfl⟩
    · obtain ⟨l', h1, h2⟩ := H.obj j q e3
      exact ⟨l', hle _ _ h1, h2.keep hle rfl⟩
  · intro j k q q' lj lk h1 h2 h3 h4 h5 h6
    rcases hobj j q h1 with ⟨rfl, rfl⟩ | ⟨a1, a2, a3⟩
    · have := top lj h3; subst this
      rcases hobj k q' h2 with ⟨rfl, rfl⟩ | ⟨b1, b2, b3⟩
      · rfl
      · exact absurd (H.sep i k o q' lj lk hi b3 hl (hat k q' b3 lk h4) hown h6).symm b2
    · rcases hobj k q' h2 with ⟨rfl, rfl⟩ | ⟨b1, b2, b3⟩
      · have := top lk h4; subst this
        exact absurd (H.sep j i q o lj lk a3 hi (hat j q a3 lj h3) hl h5 h6) a2
      · exact H.sep j k q q' lj lk a3 b3 (hat j q a3 lj h3) (hat k q' b3 lk h4) h5 h6

theorem St.set_kill_push (h : St) (i : Nat) (o p : AObj) : ((h.set i o).kill i).push p = (h.kill i).push p := by
  unfold St.push
  congr 1
  funext j
  show (if j = h.next then some p else if j = i then none else if j = i then some o else h.objs j) = (if j = h.next then some p else if j = i then none else h.objs j)
  by_cases e : j = h.next
  · rw [if_pos e, if_pos e]
  · rw [if_neg e, if_neg e]
    by_cases e2 : j = i
    · rw [if_pos e2, if_pos e2]
    · rw [if_neg e2, if_neg e2, if_neg e2]
theorem newCells_src (H : HRel P B w0 ρ h w) {tx : TypeId} (hk : (∃ e', P.underlying tx = some (.slice e')) ∨ P.underlying tx = some .string) {size m : Nat} {x x' : Value} (hx : VRel ρ x x') {new : List Value}
    (hn : newCells size x h = some (new, m)) (hone : new.all one = true) : ∃ news, Src P size tx x' m news w ∧ LRel ρ new news := by
  have slc : ∀ (b : Addr) (c : Nat) (news : List Value), news.length = m * size → (∀ j u, news[j]? = some u → w.cell? (b.add j) = some u) → LRel ρ new news → Src P size tx (.slice (some b) m c) m news w := by
    intro b c news hl hc hr
    refine ⟨hk, fun _ => rfl, run_firstCells_some w size m b m c news hl hc, run_firstCells_some w.drew size m b m c news hl (by simpa using hc), hl, fun u hu => ?_⟩
    rw [one_oneCell]; exact List.all_eq_true.1 (hr.one hone) u hu
  unfold newCells at hn
  split at hn
  · cases hn
    have : x' = .slice none 0 0 := by cases hx; rfl
    subst this
    exact ⟨[], ⟨hk, fun _ => rfl, run_firstCells_none w size 0 0 0, run_firstCells_none w.drew size 0 0 0, by simp, fun _ h => by cases h⟩, .nil⟩
  · rename_i a n c
    split at hn
    · cases hn
      have : ∃ b c', x' = .slice (some b) 0 c' := by
        cases hx with
        | lit _ e => simp [lit1] at e
        | slice i off _ _ cap l => exact ⟨_, _, rfl⟩
        | owned i off _ _ cap z l => exact ⟨_, _, rfl⟩
        | empty => exact ⟨_, _, rfl⟩
      obtain ⟨b, c', rfl⟩ := this
      exact ⟨[], slc b c' [] (by simp) (by simp) .nil, .nil⟩
    · rename_i hne
      split at hn
      · rename_i cs own ho
        cases ht : takeN cs a.off (n * size) with
        | none => rw [ht] at hn; cases hn
        | some vs =>
          rw [ht] at hn
          cases hn
          obtain ⟨l, hl, hor⟩ := H.obj _ _ ho
          obtain ⟨vs', e1, e2, e3⟩ := hor.cells ht
          have : ∃ c', x' = .slice (some ⟨l.blk, a.off, none⟩) m c' := by
            cases hx with
            | lit _ e => simp [lit1] at e
            | slice i off n c cap l' hl' => rw [hl] at hl'; cases hl'; exact ⟨_, rfl⟩
            | owned i off n c cap z l' hl' => rw [hl] at hl'; cases hl'; exact ⟨_, rfl⟩
            | empty => exact absurd rfl hne
          obtain ⟨c', rfl⟩ := this
          exact ⟨vs', slc _ c' vs' e1 (fun j u hj => by rw [add_none]; exact e3 j u hj) e2, e2⟩
      · cases hn
  · rename_i s
    split at hn
    · rename_i hs
      cases hn
      have hs := Nat.eq_of_beq_eq_true hs
      subst hs
      obtain rfl := hx.string_inv
      have q := firstCells_string (P := P) s
      exact ⟨byteCells s, ⟨hk, fun _ => rfl, q w, q w.drew, by rw [byteCells_length, Nat.mul_one], fun u hu => by
        obtain ⟨_, _, rfl⟩ := List.mem_map.1 hu
        rfl⟩, LRel.refl (bytes_lit _)⟩
    · cases hn
  · cases hn
theorem St.set_same {h : St} {i : Nat} {o : AObj} (ho : h.objs i = some o) : h.set i o = h := by
  have : (h.set i o).objs = h.objs := by
    funext j
    simp only [St.set]
    split
    · rename_i e; rw [e, ho]
    · rfl
  cases h
  simp only [St.set] at this ⊢
  rw [this]
/-- Cells laid over cells of one's own, from a place on that is not beyond what is known. -/
theorem HRel.splice (H : HRel P B w0 ρ h w) {i o : Nat} {cs new news : List Value} {l : Loc} (ho : h.objs i = some (.cells cs true)) (hl : ρ i = some l) (hoc : o ≤ cs.length) (hrel : LRel ρ new news) (hone : new.all one = true) (hfit : o + new.length ≤ l.lim) :
    ∃ arr ty, w.heap[l.blk]? = some (.cells arr ty (0, 0)) ∧ l.lim = arr.size ∧ cs.length ≤ arr.size ∧
      HRel P B w0 ρ (h.set i (.cells (cs.take o ++ new ++ cs.drop (o + new.length)) true)) (w.setRow l.blk (arr.toList.take o ++ news ++ arr.toList.drop (o + news.length)).toArray) := by
  obtain ⟨l', hl', hown, hB, arr, ty, fr, hblk, hfr, hlen, hcs⟩ := H.obj _ _ ho
  have : l' = l := by rw [hl] at hl'; exact (Option.some.inj hl').symm
  subst this
  obtain ⟨hB1, hB2⟩ := hB rfl
  obtain ⟨rfl, hlim⟩ := hfr rfl
  have hnl := hrel.length
  refine ⟨arr, ty, hblk, hlim, hlen, H.set ho hl hown.symm hB1 rfl rfl rfl (by simp [World.setRow]) (fun q _ hq => setRow_other w l'.blk q _ hq) ?_⟩
  have t1 : (arr.toList.take o).length = o := by simp only [List.length_take, Array.length_toList]; omega
  have hfull : (arr.toList.take o ++ news ++ arr.toList.drop (o + news.length)).length = arr.size := by
    simp only [List.length_append, t1, List.length_drop, Array.length_toList]; omega
  have hnew : (cs.take o ++ new ++ cs.drop (o + new.length)).length = o + new.length + (cs.length - (o + new.length)) := by
    simp only [List.length_append, List.length_take, List.length_drop]; omega
  refine ⟨hown, fun _ => ⟨hB1, ?_⟩, _, ty, (0, 0), setRow_heap w l'.blk arr _ ty _ hblk, fun _ => ⟨rfl, by simp only [List.size_toArray, hfull]; exact hlim⟩, by simp only [List.size_toArray, hfull, hnew]; omega, ?_⟩
  · simp only [List.all_append, Bool.and_eq_true]
    simp only [List.all_eq_true] at hB2 hone ⊢
    exact ⟨⟨fun v hv => hB2 v (List.mem_of_mem_take hv), hone⟩, fun v hv => hB2 v (List.mem_of_mem_drop hv)⟩
  · rw [hnew]
    simp only [List.toList_toArray]
    rw [take_three (a := o) (b := new.length) t1 hnl.symm (by omega)]
    have e1 : arr.toList.take o = (arr.toList.take cs.length).take o := by rw [List.take_take, Nat.min_eq_left hoc]
    have e2 : (arr.toList.drop (o + news.length)).take (o + new.length + (cs.length - (o + new.length)) - (o + new.length)) = (arr.toList.take cs.length).drop (o + new.length) := by
      rw [List.drop_take, hnl]
      congr 1
      omega
    rw [e1, e2]
    exact ((hcs.take o).append hrel).append (hcs.drop (o + new.length))
theorem VRel.forget {ρ : Rho} {v v' : Value} (h : VRel ρ v v') : VRel ρ (Abs.forget v) v' := by
  cases h with
  | owned i off n c cap z l h hn hc hl hk => exact .owned i off n 0 cap z l h hn hc hl (fun h => absurd rfl h)
  | empty a c b hk =>
    obtain ⟨q, off, z⟩ := a
    cases z with
    | none => exact .empty _ c b hk
    | some z => exact .empty _ 0 b (fun _ => by omega)
  | lit v h =>
    cases v <;> first | exact .lit _ h | skip
    rename_i a n c
    cases a with
    | none => exact .lit _ h
    | some a => simp [lit1] at h
  | unk => exact .unk _
  | ptr i off l h => exact .ptr i off l h
  | slice i off n c cap l h ho hn hc => exact .slice i off n c cap l h ho hn hc
  | map i l h => exact .map i l h
  | func fn a b a' b' ha hb h h' => exact .func fn a b a' b' ha hb h h'
  | iface t v v' h => exact .iface t v v' h
  | agg a a' ha h => exact .agg a a' ha h
  | tuple a a' ha h => exact .tuple a a' ha h
/-- The capacity of a slice of one's own, whatever it is, may be known. -/
theorem VRel.known {ρ : Rho} {q off z n : Nat} {v' : Value} (h : VRel ρ (.slice (some ⟨q, off, some z⟩) n 0) v') : ∃ c, n ≤ c ∧ c ≤ maxLen ∧ VRel ρ (.slice (some ⟨q, off, some z⟩) n (c + 1)) v' := by
  cases h with
  | lit _ e => simp [lit1] at e
  | owned _ _ _ _ cap _ l h hn hc hl hk => exact ⟨cap, hn, hc, .owned q off n (cap + 1) cap z l h hn hc hl (fun _ => rfl)⟩
  | empty a c b hk => exact ⟨0, Nat.le_refl _, Nat.zero_le _, .empty _ 1 b (fun _ => Nat.le_refl _)⟩
theorem append_seq0 (H : HRel P B w0 ρ h w) {t u ty e : TypeId} {i2 : TypeInfo} {zv s s' x x' : Value} (hs : VRel ρ s s') (hx : VRel ρ x x') (ht : P.underlying t = some (.slice e)) (hi : P.info? e = some i2) (hz1 : i2.zero = some zv) (hc1 : 0 < i2.size) (hzs : zv.cells.size = i2.size) (hseq : isSeq (P.underlying u) = true) {k : Cont} (hk : appendE0 i2.size i2.bytes s x h k) :
    Post P B w0 ρ k ((do pure (.value (← Builtin.append_ #[t, u] ty #[s', x'])) : Sem Next).run P w) := by
  have hkind : (∃ e', P.underlying u = some (.slice e')) ∨ P.underlying u = some .string := by
    unfold isSeq at hseq
    split at hseq
    · rename_i e' he; exact .inl ⟨e', he⟩
    · rename_i he; exact .inr he
    · cases hseq
  unfold appendE0 at hk
  split at hk
  · exact hk.elim
  · rename_i new m hnew
    -- a new row
    have grow : ∀ (base : Option Addr) (sLen sCap : Nat) (old olds : List Value) (hh : St), hh.next = h.next → hh.le h → old.length = sLen * i2.size → old.all one = true → LRel ρ old olds → 
        (Builtin.firstCells i2.size sLen (.slice base sLen sCap)).run P w.drew = .ok olds.toArray w.drew → sCap < sLen + m → (sLen + m) * i2.bytes ≤ 140737488355328 → sLen + m ≤ 140737488355328 → new.all one = true →
        k (.slice (some ⟨h.next, 0, some i2.size⟩) (sLen + m) 0) (hh.push (.cells (old ++ new) true)) →
        Post P B w0 ρ k ((do pure (.value (← Builtin.append_ #[t, u] ty #[.slice base sLen sCap, x'])) : Sem Next).run P w) := by
      intro base sLen sCap old olds hh hnx hle hol ho1 hold hf hg hb hm hone hkk
      obtain ⟨news, hsrc, hrel⟩ := newCells_src H hkind hx hnew hone
      have hrun := run_append_grow_src (P := P) w t u ty e i2 zv ht hi hz1 base sLen sCap olds hf x' m news hsrc hg (by omega) (growslice_fits hg (by omega))
      simp only [Sem.run_bind, hrun, Result.andThen, Sem.run_pure]
      have hll := (hold.append hrel).length
      have hnl := hsrc.newsLen
      have hrl := hrel.length
      have hge := grownCap_ge w (sLen + m) sCap e
      have hcm := grownCap_le_maxLen w (sLen + m) sCap e (by unfold maxLen; omega)
      have hsz : ((olds ++ news).toArray ++ Builtin.zeroCells zv.cells (grownCap w (sLen + m) sCap e - (sLen + m))).size = grownCap w (sLen + m) sCap e * i2.size := by
        rw [Array.size_append, List.size_toArray, ← hll, size_zeroCells, hzs, List.length_append, hol, hrl, hnl, ← Nat.add_mul, ← Nat.add_mul]
        congr 1
        omega
      obtain ⟨q1, q2⟩ := ((H.weaken hle).draw (w.drawn + 1)).newCells (cs := old ++ new) (arr := (olds ++ news).toArray ++ Builtin.zeroCells zv.cells (grownCap w (sLen + m) sCap e - (sLen + m))) e
        (by rw [hll, Array.size_append, List.size_toArray]; omega)
        (by
          rw [hll]
          simp only [Array.toList_append, List.toList_toArray, List.take_left]
          exact hold.append hrel)
        (by rw [List.all_append, ho1, hone]; rfl)
      rw [hnx] at q1 q2
      refine ⟨_, _, _, hkk, q1, q2, .owned h.next 0 (sLen + m) 0 (grownCap w (sLen + m) sCap e) i2.size ⟨w.heap.size, ((olds ++ news).toArray ++ Builtin.zeroCells zv.cells (grownCap w (sLen + m) sCap e - (sLen + m))).size, true⟩ (by simp [Rho.push]) hge hcm ?_ (fun h => absurd rfl h)⟩
      show 0 + _ ≤ Array.size _
      rw [hsz]; omega
    have nothing : ∀ (base : Option Addr) (sLen sCap : Nat), m = 0 → sLen ≤ sCap → new.all one = true →
        (do pure (.value (← Builtin.append_ #[t, u] ty #[.slice base sLen sCap, x'])) : Sem Next).run P w = .ok (.value (.slice base sLen sCap)) w := by
      intro base sLen sCap hm hle hone
      obtain ⟨news, hsrc, hrel⟩ := newCells_src H hkind hx hnew hone
      subst hm
      have : news = [] := by apply List.eq_nil_of_length_eq_zero; rw [hsrc.newsLen]; omega
      subst this
      simp only [Sem.run_bind, run_append_nothing (P := P) w t u ty e i2 ht hi base sLen sCap hle x' hsrc, Result.andThen, Sem.run_pure]
    split at hk
    · have : s' = .slice none 0 0 := by cases hs; rfl
      subst this
      obtain ⟨⟨h1, h2, h3⟩, h4⟩ := hk
      split at h4
      · rw [nothing none 0 0 rfl (Nat.le_refl _) h1]
        exact ⟨_, _, _, h4, Rho.le.refl ρ, H, hs⟩
      · rename_i hne
        have hm : m ≠ 0 := fun e => hne e
        have := grow none 0 0 [] [] h rfl (St.le.refl h) (by simp) rfl .nil (run_firstCells_none w.drew i2.size 0 0 0) (by omega) (by rw [Nat.zero_add]; exact h2) (by omega) h1
        simp only [Nat.zero_add, List.nil_append] at this
        exact this h4
    · rename_i id off zz n c0
      split at hk
      · rename_i cs ho
        cases c0 with
        | zero =>
          simp only at hk
          obtain ⟨⟨h1, rfl, rfl, h4, h5, h6⟩, h7⟩ := hk
          obtain ⟨l, hl, hor⟩ := H.obj _ _ ho
          have hor2 := hor
          obtain ⟨hown, hB, arr, ty2, fr, hblk, hfr, hlen, hcs⟩ := hor
          obtain ⟨hB1, hB2⟩ := hB rfl
          obtain ⟨rfl, hlim⟩ := hfr rfl
          have old1 : (cs.take (n * i2.size)).all one = true := by
            simp only [List.all_eq_true] at hB2 ⊢
            exact fun v hv => hB2 v (List.mem_of_mem_take hv)
          obtain ⟨news, hsrc, hrel⟩ := newCells_src H hkind hx hnew h1
          have hnl := hsrc.newsLen
          have hrl := hrel.length
          have hnm : (n + m) * i2.size = n * i2.size + m * i2.size := Nat.add_mul _ _ _
          have htl : (cs.take (n * i2.size)).length = n * i2.size := by rw [List.length_take]; omega
          have hcl : (cs.take (n * i2.size) ++ new).length = n * i2.size + m * i2.size := by rw [List.length_append, htl, hrl, hnl]
          have hone2 : (cs.take (n * i2.size) ++ new).all one = true := by rw [List.all_append, old1, h1]; rfl
          -- the row grows
          have grow2 : ∀ (b : Addr) (cap : Nat) (olds : List Value), olds.length = n * i2.size → (∀ j v, olds[j]? = some v → w.cell? (b.add j) = some v) → LRel ρ (cs.take (n * i2.size)) olds → cap < n + m →
              Post P B w0 ρ k ((do pure (.value (← Builtin.append_ #[t, u] ty #[.slice (some b) n cap, x'])) : Sem Next).run P w) := by
            intro b cap olds hol hoc hor hg
            exact grow (some b) n cap (cs.take (n * i2.size)) olds (h.kill id) rfl (St.kill_le h id) htl old1 hor
              (run_firstCells_some w.drew i2.size n b n cap olds hol (by simpa using hoc)) hg h5 h6 h1 h7
          -- the row stays, under a new name
          have stay : ∀ (w' : World) (arr' : Array Value) (v' : Value), w'.os = w.os → w'.tape = w.tape → w'.output = w.output → w.heap.size ≤ w'.heap.size → (∀ k, k < w.heap.size → k ≠ l.blk → w'.heap[k]? = w.heap[k]?) →
              w'.heap[l.blk]? = some (.cells arr' ty2 (0, 0)) → l.lim = arr'.size → n * i2.size + m * i2.size ≤ arr'.size → LRel ρ (cs.take (n * i2.size) ++ new) (arr'.toList.take (n * i2.size + m * i2.size)) →
              VRel (ρ.push h.next l) (.slice (some ⟨h.next, 0, some i2.size⟩) (n + m) 0) v' → Post P B w0 ρ k (.ok (.value v') w') := by
            intro w' arr' v' e1 e2 e3 e4 e5 e6 e7 e8 e9 hv
            have ho' : ORel ρ B (.cells (cs.take (n * i2.size) ++ new) true) l w' := ⟨hown, fun _ => ⟨hB1, hone2⟩, arr', ty2, (0, 0), e6, fun _ => ⟨rfl, e7⟩, by rw [hcl]; exact e8, by rw [hcl]; exact e9⟩
            have H2 := H.set (o' := .cells (cs.take (n * i2.size) ++ new) true) ho hl hown.symm hB1 e1 e2 e3 e4 e5 ho'
            have H3 := H2.move (i := id) (o := .cells (cs.take (n * i2.size) ++ new) true) (by simp [St.set]) hl hown.symm ho'
            have heq : ((h.set id (.cells (cs.take (n * i2.size) ++ new) true)).kill id).push (.cells (cs.take (n * i2.size) ++ new) true) = (h.kill id).push (.cells (cs.take (n * i2.size) ++ new) true) := by
              exact St.set_kill_push h id _ _
            rw [heq] at H3
            exact ⟨_, _, _, h7, H.fresh l, H3, hv⟩
          cases hs with
          | lit _ e => simp [lit1] at e
          | empty a c b =>
            by_cases hm : m = 0
            · rw [nothing (some b) 0 0 hm (Nat.le_refl _) h1]
              subst hm
              refine stay w arr _ rfl rfl rfl (Nat.le_refl _) (fun _ _ _ => rfl) hblk hlim (by simp) ?_ (.empty _ _ _ fun _ => by omega)
              have : new = [] := by apply List.eq_nil_of_length_eq_zero; rw [hrl, hnl]; simp
              subst this
              simpa using LRel.nil
            · exact grow2 b 0 [] (by simp) (by simp) (by simpa using LRel.nil) (by omega)
          | owned _ _ n c cap _ l' hl' hn hcm hlm =>
            rw [hl] at hl'
            cases hl'
            by_cases hroom : n + m ≤ cap
            · have hcap : (n + m) * i2.size ≤ cap * i2.size := Nat.mul_le_mul_right _ hroom
              have hlm' : cap * i2.size ≤ l.lim := by omega
              have hin : ∀ j, j < news.length → (w.cell? ⟨l.blk, 0 + n * i2.size + j, none⟩).isSome = true := by
                intro j hj
                simp only [World.cell?, hblk]
                simp; omega
              have hfz : ∀ j, j < news.length → w.frozen? ⟨l.blk, 0 + n * i2.size + j, none⟩ = false := fun j _ => frozen_of_row w l.blk _ arr ty2 hblk
              have r1 := run_append_room_src (P := P) w t u ty e i2 ht hi l.blk 0 n cap x' m news hsrc hroom hin hfz
              have s1 := run_storeCells_cells (P := P) l.blk (0 + n * i2.size) news 0 w (by simpa using hin) (by simpa using hfz) hsrc.one
              have s2 := run_storeCells_at P l.blk (0 + n * i2.size) ty2 news 0 arr w hblk (by omega) hsrc.one
              have se : w.setCells l.blk (0 + n * i2.size) news = w.setRow l.blk (arr.toList.take (n * i2.size) ++ news ++ arr.toList.drop (n * i2.size + news.length)).toArray := by
                rw [s1] at s2
                simp only [Nat.add_zero, Nat.zero_add] at s2 ⊢
                injection s2
              rw [se] at r1
              simp only [Sem.run_bind, r1, Result.andThen, Sem.run_pure]
              have t1 : (arr.toList.take (n * i2.size)).length = n * i2.size := by simp only [List.length_take, Array.length_toList]; omega
              have hfull : (arr.toList.take (n * i2.size) ++ news ++ arr.toList.drop (n * i2.size + news.length)).length = arr.size := by
                simp only [List.length_append, t1, List.length_drop, Array.length_toList]; omega
              refine stay _ _ _ rfl rfl rfl (by simp [World.setRow]) (fun q _ hq => setRow_other w l.blk q _ hq) (setRow_heap w l.blk arr _ ty2 _ hblk) (by rw [List.size_toArray, hfull]; exact hlim) (by rw [List.size_toArray, hfull]; omega) ?_
                (.owned h.next 0 (n + m) 0 cap i2.size l (by simp [Rho.push]) hroom hcm hlm (fun h => absurd rfl h))
              simp only [List.toList_toArray]
              rw [take_three (a := n * i2.size) (b := m * i2.size) t1 hnl (Nat.le_refl _), Nat.sub_self, List.take_zero, List.append_nil]
              refine LRel.append ?_ hrel
              have := hcs.take (n * i2.size)
              rwa [List.take_take, Nat.min_eq_left h4] at this
            · obtain ⟨olds, q1, q2, q3⟩ := hor2.cells (off := 0) (n := n * i2.size) (vs := cs.take (n * i2.size)) (by unfold takeN; rw [if_pos (by omega)]; simp)
              exact grow2 ⟨l.blk, 0, none⟩ cap olds q1 (fun j v hj => by rw [add_none]; exact q3 j v hj) q2 (by omega)
        | succ cp =>
          simp only at hk
          cases hb : Nat.ble (n + m) cp with
          | true =>
            rw [hb] at hk
            obtain ⟨⟨h1, rfl, h4⟩, h7⟩ := hk
            have hle := Nat.le_of_ble_eq_true hb
            obtain ⟨news, hsrc, hrel⟩ := newCells_src H hkind hx hnew h1
            have hnl := hsrc.newsLen
            have hrl := hrel.length
            cases hs with
            | lit _ e => simp [lit1] at e
            | empty a c b hk1 =>
              have hc1 := hk1 (by simp)
              have hm : m = 0 := by omega
              have hnew0 : new = [] := by apply List.eq_nil_of_length_eq_zero; rw [hrl, hnl, hm]; simp
              rw [nothing (some b) 0 0 hm (Nat.le_refl _) h1]
              subst hm
              subst hnew0
              have e0 : cs.take (off + 0 * i2.size) ++ [] ++ cs.drop (off + 0 * i2.size + 0 * i2.size) = cs := by simp
              rw [e0, St.set_same ho] at h7
              exact ⟨_, _, _, h7, Rho.le.refl ρ, H, .empty _ _ _ hk1⟩
            | owned _ _ n c cap _ l hl hn hcm hlm hk1 =>
              have : cap = cp := by have := hk1 (by omega); omega
              subst this
              have hmul : (n + m) * i2.size ≤ cap * i2.size := Nat.mul_le_mul_right _ hle
              have hnm : (n + m) * i2.size = n * i2.size + m * i2.size := Nat.add_mul _ _ _
              obtain ⟨arr, ty2, hblk, hlim, hlen, HH⟩ := H.splice ho hl (o := off + n * i2.size) h4 hrel h1 (by omega)
              have hin : ∀ j, j < news.length → (w.cell? ⟨l.blk, off + n * i2.size + j, none⟩).isSome = true := by
                intro j hj
                simp only [World.cell?, hblk]
                simp; omega
              have hfz : ∀ j, j < news.length → w.frozen? ⟨l.blk, off + n * i2.size + j, none⟩ = false := fun j _ => frozen_of_row w l.blk _ arr ty2 hblk
              have r1 := run_append_room_src (P := P) w t u ty e i2 ht hi l.blk off n cap x' m news hsrc hle hin hfz
              have s1 := run_storeCells_cells (P := P) l.blk (off + n * i2.size) news 0 w (by simpa using hin) (by simpa using hfz) hsrc.one
              have s2 := run_storeCells_at P l.blk (off + n * i2.size) ty2 news 0 arr w hblk (by omega) hsrc.one
              have se : w.setCells l.blk (off + n * i2.size) news = w.setRow l.blk (arr.toList.take (off + n * i2.size) ++ news ++ arr.toList.drop (off + n * i2.size + news.length)).toArray := by
                rw [s1] at s2
                simp only [Nat.add_zero] at s2 ⊢
                injection s2
              rw [se] at r1
              simp only [Sem.run_bind, r1, Result.andThen, Sem.run_pure]
              have el : off + n * i2.size + new.length = off + n * i2.size + m * i2.size := by rw [hrl, hnl]
              rw [el] at HH
              exact ⟨_, _, _, h7, Rho.le.refl ρ, HH, .owned id off (n + m) (cap + 1) cap i2.size l hl hle hcm hlm (fun _ => rfl)⟩
          | false =>
            rw [hb] at hk
            obtain ⟨⟨h1, rfl, h4, h5, h6⟩, h7⟩ := hk
            have hgt : cp < n + m := by
              rcases Nat.lt_or_ge cp (n + m) with h | h
              · exact h
              · have := Nat.ble_eq_true_of_le h; rw [this] at hb; cases hb
            obtain ⟨l, hl, hor⟩ := H.obj _ _ ho
            have hor2 := hor
            obtain ⟨hown, hB, arr, ty2, fr, hblk, hfr, hlen, hcs⟩ := hor
            obtain ⟨hB1, hB2⟩ := hB rfl
            have old1 : ((cs.drop off).take (n * i2.size)).all one = true := by
              simp only [List.all_eq_true] at hB2 ⊢
              exact fun v hv => hB2 v (List.mem_of_mem_drop (List.mem_of_mem_take hv))
            have htl : ((cs.drop off).take (n * i2.size)).length = n * i2.size := by rw [List.length_take, List.length_drop]; omega
            cases hs with
            | lit _ e => simp [lit1] at e
            | empty a c b hk1 =>
              have hc1 := hk1 (by simp)
              have z : (cs.drop off).take (0 * i2.size) = [] := by simp
              refine grow (some b) 0 0 ((cs.drop off).take (0 * i2.size)) [] h rfl (St.le.refl h) htl old1 (by rw [z]; exact .nil)
                (run_firstCells_some w.drew i2.size 0 b 0 0 [] (by simp) (by simp)) (by omega) h5 h6 h1 h7
            | owned _ _ n c cap _ l' hl' hn hcm hlm hk1 =>
              have : cap = cp := by have := hk1 (by omega); omega
              subst this
              rw [hl] at hl'
              cases hl'
              obtain ⟨olds, q1, q2, q3⟩ := hor2.cells (off := off) (n := n * i2.size) (vs := (cs.drop off).take (n * i2.size)) (by unfold takeN; rw [if_pos (by omega)])
              exact grow (some ⟨l.blk, off, none⟩) n cap ((cs.drop off).take (n * i2.size)) olds h rfl (St.le.refl h) htl old1 q2
                (run_firstCells_some w.drew i2.size n ⟨l.blk, off, none⟩ n cap olds q1 (fun j v hj => by
                  have := q3 j v hj
                  rw [add_none]
                  simpa using this)) hgt h5 h6 h1 h7
      · exact hk.elim
    · exact hk.elim
theorem Post.forgets {k : Cont} : ∀ {r : Result Next}, Post P B w0 ρ (fun v h' => k (forget v) h') r → Post P B w0 ρ k r
  | .ok (.value v') w', ⟨v, h', ρ', e1, e2, e3, e4⟩ => ⟨_, h', ρ', e1, e2, e3, e4.forget⟩
  | .ok .skip w', h => h
  | .ok (.enter f args) w', h => Calls.mono h fun e w'' ⟨v, v', h', ρ', e1, e2, e3, e4, e5⟩ => ⟨_, v', h', ρ', e1, e2, e3, e4, e5.forget⟩
theorem append_seq (H : HRel P B w0 ρ h w) {t u ty e : TypeId} {i2 : TypeInfo} {zv s s' x x' : Value} (hs : VRel ρ s s') (hx : VRel ρ x x') (ht : P.underlying t = some (.slice e)) (hi : P.info? e = some i2) (hz1 : i2.zero = some zv) (hc1 : 0 < i2.size) (hzs : zv.cells.size = i2.size) (hseq : isSeq (P.underlying u) = true) {k : Cont} (hk : appendE i2.size i2.bytes s x h k) :
    Post P B w0 ρ k ((do pure (.value (← Builtin.append_ #[t, u] ty #[s', x'])) : Sem Next).run P w) := by
  unfold appendE at hk
  split at hk
  · obtain ⟨_, hk⟩ := hk
    obtain ⟨c, h1, h2, h3⟩ := hs.known
    exact Post.forgets (append_seq0 (ty := ty) H h3 hx ht hi hz1 hc1 hzs hseq (hk c h1 h2))
  · exact append_seq0 H hs hx ht hi hz1 hc1 hzs hseq hk
theorem append_sound (H : HRel P B w0 ρ h w) {t u ty : TypeId} {s s' x x' : Value} (hs : VRel ρ s s') (hx : VRel ρ x x') {k : Cont} (hk : appendOp P t u s x h k) :
    Post P B w0 ρ k ((do pure (.value (← Builtin.append_ #[t, u] ty #[s', x'])) : Sem Next).run P w) := by
  unfold appendOp at hk
  split at hk
  · rename_i e ht
    split at hk
    · rename_i i z hi hz
      split at hk
      · rename_i hc
        simp only [Bool.and_eq_true, Nat.blt_eq, Nat.beq_eq] at hc
        obtain ⟨hc1, hc2⟩ := hc
        obtain ⟨i2, zv, hi2, hz1, rfl, hz3, hz4⟩ := zeroOf_spec hz
        have : i2 = i := by rw [hi] at hi2; exact (Option.some.inj hi2).symm
        subst this
        have hzs : zv.cells.size = i2.size := by simpa using hc2
        split at hk
        · rename_i hseq
          exact append_seq H hs hx ht hi hz1 hc1 hzs hseq hk
        · split at hk
          · rename_i hint
            unfold isIntT at hint
            split at hint
            · rename_i kn hu
              unfold appendZ at hk
              split at hk
              · rename_i kk n
                obtain ⟨⟨h1, h2, h3⟩, h4⟩ := hk
                have : s' = .slice none 0 0 := by cases hs; rfl
                subst this
                obtain rfl := hx.int_inv
                obtain ⟨m, rfl⟩ : ∃ m : Nat, n = m := ⟨n.toNat, by omega⟩
                have hm : 0 < m := by omega
                have hmb : m * i2.bytes ≤ 140737488355328 := by
                  have : ((m * i2.bytes : Nat) : Int) = (m : Int) * i2.bytes := by simp
                  omega
                have hrun := Go.Lib.run_append_nil_zeros (P := P) w t u ty e i2 zv kk kn ht hu hi hz1 m hm hc1 (by omega) (by omega)
                simp only [Sem.run_bind, hrun, Result.andThen, Sem.run_pure]
                have hge := grownCap_ge w m 0 e
                have hcm := grownCap_le_maxLen w m 0 e (by unfold maxLen; omega)
                obtain ⟨q1, q2⟩ := (H.draw (w.drawn + 1)).newCells (cs := []) (arr := Builtin.zeroCells zv.cells m ++ Builtin.zeroCells zv.cells (grownCap w m 0 e - m)) e (by simp) (by simpa using LRel.nil) rfl
                rw [Int.toNat_natCast] at h4
                refine ⟨_, _, _, h4, q1, q2, .owned h.next 0 m 0 (grownCap w m 0 e) i2.size ⟨w.heap.size, (Builtin.zeroCells zv.cells m ++ Builtin.zeroCells zv.cells (grownCap w m 0 e - m)).size, true⟩ (by simp [Rho.push]) hge hcm ?_ (fun h => absurd rfl h)⟩
                show 0 + _ ≤ Array.size _
                rw [Array.size_append, size_zeroCells, size_zeroCells, hzs, ← Nat.add_mul]
                have : m + (grownCap w m 0 e - m) = grownCap w m 0 e := by omega
                rw [this]; omega
              · rename_i id off zz m cap kk n
                split at hk
                · rename_i cs ho
                  obtain ⟨⟨h1, h2, rfl, h4, h5, h6⟩, h7⟩ := hk
                  obtain rfl := hx.int_inv
                  obtain ⟨q, rfl⟩ : ∃ q : Nat, n = q := ⟨n.toNat, by omega⟩
                  rw [Int.toNat_natCast] at h7
                  have hq : 0 < q := by omega
                  have hb : (m + q) * i2.bytes ≤ 140737488355328 := by
                    have : (((m + q) * i2.bytes : Nat) : Int) = ((m : Int) + (q : Int)) * i2.bytes := by simp
                    omega
                  have hqb : q * i2.bytes ≤ (m + q) * i2.bytes := Nat.mul_le_mul_right _ (by omega)
                  have hmq : m + q ≤ 140737488355328 := by omega
                  obtain ⟨l, hl, hor⟩ := H.obj _ _ ho
                  have hor2 := hor
                  obtain ⟨hown, hB, arr, ty2, fr, hblk, hfr, hlen, hcs⟩ := hor
                  obtain ⟨hB1, hB2⟩ := hB rfl
                  have old1 : ((cs.drop off).take (m * i2.size)).all one = true := by
                    simp only [List.all_eq_true] at hB2 ⊢
                    exact fun v hv => hB2 v (List.mem_of_mem_drop (List.mem_of_mem_take hv))
                  have htl : ((cs.drop off).take (m * i2.size)).length = m * i2.size := by rw [List.length_take, List.length_drop]; omega
                  have fin : ∀ (b : Addr) (cap' : Nat) (olds : List Value), LRel ρ ((cs.drop off).take (m * i2.size)) olds → (Builtin.firstCells i2.size m (.slice (some b) m cap')).run P w.drew = .ok olds.toArray w.drew → cap' < m + q →
                      Post P B w0 ρ k ((do pure (.value (← Builtin.append_ #[t, u] ty #[.slice (some b) m cap', .int kk q])) : Sem Next).run P w) := by
                    intro b cap' olds hold hf hg
                    have hrun := Go.Lib.run_append_grow_zeros (P := P) w t u ty e i2 zv kk kn ht hu hi hz1 (some b) m cap' olds hf q hq hc1 hg (by omega) (by omega) (growslice_fits hg (by omega))
                    simp only [Sem.run_bind, hrun, Result.andThen, Sem.run_pure]
                    have hge := grownCap_ge w (m + q) cap' e
                    have hcm := grownCap_le_maxLen w (m + q) cap' e (by unfold maxLen; omega)
                    have hol := hold.length
                    obtain ⟨q1, q2⟩ := (H.draw (w.drawn + 1)).newCells (cs := (cs.drop off).take (m * i2.size)) (arr := olds.toArray ++ Builtin.zeroCells zv.cells q ++ Builtin.zeroCells zv.cells (grownCap w (m + q) cap' e - (m + q))) e
                      (by rw [hol]; simp only [Array.size_append, List.size_toArray]; omega)
                      (by
                        rw [hol]
                        simp only [Array.toList_append, List.toList_toArray, List.append_assoc, List.take_left]
                        exact hold)
                      old1
                    refine ⟨_, _, _, h7, q1, q2, .owned h.next 0 (m + q) 0 (grownCap w (m + q) cap' e) i2.size ⟨w.heap.size, (olds.toArray ++ Builtin.zeroCells zv.cells q ++ Builtin.zeroCells zv.cells (grownCap w (m + q) cap' e - (m + q))).size, true⟩ (by simp [Rho.push]) hge hcm ?_ (fun h => absurd rfl h)⟩
                    show 0 + _ ≤ Array.size _
                    rw [Array.size_append, Array.size_append, size_zeroCells, size_zeroCells, hzs, List.size_toArray, ← hol, htl, ← Nat.add_mul, ← Nat.add_mul]
                    have : m + q + (grownCap w (m + q) cap' e - (m + q)) = grownCap w (m + q) cap' e := by omega
                    rw [this]; omega
                  cases hs with
                  | lit _ e => simp [lit1] at e
                  | empty a c b hk1 =>
                    have hc1 := hk1 (by simp)
                    exact fin b 0 [] (by simpa using LRel.nil) (run_firstCells_some w.drew i2.size 0 b 0 0 [] (by simp) (by simp)) (by omega)
                  | owned _ _ _ c cap' _ l' hl' hn hcm hlm hk1 =>
                    have : cap' = cap := by have := hk1 (by omega); omega
                    subst this
                    rw [hl] at hl'
                    cases hl'
                    obtain ⟨olds, q1, q2, q3⟩ := hor2.cells (off := off) (n := m * i2.size) (vs := (cs.drop off).take (m * i2.size)) (by unfold takeN; rw [if_pos (by omega)])
                    exact fin ⟨l.blk, off, none⟩ cap' olds q2 (run_firstCells_some w.drew i2.size m ⟨l.blk, off, none⟩ m cap' olds q1 (fun j v hj => by
                      have := q3 j v hj
                      rw [add_none]
                      simpa using this)) (by omega)
                · exact hk.elim
              · exact hk.elim
            · cases hint
          · exact hk.elim
      · exact hk.elim
    · exact hk.elim
  · exact hk.elim
end
end Go.Abs
end

section
set_option linter.unusedSimpArgs false
set_option linter.unusedVariables false
namespace Go.Abs
open Go.RowKit (Below)
section
variable {P : Program} {B : Nat} {w0 w : World} {ρ : Rho} {h : St}

/-- A slice's first elements. -/
theorem VRel.firstOf {a : Option Addr} {m c n : Nat} {x' : Value} (hx : VRel ρ (.slice a m c) x') (hn : n ≤ m) : ∃ a' c', x' = .slice a' m c' ∧ VRel ρ (.slice a n c) (.slice a' n c') := by
  cases hx with
  | lit _ e =>
    cases a with
    | some a => simp [lit1] at e
    | none =>
      cases m with
      | succ m => simp [lit1] at e
      | zero =>
        cases c with
        | succ c => simp [lit1] at e
        | zero =>
          have : n = 0 := by omega
          subst this
          exact ⟨none, 0, rfl, .lit _ rfl⟩
  | slice i off _ _ cap l h ho hn' hc => exact ⟨_, _, rfl, .slice i off n c cap l h ho (by omega) hc⟩
  | owned i off _ _ cap z l h hn' hc hl hk => exact ⟨_, _, rfl, .owned i off n c cap z l h (by omega) hc hl hk⟩
  | empty a c b hk =>
    have : n = 0 := by omega
    subst this
    exact ⟨_, _, rfl, .empty a c b hk⟩
theorem firstCells_alike (size n m c m' c' : Nat) (a : Option Addr) : Builtin.firstCells size n (.slice a m c) = Builtin.firstCells size n (.slice a m' c') := by cases a <;> rfl
theorem copy_sound (H : HRel P B w0 ρ h w) {t u ty : TypeId} {d d' x x' : Value} (hd : VRel ρ d d') (hx : VRel ρ x x') {k : Cont} (hk : copyOp P t u d x h k) :
    Post P B w0 ρ k ((do pure (.value (← Builtin.copy_ #[t, u] ty #[d', x'])) : Sem Next).run P w) := by
  unfold copyOp at hk
  split at hk
  · rename_i e e2 ht hu
    split at hk
    · rename_i i2 hi
      unfold copyE at hk
      split at hk
      · rename_i id off zz n c0 a m c1
        split at hk
        · rename_i cs ho
          split at hk
          · rename_i new q hnew
            obtain ⟨⟨h1, rfl, h4⟩, h7⟩ := hk
            obtain ⟨a', c', rfl, hx2⟩ := hx.firstOf (Nat.min_le_left m n)
            obtain ⟨news, hsrc, hrel⟩ := newCells_src H (tx := u) (.inl ⟨e2, hu⟩) hx2 hnew h1
            have hq : q = min m n := by
              unfold newCells at hnew
              split at hnew
              · rename_i hx0; cases hnew; injection hx0 with _ h0 _; exact h0.symm
              · rename_i hx0; injection hx0 with _ h0 _
                split at hnew
                · cases hnew; exact h0.symm
                · split at hnew
                  · cases hh : takeN _ _ _ with
                    | none => rw [hh] at hnew; cases hnew
                    | some l => rw [hh] at hnew; cases hnew; exact h0.symm
                  · cases hnew
              · rename_i hx0; cases hx0
              · cases hnew
            subst hq
            have hnl := hsrc.newsLen
            have hrl := hrel.length
            have hf := hsrc.cells
            rw [firstCells_alike _ _ _ _ m c' a'] at hf
            cases hd with
            | lit _ e => simp [lit1] at e
            | empty _ _ b hk1 =>
              have hm0 : min m 0 = 0 := Nat.min_zero m
              rw [hm0] at hf h7 hnl
              have hn0 : news = [] := by apply List.eq_nil_of_length_eq_zero; rw [hnl]; simp
              have hw0 : new = [] := by apply List.eq_nil_of_length_eq_zero; rw [hrl, hn0]; rfl
              subst hn0; subst hw0
              have e0 : cs.take off ++ [] ++ cs.drop (off + 0 * i2.size) = cs := by simp
              rw [e0, St.set_same ho] at h7
              have : (do pure (.value (← Builtin.copy_ #[t, u] ty #[.slice (some b) 0 0, .slice a' m c'])) : Sem Next).run P w = .ok (.value (.int .i64 0)) w := by
                have hmn : Nat.min m 0 = 0 := Nat.min_zero m
                simp only [Builtin.copy_, Sem.run_bind, run_underlying ht, Result.andThen, Builtin.lenOf, Sem.run_pure, run_size' hi, hmn]
                rw [show (#[t, u] : Array TypeId)[0]? = some t from rfl, show (#[Value.slice (some b) 0 0, Value.slice a' m c'] : Array Value)[0]? = some (.slice (some b) 0 0) from rfl, show (#[Value.slice (some b) 0 0, Value.slice a' m c'] : Array Value)[1]? = some (.slice a' m c') from rfl]
                simp only [Sem.run_bind, run_underlying ht, Result.andThen, Builtin.lenOf, Sem.run_pure, run_size' hi, hmn, hf]
                rfl
              rw [this]
              exact ⟨_, _, _, h7, Rho.le.refl ρ, H, VRel.int ρ .i64 0⟩
            | owned _ _ _ c cap _ l hl hn hcm hlm hk1 =>
              have hmin : min m n ≤ n := Nat.min_le_right m n
              have hmul : min m n * i2.size ≤ cap * i2.size := Nat.mul_le_mul_right _ (by omega)
              obtain ⟨arr, ty2, hblk, hlim, hlen, HH⟩ := H.splice ho hl (o := off) h4 hrel h1 (by omega)
              have hst := run_storeCells_at P l.blk off ty2 news 0 arr w hblk (by omega) hsrc.one
              simp only [Nat.add_zero] at hst
              have : (do pure (.value (← Builtin.copy_ #[t, u] ty #[.slice (some ⟨l.blk, off, none⟩) n cap, .slice a' m c'])) : Sem Next).run P w =
                  .ok (.value (.int .i64 (min m n : Nat))) (w.setRow l.blk (arr.toList.take off ++ news ++ arr.toList.drop (off + news.length)).toArray) := by
                have hmn : Nat.min m n = min m n := rfl
                simp only [Builtin.copy_, Sem.run_bind, run_underlying ht, Result.andThen, Builtin.lenOf, Sem.run_pure, run_size' hi, hmn]
                rw [show (#[t, u] : Array TypeId)[0]? = some t from rfl, show (#[Value.slice (some ⟨l.blk, off, none⟩) n cap, Value.slice a' m c'] : Array Value)[0]? = some (.slice (some ⟨l.blk, off, none⟩) n cap) from rfl, show (#[Value.slice (some ⟨l.blk, off, none⟩) n cap, Value.slice a' m c'] : Array Value)[1]? = some (.slice a' m c') from rfl]
                simp only [Sem.run_bind, run_underlying ht, Result.andThen, Builtin.lenOf, Sem.run_pure, run_size' hi, hmn, hf, List.toList_toArray, hst, goInt]
              rw [this]
              have el : off + new.length = off + min m n * i2.size := by rw [hrl, hnl]
              rw [el] at HH
              exact ⟨_, _, _, h7, Rho.le.refl ρ, HH, VRel.int ρ .i64 _⟩
          · exact hk.elim
        · exact hk.elim
      · exact hk.elim
    · exact hk.elim
  · exact hk.elim
theorem clear_sound (H : HRel P B w0 ρ h w) {t ty : TypeId} {x x' : Value} (hx : VRel ρ x x') {k : Cont} (hk : clearOp P t x h k) :
    Post P B w0 ρ k ((do pure (.value (← Builtin.clear_ #[t] ty #[x'])) : Sem Next).run P w) := by
  unfold clearOp at hk
  split at hk
  · rename_i e ht
    split at hk
    · rename_i i z hi hz
      obtain ⟨i2, zv, hi2, hz1, rfl, hz3, hz4⟩ := zeroOf_spec hz
      have : i2 = i := by rw [hi] at hi2; exact (Option.some.inj hi2).symm
      subst this
      unfold clearE at hk
      split at hk
      · have : x' = .slice none 0 0 := by cases hx; rfl
        subst this
        have : (do pure (.value (← Builtin.clear_ #[t] ty #[.slice none 0 0])) : Sem Next).run P w = .ok (.value (.tuple #[])) w := by
          simp [Builtin.clear_, run_underlying ht, Result.andThen]
        rw [this]
        exact ⟨_, _, _, hk, Rho.le.refl ρ, H, VRel.undef ρ⟩
      · rename_i id off zz n c0
        split at hk
        · rename_i cs ho
          obtain ⟨⟨h1, rfl, h4⟩, h7⟩ := hk
          cases hx with
          | lit _ e => simp [lit1] at e
          | empty _ _ b hk1 =>
            have e0 : cs.take off ++ repL zv.cells.toList 0 ++ cs.drop (off + 0 * i2.size) = cs := by simp [repL]
            rw [e0, St.set_same ho] at h7
            have : (do pure (.value (← Builtin.clear_ #[t] ty #[.slice (some b) 0 0])) : Sem Next).run P w = .ok (.value (.tuple #[])) w := by
              simp [Builtin.clear_, run_underlying ht, Result.andThen]
            rw [this]
            exact ⟨_, _, _, h7, Rho.le.refl ρ, H, VRel.undef ρ⟩
          | owned _ _ _ c cap _ l hl hn hcm hlm hk1 =>
            have hmul : n * i2.size ≤ cap * i2.size := Nat.mul_le_mul_right _ hn
            have hlit := repL_lit hz3 n
            have hrl : (repL zv.cells.toList n).length = n * i2.size := by rw [repL_length, h1]
            obtain ⟨arr, ty2, hblk, hlim, hlen, HH⟩ := H.splice ho hl (o := off) (news := repL zv.cells.toList n) h4 (LRel.refl hlit) (all_lit1_one hlit) (by rw [hrl]; omega)
            rw [hrl] at HH
            by_cases hn0 : n = 0
            · subst hn0
              have e0 : cs.take off ++ repL zv.cells.toList 0 ++ cs.drop (off + 0 * i2.size) = cs := by simp [repL]
              rw [e0, St.set_same ho] at h7
              have : (do pure (.value (← Builtin.clear_ #[t] ty #[.slice (some ⟨l.blk, off, none⟩) 0 cap])) : Sem Next).run P w = .ok (.value (.tuple #[])) w := by
                simp [Builtin.clear_, run_underlying ht, Result.andThen]
              rw [this]
              exact ⟨_, _, _, h7, Rho.le.refl ρ, H, VRel.undef ρ⟩
            · obtain ⟨n, rfl⟩ : ∃ n', n = n' + 1 := ⟨n - 1, by omega⟩
              have hst := run_storeCells_at P l.blk off ty2 (repL zv.cells.toList (n + 1)) 0 arr w hblk (by omega) (fun v hv => by rw [one_oneCell]; exact List.all_eq_true.1 (all_lit1_one hlit) v hv)
              simp only [Nat.add_zero] at hst
              have hzc : (Builtin.zeroCells zv.cells (n + 1)).toList = repL zv.cells.toList (n + 1) := rep_range zv.cells (n + 1)
              have : (do pure (.value (← Builtin.clear_ #[t] ty #[.slice (some ⟨l.blk, off, none⟩) (n + 1) cap])) : Sem Next).run P w =
                  .ok (.value (.tuple #[])) (w.setRow l.blk (arr.toList.take off ++ repL zv.cells.toList (n + 1) ++ arr.toList.drop (off + (repL zv.cells.toList (n + 1)).length)).toArray) := by
                simp [Builtin.clear_, run_underlying ht, Result.andThen, hz4, hzc, hst]
              rw [this, hrl]
              exact ⟨_, _, _, h7, Rho.le.refl ρ, HH, VRel.undef ρ⟩
        · exact hk.elim
      · exact hk.elim
    · exact hk.elim
  · exact hk.elim
theorem range_sound (H : HRel P B w0 ρ h w) {t : TypeId} {x x' : Value} (hx : VRel ρ x x') {k : Cont} (hk : rangeOp P t x h k) :
    Post P B w0 ρ k ((do pure (.value (← Instr.range t x')) : Sem Next).run P w) := by
  unfold rangeOp at hk
  split at hk
  · rename_i kt et hu
    unfold rangeE at hk
    split at hk
    · have : x' = .map none := by cases hx; rfl
      subst this
      have hr := Go.run_range_nilMap (P := P) w t kt et hu
      simp only [Sem.run_bind, hr, Result.andThen, Sem.run_pure]
      refine ⟨_, _, _, hk, H.fresh ⟨w.heap.size, 0, true⟩, H.push _ _ ⟨w.heap.size, 0, true⟩ rfl ⟨rfl, H.size, none, heap_alloc_new w _, trivial⟩, .ptr h.next 0 ⟨w.heap.size, 0, true⟩ (by simp [Rho.push])⟩
    · rename_i r
      split at hk
      · rename_i es clock ho
        obtain ⟨l, es', hl, rfl, hown, hB, hblk, hes⟩ := H.mapAt ho hx
        have hr := Go.run_range_map (P := P) w t kt et l.blk _ clock hu hblk
        simp only [Sem.run_bind, hr, Result.andThen, Sem.run_pure]
        refine ⟨_, _, _, hk, H.fresh ⟨w.heap.size, 0, true⟩, H.push _ _ ⟨w.heap.size, 0, true⟩ rfl ⟨rfl, H.size, some l.blk, heap_alloc_new w _, l, H.fresh _ _ _ hl, rfl⟩, .ptr h.next 0 ⟨w.heap.size, 0, true⟩ (by simp [Rho.push])⟩
      · exact hk.elim
    · exact hk.elim
  · exact hk.elim
theorem MRel.mem {es es' : List MapEntry} (hr : MRel ρ es es') {e' : MapEntry} (he : e' ∈ es') : ∃ e ∈ es, ERel ρ e e' := by
  induction hr with
  | nil => simp at he
  | cons hh _ ih =>
    rcases List.mem_cons.1 he with rfl | he
    · exact ⟨_, by simp, hh⟩
    · obtain ⟨e, h1, h2⟩ := ih he
      exact ⟨e, by simp [h1], h2⟩
theorem MRel.mem' {es es' : List MapEntry} (hr : MRel ρ es es') {e : MapEntry} (he : e ∈ es) : ∃ e' ∈ es', ERel ρ e e' := by
  induction hr with
  | nil => simp at he
  | cons hh _ ih =>
    rcases List.mem_cons.1 he with rfl | he
    · exact ⟨_, by simp, hh⟩
    · obtain ⟨e, h1, h2⟩ := ih he
      exact ⟨e, by simp [h1], h2⟩
theorem next_sound (H : HRel P B w0 ρ h w) {ty : TypeId} {isS : Bool} {x x' : Value} (hx : VRel ρ x x') {k : Cont} (hk : nextE x isS h k) :
    Post P B w0 ρ k ((do pure (.value (← Instr.next x' isS ty)) : Sem Next).run P w) := by
  unfold nextE at hk
  split at hk
  · rename_i i
    split at hk
    · rename_i since seen last ho
      obtain ⟨li, hli, g1, g2, m', g3, g4⟩ := H.obj _ _ ho
      cases hx with
      | lit _ e => simp [lit1] at e
      | ptr _ _ l' hl' =>
        have : l' = li := by rw [hli] at hl'; exact (Option.some.inj hl').symm
        subst this
        cases m' with
        | some b => exact g4.elim
        | none =>
          have : (do pure (.value (← Instr.next (.pointer (some ⟨l'.blk, 0, none⟩)) false ty)) : Sem Next).run P w = .ok (.value (.tuple #[.bool false])) w := by
            simp only [Instr.next, getObj, Sem.run_bind, Sem.run, g3, Result.andThen]
            rfl
          rw [this]
          exact ⟨_, _, _, hk, Rho.le.refl ρ, H, .tupleL (l := [.bool false]) (.cons (VRel.bool ρ false) .nil)⟩
    · rename_i r since seen last ho
      split at hk
      · rename_i es clock hm
        obtain ⟨⟨hold, hsc⟩, hk0, hk1⟩ := hk
        obtain ⟨li, hli, g1, g2, m', g3, g4⟩ := H.obj _ _ ho
        obtain ⟨lm, hlm, q1, q2, es', q3, q4⟩ := H.obj _ _ hm
        cases m' with
        | none => exact g4.elim
        | some bm =>
          obtain ⟨lr, h5, h6⟩ := g4
          have : lr = lm := by rw [hlm] at h5; exact (Option.some.inj h5).symm
          subst this
          subst h6
          cases hx with
          | lit _ e => simp [lit1] at e
          | ptr _ _ l' hl' =>
            have : l' = li := by rw [hli] at hl'; exact (Option.some.inj hl').symm
            subst this
            have hold' : ∀ x ∈ es'.toList, x.born < since := fun x hx => by
              obtain ⟨e, he, hr⟩ := q4.mem hx
              rw [← hr.2.1]; exact (hold e he).1
            rcases Go.run_next_at (P := P) w ty l'.blk lr.blk since last seen.toArray es' clock g3 q3 hold' hsc with ⟨hz, hrun⟩ | ⟨e', he', w1, hw1, hrun⟩
            · simp only [Sem.run_bind, hrun, Result.andThen, Sem.run_pure]
              refine ⟨_, _, _, hk0 ?_, Rho.le.refl ρ, H, .tupleL (l := [.bool false]) (.cons (VRel.bool ρ false) .nil)⟩
              unfold leftE
              rw [List.filter_eq_nil_iff]
              intro e he hc
              obtain ⟨e', he', hr⟩ := q4.mem' he
              have : e' ∈ (leftOf es' seen.toArray).toList := by
                unfold leftOf
                simp only [Array.toList_filter, List.mem_filter]
                refine ⟨he', ?_⟩
                rw [← hr.2.1]
                simpa using hc
              rw [Array.eq_empty_of_size_eq_zero hz] at this
              simp at this
            · have hel : e' ∈ es'.toList ∧ (!seen.contains e'.born) = true := by
                unfold leftOf at he'
                simp only [Array.toList_filter, List.mem_filter] at he'
                exact ⟨he'.1, by simpa using he'.2⟩
              obtain ⟨e, he, hr⟩ := q4.mem hel.1
              have hin : e ∈ leftE es seen := by
                unfold leftE
                rw [List.mem_filter]
                exact ⟨he, by rw [hr.2.1]; exact hel.2⟩
              simp only [Sem.run_bind, hrun, Result.andThen, Sem.run_pure]
              have h7 := hk1 e hin
              have Hd : HRel P B w0 ρ h w1 := by
                rcases hw1 with rfl | rfl
                · exact H
                · exact H.draw _
              have g3' : w1.heap[l'.blk]? = some (.mapIter (some lr.blk) since seen.toArray last) := by
                rcases hw1 with rfl | rfl <;> exact g3
              have hlt : l'.blk < w1.heap.size := (Array.getElem?_eq_some_iff.1 g3').1
              refine ⟨_, _, _, h7, Rho.le.refl ρ, Hd.set ho hli g1 g2 rfl rfl rfl (by simp [ChangeMaps.setBlock]) (fun q _ hq => ?_) ?_, .tupleL (l := [.bool true, e.key, e.val]) (.cons (VRel.bool ρ true) (.cons ?_ (.cons hr.2.2 .nil)))⟩
              · simp only [ChangeMaps.setBlock]
                rw [Array.getElem?_setIfInBounds]
                rw [if_neg (fun e => hq e.symm)]
              · refine ⟨g1, g2, some lr.blk, ?_, lr, hlm, rfl⟩
                simp only [ChangeMaps.setBlock]
                rw [Array.getElem?_setIfInBounds, if_pos rfl, if_pos hlt]
                simp [hr.2.1]
              · rw [← hr.1]; exact VRel.of_lit (hold e he).2
      · exact hk.elim
    · exact hk.elim
  · exact hk.elim
end
end Go.Abs
end

section
set_option linter.unusedSimpArgs false
set_option linter.unusedVariables false
namespace Go.Abs
open Go.RowKit (Below)

/-- What an oracle says of calls holds. -/
def OracleOk (P : Program) (B : Nat) (w0 : World) (C : Oracle) : Prop :=
  ∀ g args h k, C g args h k → ∀ w ρ args', HRel P B w0 ρ h w → LRel ρ args args'.toList → Post P B w0 ρ k ((callFunc g args').run P w)

section
variable {P : Program} {B : Nat} {w0 w : World} {ρ : Rho} {h : St} {C : Oracle}

theorem call_sound (HC : OracleOk P B w0 C) (H : HRel P B w0 ρ h w) {f f' : Value} {args args' : Array Value} (hf : VRel ρ f f') (ha : LRel ρ args.toList args'.toList) {k : Cont} (hk : callE C f args.toList h k) :
    Post P B w0 ρ k ((do let d ← Deferred.ofValue f' args'; invoke d.target d.args : Sem Next).run P w) := by
  unfold callE at hk
  split at hk
  · rename_i g first captured
    cases hf with
    | lit _ e => simp [lit1] at e
    | func fn a b a' b' h1 h2 h3 h4 =>
      have : (do let d ← Deferred.ofValue (.func (.func g) a' b') args'; invoke d.target d.args : Sem Next).run P w = (callFunc g (a' ++ args' ++ b')).run P w := by
        simp [Deferred.ofValue, invoke, Result.andThen]
      rw [this]
      refine HC _ _ _ _ hk w ρ _ H ?_
      simp only [Array.toList_append]
      exact ((LRel.of_array h1 h3).append ha).append (LRel.of_array h2 h4)
  · exact hk.elim

theorem loadVar_of_at {t : TypeId} {a : Addr} {v : Value} {w' : World} (h : (Instr.loadAt t (.pointer (some a))).run P w = .ok v w') : (loadVar t a).run P w = .ok v w' := by
  simpa [Instr.loadAt, Instr.sureAddr, Result.andThen] using h
theorem loadV_ptr_of {g : Bool} {n : Nat} {p p' v : Value} (hp : VRel ρ p p') (hv : loadV g n p h = some v) : ∃ a, p' = .pointer (some a) := by
  unfold loadV at hv
  split at hv
  · cases hp with
    | lit _ e => simp [lit1] at e
    | ptr _ _ l hl => exact ⟨_, rfl⟩
  · cases hv
theorem wrapNil_run (ts : Array TypeId) (t : TypeId) (a : Addr) (x y : String) : (Builtin.ssaWrapNilChk_ ts t #[.pointer (some a), strVal x, strVal y]).run P w = .ok (.pointer (some a)) w := rfl
theorem invoke_sound (HC : OracleOk P B w0 C) (H : HRel P B w0 ρ h w) {r r' : Value} {name : String} {args args' : List Value} (hr : VRel ρ r r') (ha : LRel ρ args args') {k : Cont} (hk : invokeE P C name r args h k) :
    Post P B w0 ρ k ((callMethod r' name args'.toArray).run P w) := by
  unfold invokeE at hk
  split at hk
  · rename_i t v
    cases hr with
    | lit _ e => simp [lit1] at e
    | iface _ _ v' hv =>
      have fin : ∀ (f : FuncId) (x x' : Value), VRel ρ x x' → C f (x :: args) h k → (method (P.types.size + Made.depth) t v' name).run P w = .ok (f, x') w → Post P B w0 ρ k ((callMethod (.iface t v') name args'.toArray).run P w) := by
        intro f x x' hx hC hm
        have : (callMethod (.iface t v') name args'.toArray).run P w = (callFunc f (#[x'] ++ args'.toArray)).run P w := by
          simp [callMethod, hm, Result.andThen]
        rw [this]
        refine HC _ _ _ _ hC w ρ _ H ?_
        simp only [Array.toList_append]
        exact .cons hx ha
      have fuel : P.types.size + Made.depth = (P.types.size + (Made.depth - 1)) + 1 := by
        have : 0 < Made.depth := by decide
        omega
      unfold methOf at hk
      cases hi : P.info? t with
      | none => simp [hi] at hk
      | some i =>
        simp only [hi] at hk
        cases hf : i.methods.find? (fun m => m.name == name) with
        | none => simp [hf] at hk
        | some m =>
          cases hu : P.underlying t with
          | none => simp [hf, hu] at hk
          | some d =>
            cases d <;> simp only [hf, hu] at hk <;> try exact hk.elim
            rename_i e
            have hm0 : ∀ (x : Sem (FuncId × Value)), True := fun _ => trivial
            cases hp : m.path.toList with
            | cons a b => simp [hp] at hk
            | nil =>
              have hp' : m.path = #[] := Array.ext' (by simpa using hp)
              cases hg : m.func with
              | none => simp [hp, hg] at hk
              | some fb =>
                obtain ⟨f, b⟩ := fb
                cases b with
                | true =>
                  simp only [hp, hg] at hk
                  refine fin f v v' hv hk ?_
                  rw [fuel]
                  simp [method, typeInfo, hi, hf, hp, hg, follow, receiverAt, run_underlying hu, Place.get, Result.andThen]
                | false =>
                  simp only [hp, hg] at hk
                  cases ha' : aggT P e with
                  | none => simp [ha'] at hk
                  | some g =>
                    cases hj : P.info? e with
                    | none => simp [ha', hj] at hk
                    | some j =>
                      simp only [ha', hj] at hk
                      cases hl : loadV g j.size v h with
                      | none => simp [hl, bindV] at hk
                      | some x =>
                        rw [hl] at hk
                        simp only [bindV] at hk
                        obtain ⟨x', h1, h2⟩ := loadV_sound H ha' hj hv hl
                        obtain ⟨a, rfl⟩ := loadV_ptr_of hv hl
                        refine fin f x x' h2 hk ?_
                        rw [fuel]
                        have h3 := loadVar_of_at h1
                        simp [method, typeInfo, hi, hf, hp', hg, follow, receiverAt, run_underlying hu, Place.get, wrapNil_run, asAddr, h3, Result.andThen]
  · exact hk.elim

theorem two_of_map {f : Operand → Value} {l : List Operand} {x y : Value} (h : l.map f = [x, y]) : ∃ p q, l = [p, q] ∧ f p = x ∧ f q = y := by
  match l, h with
  | [p, q], h => simp at h; exact ⟨p, q, rfl, h.1, h.2⟩
theorem opE_sound (HC : OracleOk P B w0 C) (H : HRel P B w0 ρ h w) {ev ev' : Operand → Value} (hev : ∀ x, VRel ρ (ev x) (ev' x)) {o : Oper} (he : isEff P o.op = true) {k : Cont} (hk : opE P C o.op ev h k) :
    Post P B w0 ρ k ((execOp ev' o).run P w) := by
  obtain ⟨dst, op, type, pos, after, guard⟩ := o
  simp only at hk he
  unfold opE at hk
  cases op <;> simp only at hk <;> try exact hk.elim
  case alloc t => exact alloc_sound H hk
  case box t x => exact box_sound H (hev x) hk
  case buildSlice t len parts => exact buildSlice_sound H hev hk
  case store t a x => exact store_sound H (hev a) (hev x) hk
  case makeMap t r =>
    unfold makeMapOp at hk
    split at hk
    · exact makeMap_sound H hk
    · exact hk.elim
  case makeSlice t l c => exact makeSlice_sound H (hev l) (hev c) hk
  case mapUpdate t m kk x => exact mapUpdate_sound H (hev m) (hev kk) (hev x) hk
  case insert t m kk x => exact mapUpdate_sound H (hev m) (hev kk) (hev x) hk
  case mapEntry t m kk => exact mapEntry_sound H (hev m) (hev kk) hk
  case entryStore t m s x => exact entryStore_sound H (hev m) (hev s) (hev x) hk
  case range t x => exact range_sound H (hev x) hk
  case next x b => exact next_sound H (hev x) hk
  case convert s d x =>
    refine toBytes_sound H (hev x) ?_ hk
    simp only [isEff] at he
    split at he
    · rename_i hs _; exact ⟨_, hs⟩
    · cases he
  case call c =>
    unfold callOp at hk
    obtain ⟨callee, args, argTypes⟩ := c
    cases callee with
    | value f =>
      simp only at hk
      have := call_sound HC H (args := args.map ev) (args' := args.map ev') (hev f) (by simp only [Array.toList_map]; exact LRel.map hev args.toList) (by simpa using hk)
      simpa only [execOp, resolve] using this
    | invoke r n =>
      simp only at hk
      have := invoke_sound HC H (name := n) (hev r) (LRel.map hev args.toList) hk
      have e : (args.toList.map ev').toArray = args.map ev' := Array.ext' (by simp)
      rw [e] at this
      have ex : ((#[ev' r] ++ args.map ev').extract 1 (#[ev' r] ++ args.map ev').size) = args.map ev' := by
        apply Array.ext'
        simp [List.take_of_length_le]
      have e0 : (#[ev' r] ++ args.map ev')[0]? = some (ev' r) := by
        rw [← Array.getElem?_toList, Array.toList_append]
        rfl
      have e2 : (execOp ev' ⟨dst, .call ⟨.invoke r n, args, argTypes⟩, type, pos, after, guard⟩) = callMethod (ev' r) n (args.map ev') := by
        show (do let d ← (pure { target := .fn (.method n) #[], args := #[ev' r] ++ args.map ev' } : Sem Deferred); invoke d.target d.args) = _
        rw [pure_bind]
        simp only [invoke, e0, ex]
      rw [e2]
      exact this
    | builtin b =>
      simp only at hk
      unfold builtinE at hk
      split at hk
      · split at hk
        · rename_i t u x y hts hxs
          have ht : argTypes = #[t, u] := Array.ext' (by simpa using hts)
          subst ht
          obtain ⟨p, q, hpq, rfl, rfl⟩ := two_of_map hxs
          have ha : args = #[p, q] := Array.ext' (by simpa using hpq)
          subst ha
          simpa [execOp, resolve, invoke, builtin] using append_sound H (ty := type) (hev p) (hev q) hk
        · exact hk.elim
      · split at hk
        · rename_i t ts m x hts hxs
          obtain ⟨p, q, hpq, rfl, rfl⟩ := two_of_map hxs
          have ha : args = #[p, q] := Array.ext' (by simpa using hpq)
          subst ha
          have h0 : argTypes[0]? = some t := by
            have : argTypes.toList[0]? = some t := by rw [hts]; rfl
            simpa using this
          simpa [execOp, resolve, invoke, builtin] using delete_sound H (ty := type) (ts := argTypes) (xs := #[ev' p, ev' q]) h0 rfl rfl (hev p) (hev q) hk
        · exact hk.elim
      · split at hk
        · rename_i t u x y hts hxs
          have ht : argTypes = #[t, u] := Array.ext' (by simpa using hts)
          subst ht
          obtain ⟨p, q, hpq, rfl, rfl⟩ := two_of_map hxs
          have ha : args = #[p, q] := Array.ext' (by simpa using hpq)
          subst ha
          simpa [execOp, resolve, invoke, builtin] using copy_sound H (ty := type) (hev p) (hev q) hk
        · exact hk.elim
      · split at hk
        · rename_i t x hts hxs
          have ht : argTypes = #[t] := Array.ext' (by simpa using hts)
          subst ht
          obtain ⟨p, hpq, rfl⟩ : ∃ p, args.toList = [p] ∧ ev p = x := by
            match args.toList, hxs with
            | [p], h => simp at h; exact ⟨p, rfl, h⟩
          have ha : args = #[p] := Array.ext' (by simpa using hpq)
          subst ha
          simpa [execOp, resolve, invoke, builtin] using clear_sound H (ty := type) (hev p) hk
        · exact hk.elim
      · exact hk.elim
end
end Go.Abs
end

section
set_option linter.unusedSimpArgs false
set_option linter.unusedVariables false
namespace Go.Abs
open Go.RowKit (Below)

/-- An abstract state stands for a state, behind a call's start. -/
def SRel (P : Program) (B : Nat) (w0 : World) (ρ0 : Rho) (t : List Value) (h : St) (a : Act) (w : World) : Prop :=
  ∃ ρ, ρ0.le ρ ∧ LRel ρ t a.tmps.toList ∧ HRel P B w0 ρ h w ∧ a.defers = []

theorem revF_eq : ∀ (t r : List Value) (k : List Value → Prop), revF t r k = k (t.reverse ++ r)
  | [], r, k => rfl
  | v :: t, r, k => by
    have h := revF_eq t (v :: r) k
    rw [List.reverse_cons, List.append_assoc]
    exact h
theorem forceT_eq (t : List Value) (k : List Value → Prop) : forceT t k = k t := by
  unfold forceT
  rw [revF_eq, revF_eq]; simp
theorem tidyT_eq (d : Option Nat) (t : List Value) (k : List Value → Prop) : tidyT d t k = k t := by
  unfold tidyT
  split
  · split
    · rw [forceT_eq]
    · rfl
  · rfl
theorem getK_eq : ∀ (t : List Value) (n : Nat) (k : Value → Prop), getK t n k = k (getT t n)
  | [], n, k => rfl
  | v :: _, 0, k => rfl
  | _ :: t, n + 1, k => getK_eq t n k
theorem evK_eq (P : Program) (t : List Value) (x : Operand) (k : Value → Prop) : evK P t x k = k (evA P t x) := by
  unfold evK; cases x <;> first | rfl | exact getK_eq _ _ _

section
variable {P : Program} {B : Nat} {w0 : World} {ρ0 : Rho} {C : Oracle}

theorem SRel.put {t : List Value} {h : St} {a : Act} {w : World} (d : Option Tmp) (S : SRel P B w0 ρ0 t h a w) : SRel P B w0 ρ0 (putT t d undef) h (a.put d undef) w := by
  obtain ⟨ρ, h1, h2, h3, h4⟩ := S
  exact ⟨ρ, h1, putT_rel h2 d (VRel.undef ρ), h3, by cases d <;> exact h4⟩
theorem put_defers (a : Act) (d : Option Tmp) (v : Value) : (a.put d v).defers = a.defers := by cases d <;> rfl

theorem stepK_post (HC : OracleOk P B w0 C) {ρ : Rho} {t : List Value} {h : St} {a : Act} {w : World} (hr : LRel ρ t a.tmps.toList) (H : HRel P B w0 ρ h w) {o : Oper} {k : Cont} (hk : stepK P C o.op t h k) :
    Post P B w0 ρ k ((execOp a.eval o).run P w) := by
  unfold stepK at hk
  split at hk
  · rename_i x hx
    rw [evK_eq] at hk
    have : (execOp a.eval o).run P w = .ok (.value (a.eval x)) w := by
      obtain ⟨dst, op, type, pos, after, guard⟩ := o
      simp only [moved] at hx
      cases op <;> simp only at hx <;> cases hx <;> rfl
    rw [this]
    exact ⟨_, h, ρ, hk, Rho.le.refl ρ, H, evA_rel H hr x⟩
  · unfold opK at hk
    split at hk
    · rename_i he
      exact opE_sound HC H (fun x => evA_rel H hr x) he hk
    · cases hv : opV P o.op (evA P t) h with
      | none => rw [hv] at hk; exact hk.elim
      | some v =>
        rw [hv] at hk
        obtain ⟨v', h1, h2⟩ := opV_sound H (fun x => evA_rel H hr x) hv
        rw [h1]
        exact ⟨_, h, ρ, hk, Rho.le.refl ρ, H, h2⟩
theorem Post.upon {ρ : Rho} {o : Oper} {a : Act} {k : Cont} {r : Result Next} {t : List Value} (h0 : ρ0.le ρ) (hr : LRel ρ t a.tmps.toList) (hd : a.defers = []) (hp : Post P B w0 ρ k r) {next : Act → World → Prop} {Q : Exit → Act → World → Prop}
    (hn : ∀ v v' h' w', k v h' → SRel P B w0 ρ0 (putT t o.dst v) h' (a.put o.dst v') w' → next (a.put o.dst v') w') : o.upon P a next Q r := by
  have done : ∀ v v' h' ρ' w', k v h' → ρ.le ρ' → HRel P B w0 ρ' h' w' → VRel ρ' v v' → next (a.put o.dst v') w' :=
    fun v v' h' ρ' w' h1 h2 h3 h4 => hn v v' h' w' h1 ⟨ρ', h0.trans h2, putT_rel (hr.mono h2) _ h4, h3, by rw [put_defers]; exact hd⟩
  unfold Post at hp
  split at hp
  · obtain ⟨v, h', ρ', h1, h2, h3, h4⟩ := hp
    exact done _ _ _ _ _ h1 h2 h3 h4
  · obtain ⟨h', ρ', h1, h2, h3⟩ := hp
    exact done _ _ _ _ _ h1 h2 h3 (VRel.undef ρ')
  · refine Calls.mono hp ?_
    rintro e w'' ⟨v, v', h', ρ', rfl, h1, h2, h3, h4⟩
    exact done _ _ _ _ _ h1 h2 h3 h4
  · exact hp.elim
theorem stepK_wp (HC : OracleOk P B w0 C) {t : List Value} {h : St} {a : Act} {w : World} (S : SRel P B w0 ρ0 t h a w) {o : Oper} {k : Cont} (hk : stepK P C o.op t h k) {next : Act → World → Prop} {Q : Exit → Act → World → Prop}
    (hn : ∀ v v' h' w', k v h' → SRel P B w0 ρ0 (putT t o.dst v) h' (a.put o.dst v') w' → next (a.put o.dst v') w') : o.wp P a w next Q := by
  obtain ⟨ρ, h1, h2, h3, h4⟩ := S
  exact Post.upon h1 h2 h4 (stepK_post HC h2 h3 hk) hn

/-! ### guards -/
def GuardOk (j : Nat) (want : Bool) (l : List Oper) : Prop := ∀ o ∈ l, o.guard = some (j, want)
def flatG : List Group → List Oper
  | [] => []
  | .one o :: r => o :: flatG r
  | .many _ _ l :: r => l ++ flatG r
def GroupsOk : List Group → Prop
  | [] => True
  | .one o :: r => o.guard = none ∧ GroupsOk r
  | .many j want l :: r => GuardOk j want l ∧ GroupsOk r
theorem sameG_eq {i j : Nat} {a b : Bool} (h : sameG i a j b = true) : i = j ∧ a = b := by
  unfold sameG at h
  split at h
  · exact ⟨Nat.eq_of_beq_eq_true h, rfl⟩
  · exact ⟨Nat.eq_of_beq_eq_true h, rfl⟩
  · cases h
theorem addG_flat (o : Oper) (r : List Group) (hr : GroupsOk r) : flatG (addG o r) = o :: flatG r ∧ GroupsOk (addG o r) := by
  unfold addG
  split
  · rename_i i a j b l r' hg
    split
    · rename_i hs
      obtain ⟨rfl, rfl⟩ := sameG_eq hs
      refine ⟨rfl, ?_, hr.2⟩
      intro x hx
      cases hx with
      | head => exact hg
      | tail _ hx => exact hr.1 x hx
    · refine ⟨rfl, ?_, hr⟩
      intro x hx
      cases hx with
      | head => exact hg
      | tail _ hx => cases hx
  · rename_i hg _
    refine ⟨rfl, ?_, hr⟩
    intro x hx
    cases hx with
    | head => exact hg
    | tail _ hx => cases hx
  · rename_i hg
    exact ⟨rfl, hg, hr⟩
theorem groupsOf_flat : ∀ l : List Oper, flatG (groupsOf l) = l ∧ GroupsOk (groupsOf l)
  | [] => ⟨rfl, trivial⟩
  | o :: l => by
    obtain ⟨h1, h2⟩ := groupsOf_flat l
    have := addG_flat o (groupsOf l) h2
    rw [h1] at this
    exact this
theorem guardSlot_spec {ops : Array Oper} {j d : Nat} {l : List Oper} (h : guardSlot ops j l = some d) : (ops[j]?).bind (·.dst) = some d ∧ free d l = true := by
  unfold guardSlot at h
  split at h
  · rename_i d' hd
    split at h
    · rename_i hf; cases h; exact ⟨hd, hf⟩
    · cases h
  · cases h
theorem wanted_yes {ops : Array Oper} {a : Act} {j d : Nat} {want : Bool} {o : Oper} (hd : (ops[j]?).bind (·.dst) = some d) (hg : o.guard = some (j, want)) (ha : a.tmps[d]? = some (.bool want)) :
    Region.wanted o (yielded ops a.tmps) = true := by
  simp [Region.wanted, hg, yielded, hd, ha]
theorem wanted_no {ops : Array Oper} {a : Act} {j d : Nat} {want : Bool} {o : Oper} (hd : (ops[j]?).bind (·.dst) = some d) (hg : o.guard = some (j, want)) (ha : a.tmps[d]? ≠ some (.bool want)) :
    Region.wanted o (yielded ops a.tmps) = false := by
  simp only [Region.wanted, hg, yielded, hd, Option.bind_some]
  split
  · rename_i b hb
    simp only [beq_eq_false_iff_ne, ne_eq, Option.some.injEq]
    intro e; subst e; exact ha hb
  · rfl
theorem guardK_spec {ρ : Rho} {t : List Value} {a : Act} (hr : LRel ρ t a.tmps.toList) {d : Nat} {want : Bool} {yes no : Prop} (h : guardK (getT t d) want yes no) :
    (yes ∧ a.tmps[d]? = some (.bool want)) ∨ (no ∧ a.tmps[d]? ≠ some (.bool want)) := by
  have hv := getT_rel hr d
  have hg : a.tmps.toList.getD d Go.undef = (a.tmps[d]?).getD Go.undef := by simp [List.getD]
  rw [hg] at hv
  unfold guardK at h
  split at h
  · rename_i b hb
    rw [hb] at hv
    have he := hv.bool_inv
    have hs : a.tmps[d]? = some (.bool b) := by
      cases hx : a.tmps[d]? with
      | none => rw [hx] at he; simp [Go.undef] at he
      | some v => rw [hx] at he; simp at he; rw [he]
    rw [hs]
    split at h
    · exact .inl ⟨h, rfl⟩
    · exact .inl ⟨h, rfl⟩
    · rename_i h1 h2
      refine .inr ⟨h, ?_⟩
      intro e
      injection e with e; injection e with e
      subst e
      cases b
      · exact h2 rfl rfl
      · exact h1 rfl rfl
  · rename_i vs hb
    split at h
    · rename_i hvs
      refine .inr ⟨h, ?_⟩
      intro e
      rw [e, hb] at hv
      cases hv
      simp at hvs
    · exact h.elim
  · exact h.elim
theorem put_other {a : Act} {o : Oper} {d : Nat} {l : List Oper} (hf : free d (o :: l) = true) (v : Value) : (a.put o.dst v).tmps[d]? = a.tmps[d]? ∧ free d l = true := by
  simp only [free, Bool.and_eq_true] at hf
  refine ⟨?_, hf.2⟩
  cases ho : o.dst with
  | none => rfl
  | some e =>
    rw [ho] at hf
    have : e ≠ d := by
      intro he; subst he
      have h1 := hf.1
      simp only [Bool.not_eq_true'] at h1
      rw [Nat.beq_refl] at h1; cases h1
    simp [Act.put, Array.getElem?_setIfInBounds, this]

theorem getT_append (acc : List Value) (v : Value) (r : List Value) : getT (acc ++ v :: r) acc.length = v := by
  induction acc with
  | nil => rfl
  | cons x l ih => exact ih

theorem runG_sound (HC : OracleOk P B w0 C) {ops : Array Oper} {Q : Exit → Act → World → Prop} {j d : Nat} {want : Bool} (hd : (ops[j]?).bind (·.dst) = some d) {rest : List Oper} {J : List Value → St → Prop} :
    ∀ (l : List Oper) (t : List Value) (h : St) (acc : List Value) (a : Act) (w : World), GuardOk j want l → free d l = true → a.tmps[d]? = some (.bool want) → SRel P B w0 ρ0 t h a w → runG P C l t h acc J →
      (∀ vs h' a' w', J (acc ++ vs) h' → SRel P B w0 ρ0 (putsT (acc ++ vs) l acc.length t) h' a' w' → wpList P ops Q rest a' w') → wpList P ops Q (l ++ rest) a w
  | [], t, h, acc, a, w, _, _, _, S, hk, hn => hn [] h a w (by simpa [runG] using hk) S
  | o :: l, t, h, acc, a, w, hg, hf, ha, S, hk, hn => by
    show wpList P ops Q (o :: (l ++ rest)) a w
    simp only [wpList]
    rw [if_pos (wanted_yes hd (hg o (List.mem_cons_self ..)) ha)]
    refine .inl (stepK_wp HC S hk ?_)
    intro v v' h' w' hk' S'
    obtain ⟨e1, e2⟩ := put_other (a := a) hf v'
    refine runG_sound HC hd l _ h' (acc ++ [v]) _ w' (fun x hx => hg x (List.mem_cons_of_mem _ hx)) e2 (by rw [e1]; exact ha) S' hk' ?_
    intro vs h2 a2 w2 hJ S2
    refine hn (v :: vs) h2 a2 w2 (by simpa using hJ) ?_
    have : putsT (acc ++ v :: vs) (o :: l) acc.length t = putsT (acc ++ [v] ++ vs) l (acc ++ [v]).length (putT t o.dst v) := by
      simp only [putsT, getT_append, List.append_assoc, List.singleton_append, List.length_append, List.length_singleton]
    rw [this]
    exact S2
theorem putsT_undefs : ∀ (l : List Oper) (pre : List Value) (t : List Value) (n : Nat), pre.length = n → putsT (pre ++ undefs l) l n t = l.foldl (fun t o => putT t o.dst undef) t
  | [], _, _, _, _ => rfl
  | o :: l, pre, t, n, hn => by
    subst hn
    have ih := putsT_undefs l (pre ++ [undef]) (putT t o.dst undef) (pre.length + 1) (by simp)
    simp only [undefs, putsT, List.foldl_cons, getT_append]
    rw [← ih]
    simp
theorem skipG_sound {ops : Array Oper} {Q : Exit → Act → World → Prop} {j d : Nat} {want : Bool} (hd : (ops[j]?).bind (·.dst) = some d) {rest : List Oper} {h : St} :
    ∀ (l : List Oper) (t : List Value) (a : Act) (w : World), GuardOk j want l → free d l = true → a.tmps[d]? ≠ some (.bool want) → SRel P B w0 ρ0 t h a w →
      (∀ a', SRel P B w0 ρ0 (l.foldl (fun t o => putT t o.dst undef) t) h a' w → wpList P ops Q rest a' w) → wpList P ops Q (l ++ rest) a w
  | [], t, a, w, _, _, _, S, hn => hn a S
  | o :: l, t, a, w, hg, hf, ha, S, hn => by
    show wpList P ops Q (o :: (l ++ rest)) a w
    simp only [wpList]
    rw [if_neg (by rw [wanted_no hd (hg o (List.mem_cons_self ..)) ha]; simp)]
    obtain ⟨e1, e2⟩ := put_other (a := a) hf undef
    exact skipG_sound hd l _ _ w (fun x hx => hg x (List.mem_cons_of_mem _ hx)) e2 (by rw [e1]; exact ha) (S.put o.dst) hn

theorem regK_sound (HC : OracleOk P B w0 C) {ops : Array Oper} {Q : Exit → Act → World → Prop} {K : List Value → St → Prop} (hQ : ∀ t h a w, K t h → SRel P B w0 ρ0 t h a w → Q .normal a w) :
    ∀ (gs : List Group) (t : List Value) (h : St) (a : Act) (w : World), GroupsOk gs → SRel P B w0 ρ0 t h a w → regK P C idG ops gs t h K → wpList P ops Q (flatG gs) a w
  | [], t, h, a, w, _, S, hk => hQ t h a w hk S
  | .one o :: r, t, h, a, w, hg, S, hk => by
    show wpList P ops Q (o :: flatG r) a w
    simp only [wpList]
    rw [if_pos (by simp [Region.wanted, hg.1])]
    exact .inl (stepK_wp HC S hk fun v v' h' w' hk' S' => regK_sound HC hQ r _ h' _ w' hg.2 S' (by rw [tidyT_eq] at hk'; exact hk'))
  | .many j want l :: r, t, h, a, w, hg, S, hk => by
    show wpList P ops Q (l ++ flatG r) a w
    simp only [regK] at hk
    split at hk
    · rename_i d hs
      obtain ⟨hd, hf⟩ := guardSlot_spec hs
      obtain ⟨ρ, _, hr, _, _⟩ := id S
      rcases guardK_spec hr hk with ⟨hk, ha⟩ | ⟨hk, ha⟩
      · refine runG_sound HC hd l t h [] a w hg.1 hf ha S hk ?_
        intro vs h' a' w' hJ S'
        simp only [idG, forceT_eq, List.nil_append] at hJ S'
        exact regK_sound HC hQ r _ h' a' w' hg.2 S' hJ
      · refine skipG_sound hd l t a w hg.1 hf ha S ?_
        intro a' S'
        simp only [idG, forceT_eq] at hk
        have := putsT_undefs l [] t 0 rfl
        rw [List.nil_append] at this
        rw [this] at hk
        exact regK_sound HC hQ r _ h a' w hg.2 S' hk
    · exact hk.elim
end
end Go.Abs
end

section
set_option linter.unusedSimpArgs false
set_option linter.unusedVariables false
namespace Go.Abs
open Go.RowKit (Below)

section
variable {P : Program} {B : Nat} {w0 : World} {ρ0 : Rho} {C : Oracle}

/-- What is asked behind an abstract statement is asked behind the statement. -/
def KQ (P : Program) (B : Nat) (w0 : World) (ρ0 : Rho) (K : Kont) (Q : Exit → Act → World → Prop) : Prop :=
  ∀ e t h a w, K e t h → SRel P B w0 ρ0 t h a w → Q e a w
/-- The statements whose order Go leaves open. -/
def DrawOk (P : Program) (B : Nat) (w0 : World) (ρ0 : Rho) (C : Oracle) : Prop :=
  ∀ id ops t h a w K Q, KQ P B w0 ρ0 K Q → SRel P B w0 ρ0 t h a w → Region.lexB .any ops = true → drawK P C idG ops t h (K .normal) → (Code.region id ops true).wp P Q a w
def LoopOk (P : Program) (B : Nat) (w0 : World) (ρ0 : Rho) (keep : List Bool) (L : Looper) : Prop :=
  ∀ c t h a w K Q, KQ P B w0 ρ0 K Q → SRel P B w0 ρ0 t h a w → L c t h K → (Code.loop c).wp P Q a w

theorem SRel.mask {t : List Value} {h : St} {a : Act} {w : World} (S : SRel P B w0 ρ0 t h a w) (keep : List Bool) : SRel P B w0 ρ0 (maskT keep t) h a w := by
  obtain ⟨ρ, h1, h2, h3, h4⟩ := S
  exact ⟨ρ, h1, maskT_rel h2 keep, h3, h4⟩

theorem codeK_sound (HC : OracleOk P B w0 C) (HD : DrawOk P B w0 ρ0 C) {keep : List Bool} {L : Looper} (HL : LoopOk P B w0 ρ0 keep L) :
    ∀ (c : Code) (t : List Value) (h : St) (K : Kont) (Q : Exit → Act → World → Prop) (a : Act) (w : World), KQ P B w0 ρ0 K Q → SRel P B w0 ρ0 t h a w → codeK P C idG keep L c t h K → c.wp P Q a w := by
  intro c
  induction c with
  | skip => intro t h K Q a w hq S hk; exact wp_skip (hq _ _ _ _ _ hk S)
  | region id ops draw =>
    intro t h K Q a w hq S hk
    cases draw with
    | false =>
      obtain ⟨h1, h2⟩ := groupsOf_flat ops.toList
      refine wp_region_list ?_
      rw [← h1]
      exact regK_sound HC (fun t h a w hk S => hq _ _ _ _ _ hk S) _ t h a w h2 S hk
    | true =>
      simp only [codeK] at hk
      split at hk
      · rename_i hB; exact HD id ops t h a w K Q hq S hB hk
      · exact hk.elim
  | seq x y ihx ihy =>
    intro t h K Q a w hq S hk
    refine wp_seq (ihx t h _ _ a w ?_ S hk)
    intro e t' h' a' w' hk' S'
    cases e <;> first
      | exact hq _ _ _ _ _ hk' S'
      | skip
    show y.wp P Q a' w'
    simp only [seqC, nextK] at hk'
    split at hk'
    · rw [forceT_eq] at hk'
      exact ihy _ _ _ _ _ _ hq S' hk'
    · simp only [idG, forceT_eq] at hk'
      exact ihy _ _ _ _ _ _ hq (S'.mask keep) hk'
  | cond c x y ihx ihy =>
    intro t h K Q a w hq S hk
    obtain ⟨ρ, h1, h2, h3, h4⟩ := id S
    have he := evA_rel h3 h2 c
    simp only [codeK, condK] at hk
    split at hk
    · rename_i hv; rw [hv] at he
      exact wp_cond_true he.bool_inv (ihx _ _ _ _ _ _ hq S hk)
    · rename_i hv; rw [hv] at he
      exact wp_cond_false he.bool_inv (ihy _ _ _ _ _ _ hq S hk)
    · exact hk.elim
  | block id c ih =>
    intro t h K Q a w hq S hk
    refine wp_block (ih t h _ _ a w ?_ S hk)
    intro e t' h' a' w' hk' S'
    cases e with
    | exit j =>
      simp only [blockC] at hk'
      simp only [Exit.inBlock]
      split at hk'
      · rename_i hj
        rw [if_pos (Nat.eq_of_beq_eq_true hj)]
        exact hq _ _ _ _ _ hk' S'
      · rename_i hj
        rw [if_neg (Nat.ne_of_beq_eq_false hj)]
        exact hq _ _ _ _ _ hk' S'
    | _ => exact hq _ _ _ _ _ hk' S'
  | loop c ih =>
    intro t h K Q a w hq S hk
    exact HL c _ h a w K Q hq (S.mask keep) hk
  | exit id => intro t h K Q a w hq S hk; exact wp_exit (hq _ _ _ _ _ hk S)
  | label l => intro t h K Q a w hq S hk; exact wp_label (hq _ _ _ _ _ hk S)
  | ret => intro t h K Q a w hq S hk; exact wp_ret (hq _ _ _ _ _ hk S)
  | rangeFunc => intro t h K Q a w hq S hk; exact hk.elim
  | scope => intro t h K Q a w hq S hk; exact hk.elim
  | goto => intro t h K Q a w hq S hk; exact hk.elim
  | refuse => intro t h K Q a w hq S hk; exact hk.elim

theorem loopK_rounds (HC : OracleOk P B w0 C) (HD : DrawOk P B w0 ρ0 C) {keep : List Bool} : ∀ (n : Nat) (c : Code) (t : List Value) (h : St) (a : Act) (w : World) (K : Kont) (Q : Exit → Act → World → Prop),
    KQ P B w0 ρ0 K Q → SRel P B w0 ρ0 t h a w → loopK P C idG keep n c t h K → Code.rounds P c Q n a w
  | 0, c, t, h, a, w, K, Q, _, _, hk => hk.elim
  | n + 1, c, t, h, a, w, K, Q, hq, S, hk => by
    rw [rounds_succ]
    have HL : LoopOk P B w0 ρ0 keep (loopK P C idG keep n) := fun c t h a w K Q hq S hk => wp_loop_rounds n (loopK_rounds HC HD n c t h a w K Q hq S hk)
    refine codeK_sound HC HD HL c t h _ _ a w ?_ S hk
    intro e t' h' a' w' hk' S'
    cases e with
    | normal =>
      simp only [loopC, idG] at hk'
      exact loopK_rounds HC HD n c _ h' a' w' K Q hq (S'.mask keep) hk'
    | _ => exact hq _ _ _ _ _ hk' (S'.mask keep)
theorem loopK_ok (HC : OracleOk P B w0 C) (HD : DrawOk P B w0 ρ0 C) (keep : List Bool) (n : Nat) : LoopOk P B w0 ρ0 keep (loopK P C idG keep n) :=
  fun c t h a w K Q hq S hk => wp_loop_rounds n (loopK_rounds HC HD n c t h a w K Q hq S hk)

/-! ### a function -/
def resF (tmps : Array Value) : ResultVar → Sem Value
  | .tmp t => pure (tmps.getD t undef)
  | .cell b t => do loadVar t (← asAddr (tmps.getD b undef))
theorem results_eq (fn : Func) (tmps : Array Value) : results fn tmps = (do
    let vs ← fn.results.mapM (resF tmps)
    pure (if h : vs.size = 1 then vs[0] else .tuple vs)) := by
  unfold results
  congr 1
theorem resultK_sound {ρ : Rho} {t : List Value} {h : St} {a : Act} {w : World} (hr : LRel ρ t a.tmps.toList) (H : HRel P B w0 ρ h w) {J : List Value → Prop} {f : ResultVar → Sem Value}
    (f1 : ∀ n, f (.tmp n) = pure (a.tmps.getD n undef)) (f2 : ∀ b t, f (.cell b t) = do loadVar t (← asAddr (a.tmps.getD b undef))) :
    ∀ (rs : List ResultVar) (acc : List Value), resultK P t h rs acc J → ∃ vs vs', J (acc ++ vs) ∧ (rs.mapM f).run P w = .ok vs' w ∧ LRel ρ vs vs'
  | [], acc, hk => ⟨[], [], by simpa [resultK] using hk, by simp, .nil⟩
  | .tmp n :: r, acc, hk => by
    obtain ⟨vs, vs', h1, h2, h3⟩ := resultK_sound hr H f1 f2 r _ hk
    refine ⟨getT t n :: vs, a.tmps.getD n undef :: vs', by simpa using h1, ?_, .cons ?_ h3⟩
    · simp only [List.mapM_cons, f1, Sem.run_bind, Sem.run_pure, Result.andThen, h2]
    · have := getT_rel hr n
      have e : a.tmps.toList.getD n Go.undef = a.tmps.getD n Go.undef := by simp [List.getD, Array.getD_eq_getD_getElem?]
      rwa [e] at this
  | .cell b ty :: r, acc, hk => by
    simp only [resultK] at hk
    split at hk
    · rename_i g i hg hi
      cases hv : loadV g i.size (getT t b) h with
      | none => rw [hv] at hk; exact hk.elim
      | some v =>
        rw [hv] at hk
        obtain ⟨vs, vs', h1, h2, h3⟩ := resultK_sound hr H f1 f2 r _ hk
        have hb := getT_rel hr b
        have e : a.tmps.toList.getD b Go.undef = a.tmps.getD b Go.undef := by simp [List.getD, Array.getD_eq_getD_getElem?]
        rw [e] at hb
        obtain ⟨v', q1, q2⟩ := loadV_sound H hg hi hb hv
        refine ⟨v :: vs, v' :: vs', by simpa using h1, ?_, .cons q2 h3⟩
        have q3 : (do loadVar ty (← asAddr (a.tmps.getD b undef)) : Sem Value).run P w = .ok v' w := by
          rw [← q1]
          clear e q1
          generalize a.tmps.getD b Go.undef = x at hb ⊢
          unfold loadV at hv
          split at hv
          · rename_i id off hp
            rw [hp] at hb
            cases hb with
            | lit _ e => simp [lit1] at e
            | ptr => rename_i e3; simp_all [Instr.loadAt, Instr.sureAddr, asAddr]
          · cases hv
        rw [← f2] at q3
        simp only [List.mapM_cons, Sem.run_bind, q3, Result.andThen, h2, Sem.run_pure]
    · exact hk.elim
theorem packL_rel {ρ : Rho} {vs vs' : List Value} (h : LRel ρ vs vs') : VRel ρ (packL vs) (if h : vs'.toArray.size = 1 then vs'.toArray[0] else .tuple vs'.toArray) := by
  cases h with
  | nil => exact VRel.undef ρ
  | cons h1 t =>
    cases t with
    | nil => simpa [packL] using h1
    | cons h2 t =>
      rw [dif_neg (by simp)]
      exact VRel.tupleL (by simpa using LRel.cons h1 (.cons h2 t))
theorem funcK_sound {ρ : Rho} (HC : OracleOk P B w0 C) (HD : DrawOk P B w0 ρ C) {g : FuncId} {fn : Func} (hf : P.funcs[g]? = some fn) (hb : fn.body ≠ none) {keep : List Bool} {n : Nat} {args : List Value} {args' : Array Value} {h : St} {w : World} {K : Cont}
    (H : HRel P B w0 ρ h w) (ha : LRel ρ args args'.toList) (hk : funcK P C idG keep n fn args h fun v h1 => ∃ h2, St.le h2 h1 ∧ K v h2) :
    Calls P g args' w fun e w' => ∃ v v' h' ρ', e = .returned v' ∧ K v h' ∧ ρ.le ρ' ∧ HRel P B w0 ρ' h' w' ∧ VRel ρ' v v' := by
  cases hc : fn.body with
  | none => exact absurd hc hb
  | some c =>
    refine calls_of_wp hf hc ?_
    have hbody : bodyOf fn = c := by simp [bodyOf, hc]
    unfold funcK at hk
    rw [hbody] at hk
    refine codeK_sound (ρ0 := ρ) HC HD (loopK_ok HC HD keep n) c _ h _ _ _ w ?_ ⟨ρ, Rho.le.refl ρ, ?_, H, rfl⟩ hk
    · intro e t' h' a' w' hk' S'
      obtain ⟨ρ', h1, h2, h3, h4⟩ := S'
      have fin : resultK P t' h' fn.results.toList [] (fun l => ∃ h2, St.le h2 h' ∧ K (packL l) h2) →
          a'.defers = [] ∧ ∃ v, (results fn a'.tmps).run P w' = .ok v w' ∧ ∃ u v' hh ρ2, Ending.returned v = .returned v' ∧ K u hh ∧ ρ.le ρ2 ∧ HRel P B w0 ρ2 hh w' ∧ VRel ρ2 u v' := by
        intro hk'
        rw [results_eq, Array.mapM_eq_mapM_toList]
        obtain ⟨vs, vs', ⟨hh, q1, q2⟩, q3, q4⟩ := resultK_sound h2 h3 (f := resF a'.tmps) (fun n => rfl) (fun b t => rfl) _ _ hk'
        refine ⟨h4, _, ?_, packL ([] ++ vs), _, hh, ρ', rfl, q2, h1, h3.weaken q1, packL_rel q4⟩
        simp only [Sem.run_bind, Sem.run_map, q3, Result.andThen, Sem.run_pure]
      cases e with
      | normal => exact fin hk'
      | ret => exact fin hk'
      | _ => exact hk'.elim
    · have hl := ha.length
      simp only [padL, Array.toList_append, Array.toList_replicate]
      have : args.length = args'.size := by simpa using hl
      rw [this]
      refine ha.append ?_
      generalize fn.ntmps - args'.size = m
      induction m with
      | zero => exact .nil
      | succ m ih => exact .cons (VRel.undef ρ) ih
end
end Go.Abs
end

section
set_option linter.unusedSimpArgs false
set_option linter.unusedVariables false
namespace Go.Abs
open Go.RowKit (Below)

section
variable {P : Program}

/-! ### an operation looks at its operands -/
theorem partsV_congr {e : TypeId} {ev ev' : Operand → Value} {n : Nat} : ∀ (l : List (Nat × Operand)), (∀ p ∈ l, ev p.2 = ev' p.2) → partsV P e ev l n = partsV P e ev' l n
  | [], _ => rfl
  | (i, x) :: r, h => by
    simp only [partsV]
    rw [h (i, x) (List.mem_cons_self ..), partsV_congr r fun p hp => h p (List.mem_cons_of_mem _ hp)]
theorem placesOf_congr {fields : Array Field} {ev ev' : Operand → Value} : ∀ (l : List (Nat × Operand)), (∀ p ∈ l, ev p.2 = ev' p.2) → placesOf P fields ev l = placesOf P fields ev' l
  | [], _ => rfl
  | (i, x) :: r, h => by
    simp only [placesOf]
    rw [h (i, x) (List.mem_cons_self ..), placesOf_congr r fun p hp => h p (List.mem_cons_of_mem _ hp)]
theorem opV_congr {op : Op} {ev ev' : Operand → Value} (h : ∀ x ∈ op.operands, ev x = ev' x) (s : St) : opV P op ev s = opV P op ev' s := by
  have pairs : ∀ ps : Array (Nat × Operand), (∀ x ∈ (ps.toList.map (·.2)).toArray, ev x = ev' x) → ∀ p ∈ ps.toList, ev p.2 = ev' p.2 :=
    fun ps hp p hm => hp p.2 (by simpa using ⟨p.1, by simpa using hm⟩)
  cases op <;> simp only [Op.operands] at h <;> simp only [opV]
  case build t ps =>
    have := pairs ps h
    simp only [buildOp, partsV_congr ps.toList this, placesOf_congr ps.toList this]
  case makeFunc fn first captured =>
    rw [Array.map_congr_left (xs := first) fun x hx => h x (by simp [hx]), Array.map_congr_left (xs := captured) fun x hx => h x (by simp [hx])]
  case slice t x lo hi mx => cases lo <;> cases hi <;> cases mx <;> simp_all
  case call c =>
    unfold callV
    have : c.args.toList.map ev = c.args.toList.map ev' := List.map_congr_left fun x hx => h x (by simp [Call.operands]; exact .inr (by simpa using hx))
    rw [this]
  all_goals (first | rfl | (simp_all; done))
theorem opE_congr {C : Oracle} {op : Op} {ev ev' : Operand → Value} (h : ∀ x ∈ op.operands, ev x = ev' x) (s : St) (k : Cont) : opE P C op ev s k = opE P C op ev' s k := by
  have pairs : ∀ ps : Array (Nat × Operand), (∀ x ∈ (ps.toList.map (·.2)).toArray, ev x = ev' x) → ∀ p ∈ ps.toList, ev p.2 = ev' p.2 :=
    fun ps hp p hm => hp p.2 (by simpa using ⟨p.1, by simpa using hm⟩)
  cases op <;> simp only [Op.operands] at h <;> simp only [opE]
  case buildSlice t n ps =>
    have := pairs ps h
    simp only [buildSliceOp]
    split
    · rename_i e he
      have hp : ∀ n, partsV P e ev ps.toList n = partsV P e ev' ps.toList n := fun n => partsV_congr ps.toList this
      simp only [hp]
    · rfl
  case call c =>
    unfold callOp
    have h1 : c.args.toList.map ev = c.args.toList.map ev' := List.map_congr_left fun x hx => h x (by simp [Call.operands]; exact .inr (by simpa using hx))
    rw [h1]
    cases hc : c.callee with
    | value f =>
      have : ev f = ev' f := h f (by simp [Call.operands, hc])
      simp only [this]
    | invoke f n =>
      have : ev f = ev' f := h f (by simp [Call.operands, hc])
      simp only [this]
    | _ => rfl
  all_goals (first | rfl | (simp_all; done))
/-- What neither does nor reads is the same in every heap. -/
theorem opV_still {op : Op} (he : isEff P op = false) (hr : isRead P op = false) (ev : Operand → Value) (s s' : St) : opV P op ev s = opV P op ev s' := by
  cases op <;> simp only [opV] <;> first
    | rfl
    | (simp [isRead] at hr; done)
    | skip
  case slice t x lo hi mx =>
    cases mx with
    | some m => rfl
    | none =>
      simp only [isRead] at hr
      simp only
      unfold sliceOp
      split
      · rfl
      · rfl
      · rename_i n e hu; simp [hu] at hr
      · rfl
  case convert a b x =>
    simp only [isRead] at hr
    simp only [convV]
    split
    · rfl
    · rename_i e h1 h2; simp [h1, h2] at hr
    · rfl
    · rfl
  case call c =>
    simp only [isRead] at hr
    unfold callV
    split
    · rename_i b hb
      simp only [hb] at hr
      unfold builtinV
      split
      · split
        · rename_i t ts x xs hts hxs
          rw [hts] at hr
          simp only [readB] at hr
          unfold lenOp
          split
          · rfl
          · rfl
          · rename_i hm; simp [hm] at hr
          · rfl
          · rfl
        · rfl
      · rfl
      · rfl
      · rfl
      · rfl
    · rfl

/-! ### what waits for what -/
theorem testBit_foldl_edges (acc : Array Nat) (i : Nat) : ∀ (l : List Edge) (s : Nat), (l.foldl (fun s e => if Region.binds .any e then s ||| 2 ^ e.on ||| acc.getD e.on 0 else s) s).testBit i = true →
    s.testBit i = true ∨ ∃ e ∈ l, Region.binds .any e = true ∧ (e.on = i ∨ (acc.getD e.on 0).testBit i = true)
  | [], s, h => .inl h
  | e :: l, s, h => by
    rcases testBit_foldl_edges acc i l _ h with h | ⟨e', h1, h2⟩
    · dsimp only at h
      split at h
      · rename_i hb
        simp only [Nat.testBit_or, Bool.or_eq_true] at h
        rcases h with (h | h) | h
        · exact .inl h
        · refine .inr ⟨e, List.mem_cons_self .., hb, .inl ?_⟩
          rw [Nat.testBit_two_pow] at h
          simpa using h
        · exact .inr ⟨e, List.mem_cons_self .., hb, .inr h⟩
      · exact .inl h
    · exact .inr ⟨e', List.mem_cons_of_mem _ h1, h2⟩
/-- What an operation waits for: by an edge, or by an edge and on. -/
def BefOk (ops : List Oper) (acc : Array Nat) : Prop :=
  ∀ j i, j < acc.size → (acc.getD j 0).testBit i = true → ∃ o, ops[j]? = some o ∧ ∃ e ∈ o.after.toList, Region.binds .any e = true ∧ (e.on = i ∨ (e.on < j ∧ (acc.getD e.on 0).testBit i = true))
theorem before_go (ops : List Oper) : ∀ (l : List Oper) (acc : Array Nat), (∀ j, l[j]? = ops[acc.size + j]?) → BefOk ops acc →
    BefOk ops (l.foldl (fun acc o => acc.push (o.after.foldl (fun s e => if Region.binds .any e then s ||| 2 ^ e.on ||| acc.getD e.on 0 else s) 0)) acc)
  | [], acc, _, h => h
  | o :: l, acc, hl, h => by
    refine before_go ops l _ (fun j => by have := hl (j + 1); simpa [Nat.add_assoc, Nat.add_comm 1 j] using this) ?_
    intro j i hj hb
    have get : ∀ (m v : Nat), m < acc.size → (acc.push v).getD m 0 = acc.getD m 0 := by
      intro m v hm
      simp [Array.getD_eq_getD_getElem?, Array.getElem?_push, Nat.ne_of_lt hm]
    by_cases hja : j < acc.size
    · rw [get j _ hja] at hb
      obtain ⟨o', h1, e, h2, h3, h4⟩ := h j i hja hb
      refine ⟨o', h1, e, h2, h3, h4.imp id fun ⟨q1, q2⟩ => ⟨q1, ?_⟩⟩
      rw [get _ _ (by omega)]; exact q2
    · have : j = acc.size := by simp at hj; omega
      subst this
      have hv : ∀ v, (acc.push v).getD acc.size 0 = v := by intro v; simp [Array.getD_eq_getD_getElem?]
      rw [hv, ← Array.foldl_toList] at hb
      rcases testBit_foldl_edges acc i _ _ hb with hb | ⟨e, h1, h2, h3⟩
      · simp at hb
      · refine ⟨o, by simpa using (hl 0).symm, e, h1, h2, ?_⟩
        rcases h3 with h3 | h3
        · exact .inl h3
        · have hlt : e.on < acc.size := by
            rcases Nat.lt_or_ge e.on acc.size with h' | h'
            · exact h'
            · simp [Array.getD_eq_getD_getElem?, Array.getElem?_eq_none h'] at h3
          exact .inr ⟨hlt, by rw [get _ _ hlt]; exact h3⟩
/-- Whoever is listed was waited for by all that is listed. -/
def Closed (ops : Array Oper) (listed : Array Bool) : Prop :=
  ∀ j o, ops[j]? = some o → listed.getD j false = true → ∀ e ∈ o.after, Region.binds .any e = true → listed.getD e.on false = true
theorem before_spec (ops : Array Oper) : BefOk ops.toList (Region.before ops) := by
  unfold Region.before
  rw [← Array.foldl_toList]
  exact before_go ops.toList ops.toList #[] (fun j => by simp) (fun j i hj => by simp at hj)
theorem waits_listed {ops : Array Oper} {listed : Array Bool} (hc : Closed ops listed) {i : Nat} : ∀ (j : Nat) (o : Oper), ops[j]? = some o → (∀ e ∈ o.after, Region.binds .any e = true → listed.getD e.on false = true) →
    waits (Region.before ops).toList i j = true → listed.getD i false = true := by
  intro j
  induction j using Nat.strongRecOn with
  | _ j ih =>
    intro o ho ha hw
    have hw' : ((Region.before ops).getD j 0).testBit i = true := by
      unfold waits at hw
      simpa [List.getD, Array.getD_eq_getD_getElem?] using hw
    have hj : j < (Region.before ops).size := by
      rcases Nat.lt_or_ge j (Region.before ops).size with h' | h'
      · exact h'
      · simp [Array.getD_eq_getD_getElem?, Array.getElem?_eq_none h'] at hw'
    obtain ⟨o', h1, e, h2, h3, h4⟩ := before_spec ops j i hj hw'
    have : o' = o := by simp [ho] at h1; exact h1.symm
    subst this
    have hl := ha e (by simpa using h2) h3
    rcases h4 with rfl | ⟨h4, h5⟩
    · exact hl
    · have hlt : e.on < (Region.before ops).size := by omega
      obtain ⟨o2, g1, _⟩ := before_spec ops e.on i hlt h5
      have g1 : ops[e.on]? = some o2 := by simpa using g1
      refine ih e.on h4 o2 g1 (hc e.on o2 g1 hl) ?_
      unfold waits
      simpa [List.getD, Array.getD_eq_getD_getElem?] using h5
end
end Go.Abs
end

section
set_option linter.unusedSimpArgs false
set_option linter.unusedVariables false
namespace Go.Abs
open Go.RowKit (Below)

/-- Something comes of every call. -/
def OracleLive (C : Oracle) : Prop := ∀ g args h k, C g args h k → ∃ v h', k v h'

section
variable {P : Program} {B : Nat} {w0 : World} {ρ0 : Rho} {C : Oracle}

theorem appendE0_live {size bytes : Nat} {s x : Value} {h : St} {k : Cont} (hk : appendE0 size bytes s x h k) : ∃ v h', k v h' := by
  unfold appendE0 at hk
  repeat (first | exact hk.elim | exact ⟨_, _, hk.2⟩ | (obtain ⟨_, hk⟩ := hk; split at hk <;> exact ⟨_, _, hk⟩) | split at hk)
theorem appendE_live {size bytes : Nat} {s x : Value} {h : St} {k : Cont} (hk : appendE size bytes s x h k) : ∃ v h', k v h' := by
  unfold appendE at hk
  split at hk
  · obtain ⟨h1, h2⟩ := hk
    obtain ⟨v, h', hh⟩ := appendE0_live (h2 _ (Nat.le_refl _) h1)
    exact ⟨_, _, hh⟩
  · exact appendE0_live hk
theorem opE_live (HL : OracleLive C) {op : Op} {ev : Operand → Value} {h : St} {k : Cont} (hk : opE P C op ev h k) : ∃ v h', k v h' := by
  unfold opE at hk
  cases op <;> simp only at hk <;> try exact hk.elim
  case alloc t => unfold allocE at hk; split at hk; exact ⟨_, _, hk⟩; exact hk.elim
  case box t x => exact ⟨_, _, hk.2⟩
  case buildSlice t len parts =>
    unfold buildSliceOp buildSliceE at hk
    repeat (first | exact ⟨_, _, hk.2.2⟩ | exact hk.elim | split at hk)
  case store t a x =>
    unfold storeOp storeE at hk
    repeat (first | exact ⟨_, _, hk.2⟩ | exact hk.elim | split at hk)
  case makeMap t r =>
    unfold makeMapOp makeMapE at hk
    repeat (first | exact ⟨_, _, hk⟩ | exact hk.elim | split at hk)
  case makeSlice t l c =>
    unfold makeSliceOp makeSliceE at hk
    repeat (first | exact ⟨_, _, hk.2⟩ | exact hk.elim | split at hk)
  case mapUpdate t m kk x =>
    unfold mapUpdateOp mapUpdateE at hk
    repeat (first | exact hk.elim | exact ⟨_, _, hk⟩ | exact ⟨_, _, hk.2⟩ | exact ⟨_, _, hk.2.2⟩ | split at hk)
  case insert t m kk x =>
    unfold mapUpdateOp mapUpdateE at hk
    repeat (first | exact hk.elim | exact ⟨_, _, hk⟩ | exact ⟨_, _, hk.2⟩ | exact ⟨_, _, hk.2.2⟩ | split at hk)
  case mapEntry t m kk =>
    unfold mapEntryOp mapEntryE at hk
    repeat (first | exact hk.elim | exact ⟨_, _, hk⟩ | exact ⟨_, _, hk.2⟩ | exact ⟨_, _, hk.2.2⟩ | split at hk)
  case entryStore t m s x =>
    unfold entryStoreE at hk
    repeat (first | exact hk.elim | exact ⟨_, _, hk⟩ | exact ⟨_, _, hk.2⟩ | exact ⟨_, _, hk.2.2⟩ | split at hk)
  case range t x =>
    unfold rangeOp rangeE at hk
    repeat (first | exact hk.elim | exact ⟨_, _, hk⟩ | split at hk)
  case next x b =>
    unfold nextE at hk
    split at hk
    · split at hk
      · exact ⟨_, _, hk⟩
      · split at hk
        · rename_i es clock _
          obtain ⟨_, h0, h1⟩ := hk
          cases hl : leftE es _ with
          | nil => exact ⟨_, _, h0 hl⟩
          | cons e l => exact ⟨_, _, h1 e (by rw [hl]; simp)⟩
        · exact hk.elim
      · exact hk.elim
    · exact hk.elim
  case convert s d x =>
    unfold toBytesOp toBytesE at hk
    repeat (first | exact hk.elim | exact ⟨_, _, hk.2⟩ | split at hk)
  case call c =>
    unfold callOp at hk
    split at hk
    · unfold callE at hk
      split at hk
      · exact HL _ _ _ _ hk
      · exact hk.elim
    · unfold builtinE at hk
      split at hk
      · split at hk
        · unfold appendOp appendZ at hk
          repeat (first | exact hk.elim | exact appendE_live hk | exact ⟨_, _, hk.2⟩ | (obtain ⟨_, hk⟩ := hk; split at hk <;> exact ⟨_, _, hk⟩) | split at hk)
        · exact hk.elim
      · split at hk
        · unfold deleteOp deleteE at hk
          repeat (first | exact hk.elim | exact ⟨_, _, hk⟩ | exact ⟨_, _, hk.2⟩ | exact ⟨_, _, hk.2.2⟩ | split at hk)
        · exact hk.elim
      · split at hk
        · unfold copyOp copyE at hk
          repeat (first | exact hk.elim | exact ⟨_, _, hk.2⟩ | split at hk)
        · exact hk.elim
      · split at hk
        · unfold clearOp clearE at hk
          repeat (first | exact hk.elim | exact ⟨_, _, hk⟩ | exact ⟨_, _, hk.2⟩ | split at hk)
        · exact hk.elim
      · exact hk.elim
    · unfold invokeE at hk
      split at hk
      · split at hk
        · exact HL _ _ _ _ hk
        · unfold bindV at hk
          split at hk
          · exact HL _ _ _ _ hk
          · exact hk.elim
        · exact hk.elim
      · exact hk.elim

/-! ### guards -/
def wantA (ops : Array Oper) (t : List Value) (o : Oper) : Option Bool :=
  match o.guard with
  | none => some true
  | some (j, want) => match (ops[j]?).bind (·.dst) with
    | none => some false
    | some d => match getT t d with
      | .bool b => some (b == want)
      | .tuple vs => if vs.size = 0 then some false else none
      | _ => none
theorem wantA_spec {ρ : Rho} {ops : Array Oper} {t : List Value} {a : Act} (hr : LRel ρ t a.tmps.toList) {o : Oper} {b : Bool} (h : wantA ops t o = some b) : Region.wanted o (yielded ops a.tmps) = b := by
  unfold wantA at h
  unfold Region.wanted
  split at h
  · rename_i hg; simp only [hg]; exact Option.some.inj h
  · rename_i j want hg
    simp only [hg]
    split at h
    · rename_i hd
      simp only [yielded, hd]
      cases h; rfl
    · rename_i d hd
      simp only [yielded, hd, Option.bind_some]
      have hv := getT_rel hr d
      have e : a.tmps.toList.getD d Go.undef = (a.tmps[d]?).getD Go.undef := by simp [List.getD]
      rw [e] at hv
      split at h
      · rename_i b' hb
        rw [hb] at hv
        have he := hv.bool_inv
        have hs : a.tmps[d]? = some (.bool b') := by
          cases hx : a.tmps[d]? with
          | none => rw [hx] at he; simp [Go.undef] at he
          | some v => rw [hx] at he; simp at he; rw [he]
        rw [hs]
        cases h
        cases b' <;> cases want <;> rfl
      · rename_i vs hb
        split at h
        · rename_i hz
          cases h
          rw [hb] at hv
          split
          · rename_i b2 hs
            rw [hs] at hv
            cases hv
            simp at hz
          · rfl
        · cases h
      · cases h

/-! ### every order -/
/-- What was seen: an operation, the slots that it looked at, what came of it. -/
abbrev SeenX := List (Nat × Oper × List Value × Value)
abbrev PastX := List (Nat × St)
def stepX (P : Program) (C : Oracle) (ops : Array Oper) (seen : SeenX) (past : PastX) (i : Nat) (o : Oper) (t : List Value) (h : St) (next : List Value → St → Prop) : Prop :=
  (wantA ops t o = some false ∧ next (putT t o.dst undef) h) ∨
  (wantA ops t o = some true ∧ isEff P o.op = true ∧ (∀ p ∈ past, waits (Region.before ops).toList p.1 i = true) ∧
    ∃ k, opE P C o.op (evA P t) h k ∧ ∀ v h', k v h' → (∀ r ∈ seen, waits (Region.before ops).toList r.1 i = false → opV P r.2.1.op (evA P r.2.2.1) h' = some r.2.2.2) ∧ next (putT t o.dst v) h') ∨
  (wantA ops t o = some true ∧ isEff P o.op = false ∧
    ∃ v, opV P o.op (evA P t) h = some v ∧ (∀ p ∈ past, waits (Region.before ops).toList p.1 i = false → opV P o.op (evA P t) p.2 = some v) ∧ next (putT t o.dst v) h)
def anyX (P : Program) (C : Oracle) (ops : Array Oper) (K : List Value → St → Prop) (seen : SeenX) (past : PastX) : Nat → Array Bool → List Value → St → Prop
  | 0, listed, t, h => Region.ready .any ops listed = [] ∧ K t h
  | n + 1, listed, t, h => (Region.ready .any ops listed = [] → K t h) ∧
    ∀ i ∈ Region.ready .any ops listed, ∀ o, ops[i]? = some o → stepX P C ops seen past i o t h (anyX P C ops K seen past n (listed.setIfInBounds i true))

theorem anyX_sound (HC : OracleOk P B w0 C) {ops : Array Oper} {K : List Value → St → Prop} {seen : SeenX} {past : PastX} {Q : Exit → Act → World → Prop} (hQ : ∀ t h a w, K t h → SRel P B w0 ρ0 t h a w → Q .normal a w) :
    ∀ (n : Nat) (listed : Array Bool) (t : List Value) (h : St) (a : Act) (w : World), SRel P B w0 ρ0 t h a w → anyX P C ops K seen past n listed t h → wpAny P .any ops Q n listed a w
  | 0, listed, t, h, a, w, S, hk => ⟨hk.1, hQ _ _ _ _ hk.2 S⟩
  | n + 1, listed, t, h, a, w, S, hk => by
    refine ⟨fun h0 => hQ _ _ _ _ (hk.1 h0) S, fun i hi => ?_⟩
    obtain ⟨_, o, ho, _⟩ := mem_ready.1 hi
    have hs := hk.2 i hi o ho
    unfold wpOp
    simp only [ho]
    obtain ⟨ρ, h1, h2, h3, h4⟩ := id S
    rcases hs with ⟨hw, hn⟩ | ⟨hw, he, _, k, hop, hn⟩ | ⟨hw, he, v, hv, _, hn⟩
    · rw [if_neg (by rw [wantA_spec h2 hw]; simp)]
      exact anyX_sound HC hQ n _ _ _ _ _ (S.put o.dst) hn
    · rw [if_pos (by rw [wantA_spec h2 hw])]
      refine .inl (Post.upon h1 h2 h4 (opE_sound HC h3 (fun x => evA_rel h3 h2 x) he hop) ?_)
      intro v v' h' w' hkv S'
      exact anyX_sound HC hQ n _ _ _ _ _ S' (hn v h' hkv).2
    · rw [if_pos (by rw [wantA_spec h2 hw])]
      obtain ⟨v', q1, q2⟩ := opV_sound h3 (fun x => evA_rel h3 h2 x) hv
      left
      unfold Oper.wp
      rw [q1]
      exact anyX_sound HC hQ n _ _ _ _ _ ⟨ρ, h1, putT_rel h2 _ q2, h3, by rw [put_defers]; exact h4⟩ hn
end
end Go.Abs
end
