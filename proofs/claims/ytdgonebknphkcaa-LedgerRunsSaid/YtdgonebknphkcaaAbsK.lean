/- What the abstract machine's writing operations do, the machine does. -/
import Derived.Test.YtdgonebknphkcaaAbsJ
set_option linter.unusedSimpArgs false
set_option linter.unusedVariables false
namespace Go.Abs
open Go.RowKit (Below)

/-- What is asked of an operation's outcome. -/
def Post (P : Program) (B : Nat) (w0 : World) (ρ : Rho) (k : Cont) : Result Next → Prop
  | .ok (.value v') w' => ∃ v h' ρ', k v h' ∧ ρ.le ρ' ∧ HRel P B w0 ρ' h' w' ∧ VRel ρ' v v'
  | .ok .skip w' => ∃ h' ρ', k undef h' ∧ ρ.le ρ' ∧ HRel P B w0 ρ' h' w'
  | .ok (.enter f args) w' => Calls P f args w' fun e w'' => ∃ v v' h' ρ', e = .returned v' ∧ k v h' ∧ ρ.le ρ' ∧ HRel P B w0 ρ' h' w'' ∧ VRel ρ' v v'
  | _ => False

section
variable {P : Program} {B : Nat} {w0 w : World} {ρ : Rho} {h : St}

theorem HRel.newCells (H : HRel P B w0 ρ h w) {cs : List Value} {arr : Array Value} (ty : TypeId) (hlen : cs.length ≤ arr.size) (hcs : LRel ρ cs (arr.toList.take cs.length)) (hone : cs.all one = true) :
    ρ.le (ρ.push h.next ⟨w.heap.size, arr.size, true⟩) ∧ HRel P B w0 (ρ.push h.next ⟨w.heap.size, arr.size, true⟩) (h.push (.cells cs true)) (w.alloc (.cells arr ty)) :=
  ⟨H.fresh _, H.push _ _ _ rfl ⟨rfl, fun _ => ⟨H.size, hone⟩, arr, ty, (0, 0), heap_alloc_new w _, fun _ => ⟨rfl, Nat.le_refl _⟩, hlen, hcs.mono (H.fresh _)⟩⟩
theorem HRel.newPtr (H : HRel P B w0 ρ h w) {cs : List Value} {arr : Array Value} (ty : TypeId) (hcs : LRel ρ cs arr.toList) (hone : cs.all one = true) {k : Cont}
    (hk : k (.pointer (some ⟨h.next, 0, none⟩)) (h.push (.cells cs true))) : Post P B w0 ρ k (.ok (.value (.pointer (some ⟨w.heap.size, 0, none⟩))) (w.alloc (.cells arr ty))) := by
  have hl := hcs.length
  have hl' : cs.length = arr.size := by simpa using hl
  obtain ⟨h1, h2⟩ := H.newCells (cs := cs) (arr := arr) ty (by omega) (by rw [hl', ← Array.length_toList, List.take_length]; exact hcs) hone
  exact ⟨_, _, _, hk, h1, h2, .ptr h.next 0 ⟨w.heap.size, arr.size, true⟩ (by simp [Rho.push])⟩
theorem lit1_one {v : Value} (h : lit1 v = true) : one v = true := by cases v <;> simp [lit1] at h <;> rfl
theorem all_lit1_one {l : List Value} (h : l.all lit1 = true) : l.all one = true := by
  simp only [List.all_eq_true] at h ⊢
  exact fun x hx => lit1_one (h x hx)
theorem one_known {v : Value} (h : v.cells.toList.all one = true) : v ≠ unk := by
  intro e; subst e; simp [unk, Value.cells, one] at h

theorem alloc_sound (H : HRel P B w0 ρ h w) {t : TypeId} {k : Cont} (hk : allocE (zeroOf P t) h k) : Post P B w0 ρ k ((do pure (.value (← Instr.alloc t true (.tuple #[]))) : Sem Next).run P w) := by
  unfold allocE at hk
  split at hk
  · rename_i cs hz
    obtain ⟨i, v, hi, hz1, rfl, hz3, hz4⟩ := zeroOf_spec hz
    have : (do pure (.value (← Instr.alloc t true (.tuple #[]))) : Sem Next).run P w = .ok (.value (.pointer (some ⟨w.heap.size, 0, none⟩))) (w.alloc (.cells v.cells t)) := by
      simp [Instr.alloc, hz4, Result.andThen, newVar, newRow]
    rw [this]
    exact H.newPtr t (LRel.refl hz3) (all_lit1_one hz3) hk
  · exact hk.elim
theorem box_sound (H : HRel P B w0 ρ h w) {t : TypeId} {x x' : Value} (hx : VRel ρ x x') {k : Cont} (hk : boxE x h k) : Post P B w0 ρ k ((do pure (.value (← Instr.box t x')) : Sem Next).run P w) := by
  obtain ⟨h1, h2⟩ := hk
  have : (do pure (.value (← Instr.box t x')) : Sem Next).run P w = .ok (.value (.pointer (some ⟨w.heap.size, 0, none⟩))) (w.alloc (.cells x'.cells t)) := by
    simp [Instr.box, Result.andThen, newVar, newRow]
  rw [this]
  exact H.newPtr t (hx.cells (one_known h1)) h1 h2
theorem one_oneCell {v : Value} : v.oneCell' = one v := by cases v <;> rfl
theorem take_three {A X D : List Value} {a b n : Nat} (ha : A.length = a) (hb : X.length = b) (hn : a + b ≤ n) : (A ++ X ++ D).take n = A ++ X ++ D.take (n - (a + b)) := by
  rw [List.take_append, List.take_of_length_le (by rw [List.length_append, ha, hb]; exact hn), List.length_append, ha, hb]
theorem store_sound (H : HRel P B w0 ρ h w) {t : TypeId} {a a' x x' : Value} (ha : VRel ρ a a') (hx : VRel ρ x x') {k : Cont} (hk : storeOp P t a x h k) :
    Post P B w0 ρ k ((do Instr.storeAt t a' x'; pure .skip : Sem Next).run P w) := by
  unfold storeOp at hk
  split at hk
  · rename_i i hi
    unfold storeE at hk
    split at hk
    · rename_i id off
      split at hk
      · rename_i cs ho
        obtain ⟨⟨h1, h2, h3⟩, h4⟩ := hk
        obtain ⟨l, hl, hown, hB, arr, ty, fr, hblk, hfr, hlen, hcs⟩ := H.obj _ _ ho
        obtain ⟨hB1, hB2⟩ := hB rfl
        obtain ⟨rfl, hlim⟩ := hfr rfl
        cases ha with
        | lit _ e => simp [lit1] at e
        | ptr _ _ l' hl' =>
          have : l' = l := by rw [hl] at hl'; exact (Option.some.inj hl').symm
          subst this
          have hxc := hx.cells (one_known h3)
          have hxl := hxc.length
          have hxs : x'.cells.size = i.size := by rw [← h1]; simpa using hxl.symm
          have hone := hxc.one h3
          have hrun := run_storeCells_at P l'.blk off ty x'.cells.toList 0 arr w hblk (by simp; omega) (by
            intro v hv; rw [one_oneCell]; exact List.all_eq_true.1 hone v hv)
          have : (do Instr.storeAt t (.pointer (some ⟨l'.blk, off, none⟩)) x'; pure .skip : Sem Next).run P w = .ok .skip (w.setRow l'.blk (arr.toList.take off ++ x'.cells.toList ++ arr.toList.drop (off + x'.cells.size)).toArray) := by
            simp only [Instr.storeAt, Instr.sureAddr, storeVar, Sem.run_bind, Sem.run_pure, Result.andThen, run_size' hi, hxs, ne_eq, not_true_eq_false, if_false]
            simp only [Nat.add_zero] at hrun
            rw [hrun]
            simp [hxs]
          rw [this]
          refine ⟨_, ρ, h4, Rho.le.refl ρ, H.set ho hl hown.symm hB1 rfl rfl rfl (by simp [World.setRow]) (fun q _ hq => setRow_other w l'.blk q _ hq) ?_⟩
          have hfull : (arr.toList.take off ++ x'.cells.toList ++ arr.toList.drop (off + x'.cells.size)).length = arr.size := by
            simp only [List.length_append, List.length_take, List.length_drop, Array.length_toList]; omega
          have hnew : (cs.take off ++ x.cells.toList ++ cs.drop (off + i.size)).length = cs.length := by
            simp only [List.length_append, List.length_take, List.length_drop, Array.length_toList]; omega
          refine ⟨hown, fun _ => ⟨hB1, ?_⟩, _, ty, (0, 0), setRow_heap w l'.blk arr _ ty _ hblk, fun _ => ⟨rfl, by simp only [List.size_toArray, hfull]; exact hlim⟩, by simp only [List.size_toArray, hfull, hnew]; exact hlen, ?_⟩
          · simp only [List.all_append, Bool.and_eq_true]
            simp only [List.all_eq_true] at hB2 h3 ⊢
            exact ⟨⟨fun v hv => hB2 v (List.mem_of_mem_take hv), h3⟩, fun v hv => hB2 v (List.mem_of_mem_drop hv)⟩
          · rw [hnew]
            simp only [List.toList_toArray]
            have e : (arr.toList.take off ++ x'.cells.toList ++ arr.toList.drop (off + x'.cells.size)).take cs.length = (arr.toList.take cs.length).take off ++ x'.cells.toList ++ (arr.toList.take cs.length).drop (off + i.size) := by
              have t1 : (arr.toList.take off).length = off := by simp only [List.length_take, Array.length_toList]; omega
              rw [take_three (a := off) (b := i.size) t1 (by simpa using hxs) (by omega), hxs, List.take_take, Nat.min_eq_left (by omega), List.drop_take]
            rw [e]
            exact ((hcs.take off).append hxc).append (hcs.drop (off + i.size))
      · exact hk.elim
    · exact hk.elim
  · exact hk.elim
end
end Go.Abs
