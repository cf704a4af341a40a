/- Slices made, appended to; entries struck; calls. -/
import Derived.Test.YtdgonebknphkcaaAbsL
import Derived.Lib.ConvBytes
set_option linter.unusedSimpArgs false
set_option linter.unusedVariables false
namespace Go.Abs
open Go.RowKit (Below)

section
variable {P : Program} {B : Nat} {w0 w : World} {ρ : Rho} {h : St}

theorem withObj_same {r : Nat} {o : Obj} (hr : w.heap[r]? = some o) : withObj w r o = w := by
  have : w.heap.setIfInBounds r o = w.heap := by
    apply Array.ext_getElem?
    intro i
    rw [Array.getElem?_setIfInBounds]
    split
    · rename_i e; subst e
      have hlt : r < w.heap.size := (Array.getElem?_eq_some_iff.1 hr).1
      rw [if_pos hlt, hr]
    · rfl
  simp [withObj, this]
theorem delete_sound (H : HRel P B w0 ρ h w) {t ty : TypeId} {ts : Array TypeId} {xs : Array Value} {m m' x x' : Value} (ht : ts[0]? = some t) (h0 : xs[0]? = some m') (h1 : xs[1]? = some x') (hm : VRel ρ m m') (hx : VRel ρ x x') {k : Cont}
    (hk : deleteOp P t m x h k) : Post P B w0 ρ k ((do pure (.value (← Builtin.delete_ ts ty xs)) : Sem Next).run P w) := by
  unfold deleteOp at hk
  split at hk
  · rename_i key el hu
    unfold deleteE at hk
    split at hk
    · obtain ⟨h2, h3⟩ := hk
      obtain ⟨m2, rfl, hm2⟩ := hm.map_inv
      obtain rfl := none_of_isNone hm2
      obtain ⟨r, hr⟩ := Option.isSome_iff_exists.1 h2
      obtain ⟨rfl, hc, _⟩ := find_sound (P := P) (ρ := ρ) hx .nil hr true w
      have : (do pure (.value (← Builtin.delete_ ts ty xs)) : Sem Next).run P w = .ok (.value (.tuple #[])) w := by
        simp only [Builtin.delete_, ht, h0, h1, Sem.run_bind, run_underlying hu, Result.andThen, hc, Sem.run_pure]
      rw [this]
      exact ⟨undef, h, ρ, h3, Rho.le.refl ρ, H, VRel.undef ρ⟩
    · rename_i r
      split at hk
      · rename_i es clock ho
        obtain ⟨l, es', hl, rfl, hown, hB, hblk, hes⟩ := H.mapAt ho hm
        split at hk
        · rename_i i e e1
          obtain ⟨rfl, hc, r', g1, g2⟩ := find_sound (P := P) hx hes e1 es'.isEmpty w
          cases r' with
          | none => simp [Found] at g2
          | some jv =>
            obtain ⟨j, vv⟩ := jv
            obtain ⟨rfl, e', h4, h5, h6⟩ := g2
            have : (do pure (.value (← Builtin.delete_ ts ty xs)) : Sem Next).run P w = .ok (.value (.tuple #[])) (withObj w l.blk (.map (es'.eraseIdxIfInBounds i) clock)) := by
              simp only [Builtin.delete_, ht, h0, h1, Sem.run_bind, run_underlying hu, Result.andThen, run_getObj_map w hblk, hc, g1, run_setObj_map w hblk, Sem.run_pure]
            rw [this]
            refine ⟨undef, _, ρ, hk, Rho.le.refl ρ, H.setMap ho hl hown hB hblk ?_, VRel.undef ρ⟩
            have he := hes.erase i
            obtain ⟨l0⟩ := es'
            simpa using he
        · rename_i e1
          obtain ⟨rfl, hc, r', g1, g2⟩ := find_sound (P := P) hx hes e1 es'.isEmpty w
          have hr : r' = none := by cases r' <;> simp [Found] at g2 ⊢
          subst hr
          have : (do pure (.value (← Builtin.delete_ ts ty xs)) : Sem Next).run P w = .ok (.value (.tuple #[])) w := by
            simp only [Builtin.delete_, ht, h0, h1, Sem.run_bind, run_underlying hu, Result.andThen, run_getObj_map w hblk, hc, g1, run_setObj_map w hblk, Sem.run_pure, withObj_same hblk]
          rw [this]
          exact ⟨undef, h, ρ, hk, Rho.le.refl ρ, H, VRel.undef ρ⟩
        · exact hk.elim
      · exact hk.elim
    · exact hk.elim
  · exact hk.elim

theorem rep_range (z : Array Value) : ∀ n : Nat, ((Array.range (n * z.size)).map (z[· % z.size]!)).toList = repL z.toList n
  | 0 => by simp [repL]
  | n + 1 => by
    have ih := rep_range z n
    simp only [Array.toList_map, Array.toList_range] at ih ⊢
    rw [Nat.succ_mul, Nat.add_comm, List.range_add, List.map_append, repL, List.map_map]
    congr 1
    · apply List.ext_getElem
      · simp
      · intro i h1 h2
        have hi : i < z.size := by simpa using h1
        simp [Nat.mod_eq_of_lt hi, hi]
    · rw [← ih]
      apply List.map_congr_left
      intro i _
      simp
theorem fillL_length : ∀ {l : List (Nat × Nat × Value)} {cs out : List Value}, fillL l cs = some out → out.length = cs.length
  | [], cs, out, h => by simp [fillL] at h; rw [h]
  | (off, n, v) :: r, cs, out, h => by
    simp only [fillL] at h
    split at h
    · rename_i hc
      rw [fillL_length h]
      have : v.cells.toList.length = n := by simpa using hc.1
      simp only [List.length_append, List.length_take, List.length_drop, this]
      omega
    · cases h
theorem repL_lit {z : List Value} (hz : z.all lit1 = true) : ∀ n, (repL z n).all lit1 = true
  | 0 => rfl
  | n + 1 => by simp only [repL, List.all_append, Bool.and_eq_true]; exact ⟨hz, repL_lit hz n⟩
theorem repL_length (z : List Value) : ∀ n, (repL z n).length = n * z.length
  | 0 => by simp [repL]
  | n + 1 => by simp only [repL, List.length_append, repL_length z n, Nat.succ_mul]; omega
theorem repL_nil : ∀ n, repL [] n = []
  | 0 => rfl
  | n + 1 => by simp [repL, repL_nil n]
theorem buildSlice_sound (H : HRel P B w0 ρ h w) {t : TypeId} {len : Nat} {parts : Array (Nat × Operand)} {ev ev' : Operand → Value} (hev : ∀ x, VRel ρ (ev x) (ev' x)) {k : Cont} (hk : buildSliceOp P t len parts ev h k) :
    Post P B w0 ρ k ((do pure (.value (← Instr.buildSlice t len (parts.map fun (i, x) => (i, ev' x)))) : Sem Next).run P w) := by
  unfold buildSliceOp at hk
  split at hk
  · rename_i e hu
    split at hk
    · rename_i i z hi hz
      split at hk
      · rename_i hc
        simp only [Bool.and_eq_true, Nat.ble_eq, Nat.beq_eq] at hc
        obtain ⟨⟨hc1, hc3⟩, hc2⟩ := hc
        obtain ⟨i2, zv, hi2, hz1, rfl, hz3, hz4⟩ := zeroOf_spec hz
        have hzs : zv.cells.size = i.size := by simpa using hc2
        unfold buildSliceE at hk
        split at hk
        · rename_i cs hf
          obtain ⟨h1, h2⟩ := hk
          obtain ⟨hkn, h3⟩ := h2
          have hstart : LRel ρ (repL zv.cells.toList len) ((Array.range (len * i.size)).map ((if len * i.size = 0 then #[] else zv.cells)[· % (if len * i.size = 0 then #[] else zv.cells : Array Value).size]!)).toList := by
            by_cases h0 : len * i.size = 0
            · simp only [h0, if_true]
              have : repL zv.cells.toList len = [] := by
                rcases Nat.mul_eq_zero.1 h0 with h | h
                · subst h; rfl
                · have hz0 : zv.cells.toList = [] := by apply List.eq_nil_of_length_eq_zero; simp [hzs, h]
                  rw [hz0, repL_nil]
              rw [this]; simpa using LRel.nil
            · simp only [if_neg h0]
              rw [← hzs, rep_range]
              exact LRel.refl (repL_lit hz3 len)
          obtain ⟨out', g1, g2⟩ := fillL_sound (partsV_rel (P := P) hev (elem := e) (n := i.size) parts.toList) (knownB_spec hkn) hstart hf
          have hrun : (do pure (.value (← Instr.buildSlice t len (parts.map fun (i, x) => (i, ev' x)))) : Sem Next).run P w = .ok (.value (.slice (some ⟨w.heap.size, 0, none⟩) len len)) (w.alloc (.cells out' e)) := by
            have hle : ¬ (len * i.size > 2 ^ 24) := by omega
            simp only [Instr.buildSlice, Sem.run_bind, run_underlying hu, run_size' hi, Result.andThen, if_neg hle, Array.toList_map]
            by_cases h0 : len * i.size = 0
            · simp only [if_pos h0] at g1 ⊢
              simp only [Sem.run_pure, g1, newRow, Sem.run_bind, run_newObj, Result.andThen]
              rfl
            · simp only [if_neg h0] at g1 ⊢
              simp only [Sem.run_bind, hz4, Sem.run_pure, Result.andThen, g1, newRow, run_newObj]
              rfl
          rw [hrun]
          have hl := g2.length
          have hol : cs.length = out'.size := by simpa using hl
          obtain ⟨q1, q2⟩ := H.newCells (cs := cs) (arr := out') e (by omega) (by rw [hol, ← Array.length_toList, List.take_length]; exact g2) h1
          refine ⟨_, _, _, h3, q1, q2, .owned h.next 0 len 0 len i.size ⟨w.heap.size, out'.size, true⟩ (by simp [Rho.push]) (Nat.le_refl _) ?_ ?_ (fun h => absurd rfl h)⟩
          · unfold maxLen; omega
          · have hsz := fillL_length hf
            rw [repL_length, hc2] at hsz
            show 0 + len * i.size ≤ out'.size
            omega
        · exact hk.elim
      · exact hk.elim
    · exact hk.elim
  · exact hk.elim
theorem makeSlice_sound (H : HRel P B w0 ρ h w) {t : TypeId} {l l' c c' : Value} (hl : VRel ρ l l') (hc : VRel ρ c c') {k : Cont} (hk : makeSliceOp P t l c h k) :
    Post P B w0 ρ k ((do pure (.value (← Instr.makeSlice t l' c')) : Sem Next).run P w) := by
  unfold makeSliceOp at hk
  split at hk
  · rename_i e hu
    split at hk
    · rename_i i z hi hz
      split at hk
      · rename_i hzl
        obtain ⟨i2, zv, hi2, hz1, rfl, hz3, hz4⟩ := zeroOf_spec hz
        have hzs : zv.cells.size = i.size := by simpa using hzl
        unfold makeSliceE at hk
        split at hk
        · rename_i kl nl kc nc
          obtain rfl := hl.int_inv
          obtain rfl := hc.int_inv
          obtain ⟨⟨h1, h2, h3, h4⟩, h5⟩ := hk
          have w1 : IntKind.i64.wrap nl = nl := by simp only [IntKind.wrap, IntKind.bits, IntKind.signed]; simp; omega
          have w2 : IntKind.i64.wrap nc = nc := by simp only [IntKind.wrap, IntKind.bits, IntKind.signed]; simp; omega
          have hlarge : ¬ (nc < 0) ∧ ¬ ((i.bytes : Int) * nc > 2 ^ 48) := by constructor; omega; rw [Int.mul_comm]; omega
          have hrun : (do pure (.value (← Instr.makeSlice t (.int kl nl) (.int kc nc))) : Sem Next).run P w = .ok (.value (.slice (some ⟨w.heap.size, 0, none⟩) nl.toNat nc.toNat)) (w.alloc (.cells ((Array.range (nc.toNat * zv.cells.size)).map (zv.cells[· % zv.cells.size]!)) e)) := by
            have a1 : (asInt (.int kl nl)).run P w = .ok nl w := rfl
            have a2 : (asInt (.int kc nc)).run P w = .ok nc w := rfl
            have ti : (typeInfo e).run P w = .ok i w := by simp [typeInfo, hi]
            have cond : ¬ ((decide (nc < 0) || decide ((i.bytes : Int) * nc > 2 ^ 48) || decide (nl < 0) || decide (nl > nc)) = true) := by
              simp only [Bool.or_eq_true, decide_eq_true_eq, not_or]
              exact ⟨⟨hlarge, by omega⟩, by omega⟩
            simp only [Instr.makeSlice, Sem.run_bind, run_underlying hu, Result.andThen, a1, a2, ti, w1, w2]
            rw [if_neg cond]
            simp only [run_askRoom, Sem.run_bind, Result.andThen, run_size' hi]
            by_cases h0 : nc.toNat * i.size = 0
            · simp only [if_pos h0, Sem.run_pure, newRow, Sem.run_bind, run_newObj, Result.andThen]
              have e0 : (Array.range (nc.toNat * i.size)).map ((#[] : Array Value)[· % (#[] : Array Value).size]!) = (Array.range (nc.toNat * zv.cells.size)).map (zv.cells[· % zv.cells.size]!) := by
                rw [hzs, h0]
                apply Array.ext
                · simp
                · intro j h1 h2
                  simp at h1
              rw [← e0]
              rfl
            · simp only [if_neg h0, Sem.run_bind, hz4, Sem.run_pure, Result.andThen, newRow, run_newObj, hzs]
              rfl
          rw [hrun]
          have hlist := rep_range zv.cells nc.toNat
          have hlen : (repL zv.cells.toList nc.toNat).length = nc.toNat * i.size := by rw [repL_length]; simp [hzs]
          obtain ⟨q1, q2⟩ := H.newCells (cs := repL zv.cells.toList nc.toNat) (arr := (Array.range (nc.toNat * zv.cells.size)).map (zv.cells[· % zv.cells.size]!)) e (by rw [hlen]; simp [hzs])
            (by rw [hlist, List.take_length]; exact LRel.refl (repL_lit hz3 _)) (all_lit1_one (repL_lit hz3 _))
          refine ⟨_, _, _, h5, q1, q2, .owned h.next 0 nl.toNat 0 nc.toNat i.size ⟨w.heap.size, ((Array.range (nc.toNat * zv.cells.size)).map (zv.cells[· % zv.cells.size]!)).size, true⟩ (by simp [Rho.push]) (by omega) (by unfold maxLen; omega) (by simp [hzs]) (fun h => absurd rfl h)⟩
        · exact hk.elim
      · exact hk.elim
    · exact hk.elim
  · exact hk.elim
theorem HRel.pushTo (H : HRel P B w0 ρ h w) {w' : World} (o : AObj) (l : Loc) (hb : l.blk = w.heap.size)
    (hos : w'.os = w.os) (htape : w'.tape = w.tape) (hout : w'.output = w.output) (hsize : w.heap.size ≤ w'.heap.size) (hblk : ∀ k, k < w.heap.size → w'.heap[k]? = w.heap[k]?)
    (ho : ORel (ρ.push h.next l) B o l w') : HRel P B w0 (ρ.push h.next l) (h.push o) w' := by
  have hle := H.fresh l
  have hsz := H.size
  refine ⟨⟨hos.trans H.below.os, htape.trans H.below.tape, hout.trans H.below.output, Nat.le_trans H.below.size hsize, fun k hk => ?_⟩, H.base, H.globs, ?_, ?_, ?_, ?_⟩
  · rw [hblk k (by omega)]
    exact H.below.block k hk
  · intro g hg
    obtain ⟨lg, h1, h2⟩ := H.old g hg
    exact ⟨lg, hle _ _ h1, h2⟩
  · intro i l' hi
    simp only [Rho.push] at hi
    show i < h.next + 1
    split at hi
    · omega
    · have := H.dom i l' hi; omega
  · intro i o' hi
    simp only [St.push] at hi
    split at hi
    · rename_i e; subst e
      cases hi
      exact ⟨l, by simp [Rho.push], ho⟩
    · obtain ⟨l', h1, h2⟩ := H.obj i o' hi
      exact ⟨l', hle _ _ h1, h2.keep hle (hblk l'.blk h2.lt)⟩
  · intro i j o1 o2 li lj h1 h2 h3 h4 h5 h6
    simp only [St.push] at h1 h2
    have key : ∀ k o', h.objs k = some o' → ∀ lk, (ρ.push h.next l) k = some lk → lk.blk < w.heap.size := by
      intro k o' hk lk hlk
      obtain ⟨l', e1, e2⟩ := H.obj k o' hk
      have : lk = l' := by have := hle _ _ e1; rw [this] at hlk; exact (Option.some.inj hlk).symm
      subst this
      exact e2.lt
    have top : ∀ lk, (ρ.push h.next l) h.next = some lk → lk = l := by intro lk hlk; simp [Rho.push] at hlk; exact hlk.symm
    split at h1
    · rename_i e; subst e
      have := top li h3; subst this
      split at h2
      · rename_i e; exact e.symm
      · have := key j o2 h2 lj h4; omega
    · split at h2
      · rename_i e; subst e
        have := top lj h4; subst this
        have := key i o1 h1 li h3; omega
      · obtain ⟨l1, e1, _⟩ := H.obj i o1 h1
        obtain ⟨l2, e2, _⟩ := H.obj j o2 h2
        have a1 := hle _ _ e1; rw [a1] at h3; cases h3
        have a2 := hle _ _ e2; rw [a2] at h4; cases h4
        exact H.sep i j o1 o2 _ _ h1 h2 e1 e2 h5 h6
theorem bytes_lit : ∀ l : List UInt8, (l.map fun b => Value.int .u8 b.toNat).all lit1 = true
  | [] => rfl
  | b :: r => by
    simp only [List.map_cons, List.all_cons, bytes_lit r, Bool.and_true]
    rfl
theorem toBytes_sound (H : HRel P B w0 ρ h w) {s d : TypeId} {x x' : Value} (hx : VRel ρ x x') (hs : ∃ u, P.underlying s = some u) {k : Cont} (hk : toBytesOp P d x h k) :
    Post P B w0 ρ k ((do pure (.value (← convert s d x')) : Sem Next).run P w) := by
  obtain ⟨u, hs⟩ := hs
  unfold toBytesOp at hk
  split at hk
  · rename_i e hd
    split at hk
    · rename_i he
      unfold toBytesE at hk
      split at hk
      · rename_i txt
        obtain rfl := hx.string_inv
        obtain ⟨h1, h2⟩ := hk
        have hrun : (do pure (.value (← convert s d (.string txt))) : Sem Next).run P w = .ok (.value (.slice (some ⟨w.heap.size, 0, none⟩) txt.size (grownCap w txt.size 0 e))) (Lib.bytesWorld w e txt) := by
          simp only [Sem.run_bind, Lib.run_convert_string_bytes w s d e txt hs hd he, Result.andThen, Sem.run_pure]
        rw [hrun]
        have hlen : (txt.data.toList.map fun b => Value.int .u8 b.toNat).length = txt.size := by simp
        have hn := Lib.bytesWorld_at_new w e txt
        have q := H.pushTo (w' := Lib.bytesWorld w e txt) (.cells (txt.data.toList.map fun b => Value.int .u8 b.toNat) false) ⟨w.heap.size, txt.size, false⟩ rfl rfl rfl rfl
          (by rw [Lib.bytesWorld_size]; omega) (fun k hk => Lib.bytesWorld_at_old w e txt k hk) ?_
        · refine ⟨_, _, _, h2, H.fresh _, q, .slice h.next 0 txt.size 0 (grownCap w txt.size 0 e) ⟨w.heap.size, txt.size, false⟩ (by simp [Rho.push]) rfl (grownCap_ge _ _ _ _) (grownCap_le_maxLen _ _ _ _ (by unfold maxLen; omega))⟩
        · refine ⟨rfl, (fun hf => by cases hf), Lib.bytesCells w e txt, e, _, hn, (fun hf => by cases hf), ?_, ?_⟩
          · rw [hlen]; simp [Lib.bytesCells]
          · rw [hlen]
            have : (Lib.bytesCells w e txt).toList.take txt.size = txt.data.toList.map fun b => Value.int .u8 b.toNat := by
              simp only [Lib.bytesCells, Array.toList_append, Array.toList_map]
              rw [List.take_append_of_le_length (by simp), List.take_of_length_le (by simp)]
            rw [this]
            exact LRel.refl (bytes_lit _)
      · exact hk.elim
    · exact hk.elim
  · exact hk.elim
end
end Go.Abs
