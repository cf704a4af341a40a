/- Comparisons, conversions, maps' entries, parts. -/
import Derived.Test.YtdgonebknphkcaaAbsE
set_option linter.unusedSimpArgs false
set_option linter.unusedVariables false
namespace Go.Abs
open Go.RowKit (Below)

section
variable {P : Program} {B : Nat} {w0 w : World} {ρ : Rho} {h : St}

theorem eq_nil_ptr (d : Nat) {t e : TypeId} (he : P.underlying t = some (.pointer e)) (b : Option Addr) (w : World) : (Op.equalIn (d + 1) t (.pointer none) (.pointer b)).run P w = .ok b.isNone w := by
  simp [Op.equalIn, run_underlying he, Result.andThen]
theorem eq_ptr_nil (d : Nat) {t e : TypeId} (he : P.underlying t = some (.pointer e)) (b : Addr) (w : World) : (Op.equalIn (d + 1) t (.pointer (some b)) (.pointer none)).run P w = .ok false w := by
  simp [Op.equalIn, run_underlying he, Result.andThen]
theorem eq_nil_map (d : Nat) {t k e : TypeId} (he : P.underlying t = some (.map k e)) (b : Option Nat) (w : World) : (Op.equalIn (d + 1) t (.map none) (.map b)).run P w = .ok b.isNone w := by
  simp [Op.equalIn, run_underlying he, Result.andThen]
theorem eq_map_nil (d : Nat) {t k e : TypeId} (he : P.underlying t = some (.map k e)) (b : Nat) (w : World) : (Op.equalIn (d + 1) t (.map (some b)) (.map none)).run P w = .ok false w := by
  simp [Op.equalIn, run_underlying he, Result.andThen]
theorem eq_nil_slice (d : Nat) {t e : TypeId} (he : P.underlying t = some (.slice e)) (b : Option Addr) (n c : Nat) (w : World) : (Op.equalIn (d + 1) t (.slice none 0 0) (.slice b n c)).run P w = .ok b.isNone w := by
  simp [Op.equalIn, run_underlying he, Result.andThen]
theorem eq_slice_nil (d : Nat) {t e : TypeId} (he : P.underlying t = some (.slice e)) (b : Addr) (n c : Nat) (w : World) : (Op.equalIn (d + 1) t (.slice (some b) n c) (.slice none 0 0)).run P w = .ok false w := by
  simp [Op.equalIn, run_underlying he, Result.andThen]
theorem eq_func (d : Nat) {t : TypeId} {a b : Array TypeId} {c : Bool} (he : P.underlying t = some (.func a b c)) (fn : Fn) (x y : Array Value) (w : World) :
    (Op.equalIn (d + 1) t .nilFunc .nilFunc).run P w = .ok true w ∧ (Op.equalIn (d + 1) t .nilFunc (.func fn x y)).run P w = .ok false w ∧ (Op.equalIn (d + 1) t (.func fn x y) .nilFunc).run P w = .ok false w := by
  simp [Op.equalIn, run_underlying he, Result.andThen]
theorem eq_iface (d : Nat) {t : TypeId} {m : Array (String × TypeId)} (he : P.underlying t = some (.interface m)) (u : TypeId) (x : Value) (w : World) :
    (Op.equalIn (d + 1) t .nilIface .nilIface).run P w = .ok true w ∧ (Op.equalIn (d + 1) t .nilIface (.iface u x)).run P w = .ok false w ∧ (Op.equalIn (d + 1) t (.iface u x) .nilIface).run P w = .ok false w := by
  simp [Op.equalIn, run_underlying he, Result.andThen]
theorem VRel.ptr_inv {b : Option Addr} {v' : Value} (hx : VRel ρ (.pointer b) v') : ∃ b', v' = .pointer b' ∧ b'.isNone = b.isNone := by cases hx <;> exact ⟨_, rfl, rfl⟩
theorem VRel.map_inv {b : Option Nat} {v' : Value} (hx : VRel ρ (.map b) v') : ∃ b', v' = .map b' ∧ b'.isNone = b.isNone := by cases hx <;> exact ⟨_, rfl, rfl⟩
theorem VRel.slice_inv {b : Option Addr} {n c : Nat} {v' : Value} (hx : VRel ρ (.slice b n c) v') : ∃ b' c', v' = .slice b' n c' ∧ b'.isNone = b.isNone := by cases hx <;> exact ⟨_, _, rfl, rfl⟩
theorem VRel.func_inv {fn : Fn} {a b : Array Value} {v' : Value} (hx : VRel ρ (.func fn a b) v') : ∃ a' b', v' = .func fn a' b' := by
  cases hx with
  | lit _ e => simp [lit1] at e
  | func => exact ⟨_, _, rfl⟩
theorem VRel.iface_inv {u : TypeId} {x : Value} {v' : Value} (hx : VRel ρ (.iface u x) v') : ∃ x', v' = .iface u x' ∧ VRel ρ x x' := by
  cases hx with
  | lit _ e => simp [lit1] at e
  | iface _ _ x' h => exact ⟨_, rfl, h⟩
theorem VRel.nilFunc_inv {v' : Value} (hx : VRel ρ .nilFunc v') : v' = .nilFunc := by cases hx; rfl
theorem VRel.nilIface_inv {v' : Value} (hx : VRel ρ .nilIface v') : v' = .nilIface := by cases hx; rfl
theorem VRel.nilSlice_inv {v' : Value} (hx : VRel ρ (.slice none 0 0) v') : v' = .slice none 0 0 := by cases hx; rfl
theorem some_of_isNone {α : Type} {o : Option α} (h : o.isNone = false) : ∃ x, o = some x := by cases o with | none => simp at h | some x => exact ⟨x, rfl⟩
theorem none_of_isNone {α : Type} {o : Option α} (h : o.isNone = true) : o = none := by cases o with | none => rfl | some x => simp at h

theorem eqV_sound {t : TypeId} {x y x' y' : Value} {b : Bool} (hx : VRel ρ x x') (hy : VRel ρ y y') (hv : eqV (shapeOf P t) x y = some b) (w : World) :
    (Op.equal t x' y').run P w = .ok b w := by
  have hs := shapeOf_spec (P := P) t
  generalize shapeOf P t = s at hs hv
  unfold eqV at hv
  unfold Op.equal Op.maxDepth
  split at hv
  · cases hv; obtain rfl := hx.bool_inv; obtain rfl := hy.bool_inv
    exact run_equalIn_bool w _ t _ _ hs
  · cases hx with
    | lit _ e => simp [lit1] at e
    | agg _ xs' h1 h2 => cases hy with
      | lit _ e => simp [lit1] at e
      | agg _ ys' h3 h4 => exact run_equalIn_flat hs.1 (eqAll_same (LRel.of_array h1 h2) (LRel.of_array h3 h4) hv) 9998 w
  · cases hv; obtain ⟨e, he⟩ := hs
    obtain ⟨a, rfl, ha⟩ := hx.ptr_inv; obtain ⟨c, rfl, hc⟩ := hy.ptr_inv
    rw [none_of_isNone ha, eq_nil_ptr 9999 he, hc]
  · cases hv; obtain ⟨e, he⟩ := hs
    obtain ⟨a, rfl, ha⟩ := hx.ptr_inv; obtain ⟨c, rfl, hc⟩ := hy.ptr_inv
    obtain ⟨a', rfl⟩ := some_of_isNone ha
    rw [none_of_isNone hc, eq_ptr_nil 9999 he]
  · cases hv; obtain ⟨k, e, he⟩ := hs
    obtain ⟨a, rfl, ha⟩ := hx.map_inv; obtain ⟨c, rfl, hc⟩ := hy.map_inv
    rw [none_of_isNone ha, eq_nil_map 9999 he, hc]
  · cases hv; obtain ⟨k, e, he⟩ := hs
    obtain ⟨a, rfl, ha⟩ := hx.map_inv; obtain ⟨c, rfl, hc⟩ := hy.map_inv
    obtain ⟨a', rfl⟩ := some_of_isNone ha
    rw [none_of_isNone hc, eq_map_nil 9999 he]
  · cases hv; obtain ⟨e, he⟩ := hs
    obtain rfl := hx.nilSlice_inv; obtain ⟨c, cc, rfl, hc⟩ := hy.slice_inv
    rw [eq_nil_slice 9999 he, hc]
  · cases hv; obtain ⟨e, he⟩ := hs
    obtain ⟨a, aa, rfl, ha⟩ := hx.slice_inv; obtain rfl := hy.nilSlice_inv
    obtain ⟨a', rfl⟩ := some_of_isNone ha
    rw [eq_slice_nil 9999 he]
  · cases hv; obtain ⟨a, b, c, he⟩ := hs
    obtain rfl := hx.nilFunc_inv; obtain rfl := hy.nilFunc_inv
    exact (eq_func 9999 he (.func 0) #[] #[] w).1
  · cases hv; obtain ⟨a, b, c, he⟩ := hs
    obtain rfl := hx.nilFunc_inv; obtain ⟨a', b', rfl⟩ := hy.func_inv
    exact (eq_func 9999 he _ _ _ w).2.1
  · cases hv; obtain ⟨a, b, c, he⟩ := hs
    obtain ⟨a', b', rfl⟩ := hx.func_inv; obtain rfl := hy.nilFunc_inv
    exact (eq_func 9999 he _ _ _ w).2.2
  · cases hv; obtain ⟨m, he⟩ := hs
    obtain ⟨x', rfl, _⟩ := hx.iface_inv; obtain rfl := hy.nilIface_inv
    exact (eq_iface 9999 he _ _ w).2.2
  · cases hv; obtain ⟨m, he⟩ := hs
    obtain rfl := hx.nilIface_inv; obtain ⟨x', rfl, _⟩ := hy.iface_inv
    exact (eq_iface 9999 he _ _ w).2.1
  · cases hv

theorem unV_sound {op : UnOp} {x x' v : Value} (hx : VRel ρ x x') (hv : unV op x = some v) (w : World) : (Op.unary op x').run P w = .ok v w ∧ lit1 v = true := by
  unfold unV at hv
  split at hv
  · cases hv; obtain rfl := hx.int_inv; exact ⟨by simp [Op.unary, Op.intArith], rfl⟩
  · cases hv; obtain rfl := hx.int_inv; exact ⟨by simp [Op.unary, Op.intBits], rfl⟩
  · cases hv; obtain rfl := hx.bool_inv; exact ⟨by simp [Op.unary], rfl⟩
  · cases hv

theorem extV_sound {i : Nat} {x x' v : Value} (hx : VRel ρ x x') (hv : extV i x = some v) (w : World) : ∃ v', (Instr.extract x' i).run P w = .ok v' w ∧ VRel ρ v v' := by
  unfold extV at hv
  split at hv
  · rename_i vs
    split at hv
    · cases hv
    · rename_i hne
      cases hx with
      | unk => exact absurd rfl hne
      | lit _ e => simp [lit1] at e
      | tuple _ vs' h1 h2 =>
        obtain ⟨v', e, r⟩ := (LRel.of_array h1 h2).get hv
        exact ⟨v', by simp at e; simp [Instr.extract, e], r⟩
  · cases hv
def okNil : Value → Prop
  | .pointer none | .nilIface | .nilFunc => False
  | .func (.method _) _ _ => False
  | _ => True
theorem nilV_sound {x x' v : Value} (hx : VRel ρ x x') (hv : nilV x = some v) : v = x ∧ okNil x' := by
  unfold nilV at hv
  split at hv <;> simp at hv
  all_goals (subst hv; refine ⟨rfl, ?_⟩; cases hx <;> simp_all [unk, okNil])
theorem pickV_sound {c a b c' a' b' v : Value} (hc : VRel ρ c c') (ha : VRel ρ a a') (hb : VRel ρ b b') (hv : pickV c a b = some v) (w : World) :
    ∃ t, (asBool c').run P w = .ok t w ∧ VRel ρ v (if t then a' else b') := by
  unfold pickV at hv
  split at hv
  · rename_i t
    cases hv
    obtain rfl := hc.bool_inv
    refine ⟨t, rfl, ?_⟩
    cases t
    · exact hb
    · exact ha
  · cases hv
theorem ifaceOp_sound {t : TypeId} {x x' v : Value} (hx : VRel ρ x x') (hv : ifaceOp P t x = some v) (w : World) : ∃ v', (Instr.makeInterface t x').run P w = .ok v' w ∧ VRel ρ v v' := by
  unfold ifaceOp at hv
  cases hu : P.underlying t with
  | none => simp [hu] at hv
  | some d =>
    have hr : (Instr.makeInterface t x').run P w = .ok (.iface t x') w := by
      simp only [Instr.makeInterface, Sem.run_bind, run_underlying hu, Result.andThen]
      cases d <;> first | rfl | (simp [hu] at hv)
    refine ⟨.iface t x', hr, ?_⟩
    have hv' : ifaceV t x = some v := by cases d <;> simp [hu] at hv <;> exact hv
    unfold ifaceV at hv'
    split at hv'
    · cases hv'
    · cases hv'; exact .iface _ _ _ hx

/-! ### conversions -/
theorem bytesOf_spec : ∀ {vs : List Value} {l : List UInt8}, bytesOf vs = some l → ∃ ns : List Int, vs = ns.map (fun n => Value.int .u8 n) ∧ l = ns.map fun n => UInt8.ofNat n.toNat
  | [], l, h => by simp [bytesOf] at h; exact ⟨[], rfl, h⟩
  | v :: r, l, h => by
    simp only [bytesOf] at h
    split at h
    · rename_i b l' hb hl
      cases h
      obtain ⟨ns, rfl, rfl⟩ := bytesOf_spec hl
      cases v <;> simp [byteOf] at hb
      rename_i k n
      cases k <;> simp at hb
      exact ⟨n :: ns, rfl, by simp [hb]⟩
    · cases h
theorem LRel.ints_inv {k : IntKind} : ∀ {ns : List Int} {l' : List Value}, LRel ρ (ns.map fun n => Value.int k n) l' → l' = ns.map fun n => Value.int k n
  | [], _, h => by cases h; rfl
  | n :: ns, _, h => by
    cases h with
    | cons h t => rw [h.int_inv, LRel.ints_inv t]; rfl
theorem run_bytes_loop (w : World) (f : Value → ByteArray → Sem (ForInStep ByteArray)) (hf : ∀ n s, (f (.int .u8 n) s).run P w = .ok (.yield (s.push (UInt8.ofNat n.toNat))) w) : ∀ (ns : List Int) (s : ByteArray),
    (forIn (m := Sem) (ns.map fun n => Value.int .u8 n) s f).run P w = .ok (ns.foldl (fun s n => s.push (UInt8.ofNat n.toNat)) s) w
  | [], s => by simp
  | n :: ns, s => by
    simp only [List.map_cons, List.forIn_cons, Sem.run_bind, hf, Result.andThen, List.foldl_cons]
    exact run_bytes_loop w f hf ns _
theorem foldl_push (ns : List Int) (s : ByteArray) : (ns.foldl (fun s n => s.push (UInt8.ofNat n.toNat)) s) = ⟨s.data ++ (ns.map fun n => UInt8.ofNat n.toNat).toArray⟩ := by
  induction ns generalizing s with
  | nil => simp
  | cons n ns ih =>
    rw [List.foldl_cons, ih]
    congr 1
    apply Array.ext'
    simp [ByteArray.push]
theorem textOf_sound (H : HRel P B w0 ρ h w) {x x' v : Value} (hx : VRel ρ x x') (hv : textOf x h = some v) : (Conv.bytesToString x').run P w = .ok v w ∧ lit1 v = true := by
  unfold textOf at hv
  split at hv
  · cases hv
    have : x' = .slice none 0 0 := by cases hx; rfl
    subst this
    exact ⟨by simp [Conv.bytesToString], rfl⟩
  · rename_i a n c
    have hzero : ∀ (b : Addr) (cap : Nat), (Conv.bytesToString (.slice (some b) 0 cap)).run P w = .ok (.string .empty) w := by
      intro b cap
      simp [Conv.bytesToString, loadCells, loadCellsFrom, Result.andThen]
    split at hv
    · cases hv
      refine ⟨?_, rfl⟩
      cases hx with
      | lit _ e => simp [lit1] at e
      | slice => exact hzero _ _
      | owned => exact hzero _ _
      | empty => exact hzero _ _
    · rename_i hn0
      split at hv
      · rename_i cs own ho
        simp only [Option.map_eq_some_iff, Option.bind_eq_some_iff] at hv
        obtain ⟨l, ⟨vs, e1, e2⟩, rfl⟩ := hv
        obtain ⟨ns, rfl, rfl⟩ := bytesOf_spec e2
        obtain ⟨lc, hlc, hor⟩ := H.obj _ _ ho
        obtain ⟨vs', g1, g2, g3⟩ := hor.cells e1
        have g4 := LRel.ints_inv g2
        subst g4
        refine ⟨?_, rfl⟩
        have main : ∀ cap, (Conv.bytesToString (.slice (some ⟨lc.blk, a.off, none⟩) n cap)).run P w = .ok (.string ⟨(ns.map fun n => UInt8.ofNat n.toNat).toArray⟩) w := by
          intro cap
          simp only [Conv.bytesToString, Sem.run_bind, run_loadCells_at g1 g3, Result.andThen]
          rw [← Array.forIn_toList]
          simp only [List.toList_toArray]
          rw [run_bytes_loop w _ (fun n s => rfl) ns ByteArray.empty, foldl_push]
          simp [Result.andThen, ByteArray.empty, ByteArray.emptyWithCapacity]
          rfl
        cases hx with
        | lit _ e => simp [lit1] at e
        | empty => exact absurd rfl hn0
        | slice i off _ _ cap l' hl' =>
          have : l' = lc := by simp at hlc; rw [hlc] at hl'; exact (Option.some.inj hl').symm
          subst this; exact main cap
        | owned i off _ _ cap z l' hl' =>
          have : l' = lc := by simp at hlc; rw [hlc] at hl'; exact (Option.some.inj hl').symm
          subst this; exact main cap
      · cases hv
  · cases hv
end
end Go.Abs
