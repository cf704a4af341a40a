/- What the abstract machine's looking operations answer, the machine's answer (cuts, arithmetic, equality, maps). -/
import Derived.Test.YtdgonebknphkcaaAbsC
set_option linter.unusedSimpArgs false
set_option linter.unusedVariables false
namespace Go.Abs
open Go.RowKit (Below)

section
variable {P : Program} {B : Nat} {w0 w : World} {ρ : Rho} {h : St}

/-! ### cuts -/
inductive ORelO (ρ : Rho) : Option Value → Option Value → Prop
  | none : ORelO ρ none none
  | some {v v' : Value} (h : VRel ρ v v') : ORelO ρ (some v) (some v')
theorem ORelO.map {f f' : Operand → Value} (hf : ∀ x, VRel ρ (f x) (f' x)) (o : Option Operand) : ORelO ρ (o.map f) (o.map f') := by
  cases o with
  | none => exact .none
  | some x => exact .some (hf x)
theorem loHi_sound {isSlice : Bool} {n cap cap' : Nat} {lo hi lo' hi' : Option Value} {a b : Nat} (hcap : cap ≤ cap') (hl : ORelO ρ lo lo') (hh : ORelO ρ hi hi') (hn : n ≤ cap)
    (he : loHi n cap lo hi = some (a, b)) (w : World) : (Instr.sliceBounds isSlice n cap' lo' hi' none).run P w = .ok (a, b, cap') w ∧ a ≤ b ∧ b ≤ cap := by
  unfold loHi at he
  cases hh with
  | none =>
    cases hl with
    | none => simp at he; obtain ⟨rfl, rfl⟩ := he; exact ⟨by simp [Instr.sliceBounds, Result.andThen], Nat.zero_le _, hn⟩
    | @some v v' hv =>
      cases v with
      | int k l =>
        obtain rfl := hv.int_inv
        simp only at he
        split at he
        · rename_i hc
          cases he
          refine ⟨?_, by omega, hn⟩
          simp [Instr.sliceBounds, Instr.sliceBound, run_asIntOf, hc, Result.andThen]
        · cases he
      | _ => simp at he
  | @some v v' hv =>
    cases v with
    | int k e' =>
      obtain rfl := hv.int_inv
      simp only at he
      split at he
      · rename_i hc
        have hc' : (0 : Int) ≤ e' ∧ e' ≤ cap' := ⟨hc.1, by omega⟩
        cases hl with
        | none =>
          simp at he
          obtain ⟨rfl, rfl⟩ := he
          refine ⟨?_, Nat.zero_le _, by omega⟩
          simp [Instr.sliceBounds, Instr.sliceBound, run_asIntOf, hc', Result.andThen]
        | @some u u' hv2 =>
          cases u with
          | int k2 l =>
            obtain rfl := hv2.int_inv
            simp only at he
            split at he
            · rename_i hd
              cases he
              have hm : max e' 0 = e' := by omega
              refine ⟨?_, by omega, by omega⟩
              simp [Instr.sliceBounds, Instr.sliceBound, run_asIntOf, hc', hd, hm, Result.andThen]
            · cases he
          | _ => simp at he
      · cases he
    | _ => simp at he
theorem capOf_le {n c cap : Nat} (hn : n ≤ cap) (hk : c ≠ 0 → c = cap + 1) : n ≤ capOf n c ∧ capOf n c ≤ cap := by
  unfold capOf
  split
  · exact ⟨Nat.le_refl _, hn⟩
  · have := hk (by omega); omega
theorem cutS_sound {t e : TypeId} {i : TypeInfo} (hu : P.underlying t = some (.slice e)) (hi : P.info? e = some i) {x x' v : Value} {lo hi' lo' hi'' : Option Value} (hx : VRel ρ x x')
    (hl : ORelO ρ lo lo') (hh : ORelO ρ hi' hi'') (hv : cutS i.size x lo hi' = some v) (w : World) : ∃ v', (Instr.slice t x' lo' hi'' none).run P w = .ok v' w ∧ VRel ρ v v' := by
  unfold cutS at hv
  have hempty : ∀ (c : Nat) (bb : Addr) (l b : Nat), loHi 0 0 lo hi' = some (l, b) → ∀ u, (∃ a' c', u = .slice (some a') (b - l) c' ∧ (a'.spot ≠ none → c' ≤ 1)) → ∃ v', (Instr.slice t (.slice (some bb) 0 0) lo' hi'' none).run P w = .ok v' w ∧ VRel ρ u v' := by
    intro c bb l b e1 u hu'
    obtain ⟨e2, h1, h2⟩ := loHi_sound (P := P) (isSlice := true) (Nat.le_refl 0) hl hh (Nat.le_refl 0) e1 w
    have hl0 : l = 0 := by omega
    have hb0 : b = 0 := by omega
    subst hl0; subst hb0
    obtain ⟨a', c', rfl, hc'⟩ := hu'
    exact ⟨.slice (some bb) 0 0, by simp [Instr.slice, run_underlying hu, e2, run_size' hi, Result.andThen], VRel.empty a' c' bb hc'⟩
  split at hv
  · simp only [Option.map_eq_some_iff] at hv
    obtain ⟨⟨a, b⟩, e1, rfl⟩ := hv
    have hx' : x' = .slice none 0 0 := by cases hx; rfl
    subst hx'
    obtain ⟨e2, h1, h2⟩ := loHi_sound (P := P) (isSlice := true) (Nat.le_refl 0) hl hh (Nat.le_refl 0) e1 w
    have : a = 0 := by omega
    have : b = 0 := by omega
    subst a; subst b
    exact ⟨.slice none 0 0, by simp [Instr.slice, run_underlying hu, e2, run_size' hi, Result.andThen], .lit _ rfl⟩
  · rename_i a off n c
    simp only [Option.map_eq_some_iff] at hv
    obtain ⟨⟨l, b⟩, e1, rfl⟩ := hv
    cases hx with
    | lit _ e => simp [lit1] at e
    | empty _ _ bb => exact hempty c bb l b e1 _ ⟨_, _, rfl, fun h => absurd rfl h⟩
    | slice _ _ _ _ cap lc hlc ho hn hc =>
      obtain ⟨e2, h1, h2⟩ := loHi_sound (P := P) (isSlice := true) (cap' := cap) hn hl hh (Nat.le_refl n) e1 w
      refine ⟨.slice (if cap = l then some ⟨lc.blk, off, none⟩ else (some ⟨lc.blk, off, none⟩ : Option Addr).map (·.add (l * i.size))) (b - l) (cap - l), by simp [Instr.slice, run_underlying hu, e2, run_size' hi, Result.andThen], ?_⟩
      by_cases hcl : cap = l
      · subst hcl
        have hb0 : b - cap = 0 := by omega
        rw [if_pos rfl, hb0, Nat.sub_self]
        exact .empty _ _ _ fun h => absurd rfl h
      · rw [if_neg hcl]
        simp only [Option.map_some, add_none]
        exact .slice _ _ _ _ _ lc hlc ho (by omega) (by omega)
  · rename_i a off z n c
    split at hv
    · rename_i hz
      subst hz
      simp only [Option.map_eq_some_iff] at hv
      obtain ⟨⟨l, b⟩, e1, rfl⟩ := hv
      cases hx with
      | lit _ e => simp [lit1] at e
      | empty _ _ bb hk =>
        have hc1 : c ≤ 1 := hk (by simp)
        have hc0 : capOf 0 c = 0 := by
          match c, hc1 with
          | 0, _ => rfl
          | 1, _ => rfl
        rw [hc0] at e1
        exact hempty c bb l b e1 _ ⟨_, _, rfl, fun _ => by omega⟩
      | owned _ _ _ _ cap _ lc hlc hn hc hlim hk =>
        obtain ⟨p1, p2⟩ := capOf_le hn hk
        obtain ⟨e2, h1, h2⟩ := loHi_sound (P := P) (isSlice := true) (cap' := cap) p2 hl hh p1 e1 w
        refine ⟨.slice (if cap = l then some ⟨lc.blk, off, none⟩ else (some ⟨lc.blk, off, none⟩ : Option Addr).map (·.add (l * i.size))) (b - l) (cap - l), by simp [Instr.slice, run_underlying hu, e2, run_size' hi, Result.andThen], ?_⟩
        have hk2 : c = 0 ∨ c = cap + 1 := by
          by_cases h0 : c = 0
          · exact .inl h0
          · exact .inr (hk h0)
        by_cases hcl : cap = l
        · subst hcl
          have hb0 : b - cap = 0 := by omega
          rw [if_pos rfl, hb0, Nat.sub_self]
          exact .empty _ _ _ fun _ => by omega
        · rw [if_neg hcl]
          simp only [Option.map_some, add_none]
          refine .owned _ _ _ _ _ _ lc hlc (by omega) (by omega) ?_ (fun h => by omega)
          rw [Nat.add_assoc, ← Nat.add_mul, show l + (cap - l) = cap by omega]
          exact hlim
    · cases hv
  · cases hv
theorem loHi3_sound {n cap cap' : Nat} {lo hi mx lo' hi' mx' : Option Value} {a b m : Nat} (hcap : cap ≤ cap') (hl : ORelO ρ lo lo') (hh : ORelO ρ hi hi') (hm : ORelO ρ mx mx')
    (he : loHi3 cap lo hi mx = some (a, b, m)) (w : World) : (Instr.sliceBounds true n cap' lo' hi' mx').run P w = .ok (a, b, m) w ∧ a ≤ b ∧ b ≤ m ∧ m ≤ cap := by
  unfold loHi3 at he
  split at he
  · rename_i k1 mm k2 ee
    cases hm with
    | some hm =>
      obtain rfl := hm.int_inv
      cases hh with
      | some hh =>
        obtain rfl := hh.int_inv
        split at he
        · rename_i hc
          have c1 : 0 ≤ mm ∧ mm ≤ (cap' : Int) := by omega
          have c2 : 0 ≤ ee ∧ ee ≤ max mm 0 := by omega
          have c3 : max mm 0 = mm := by omega
          cases hl with
          | none =>
            cases he
            refine ⟨?_, by omega, by omega, by omega⟩
            simp [Instr.sliceBounds, Instr.sliceBound, run_asIntOf, c1, c2, c3, hc, Result.andThen]
          | @some v v' hv =>
            cases v with
            | int k l =>
              obtain rfl := hv.int_inv
              simp only at he
              split at he
              · rename_i hd
                cases he
                have c4 : max ee 0 = ee := by omega
                refine ⟨?_, by omega, by omega, by omega⟩
                simp [Instr.sliceBounds, Instr.sliceBound, run_asIntOf, c1, c2, c3, c4, hc, hd, Result.andThen]
              · cases he
            | _ => simp at he
        · cases he
  · cases he
theorem cutS3_sound {t e : TypeId} {i : TypeInfo} (hu : P.underlying t = some (.slice e)) (hi : P.info? e = some i) {x x' v : Value} {lo hi' mx lo' hi'' mx' : Option Value} (hx : VRel ρ x x')
    (hl : ORelO ρ lo lo') (hh : ORelO ρ hi' hi'') (hm : ORelO ρ mx mx') (hv : cutS3 i.size x lo hi' mx = some v) (w : World) : ∃ v', (Instr.slice t x' lo' hi'' mx').run P w = .ok v' w ∧ VRel ρ v v' := by
  unfold cutS3 at hv
  split at hv
  · simp only [Option.map_eq_some_iff] at hv
    obtain ⟨⟨a, b, m⟩, e1, rfl⟩ := hv
    have hx' : x' = .slice none 0 0 := by cases hx; rfl
    subst hx'
    obtain ⟨e2, h1, h2, h3⟩ := loHi3_sound (P := P) (n := 0) (Nat.le_refl 0) hl hh hm e1 w
    have : a = 0 := by omega
    have : b = 0 := by omega
    have : m = 0 := by omega
    subst a; subst b; subst m
    exact ⟨.slice none 0 0, by simp [Instr.slice, run_underlying hu, e2, run_size' hi, Result.andThen], .lit _ rfl⟩
  · rename_i a off z n c
    split at hv
    · rename_i hz
      subst hz
      simp only [Option.map_eq_some_iff] at hv
      obtain ⟨⟨l, b, m⟩, e1, rfl⟩ := hv
      cases hx with
      | lit _ e => simp [lit1] at e
      | empty _ _ bb hk =>
        have hc1 : c ≤ 1 := hk (by simp)
        have hc0 : capOf 0 c = 0 := by
          match c, hc1 with
          | 0, _ => rfl
          | 1, _ => rfl
        rw [hc0] at e1
        obtain ⟨e2, h1, h2, h3⟩ := loHi3_sound (P := P) (n := 0) (Nat.le_refl 0) hl hh hm e1 w
        have : l = 0 := by omega
        have : b = 0 := by omega
        have : m = 0 := by omega
        subst l; subst b; subst m
        exact ⟨.slice (some bb) 0 0, by simp [Instr.slice, run_underlying hu, e2, run_size' hi, Result.andThen], .empty _ _ _ fun _ => Nat.le_refl 1⟩
      | owned _ _ _ _ cap _ lc hlc hn hc hlim hk =>
        obtain ⟨p1, p2⟩ := capOf_le hn hk
        obtain ⟨e2, h1, h2, h3⟩ := loHi3_sound (P := P) (n := n) (cap' := cap) p2 hl hh hm e1 w
        refine ⟨.slice (if m = l then some ⟨lc.blk, off, none⟩ else (some ⟨lc.blk, off, none⟩ : Option Addr).map (·.add (l * i.size))) (b - l) (m - l), by simp [Instr.slice, run_underlying hu, e2, run_size' hi, Result.andThen], ?_⟩
        by_cases hcl : m = l
        · subst hcl
          have hb0 : b - m = 0 := by omega
          rw [if_pos rfl, hb0, Nat.sub_self]
          exact .empty _ _ _ fun _ => by omega
        · rw [if_neg hcl]
          simp only [Option.map_some, add_none]
          refine .owned _ _ _ _ _ _ lc hlc (by omega) (by omega) ?_ (fun _ => rfl)
          have : off + l * i.size + (m - l) * i.size = off + m * i.size := by
            rw [Nat.add_assoc, ← Nat.add_mul, show l + (m - l) = m by omega]
          rw [this]
          have := Nat.mul_le_mul_right i.size (show m ≤ cap by omega)
          omega
    · cases hv
  · cases hv
theorem cutT_sound {t : TypeId} (hu : P.underlying t = some .string) {x x' v : Value} {lo hi' lo' hi'' : Option Value} (hx : VRel ρ x x')
    (hl : ORelO ρ lo lo') (hh : ORelO ρ hi' hi'') (hv : cutT x lo hi' = some v) (w : World) : ∃ v', (Instr.slice t x' lo' hi'' none).run P w = .ok v' w ∧ VRel ρ v v' := by
  unfold cutT at hv
  split at hv
  · rename_i s
    obtain rfl := hx.string_inv
    simp only [Option.map_eq_some_iff] at hv
    obtain ⟨⟨l, b⟩, e1, rfl⟩ := hv
    obtain ⟨e2, h1, h2⟩ := loHi_sound (P := P) (isSlice := false) (Nat.le_refl s.size) hl hh (Nat.le_refl _) e1 w
    exact ⟨.string (s.extract l b), by simp [Instr.slice, run_underlying hu, e2, Result.andThen], .lit _ rfl⟩
  · cases hv
theorem cutA_sound {t e : TypeId} {n : Nat} {i : TypeInfo} (hu : P.underlying t = some (.array n e)) (hi : P.info? e = some i) {x x' v : Value} {lo hi' lo' hi'' : Option Value} (H : HRel P B w0 ρ h w) (hx : VRel ρ x x')
    (hl : ORelO ρ lo lo') (hh : ORelO ρ hi' hi'') (hn : n ≤ maxLen) (hroom : ∀ a off l, x = .pointer (some ⟨a, off, none⟩) → ρ a = some l → off + n * i.size ≤ l.lim)
    (hv : cutA n i.size x lo hi' = some v) : ∃ v', (Instr.sliceAt t x' lo' hi'' none).run P w = .ok v' w ∧ VRel ρ v v' := by
  unfold cutA at hv
  split at hv
  · rename_i a off
    simp only [Option.map_eq_some_iff] at hv
    obtain ⟨⟨l, b⟩, e1, rfl⟩ := hv
    cases hx with
    | lit _ e => simp [lit1] at e
    | ptr _ _ lc hlc =>
      obtain ⟨e2, h1, h2⟩ := loHi_sound (P := P) (isSlice := false) (Nat.le_refl n) hl hh (Nat.le_refl _) e1 w
      have hlim := hroom a off lc rfl hlc
      refine ⟨.slice (some (if n = l then (⟨lc.blk, off, none⟩ : Addr) else Addr.add ⟨lc.blk, off, none⟩ (l * i.size))) (b - l) (n - l), by simp [Instr.sliceAt, Instr.sureAddr, run_underlying hu, e2, run_size' hi, Result.andThen], ?_⟩
      by_cases hcl : n = l
      · subst hcl
        have hb0 : b - n = 0 := by omega
        rw [if_pos rfl, hb0, Nat.sub_self]
        exact .empty _ _ _ fun _ => by omega
      · rw [if_neg hcl, add_none]
        refine .owned _ _ _ _ _ _ lc hlc (by omega) (by omega) ?_ (fun h => absurd rfl h)
        rw [Nat.add_assoc, ← Nat.add_mul, show l + (n - l) = n by omega]
        exact hlim
  · cases hv

/-! ### numbers, texts, equality -/
theorem intV_sound {op : BinOp} {k : IntKind} {x y : Int} {v : Value} (hs : isShift op = false) (hv : intV op k x y = some v) (t : TypeId) (w : World) :
    (Go.binOp op t (.int k x) (.int k y)).run P w = .ok v w ∧ lit1 v = true := by
  cases op <;> simp [intV, isShift] at hv hs
  case quo => obtain ⟨h0, rfl⟩ := hv; exact ⟨by simp [Go.binOp, Op.intDiv, h0], rfl⟩
  case rem => obtain ⟨h0, rfl⟩ := hv; exact ⟨by simp [Go.binOp, Op.intDiv, h0], rfl⟩
  all_goals (subst hv; exact ⟨by simp [Go.binOp, Op.intArith, Op.intBits, Op.intCmp], rfl⟩)
theorem shiftV_sound {op : BinOp} {k k' : IntKind} {x y : Int} {v : Value} (hv : shiftV op k x y = some v) (t : TypeId) (w : World) :
    (Go.binOp op t (.int k x) (.int k' y)).run P w = .ok v w ∧ lit1 v = true := by
  unfold shiftV at hv
  split at hv
  · cases hv
  · rename_i h0
    cases op <;> simp at hv
    all_goals (subst hv; exact ⟨by simp [Go.binOp, Op.shift, h0], rfl⟩)
theorem textV_sound {op : BinOp} {x y : ByteArray} {v : Value} (hs : isShift op = false) (hv : textV op x y = some v) (t : TypeId) (w : World) :
    (Go.binOp op t (.string x) (.string y)).run P w = .ok v w ∧ lit1 v = true := by
  cases op <;> simp [textV, isShift] at hv hs
  case add =>
    obtain ⟨h0, rfl⟩ := hv
    refine ⟨?_, rfl⟩
    have h1 : ¬ (((x.size + y.size : Nat) : Int) > IntKind.i64.max) := by simp [IntKind.max, IntKind.signed, IntKind.bits]; omega
    simp only [Go.binOp, Op.stringOp]
    rw [if_neg h1]; rfl
  all_goals (subst hv; exact ⟨by simp [Go.binOp, Op.stringOp], rfl⟩)
end
end Go.Abs
