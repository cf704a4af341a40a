/- Numbers put and taken. -/
import Derived.Test.YtiaijbkmgajieaaE
set_option linter.unusedSimpArgs false
set_option linter.unusedVariables false
set_option maxHeartbeats 4000000
namespace Go.Proofs.Ytiaijbkmgajieaa
open Go.Abs Go.IntWalk

theorem newCells_bytes {B : Nat → Prop} {h : St} {v : Value} {l : List Nat} (s : SliceAt B h v l.length 1 (rowC l)) : newCells 1 v h = some (l.map bc, l.length) := by
  rcases s with ⟨rfl, hl⟩ | ⟨b, off, sp, c, rfl, _, hs⟩
  · have : l = [] := List.eq_nil_of_length_eq_zero hl
    subst this
    rfl
  · cases hn : l.length with
    | zero =>
      have : l = [] := List.eq_nil_of_length_eq_zero hn
      subst this
      rfl
    | succ n =>
      obtain ⟨_, _, cs, own, g3, g4⟩ := hs (by omega)
      have := takeN_rows (cs := cs) (off := off) (n := n + 1) (x := fun i => bc (l[i]?.getD 0)) (fun i hi => by have := g4 i (by omega); rwa [Nat.mul_one] at this) (by omega)
      rw [← hn, range_map, hn] at this
      simp only [newCells, g3, Nat.mul_one, this, Option.map_some]
/-- 'append([]byte{}, b...)' -/
theorem append_new {B : Nat → Prop} {h : St} {v : Value} {l : List Nat} (s : SliceAt B h v l.length 1 (rowC l)) (hl : l.length ≤ 1000000) {k : Cont}
    (hk : ∀ h' v', Chg h h' [] → OwnS (h.next ≤ ·) h' v' 1 (l.map bc) l.length → k v' h') : buildSliceE 1 0 [.int .u8 0] [] h fun v9 h1 => appendE 1 1 v9 v h1 k := by
  simp [buildSliceE, fillL, repL]
  have c1 := Chg.push (h := h) (.cells [] true) []
  refine append_own' (B := (h.next ≤ ·)) (cs := []) (n := 0) (new := l.map bc) (m := l.length) (by simp) (.inr ⟨h.next, rfl, Nat.le_refl _, by simp, push_at _ _, rfl⟩) (newCells_bytes (s.chg c1 (by simp))) (by simp) (one_bc _) (by omega) (by omega) fun h' v' c o => ?_
  exact hk h' v' (((c1.toP (D := (h.next ≤ ·)) (by simp)).step c).list (by intro i hi hh; omega)) (by simpa using o)

def putS : Abs.Spec := fun args h k => ∃ (B : Nat → Prop) (v : Value) (l : List Nat) (n w : Nat), args = [v, .int .u64 n, .int .i64 w] ∧ w ≤ 8 ∧ l.length ≤ 10000 ∧ SliceAt B h v l.length 1 (rowC l) ∧
  ∀ h' v', Chg h h' [] → OwnS (h.next ≤ ·) h' v' 1 ((l ++ putB n w).map bc) (l ++ putB n w).length → k v' h'
theorem putS_live : SpecLive putS := by
  rintro args h k ⟨B, v, l, n, w, rfl, _, _, _, H⟩
  exact ⟨_, _, H (h.push (.cells ((l ++ putB n w).map bc) true)) (.slice (some ⟨h.next, 0, some 1⟩) _ 0) (Chg.push _ _) (.inr ⟨h.next, rfl, Nat.le_refl _, by simp, push_at _ _, by simp⟩)⟩
theorem put_l0 {n nn N0 : Nat} {x6 : Value} {K : Cont} {h0 : St} : ∀ (w m0 : Nat) (h : St) (out : List Nat) (x7 : Value), w ≤ 8 → w < m0 → N0 ≤ h.next → out.length + w ≤ 1000000 → ChgP (N0 ≤ ·) h0 h → OwnS (N0 ≤ ·) h x7 1 (out.map bc) out.length →
    (∀ h' v', ChgP (N0 ≤ ·) h0 h' → OwnS (N0 ≤ ·) h' v' 1 ((out ++ putB n w).map bc) (out ++ putB n w).length → K v' h') →
    field_Put_l0 (tabC []) idG nn m0 (.int .u64 n) x6 x7 (.int .i64 ((w : Int) - 1)) h K := by
  intro w
  induction w with
  | zero =>
    intro m0 h out x7 hw hm hN ho c s H
    obtain ⟨m0, rfl⟩ : ∃ m, m0 = m + 1 := ⟨m0 - 1, by omega⟩
    rw [field_Put_l0_eq]
    simp
    rw [field_Put_j1_eq]
    exact H h x7 c (by simpa [putB] using s)
  | succ w ih =>
    intro m0 h out x7 hw hm hN ho c s H
    obtain ⟨m0, rfl⟩ : ∃ m, m0 = m + 1 := ⟨m0 - 1, by omega⟩
    rw [field_Put_l0_eq]
    have e0 : (((w + 1 : Nat) : Int) - 1) = (w : Int) := by omega
    have e1 : 8 * (w : Int) = ((8 * w : Nat) : Int) := by omega
    rw [e0]
    have hge : (0 : Int) ≤ w := Int.natCast_nonneg w
    simp (disch := omega) only [binNil_int, binV_geq, bindV_some, condK_bool, idG_eq, ge_iff_le, hge, decide_true, if_true, binV_mul, i64_in]
    rw [e1, shr_nat _ _ _ (by omega)]
    simp only [bindV_some, wrapV_int, u8_wrap]
    simp [buildSliceE, fillL, repL, allOne_eq]
    have s5 := s.chgP (D := fun _ => False) ((ChgP.refl _ h).of_push (o := .cells [.int .u8 ((n / 256 ^ w % 256 : Nat) : Int)] true)) (fun _ h => h.elim)
    refine append_own' (B := (N0 ≤ ·)) (new := [.int .u8 ((n / 256 ^ w % 256 : Nat) : Int)]) (m := 1) (by simp; omega) s5 (by simp [newCells]) rfl rfl (by omega) (by omega) fun h7 v7 c7 o7 => ?_
    have e3 : IntKind.i64.wrap ((w : Int) - 1) = (w : Int) - 1 := i64_in _ (by omega)
    have n7 := c7.1
    simp only [e3]
    refine ih m0 h7 (out ++ [n / 256 ^ w % 256]) v7 (by omega) (by omega) (by simp at n7; omega) (by simp; omega) ((c.of_push).step c7) (by simpa [bc] using o7) fun h' v' c' o' => H h' v' c' ?_
    rw [List.append_assoc] at o'
    exact o'
theorem putS_ok : SpecOk Try.prog 18 putS := by
  refine specOk_wf mixed Try.func18 (by kernel_rfl) (by kernel_rfl) (tab := []) (by simp) (by simp) (keep := field_Put_keep) ?_
  rintro args h k wf ⟨B, v, l, n, w, rfl, hw, hl, s, H⟩
  refine ⟨9, ?_⟩
  show field_Put (tabC []) idG 9 v (.int .u64 n) (.int .i64 w) h _
  rw [field_Put_eq]
  refine append_new s (by omega) fun h1 v1 c1 o1 => ?_
  have m1 : (if (8 : Int) < w then (8 : Int) else w) = w := by rw [if_neg (by omega)]
  have m2 : (if (w : Int) > 0 then (w : Int) else 0) = w := by split <;> omega
  have e3 : IntKind.i64.wrap ((w : Int) - 1) = (w : Int) - 1 := i64_in _ (by omega)
  simp only [minV, m1, maxV, if_true, m2, bindV_some, binNil_int, binV_sub, e3, idG_eq]
  refine put_l0 (N0 := h.next) (h0 := h) w 9 h1 l v1 hw (by omega) c1.1 (by omega) (c1.toP (by simp)) o1 fun h' v' c' o' => ⟨_, St.le.refl _, H h' v' (c'.list (by intro i hi hh; omega)) o'⟩

/-! ### what bytes come to -/
def numB (l : List Nat) : Nat := l.foldl (fun n c => n * 256 + c) 0
theorem numB_snoc (l : List Nat) (c : Nat) : numB (l ++ [c]) = numB l * 256 + c := by simp [numB]
theorem foldB (l : List Nat) : ∀ a, l.foldl (fun n c => n * 256 + c) a = a * 256 ^ l.length + numB l := by
  induction l with
  | nil => intro a; simp [numB]
  | cons c l ih =>
    intro a
    simp only [List.foldl_cons, numB, List.length_cons]
    rw [ih, ih (0 * 256 + c), Nat.pow_succ]
    rw [Nat.add_mul, Nat.zero_mul, Nat.zero_add, Nat.mul_assoc, Nat.mul_comm 256]
    omega
theorem numB_cons (c : Nat) (l : List Nat) : numB (c :: l) = c * 256 ^ l.length + numB l := by
  have := foldB l c
  simpa [numB] using this
theorem numB_lt : ∀ l : List Nat, (∀ c ∈ l, c < 256) → numB l < 256 ^ l.length
  | [], _ => by simp [numB]
  | c :: l, h => by
    have h1 := numB_lt l fun c hc => h c (by simp [hc])
    have h2 := h c (by simp)
    rw [numB_cons, List.length_cons, Nat.pow_succ]
    have : c * 256 ^ l.length + 256 ^ l.length ≤ 256 * 256 ^ l.length := by
      rw [← Nat.succ_mul]; exact Nat.mul_le_mul_right _ h2
    rw [Nat.mul_comm 256] at this
    omega
theorem putB_lt (n : Nat) : ∀ w, ∀ c ∈ putB n w, c < 256
  | 0, c, h => by simp [putB] at h
  | w + 1, c, h => by
    simp only [putB, List.mem_cons] at h
    rcases h with rfl | h
    · exact Nat.mod_lt _ (by omega)
    · exact putB_lt n w c h
theorem numB_putB (n : Nat) : ∀ w, numB (putB n w) = n % 256 ^ w
  | 0 => by simp [putB, numB, Nat.mod_one]
  | w + 1 => by
    rw [putB, numB_cons, putB_length, numB_putB n w, Nat.pow_succ, Nat.mod_mul, Nat.mul_comm (256 ^ w)]
    omega
theorem putB_mod (n m : Nat) : ∀ w, w ≤ m → putB (n % 256 ^ m) w = putB n w
  | 0, _ => rfl
  | w + 1, h => by
    rw [putB, putB, putB_mod n m w (by omega)]
    congr 1
    obtain ⟨d, rfl⟩ : ∃ d, m = w + 1 + d := ⟨m - (w + 1), by omega⟩
    have e : 256 ^ (w + 1 + d) = 256 ^ w * (256 * 256 ^ d) := by rw [Nat.pow_add, Nat.pow_succ, Nat.mul_assoc]
    rw [e, Nat.mod_mul_right_div_self, Nat.mod_mul_right_mod]
theorem putB_add (n v : Nat) : ∀ w, putB n (w + v) = putB (n / 256 ^ v) w ++ putB n v
  | 0 => by simp [putB]
  | w + 1 => by
    have e : w + 1 + v = (w + v) + 1 := by omega
    rw [e, putB, putB, putB_add n v w, Nat.div_div_eq_div_mul, ← Nat.pow_add, Nat.add_comm v w]
    rfl

theorem shl8 (s : Shp) (a : Nat) (h : a * 256 < 18446744073709551616) : binV .shl s (.int .u64 a) (.int .u64 8) = some (.int .u64 ((a * 256 : Nat) : Int)) := by
  have e : (a : Int) * 2 ^ 8 = ((a * 256 : Nat) : Int) := by rw [Int.natCast_mul]; rfl
  simp only [binV, isShift, shiftV]
  rw [if_neg (by decide)]
  have e2 : min (Int.toNat 8) IntKind.u64.bits = 8 := by decide
  rw [e2, e, u64_wrap _ h]
theorem or8 (s : Shp) (a c : Nat) (h : a * 256 + c < 18446744073709551616) (hc : c < 256) : binV .or s (.int .u64 ((a * 256 : Nat) : Int)) (.int .u64 c) = some (.int .u64 ((a * 256 + c : Nat) : Int)) := by
  have e : (BitVec.ofInt IntKind.u64.bits ((a * 256 : Nat) : Int) ||| BitVec.ofInt IntKind.u64.bits (c : Int)).toNat = a * 256 + c := by
    show (BitVec.ofInt 64 ((a * 256 : Nat) : Int) ||| BitVec.ofInt 64 (c : Int)).toNat = a * 256 + c
    have q1 : a * 256 % 18446744073709551616 = a * 256 := Nat.mod_eq_of_lt (Nat.lt_of_le_of_lt (Nat.le_add_right _ _) h)
    have q2 : c % 18446744073709551616 = c := Nat.mod_eq_of_lt (Nat.lt_trans hc (by decide))
    have p : (2 : Nat) ^ 64 = 18446744073709551616 := by decide
    rw [BitVec.ofInt_natCast, BitVec.ofInt_natCast, BitVec.toNat_or, BitVec.toNat_ofNat, BitVec.toNat_ofNat, p, q1, q2]
    have := Nat.shiftLeft_add_eq_or_of_lt (i := 8) (b := c) (show c < 2 ^ 8 from hc) a
    rw [Nat.shiftLeft_eq] at this
    exact this.symm
  simp only [binV, isShift, intV, if_true, e]
  rw [u64_wrap _ h]
def takeS : Abs.Spec := fun args h k => ∃ (B : Nat → Prop) (v : Value) (l : List Nat) (w : Nat), args = [v, .int .i64 w] ∧ 1 ≤ w ∧ w ≤ 8 ∧ w ≤ l.length ∧ l.length ≤ 10000 ∧ (∀ c ∈ l, c < 256) ∧ SliceAt B h v l.length 1 (rowC l) ∧
  ∀ h' v', Chg h h' [] → OwnS (h.next ≤ ·) h' v' 1 ((l.drop w).map bc) (l.drop w).length → k (.tuple #[.int .u64 (numB (l.take w)), v', .bool true]) h'
theorem takeS_live : SpecLive takeS := by
  rintro args h k ⟨B, v, l, w, rfl, _, _, _, _, _, _, H⟩
  exact ⟨_, _, H (h.push (.cells ((l.drop w).map bc) true)) (.slice (some ⟨h.next, 0, some 1⟩) _ 0) (Chg.push _ _) (.inr ⟨h.next, rfl, Nat.le_refl _, by simp, push_at _ _, by simp⟩)⟩
theorem pow256_le {i : Nat} (h : i ≤ 7) : 256 ^ i ≤ 72057594037927936 := by
  have := Nat.pow_le_pow_right (n := 256) (by omega) h
  simpa using this
theorem take_l0 {B : Nat → Prop} {nn w : Nat} {v v24 x4 x5 x6 : Value} {l : List Nat} {K : Cont} {h : St} (hw : w ≤ 8) (hwl : w ≤ l.length) (hl : l.length ≤ 10000) (hx : ∀ c ∈ l, c < 256) (s : SliceAt B h v l.length 1 (rowC l)) (s4 : SliceAt B h v24 w 1 (rowC l))
    (H : ∀ h' v', Chg h h' [] → OwnS (h.next ≤ ·) h' v' 1 ((l.drop w).map bc) (l.drop w).length → K (.tuple #[.int .u64 (numB (l.take w)), v', .bool true]) h') :
    ∀ (d i m0 : Nat), i + d = w → d < m0 → field_Take_l0 (tabC []) idG nn m0 v (.int .i64 w) x4 x5 x6 (.int .u64 (numB (l.take i))) v24 (.int .i64 w) (.int .i64 i) h K := by
  intro d
  induction d with
  | zero =>
    intro i m0 hi hm
    obtain ⟨m0, rfl⟩ : ∃ m, m0 = m + 1 := ⟨m0 - 1, by omega⟩
    rw [field_Take_l0_eq]
    have e : i = w := by omega
    subst e
    simp only [bindV_some, binV_lss, condK_bool, Int.lt_irrefl, decide_false, Bool.false_eq_true, if_false, idG_eq]
    rw [field_Take_j1_eq]
    obtain ⟨v', hcut, s'⟩ := s.cut (lo := some (.int .i64 i)) (hi := none) (loHi_lo (l := i) hwl) hwl (Nat.le_refl _)
    have hc1 : cutS 1 v (some (.int .i64 (i : Int))) none = some v' := hcut
    simp only [hc1, bindV_some]
    have el : (l.drop i).length = l.length - i := by simp
    have s2 : SliceAt B h v' (l.drop i).length 1 (rowC (l.drop i)) := by
      rw [el]
      exact s'.rows fun j hj => by simp [rowC]
    exact append_new s2 (by omega) fun h' v' c o => H h' v' c o
  | succ d ih =>
    intro i m0 hi hm
    obtain ⟨m0, rfl⟩ : ∃ m, m0 = m + 1 := ⟨m0 - 1, by omega⟩
    rw [field_Take_l0_eq]
    have hlt : (i : Int) < w := by omega
    obtain ⟨b, o, g1, g2, g3, cs, own, g4, g5⟩ := s4.idx (Int.natCast_nonneg i) hlt .i64
    have g6 := takeN_get g5 (j := 0) (by omega)
    have hi' : i < l.length := by omega
    have hg : l[i]?.getD 0 = l[i] := by rw [List.getElem?_eq_getElem hi']; rfl
    have hc := hx l[i] (List.getElem_mem _)
    simp only [rowC, Int.toNat_natCast, hg, Nat.add_zero, List.getElem?_cons_zero] at g6
    have hlt2 := numB_lt (l.take i) fun c hc => hx c (List.mem_of_mem_take hc)
    have hp := pow256_le (i := i) (by omega)
    have hli : (l.take i).length = i := by simp; omega
    rw [hli] at hlt2
    have j1 : IntKind.i64.wrap ((i : Int) + 1) = ((i + 1 : Nat) : Int) := by rw [i64_in _ (by omega)]; omega
    have et : l.take (i + 1) = l.take i ++ [l[i]] := by rw [List.take_succ_eq_append_getElem hi']
    simp only [binV_lss, bindV_some, condK_bool, hlt, decide_true, if_true, idG_eq, g1, loadV_ptr, g4, loadM_cells, partV_one, g6, bc, binNil_int, shl8 _ _ (show numB (l.take i) * 256 < _ by omega), wrapV_int, u64_wrap l[i] (by omega), or8 _ _ _ (show numB (l.take i) * 256 + l[i] < _ by omega) hc, binV_add, j1]
    rw [← numB_snoc, ← et]
    exact ih (i + 1) m0 (by omega) (by omega)
theorem takeS_ok : SpecOk Try.prog 19 takeS := by
  refine specOk_wf mixed Try.func19 (by kernel_rfl) (by kernel_rfl) (tab := []) (by simp) (by simp) (keep := field_Take_keep) ?_
  rintro args h k wf ⟨B, v, l, w, rfl, h1, h8, hwl, hl, hx, s, H⟩
  refine ⟨9, ?_⟩
  show field_Take (tabC []) idG 9 v (.int .i64 w) h _
  rw [field_Take_eq, s.len]
  have n1 : ¬ (w : Int) < 1 := by omega
  have n2 : ¬ (8 : Int) < w := by omega
  have n3 : ¬ (l.length : Int) < w := by omega
  obtain ⟨v', hcut, s'⟩ := s.cut (lo := none) (hi := some (.int .i64 w)) (loHi_hi (e := w) hwl) (Nat.zero_le _) hwl
  have hc1 : cutS 1 v none (some (.int .i64 (w : Int))) = some v' := hcut
  have s2 : SliceAt B h v' w 1 (rowC l) := by
    have := s'.rows (row' := rowC l) (fun i hi => by simp)
    simpa using this
  simp [n1, n2, n3, groupK_eq, getT, hc1, s2.len]
  have e : numB (l.take 0) = 0 := by simp [numB]
  have := take_l0 (nn := 9) (x4 := .int .u64 0) (x5 := .slice none 0 0) (x6 := .bool false) h8 hwl hl hx s s2 (K := fun v h1 => ∃ h2, St.le h2 h1 ∧ k v h2) (fun h' v' c o => ⟨_, St.le.refl _, H h' v' c o⟩) w 0 9 (by omega) (by omega)
  rw [e] at this
  exact this
end Go.Proofs.Ytiaijbkmgajieaa
