/- Numbers put and taken. -/
import Derived.Test.YtdmcmebfclikgaaDoorLA
import Derived.Test.YtdmcmebfclikgaaDoorAbsLv
set_option linter.unusedSimpArgs false
set_option linter.unusedVariables false
set_option maxHeartbeats 4000000
namespace Go.Proofs.YtdmcmebfclikgaaDoor
open Go.Abs Go.IntWalk

theorem newCells_bytes {B : Nat → Prop} {h : St} {v : Value} {l : List Nat} (s : SliceAt B h v l.length 1 (rowC l)) : newCells 1 v h = some (l.map bc, l.length) := by
  rcases s with ⟨rfl, hl⟩ | ⟨b, off, sp, c, rfl, _, hs⟩
  · have : l = [] := List.eq_nil_of_length_eq_zero hl
    subst this
    rfl
  · cases hn : l.length with
    | zero =>
      have : l = [] := List.eq_nil_of_length_eq_zero hn
      subst this
      rfl
    | succ n =>
      obtain ⟨_, _, cs, own, g3, g4⟩ := hs (by omega)
      have := takeN_rows (cs := cs) (off := off) (n := n + 1) (x := fun i => bc (l[i]?.getD 0)) (fun i hi => by have := g4 i (by omega); rwa [Nat.mul_one] at this) (by omega)
      rw [← hn, range_map, hn] at this
      simp only [newCells, g3, Nat.mul_one, this, Option.map_some]
/-- 'append([]byte{}, b...)' -/
theorem append_new {B : Nat → Prop} {h : St} {v : Value} {l : List Nat} (s : SliceAt B h v l.length 1 (rowC l)) (hl : l.length ≤ 1000000) {k : Cont}
    (hk : ∀ h' v', Chg h h' [] → OwnS (h.next ≤ ·) h' v' 1 (l.map bc) l.length → k v' h') : buildSliceE 1 0 [.int .u8 0] [] h fun v9 h1 => appendE 1 1 v9 v h1 k := by
  simp [buildSliceE, fillL, repL]
  have c1 := Chg.push (h := h) (.cells [] true) []
  refine append_own' (B := (h.next ≤ ·)) (cs := []) (n := 0) (new := l.map bc) (m := l.length) (by simp) (.inr ⟨h.next, rfl, Nat.le_refl _, by simp, push_at _ _, rfl⟩) (newCells_bytes (s.chg c1 (by simp))) (by simp) (one_bc _) (by omega) (by omega) fun h' v' c o => ?_
  exact hk h' v' (((c1.toP (D := (h.next ≤ ·)) (by simp)).step c).list (by intro i hi hh; omega)) (by simpa using o)

/-! ### what bytes come to -/
def numB (l : List Nat) : Nat := l.foldl (fun n c => n * 256 + c) 0
theorem numB_snoc (l : List Nat) (c : Nat) : numB (l ++ [c]) = numB l * 256 + c := by simp [numB]
theorem foldB (l : List Nat) : ∀ a, l.foldl (fun n c => n * 256 + c) a = a * 256 ^ l.length + numB l := by
  induction l with
  | nil => intro a; simp [numB]
  | cons c l ih =>
    intro a
    simp only [List.foldl_cons, numB, List.length_cons]
    rw [ih, ih (0 * 256 + c), Nat.pow_succ]
    rw [Nat.add_mul, Nat.zero_mul, Nat.zero_add, Nat.mul_assoc, Nat.mul_comm 256]
    omega
theorem numB_cons (c : Nat) (l : List Nat) : numB (c :: l) = c * 256 ^ l.length + numB l := by
  have := foldB l c
  simpa [numB] using this
theorem numB_lt : ∀ l : List Nat, (∀ c ∈ l, c < 256) → numB l < 256 ^ l.length
  | [], _ => by simp [numB]
  | c :: l, h => by
    have h1 := numB_lt l fun c hc => h c (by simp [hc])
    have h2 := h c (by simp)
    rw [numB_cons, List.length_cons, Nat.pow_succ]
    have : c * 256 ^ l.length + 256 ^ l.length ≤ 256 * 256 ^ l.length := by
      rw [← Nat.succ_mul]; exact Nat.mul_le_mul_right _ h2
    rw [Nat.mul_comm 256] at this
    omega
theorem putB_lt (n : Nat) : ∀ w, ∀ c ∈ putB n w, c < 256
  | 0, c, h => by simp [putB] at h
  | w + 1, c, h => by
    simp only [putB, List.mem_cons] at h
    rcases h with rfl | h
    · exact Nat.mod_lt _ (by omega)
    · exact putB_lt n w c h
theorem numB_putB (n : Nat) : ∀ w, numB (putB n w) = n % 256 ^ w
  | 0 => by simp [putB, numB, Nat.mod_one]
  | w + 1 => by
    rw [putB, numB_cons, putB_length, numB_putB n w, Nat.pow_succ, Nat.mod_mul, Nat.mul_comm (256 ^ w)]
    omega
theorem putB_mod (n m : Nat) : ∀ w, w ≤ m → putB (n % 256 ^ m) w = putB n w
  | 0, _ => rfl
  | w + 1, h => by
    rw [putB, putB, putB_mod n m w (by omega)]
    congr 1
    obtain ⟨d, rfl⟩ : ∃ d, m = w + 1 + d := ⟨m - (w + 1), by omega⟩
    have e : 256 ^ (w + 1 + d) = 256 ^ w * (256 * 256 ^ d) := by rw [Nat.pow_add, Nat.pow_succ, Nat.mul_assoc]
    rw [e, Nat.mod_mul_right_div_self, Nat.mod_mul_right_mod]
theorem putB_add (n v : Nat) : ∀ w, putB n (w + v) = putB (n / 256 ^ v) w ++ putB n v
  | 0 => by simp [putB]
  | w + 1 => by
    have e : w + 1 + v = (w + v) + 1 := by omega
    rw [e, putB, putB, putB_add n v w, Nat.div_div_eq_div_mul, ← Nat.pow_add, Nat.add_comm v w]
    rfl

theorem shl8 (s : Shp) (a : Nat) (h : a * 256 < 18446744073709551616) : binV .shl s (.int .u64 a) (.int .u64 8) = some (.int .u64 ((a * 256 : Nat) : Int)) := by
  have e : (a : Int) * 2 ^ 8 = ((a * 256 : Nat) : Int) := by rw [Int.natCast_mul]; rfl
  simp only [binV, isShift, shiftV]
  rw [if_neg (by decide)]
  have e2 : min (Int.toNat 8) IntKind.u64.bits = 8 := by decide
  rw [e2, e, u64_wrap _ h]
theorem or8 (s : Shp) (a c : Nat) (h : a * 256 + c < 18446744073709551616) (hc : c < 256) : binV .or s (.int .u64 ((a * 256 : Nat) : Int)) (.int .u64 c) = some (.int .u64 ((a * 256 + c : Nat) : Int)) := by
  have e : (BitVec.ofInt IntKind.u64.bits ((a * 256 : Nat) : Int) ||| BitVec.ofInt IntKind.u64.bits (c : Int)).toNat = a * 256 + c := by
    show (BitVec.ofInt 64 ((a * 256 : Nat) : Int) ||| BitVec.ofInt 64 (c : Int)).toNat = a * 256 + c
    have q1 : a * 256 % 18446744073709551616 = a * 256 := Nat.mod_eq_of_lt (Nat.lt_of_le_of_lt (Nat.le_add_right _ _) h)
    have q2 : c % 18446744073709551616 = c := Nat.mod_eq_of_lt (Nat.lt_trans hc (by decide))
    have p : (2 : Nat) ^ 64 = 18446744073709551616 := by decide
    rw [BitVec.ofInt_natCast, BitVec.ofInt_natCast, BitVec.toNat_or, BitVec.toNat_ofNat, BitVec.toNat_ofNat, p, q1, q2]
    have := Nat.shiftLeft_add_eq_or_of_lt (i := 8) (b := c) (show c < 2 ^ 8 from hc) a
    rw [Nat.shiftLeft_eq] at this
    exact this.symm
  simp only [binV, isShift, intV, if_true, e]
  rw [u64_wrap _ h]
theorem pow256_le {i : Nat} (h : i ≤ 7) : 256 ^ i ≤ 72057594037927936 := by
  have := Nat.pow_le_pow_right (n := 256) (by omega) h
  simpa using this
end Go.Proofs.YtdmcmebfclikgaaDoor

/- 'FieldTakes', walked. -/
set_option linter.unusedSimpArgs false
set_option linter.unusedVariables false
set_option maxHeartbeats 4000000
namespace Go.Proofs.YtdmcmebfclikgaaDoor
open Go.Abs Go.IntWalk

theorem rem_nat (s : Shp) (k : IntKind) (a b : Nat) (h : b ≠ 0) : binV .rem s (.int k a) (.int k b) = some (.int k ((a % b : Nat) : Int)) := by
  simp only [binV, isShift, intV, if_true]
  rw [if_neg (by omega), Int.tmod_eq_emod_of_nonneg (by omega)]
  norm_cast
theorem shl_one (s : Shp) (k : Nat) (h : k ≤ 7) : binV .shl s (.int .u64 1) (.int .u64 ((8 * k : Nat) : Int)) = some (.int .u64 ((256 ^ k : Nat) : Int)) := by
  have h1 : ¬ (((8 * k : Nat) : Int) < 0) := by omega
  have h2 : min (8 * k) 64 = 8 * k := by omega
  have h3 : (1 : Int) * 2 ^ (8 * k) = ((256 ^ k : Nat) : Int) := by rw [Int.one_mul, Int.pow_mul]; norm_cast
  simp only [binV, isShift, shiftV, h1, if_false, Int.toNat_natCast, IntKind.bits, h2, h3]
  have := pow256_le h
  rw [u64_wrap _ (by omega)]
theorem shr32 (s : Shp) (n : Nat) : binV .shr s (.int .u64 n) (.int .u64 32) = some (.int .u64 ((n / 4294967296 : Nat) : Int)) := by
  simp only [binV, isShift, shiftV]
  rw [if_neg (by decide)]
  have e2 : min (Int.toNat 32) IntKind.u64.bits = 32 := by decide
  rw [e2, Int.fdiv_eq_ediv_of_nonneg _ (by decide)]
  norm_cast
theorem u32_wrap (x : Nat) : IntKind.u32.wrap (x : Int) = ((x % 4294967296 : Nat) : Int) := by rw [IntKind.wrap_u32]; omega
theorem halves (n : Nat) (hn : n < 18446744073709551616) : putB (n / 4294967296 % 4294967296) 4 ++ putB (n % 4294967296) 4 = putB n 8 := by
  have e := putB_add n 4 4
  have p : 256 ^ 4 = 4294967296 := by decide
  rw [p] at e
  have e1 := putB_mod (n / 4294967296) 4 4 (by omega)
  have e2 := putB_mod n 4 4 (by omega)
  rw [p] at e1 e2
  rw [e1, e2]
  exact e.symm
end Go.Proofs.YtdmcmebfclikgaaDoor

/- The reader: bytes, numbers. -/
set_option linter.unusedSimpArgs false
set_option linter.unusedVariables false
set_option maxHeartbeats 4000000
namespace Go.Proofs.YtdmcmebfclikgaaDoor
open Go.Abs Go.IntWalk

/-- What is read of so many bytes; what is left; whether they ended too soon. -/
def outZ (b : List Nat) (m : Nat) : List Nat := if m > b.length then [] else b.take m
def leftZ (b : List Nat) (m : Nat) : List Nat := if m > b.length then b else b.drop m
def shortZ (b : List Nat) (sh : Bool) (m : Nat) : Bool := if m > b.length then true else sh
theorem leftZ_mem {b : List Nat} {m c : Nat} (h : c ∈ leftZ b m) : c ∈ b := by
  unfold leftZ at h
  split at h
  · exact h
  · exact List.mem_of_mem_drop h
theorem outZ_mem {b : List Nat} {m c : Nat} (h : c ∈ outZ b m) : c ∈ b := by
  unfold outZ at h
  split at h
  · cases h
  · exact List.mem_of_mem_take h
theorem leftZ_le (b : List Nat) (m : Nat) : (leftZ b m).length ≤ b.length := by
  unfold leftZ
  split
  · exact Nat.le_refl _
  · simp
theorem outZ_le (b : List Nat) (m : Nat) : (outZ b m).length ≤ m := by
  unfold outZ
  split
  · simp
  · simp; omega
def bytesS : Abs.Spec := fun args h k => ∃ (V : Nat → Prop) (q : Nat) (vB : Value) (sh : Bool) (rest : List Value) (b : List Nat) (m : Nat), args = [ptr q, .int .i64 m] ∧ q < h.next ∧ ¬ V q ∧ b.length ≤ 100000 ∧ h.objs q = some (.cells (vB :: .bool sh :: rest) true) ∧ SliceAt V h vB b.length 1 (rowC b) ∧
  ∀ h' v' vB', Chg h h' [q] → h'.objs q = some (.cells (vB' :: .bool (shortZ b sh m) :: rest) true) → SliceAt V h' vB' (leftZ b m).length 1 (rowC (leftZ b m)) → SliceAt V h' v' (outZ b m).length 1 (rowC (outZ b m)) → k v' h'
theorem rowC_drop (b : List Nat) (m : Nat) : rowC (b.drop m) = fun i => rowC b (m + i) := by funext i; simp [rowC]
theorem bytes_cases {V : Nat → Prop} {h : St} {vB : Value} {b : List Nat} (s : SliceAt V h vB b.length 1 (rowC b)) {m : Nat} (hm : m ≤ b.length) :
    ∃ v1 v2, cutS 1 vB none (some (.int .i64 (m : Int))) = some v1 ∧ cutS 1 vB (some (.int .i64 (m : Int))) none = some v2 ∧ SliceAt V h v1 (b.take m).length 1 (rowC (b.take m)) ∧ SliceAt V h v2 (b.drop m).length 1 (rowC (b.drop m)) := by
  obtain ⟨v1, hc1, s1⟩ := s.cut (lo := none) (hi := some (.int .i64 m)) (loHi_hi (e := m) hm) (Nat.zero_le _) hm
  obtain ⟨v2, hc2, s2⟩ := s.cut (lo := some (.int .i64 m)) (hi := none) (loHi_lo (l := m) hm) hm (Nat.le_refl _)
  refine ⟨v1, v2, hc1, hc2, ?_, ?_⟩
  · have e : (b.take m).length = m - 0 := by simp; omega
    rw [e]
    refine s1.rows fun i hi => ?_
    have hi' : i < m := by omega
    simp [rowC, hi']
  · have e : (b.drop m).length = b.length - m := by simp
    rw [e, rowC_drop]
    exact s2
theorem bytesS_live : SpecLive bytesS := by
  rintro args h k ⟨V, q, vB, sh, rest, b, m, rfl, hq, hV, hb, ho, s, H⟩
  have c : ∀ o, Chg h (h.set q o) [q] := fun o => Chg.set o (by simp)
  have nV : ∀ i ∈ [q], ¬ V i := by simpa using hV
  by_cases hm : m > b.length
  · have e1 : leftZ b m = b := by simp [leftZ, hm]
    have e2 : outZ b m = [] := by simp [outZ, hm]
    rw [e1, e2] at H
    exact ⟨_, _, H (h.set q (.cells (vB :: .bool (shortZ b sh m) :: rest) true)) (.slice none 0 0) vB (c _) (set_at _ _ _) (s.chg (c _) nV) (.inl ⟨rfl, rfl⟩)⟩
  · have e1 : leftZ b m = b.drop m := by simp [leftZ, hm]
    have e2 : outZ b m = b.take m := by simp [outZ, hm]
    rw [e1, e2] at H
    obtain ⟨v1, v2, _, _, s1, s2⟩ := bytes_cases s (m := m) (by omega)
    exact ⟨_, _, H (h.set q (.cells (v2 :: .bool (shortZ b sh m) :: rest) true)) v1 v2 (c _) (set_at _ _ _) (s2.chg (c _) nV) (s1.chg (c _) nV)⟩
theorem bytesS_ok : SpecOk Tryd.prog 58 bytesS := by
  refine specOk_wf mixed Tryd.func58 (by kernel_rfl) (by kernel_rfl) (tab := []) (by simp) (by simp) (keep := field_reader_bytes_keep) ?_
  rintro args h k wf ⟨V, q, vB, sh, rest, b, m, rfl, hq, hV, hb, ho, s, H⟩
  refine ⟨0, ?_⟩
  show field_reader_bytes (tabC []) idG 0 (ptr q) (.int .i64 m) h _
  rw [field_reader_bytes_eq]
  have c : ∀ o, Chg h (h.set q o) [q] := fun o => Chg.set o (by simp)
  have nV : ∀ i ∈ [q], ¬ V i := by simpa using hV
  by_cases hm : m > b.length
  · have e1 : leftZ b m = b := by simp [leftZ, hm]
    have e2 : outZ b m = [] := by simp [outZ, hm]
    have e3 : shortZ b sh m = true := by simp [shortZ, hm]
    rw [e1, e2, e3] at H
    have hm' : (b.length : Int) < m := by omega
    simp [ptr, ho, s.len, hm']
    exact ⟨_, St.le.refl _, H (h.set q (.cells (vB :: .bool true :: rest) true)) (.slice none 0 0) vB (c _) (set_at _ _ _) (s.chg (c _) nV) (.inl ⟨rfl, rfl⟩)⟩
  · have e1 : leftZ b m = b.drop m := by simp [leftZ, hm]
    have e2 : outZ b m = b.take m := by simp [outZ, hm]
    have e3 : shortZ b sh m = sh := by simp [shortZ, hm]
    rw [e1, e2, e3] at H
    obtain ⟨v1, v2, k1, k2, s1, s2⟩ := bytes_cases s (m := m) (by omega)
    have hm' : ¬ (b.length : Int) < m := by omega
    simp [ptr, ho, s.len, hm', k1, k2, s2.one, s2.cells1]
    exact ⟨_, St.le.refl _, H (h.set q (.cells (v2 :: .bool sh :: rest) true)) v1 v2 (c _) (set_at _ _ _) (s2.chg (c _) nV) (s1.chg (c _) nV)⟩

def rnumS : Abs.Spec := fun args h k => ∃ (V : Nat → Prop) (q : Nat) (vB : Value) (sh : Bool) (rest : List Value) (b : List Nat) (w : Nat), args = [ptr q, .int .i64 w] ∧ w ≤ 8 ∧ q < h.next ∧ ¬ V q ∧ b.length ≤ 100000 ∧ (∀ c ∈ b, c < 256) ∧ h.objs q = some (.cells (vB :: .bool sh :: rest) true) ∧ SliceAt V h vB b.length 1 (rowC b) ∧
  ∀ h' vB', Chg h h' [q] → h'.objs q = some (.cells (vB' :: .bool (shortZ b sh w) :: rest) true) → SliceAt V h' vB' (leftZ b w).length 1 (rowC (leftZ b w)) → k (.int .u64 (numB (outZ b w))) h'
theorem rnumS_live : SpecLive rnumS := by
  rintro args h k ⟨V, q, vB, sh, rest, b, m, rfl, hw, hq, hV, hb, hx, ho, s, H⟩
  have c : ∀ o, Chg h (h.set q o) [q] := fun o => Chg.set o (by simp)
  have nV : ∀ i ∈ [q], ¬ V i := by simpa using hV
  by_cases hm : m > b.length
  · have e1 : leftZ b m = b := by simp [leftZ, hm]
    rw [e1] at H
    exact ⟨_, _, H (h.set q (.cells (vB :: .bool (shortZ b sh m) :: rest) true)) vB (c _) (set_at _ _ _) (s.chg (c _) nV)⟩
  · have e1 : leftZ b m = b.drop m := by simp [leftZ, hm]
    rw [e1] at H
    obtain ⟨v1, v2, _, _, s1, s2⟩ := bytes_cases s (m := m) (by omega)
    exact ⟨_, _, H (h.set q (.cells (v2 :: .bool (shortZ b sh m) :: rest) true)) v2 (c _) (set_at _ _ _) (s2.chg (c _) nV)⟩
theorem rnum_l0 {B : Nat → Prop} {nn : Nat} {v x4 : Value} {l : List Nat} {K : Cont} {h : St} {C : Oracle} (hl : l.length ≤ 8) (hx : ∀ c ∈ l, c < 256) (s4 : SliceAt B h v l.length 1 (rowC l)) (H : K (.int .u64 (numB l)) h) :
    ∀ (d i m0 : Nat), i + d = l.length → d < m0 → field_reader_number_l0 C idG nn m0 x4 (.int .u64 (numB (l.take i))) v (.int .i64 l.length) (.int .i64 i) h K := by
  intro d
  induction d with
  | zero =>
    intro i m0 hi hm
    obtain ⟨m0, rfl⟩ : ∃ m, m0 = m + 1 := ⟨m0 - 1, by omega⟩
    rw [field_reader_number_l0_eq]
    have e : i = l.length := by omega
    subst e
    simp only [bindV_some, binV_lss, condK_bool, Int.lt_irrefl, decide_false, Bool.false_eq_true, if_false, idG_eq]
    rw [field_reader_number_j1_eq, List.take_length]
    exact H
  | succ d ih =>
    intro i m0 hi hm
    obtain ⟨m0, rfl⟩ : ∃ m, m0 = m + 1 := ⟨m0 - 1, by omega⟩
    rw [field_reader_number_l0_eq]
    have hlt : (i : Int) < l.length := by omega
    obtain ⟨b, o, g1, g2, g3, cs, own, g4, g5⟩ := s4.idx (Int.natCast_nonneg i) hlt .i64
    have g6 := takeN_get g5 (j := 0) (by omega)
    have hi' : i < l.length := by omega
    have hg : l[i]?.getD 0 = l[i] := by rw [List.getElem?_eq_getElem hi']; rfl
    have hc := hx l[i] (List.getElem_mem _)
    simp only [rowC, Int.toNat_natCast, hg, Nat.add_zero, List.getElem?_cons_zero] at g6
    have hlt2 := numB_lt (l.take i) fun c hc => hx c (List.mem_of_mem_take hc)
    have hp := pow256_le (i := i) (by omega)
    have hli : (l.take i).length = i := by simp; omega
    rw [hli] at hlt2
    have j1 : IntKind.i64.wrap ((i : Int) + 1) = ((i + 1 : Nat) : Int) := by rw [i64_in _ (by omega)]; omega
    have et : l.take (i + 1) = l.take i ++ [l[i]] := by rw [List.take_succ_eq_append_getElem hi']
    simp only [binV_lss, bindV_some, condK_bool, hlt, decide_true, if_true, idG_eq, g1, loadV_ptr, g4, loadM_cells, partV_one, g6, bc, binNil_int, shl8 _ _ (show numB (l.take i) * 256 < _ by omega), wrapV_int, u64_wrap l[i] (by omega), or8 _ _ _ (show numB (l.take i) * 256 + l[i] < _ by omega) hc, binV_add, j1]
    rw [← numB_snoc, ← et]
    exact ih (i + 1) m0 (by omega) (by omega)
theorem rnumS_ok : SpecOk Tryd.prog 57 rnumS := by
  refine specOk_wf mixed Tryd.func57 (by kernel_rfl) (by kernel_rfl) (tab := [(58, bytesS)]) (by simp [bytesS_ok]) (by simp [bytesS_live]) (keep := field_reader_number_keep) ?_
  rintro args h k wf ⟨V, q, vB, sh, rest, b, w, rfl, hw, hq, hV, hb, hx, ho, s, H⟩
  refine ⟨9, ?_⟩
  show field_reader_number (tabC [(58, bytesS)]) idG 9 (ptr q) (.int .i64 w) h _
  rw [field_reader_number_eq]
  refine .inl ⟨rfl, V, q, vB, sh, rest, b, w, rfl, hq, hV, hb, ho, s, fun h' v' vB' c' o' s1 s2 => ?_⟩
  simp only [s2.len, bindV_some, idG_eq]
  have e : numB ((outZ b w).take 0) = 0 := by simp [numB]
  have hle := outZ_le b w
  have := rnum_l0 (C := tabC [(58, bytesS)]) (nn := 9) (x4 := .int .u64 0) (K := fun v h1 => ∃ h2, St.le h2 h1 ∧ k v h2) (by omega) (fun c hc => hx c (outZ_mem hc)) s2 ⟨_, St.le.refl _, H h' vB' c' o' s1⟩ (outZ b w).length 0 9 (by omega) (by omega)
  rw [e] at this
  exact this
end Go.Proofs.YtdmcmebfclikgaaDoor

/- What is gathered: one letter. -/
set_option linter.unusedSimpArgs false
set_option linter.unusedVariables false
set_option maxHeartbeats 4000000
namespace Go.Proofs.YtdmcmebfclikgaaDoor
open Go.Abs Go.IntWalk

structure RSt where
  b : List Nat
  sh : Bool
  N : List Nat
  S : List ByteArray
  L : List (List Nat)
def listZ : Nat → List Nat → Bool → List Nat → List Nat × Bool × List Nat × Bool
  | 0, b, sh, l => (b, sh, l, true)
  | k + 1, b, sh, l => if sh = true then (b, sh, l, false) else listZ k (leftZ b 4) (shortZ b sh 4) (l ++ [numB (outZ b 4)])
def fieldZ (c : Nat) (st : RSt) : RSt :=
  if c = 115 then ⟨leftZ (leftZ st.b (wd c)) (numB (outZ st.b (wd c))), shortZ (leftZ st.b (wd c)) (shortZ st.b st.sh (wd c)) (numB (outZ st.b (wd c))), st.N, st.S ++ [bytesText (outZ (leftZ st.b (wd c)) (numB (outZ st.b (wd c))))], st.L⟩
  else if c = 108 then
    if (listZ (numB (outZ st.b (wd c))) (leftZ st.b (wd c)) (shortZ st.b st.sh (wd c)) []).2.2.2 = true
    then ⟨(listZ (numB (outZ st.b (wd c))) (leftZ st.b (wd c)) (shortZ st.b st.sh (wd c)) []).1, (listZ (numB (outZ st.b (wd c))) (leftZ st.b (wd c)) (shortZ st.b st.sh (wd c)) []).2.1, st.N, st.S, st.L ++ [(listZ (numB (outZ st.b (wd c))) (leftZ st.b (wd c)) (shortZ st.b st.sh (wd c)) []).2.2.1]⟩
    else ⟨(listZ (numB (outZ st.b (wd c))) (leftZ st.b (wd c)) (shortZ st.b st.sh (wd c)) []).1, (listZ (numB (outZ st.b (wd c))) (leftZ st.b (wd c)) (shortZ st.b st.sh (wd c)) []).2.1, st.N, st.S, st.L⟩
  else ⟨leftZ st.b (wd c), shortZ st.b st.sh (wd c), st.N ++ [numB (outZ st.b (wd c))], st.S, st.L⟩
def qc (n : Nat) : Value := .int .u64 n
def uc (n : Nat) : Value := .int .u32 n
/-- A colour for each block: 8 what came in, 9 the gatherer, 0 the numbers, 1 the texts, 2 the lists, 10 and more each list. -/
structure GAt (col : Nat → Nat) (N0 : Nat) (h : St) (q : Nat) (vB vN vS vL : Value) (LV : List Value) (st : RSt) : Prop where
  next : N0 ≤ h.next
  qn : q < h.next
  cq : col q = 9
  old : ∀ i, i < N0 → col i = 8
  obj : h.objs q = some (.cells [vB, .bool st.sh, vN, vS, vL] true)
  sB : SliceAt (col · = 8) h vB st.b.length 1 (rowC st.b)
  sN : OwnS (col · = 0) h vN 1 (st.N.map qc) st.N.length
  sS : OwnS (col · = 1) h vS 1 (st.S.map Value.string) st.S.length
  sL : OwnS (col · = 2) h vL 1 LV st.L.length
  sX : ∀ (i : Nat) (l : List Nat), st.L[i]? = some l → ∃ v, LV[i]? = some v ∧ SliceAt (col · = 10 + i) h v l.length 1 (rowU l)
def upd (col : Nat → Nat) (j x : Nat) : Nat → Nat := fun i => if i = j then x else col i
theorem upd_at (col : Nat → Nat) (j x : Nat) : upd col j x j = x := by simp [upd]
theorem upd_ne {col : Nat → Nat} {j x i : Nat} (h : i ≠ j) : upd col j x i = col i := by simp [upd, h]
theorem own_upd {col : Nat → Nat} {a j x sz n : Nat} {h : St} {v : Value} {cs : List Value} (s : OwnS (col · = a) h v sz cs n) (hj : h.next ≤ j) : OwnS (upd col j x · = a) h v sz cs n := s.imp fun i hi hc => (upd_ne (by omega)).trans hc
theorem at_upd {col : Nat → Nat} {a j x sz n : Nat} {h : St} {v : Value} {row : Nat → List Value} (s : SliceAt (col · = a) h v n sz row) (hj : h.next ≤ j) : SliceAt (upd col j x · = a) h v n sz row := s.imp fun i hi hc => (upd_ne (by omega)).trans hc
theorem keep_at {col : Nat → Nat} {a b sz n : Nat} {h h' : St} {v : Value} {row : Nat → List Value} {S : List Nat} (s : SliceAt (col · = b) h v n sz row) (c : Chg h h' S) (hS : ∀ i ∈ S, col i = a) (hab : a ≠ b) : SliceAt (col · = b) h' v n sz row := s.chg c fun i hi hb => hab ((hS i hi).symm.trans hb)
theorem keep_own {col : Nat → Nat} {a b sz n : Nat} {h h' : St} {v : Value} {cs : List Value} {S : List Nat} (s : OwnS (col · = b) h v sz cs n) (c : Chg h h' S) (hS : ∀ i ∈ S, col i = a) (hab : a ≠ b) : OwnS (col · = b) h' v sz cs n := s.chg c fun i hi hb => hab ((hS i hi).symm.trans hb)
theorem GAt.upd {col : Nat → Nat} {N0 q j x : Nat} {h : St} {vB vN vS vL : Value} {LV : List Value} {st : RSt} (g : GAt col N0 h q vB vN vS vL LV st) (hj : h.next ≤ j) : GAt (upd col j x) N0 h q vB vN vS vL LV st :=
  ⟨g.next, g.qn, (upd_ne (by have := g.qn; omega)).trans g.cq, fun i hi => (upd_ne (by have := g.next; omega)).trans (g.old i hi), g.obj, at_upd g.sB hj, own_upd g.sN hj, own_upd g.sS hj, own_upd g.sL hj, fun i l hl => by
    obtain ⟨v, h1, h2⟩ := g.sX i l hl
    exact ⟨v, h1, at_upd h2 hj⟩⟩
theorem GAt.hq {col : Nat → Nat} {N0 q : Nat} {h : St} {vB vN vS vL : Value} {LV : List Value} {st : RSt} (g : GAt col N0 h q vB vN vS vL LV st) : ∀ i ∈ [q], col i = 9 := by intro i hi; simp at hi; subst hi; exact g.cq
/-- Whatever changes in blocks of another colour alone. -/
theorem GAt.chg {col : Nat → Nat} {N0 q a : Nat} {h h' : St} {vB vN vS vL : Value} {LV : List Value} {st : RSt} (g : GAt col N0 h q vB vN vS vL LV st) {S : List Nat} (c : Chg h h' S) (hS : ∀ i ∈ S, col i = a) (ha : 10 + st.L.length ≤ a) : GAt col N0 h' q vB vN vS vL LV st :=
  ⟨Nat.le_trans g.next c.1, Nat.lt_of_lt_of_le g.qn c.1, g.cq, g.old, c.at g.qn (fun hi => by have h1 := hS _ hi; have h2 := g.cq; omega) g.obj, keep_at g.sB c hS (by omega), keep_own g.sN c hS (by omega), keep_own g.sS c hS (by omega), keep_own g.sL c hS (by omega), fun i l hl => by
    obtain ⟨v, h1, h2⟩ := g.sX i l hl
    have : i < st.L.length := (List.getElem?_eq_some_iff.1 hl).1
    exact ⟨v, h1, keep_at h2 c hS (by omega)⟩⟩
/-- The gatherer's own cells are others now. -/
theorem GAt.cell {col : Nat → Nat} {N0 q : Nat} {h h' : St} {vB vN vS vL vB' : Value} {LV : List Value} {st : RSt} (g : GAt col N0 h q vB vN vS vL LV st) (c : Chg h h' [q]) {b : List Nat} {sh : Bool} (ho : h'.objs q = some (.cells [vB', .bool sh, vN, vS, vL] true)) (s : SliceAt (col · = 8) h' vB' b.length 1 (rowC b)) :
    GAt col N0 h' q vB' vN vS vL LV ⟨b, sh, st.N, st.S, st.L⟩ :=
  ⟨Nat.le_trans g.next c.1, Nat.lt_of_lt_of_le g.qn c.1, g.cq, g.old, ho, s, keep_own g.sN c g.hq (by decide), keep_own g.sS c g.hq (by decide), keep_own g.sL c g.hq (by decide), fun i l hl => by
    obtain ⟨v, h1, h2⟩ := g.sX i l hl
    exact ⟨v, h1, keep_at h2 c g.hq (by omega)⟩⟩
theorem build1 (z x : Value) (hx : one x = true) (hu : isUnk x = false) (hc : x.cells = #[x]) (h : St) (k : Cont) : buildSliceE 1 1 [z] [(0 * 1, 1, x)] h k = k (.slice (some ⟨h.next, 0, some 1⟩) 1 0) (h.push (.cells [x] true)) := by
  simp [buildSliceE, fillL, repL, allOne_eq, hx, hu, hc]
/-- 'append(own, x)', x one cell. -/
theorem append_one {B : Nat → Prop} {h : St} {v x : Value} {n bytes : Nat} {cs : List Value} (s : OwnS B h v 1 cs n) (hx : one x = true) (hb : (n + 1) * bytes ≤ 140737488355328) (hb' : n + 1 ≤ 140737488355328) {k : Cont}
    (hk : ∀ h' S, (∀ i ∈ S, B i) → Chg h h' S → h.next + 1 < h'.next → OwnS (· = h.next + 1) h' (.slice (some ⟨h.next + 1, 0, some 1⟩) (n + 1) 0) 1 (cs ++ [x]) (n + 1) → k (.slice (some ⟨h.next + 1, 0, some 1⟩) (n + 1) 0) h') :
    appendE 1 bytes v (.slice (some ⟨h.next, 0, some 1⟩) 1 0) (h.push (.cells [x] true)) k := by
  have s' := s.chgP (D := fun _ => False) ((ChgP.refl _ h).of_push (o := .cells [x] true)) (fun _ h => h.elim)
  refine append_own (cs := cs) (new := [x]) (m := 1) s' (by simp [newCells]) (by omega) rfl (by simp [hx]) hb hb' fun h' S hS c n' o' e' => ?_
  have c' : Chg h h' S := ((Chg.push _ []).trans c (by simp) (fun i hi _ => hi))
  exact hk h' S hS c' (by simpa using n') (.inr ⟨_, rfl, rfl, n', o', e'⟩)
theorem nlt_q {col : Nat → Nat} {N0 q : Nat} {h : St} {vB vN vS vL : Value} {LV : List Value} {st : RSt} (g : GAt col N0 h q vB vN vS vL LV st) : ∀ i ∈ [q], ¬ i < N0 := by
  intro i hi hlt
  have h1 := g.old i hlt
  have h2 := g.hq i hi
  omega
theorem nlt_c {col : Nat → Nat} {N0 a : Nat} (old : ∀ i, i < N0 → col i = 8) (ha : a ≠ 8) {S : List Nat} (hS : ∀ i ∈ S, col i = a) : ∀ i ∈ S, ¬ i < N0 := by
  intro i hi hlt
  have h1 := old i hlt
  have h2 := hS i hi
  omega

theorem own_count {B : Nat → Prop} {h : St} {v : Value} {n : Nat} {cs : List Value} (s : OwnS B h v 1 cs n) : cs.length = n := by
  rcases s with ⟨_, rfl, rfl⟩ | ⟨_, _, _, _, _, e⟩
  · rfl
  · simpa using e
/-- A number more. -/
theorem GAt.addN {col : Nat → Nat} {N0 q : Nat} {h h1 : St} {vB vN vS vL : Value} {LV : List Value} {st : RSt} (g : GAt col N0 h q vB vN vS vL LV st) {S : List Nat} (c1 : Chg h h1 S) (hS : ∀ i ∈ S, col i = 0) {j : Nat} {x : Nat} {v : Value} (hj : h.next ≤ j) (o : OwnS (· = j) h1 v 1 (st.N.map qc ++ [qc x]) (st.N.length + 1)) :
    ChgP (fun i => ¬ i < N0) h (h1.set q (.cells [vB, .bool st.sh, v, vS, vL] true)) ∧ GAt (YtdmcmebfclikgaaDoor.upd col j 0) N0 (h1.set q (.cells [vB, .bool st.sh, v, vS, vL] true)) q vB v vS vL LV ⟨st.b, st.sh, st.N ++ [x], st.S, st.L⟩ := by
  have c2 : Chg h1 (h1.set q (.cells [vB, .bool st.sh, v, vS, vL] true)) [q] := Chg.set _ (by simp)
  have hqj : q ≠ j := by have := g.qn; omega
  have n1 := g.next; have n2 := c1.1; have n3 := g.qn
  have hS' : ∀ i ∈ S, YtdmcmebfclikgaaDoor.upd col j 0 i = 0 := by
    intro i hi
    by_cases e : i = j
    · subst e; exact upd_at _ _ _
    · exact (upd_ne e).trans (hS i hi)
  have hq' : ∀ i ∈ [q], YtdmcmebfclikgaaDoor.upd col j 0 i = 9 := by intro i hi; simp at hi; subst hi; exact (upd_ne hqj).trans g.cq
  have o' : OwnS (YtdmcmebfclikgaaDoor.upd col j 0 · = 0) h1 v 1 (st.N.map qc ++ [qc x]) (st.N.length + 1) := o.imp fun i _ hi => by have hi : i = j := hi; subst hi; exact upd_at _ _ _
  refine ⟨(c1.toP (nlt_c g.old (by decide) hS)).step (c2.toP (nlt_q g)), by simp; omega, by simp; omega, (upd_ne hqj).trans g.cq, fun i hi => (upd_ne (by omega)).trans (g.old i hi), set_at _ _ _, ?_, ?_, ?_, ?_, ?_⟩
  · exact keep_at (keep_at (at_upd g.sB hj) c1 hS' (by decide)) c2 hq' (by decide)
  · simpa using keep_own o' c2 hq' (by decide)
  · exact keep_own (keep_own (own_upd g.sS hj) c1 hS' (by decide)) c2 hq' (by decide)
  · exact keep_own (keep_own (own_upd g.sL hj) c1 hS' (by decide)) c2 hq' (by decide)
  · intro i l hl
    obtain ⟨w, h1, h2⟩ := g.sX i l hl
    exact ⟨w, h1, keep_at (keep_at (at_upd h2 hj) c1 hS' (by omega)) c2 hq' (by omega)⟩
/-- A text more. -/
theorem GAt.addS {col : Nat → Nat} {N0 q : Nat} {h h1 : St} {vB vN vS vL : Value} {LV : List Value} {st : RSt} (g : GAt col N0 h q vB vN vS vL LV st) {S : List Nat} (c1 : Chg h h1 S) (hS : ∀ i ∈ S, col i = 1) {j : Nat} {x : ByteArray} {v : Value} (hj : h.next ≤ j) (o : OwnS (· = j) h1 v 1 (st.S.map Value.string ++ [.string x]) (st.S.length + 1)) :
    ChgP (fun i => ¬ i < N0) h (h1.set q (.cells [vB, .bool st.sh, vN, v, vL] true)) ∧ GAt (YtdmcmebfclikgaaDoor.upd col j 1) N0 (h1.set q (.cells [vB, .bool st.sh, vN, v, vL] true)) q vB vN v vL LV ⟨st.b, st.sh, st.N, st.S ++ [x], st.L⟩ := by
  have c2 : Chg h1 (h1.set q (.cells [vB, .bool st.sh, vN, v, vL] true)) [q] := Chg.set _ (by simp)
  have hqj : q ≠ j := by have := g.qn; omega
  have n1 := g.next; have n2 := c1.1; have n3 := g.qn
  have hS' : ∀ i ∈ S, YtdmcmebfclikgaaDoor.upd col j 1 i = 1 := by
    intro i hi
    by_cases e : i = j
    · subst e; exact upd_at _ _ _
    · exact (upd_ne e).trans (hS i hi)
  have hq' : ∀ i ∈ [q], YtdmcmebfclikgaaDoor.upd col j 1 i = 9 := by intro i hi; simp at hi; subst hi; exact (upd_ne hqj).trans g.cq
  have o' : OwnS (YtdmcmebfclikgaaDoor.upd col j 1 · = 1) h1 v 1 (st.S.map Value.string ++ [.string x]) (st.S.length + 1) := o.imp fun i _ hi => by have hi : i = j := hi; subst hi; exact upd_at _ _ _
  refine ⟨(c1.toP (nlt_c g.old (by decide) hS)).step (c2.toP (nlt_q g)), by simp; omega, by simp; omega, (upd_ne hqj).trans g.cq, fun i hi => (upd_ne (by omega)).trans (g.old i hi), set_at _ _ _, ?_, ?_, ?_, ?_, ?_⟩
  · exact keep_at (keep_at (at_upd g.sB hj) c1 hS' (by decide)) c2 hq' (by decide)
  · exact keep_own (keep_own (own_upd g.sN hj) c1 hS' (by decide)) c2 hq' (by decide)
  · simpa using keep_own o' c2 hq' (by decide)
  · exact keep_own (keep_own (own_upd g.sL hj) c1 hS' (by decide)) c2 hq' (by decide)
  · intro i l hl
    obtain ⟨w, h1, h2⟩ := g.sX i l hl
    exact ⟨w, h1, keep_at (keep_at (at_upd h2 hj) c1 hS' (by omega)) c2 hq' (by omega)⟩
/-- A list more. -/
theorem GAt.addL {col : Nat → Nat} {N0 q : Nat} {h h1 : St} {vB vN vS vL : Value} {LV : List Value} {st : RSt} (g : GAt col N0 h q vB vN vS vL LV st) {S : List Nat} (c1 : Chg h h1 S) (hS : ∀ i ∈ S, col i = 2) {j : Nat} {x5 : Value} {x : List Nat} {v : Value} (hj : h.next ≤ j) (o : OwnS (· = j) h1 v 1 (LV ++ [x5]) (st.L.length + 1)) (sx : SliceAt (col · = 10 + st.L.length) h x5 x.length 1 (rowU x)) :
    ChgP (fun i => ¬ i < N0) h (h1.set q (.cells [vB, .bool st.sh, vN, vS, v] true)) ∧ GAt (YtdmcmebfclikgaaDoor.upd col j 2) N0 (h1.set q (.cells [vB, .bool st.sh, vN, vS, v] true)) q vB vN vS v (LV ++ [x5]) ⟨st.b, st.sh, st.N, st.S, st.L ++ [x]⟩ := by
  have c2 : Chg h1 (h1.set q (.cells [vB, .bool st.sh, vN, vS, v] true)) [q] := Chg.set _ (by simp)
  have hqj : q ≠ j := by have := g.qn; omega
  have n1 := g.next; have n2 := c1.1; have n3 := g.qn
  have hS' : ∀ i ∈ S, YtdmcmebfclikgaaDoor.upd col j 2 i = 2 := by
    intro i hi
    by_cases e : i = j
    · subst e; exact upd_at _ _ _
    · exact (upd_ne e).trans (hS i hi)
  have hq' : ∀ i ∈ [q], YtdmcmebfclikgaaDoor.upd col j 2 i = 9 := by intro i hi; simp at hi; subst hi; exact (upd_ne hqj).trans g.cq
  have o' : OwnS (YtdmcmebfclikgaaDoor.upd col j 2 · = 2) h1 v 1 (LV ++ [x5]) (st.L.length + 1) := o.imp fun i _ hi => by have hi : i = j := hi; subst hi; exact upd_at _ _ _
  refine ⟨(c1.toP (nlt_c g.old (by decide) hS)).step (c2.toP (nlt_q g)), by simp; omega, by simp; omega, (upd_ne hqj).trans g.cq, fun i hi => (upd_ne (by omega)).trans (g.old i hi), set_at _ _ _, ?_, ?_, ?_, ?_, ?_⟩
  · exact keep_at (keep_at (at_upd g.sB hj) c1 hS' (by decide)) c2 hq' (by decide)
  · exact keep_own (keep_own (own_upd g.sN hj) c1 hS' (by decide)) c2 hq' (by decide)
  · exact keep_own (keep_own (own_upd g.sS hj) c1 hS' (by decide)) c2 hq' (by decide)
  · simpa using keep_own o' c2 hq' (by decide)
  · intro i l hl
    by_cases hi : i < st.L.length
    · rw [List.getElem?_append_left hi] at hl
      obtain ⟨w, h1, h2⟩ := g.sX i l hl
      have hlv : i < LV.length := (List.getElem?_eq_some_iff.1 h1).1
      exact ⟨w, by rw [List.getElem?_append_left hlv]; exact h1, keep_at (keep_at (at_upd h2 hj) c1 hS' (by omega)) c2 hq' (by omega)⟩
    · have hi' : i = st.L.length := by
        have := (List.getElem?_eq_some_iff.1 hl).1
        simp at this; omega
      subst hi'
      simp at hl
      subst hl
      refine ⟨x5, ?_, keep_at (keep_at (at_upd sx hj) c1 hS' (by omega)) c2 hq' (by omega)⟩
      have e := own_count g.sL
      rw [← e]
      simp
end Go.Proofs.YtdmcmebfclikgaaDoor

/- What is gathered: one letter, walked. -/
set_option linter.unusedSimpArgs false
set_option linter.unusedVariables false
set_option maxHeartbeats 4000000
namespace Go.Proofs.YtdmcmebfclikgaaDoor
open Go.Abs Go.IntWalk

theorem map_flatU (l : List Nat) : l.map uc = l.flatMap fun b => [uc b] := by
  induction l with
  | nil => rfl
  | cons x l ih => rw [List.map_cons, List.flatMap_cons, ih]; rfl
theorem own_u {B : Nat → Prop} {h : St} {v : Value} {l : List Nat} (s : OwnS B h v 1 (l.map uc) l.length) : SliceAt B h v l.length 1 (rowU l) := by
  rw [map_flatU] at s
  exact s.slice (fun _ _ => rfl) (fun i x hx => by simp [rowU, hx, uc])
theorem numB_small {b : List Nat} {w : Nat} (hx : ∀ x ∈ b, x < 256) : numB (outZ b w) < 256 ^ w := by
  have h1 := numB_lt (outZ b w) fun c hc => hx c (outZ_mem hc)
  exact Nat.lt_of_lt_of_le h1 (Nat.pow_le_pow_right (by omega) (outZ_le b w))
def tabF : List (FuncId × Abs.Spec) := [(47, widthS), (57, rnumS), (58, bytesS)]
theorem field_l0 {N0 q nn : Nat} {vN vS vL : Value} {LV : List Value} {K : Cont} {hb : St} {n : Nat} {st0 : RSt} (hn : n ≤ 255) (hL : st0.L.length ≤ 1000) :
    ∀ (d j m0 : Nat) (h : St) (col : Nat → Nat) (vB x5 : Value) (b : List Nat) (sh : Bool) (l : List Nat), j + d = n → d < m0 → l.length = j → b.length ≤ 100000 → (∀ x ∈ b, x < 256) → GAt col N0 h q vB vN vS vL LV ⟨b, sh, st0.N, st0.S, st0.L⟩ → OwnS (col · = 10 + st0.L.length) h x5 1 (l.map uc) l.length → ChgP (fun i => ¬ i < N0) hb h →
      (∀ h' col' vB' vL' LV', ChgP (fun i => ¬ i < N0) hb h' → (GAt col' N0 h' q vB' vN vS vL' LV' (if (listZ d b sh l).2.2.2 = true then ⟨(listZ d b sh l).1, (listZ d b sh l).2.1, st0.N, st0.S, st0.L ++ [(listZ d b sh l).2.2.1]⟩ else ⟨(listZ d b sh l).1, (listZ d b sh l).2.1, st0.N, st0.S, st0.L⟩)) → K (.tuple #[]) h') →
      field_gather_field_l0 (tabC tabF) idG nn m0 (ptr q) x5 (.int .u64 n) (.int .u64 j) h K := by
  intro d
  induction d with
  | zero =>
    intro j m0 h col vB x5 b sh l hj hm hl hbl hx g s c H
    obtain ⟨m0, rfl⟩ : ∃ m, m0 = m + 1 := ⟨m0 - 1, by omega⟩
    rw [field_gather_field_l0_eq]
    have e : j = n := by omega
    subst e
    simp only [bindV_some, binV_lss, condK_bool, Int.lt_irrefl, decide_false, Bool.false_eq_true, if_false, idG_eq]
    rw [field_gather_field_j1_eq]
    have go := g.obj
    simp only [ptr, nilV_ptr, offV_ptr, loadV_ptr, bindV_some, go, loadM_cells, partV_one, Nat.zero_add, List.getElem?_cons_succ, List.getElem?_cons_zero]
    rw [build1 _ _ s.one s.isUnk s.cells1]
    refine append_one g.sL s.one (by simp; omega) (by simp; omega) fun h1 S hS c1 n1 o1 => ?_
    have hqS : q ∉ S := fun hi => by have h1 : col q = 2 := hS _ hi; have h2 := g.cq; omega
    have a1 := c1.at g.qn hqS go
    simp [a1]
    obtain ⟨z1, z2⟩ := g.addL c1 hS (j := h.next + 1) (by omega) o1 (x5 := x5) (x := l) (own_u s)
    simp only [listZ, if_true] at H
    exact H _ _ vB _ _ (c.step z1) z2
  | succ d ih =>
    intro j m0 h col vB x5 b sh l hj hm hl hbl hx g s c H
    obtain ⟨m0, rfl⟩ : ∃ m, m0 = m + 1 := ⟨m0 - 1, by omega⟩
    rw [field_gather_field_l0_eq]
    have hlt : (j : Int) < n := by omega
    have go := g.obj
    simp only [ptr, bindV_some, binV_lss, condK_bool, hlt, decide_true, if_true, idG_eq, nilV_ptr, offV_ptr, loadV_ptr, go, loadM_cells, partV_one, Nat.zero_add, List.getElem?_cons_succ, List.getElem?_cons_zero]
    cases sh with
    | true =>
      simp only [if_true]
      simp only [listZ, if_true, Bool.false_eq_true, if_false] at H
      exact H h col vB vL LV c g
    | false =>
      simp only [Bool.false_eq_true, if_false]
      simp only [listZ, Bool.false_eq_true, if_false] at H
      refine .inr (.inl ⟨rfl, (col · = 8), q, vB, false, [vN, vS, vL], b, 4, rfl, by omega, g.qn, show ¬ col q = 8 by have := g.cq; omega, hbl, hx, go, g.sB, fun h1 vB1 c1 o1 s1 => ?_⟩)
      have hsm := numB_small (w := 4) hx
      have p4 : 256 ^ 4 = 4294967296 := by decide
      rw [p4] at hsm
      have hw : IntKind.u32.wrap ((numB (outZ b 4) : Nat) : Int) = ((numB (outZ b 4) : Nat) : Int) := by rw [u32_wrap, Nat.mod_eq_of_lt hsm]
      have g1 := g.cell c1 o1 s1
      have s5 := keep_own s c1 g.hq (by omega)
      simp only [bindV_some, wrapV_int, hw]
      rw [build1 _ _ rfl rfl rfl]
      refine append_one s5 rfl (by omega) (by omega) fun h2 S hS c2 n2 o2 => ?_
      have hS' : ∀ i ∈ S, upd col (h1.next + 1) (10 + st0.L.length) i = 10 + st0.L.length := by
        intro i hi
        by_cases e : i = h1.next + 1
        · subst e; exact upd_at _ _ _
        · exact (upd_ne e).trans (hS i hi)
      have g2 := (g1.upd (j := h1.next + 1) (x := 10 + st0.L.length) (by omega)).chg c2 hS' (Nat.le_refl _)
      have j1 : IntKind.u64.wrap ((j : Int) + 1) = ((j + 1 : Nat) : Int) := by rw [u64_in _ (by omega)]; omega
      simp only [binNil_int, binV_add, bindV_some, j1]
      have el : l.length + 1 = (l ++ [numB (outZ b 4)]).length := by simp
      refine ih (j + 1) m0 h2 _ vB1 _ _ _ (l ++ [numB (outZ b 4)]) (by omega) (by omega) (by simp; omega) (Nat.le_trans (leftZ_le _ _) hbl) (fun x hx' => hx x (leftZ_mem hx')) g2 ?_ ((c.step (c1.toP (nlt_q g))).step (c2.toP (nlt_c g.old (by omega) hS))) H
      have o3 : OwnS (upd col (h1.next + 1) (10 + st0.L.length) · = 10 + st0.L.length) h2 (.slice (some ⟨h1.next + 1, 0, some 1⟩) (l.length + 1) 0) 1 (l.map uc ++ [.int .u32 (numB (outZ b 4) : Nat)]) (l.length + 1) := o2.imp fun i _ hi => by have hi : i = h1.next + 1 := hi; subst hi; exact upd_at _ _ _
      rw [← el]
      simpa [uc] using o3

def fieldS : Abs.Spec := fun args h k => ∃ (col : Nat → Nat) (N0 q : Nat) (vB vN vS vL : Value) (LV : List Value) (st : RSt) (c : Nat), args = [ptr q, .int .u8 c] ∧ st.b.length ≤ 100000 ∧ (∀ x ∈ st.b, x < 256) ∧ st.N.length ≤ 1000 ∧ st.S.length ≤ 1000 ∧ st.L.length ≤ 1000 ∧ GAt col N0 h q vB vN vS vL LV st ∧
  ∀ h' col' vB' vN' vS' vL' LV', ChgP (fun i => ¬ i < N0) h h' → GAt col' N0 h' q vB' vN' vS' vL' LV' (fieldZ c st) → k (.tuple #[]) h'
theorem fieldS_good : SpecGood Tryd.prog (54, fieldS) := by
  refine spec_good mixed Tryd.func54 (by kernel_rfl) (by kernel_rfl) (tab := tabF) (by simp [tabF, SpecGood, widthS_ok, rnumS_ok, bytesS_ok, widthS_live, rnumS_live, bytesS_live]) (keep := field_gather_field_keep) ?_
  rintro args h k ⟨col, N0, q, vB, vN, vS, vL, LV, st, c, rfl, hb, hx, lN, lS, lL, g, H⟩
  refine ⟨300, ?_⟩
  show field_gather_field (tabC tabF) idG 300 (ptr q) (.int .u8 c) h _
  rw [field_gather_field_eq]
  have go := g.obj
  simp only [ptr, nilV_ptr, offV_ptr, bindV_some]
  refine .inl ⟨rfl, c, rfl, trivial, ?_⟩
  refine .inr (.inl ⟨rfl, (col · = 8), q, vB, st.sh, [vN, vS, vL], st.b, wd c, rfl, wd_le c, g.qn, show ¬ col q = 8 by have := g.cq; omega, hb, hx, go, g.sB, fun h1 vB1 c1 o1 s1 => ⟨trivial, ?_⟩⟩)
  have g1 := g.cell c1 o1 s1
  have hb1 : (leftZ st.b (wd c)).length ≤ 100000 := Nat.le_trans (leftZ_le _ _) hb
  have hx1 : ∀ x ∈ leftZ st.b (wd c), x < 256 := fun x h => hx x (leftZ_mem h)
  have cp1 : ChgP (fun i => ¬ i < N0) h h1 := c1.toP (nlt_q g)
  by_cases t1 : c = 115
  · have t1i : (c : Int) = 115 := by omega
    have hw1 : wd c = 1 := by rw [t1]; rfl
    have hsm := numB_small (w := wd c) hx
    rw [hw1] at hsm
    have hi : IntKind.i64.wrap ((numB (outZ st.b (wd c)) : Nat) : Int) = ((numB (outZ st.b (wd c)) : Nat) : Int) := by rw [hw1]; exact i64_in _ (by omega)
    simp only [binNil_int, binV_eql, bindV_some, condK_bool, t1i, decide_true, if_true, loadV_ptr, o1, loadM_cells, partV_one, Nat.zero_add, List.getElem?_cons_succ, List.getElem?_cons_zero, wrapV_int, hi, true_and, nilV_ptr, offV_ptr]
    refine .inr (.inr (.inl ⟨rfl, (col · = 8), q, vB1, _, [vN, vS, vL], leftZ st.b (wd c), numB (outZ st.b (wd c)), rfl, g1.qn, show ¬ col q = 8 by have := g.cq; omega, hb1, o1, s1, fun h2 v2 vB2 c2 o2 s2 s3 => ?_⟩))
    have g2 := g1.cell c2 o2 s2
    have tx := text_slice s3
    have cp2 : ChgP (fun i => ¬ i < N0) h1 h2 := c2.toP (nlt_q g1)
    simp only [o2, loadM_cells, partV_one, Nat.zero_add, List.getElem?_cons_succ, List.getElem?_cons_zero, true_and, tx, bindV_some]
    rw [build1 _ _ rfl rfl rfl]
    have a3 : (h2.push (.cells [.string (bytesText (outZ (leftZ st.b (wd c)) (numB (outZ st.b (wd c)))))] true)).objs q = h2.objs q := push_ne g2.qn
    simp only [a3, o2, loadM_cells, partV_one, Nat.zero_add, List.getElem?_cons_succ, List.getElem?_cons_zero, true_and, bindV_some]
    refine append_one g2.sS rfl (by simp; omega) (by simp; omega) fun h3 S hS c3 n3 o3 => ?_
    have hqS : q ∉ S := fun hi => by have h1 : col q = 1 := hS _ hi; have h2 := g.cq; omega
    have a4 := c3.at g2.qn hqS o2
    simp [a4]
    obtain ⟨z1, z2⟩ := g2.addS c3 hS (j := h2.next + 1) (by omega) o3
    have e : fieldZ c st = ⟨leftZ (leftZ st.b (wd c)) (numB (outZ st.b (wd c))), shortZ (leftZ st.b (wd c)) (shortZ st.b st.sh (wd c)) (numB (outZ st.b (wd c))), st.N, st.S ++ [bytesText (outZ (leftZ st.b (wd c)) (numB (outZ st.b (wd c))))], st.L⟩ := by unfold fieldZ; rw [if_pos t1]
    rw [e] at H
    exact ⟨_, St.le.refl _, H _ _ vB2 vN _ vL LV ((cp1.step cp2).step z1) z2⟩
  · have t1i : ¬ (c : Int) = 115 := by omega
    by_cases t2 : c = 108
    · have t2i : (c : Int) = 108 := by omega
      have hw1 : wd c = 1 := by rw [t2]; rfl
      have hsm := numB_small (w := wd c) hx
      rw [hw1] at hsm
      simp only [binNil_int, binV_eql, bindV_some, condK_bool, t1i, t2i, decide_true, decide_false, Bool.false_eq_true, if_false, if_true, idG_eq]
      rw [if_neg (by decide)]
      have e : fieldZ c st = (if (listZ (numB (outZ st.b (wd c))) (leftZ st.b (wd c)) (shortZ st.b st.sh (wd c)) []).2.2.2 = true
          then ⟨(listZ (numB (outZ st.b (wd c))) (leftZ st.b (wd c)) (shortZ st.b st.sh (wd c)) []).1, (listZ (numB (outZ st.b (wd c))) (leftZ st.b (wd c)) (shortZ st.b st.sh (wd c)) []).2.1, st.N, st.S, st.L ++ [(listZ (numB (outZ st.b (wd c))) (leftZ st.b (wd c)) (shortZ st.b st.sh (wd c)) []).2.2.1]⟩
          else ⟨(listZ (numB (outZ st.b (wd c))) (leftZ st.b (wd c)) (shortZ st.b st.sh (wd c)) []).1, (listZ (numB (outZ st.b (wd c))) (leftZ st.b (wd c)) (shortZ st.b st.sh (wd c)) []).2.1, st.N, st.S, st.L⟩) := by unfold fieldZ; rw [if_neg t1, if_pos t2]
      rw [e] at H
      exact field_l0 (st0 := st) (n := numB (outZ st.b (wd c))) (by rw [hw1]; omega) lL (numB (outZ st.b (wd c))) 0 300 h1 col vB1 _ _ _ [] (by omega) (by rw [hw1]; omega) rfl hb1 hx1 g1 (.inl ⟨rfl, rfl, rfl⟩) cp1 fun h' col' vB' vL' LV' c' g' => ⟨_, St.le.refl _, H h' col' vB' vN vS vL' LV' c' g'⟩
    · have t2i : ¬ (c : Int) = 108 := by omega
      simp only [binNil_int, binV_eql, bindV_some, condK_bool, t1i, t2i, decide_false, Bool.false_eq_true, if_false, loadV_ptr, o1, loadM_cells, partV_one, Nat.zero_add, List.getElem?_cons_succ, List.getElem?_cons_zero, nilV_ptr, offV_ptr]
      rw [build1 _ _ rfl rfl rfl]
      refine append_one g1.sN rfl (by simp; omega) (by simp; omega) fun h3 S hS c3 n3 o3 => ?_
      have hqS : q ∉ S := fun hi => by have h1 : col q = 0 := hS _ hi; have h2 := g.cq; omega
      have a4 := c3.at g1.qn hqS o1
      simp [a4]
      obtain ⟨z1, z2⟩ := g1.addN c3 hS (j := h1.next + 1) (by omega) o3
      have e : fieldZ c st = ⟨leftZ st.b (wd c), shortZ st.b st.sh (wd c), st.N ++ [numB (outZ st.b (wd c))], st.S, st.L⟩ := by unfold fieldZ; rw [if_neg t1, if_neg t2]
      rw [e] at H
      exact ⟨_, St.le.refl _, H _ _ vB1 _ vS vL LV (cp1.step z1) z2⟩
end Go.Proofs.YtdmcmebfclikgaaDoor

/- 'Read', walked. -/
set_option linter.unusedSimpArgs false
set_option linter.unusedVariables false
set_option maxHeartbeats 4000000
namespace Go.Proofs.YtdmcmebfclikgaaDoor
open Go.Abs Go.IntWalk

def gatherZ (cs : List Nat) (st : RSt) : RSt := cs.foldl (fun st c => fieldZ c st) st
def noSt : RSt := ⟨[], false, [], [], []⟩
def readZ (cs b : List Nat) : Nat × RSt :=
  if 0 ≤ leastZ cs then
    (if (gatherZ cs ⟨b, false, [], [], []⟩).sh = true then (3, noSt) else if (gatherZ cs ⟨b, false, [], [], []⟩).b.length > 0 then (4, noSt) else (0, gatherZ cs ⟨b, false, [], [], []⟩))
  else (1, noSt)
theorem listZ_b {k : Nat} : ∀ {b : List Nat} {sh : Bool} {l : List Nat}, (listZ k b sh l).1.length ≤ b.length ∧ (∀ x ∈ (listZ k b sh l).1, x ∈ b) := by
  induction k with
  | zero => intro b sh l; exact ⟨Nat.le_refl _, fun _ h => h⟩
  | succ k ih =>
    intro b sh l
    simp only [listZ]
    split
    · exact ⟨Nat.le_refl _, fun _ h => h⟩
    · obtain ⟨h1, h2⟩ := ih (b := leftZ b 4) (sh := shortZ b sh 4) (l := l ++ [numB (outZ b 4)])
      exact ⟨Nat.le_trans h1 (leftZ_le _ _), fun x hx => leftZ_mem (h2 x hx)⟩
theorem fieldZ_b (c : Nat) (st : RSt) : (fieldZ c st).b.length ≤ st.b.length ∧ (∀ x ∈ (fieldZ c st).b, x ∈ st.b) ∧ (fieldZ c st).N.length ≤ st.N.length + 1 ∧ (fieldZ c st).S.length ≤ st.S.length + 1 ∧ (fieldZ c st).L.length ≤ st.L.length + 1 := by
  unfold fieldZ
  split
  · refine ⟨Nat.le_trans (leftZ_le _ _) (leftZ_le _ _), fun x hx => leftZ_mem (leftZ_mem hx), ?_, ?_, ?_⟩ <;> simp
  · split
    · obtain ⟨h1, h2⟩ := listZ_b (k := numB (outZ st.b (wd c))) (b := leftZ st.b (wd c)) (sh := shortZ st.b st.sh (wd c)) (l := [])
      split
      · refine ⟨Nat.le_trans h1 (leftZ_le _ _), fun x hx => leftZ_mem (h2 x hx), ?_, ?_, ?_⟩ <;> simp
      · refine ⟨Nat.le_trans h1 (leftZ_le _ _), fun x hx => leftZ_mem (h2 x hx), ?_, ?_, ?_⟩ <;> simp
    · refine ⟨leftZ_le _ _, fun x hx => leftZ_mem hx, ?_, ?_, ?_⟩ <;> simp
def tabR : List (FuncId × Abs.Spec) := [(25, rightS), (54, fieldS)]
theorem read_l0 {s : ByteArray} {n q N0 : Nat} {x1 x4 x5 : Value} {K : Cont} {hb : St} {target : RSt} (h8 : (letters s).length ≤ 8)
    (END : ∀ h col vB vN vS vL LV, ChgP (fun i => ¬ i < N0) hb h → GAt col N0 h q vB vN vS vL LV target → field_Read_j1 (tabC tabR) idG n (.string s) x1 x4 x5 (ptr q) (.int .i64 (letters s).length) (.int .i64 (letters s).length) h K) :
    ∀ (d i m0 : Nat) (h : St) (col : Nat → Nat) (vB vN vS vL : Value) (LV : List Value) (st : RSt), i + d = (letters s).length → d < m0 → ChgP (fun i => ¬ i < N0) hb h → GAt col N0 h q vB vN vS vL LV st → st.b.length ≤ 100000 → (∀ x ∈ st.b, x < 256) → st.N.length ≤ i → st.S.length ≤ i → st.L.length ≤ i → gatherZ ((letters s).drop i) st = target →
      field_Read_l0 (tabC tabR) idG n m0 (.string s) x1 x4 x5 (ptr q) (.int .i64 (letters s).length) (.int .i64 i) h K := by
  intro d
  induction d with
  | zero =>
    intro i m0 h col vB vN vS vL LV st hi hm c g hbl hx l1 l2 l3 T
    obtain ⟨m0, rfl⟩ : ∃ m, m0 = m + 1 := ⟨m0 - 1, by omega⟩
    rw [field_Read_l0_eq]
    have e : i = (letters s).length := by omega
    subst e
    rw [List.drop_length] at T
    simp only [gatherZ, List.foldl_nil] at T
    subst T
    simp only [bindV_some, binV_lss, condK_bool, Int.lt_irrefl, decide_false, Bool.false_eq_true, if_false, idG_eq]
    exact END h col vB vN vS vL LV c g
  | succ d ih =>
    intro i m0 h col vB vN vS vL LV st hi hm c g hbl hx l1 l2 l3 T
    obtain ⟨m0, rfl⟩ : ∃ m, m0 = m + 1 := ⟨m0 - 1, by omega⟩
    rw [field_Read_l0_eq]
    have hlt : i < (letters s).length := by omega
    have hlt' : (i : Int) < (letters s).length := by omega
    obtain ⟨a, ha⟩ : ∃ a, (letters s)[i]? = some a := ⟨_, List.getElem?_eq_getElem hlt⟩
    have hd : (letters s).drop i = a :: (letters s).drop (i + 1) := by
      rw [List.drop_eq_getElem_cons hlt]
      congr 1
      exact (List.getElem?_eq_some_iff.1 ha).2
    rw [hd] at T
    have T' : gatherZ ((letters s).drop (i + 1)) (fieldZ a st) = target := T
    have j1 : IntKind.i64.wrap ((i : Int) + 1) = ((i + 1 : Nat) : Int) := by rw [i64_in _ (by omega)]; omega
    simp only [bindV_some, binV_lss, condK_bool, hlt', decide_true, if_true, idG_eq, idxT_at ha]
    refine .inr (.inl ⟨rfl, col, N0, q, vB, vN, vS, vL, LV, st, a, rfl, hbl, hx, by omega, by omega, by omega, g, fun h' col' vB' vN' vS' vL' LV' c' g' => ?_⟩)
    simp only [binNil_int, binV_add, bindV_some, j1]
    obtain ⟨k1, k2, k3, k4, k5⟩ := fieldZ_b a st
    exact ih (i + 1) m0 h' col' vB' vN' vS' vL' LV' _ (by omega) (by omega) (c.step c') g' (by omega) (fun x hx' => hx x (k2 x hx')) (by omega) (by omega) (by omega) T'
def readS : Abs.Spec := fun args h k => ∃ (V : Nat → Prop) (s : ByteArray) (v : Value) (b : List Nat), args = [.string s, v] ∧ s.size ≤ 1000 ∧ b.length ≤ 100000 ∧ (∀ x ∈ b, x < 256) ∧ SliceAt V h v b.length 1 (rowC b) ∧ (∀ i, V i → i < h.next) ∧
  ∀ h' vN vS vL lv, Chg h h' [] → FieldsAt (h.next ≤ ·) h' vN vS vL lv (readZ (letters s) b).2.N (readZ (letters s) b).2.S (readZ (letters s) b).2.L → k (.tuple #[.agg #[vN, vS, vL], .int .i64 (readZ (letters s) b).1]) h'
theorem nilF (V : Nat → Prop) (h : St) : FieldsAt V h (.slice none 0 0) (.slice none 0 0) (.slice none 0 0) (fun _ => .slice none 0 0) noSt.N noSt.S noSt.L := ⟨.inl ⟨rfl, rfl⟩, .inl ⟨rfl, rfl⟩, .inl ⟨rfl, rfl⟩, fun i l hl => by simp [noSt] at hl⟩
theorem map_flatV {α : Type} (f : α → Value) (l : List α) : l.map f = l.flatMap fun b => [f b] := by
  induction l with
  | nil => rfl
  | cons x l ih => rw [List.map_cons, List.flatMap_cons, ih]; rfl
theorem GAt.fields {col : Nat → Nat} {N0 q : Nat} {h : St} {vB vN vS vL : Value} {LV : List Value} {st : RSt} (g : GAt col N0 h q vB vN vS vL LV st) : FieldsAt (fun i => ¬ i < N0 ∧ i ≠ q) h vN vS vL (fun i => LV[i]?.getD (.slice none 0 0)) st.N st.S st.L := by
  have ne : ∀ a, a ≠ 8 → a ≠ 9 → ∀ i, i < h.next → col i = a → (¬ i < N0 ∧ i ≠ q) := fun a ha ha' i _ hc => ⟨fun hi => ha (hc.symm.trans (g.old i hi)), fun e => ha' (hc.symm.trans (e ▸ g.cq))⟩
  refine ⟨?_, ?_, ?_, fun i l hl => ?_⟩
  · have s := g.sN
    rw [map_flatV] at s
    exact (s.slice (row := rowQ st.N) (fun _ _ => rfl) (fun i x hx => by simp [rowQ, hx, qc])).imp (ne 0 (by decide) (by decide))
  · have s := g.sS
    rw [map_flatV] at s
    exact (s.slice (row := rowT st.S) (fun _ _ => rfl) (fun i x hx => by simp [rowT, hx])).imp (ne 1 (by decide) (by decide))
  · have s := g.sL
    have e := own_count s
    rw [← e] at s ⊢
    have e2 : LV = LV.flatMap fun v => [v] := by simp
    have s' : OwnS (col · = 2) h vL 1 (LV.flatMap fun v => [v]) LV.length := by rw [← e2]; exact s
    exact (s'.slice (fun _ _ => rfl) (fun i x hx => by simp [hx])).imp (ne 2 (by decide) (by decide))
  · obtain ⟨v, h1, h2⟩ := g.sX i l hl
    simp only [h1, Option.getD_some]
    exact h2.imp (ne (10 + i) (by omega) (by omega))
theorem readS_good : SpecGood Tryd.prog (33, readS) := by
  refine spec_good mixed Tryd.func33 (by kernel_rfl) (by kernel_rfl) (tab := tabR) (by simp [tabR, SpecGood, rightS_ok, rightS_live, fieldS_good.1, fieldS_good.2]) (keep := field_Read_keep) ?_
  rintro args h k ⟨V, s, v, b, rfl, hs, hbl, hx, sl, hV, H⟩
  refine ⟨9, ?_⟩
  show field_Read (tabC tabR) idG 9 (.string s) v h _
  rw [field_Read_eq]
  simp only [allocE_some]
  refine .inl ⟨rfl, s, rfl, by omega, ?_⟩
  by_cases hr : 0 ≤ leastZ (letters s)
  · have h8 : (letters s).length ≤ 8 := by
      unfold leastZ at hr
      split at hr <;> omega
    have hv1 := sl.one; have hv2 := sl.isUnk; have hv3 := sl.cells1
    simp [hr, buildV, fillL, hv1, hv2, hv3]
    rw [← letters_length]
    have c1 : Chg h ((h.push (.cells [.slice none 0 0, .slice none 0 0, .slice none 0 0] true)).push (.cells [.slice none 0 0, .bool false, .slice none 0 0, .slice none 0 0, .slice none 0 0] true)) [] := (Chg.push _ []).of_push
    have c2 : Chg h (((h.push (.cells [.slice none 0 0, .slice none 0 0, .slice none 0 0] true)).push (.cells [.slice none 0 0, .bool false, .slice none 0 0, .slice none 0 0, .slice none 0 0] true)).set (h.next + 1) (.cells [v, .bool false, .slice none 0 0, .slice none 0 0, .slice none 0 0] true)) [] := Chg.of_set c1 (.inr (by simp))
    obtain ⟨g0, hg0⟩ : ∃ g, g = (((h.push (.cells [.slice none 0 0, .slice none 0 0, .slice none 0 0] true)).push (.cells [.slice none 0 0, .bool false, .slice none 0 0, .slice none 0 0, .slice none 0 0] true)).set (h.next + 1) (.cells [v, .bool false, .slice none 0 0, .slice none 0 0, .slice none 0 0] true)) := ⟨_, rfl⟩
    rw [← hg0] at c2 ⊢
    have q1 : g0.objs (h.next + 1) = some (.cells [v, .bool false, .slice none 0 0, .slice none 0 0, .slice none 0 0] true) := by rw [hg0]; exact set_at _ _ _
    have q0 : g0.objs h.next = some (.cells [.slice none 0 0, .slice none 0 0, .slice none 0 0] true) := by rw [hg0, set_ne (by omega), push_ne (by simp)]; exact push_at _ _
    have qn : g0.next = h.next + 2 := by rw [hg0]; rfl
    clear hg0 c1
    have cV : SliceAt (fun i => i ≠ h.next + 1 ∧ i ≠ h.next) g0 v b.length 1 (rowC b) := (sl.chg c2 (by simp)).imp fun i _ hi => by have := hV i hi; omega
    refine read_l0 (N0 := h.next + 1) (q := h.next + 1) (hb := g0) (target := gatherZ (letters s) ⟨b, false, [], [], []⟩) h8 ?_ (letters s).length 0 9 g0 (fun i => if i = h.next + 1 then 9 else 8) v _ _ _ [] ⟨b, false, [], [], []⟩ (by omega) (by omega) (ChgP.refl _ _)
      ⟨by omega, by omega, by simp, fun i hi => if_neg (by omega), q1, cV.imp (fun i _ hi => if_neg hi.1), .inl ⟨rfl, rfl, rfl⟩, .inl ⟨rfl, rfl, rfl⟩, .inl ⟨rfl, rfl, rfl⟩, fun i l hl => by simp at hl⟩ hbl hx (by simp) (by simp) (by simp) (by simp)
    intro h3 col vB vN vS vL LV c3 g
    have o3 := g.obj
    have a3 : h3.objs h.next = some (.cells [.slice none 0 0, .slice none 0 0, .slice none 0 0] true) := c3.at (by omega) (by omega) q0
    have c4 : Chg h h3 [] := ((c2.toP (D := fun i => ¬ i < h.next + 1) (by simp)).step c3).list (by intro i hi hh; omega)
    have cs : ∀ o, Chg h (h3.set h.next o) [] := fun o => Chg.of_set c4 (.inr (Nat.le_refl _))
    have n3 := c3.1
    have hz : readZ (letters s) b = if (gatherZ (letters s) ⟨b, false, [], [], []⟩).sh = true then (3, noSt) else if (gatherZ (letters s) ⟨b, false, [], [], []⟩).b.length > 0 then (4, noSt) else (0, gatherZ (letters s) ⟨b, false, [], [], []⟩) := by unfold readZ; rw [if_pos hr]
    rw [field_Read_j1_eq]
    have hl := g.sB.len
    generalize gatherZ (letters s) ⟨b, false, [], [], []⟩ = tg at *
    cases hsh : tg.sh with
    | true =>
      rw [hsh] at o3
      rw [hz, if_pos hsh] at H
      simp [ptr, o3, a3, buildV, fillL]
      exact ⟨_, St.le.refl _, H _ _ _ _ _ (cs _) (nilF _ _)⟩
    | false =>
      rw [hsh] at o3
      rw [hz, if_neg (by simp [hsh])] at H
      by_cases hlen : tg.b.length > 0
      · rw [if_pos hlen] at H
        have hlen' : (0 : Int) < tg.b.length := by omega
        simp [ptr, o3, a3, buildV, fillL, hl, hlen, hlen']
        exact ⟨_, St.le.refl _, H _ _ _ _ _ (cs _) (nilF _ _)⟩
      · rw [if_neg hlen] at H
        have hlen' : ¬ (0 : Int) < tg.b.length := by omega
        have f := g.fields
        have w1 := f.1.one; have w2 := f.2.1.one; have w3 := f.2.2.1.one
        have tk : takeN [vB, Value.bool false, vN, vS, vL] 2 3 = some [vN, vS, vL] := rfl
        simp [ptr, o3, a3, hl, hlen, hlen', tk, w1, w2, w3]
        have f' : FieldsAt (fun i => ¬ i < h.next + 1 ∧ i ≠ h.next + 1) (h3.set h.next (.cells [vN, vS, vL] true)) vN vS vL (fun i => LV[i]?.getD (.slice none 0 0)) tg.N tg.S tg.L := f.chgP (D := fun i => i = h.next) ((ChgP.refl _ _).of_set (.inl rfl)) (by intro i hi hh; omega)
        exact ⟨_, St.le.refl _, H _ _ _ _ _ (cs _) ⟨f'.1.imp (fun i _ hi => by omega), f'.2.1.imp (fun i _ hi => by omega), f'.2.2.1.imp (fun i _ hi => by omega), fun i l hl => (f'.2.2.2 i l hl).imp (fun i _ hi => by omega)⟩⟩
  · have hz : readZ (letters s) b = (1, noSt) := by unfold readZ; rw [if_neg hr]
    rw [hz] at H
    simp [hr, buildV, fillL]
    exact ⟨_, St.le.refl _, H _ _ _ _ _ (Chg.of_set (Chg.push _ []) (.inr (Nat.le_refl _))) (nilF _ _)⟩
end Go.Proofs.YtdmcmebfclikgaaDoor
