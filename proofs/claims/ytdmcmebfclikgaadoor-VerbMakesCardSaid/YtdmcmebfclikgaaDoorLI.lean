/- Clones of lists; Concat of texts. -/
import Derived.Test.YtdmcmebfclikgaaDoorLH
set_option linter.unusedSimpArgs false
set_option linter.unusedVariables false
set_option maxHeartbeats 4000000
set_option maxRecDepth 100000
namespace Go.Proofs.YtdmcmebfclikgaaDoor
open Go.Abs Go.IntWalk
attribute [local congr] bindV_w condK_w guardK_w groupK_w allocE_w boxE_w storeE_w storeM_w tabC_w ite_w idG_w

def uN (n : Nat) : Value := .int .u32 n
theorem rowU_at (N : List Nat) (i x : Nat) (h : N[i]? = some x) : rowU N i = [uN x] := by simp [rowU, uN, h]
def rowV (N : List Value) (i : Nat) : List Value := [N[i]?.getD undef]
theorem rowV_at (N : List Value) (i : Nat) (x : Value) (h : N[i]? = some x) : rowV N i = [id x] := by simp [rowV, h]
def tC (s : ByteArray) : Value := .string s
theorem rowT_at (N : List ByteArray) (i : Nat) (x : ByteArray) (h : N[i]? = some x) : rowT N i = [tC x] := by simp [rowT, tC, h]
theorem allOne_all : ∀ {l : List Value}, (∀ x ∈ l, Abs.one x = true) → allOne l = true
  | [], _ => rfl
  | x :: l, h => by simp [h x (by simp), allOne_all (l := l) fun y hy => h y (by simp [hy])]
def cloneUS : Abs.Spec := fun args h k => ∃ (B : Nat → Prop) (v : Value) (N : List Nat), args = [v] ∧ N.length ≤ 1000000 ∧ SliceAt B h v N.length 1 (rowU N) ∧ ∀ h' v', Chg h h' [] → SliceAt (h.next ≤ ·) h' v' N.length 1 (rowU N) → k v' h'
theorem cloneUS_good : SpecGood Tryd.prog (39, cloneUS) := by
  refine spec_good mixed Tryd.func39 (by kernel_rfl) (by kernel_rfl) (tab := []) (by simp) (keep := CloneU_keep) ?_
  rintro args h k ⟨B, v, N, rfl, hN, s, H⟩
  refine ⟨0, ?_⟩
  show CloneU (tabC []) idG 0 v h _
  generalize hK : (fun v h1 => ∃ h2, St.le h2 h1 ∧ k v h2 : Cont) = K
  have H : ∀ h' v', Chg h h' [] → SliceAt (h.next ≤ ·) h' v' N.length 1 (rowU N) → K v' h' := by subst hK; exact fun h' v' c s => ⟨_, St.le.refl _, H h' v' c s⟩
  clear hK
  rw [CloneU_eq]
  rcases id s with ⟨rfl, hl⟩ | ⟨b, off, sp, c, rfl, hsp, hs⟩
  · simp
    exact H h _ (Chg.refl _ _) (.inl ⟨rfl, hl⟩)
  · simp [buildSliceE, fillL, repL]
    have c1 := Chg.push (h := h) (.cells [] true) []
    refine append_own' (B := (h.next ≤ ·)) (cs := []) (n := 0) (new := N.map uN) (m := N.length) (by simp) (.inr ⟨h.next, rfl, Nat.le_refl _, by simp, push_at _ _, rfl⟩) (newCells_one (s.chg c1 (by simp)) (rowU_at N)) (by simp) (allOne_map (fun _ => rfl) _) (by omega) (by omega) fun h' v' c o => ?_
    refine H h' v' (((c1.toP (D := (h.next ≤ ·)) (by simp)).step c).list (by intro i hi hh; omega)) ?_
    have o' : OwnS (h.next ≤ ·) h' v' 1 (N.flatMap fun n => [uN n]) N.length := by rw [← List.map_eq_flatMap]; simpa using o
    exact o'.slice (fun _ _ => rfl) (rowU_at N)
def cloneLS : Abs.Spec := fun args h k => ∃ (B : Nat → Prop) (v : Value) (N : List Value), args = [v] ∧ N.length ≤ 1000000 ∧ SliceAt B h v N.length 1 (rowV N) ∧ (∀ x ∈ N, Abs.one x = true) ∧ ∀ h' v', Chg h h' [] → OwnS (h.next ≤ ·) h' v' 1 N N.length → k v' h'
theorem cloneLS_good : SpecGood Tryd.prog (38, cloneLS) := by
  refine spec_good mixed Tryd.func38 (by kernel_rfl) (by kernel_rfl) (tab := []) (by simp) (keep := CloneL_keep) ?_
  rintro args h k ⟨B, v, N, rfl, hN, s, h1, H⟩
  refine ⟨0, ?_⟩
  show CloneL (tabC []) idG 0 v h _
  generalize hK : (fun v h1 => ∃ h2, St.le h2 h1 ∧ k v h2 : Cont) = K
  have H : ∀ h' v', Chg h h' [] → OwnS (h.next ≤ ·) h' v' 1 N N.length → K v' h' := by subst hK; exact fun h' v' c s => ⟨_, St.le.refl _, H h' v' c s⟩
  clear hK
  rw [CloneL_eq]
  rcases id s with ⟨rfl, hl⟩ | ⟨b, off, sp, c, rfl, hsp, hs⟩
  · simp
    have : N = [] := List.eq_nil_of_length_eq_zero hl
    subst this
    exact H h _ (Chg.refl _ _) (.inl ⟨rfl, rfl, rfl⟩)
  · simp [buildSliceE, fillL, repL]
    have c1 := Chg.push (h := h) (.cells [] true) []
    refine append_own' (B := (h.next ≤ ·)) (cs := []) (n := 0) (new := N.map id) (m := N.length) (by simp) (.inr ⟨h.next, rfl, Nat.le_refl _, by simp, push_at _ _, rfl⟩) (newCells_one (s.chg c1 (by simp)) (rowV_at N)) (by simp) (by rw [List.map_id]; exact allOne_all h1) (by omega) (by omega) fun h' v' c o => ?_
    refine H h' v' (((c1.toP (D := (h.next ≤ ·)) (by simp)).step c).list (by intro i hi hh; omega)) ?_
    simpa using o
def growSS : Abs.Spec := fun args h k => ∃ n : Nat, args = [.slice none 0 0, .int .i64 n] ∧ n ≤ 1000000 ∧ ∀ h' v', Chg h h' [] → OwnS (h.next ≤ ·) h' v' 1 [] 0 → k v' h'
theorem growSS_good : SpecGood Tryd.prog (55, growSS) := by
  refine spec_good mixed Tryd.func55 (by kernel_rfl) (by kernel_rfl) (tab := []) (by simp) (keep := GrowS_keep) ?_
  rintro args h k ⟨n, rfl, hn, H⟩
  refine ⟨0, ?_⟩
  show GrowS (tabC []) idG 0 (.slice none 0 0) (.int .i64 n) h _
  generalize hK : (fun v h1 => ∃ h2, St.le h2 h1 ∧ k v h2 : Cont) = K
  have H : ∀ h' v', Chg h h' [] → OwnS (h.next ≤ ·) h' v' 1 [] 0 → K v' h' := by subst hK; exact fun h' v' c s => ⟨_, St.le.refl _, H h' v' c s⟩
  clear hK
  have w : IntKind.i64.wrap (n : Int) = n := i64_in _ (by omega)
  have c0 : ¬ (n : Int) < 0 := by omega
  rw [GrowS_eq]
  simp [c0]
  rw [GrowS_j0_eq]
  by_cases c1 : n = 0
  · subst c1
    simp
    rw [GrowS_j1_eq]
    exact H h _ (Chg.refl _ _) (.inl ⟨rfl, rfl, rfl⟩)
  · have c2 : 0 < (n : Int) := by omega
    have w0 : IntKind.i64.wrap 0 = 0 := by decide
    have e1 : cutS 1 (.slice none 0 0) none (some (.int .i64 0)) = some (.slice none 0 0) := rfl
    have c3 : 0 < n := by omega
    simp [w0, w, c2, c3, e1, appendZ]
    refine ⟨by omega, ?_⟩
    have e2 : cutS 1 (.slice (some ⟨h.next, 0, some 1⟩) n 0) none (some (.int .i64 0)) = some (.slice (some ⟨h.next, 0, some 1⟩) 0 0) := by simp [cutS, loHi]
    simp [e2]
    rw [GrowS_j1_eq]
    exact H _ _ (Chg.push _ _) (.inr ⟨h.next, rfl, Nat.le_refl _, by simp, push_at _ _, rfl⟩)
theorem takeS (ls : List (List ByteArray)) {i : Nat} (hi : i < ls.length) : (ls.take (i + 1)).flatten = (ls.take i).flatten ++ ls[i] := by
  rw [List.take_add_one, List.getElem?_eq_getElem hi, List.flatten_append]
  simp only [Option.toList_some, List.flatten_singleton]
theorem takeS_le (ls : List (List ByteArray)) (i : Nat) : (ls.take i).flatten.length ≤ ls.flatten.length := by
  have : ls.flatten = (ls.take i).flatten ++ (ls.drop i).flatten := by rw [← List.flatten_append, List.take_append_drop]
  rw [this, List.length_append]; omega
def concatSS : Abs.Spec := fun args h k => ∃ (B : Nat → Prop) (v : Value) (ws : Nat → Value) (ls : List (List ByteArray)), args = [v] ∧ ls.length ≤ 1000 ∧ ls.flatten.length ≤ 1000000 ∧ SliceAt B h v ls.length 1 (fun i => [ws i]) ∧ (∀ (i : Nat) (l : List ByteArray), ls[i]? = some l → SliceAt B h (ws i) l.length 1 (rowT l)) ∧
  ∀ h' v', Chg h h' [] → OwnS (h.next ≤ ·) h' v' 1 (ls.flatten.map tC) ls.flatten.length → k v' h'
theorem concatS_l0 {B : Nat → Prop} {v x0 x2 x6 x25 x26 x27 : Value} {ws : Nat → Value} {ls : List (List ByteArray)} {nn : Nat} {h : St} {K : Cont} (hl : ls.length ≤ 1000) (hf : ls.flatten.length ≤ 1000000) (s : SliceAt B h v ls.length 1 (fun i => [ws i])) (ss : ∀ (i : Nat) (l : List ByteArray), ls[i]? = some l → SliceAt B h (ws i) l.length 1 (rowT l)) :
    ∀ (d i m0 : Nat), i + d = ls.length → d < m0 → ConcatS_j2 (tabC [(55, growSS)]) idG nn x0 x2 (.int .i64 ls.flatten.length) x6 v (.int .i64 ls.length) (.int .i64 ls.length) x25 x26 x27 h K →
      ConcatS_l0 (tabC [(55, growSS)]) idG nn m0 x0 x2 (.int .i64 (ls.take i).flatten.length) x6 v (.int .i64 ls.length) (.int .i64 i) x25 x26 x27 h K := by
  intro d
  induction d with
  | zero =>
    intro i m0 hi hm H
    obtain ⟨m0, rfl⟩ : ∃ m, m0 = m + 1 := ⟨m0 - 1, by omega⟩
    rw [ConcatS_l0_eq]
    have e : i = ls.length := by omega
    subst e
    rw [List.take_length]
    simpa using H
  | succ d ih =>
    intro i m0 hi hm H
    obtain ⟨m0, rfl⟩ : ∃ m, m0 = m + 1 := ⟨m0 - 1, by omega⟩
    rw [ConcatS_l0_eq]
    have hlt : (i : Int) < ls.length := by omega
    have hi' : i < ls.length := by omega
    have inc : IntKind.i64.wrap ((i : Int) + 1) = ((i + 1 : Nat) : Int) := by rw [i64_in _ (by omega)]; omega
    obtain ⟨b, o, g1, g2, g3, cs, own, g4, g5⟩ := s.idx (Int.natCast_nonneg i) hlt .i64
    have g6 := takeN_get g5 (j := 0) (by omega)
    simp only [Nat.add_zero, List.getElem?_cons_zero, Int.toNat_natCast] at g6
    have sw := ss i ls[i] (List.getElem?_eq_getElem hi')
    have tl := takeS_le ls (i + 1)
    have te := takeS ls hi'
    have tsum : ((ls.take i).flatten.length : Int) + (ls[i].length : Int) = ((ls.take (i + 1)).flatten.length : Int) := by rw [te, List.length_append]; omega
    have w : IntKind.i64.wrap (((ls.take i).flatten.length : Int) + (ls[i].length : Int)) = ((ls.take (i + 1)).flatten.length : Int) := by rw [tsum, i64_in _ (by omega)]
    have nn0 : ¬ ((ls.take (i + 1)).flatten.length : Int) < 0 := by omega
    simp only [bindV_some, binV_lss, hlt, decide_true, condK_bool, if_true, idG_eq, g1, loadV_ptr, g4, loadM_cells, partV_one, g6, sw.len, binV_add, w, binNil_int, nn0, decide_false, Bool.false_eq_true, if_false]
    rw [ConcatS_j1_eq]
    simp only [binNil_int, binV_add, bindV_some, inc, idG_eq]
    exact ih (i + 1) m0 (by omega) (by omega) H
theorem concatS_l3 {B : Nat → Prop} {v x0 x2 x3 x9 x10 x11 : Value} {ws : Nat → Value} {ls : List (List ByteArray)} {nn : Nat} {h0 : St} {K : Cont} (hB : ∀ i, B i → i < h0.next) (hl : ls.length ≤ 1000) (hf : ls.flatten.length ≤ 1000000) (s : SliceAt B h0 v ls.length 1 (fun i => [ws i])) (ss : ∀ (i : Nat) (l : List ByteArray), ls[i]? = some l → SliceAt B h0 (ws i) l.length 1 (rowT l))
    (H : ∀ h' v', Chg h0 h' [] → OwnS (h0.next ≤ ·) h' v' 1 (ls.flatten.map tC) ls.flatten.length → K v' h') :
    ∀ (d i m0 : Nat) (h : St) (x6 : Value), i + d = ls.length → d < m0 → Chg h0 h [] → OwnS (h0.next ≤ ·) h x6 1 ((ls.take i).flatten.map tC) (ls.take i).flatten.length →
      ConcatS_l3 (tabC [(55, growSS)]) idG nn m0 x0 x2 x3 x6 x9 x10 x11 v (.int .i64 ls.length) (.int .i64 i) h K := by
  intro d
  induction d with
  | zero =>
    intro i m0 h x6 hi hm c o
    obtain ⟨m0, rfl⟩ : ∃ m, m0 = m + 1 := ⟨m0 - 1, by omega⟩
    rw [ConcatS_l3_eq]
    have e : i = ls.length := by omega
    subst e
    rw [List.take_length] at o
    simp
    rw [ConcatS_j4_eq]
    exact H h x6 c o
  | succ d ih =>
    intro i m0 h x6 hi hm c o
    obtain ⟨m0, rfl⟩ : ∃ m, m0 = m + 1 := ⟨m0 - 1, by omega⟩
    rw [ConcatS_l3_eq]
    have hlt : (i : Int) < ls.length := by omega
    have hi' : i < ls.length := by omega
    have inc : IntKind.i64.wrap ((i : Int) + 1) = ((i + 1 : Nat) : Int) := by rw [i64_in _ (by omega)]; omega
    have sh := s.chg c (by simp)
    obtain ⟨b, oo, g1, g2, g3, cs, own, g4, g5⟩ := sh.idx (Int.natCast_nonneg i) hlt .i64
    have g6 := takeN_get g5 (j := 0) (by omega)
    simp only [Nat.add_zero, List.getElem?_cons_zero, Int.toNat_natCast] at g6
    have sw := (ss i ls[i] (List.getElem?_eq_getElem hi')).chg c (by simp)
    have tl := takeS_le ls (i + 1)
    have te := takeS ls hi'
    have tn : (ls.take (i + 1)).flatten.length = (ls.take i).flatten.length + ls[i].length := by rw [te, List.length_append]
    simp only [bindV_some, binV_lss, hlt, decide_true, condK_bool, if_true, idG_eq, g1, loadV_ptr, g4, loadM_cells, partV_one, g6]
    refine append_own' (B := (h0.next ≤ ·)) (new := ls[i].map tC) (m := ls[i].length) c.1 o (newCells_one sw (rowT_at _)) (by simp) (allOne_map (fun _ => rfl) _) (by omega) (by omega) fun h' v' c' o' => ?_
    simp only [bindV_some, binNil_int, binV_add, inc, idG_eq]
    refine ih (i + 1) m0 h' v' (by omega) (by omega) (((c.toP (D := (h0.next ≤ ·)) (by simp)).step c').list (by intro i hi hh; omega)) ?_
    rw [te, List.map_append, List.length_append]
    exact o'
theorem concatSS_good : SpecGood Tryd.prog (37, concatSS) := by
  refine spec_good mixed Tryd.func37 (by kernel_rfl) (by kernel_rfl) (tab := [(55, growSS)]) (by simpa using growSS_good) (keep := ConcatS_keep) ?_
  rintro args h k ⟨B, v, ws, ls, rfl, hl, hf, s, ss, H⟩
  refine ⟨1001, ?_⟩
  show ConcatS (tabC [(55, growSS)]) idG 1001 v h _
  generalize hK : (fun v h1 => ∃ h2, St.le h2 h1 ∧ k v h2 : Cont) = K
  have H : ∀ h' v', Chg h h' [] → OwnS (h.next ≤ ·) h' v' 1 (ls.flatten.map tC) ls.flatten.length → K v' h' := by subst hK; exact fun h' v' c s => ⟨_, St.le.refl _, H h' v' c s⟩
  clear hK
  have s' : SliceAt (fun i => B i ∧ i < h.next) h v ls.length 1 (fun i => [ws i]) := s.imp fun i a b => ⟨b, a⟩
  have ss' : ∀ (i : Nat) (l : List ByteArray), ls[i]? = some l → SliceAt (fun i => B i ∧ i < h.next) h (ws i) l.length 1 (rowT l) := fun i l hil => (ss i l hil).imp fun i a b => ⟨b, a⟩
  rw [ConcatS_eq]
  simp only [s.len, bindV_some, idG_eq]
  refine concatS_l0 hl hf s ss ls.length 0 1001 (by omega) (by omega) ?_
  rw [ConcatS_j2_eq]
  refine .inl ⟨rfl, _, rfl, hf, fun h2 v2 c2 o2 => ?_⟩
  simp only [s.len, bindV_some, idG_eq]
  have o2' : OwnS (h.next ≤ ·) h2 v2 1 ((ls.take 0).flatten.map tC) (ls.take 0).flatten.length := by simpa using o2
  refine concatS_l3 (h0 := h) (fun i hi => hi.2) hl hf s' ss' H ls.length 0 1001 h2 v2 (by omega) (by omega) c2 o2'
end Go.Proofs.YtdmcmebfclikgaaDoor

/- With and And. -/
set_option linter.unusedSimpArgs false
set_option linter.unusedVariables false
set_option maxHeartbeats 4000000
set_option maxRecDepth 100000
namespace Go.Proofs.YtdmcmebfclikgaaDoor
open Go.Abs Go.IntWalk
attribute [local congr] bindV_w condK_w guardK_w groupK_w allocE_w boxE_w storeE_w storeM_w tabC_w ite_w idG_w appendE_w toBytesE_w buildSliceE_w

/-- A slice's value, alone in its cell. -/
def Sl1 (v : Value) : Prop := Abs.one v = true ∧ v.cells = #[v] ∧ isUnk v = false
theorem sl1_of {B : Nat → Prop} {h : St} {v : Value} {n sz : Nat} {row : Nat → List Value} (s : SliceAt B h v n sz row) : Sl1 v := ⟨s.one, s.cells1, s.isUnk⟩
def withS : Abs.Spec := fun args h k => ∃ (B : Nat → Prop) (x : Int) (vN vS vL w : Value) (S T : List ByteArray), args = [.agg #[.int .i64 x, vN, vS, vL], w] ∧ Sl1 vN ∧ Sl1 vL ∧ S.length + T.length ≤ 100000 ∧ SliceAt B h vS S.length 1 (rowT S) ∧ SliceAt B h w T.length 1 (rowT T) ∧
  ∀ h' vS', Chg h h' [] → SliceAt (h.next ≤ ·) h' vS' (S ++ T).length 1 (rowT (S ++ T)) → k (.agg #[.int .i64 x, vN, vS', vL]) h'
theorem withS_good : SpecGood Tryd.prog (20, withS) := by
  refine spec_good mixed Tryd.func20 (by kernel_rfl) (by kernel_rfl) (tab := [(37, concatSS)]) (by simpa using concatSS_good) (keep := verb_Msg_With_keep) ?_
  rintro args h k ⟨B, x, vN, vS, vL, w, S, T, rfl, sN, sL, hz, s, t, H⟩
  refine ⟨0, ?_⟩
  show verb_Msg_With (tabC [(37, concatSS)]) idG 0 (.agg #[.int .i64 x, vN, vS, vL]) w h _
  generalize hK : (fun v h1 => ∃ h2, St.le h2 h1 ∧ k v h2 : Cont) = K
  have H : ∀ h' vS', Chg h h' [] → SliceAt (h.next ≤ ·) h' vS' (S ++ T).length 1 (rowT (S ++ T)) → K (.agg #[.int .i64 x, vN, vS', vL]) h' := by subst hK; exact fun h' v' c s => ⟨_, St.le.refl _, H h' v' c s⟩
  clear hK
  rw [verb_Msg_With_eq, boxE_eq]
  refine ⟨by simp [sN.1, s.one, sL.1], ?_⟩
  obtain ⟨h1, hh1⟩ : ∃ z, z = h.push (.cells [.int .i64 x, vN, vS, vL] true) := ⟨_, rfl⟩
  have e1 : h.push (.cells (Value.agg #[.int .i64 x, vN, vS, vL]).cells.toList true) = h1 := by rw [hh1]; rfl
  rw [e1]
  have c1 : Chg h h1 [] := by rw [hh1]; exact Chg.push _ _
  have n1 : h1.next = h.next + 1 := by rw [hh1]; rfl
  have o1 : h1.objs h.next = some (.cells [.int .i64 x, vN, vS, vL] true) := by rw [hh1]; exact push_at _ _
  simp only [allocE_some]
  obtain ⟨h2, hh2⟩ : ∃ z, z = h1.push (.cells [.int .i64 0, .slice none 0 0, .slice none 0 0, .slice none 0 0] true) := ⟨_, rfl⟩
  rw [← hh2]
  have c2 : Chg h1 h2 [] := by rw [hh2]; exact Chg.push _ _
  have n2 : h2.next = h1.next + 1 := by rw [hh2]; rfl
  have r2 : h2.objs h1.next = some (.cells [.int .i64 0, .slice none 0 0, .slice none 0 0, .slice none 0 0] true) := by rw [hh2]; exact push_at _ _
  have o2 := c2.at (by omega) (by simp) o1
  have cc2 : Chg h h2 [] := c1.of_chg c2 (by simp)
  have s2 := s.chg cc2 (by simp)
  have t2 := t.chg cc2 (by simp)
  simp [ptr, o2, buildSliceE, fillL, repL, allOne_eq, s2.one, s2.isUnk, s2.cells1, t2.one, t2.isUnk, t2.cells1]
  obtain ⟨h3, hh3⟩ : ∃ z, z = h2.push (.cells [vS, w] true) := ⟨_, rfl⟩
  rw [← hh3]
  have c3 : Chg h2 h3 [] := by rw [hh3]; exact Chg.push _ _
  have n3 : h3.next = h2.next + 1 := by rw [hh3]; rfl
  have q3 : h3.objs h2.next = some (.cells [vS, w] true) := by rw [hh3]; exact push_at _ _
  refine .inl ⟨rfl, fun i => i < h3.next, .slice (some ⟨h2.next, 0, some 1⟩) 2 0, fun i => if i = 0 then vS else w, [S, T], rfl, by simp, by simp; omega, ?_, ?_, fun h4 v4 c4 o4 => ?_⟩
  · refine .inr ⟨h2.next, 0, some 1, 0, rfl, .inr rfl, fun _ => ⟨by omega, by omega, _, _, q3, fun i hi => ?_⟩⟩
    match i, hi with
    | 0, _ => rfl
    | 1, _ => rfl
  · intro i l hl
    match i, hl with
    | 0, hl =>
      simp at hl
      subst hl
      exact (s2.chg c3 (by simp)).imp fun i a _ => a
    | 1, hl =>
      simp at hl
      subst hl
      exact (t2.chg c3 (by simp)).imp fun i a _ => a
  · have c24 : Chg h2 h4 [] := c3.of_chg c4 (by simp)
    have o4' := c24.at (by omega) (by simp) o2
    have r4 := c24.at (by omega) (by simp) r2
    have n4 := c4.1
    have ff : [S, T].flatten = S ++ T := by simp
    rw [ff] at o4
    have sl : SliceAt (h3.next ≤ ·) h4 v4 (S ++ T).length 1 (rowT (S ++ T)) := by
      have o' : OwnS (h3.next ≤ ·) h4 v4 1 ((S ++ T).flatMap fun n => [tC n]) (S ++ T).length := by rw [← List.map_eq_flatMap]; exact o4
      exact o'.slice (fun _ _ => rfl) (rowT_at _)
    simp [o4', sl.cells1, sl.one]
    have ne : h1.next ≠ h.next := by omega
    simp [r4, set_ne ne, sN.1, sL.1, sl.one]
    have cc : Chg h h4 [] := cc2.of_chg c24 (by simp)
    have cs : Chg h4 ((h4.set h.next (.cells [.int .i64 x, vN, v4, vL] true)).set h1.next (.cells [.int .i64 x, vN, v4, vL] true)) [h.next, h1.next] := (Chg.set _ (by simp)).of_set (.inl (by simp))
    refine H _ _ (cc.of_chg cs (by intro i hi; right; simp at hi; omega)) ?_
    exact ((sl.chg cs (by intro i hi hh; simp at hi; omega))).imp fun i a hh => by omega

theorem one_cells {h : St} {b : Nat} {v : Value} (ho : h.objs b = some (.cells [v] true)) : newCells 1 (.slice (some ⟨b, 0, some 1⟩) 1 0) h = some ([v], 1) := by
  simp only [newCells, ho, Nat.mul_one]
  rfl
theorem build_one {v : Value} (s : Sl1 v) (h : St) (k : Cont) : buildSliceE 1 1 [.slice none 0 0] [(0 * 1, 1, v)] h k = k (.slice (some ⟨h.next, 0, some 1⟩) 1 0) (h.push (.cells [v] true)) := by
  simp [buildSliceE, fillL, repL, allOne_eq, s.1, s.2.1, s.2.2]
def andS : Abs.Spec := fun args h k => ∃ (B : Nat → Prop) (x : Int) (vN vS vL w : Value) (vs : List Value) (wv : Nat → Value) (M : List (List Nat)), args = [.agg #[.int .i64 x, vN, vS, vL], w] ∧ Sl1 vN ∧ Sl1 vS ∧ vs.length + M.length ≤ 1000 ∧ (∀ l ∈ M, l.length ≤ 1000000) ∧ SliceAt B h vL vs.length 1 (rowV vs) ∧ (∀ x ∈ vs, Abs.one x = true) ∧ SliceAt B h w M.length 1 (fun i => [wv i]) ∧ (∀ (i : Nat) (l : List Nat), M[i]? = some l → SliceAt B h (wv i) l.length 1 (rowU l)) ∧
  ∀ h' vL' (ws : List Value), Chg h h' [] → ws.length = M.length → SliceAt (h.next ≤ ·) h' vL' (vs ++ ws).length 1 (rowV (vs ++ ws)) → (∀ (i : Nat) (l : List Nat), M[i]? = some l → SliceAt (h.next ≤ ·) h' (ws[i]?.getD undef) l.length 1 (rowU l)) → k (.agg #[.int .i64 x, vN, vS, vL']) h'
theorem and_l0 {B : Nat → Prop} {nn : Nat} {x : Int} {vN vS w : Value} {a r : Nat} {vs : List Value} {wv : Nat → Value} {M : List (List Nat)} {h0 : St} {K : Cont} (sN : Sl1 vN) (sS : Sl1 vS) (hz : vs.length + M.length ≤ 1000) (hM : ∀ l ∈ M, l.length ≤ 1000000)
    (hB : ∀ i, B i → i < h0.next) (sw : SliceAt B h0 w M.length 1 (fun i => [wv i])) (si : ∀ (i : Nat) (l : List Nat), M[i]? = some l → SliceAt B h0 (wv i) l.length 1 (rowU l)) (ha : h0.next ≤ a) (hr : h0.next ≤ r) (har : a ≠ r)
    (H : ∀ h' vL' (ws : List Value), Chg h0 h' [] → ws.length = M.length → SliceAt (h0.next ≤ ·) h' vL' (vs ++ ws).length 1 (rowV (vs ++ ws)) → (∀ (i : Nat) (l : List Nat), M[i]? = some l → SliceAt (h0.next ≤ ·) h' (ws[i]?.getD undef) l.length 1 (rowU l)) → K (.agg #[.int .i64 x, vN, vS, vL']) h') :
    ∀ (d i m0 : Nat) (h : St) (v : Value) (ws : List Value) (E : Nat → Prop), i + d = M.length → d < m0 → Chg h0 h [] → a < h.next → r < h.next → h.objs a = some (.cells [.int .i64 x, vN, vS, v] true) → h.objs r = some (.cells [.int .i64 0, .slice none 0 0, .slice none 0 0, .slice none 0 0] true) →
      ws.length = i → (∀ q, E q → q < h.next) → OwnS (fun j => h0.next ≤ j ∧ j ≠ a ∧ j ≠ r ∧ ¬ E j) h v 1 (vs ++ ws) (vs.length + i) → (∀ (j : Nat) (l : List Nat), j < i → M[j]? = some l → SliceAt (fun q => E q ∧ h0.next ≤ q ∧ q ≠ a ∧ q ≠ r) h (ws[j]?.getD undef) l.length 1 (rowU l)) →
      verb_Msg_And_l0 (tabC [(38, cloneLS), (39, cloneUS)]) idG nn m0 (ptr a) (ptr r) w (.int .i64 M.length) (.int .i64 i) h K := by
  intro d
  induction d with
  | zero =>
    intro i m0 h v ws E hi hm c la lr oa or hw hE o si'
    obtain ⟨m0, rfl⟩ : ∃ m, m0 = m + 1 := ⟨m0 - 1, by omega⟩
    rw [verb_Msg_And_l0_eq]
    have e : i = M.length := by omega
    subst e
    have sv : SliceAt (h0.next ≤ ·) h v (vs ++ ws).length 1 (rowV (vs ++ ws)) := by
      have o' : OwnS (h0.next ≤ ·) h v 1 ((vs ++ ws).flatMap fun n => [n]) (vs ++ ws).length := by
        rw [List.length_append, hw]
        have : (vs ++ ws).flatMap (fun n => [n]) = vs ++ ws := by simp
        rw [this]
        exact o.imp fun i _ hh => hh.1
      exact o'.slice (fun _ _ => rfl) (rowV_at _)
    simp only [bindV_some, binV_lss, Int.lt_irrefl, decide_false, condK_bool, Bool.false_eq_true, if_false, idG_eq]
    rw [verb_Msg_And_j1_eq]
    simp [ptr, oa, or, sN.1, sS.1, sv.one]
    have cs : Chg h (h.set r (.cells [.int .i64 x, vN, vS, v] true)) [r] := Chg.set _ (by simp)
    have o' := sv
    refine H _ v ws (c.of_chg cs (by intro i hi; right; simp at hi; omega)) hw ?_ ?_
    · have o2 : OwnS (fun j => h0.next ≤ j ∧ j ≠ r) h v 1 ((vs ++ ws).flatMap fun n => [n]) (vs ++ ws).length := by
        rw [List.length_append, hw]
        have : (vs ++ ws).flatMap (fun n => [n]) = vs ++ ws := by simp
        rw [this]
        exact o.imp fun i _ hh => ⟨hh.1, hh.2.2.1⟩
      have s2 : SliceAt (fun j => h0.next ≤ j ∧ j ≠ r) h v (vs ++ ws).length 1 (rowV (vs ++ ws)) := o2.slice (fun _ _ => rfl) (rowV_at _)
      exact (s2.chg cs (by intro i hi hh; simp at hi; omega)).imp fun i _ hh => hh.1
    · intro j l hl
      have hj : j < M.length := (List.getElem?_eq_some_iff.1 hl).1
      exact ((si' j l hj hl).chg cs (by intro i hi hh; simp at hi; omega)).imp fun i _ hh => hh.2.1
  | succ d ih =>
    intro i m0 h v ws E hi hm c la lr oa or hw hE o si'
    obtain ⟨m0, rfl⟩ : ∃ m, m0 = m + 1 := ⟨m0 - 1, by omega⟩
    rw [verb_Msg_And_l0_eq]
    have n0 := c.1
    have hlt : (i : Int) < M.length := by omega
    have hi' : i < M.length := by omega
    have inc : IntKind.i64.wrap ((i : Int) + 1) = ((i + 1 : Nat) : Int) := by rw [i64_in _ (by omega)]; omega
    have sh := sw.chg c (by simp)
    obtain ⟨b, oo, g1, g2, g3, cs, own, g4, g5⟩ := sh.idx (Int.natCast_nonneg i) hlt .i64
    have g6 := takeN_get g5 (j := 0) (by omega)
    simp only [Nat.add_zero, List.getElem?_cons_zero, Int.toNat_natCast] at g6
    have sl := (si i M[i] (List.getElem?_eq_getElem hi')).chg c (by simp)
    have so := o.one
    simp only [ptr, bindV_some, binV_lss, hlt, decide_true, condK_bool, if_true, idG_eq, g1, loadV_ptr, g4, loadM_cells, partV_one, g6, offV_ptr, oa, Nat.zero_add, List.getElem?_cons_succ, List.getElem?_cons_zero, true_and]
    refine .inr (.inl ⟨rfl, B, wv i, M[i], rfl, hM _ (List.getElem_mem hi'), sl, fun h6 v6 c6 s6 => ?_⟩)
    have n6 := c6.1
    have a6 := c6.at la (by simp) oa
    have r6 := c6.at lr (by simp) or
    simp only [loadV_ptr, a6, loadM_cells, partV_one, Nat.zero_add, List.getElem?_cons_succ, List.getElem?_cons_zero, true_and, and_true, build_one (sl1_of s6)]
    obtain ⟨h7, hh7⟩ : ∃ z, z = h6.push (.cells [v6] true) := ⟨_, rfl⟩
    rw [← hh7]
    have c7 : Chg h6 h7 [] := by rw [hh7]; exact Chg.push _ _
    have n7 : h7.next = h6.next + 1 := by rw [hh7]; rfl
    have q7 : h7.objs h6.next = some (.cells [v6] true) := by rw [hh7]; exact push_at _ _
    have a7 := c7.at (by omega) (by simp) a6
    have r7 := c7.at (by omega) (by simp) r6
    simp only [loadV_ptr, a7, loadM_cells, partV_one, Nat.zero_add, List.getElem?_cons_succ, List.getElem?_cons_zero, true_and, and_true]
    have hlv : (vs ++ ws).length = vs.length + i := by rw [List.length_append, hw]
    have o7 : OwnS (fun j => h0.next ≤ j ∧ j ≠ a ∧ j ≠ r ∧ ¬ (E j ∨ (h.next ≤ j ∧ j < h6.next))) h7 v 1 (vs ++ ws) (vs.length + i) :=
      ((o.imp (B' := fun j => h0.next ≤ j ∧ j ≠ a ∧ j ≠ r ∧ ¬ (E j ∨ (h.next ≤ j ∧ j < h6.next))) fun j hj hh => ⟨hh.1, hh.2.1, hh.2.2.1, fun q => q.elim hh.2.2.2 fun q => by omega⟩).chg c6 (by simp)).chg c7 (by simp)
    refine append_own' (B := fun j => h0.next ≤ j ∧ j ≠ a ∧ j ≠ r ∧ ¬ (E j ∨ (h.next ≤ j ∧ j < h6.next))) ⟨by omega, by omega, by omega, fun q => q.elim (fun q => by have := hE _ q; omega) fun q => by omega⟩ o7 (one_cells q7) rfl (by simp [s6.one]) (by omega) (by omega) fun h8 v8 c8 o8 => ?_
    have n8 := c8.1
    have a8 := c8.at (by omega) (by simp) a7
    have r8 := c8.at (by omega) (by simp) r7
    simp only [ptr, bindV_some, offV_ptr, storeE_ptr, a8, storeM_cells, Nat.zero_add, true_and]
    refine ⟨by simp [sN.1, sS.1, o8.one, o8.cells1], ?_⟩
    obtain ⟨h9, hh9⟩ : ∃ z, z = h8.set a (.cells [.int .i64 x, vN, vS, v8] true) := ⟨_, rfl⟩
    have e9 : h8.set a (.cells (List.take (1 + 2) [.int .i64 x, vN, vS, v] ++ v8.cells.toList ++ List.drop (1 + 2 + 1) [.int .i64 x, vN, vS, v]) true) = h9 := by rw [hh9, o8.cells1]; rfl
    rw [e9]
    have c9 : Chg h8 h9 [a] := by rw [hh9]; exact Chg.set _ (by simp)
    have n9 : h9.next = h8.next := by rw [hh9]; rfl
    have a9 : h9.objs a = some (.cells [.int .i64 x, vN, vS, v8] true) := by rw [hh9]; exact set_at _ _ _
    have r9 := c9.at (by omega) (by simp; omega) r8
    simp only [binNil_int, binV_add, bindV_some, inc, idG_eq, true_and]
    have cc : Chg h0 h9 [] := ((((c.of_chg c6 (by simp)).of_chg c7 (by simp)).toP (D := (h0.next ≤ ·)) (by simp)).step ((c8.mono fun i _ hh => hh.1).step ((c9.toP (D := (h0.next ≤ ·)) (by intro i hi; simp at hi; omega))))).list (by intro i hi hh; omega)
    refine ih (i + 1) m0 h9 v8 (ws ++ [v6]) (fun j => E j ∨ (h.next ≤ j ∧ j < h6.next)) (by omega) (by omega) cc (by omega) (by omega) a9 r9 (by simp [hw]) ?_ ?_ ?_
    · intro q hq
      rcases hq with hq | hq
      · have := hE _ hq; omega
      · omega
    · have := o8.chg c9 (by intro i hi hh; simp at hi; omega)
      rw [← List.append_assoc]
      exact this
    · intro j l hj hl
      by_cases hji : j < i
      · have e : (ws ++ [v6])[j]?.getD undef = ws[j]?.getD undef := by rw [List.getElem?_append_left (by omega)]
        rw [e]
        have s1 := (((si' j l hji hl).chg c6 (by simp)).chg c7 (by simp)).chgP c8 (by intro q hq hh; exact hq.2.2.2 (.inl hh.1))
        exact (s1.chg c9 (by intro q hq hh; simp at hq; omega)).imp fun q _ hh => ⟨.inl hh.1, hh.2⟩
      · have : j = i := by omega
        subst this
        have e : (ws ++ [v6])[j]?.getD undef = v6 := by rw [List.getElem?_append_right (by omega)]; simp [hw]
        rw [e]
        have hl' : l = M[j] := by rw [List.getElem?_eq_getElem hi'] at hl; exact (Option.some.inj hl).symm
        rw [hl']
        have s0 := s6.imp (B' := fun q => h.next ≤ q ∧ q < h6.next) fun q a b => ⟨b, a⟩
        have s1 := (s0.chg c7 (by simp)).chgP c8 (by intro q hq hh; exact hq.2.2.2 (.inr hh))
        exact (s1.chg c9 (by intro q hq hh; simp at hq; omega)).imp fun q _ hh => ⟨.inr hh, by omega, by omega, by omega⟩
theorem andS_good : SpecGood Tryd.prog (21, andS) := by
  refine spec_good mixed Tryd.func21 (by kernel_rfl) (by kernel_rfl) (tab := [(38, cloneLS), (39, cloneUS)]) (by simp [cloneLS_good, cloneUS_good]) (keep := verb_Msg_And_keep) ?_
  rintro args h k ⟨B, x, vN, vS, vL, w, vs, wv, M, rfl, sN, sS, hz, hM, s, hv, sw, si, H⟩
  refine ⟨1001, ?_⟩
  show verb_Msg_And (tabC [(38, cloneLS), (39, cloneUS)]) idG 1001 (.agg #[.int .i64 x, vN, vS, vL]) w h _
  generalize hK : (fun v h1 => ∃ h2, St.le h2 h1 ∧ k v h2 : Cont) = K
  have H : ∀ h' vL' (ws : List Value), Chg h h' [] → ws.length = M.length → SliceAt (h.next ≤ ·) h' vL' (vs ++ ws).length 1 (rowV (vs ++ ws)) → (∀ (i : Nat) (l : List Nat), M[i]? = some l → SliceAt (h.next ≤ ·) h' (ws[i]?.getD undef) l.length 1 (rowU l)) → K (.agg #[.int .i64 x, vN, vS, vL']) h' := by subst hK; exact fun h' v' ws c e s t => ⟨_, St.le.refl _, H h' v' ws c e s t⟩
  clear hK
  rw [verb_Msg_And_eq, boxE_eq]
  refine ⟨by simp [sN.1, s.one, sS.1], ?_⟩
  obtain ⟨h1, hh1⟩ : ∃ z, z = h.push (.cells [.int .i64 x, vN, vS, vL] true) := ⟨_, rfl⟩
  have e1 : h.push (.cells (Value.agg #[.int .i64 x, vN, vS, vL]).cells.toList true) = h1 := by rw [hh1]; rfl
  rw [e1]
  have c1 : Chg h h1 [] := by rw [hh1]; exact Chg.push _ _
  have n1 : h1.next = h.next + 1 := by rw [hh1]; rfl
  have o1 : h1.objs h.next = some (.cells [.int .i64 x, vN, vS, vL] true) := by rw [hh1]; exact push_at _ _
  simp only [allocE_some]
  obtain ⟨h2, hh2⟩ : ∃ z, z = h1.push (.cells [.int .i64 0, .slice none 0 0, .slice none 0 0, .slice none 0 0] true) := ⟨_, rfl⟩
  rw [← hh2]
  have c2 : Chg h1 h2 [] := by rw [hh2]; exact Chg.push _ _
  have n2 : h2.next = h1.next + 1 := by rw [hh2]; rfl
  have r2 : h2.objs h1.next = some (.cells [.int .i64 0, .slice none 0 0, .slice none 0 0, .slice none 0 0] true) := by rw [hh2]; exact push_at _ _
  have o2 := c2.at (by omega) (by simp) o1
  have cc2 : Chg h h2 [] := c1.of_chg c2 (by simp)
  have s2 := s.chg cc2 (by simp)
  simp only [ptr, offV_ptr, bindV_some, loadV_ptr, o2, loadM_cells, partV_one, Nat.zero_add, List.getElem?_cons_succ, List.getElem?_cons_zero]
  refine .inl ⟨rfl, B, vL, vs, rfl, by omega, s2, hv, fun h4 v4 c4 o4 => ?_⟩
  have n4 := c4.1
  have a4 := c4.at (by omega) (by simp) o2
  have r4 := c4.at (by omega) (by simp) r2
  simp only [bindV_some, offV_ptr, storeE_ptr, a4, storeM_cells, Nat.zero_add]
  refine ⟨by simp [sN.1, sS.1, o4.one, o4.cells1], ?_⟩
  obtain ⟨h5, hh5⟩ : ∃ z, z = h4.set h.next (.cells [.int .i64 x, vN, vS, v4] true) := ⟨_, rfl⟩
  have e5 : h4.set h.next (.cells (List.take (1 + 2) [.int .i64 x, vN, vS, vL] ++ v4.cells.toList ++ List.drop (1 + 2 + 1) [.int .i64 x, vN, vS, vL]) true) = h5 := by rw [hh5, o4.cells1]; rfl
  rw [e5]
  have c5 : Chg h4 h5 [h.next] := by rw [hh5]; exact Chg.set _ (by simp)
  have n5 : h5.next = h4.next := by rw [hh5]; rfl
  have a5 : h5.objs h.next = some (.cells [.int .i64 x, vN, vS, v4] true) := by rw [hh5]; exact set_at _ _ _
  have r5 := c5.at (by omega) (by simp; omega) r4
  simp only [sw.len, bindV_some, idG_eq]
  refine and_l0 (B := fun i => B i ∧ i < h.next) (h0 := h) sN sS hz hM (fun i hi => hi.2) (sw.imp fun i a b => ⟨b, a⟩) (fun i l hl => (si i l hl).imp fun i a b => ⟨b, a⟩) (Nat.le_refl _) (by omega) (by omega) H M.length 0 1001 h5 v4 [] (fun _ => False) (by omega) (by omega) ((cc2.of_chg c4 (by simp)).of_chg c5 (by simp)) (by omega) (by omega) a5 r5 rfl (by simp) ?_ (by intro j l hj; omega)
  rw [List.append_nil]
  exact (o4.chg c5 (by intro i hi hh; simp at hi; omega)).imp fun i _ hh => ⟨by omega, by omega, by omega, fun q => q⟩
end Go.Proofs.YtdmcmebfclikgaaDoor
