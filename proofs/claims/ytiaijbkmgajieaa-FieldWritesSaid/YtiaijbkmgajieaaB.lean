/- The writer: numbers in bytes. -/
import Derived.Test.YtiaijbkmgajieaaA
set_option linter.unusedSimpArgs false
set_option linter.unusedVariables false
set_option maxHeartbeats 4000000
namespace Go.Proofs.Ytiaijbkmgajieaa
open Go.Abs Go.IntWalk

def bc (b : Nat) : Value := .int .u8 b
def ptr (p : Nat) : Value := .pointer (some ⟨p, 0, none⟩)
theorem one_bc : ∀ l : List Nat, allOne (l.map bc) = true
  | [] => rfl
  | b :: l => by simp [bc, one_bc l]
theorem u8_wrap (x : Nat) : IntKind.u8.wrap (x : Int) = ((x % 256 : Nat) : Int) := by rw [IntKind.wrap_u8]; omega
theorem shr_nat (s : Shp) (n k : Nat) (h : k ≤ 8) : binV .shr s (.int .u64 n) (.int .i64 ((8 * k : Nat) : Int)) = some (.int .u64 ((n / 256 ^ k : Nat) : Int)) := by
  have h1 : ¬ (((8 * k : Nat) : Int) < 0) := by omega
  have h2 : min (8 * k) 64 = 8 * k := by omega
  have h3 : (2 : Int) ^ (8 * k) = ((256 ^ k : Nat) : Int) := by
    rw [Int.pow_mul]; norm_cast
  simp only [binV, isShift, shiftV, h1, if_false, Int.toNat_natCast, IntKind.bits, h2, h3]
  congr 2
  rw [Int.fdiv_eq_ediv_of_nonneg _ (Int.natCast_nonneg _)]
  norm_cast
/-- A number's bytes, the highest first. -/
def putB (n : Nat) : Nat → List Nat
  | 0 => []
  | w + 1 => (n / 256 ^ w % 256) :: putB n w
theorem putB_length (n : Nat) : ∀ w, (putB n w).length = w
  | 0 => rfl
  | w + 1 => by simp [putB, putB_length n w]
def errN (e n w : Nat) : Nat := if w < 8 ∧ n / 256 ^ w ≠ 0 ∧ e = 0 then 2 else e
def WAt (B : Nat → Prop) (h : St) (q : Nat) (out : List Nat) (e : Nat) : Prop :=
  q < h.next ∧ ¬ B q ∧ ∃ v, h.objs q = some (.cells [v, .int .i64 e] true) ∧ one v = true ∧ OwnS B h v 1 (out.map bc) out.length
theorem WAt.live {B : Nat → Prop} {h : St} {q : Nat} {out : List Nat} {e : Nat} (w : WAt B h q out e) (hB : ∀ i, h.next ≤ i → B i) (out' : List Nat) (e' : Nat) : ∃ h', ChgP (fun i => i = q ∨ B i) h h' ∧ WAt B h' q out' e' := by
  obtain ⟨w1, w2, v, w3, w4, w5⟩ := w
  refine ⟨(h.push (.cells (out'.map bc) true)).set q (.cells [.slice (some ⟨h.next, 0, some 1⟩) out'.length 0, .int .i64 e'] true), (ChgP.refl _ _).of_push.of_set (.inl (.inl rfl)), ?_, w2, _, set_at _ _ _, rfl, .inr ⟨h.next, rfl, hB _ (Nat.le_refl _), ?_, ?_, by simp⟩⟩
  · simp; omega
  · simp
  · rw [set_ne (by omega)]; exact push_at _ _
theorem WAt.chgP {B D : Nat → Prop} {h h' : St} {q : Nat} {out : List Nat} {e : Nat} (w : WAt B h q out e) (c : ChgP D h h') (hq : ¬ D q) (hD : ∀ i, D i → ¬ B i) : WAt B h' q out e := by
  obtain ⟨w1, w2, v, w3, w4, w5⟩ := w
  exact ⟨Nat.lt_of_lt_of_le w1 c.1, w2, v, c.at w1 hq w3, w4, w5.chgP c hD⟩

def numberS : Abs.Spec := fun args h k => ∃ (B : Nat → Prop) (q : Nat) (out : List Nat) (e n w : Nat), args = [ptr q, .int .u64 n, .int .i64 w] ∧ w ≤ 8 ∧ n < 18446744073709551616 ∧ out.length ≤ 1000000000 ∧ (∀ i, h.next ≤ i → B i) ∧ WAt B h q out e ∧
  ∀ h', ChgP (fun i => i = q ∨ B i) h h' → WAt B h' q (out ++ putB n w) (errN e n w) → k (.tuple #[]) h'
theorem numberS_live : SpecLive numberS := by
  rintro args h k ⟨B, q, out, e, n, w, rfl, _, _, _, hB, hw, H⟩
  obtain ⟨h', c, l⟩ := hw.live hB (out ++ putB n w) (errN e n w)
  exact ⟨_, _, H h' c l⟩
theorem number_l1 {B : Nat → Prop} {q n nn e : Nat} {x2 : Value} {h0 : St} {K : Cont} (hn : n < 18446744073709551616) :
    ∀ (w m0 : Nat) (h : St) (out : List Nat), w ≤ 8 → w < m0 → out.length + w ≤ 1000000008 → (∀ i, h.next ≤ i → B i) → ChgP (fun i => i = q ∨ B i) h0 h → WAt B h q out e →
      (∀ h', ChgP (fun i => i = q ∨ B i) h0 h' → WAt B h' q (out ++ putB n w) e → K (.tuple #[]) h') →
      field_writer_number_l1 (tabC []) idG nn m0 (ptr q) (.int .u64 n) x2 (.int .i64 ((w : Int) - 1)) h K := by
  intro w
  induction w with
  | zero =>
    intro m0 h out hw hm ho hB c W H
    obtain ⟨m0, rfl⟩ : ∃ m, m0 = m + 1 := ⟨m0 - 1, by omega⟩
    rw [field_writer_number_l1_eq]
    simp
    exact H h c (by simpa [putB] using W)
  | succ w ih =>
    intro m0 h out hw hm ho hB c W H
    obtain ⟨m0, rfl⟩ : ∃ m, m0 = m + 1 := ⟨m0 - 1, by omega⟩
    rw [field_writer_number_l1_eq]
    have e0 : (((w + 1 : Nat) : Int) - 1) = (w : Int) := by omega
    have e1 : 8 * (w : Int) = ((8 * w : Nat) : Int) := by omega
    have e2 : (w : Int) - 1 = (w : Int) - 1 := rfl
    rw [e0]
    obtain ⟨w1, w2, v, w3, w4, w5⟩ := W
    have hne : q ≠ h.next := by omega
    have hge : (0 : Int) ≤ w := Int.natCast_nonneg w
    simp (disch := omega) only [binNil_int, binV_geq, bindV_some, condK_bool, idG_eq, ge_iff_le, hge, decide_true, if_true, ptr, nilV_ptr, offV_ptr, loadV_ptr, Nat.add_zero, w3, loadM_cells, partV_one, List.getElem?_cons_zero, true_and, binV_mul, i64_in]
    rw [e1, shr_nat _ _ _ (by omega)]
    simp only [bindV_some, wrapV_int, u8_wrap]
    simp (disch := (try simp only [push_next, set_next, kill_next]); omega) [buildSliceE, fillL, repL, allOne_eq, push_ne, w3]
    have s5 : OwnS B (h.push (.cells [.int .u8 ((n / 256 ^ w % 256 : Nat) : Int)] true)) v 1 (out.map bc) out.length := w5.chgP ((ChgP.refl (fun _ => False) _).of_push) (fun _ h => h.elim)
    refine append_own' (cs := out.map bc) (new := [.int .u8 ((n / 256 ^ w % 256 : Nat) : Int)]) (m := 1) (hB _ (by simp)) s5 (by simp [newCells, takeN]) rfl rfl (by omega) (by omega) fun h7 v7 c7 o7 => ?_
    have a7 : h7.objs q = some (.cells [v, .int .i64 e] true) := c7.at (by simp; omega) w2 ((push_ne w1).trans w3)
    have q7 : q < h7.next := Nat.lt_of_lt_of_le (by simp; omega) c7.1
    have e3 : IntKind.i64.wrap ((w : Int) - 1) = (w : Int) - 1 := i64_in _ (by omega)
    simp [a7, o7.one, o7.cells1, e3]
    have c8 : ChgP (fun i => i = q ∨ B i) h0 (h7.set q (.cells [v7, .int .i64 e] true)) :=
      (c.trans (((ChgP.refl B h).of_push).step c7) (fun _ _ h => h) (fun _ _ h => .inr h)).of_set (.inl (.inl rfl))
    refine ih m0 _ (out ++ [n / 256 ^ w % 256]) (by omega) (by omega) (by simp; omega) (fun i hi => hB i ?_) c8 ⟨q7, w2, v7, set_at _ _ _, o7.one, ?_⟩ fun h' c' W' => H h' c' ?_
    · have := c7.1; simp at this hi; omega
    · have := o7.chgP ((ChgP.refl (fun i => i = q) h7).of_set (o := .cells [v7, .int .i64 e] true) (.inl rfl)) (fun i hi hb => w2 (hi ▸ hb))
      simpa [bc] using this
    · rw [List.append_assoc] at W'
      exact W'
theorem numberS_ok : SpecOk Try.prog 27 numberS := by
  refine specOk_wf mixed Try.func27 (by kernel_rfl) (by kernel_rfl) (tab := []) (by simp) (by simp) (keep := field_writer_number_keep) ?_
  rintro args h k wf ⟨B, q, out, e, n, w, rfl, hw, hn, ho, hB, W, H⟩
  refine ⟨9, ?_⟩
  show field_writer_number (tabC []) idG 9 (ptr q) (.int .u64 n) (.int .i64 w) h _
  rw [field_writer_number_eq]
  have hmul : 8 * (w : Int) = ((8 * w : Nat) : Int) := by omega
  have fin : ∀ (h1 : St) (e1 : Nat), ChgP (fun i => i = q ∨ B i) h h1 → (∀ i, h1.next ≤ i → B i) → WAt B h1 q out e1 → e1 = errN e n w → field_writer_number_j0 (tabC []) idG 9 (ptr q) (.int .u64 n) (.int .i64 w) undef h1 (fun v h1 => ∃ h2, St.le h2 h1 ∧ k v h2) := by
    intro h1 e1 c1 hB1 W1 he
    rw [field_writer_number_j0_eq]
    have e3 : IntKind.i64.wrap ((w : Int) - 1) = (w : Int) - 1 := i64_in _ (by omega)
    simp only [binNil_int, binV_sub, bindV_some, idG_eq, e3]
    exact number_l1 hn w 9 h1 out hw (by omega) (by omega) hB1 c1 W1 fun h' c' W' => ⟨_, St.le.refl _, H h' c' (he ▸ W')⟩
  by_cases h8 : w < 8
  · have h8' : (w : Int) < 8 := by omega
    have e4 : IntKind.i64.wrap (8 * (w : Int)) = ((8 * w : Nat) : Int) := by rw [hmul]; exact i64_in _ (by omega)
    by_cases hb : n / 256 ^ w = 0
    · have he : errN e n w = e := by simp [errN, hb]
      simp only [binNil_int, binV_lss, h8', bindV_some, decide_true, groupK_eq, guardK_bool, if_true, binV_mul, e4, shr_nat _ _ _ hw, hb, binV_neq, idG_eq, pickV_bool, getT, Int.natCast_zero]
      simp
      exact fin h e (ChgP.refl _ _) hB W he.symm
    · have hb' : ((n / 256 ^ w : Nat) : Int) ≠ 0 := by omega
      obtain ⟨w1, w2, v, w3, w4, w5⟩ := id W
      simp only [binNil_int, binV_lss, h8', bindV_some, decide_true, groupK_eq, guardK_bool, if_true, binV_mul, e4, shr_nat _ _ _ hw, binV_neq, idG_eq, pickV_bool, getT, hb', ne_eq, not_false_eq_true]
      by_cases h0 : e = 0
      · have he : errN e n w = 2 := by simp [errN, h8, hb, h0]
        subst h0
        simp [ptr, w3]
        refine fin _ 2 ((ChgP.refl _ _).of_set (.inl (.inl rfl))) (fun i hi => hB i (by simpa using hi)) ⟨w1, w2, v, set_at _ _ _, w4, ?_⟩ he.symm
        exact w5.chgP ((ChgP.refl (fun i => i = q) h).of_set (.inl rfl)) (fun i hi hb => w2 (hi ▸ hb))
      · have he : errN e n w = e := by simp [errN, h0]
        have h0' : (e : Int) ≠ 0 := by omega
        simp [ptr, w3, h0', h0]
        exact fin h e (ChgP.refl _ _) hB W he.symm
  · have h8' : ¬ (w : Int) < 8 := by omega
    have he : errN e n w = e := by simp [errN, h8]
    simp [groupK_eq, h8', getT]
    exact fin h e (ChgP.refl _ _) hB W he.symm
end Go.Proofs.Ytiaijbkmgajieaa
