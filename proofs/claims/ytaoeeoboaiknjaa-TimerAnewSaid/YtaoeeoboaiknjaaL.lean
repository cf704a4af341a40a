/- Timers in their order, plainly; timers set one behind the other. -/
import Derived.Test.YtaoeeoboaiknjaaK
set_option linter.unusedSimpArgs false
set_option linter.unusedVariables false
set_option maxHeartbeats 4000000
namespace Go.Proofs.Ytaoeeoboaiknjaa
open Go.Abs Go.IntWalk
attribute [local congr] bindV_weak condK_weak guardK_weak groupK_weak allocE_weak boxE_weak storeE_weak storeM_weak tabC_weak ite_weak idG_weak appendE_weak buildSliceE_weak invokeE_weak mapUpdateE_weak deleteE_weak makeMapE_weak

def PwT (L : List It) : Prop := L.Pairwise (fun x y => x.seq < y.seq ∧ isT x.kind x.id y = false)
theorem QS.pw {D : Nat → Prop} {h : St} {Q : Nat} {L : List It} {s : Int} (q : QS D h Q L s) : PwT L := by
  obtain ⟨sv, m, f, a1, a2, a3, a4, a5, a6⟩ := q
  exact a5
theorem PwT.seq {L : List It} (p : PwT L) : L.Pairwise (fun x y : It => x.seq < y.seq) := p.imp fun h => h.1
theorem firstI_le {L : List It} {x : It} (p : PwT L) (h : firstI L = some x) : x ∈ L ∧ ∀ y ∈ L, leT x y := by
  cases L with
  | nil => cases h
  | cons b l =>
    cases h
    exact bestI_le l b p.seq
/-- The first one, and what is left: it is less than all of that. -/
theorem due_split {L : List It} {x : It} {now : Int} (p : PwT L) (h : dueI L now = some x) : ∃ A C, L = A ++ x :: C ∧ outT L x.kind x.id = A ++ C ∧ x.at_ ≤ now ∧ (∀ y ∈ A ++ C, ltT x y) ∧ PwT (A ++ C) := by
  have hf : firstI L = some x ∧ x.at_ ≤ now := by
    unfold dueI at h
    cases e : firstI L with
    | none => rw [e] at h; cases h
    | some y =>
      rw [e] at h
      simp only [Option.filter] at h
      split at h
      · rename_i g; cases h; exact ⟨rfl, by simpa using g⟩
      · cases h
  obtain ⟨m1, m2⟩ := firstI_le p hf.1
  obtain ⟨A, C, rfl⟩ := List.append_of_mem m1
  have p0 := p
  have hA : ∀ y ∈ A, isT x.kind x.id y = false ∧ y.seq < x.seq := by
    intro y hy
    have := (List.pairwise_append.1 p0).2.2 y hy x (by simp)
    refine ⟨?_, this.1⟩
    cases e : isT x.kind x.id y with
    | false => rfl
    | true =>
      obtain ⟨e1, e2⟩ := isT_iff.1 e
      have := this.2
      simp [isT, e1, e2] at this
  have hC : ∀ y ∈ C, x.seq < y.seq := by
    intro y hy
    have := (List.pairwise_append.1 p0).2.1
    exact ((List.pairwise_cons.1 this).1 y hy).1
  have sx : isT x.kind x.id x = true := by simp [isT]
  have out := outT_split sx (fun y hy => (hA y hy).1) p
  refine ⟨A, C, rfl, out, hf.2, fun y hy => ?_, by rw [← out]; exact pw_out p⟩
  have le := m2 y (by
    rcases List.mem_append.1 hy with h | h
    · simp [h]
    · simp [h])
  have ne : x.seq ≠ y.seq := by
    rcases List.mem_append.1 hy with h | h
    · have := (hA y h).2; omega
    · have := hC y h; omega
  unfold leT at le
  unfold ltT
  omega
theorem due_none {L : List It} {now : Int} (p : PwT L) (h : dueI L now = none) : ∀ y ∈ L, now < y.at_ := by
  intro y hy
  unfold dueI at h
  cases e : firstI L with
  | none =>
    cases L with
    | nil => simp at hy
    | cons b l => cases e
  | some x =>
    rw [e] at h
    have le := (firstI_le p e).2 y hy
    simp only [Option.filter] at h
    split at h
    · cases h
    · rename_i g
      have g : ¬ x.at_ ≤ now := by simpa using g
      unfold leT at le
      omega
theorem rem_nat {s : Shp} {a b : Nat} (hb : b ≠ 0) : binV .rem s (.int .i64 a) (.int .i64 b) = some (.int .i64 ((a % b : Nat) : Int)) := by
  have : ¬ (b : Int) = 0 := by omega
  simp only [binV, isShift, intV, if_true, this, if_false]
  rw [Int.tmod_eq_emod_of_nonneg (by omega)]
  rfl
theorem u32_in (n : Nat) (h : n < 4294967296) : IntKind.u32.wrap (n : Int) = n := by
  simp [IntKind.wrap, IntKind.signed, IntKind.bits]
  omega
def rowN (T : List Int) (i : Nat) : List Value := [.int .i64 (T[i]?.getD 0)]
theorem rowN_at {T : List Int} {i : Nat} {B : Nat → Prop} {h : St} {v : Value} (s : SliceAt B h v T.length 1 (rowN T)) (hi : i < T.length) (k : IntKind) :
    ∃ b o, idxS 1 v (.int k (i : Int)) = some (.pointer (some ⟨b, o, none⟩)) ∧ loadV false 1 (.pointer (some ⟨b, o, none⟩)) h = some (.int .i64 (T[i]?.getD 0)) := by
  obtain ⟨b, o, g1, g2, g3, cs, own, g4, g5⟩ := s.idx (i := (i : Int)) (by omega) (by omega) k
  refine ⟨b, o, g1, ?_⟩
  have := row_cell g5 0 (by omega)
  simp only [Nat.add_zero] at this
  simp only [loadV_ptr, g4, loadM_cells, partV_one, this]
  rfl
end Go.Proofs.Ytaoeeoboaiknjaa
