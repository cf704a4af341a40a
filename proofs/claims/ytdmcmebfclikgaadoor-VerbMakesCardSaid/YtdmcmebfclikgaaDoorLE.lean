/- The place of a byte in a text: the library's own. -/
import Derived.Test.YtdmcmebfclikgaaDoorLD
import Derived.WalkKit
import Derived.Shelf.Strings.Search1
import Derived.Test.YtdmcmebfclikgaaDoorGenB
import Derived.Lib.IndexLaws
set_option linter.unusedSimpArgs false
set_option linter.unusedVariables false
set_option maxHeartbeats 4000000
namespace Go.Proofs.YtdmcmebfclikgaaDoor
open Go.Abs Go.IntWalk

set_option maxRecDepth 100000 in
theorem calls_indexByte (s : ByteArray) (c : Int) (w : World) :
    Calls Tryd.prog 60 #[.string s, .int .u8 c] w fun e w' => e = .returned (.int .i64 (Lib.indexByte s.data.toList c.toNat.toUInt8)) ∧ w' = w := by
  go_enter Tryd.func60, Tryd.ntmps60
  go_wp2
  rw [run_callFunc_extern Tryd.func64 (by kernel_rfl) (by kernel_rfl) (by kernel_rfl) (e := Extern.BytealgIndexByte.indexByte) (by kernel_rfl), Lib.run_indexByteString]
  simp only [Result.andThen]
  rw [Oper.upon_value]
  go_wp2
  go_ret
  exact ⟨rfl, rfl⟩
end Go.Proofs.YtdmcmebfclikgaaDoor

/- The table of kinds. -/
set_option linter.unusedSimpArgs false
set_option linter.unusedVariables false
set_option maxHeartbeats 4000000
set_option maxRecDepth 100000
namespace Go.Proofs.YtdmcmebfclikgaaDoor
open Go.Abs Go.IntWalk
attribute [local congr] bindV_weak condK_weak guardK_weak groupK_weak allocE_weak boxE_weak storeE_weak storeM_weak tabC_weak ite_weak idG_weak

theorem guardK_undef (w : Bool) (y n : Prop) : guardK undef w y n = n := propext Iff.rfl
theorem getU (i : Nat) (l : List Value) (h : ∀ v ∈ l, v = undef) : getT l i = undef := by
  induction l generalizing i with
  | nil => cases i <;> rfl
  | cons v l ih =>
    cases i with
    | zero => exact h v (by simp)
    | succ i => exact ih i fun v hv => h v (by simp [hv])
def requestsT : List ByteArray := [⟨#[108, 111, 103, 105, 110, 32, 115]⟩, ⟨#[112, 105, 110, 103, 32, 100]⟩, ⟨#[102, 114, 105, 101, 110, 100, 45, 97, 115, 107, 32, 100]⟩, ⟨#[102, 114, 105, 101, 110, 100, 45, 97, 99, 99, 101, 112, 116, 32, 100]⟩, ⟨#[102, 114, 105, 101, 110, 100, 45, 114, 101, 102, 117, 115, 101, 32, 100]⟩, ⟨#[102, 114, 105, 101, 110, 100, 45, 114, 101, 109, 111, 118, 101, 32, 100]⟩, ⟨#[98, 108, 111, 99, 107, 32, 100]⟩, ⟨#[117, 110, 98, 108, 111, 99, 107, 32, 100]⟩, ⟨#[102, 114, 105, 101, 110, 100, 115, 32]⟩, ⟨#[105, 110, 118, 105, 116, 101, 32, 100]⟩, ⟨#[106, 111, 105, 110, 32, 100]⟩, ⟨#[114, 101, 102, 117, 115, 101, 32, 100]⟩, ⟨#[108, 101, 97, 118, 101, 32]⟩, ⟨#[107, 105, 99, 107, 32, 100]⟩, ⟨#[108, 101, 97, 100, 32, 100]⟩, ⟨#[112, 97, 114, 116, 121, 32]⟩, ⟨#[113, 117, 101, 117, 101, 32, 98]⟩, ⟨#[99, 97, 110, 99, 101, 108, 32]⟩, ⟨#[97, 99, 99, 101, 112, 116, 32]⟩, ⟨#[100, 101, 99, 108, 105, 110, 101, 32]⟩, ⟨#[116, 111, 107, 101, 110, 32]⟩, ⟨#[114, 97, 116, 105, 110, 103, 32, 100]⟩, ⟨#[112, 101, 110, 97, 108, 116, 121, 32]⟩, ⟨#[115, 116, 97, 116, 117, 115, 32, 100]⟩, ⟨#[108, 111, 103, 111, 117, 116, 32]⟩, ⟨#[116, 105, 109, 101, 32]⟩, ⟨#[109, 97, 116, 99, 104, 32]⟩]
def repliesT : List ByteArray := [⟨#[111, 107, 32, 98]⟩, ⟨#[101, 114, 114, 111, 114, 32, 98, 98]⟩, ⟨#[119, 101, 108, 99, 111, 109, 101, 32, 100, 100, 98]⟩, ⟨#[112, 111, 110, 103, 32, 100]⟩, ⟨#[102, 114, 105, 101, 110, 100, 45, 108, 105, 115, 116, 32, 108, 108, 108]⟩, ⟨#[112, 97, 114, 116, 121, 45, 105, 115, 32, 100, 100, 108]⟩, ⟨#[114, 97, 116, 105, 110, 103, 45, 105, 115, 32, 100, 100]⟩, ⟨#[112, 101, 110, 97, 108, 116, 121, 45, 105, 115, 32, 98, 113]⟩, ⟨#[115, 116, 97, 116, 117, 115, 45, 105, 115, 32, 100, 98]⟩, ⟨#[116, 105, 109, 101, 45, 105, 115, 32, 113]⟩, ⟨#[109, 97, 116, 99, 104, 45, 105, 115, 32, 100, 119, 98, 98]⟩]
def eventsT : List ByteArray := [⟨#[102, 114, 105, 101, 110, 100, 45, 97, 115, 107, 101, 100, 32, 100]⟩, ⟨#[102, 114, 105, 101, 110, 100, 45, 110, 111, 119, 32, 100, 98]⟩, ⟨#[102, 114, 105, 101, 110, 100, 45, 103, 111, 110, 101, 32, 100]⟩, ⟨#[112, 114, 101, 115, 101, 110, 99, 101, 32, 100, 98]⟩, ⟨#[105, 110, 118, 105, 116, 101, 100, 32, 100, 100]⟩, ⟨#[112, 97, 114, 116, 121, 45, 110, 111, 119, 32, 100, 100, 108]⟩, ⟨#[112, 97, 114, 116, 121, 45, 111, 118, 101, 114, 32, 100]⟩, ⟨#[113, 117, 101, 117, 101, 100, 32, 98]⟩, ⟨#[117, 110, 113, 117, 101, 117, 101, 100, 32, 98]⟩, ⟨#[99, 104, 101, 99, 107, 32, 100, 113]⟩, ⟨#[99, 104, 101, 99, 107, 45, 111, 118, 101, 114, 32, 100, 98]⟩, ⟨#[115, 101, 97, 116, 32, 100, 119, 98, 98, 113, 115]⟩, ⟨#[108, 105, 118, 101, 32, 100]⟩, ⟨#[111, 118, 101, 114, 32, 100, 98, 100]⟩, ⟨#[112, 101, 110, 97, 108, 105, 115, 101, 100, 32, 98, 98, 113]⟩, ⟨#[98, 121, 101, 32, 98]⟩]
def ordersT : List ByteArray := [⟨#[115, 116, 97, 114, 116, 32, 100, 98, 108, 108]⟩, ⟨#[102, 105, 108, 108, 101, 100, 32, 100, 98, 108]⟩, ⟨#[108, 111, 115, 116, 32, 100, 100]⟩, ⟨#[100, 114, 97, 105, 110, 32, 100]⟩, ⟨#[106, 111, 105, 110, 101, 100, 32, 100, 100]⟩, ⟨#[114, 101, 102, 117, 115, 101, 100, 32, 98, 98]⟩]
def reportsT : List ByteArray := [⟨#[104, 101, 108, 108, 111, 32]⟩, ⟨#[98, 101, 97, 116, 32]⟩, ⟨#[117, 112, 32]⟩, ⟨#[99, 111, 109, 101, 32, 115]⟩, ⟨#[108, 101, 102, 116, 32, 100]⟩, ⟨#[114, 101, 115, 117, 108, 116, 32, 100, 98]⟩, ⟨#[102, 114, 101, 101, 100, 32]⟩]
structure KRow where
  kind : Int
  name : ByteArray
  shape : ByteArray
def rowsT : List KRow := [⟨1, ⟨#[108, 111, 103, 105, 110]⟩, ⟨#[115]⟩⟩, ⟨2, ⟨#[112, 105, 110, 103]⟩, ⟨#[100]⟩⟩, ⟨3, ⟨#[102, 114, 105, 101, 110, 100, 45, 97, 115, 107]⟩, ⟨#[100]⟩⟩, ⟨4, ⟨#[102, 114, 105, 101, 110, 100, 45, 97, 99, 99, 101, 112, 116]⟩, ⟨#[100]⟩⟩, ⟨5, ⟨#[102, 114, 105, 101, 110, 100, 45, 114, 101, 102, 117, 115, 101]⟩, ⟨#[100]⟩⟩, ⟨6, ⟨#[102, 114, 105, 101, 110, 100, 45, 114, 101, 109, 111, 118, 101]⟩, ⟨#[100]⟩⟩, ⟨7, ⟨#[98, 108, 111, 99, 107]⟩, ⟨#[100]⟩⟩, ⟨8, ⟨#[117, 110, 98, 108, 111, 99, 107]⟩, ⟨#[100]⟩⟩, ⟨9, ⟨#[102, 114, 105, 101, 110, 100, 115]⟩, ⟨#[]⟩⟩, ⟨10, ⟨#[105, 110, 118, 105, 116, 101]⟩, ⟨#[100]⟩⟩, ⟨11, ⟨#[106, 111, 105, 110]⟩, ⟨#[100]⟩⟩, ⟨12, ⟨#[114, 101, 102, 117, 115, 101]⟩, ⟨#[100]⟩⟩, ⟨13, ⟨#[108, 101, 97, 118, 101]⟩, ⟨#[]⟩⟩, ⟨14, ⟨#[107, 105, 99, 107]⟩, ⟨#[100]⟩⟩, ⟨15, ⟨#[108, 101, 97, 100]⟩, ⟨#[100]⟩⟩, ⟨16, ⟨#[112, 97, 114, 116, 121]⟩, ⟨#[]⟩⟩, ⟨17, ⟨#[113, 117, 101, 117, 101]⟩, ⟨#[98]⟩⟩, ⟨18, ⟨#[99, 97, 110, 99, 101, 108]⟩, ⟨#[]⟩⟩, ⟨19, ⟨#[97, 99, 99, 101, 112, 116]⟩, ⟨#[]⟩⟩, ⟨20, ⟨#[100, 101, 99, 108, 105, 110, 101]⟩, ⟨#[]⟩⟩, ⟨21, ⟨#[116, 111, 107, 101, 110]⟩, ⟨#[]⟩⟩, ⟨22, ⟨#[114, 97, 116, 105, 110, 103]⟩, ⟨#[100]⟩⟩, ⟨23, ⟨#[112, 101, 110, 97, 108, 116, 121]⟩, ⟨#[]⟩⟩, ⟨24, ⟨#[115, 116, 97, 116, 117, 115]⟩, ⟨#[100]⟩⟩, ⟨25, ⟨#[108, 111, 103, 111, 117, 116]⟩, ⟨#[]⟩⟩, ⟨26, ⟨#[116, 105, 109, 101]⟩, ⟨#[]⟩⟩, ⟨27, ⟨#[109, 97, 116, 99, 104]⟩, ⟨#[]⟩⟩, ⟨64, ⟨#[111, 107]⟩, ⟨#[98]⟩⟩, ⟨65, ⟨#[101, 114, 114, 111, 114]⟩, ⟨#[98, 98]⟩⟩, ⟨66, ⟨#[119, 101, 108, 99, 111, 109, 101]⟩, ⟨#[100, 100, 98]⟩⟩, ⟨67, ⟨#[112, 111, 110, 103]⟩, ⟨#[100]⟩⟩, ⟨68, ⟨#[102, 114, 105, 101, 110, 100, 45, 108, 105, 115, 116]⟩, ⟨#[108, 108, 108]⟩⟩, ⟨69, ⟨#[112, 97, 114, 116, 121, 45, 105, 115]⟩, ⟨#[100, 100, 108]⟩⟩, ⟨70, ⟨#[114, 97, 116, 105, 110, 103, 45, 105, 115]⟩, ⟨#[100, 100]⟩⟩, ⟨71, ⟨#[112, 101, 110, 97, 108, 116, 121, 45, 105, 115]⟩, ⟨#[98, 113]⟩⟩, ⟨72, ⟨#[115, 116, 97, 116, 117, 115, 45, 105, 115]⟩, ⟨#[100, 98]⟩⟩, ⟨73, ⟨#[116, 105, 109, 101, 45, 105, 115]⟩, ⟨#[113]⟩⟩, ⟨74, ⟨#[109, 97, 116, 99, 104, 45, 105, 115]⟩, ⟨#[100, 119, 98, 98]⟩⟩, ⟨96, ⟨#[102, 114, 105, 101, 110, 100, 45, 97, 115, 107, 101, 100]⟩, ⟨#[100]⟩⟩, ⟨97, ⟨#[102, 114, 105, 101, 110, 100, 45, 110, 111, 119]⟩, ⟨#[100, 98]⟩⟩, ⟨98, ⟨#[102, 114, 105, 101, 110, 100, 45, 103, 111, 110, 101]⟩, ⟨#[100]⟩⟩, ⟨99, ⟨#[112, 114, 101, 115, 101, 110, 99, 101]⟩, ⟨#[100, 98]⟩⟩, ⟨100, ⟨#[105, 110, 118, 105, 116, 101, 100]⟩, ⟨#[100, 100]⟩⟩, ⟨101, ⟨#[112, 97, 114, 116, 121, 45, 110, 111, 119]⟩, ⟨#[100, 100, 108]⟩⟩, ⟨102, ⟨#[112, 97, 114, 116, 121, 45, 111, 118, 101, 114]⟩, ⟨#[100]⟩⟩, ⟨103, ⟨#[113, 117, 101, 117, 101, 100]⟩, ⟨#[98]⟩⟩, ⟨104, ⟨#[117, 110, 113, 117, 101, 117, 101, 100]⟩, ⟨#[98]⟩⟩, ⟨105, ⟨#[99, 104, 101, 99, 107]⟩, ⟨#[100, 113]⟩⟩, ⟨106, ⟨#[99, 104, 101, 99, 107, 45, 111, 118, 101, 114]⟩, ⟨#[100, 98]⟩⟩, ⟨107, ⟨#[115, 101, 97, 116]⟩, ⟨#[100, 119, 98, 98, 113, 115]⟩⟩, ⟨108, ⟨#[108, 105, 118, 101]⟩, ⟨#[100]⟩⟩, ⟨109, ⟨#[111, 118, 101, 114]⟩, ⟨#[100, 98, 100]⟩⟩, ⟨110, ⟨#[112, 101, 110, 97, 108, 105, 115, 101, 100]⟩, ⟨#[98, 98, 113]⟩⟩, ⟨111, ⟨#[98, 121, 101]⟩, ⟨#[98]⟩⟩, ⟨160, ⟨#[115, 116, 97, 114, 116]⟩, ⟨#[100, 98, 108, 108]⟩⟩, ⟨161, ⟨#[102, 105, 108, 108, 101, 100]⟩, ⟨#[100, 98, 108]⟩⟩, ⟨162, ⟨#[108, 111, 115, 116]⟩, ⟨#[100, 100]⟩⟩, ⟨163, ⟨#[100, 114, 97, 105, 110]⟩, ⟨#[100]⟩⟩, ⟨164, ⟨#[106, 111, 105, 110, 101, 100]⟩, ⟨#[100, 100]⟩⟩, ⟨165, ⟨#[114, 101, 102, 117, 115, 101, 100]⟩, ⟨#[98, 98]⟩⟩, ⟨192, ⟨#[104, 101, 108, 108, 111]⟩, ⟨#[]⟩⟩, ⟨193, ⟨#[98, 101, 97, 116]⟩, ⟨#[]⟩⟩, ⟨194, ⟨#[117, 112]⟩, ⟨#[]⟩⟩, ⟨195, ⟨#[99, 111, 109, 101]⟩, ⟨#[115]⟩⟩, ⟨196, ⟨#[108, 101, 102, 116]⟩, ⟨#[100]⟩⟩, ⟨197, ⟨#[114, 101, 115, 117, 108, 116]⟩, ⟨#[100, 98]⟩⟩, ⟨198, ⟨#[102, 114, 101, 101, 100]⟩, ⟨#[]⟩⟩]

def strs (l : List ByteArray) : List Value := l.map .string
/-- The tables of names and shapes stand where they were laid. -/
def Glob (h : St) : Prop := 5 ≤ h.next ∧ (∃ o, h.objs 0 = some (.cells (strs requestsT) o)) ∧ (∃ o, h.objs 1 = some (.cells (strs repliesT) o)) ∧ (∃ o, h.objs 2 = some (.cells (strs eventsT) o)) ∧ (∃ o, h.objs 3 = some (.cells (strs ordersT) o)) ∧ (∃ o, h.objs 4 = some (.cells (strs reportsT) o))
theorem Glob.chg {h h' : St} {S : List Nat} (g : Glob h) (c : Chg h h' S) (hS : ∀ i ∈ S, 5 ≤ i) : Glob h' := by
  obtain ⟨g0, ⟨o0, g1⟩, ⟨o1, g2⟩, ⟨o2, g3⟩, ⟨o3, g4⟩, ⟨o4, g5⟩⟩ := g
  have n : ∀ i, i < 5 → i ∉ S := fun i hi hm => by have := hS i hm; omega
  exact ⟨Nat.le_trans g0 c.1, ⟨o0, c.at (by omega) (n 0 (by omega)) g1⟩, ⟨o1, c.at (by omega) (n 1 (by omega)) g2⟩, ⟨o2, c.at (by omega) (n 2 (by omega)) g3⟩, ⟨o3, c.at (by omega) (n 3 (by omega)) g4⟩, ⟨o4, c.at (by omega) (n 4 (by omega)) g5⟩⟩
def none0 : ByteArray := ⟨#[]⟩
/-- What a kind is known as. -/
def knownZ (k : Int) : ByteArray :=
  if 1 ≤ k ∧ k < 28 then requestsT[(k - 1).toNat]?.getD none0
  else if 64 ≤ k ∧ k < 75 then repliesT[(k - 64).toNat]?.getD none0
  else if 96 ≤ k ∧ k < 112 then eventsT[(k - 96).toNat]?.getD none0
  else if 160 ≤ k ∧ k < 166 then ordersT[(k - 160).toNat]?.getD none0
  else if 192 ≤ k ∧ k < 199 then reportsT[(k - 192).toNat]?.getD none0
  else none0
def knownS : Abs.Spec := fun args h k => ∃ x : Int, args = [.int .i64 x] ∧ Glob h ∧ k (.string (knownZ x)) h
theorem glob_at {l : List ByteArray} {h : St} {g : Nat} {x b n : Int} {o : Bool} (hn : (l.length : Int) = n) (ho : h.objs g = some (.cells (strs l) o)) (h1 : b ≤ x) (h2 : x < b + n) (hb : 0 ≤ b) (hx : x < 1000) :
    ∃ i : Nat, IntKind.i64.wrap (x - b) = i ∧ (i : Int) < n ∧ i = (x - b).toNat ∧ loadV false 1 (.pointer (some ⟨g, i, none⟩)) h = some (.string (l[(x - b).toNat]?.getD none0)) := by
  refine ⟨(x - b).toNat, by rw [i64_in _ (by omega)]; omega, by omega, rfl, ?_⟩
  have hlt : (x - b).toNat < l.length := by omega
  rw [loadV_ptr, ho, loadM_cells, partV_one]
  simp [strs, hlt]
theorem knownS_good : SpecGood Tryd.prog (41, knownS) := by
  refine spec_good mixed Tryd.func41 (by kernel_rfl) (by kernel_rfl) (tab := []) (by simp) (keep := verb_known_keep) ?_
  rintro args h k ⟨x, rfl, g, H⟩
  refine ⟨0, ?_⟩
  show verb_known (tabC []) idG 0 (.int .i64 x) h _
  generalize hK : (fun v h1 => ∃ h2, St.le h2 h1 ∧ k v h2 : Cont) = K
  have H : K (.string (knownZ x)) h := by subst hK; exact ⟨_, St.le.refl _, H⟩
  clear hK
  rw [verb_known_eq]
  obtain ⟨g0, ⟨o0, g1⟩, ⟨o1, g2⟩, ⟨o2, g3⟩, ⟨o3, g4⟩, ⟨o4, g5⟩⟩ := g
  unfold knownZ at H
  by_cases a1 : 1 ≤ x ∧ x < 28
  · rw [if_pos a1] at H
    obtain ⟨i, e1, e2, e3, e4⟩ := glob_at (b := 1) (n := 27) (x := x) rfl g1 a1.1 (by omega) (by omega) (by omega)
    simp [a1.1, a1.2, groupK_eq, getT, idxA, e1, e2, e4, -loadV_ptr, -Int.pred_toNat]
    simpa using H
  rw [if_neg a1] at H
  by_cases a2 : 64 ≤ x ∧ x < 75
  · rw [if_pos a2] at H
    obtain ⟨i, e1, e2, e3, e4⟩ := glob_at (b := 64) (n := 11) (x := x) rfl g2 a2.1 (by omega) (by omega) (by omega)
    have b1 : 1 ≤ x := by omega
    have b2 : ¬ x < 28 := by omega
    simp [b1, b2, a2.1, a2.2, groupK_eq, getT, idxA, e1, e2, e4, -loadV_ptr]
    exact H
  rw [if_neg a2] at H
  by_cases a3 : 96 ≤ x ∧ x < 112
  · rw [if_pos a3] at H
    obtain ⟨i, e1, e2, e3, e4⟩ := glob_at (b := 96) (n := 16) (x := x) rfl g3 a3.1 (by omega) (by omega) (by omega)
    have b1 : 1 ≤ x := by omega
    have b2 : ¬ x < 28 := by omega
    have b3 : 64 ≤ x := by omega
    have b4 : ¬ x < 75 := by omega
    simp [b1, b2, b3, b4, a3.1, a3.2, groupK_eq, getT, idxA, e1, e2, e4, -loadV_ptr]
    exact H
  rw [if_neg a3] at H
  by_cases a4 : 160 ≤ x ∧ x < 166
  · rw [if_pos a4] at H
    obtain ⟨i, e1, e2, e3, e4⟩ := glob_at (b := 160) (n := 6) (x := x) rfl g4 a4.1 (by omega) (by omega) (by omega)
    have b1 : 1 ≤ x := by omega
    have b2 : ¬ x < 28 := by omega
    have b3 : 64 ≤ x := by omega
    have b4 : ¬ x < 75 := by omega
    have b5 : 96 ≤ x := by omega
    have b6 : ¬ x < 112 := by omega
    simp [b1, b2, b3, b4, b5, b6, a4.1, a4.2, groupK_eq, getT, idxA, e1, e2, e4, -loadV_ptr]
    exact H
  rw [if_neg a4] at H
  by_cases a5 : 192 ≤ x ∧ x < 199
  · rw [if_pos a5] at H
    obtain ⟨i, e1, e2, e3, e4⟩ := glob_at (b := 192) (n := 7) (x := x) rfl g5 a5.1 (by omega) (by omega) (by omega)
    have b1 : 1 ≤ x := by omega
    have b2 : ¬ x < 28 := by omega
    have b3 : 64 ≤ x := by omega
    have b4 : ¬ x < 75 := by omega
    have b5 : 96 ≤ x := by omega
    have b6 : ¬ x < 112 := by omega
    have b7 : 160 ≤ x := by omega
    have b8 : ¬ x < 166 := by omega
    simp [b1, b2, b3, b4, b5, b6, b7, b8, a5.1, a5.2, groupK_eq, getT, idxA, e1, e2, e4, -loadV_ptr]
    exact H
  rw [if_neg a5] at H
  have any : ∀ (a b : Int), ¬ (a ≤ x ∧ x < b) → a ≤ x → ¬ x < b := fun a b h h1 h2 => h ⟨h1, h2⟩
  by_cases b1 : 1 ≤ x <;> by_cases b3 : 64 ≤ x <;> by_cases b5 : 96 ≤ x <;> by_cases b7 : 160 ≤ x <;> by_cases b9 : 192 ≤ x <;> (try omega)
  all_goals
    (first
      | (have c1 : ¬ x < 28 := by omega)
      | skip)
    (first
      | (have c2 : ¬ x < 75 := by omega)
      | skip)
    (first
      | (have c3 : ¬ x < 112 := by omega)
      | skip)
    (first
      | (have c4 : ¬ x < 166 := by omega)
      | skip)
    (first
      | (have c5 : ¬ x < 199 := by omega)
      | skip)
    simp [groupK_eq, getT, *]
    exact H
end Go.Proofs.YtdmcmebfclikgaaDoor

/- A kind's name, its shape, the kind of a name. -/
set_option linter.unusedSimpArgs false
set_option linter.unusedVariables false
set_option maxHeartbeats 4000000
set_option maxRecDepth 100000
namespace Go.Proofs.YtdmcmebfclikgaaDoor
open Go.Abs Go.IntWalk
attribute [local congr] bindV_weak condK_weak guardK_weak groupK_weak allocE_weak boxE_weak storeE_weak storeM_weak tabC_weak ite_weak idG_weak

def idxSp (s : ByteArray) : Int := Lib.indexByte s.data.toList 32
def sp : ByteArray := ⟨#[32]⟩
theorem idxSp_lt {s : ByteArray} (h : 0 ≤ idxSp s) : (idxSp s).toNat < s.size := by
  have := (Lib.indexByte_some (l := s.data.toList) (c := 32) (o := (idxSp s).toNat) (by unfold idxSp at h ⊢; omega)).1
  have := (List.getElem?_eq_some_iff.1 this).1
  simpa using this
def indexByteS : Abs.Spec := fun args h k => ∃ s : ByteArray, args = [.string s, .int .u8 32] ∧ k (.int .i64 (idxSp s)) h
theorem indexByteS_good : SpecGood Tryd.prog (60, indexByteS) := by
  refine ⟨fun args h k hS => ?_, fun args h k hS => ?_⟩
  · obtain ⟨s, rfl, H⟩ := hS
    refine ⟨⟨_, Tryd.func60, by decide, fun hb => by
      have e : Tryd.f60.body.isSome = true := by kernel_rfl
      rw [hb] at e; cases e⟩, fun B w0 w ρ args' HR HL => ?_⟩
    obtain ⟨l⟩ := args'
    have e : l = [.string s, .int .u8 32] := by
      have HL : LRel ρ [.string s, .int .u8 32] l := HL
      cases HL with | cons h1 t => cases t with | cons h2 t => cases t; rw [h1.string_inv, h2.int_inv]
    subst e
    refine Calls.mono (calls_indexByte s 32 w) ?_
    rintro e w' ⟨rfl, rfl⟩
    exact ⟨_, _, h, ρ, rfl, H, Rho.le.refl ρ, HR, .lit _ rfl⟩
  · obtain ⟨s, rfl, H⟩ := hS
    exact ⟨_, _, H⟩
theorem text_eql (sh : Shp) (a b : ByteArray) : binV .eql sh (.string a) (.string b) = some (.bool (decide (a = b))) := by
  rw [binV_text, ByteArray.toList_eq, ByteArray.toList_eq]
  congr 2
  by_cases h : a = b
  · subst h; simp
  · have : a.data.toList ≠ b.data.toList := fun e => h (by cases a; cases b; congr; exact Array.toList_inj.1 e)
    rw [decide_eq_false h]
    simpa using this
theorem text_eql_self (sh : Shp) (a : ByteArray) : binV .eql sh (.string a) (.string a) = some (.bool true) := by rw [text_eql]; simp
theorem text_eql_ne (sh : Shp) {a b : ByteArray} (h : a ≠ b) : binV .eql sh (.string a) (.string b) = some (.bool false) := by rw [text_eql]; simp [h]
def indexTS : Abs.Spec := fun args h k => ∃ s : ByteArray, args = [.string s, .string sp] ∧ k (.int .i64 (idxSp s)) h
theorem indexTS_good : SpecGood Tryd.prog (59, indexTS) := by
  refine spec_good mixed Tryd.func59 (by kernel_rfl) (by kernel_rfl) (tab := [(60, indexByteS)]) (by simpa using indexByteS_good) (keep := stringslite_Index_keep) ?_
  rintro args h k ⟨s, rfl, H⟩
  refine ⟨0, ?_⟩
  show stringslite_Index (tabC [(60, indexByteS)]) idG 0 (.string s) (.string sp) h _
  generalize hK : (fun v h1 => ∃ h2, St.le h2 h1 ∧ k v h2 : Cont) = K
  have H : K (.int .i64 (idxSp s)) h := by subst hK; exact ⟨_, St.le.refl _, H⟩
  clear hK
  rw [stringslite_Index_eq]
  have e1 : sp.size = 1 := rfl
  have e2 : idxT (.string sp) (.int .i64 0) = some (.int .u8 32) := by kernel_rfl
  by_cases hs : s = sp
  · subst hs
    have e3 : idxSp sp = 0 := by kernel_rfl
    rw [e3] at H
    have e4 : binV .eql .other (.string sp) (.string sp) = some (.bool true) := text_eql_self _ _
    simp [groupK_eq, getT, e1, e4, -binV_text]
    exact H
  · have e4 : binV .eql .other (.string sp) (.string s) = some (.bool false) := text_eql_ne _ (Ne.symm hs)
    simp [groupK_eq, getT, e1, e2, e4, -binV_text]
    exact .inl ⟨rfl, s, rfl, H⟩
def nameOf (s : ByteArray) : ByteArray := if 0 ≤ idxSp s then s.extract 0 (idxSp s).toNat else s
def shapeOf (s : ByteArray) : ByteArray := if 0 ≤ idxSp s then s.extract ((idxSp s).toNat + 1) s.size else none0
def isKind (s : ByteArray) : Bool := decide (0 ≤ idxSp s)
def cutTS : Abs.Spec := fun args h k => ∃ s : ByteArray, args = [.string s, .string sp] ∧ s.size ≤ 1000 ∧ k (.tuple #[.string (nameOf s), .string (shapeOf s), .bool (isKind s)]) h
theorem liteCutS_good : SpecGood Tryd.prog (56, cutTS) := by
  refine spec_good mixed Tryd.func56 (by kernel_rfl) (by kernel_rfl) (tab := [(59, indexTS)]) (by simpa using indexTS_good) (keep := stringslite_Cut_keep) ?_
  rintro args h k ⟨s, rfl, hs, H⟩
  refine ⟨0, ?_⟩
  show stringslite_Cut (tabC [(59, indexTS)]) idG 0 (.string s) (.string sp) h _
  generalize hK : (fun v h1 => ∃ h2, St.le h2 h1 ∧ k v h2 : Cont) = K
  have H : K (.tuple #[.string (nameOf s), .string (shapeOf s), .bool (isKind s)]) h := by subst hK; exact ⟨_, St.le.refl _, H⟩
  clear hK
  rw [stringslite_Cut_eq]
  refine .inl ⟨rfl, s, rfl, ?_⟩
  have e1 : sp.size = 1 := rfl
  unfold nameOf shapeOf isKind at H
  by_cases c : 0 ≤ idxSp s
  · have hlt := idxSp_lt c
    obtain ⟨i, hi⟩ : ∃ i : Nat, idxSp s = i := ⟨(idxSp s).toNat, by omega⟩
    rw [hi] at hlt H c
    rw [hi]
    simp only [c, if_true, decide_true, Int.toNat_natCast] at H
    rw [Int.toNat_natCast] at hlt
    have w : IntKind.i64.wrap ((i : Int) + 1) = ((i + 1 : Nat) : Int) := by rw [i64_in _ (by omega)]; omega
    have c1 : cutT (.string s) none (some (.int .i64 (i : Int))) = some (.string (s.extract 0 i)) := by
      simp only [cutT, loHi_hi (n := s.size) (e := i) (by omega), Option.map_some]
    have c2 : cutT (.string s) (some (.int .i64 ((i + 1 : Nat) : Int))) none = some (.string (s.extract (i + 1) s.size)) := by
      simp only [cutT, loHi_lo (n := s.size) (l := i + 1) (by omega), Option.map_some]
    simp only [binNil_int, binV_geq, bindV_some, ge_iff_le, c, decide_true, condK_bool, if_true, c1, lenT_string, e1, binV_add]
    rw [show (((1 : Nat) : Int)) = 1 from rfl, w, c2]
    exact H
  · simp only [c, if_false, decide_false] at H
    simp only [binNil_int, binV_geq, bindV_some, ge_iff_le, c, decide_false, condK_bool, Bool.false_eq_true, if_false, idG_eq]
    exact H
theorem cutTS_good : SpecGood Tryd.prog (40, cutTS) := by
  refine spec_good mixed Tryd.func40 (by kernel_rfl) (by kernel_rfl) (tab := [(56, cutTS)]) (by simpa using liteCutS_good) (keep := strings_Cut_keep) ?_
  rintro args h k ⟨s, rfl, hs, H⟩
  refine ⟨0, ?_⟩
  show strings_Cut (tabC [(56, cutTS)]) idG 0 (.string s) (.string sp) h _
  rw [strings_Cut_eq]
  refine .inl ⟨rfl, s, rfl, hs, ?_⟩
  simp only [extV_three0, extV_three1, extV_three2, bindV_some]
  exact ⟨_, St.le.refl _, H⟩
theorem known_size (x : Int) : (knownZ x).size ≤ 1000 := by
  have all : ∀ l : List ByteArray, (l.all fun s => Nat.ble s.size 1000) = true → ∀ i : Nat, (l[i]?.getD none0).size ≤ 1000 := by
    intro l hl i
    cases hi : l[i]? with
    | none => decide
    | some s => exact Nat.le_of_ble_eq_true (List.all_eq_true.1 hl s (List.mem_of_getElem? hi))
  unfold knownZ
  repeat' split
  · exact all _ (by kernel_rfl) _
  · exact all _ (by kernel_rfl) _
  · exact all _ (by kernel_rfl) _
  · exact all _ (by kernel_rfl) _
  · exact all _ (by kernel_rfl) _
  · decide
def tabN : List (FuncId × Abs.Spec) := [(41, knownS), (40, cutTS)]
theorem tabN_good : ∀ p ∈ tabN, SpecGood Tryd.prog p := by simp [tabN, knownS_good, cutTS_good]
def nameS : Abs.Spec := fun args h k => ∃ x : Int, args = [.int .i64 x] ∧ Glob h ∧ k (.string (nameOf (knownZ x))) h
theorem nameS_good : SpecGood Tryd.prog (22, nameS) := by
  refine spec_good mixed Tryd.func22 (by kernel_rfl) (by kernel_rfl) tabN_good (keep := verb_Name_keep) ?_
  rintro args h k ⟨x, rfl, g, H⟩
  refine ⟨0, ?_⟩
  show verb_Name (tabC tabN) idG 0 (.int .i64 x) h _
  rw [verb_Name_eq]
  refine .inl ⟨rfl, x, rfl, g, ?_⟩
  refine .inr (.inl ⟨rfl, _, rfl, known_size x, ?_⟩)
  simp only [extV_three0, extV_three1, extV_three2, bindV_some]
  exact ⟨_, St.le.refl _, H⟩
def shapeS : Abs.Spec := fun args h k => ∃ x : Int, args = [.int .i64 x] ∧ Glob h ∧ k (.tuple #[.string (shapeOf (knownZ x)), .bool (isKind (knownZ x))]) h
theorem shapeS_good : SpecGood Tryd.prog (24, shapeS) := by
  refine spec_good mixed Tryd.func24 (by kernel_rfl) (by kernel_rfl) tabN_good (keep := verb_Shape_keep) ?_
  rintro args h k ⟨x, rfl, g, H⟩
  refine ⟨0, ?_⟩
  show verb_Shape (tabC tabN) idG 0 (.int .i64 x) h _
  rw [verb_Shape_eq]
  refine .inl ⟨rfl, x, rfl, g, ?_⟩
  refine .inr (.inl ⟨rfl, _, rfl, known_size x, ?_⟩)
  simp only [extV_three0, extV_three1, extV_three2, bindV_some]
  exact ⟨_, St.le.refl _, H⟩
end Go.Proofs.YtdmcmebfclikgaaDoor

/- The kind of a name, the side of a kind; the document's table. -/
set_option linter.unusedSimpArgs false
set_option linter.unusedVariables false
set_option maxHeartbeats 4000000
set_option maxRecDepth 100000
namespace Go.Proofs.YtdmcmebfclikgaaDoor
open Go.Abs Go.IntWalk
attribute [local congr] bindV_weak condK_weak guardK_weak groupK_weak allocE_weak boxE_weak storeE_weak storeM_weak tabC_weak ite_weak idG_weak

theorem text_neq (sh : Shp) (a b : ByteArray) : binV .neq sh (.string a) (.string b) = some (.bool (!decide (a = b))) := by
  have h := text_eql sh a b
  simp only [binV, isShift, textV] at h ⊢
  simp at h ⊢
  exact h
def kindL (name : ByteArray) : Nat → Nat → Int × Bool
  | 0, _ => (0, false)
  | d + 1, i => if name ≠ none0 ∧ nameOf (knownZ i) = name then ((i : Int), true) else kindL name d (i + 1)
def kindS : Abs.Spec := fun args h k => ∃ name : ByteArray, args = [.string name] ∧ Glob h ∧ k (.tuple #[.int .i64 (kindL name 256 0).1, .bool (kindL name 256 0).2]) h
theorem kind_l0 {name : ByteArray} {x2 x3 : Value} {nn : Nat} {h : St} {K : Cont} (g : Glob h) :
    ∀ (d i m0 : Nat), i + d = 256 → d < m0 → K (.tuple #[.int .i64 (kindL name d i).1, .bool (kindL name d i).2]) h → verb_Kind_l0 (tabC [(22, nameS)]) idG nn m0 (.string name) x2 x3 (.int .i64 i) h K := by
  intro d
  induction d with
  | zero =>
    intro i m0 hi hm H
    obtain ⟨m0, rfl⟩ : ∃ m, m0 = m + 1 := ⟨m0 - 1, by omega⟩
    rw [verb_Kind_l0_eq]
    have c : ¬ (i : Int) < 256 := by omega
    simp [c]
    rw [verb_Kind_j1_eq]
    exact H
  | succ d ih =>
    intro i m0 hi hm H
    obtain ⟨m0, rfl⟩ : ∃ m, m0 = m + 1 := ⟨m0 - 1, by omega⟩
    rw [verb_Kind_l0_eq]
    have c : (i : Int) < 256 := by omega
    have inc : IntKind.i64.wrap ((i : Int) + 1) = ((i + 1 : Nat) : Int) := by rw [i64_in _ (by omega)]; omega
    have nx := ih (i + 1) m0 (by omega) (by omega)
    simp only [kindL] at H
    have e0 : (⟨#[]⟩ : ByteArray) = none0 := rfl
    simp only [binNil_int, binV_lss, bindV_some, c, decide_true, condK_bool, if_true, idG_eq, binNil_string, text_neq, e0, groupK_eq]
    by_cases c1 : name = none0
    · rw [if_neg (by simp [c1])] at H
      simp only [c1, decide_true, Bool.not_true, guardK_bool, Bool.false_eq_true, if_false, getT, pickV_bool, bindV_some, condK_bool, idG_eq, binNil_int, binV_add, inc]
      rw [c1] at nx H
      exact nx H
    · simp only [c1, decide_false, Bool.not_false, guardK_bool, if_true]
      refine .inl ⟨rfl, i, rfl, g, ?_⟩
      simp only [text_eql]
      by_cases c2 : nameOf (knownZ i) = name
      · rw [if_pos ⟨c1, c2⟩] at H
        simp only [c2, decide_true, bindV_some, getT, pickV_bool, if_true, condK_bool]
        exact H
      · rw [if_neg (by simp [c2])] at H
        simp only [c2, decide_false, bindV_some, getT, pickV_bool, if_true, condK_bool, Bool.false_eq_true, if_false, idG_eq, binNil_int, binV_add, inc]
        exact nx H
theorem kindS_good : SpecGood Tryd.prog (23, kindS) := by
  refine spec_good mixed Tryd.func23 (by kernel_rfl) (by kernel_rfl) (tab := [(22, nameS)]) (by simpa using nameS_good) (keep := verb_Kind_keep) ?_
  rintro args h k ⟨name, rfl, g, H⟩
  refine ⟨257, ?_⟩
  show verb_Kind (tabC [(22, nameS)]) idG 257 (.string name) h _
  rw [verb_Kind_eq]
  exact kind_l0 g 256 0 257 (by omega) (by omega) ⟨_, St.le.refl _, H⟩
def sideZ (x : Int) : Int := if knownZ x = none0 then 0 else if x < 64 then 1 else if x < 160 then 2 else if x < 192 then 3 else 4
def sideS : Abs.Spec := fun args h k => ∃ x : Int, args = [.int .i64 x] ∧ Glob h ∧ k (.int .i64 (sideZ x)) h
theorem sideS_good : SpecGood Tryd.prog (28, sideS) := by
  refine spec_good mixed Tryd.func28 (by kernel_rfl) (by kernel_rfl) (tab := [(41, knownS)]) (by simpa using knownS_good) (keep := verb_Side_keep) ?_
  rintro args h k ⟨x, rfl, g, H⟩
  refine ⟨0, ?_⟩
  show verb_Side (tabC [(41, knownS)]) idG 0 (.int .i64 x) h _
  generalize hK : (fun v h1 => ∃ h2, St.le h2 h1 ∧ k v h2 : Cont) = K
  have H : K (.int .i64 (sideZ x)) h := by subst hK; exact ⟨_, St.le.refl _, H⟩
  clear hK
  rw [verb_Side_eq]
  refine .inl ⟨rfl, x, rfl, g, ?_⟩
  have e0 : (⟨#[]⟩ : ByteArray) = none0 := rfl
  unfold sideZ at H
  simp only [binNil_string, e0, text_eql]
  by_cases c0 : knownZ x = none0
  · rw [if_pos c0] at H
    simp [c0]
    exact H
  rw [if_neg c0] at H
  by_cases c1 : x < 64
  · rw [if_pos c1] at H; simp [c0, c1]; exact H
  rw [if_neg c1] at H
  by_cases c2 : x < 160
  · rw [if_pos c2] at H; simp [c0, c1, c2]; exact H
  rw [if_neg c2] at H
  by_cases c3 : x < 192
  · rw [if_pos c3] at H; simp [c0, c1, c2, c3]; exact H
  rw [if_neg c3] at H
  simp [c0, c1, c2, c3]; exact H

/-! ### what the table says -/
def findZ (x : Int) : Option KRow := rowsT.find? fun r => r.kind == x
def findName (n : ByteArray) : Option KRow := rowsT.find? fun r => decide (r.name = n)
def rowIs (x : Int) (s : ByteArray) : Bool :=
  match findZ x with
  | some r => nameOf s == r.name && shapeOf s == r.shape && isKind s && (s != none0)
  | none => s == none0 && nameOf s == none0 && shapeOf s == none0 && !isKind s
theorem rows_ok : ((List.range 200).all fun i => rowIs i (knownZ i)) = true := by kernel_rfl
end Go.Proofs.YtdmcmebfclikgaaDoor
