/- The tag of the ticket, by a run that leans on the four steps. | The place of a byte in a text: the library's own function without a body, as a run meets it. | PROVED HERE, turned from the kit's worked text on slices.Collect (maps.Keys, slices.AppendSeq, at keys that are whole numbers): the keys of a map come, each once; slices.AppendSeq collects whatever comes. | slices.AppendSeq over a map's keys, as a run meets it. | slices.AppendSeq over the keys of a map of one key at most, as an extern of a run. | What the hall's pieces lean on: the tag, the place of a byte, a map's keys. -/
import Derived.Test.YtfghmaheokgceaaGreatDoorMS0
import Derived.Test.YtfghmaheokgceaaGreatDoorMS1
import Derived.Test.YtfghmaheokgceaaGreatDoorMS2
import Derived.Test.YtfghmaheokgceaaGreatDoorMS3
import Derived.Test.YtfghmaheokgceaaGreatDoorME
import Derived.Lib.Bytealg
import Derived.Shelf.Strings.Search1
import Derived.RangeFuncGives
import Derived.RangeFuncSeq
import Derived.Sort.MapsRangeIn
import Derived.Sort.KeysCollected
import Derived.WalkKit
import Derived.OwnWalkIn
import Derived.TacticsInMore
import Derived.RegionIn
import Derived.LoopNIn
import Derived.LoopIn
import Derived.Maps.AppendAt
import Derived.Shelf.Abstract
import Derived.Test.YtfghmaheokgceaaGreatDoorProg
import Derived.Test.YtfghmaheokgceaaGreatDoorMD
section
set_option linter.unusedSimpArgs false
set_option linter.unusedVariables false
set_option maxRecDepth 100000
namespace Go.Proofs.YtfghmaheokgceaaGreatDoor
open Go.Abs
def stepT : List (List Value × Value) := [(stepA0, stepV0), (stepA1, stepV1), (stepA2, stepV2), (stepA3, stepV3)]
theorem stepT_ok : ExtOk Tryz.prog (tabE shaG 370 stepT) := tabE_ok fun p hp => by
  simp only [stepT, List.mem_cons, List.not_mem_nil, or_false] at hp
  rcases hp with rfl | rfl | rfl | rfl
  · exact step_good0
  · exact step_good1
  · exact step_good2
  · exact step_good3
theorem tag_run : withG (shaG ++ tagR 11 keyC ticketC) .e (fun tr => callX Tryz.prog (tabE shaG 370 stepT) 5000 80 177 (tagA 11) ⟨11 + 3, tr⟩ fun v _ => eqX v tagV) = true := by kernel_rfl
theorem tag_good : SpecGood Tryz.prog (177, MirO Tryz.prog.globals.size (Tryz.prog.globals.size + 3) shaG (tagR Tryz.prog.globals.size keyC ticketC) (tagA Tryz.prog.globals.size) tagV) := by
  have h := mir_good mixedH stepT_ok (M := 11 + 3) (R := tagR 11 keyC ticketC) shaOk (by rw [globsN]; omega) (by kernel_rfl) tag_run
  rw [globsN] at h ⊢
  exact h
end Go.Proofs.YtfghmaheokgceaaGreatDoor
end

section
set_option linter.unusedSimpArgs false
set_option linter.unusedVariables false
set_option maxRecDepth 100000
namespace Go.Proofs.YtfghmaheokgceaaGreatDoor
open Go.Abs

def idxBO : Abs.Spec := fun args h k => ∃ (s : ByteArray) (c : Int), args = [.string s, .int .u8 c] ∧ k (.int .i64 (Lib.indexByte s.data.toList c.toNat.toUInt8)) h
theorem idxBO_good : SpecGood Tryz.prog (496, idxBO) := by
  refine ⟨?_, ?_⟩
  · rintro args h k ⟨s, c, rfl, H⟩ B w0 w ρ args' HR HL
    have e := lrel_lits HL (by rfl)
    have e : args' = #[.string s, .int .u8 c] := Array.ext' (by simpa using e)
    subst e
    rw [run_callFunc_extern Tryz.func496 (by kernel_rfl) (by kernel_rfl) (by kernel_rfl) (e := Extern.BytealgIndexByte.indexByte) (by kernel_rfl), Lib.run_indexByteString]
    exact ⟨_, _, _, H, Rho.le.refl ρ, HR, VRel.int ρ _ _⟩
  · rintro args h k ⟨s, c, rfl, H⟩
    exact ⟨_, _, H⟩
def idxX : XSpec := fun args x => match args with
  | [.string s, .int .u8 c] => some (.int .i64 (Lib.indexByte s.data.toList c.toNat.toUInt8), x)
  | _ => none
def idxE : FuncId → Option XSpec := fun g => match Nat.beq g 496 with
  | true => some idxX
  | false => none
theorem idxE_ok : ExtOk Tryz.prog idxE := by
  intro g s hs args x v x' hv k hk B w0 w ρ args' HR HL
  unfold idxE at hs
  split at hs
  · rename_i e
    have e := Nat.eq_of_beq_eq_true e
    subst e
    cases hs
    unfold idxX at hv
    split at hv
    · cases hv
      exact idxBO_good.1 _ x.st k ⟨_, _, rfl, hk⟩ B w0 w ρ args' HR HL
    · cases hv
  · cases hs
def orE (E F : FuncId → Option XSpec) : FuncId → Option XSpec := fun g => match E g with
  | some s => some s
  | none => F g
theorem orE_ok {P : Program} {E F : FuncId → Option XSpec} (hE : ExtOk P E) (hF : ExtOk P F) : ExtOk P (orE E F) := by
  intro g s hs
  unfold orE at hs
  split at hs
  · rename_i t ht
    cases hs
    exact hE g _ ht
  · exact hF g s hs
end Go.Proofs.YtfghmaheokgceaaGreatDoor
end

section
set_option linter.unusedSimpArgs false
set_option linter.unusedVariables false
namespace Go.Proofs.YtfghmaheokgceaaGreatDoor
open Go.RowKit Go.Maps Go.Sort Go.Shelf

abbrev encK : Int → Value := Value.int .u32
theorem encK_inj {x y : Int} (h : encK x = encK y) : x = y := by simpa [encK] using h
theorem keyOf_k {P : Program} {k : TypeId} (hk : P.underlying k = some (.int .u32)) {key : Value} {kl : Lit} (h : keyOf P k key = some kl) : ∃ x : Int, key = encK x ∧ kl = .int .u32 x ∧ (Lit.int .u32 x).wf = true := by
  cases key <;> simp [keyOf, hk, mapKey] at h
  rename_i q a
  obtain ⟨⟨rfl, hw⟩, rfl⟩ := h
  exact ⟨a, rfl, rfl, hw⟩
/-- Each key, once. -/
def KeysOfD {H : Type} (D0 : DataW H) (ss : List Int) : Prop := ss.Nodup ∧ ∀ x, x ∈ ss ↔ has D0 (.int .u32 x) = true
/-- What has come: a key just where it is there and is to come no more. -/
def CollK {H : Type} (D0 : DataW H) (left : Lit → Bool) (ss : List Int) : Prop := ss.Nodup ∧ ∀ x, x ∈ ss ↔ (has D0 (.int .u32 x) = true ∧ left (.int .u32 x) = false)
section
variable {H : Type} {D0 : DataW H} {left : Lit → Bool} {ss : List Int}
theorem CollK.start (D0 : DataW H) : CollK D0 (has D0) [] := ⟨List.nodup_nil, fun x => by cases has D0 (.int .u32 x) <;> simp⟩
theorem CollK.step (h : CollK D0 left ss) {x : Int} {y : DataW H} (hlk : left (.int .u32 x) = true) (hat : ∀ zd, D0.atKey (.int .u32 x) zd = y) : CollK D0 (fun z => left z && !z.sameKey (.int .u32 x)) (ss ++ [x]) := by
  have hhas : has D0 (.int .u32 x) = true := has_true_of_atKey hat
  have hnew : x ∉ ss := fun hx => by have := ((h.2 x).1 hx).2; rw [hlk] at this; cases this
  refine ⟨List.nodup_append.2 ⟨h.1, by simp, fun a ha b hb => by simp at hb; subst hb; exact fun e => hnew (e ▸ ha)⟩, fun y => ?_⟩
  by_cases hy : y = x
  · subst hy; simp [hhas, Lit.sameKey]
  · simp [h.2 y, hy, Lit.sameKey]
theorem CollK.done (h : CollK D0 left ss) (hl : ∀ kl, left kl = false) : KeysOfD D0 ss := ⟨h.1, fun x => by rw [h.2 x, hl]; simp⟩
end
set_option maxRecDepth 100000 in
set_option maxHeartbeats 1000000 in
theorem keys1N_in {H : Type} {R0 : Value → Option (DataW H × List MemPlace)} (F : Fence) (n : Nat) (h10 : F.fn 374) (hro : F.round = none) (hn : 1 ≤ n) (l Bm b nn : Nat) (D0 : DataW H) (J : List Int → World → Prop)
    (hY : ∀ pre x W, J pre W → pre.length < Maps.size D0 → YieldAt F (n - 1) Tryz.prog l #[encK x] W fun e W' => e = .returned (.bool true) ∧ J (pre ++ [x]) W' ∧ KeepsWalks W W')
    (W : World) (hJ : AbidesFrom W.heap.size J) (hm : W.cell? ⟨Bm, 0, none⟩ = some (.map (some b))) (hown : W.ownsMap Tryz.prog 22 R0 b nn D0) (h0 : J [] W) :
    CallsIn F n Tryz.prog 374 #[.func (.yield l) #[] #[], .pointer (some ⟨Bm, 0, none⟩)] W fun e W' => (∃ v, e = .returned v) ∧ ∃ ss : List Int, KeysOfD D0 ss ∧ J ss W' := by
  refine callsIn_of_wp Tryz.func374 rfl h10 ?_ hro
  simp only [Tryz.ntmps374, List.size_toArray, List.length_cons, List.length_nil, Nat.reduceAdd, Nat.reduceSub, Array.replicate_succ, Array.replicate_zero, List.push_toArray, List.append_toArray, List.nil_append, List.cons_append]
  gi_wp2_with (first
    | (gi_at_range; refine wpListIn_range_own _ rfl _ 326 rfl 22 410 (int_keyed Tryz.underlying22) Tryz.underlying326 _ b nn _ rfl hown ?_; intro w0 hrg0 hg0 hs0)
    | gi_in)
  go_frame
  gi_loopw [3] (fun _ wr => ∃ (left : Lit → Bool) (cnt : Nat) (ss : List Int), wr.ranges Tryz.prog 22 R0 b W.heap.size nn D0 left cnt ∧ ss.length + cnt ≤ Maps.size D0 ∧ CollK D0 left ss ∧ J ss wr)
    (fun _ wr => wr.rangeLeft b W.heap.size)
  case atStart =>
    exact ⟨_, _, [], hrg0, by simp, CollK.start D0, hJ [] W w0 none h0 hg0 (fun r e => by cases e)⟩
  case round =>
    obtain ⟨left, cnt, ss, hrg, hcs, hC, hJs⟩ := hrel
    gi_wp2_with (first
      | (gi_at_next; refine wpListIn_next_ranges _ rfl _ rfl 22 (int_keyed Tryz.underlying22) R0 encK id (fun key kl hk => by obtain ⟨x, hx, _⟩ := keyOf_k Tryz.underlying22 hk; exact ⟨x, hx⟩) (fun v _ _ => ⟨v, rfl⟩) b W.heap.size nn _ _ _ rfl hrg ?_ ?_)
      | gi_in)
    · -- NOTHING IS LEFT
      intro hc0 hl0
      gi_wp2
      go_end0
      exact ⟨⟨_, rfl⟩, ss, hC.done hl0, hJs⟩
    · -- AN ENTRY HAS COME: yield(k)
      intro x c kl yd yp w2 cnt2 hkey hlk hv hat hrg2 hlt hg2 hs2 hen
      obtain ⟨x', ex, rfl, _⟩ := keyOf_k Tryz.underlying22 hkey
      obtain rfl : x = x' := encK_inj ex
      have hJ2 : J ss w2 := hJ ss wr w2 (some W.heap.size) hJs hg2 (fun r e => by cases e; exact ⟨Nat.le_refl _, hrg.iter_walk⟩)
      obtain ⟨fn, tmps, assign, body, hy, hR⟩ := hY ss x w2 hJ2 (by omega)
      clear hs2
      gi_wp2
      refine hR.mono ?_
      rintro e W3 ⟨rfl, hJ3, hk3⟩
      gi_wp2
      have hrg3 := hrg2.of_walks hk3
      go_roundw
      case rel => exact ⟨_, cnt2, ss ++ [x], hrg3, by simp; omega, hC.step hlk hat, hJ3⟩
      case measure => rw [hrg3.left_eq, hrg.left_eq]; exact hlt


theorem keys_gives {H : Type} {R0 : Value → Option (DataW H × List MemPlace)} (F : Fence) (n : Nat) (h10 : F.fn 374) (hro : F.round = none) (hn : 1 ≤ n) (Bm b nn : Nat) (D0 : DataW H) (w : World) (hBm : Bm < w.heap.size)
    (hm : w.cell? ⟨Bm, 0, none⟩ = some (.map (some b))) (hown : w.ownsMap Tryz.prog 22 R0 b nn D0) :
    SeqGives F n Tryz.prog 374 #[.pointer (some ⟨Bm, 0, none⟩)] encK (KeysOfD D0) (Maps.size D0) w := fun l J W hW hJ hY h0 => by
  have hown' : W.ownsMap Tryz.prog 22 R0 b nn D0 := by
    have hbl := hown.lt
    obtain ⟨es, clock, hb, Ft, hs, hD⟩ := hown
    exact ⟨es, clock, (hW.block b hbl).trans hb, Ft, hs, hD⟩
  exact keys1N_in F n h10 hro hn l Bm b nn D0 J hY W hJ ((hW.cell (p := ⟨Bm, 0, none⟩) hBm).trans hm) hown' h0

def apAssign : Code := (Code.region 2 #[{ dst := some 5, op := Op.assign (Operand.tmp 7), type := 22, pos := "iter.go:51", after := #[], guard := none }] false)
def apBody : Code := (Code.block 1 (Code.region 3 #[{ dst := some 8, op := Op.load 50 (Operand.tmp 2), type := 50, pos := "iter.go:52", after := #[], guard := none }, { dst := some 9, op := Op.move (Operand.tmp 5), type := 22, pos := "iter.go:52", after := #[], guard := none }, { dst := some 10, op := Op.buildSlice 50 1 #[(0, Operand.tmp 9)], type := 50, pos := "iter.go:52", after := #[{ on := 1, ground := Ground.data }], guard := none }, { dst := some 11, op := Op.call { callee := Callee.builtin Builtin.append, args := #[Operand.tmp 8, Operand.tmp 10], argTypes := #[50, 50] }, type := 50, pos := "iter.go:52", after := #[{ on := 0, ground := Ground.data }, { on := 2, ground := Ground.data }], guard := none }, { dst := none, op := Op.store 50 (Operand.tmp 2) (Operand.tmp 11), type := 0, pos := "iter.go:52", after := #[{ on := 3, ground := Ground.data }, { on := 3, ground := Ground.chain }, { on := 0, ground := Ground.phase }, { on := 1, ground := Ground.phase }, { on := 2, ground := Ground.phase }, { on := 3, ground := Ground.phase }], guard := none }] false))
def apRec (fn : FuncId) (sv : Value) (Bs D : Nat) (st : LoopState) (pend : Option Code) : Loop :=
  { state := st, pending := pend, fn, tmps := #[.slice none 0 0, sv, .pointer (some ⟨Bs, 0, none⟩), undef, .slice none 0 0, undef, sv, undef, undef, undef, undef, undef, undef], params := #[7], assign := apAssign, body := apBody, defers := D }

structure ApAt (w0 : World) (fn : FuncId) (sv : Value) (Bs l D : Nat) (ss : List Int) (W : World) : Prop where
  box : ∃ v, W.heap[Bs]? = some (.cells #[v] 50 (0, 0)) ∧ W.ownsRow w0.heap.size 22 1 v ss.length (ss.map encK) ∧ (v = .slice none 0 0 ↔ ss = [])
  L : W.heap[l]? = some (.loop (apRec fn sv Bs D .ready none))
  K : W.heap[D]? = some (.deferred (some []))
  below : Below w0.heap.size w0 W

theorem ownsRow_abides {W W' : World} {row : Option Nat} {base : Nat} {e : TypeId} {size : Nat} {v : Value} {k : Nat} {xs : List Value} (h : W.ownsRow base e size v k xs) (hg : W.grownBy W' row)
    (hrow : ∀ r, row = some r → ∃ o : Obj, W.heap[r]? = some o ∧ o.isWalk = true) : W'.ownsRow base e size v k xs := by
  refine h.kept hg ?_
  rcases h.2 with ⟨rfl, _⟩ | ⟨g, cap, cur, rfl, _, hgb, _⟩
  · exact .inl rfl
  · refine .inr fun e' => ?_
    obtain ⟨o, ho, hw⟩ := hrow g (by simpa [Value.ownBlock] using e'.symm)
    rw [hgb] at ho; cases ho; cases hw

theorem ap_abides (w0 : World) (fn : FuncId) (sv : Value) (Bs l D B : Nat) (hB : w0.heap.size ≤ B) : AbidesFrom B (ApAt w0 fn sv Bs l D) := fun s W W' row h hg hrow => by
  have hrow' : ∀ r, row = some r → ∃ o : Obj, W.heap[r]? = some o ∧ o.isWalk = true := fun r e => (hrow r e).2
  obtain ⟨v, hv, hr, hn⟩ := h.box
  exact ⟨⟨v, (grownBy_keeps hg hrow' hv rfl).trans hv, ownsRow_abides hr hg hrow', hn⟩, (grownBy_keeps hg hrow' h.L rfl).trans h.L, (grownBy_keeps hg hrow' h.K rfl).trans h.K,
    h.below.grown hg h.below.size (fun k e => Nat.le_trans hB (hrow k e).1)⟩

theorem grownBy_putObj (W : World) (l : Nat) (o : Obj) : W.grownBy (W.putObj l o) (some l) :=
  ⟨rfl, rfl, rfl, by simp, fun k _ hk => World.putObj_heap_other (fun e => hk (by rw [e]))⟩
theorem grownBy_setCell0 (W : World) (b : Nat) (v : Value) : W.grownBy (W.setCell ⟨b, 0, none⟩ v) (some b) :=
  ⟨rfl, rfl, rfl, (KeepsWalks.setCell W _ v).size, fun k _ hk => Below.heap_setCell _ _ _ k (fun e => hk (by rw [e]))⟩
theorem ownsRow_ne {W : World} {base : Nat} {e : TypeId} {size : Nat} {v : Value} {k : Nat} {xs : List Value} (h : W.ownsRow base e size v k xs) {j : Nat} {o : Obj} (hj : W.heap[j]? = some o) (hno : ∀ cur, o ≠ .cells cur e (0, 0)) :
    v.ownBlock = none ∨ v.ownBlock ≠ some j := by
  rcases h.2 with ⟨rfl, _⟩ | ⟨g, cap, cur, rfl, _, hgb, _⟩
  · exact .inl rfl
  · refine .inr fun e' => ?_
    have : g = j := by simpa [Value.ownBlock] using e'
    subst this; rw [hgb] at hj; cases hj; exact hno cur rfl
theorem cell_of_box {W : World} {B : Nat} {v : Value} {t : TypeId} (h : W.heap[B]? = some (.cells #[v] t (0, 0))) : W.cell? ⟨B, 0, none⟩ = some v ∧ W.frozen? ⟨B, 0, none⟩ = false := by
  constructor <;> simp [World.cell?, World.frozen?, h]

theorem heap_setCell_box {W : World} {B : Nat} {v : Value} {t : TypeId} (v' : Value) (h : W.heap[B]? = some (.cells #[v] t (0, 0))) : (W.setCell ⟨B, 0, none⟩ v').heap[B]? = some (.cells #[v'] t (0, 0)) := by
  obtain ⟨hlt, hk⟩ := Array.getElem?_eq_some_iff.1 h
  show (W.heap.modify B _)[B]? = _
  rw [Array.getElem?_eq_getElem (by rw [Array.size_modify]; exact hlt), Array.getElem_modify_self, hk]
  rfl
theorem ownsRow_not_walk {W : World} {base : Nat} {e : TypeId} {size : Nat} {v : Value} {k : Nat} {xs : List Value} (h : W.ownsRow base e size v k xs) : ∀ (j : Nat) (o : Obj), v.ownBlock = some j → W.heap[j]? = some o → o.isWalk = false := by
  intro j o hj ho
  rcases h.2 with ⟨rfl, _⟩ | ⟨g, cap, cur, rfl, _, hgb, _⟩
  · simp [Value.ownBlock] at hj
  · have : g = j := by simpa [Value.ownBlock] using hj
    subst this; rw [hgb] at ho; cases ho; rfl


theorem infoEl : (Tryz.prog.info? 22).map (fun i => (i.zero, i.size, i.bytes)) = some (some (.int .u32 0), 1, 4) := by kernel_rfl

set_option maxRecDepth 100000 in
set_option maxHeartbeats 2000000 in
theorem apYield (F : Fence) (m : Nat) (w0 : World) (fn : FuncId) (hfn : F.fn fn) (sv : Value) (Bs l D : Nat) (hBl : Bs ≠ l) (hDl : D ≠ l) (hDB : D ≠ Bs) (h0B : w0.heap.size ≤ Bs) (h0l : w0.heap.size ≤ l)
    (N : Nat) (hN : N ≤ maxLen) (hNb : N * 4 ≤ 140737488355328) (ss : List Int) (x : Int) (W : World) (h : ApAt w0 fn sv Bs l D ss W) (hlen : ss.length < N) :
    YieldAt F m Tryz.prog l #[encK x] W fun e W' => e = .returned (.bool true) ∧ ApAt w0 fn sv Bs l D (ss ++ [x]) W' ∧ KeepsWalks W W' := by
  obtain ⟨i0, hi, hz0, hz1, hz2⟩ := info_parts infoEl
  obtain ⟨v, hv, hrow, _⟩ := h.box
  refine ⟨fn, #[.slice none 0 0, sv, .pointer (some ⟨Bs, 0, none⟩), undef, .slice none 0 0, undef, sv, encK x, undef, undef, undef, undef, undef], apAssign, apBody, by simpa [apRec] using run_yield (P := Tryz.prog) (args := #[encK x]) h.L rfl, roundIn_of_wpIn hfn ?_⟩
  have hl : l < W.heap.size := (Array.getElem?_eq_some_iff.1 h.L).1
  have hbr := run_beginRound (P := Tryz.prog) h.L rfl
  obtain ⟨W2, hW2⟩ : ∃ W2, W.putObj l (.loop { apRec fn sv Bs D .ready none with state := .busy }) = W2 := ⟨_, rfl⟩
  rw [hW2] at hbr
  have hg2 : W.grownBy W2 (some l) := by rw [← hW2]; exact grownBy_putObj _ _ _
  have hk2 : KeepsWalks W W2 := by rw [← hW2]; exact KeepsWalks.putObj _ h.L rfl
  have hv2 : W2.heap[Bs]? = some (.cells #[v] 50 (0, 0)) := by rw [← hW2]; exact (World.putObj_heap_other hBl).trans hv
  have hK2 : W2.heap[D]? = some (.deferred (some [])) := by rw [← hW2]; exact (World.putObj_heap_other hDl).trans h.K
  have hL2 : W2.heap[l]? = some (.loop { apRec fn sv Bs D .ready none with state := .busy }) := by rw [← hW2]; exact World.putObj_heap_same hl
  have hrow2 : W2.ownsRow w0.heap.size 22 1 v ss.length (ss.map encK) := hrow.kept hg2 (ownsRow_ne hrow h.L (fun cur e => by first | cases e | exact absurd (Obj.cells.inj e).2.1 (by decide)))
  have hb2 : Below w0.heap.size w0 W2 := h.below.grown hg2 h.below.size (fun k e => by cases e; exact h0l)
  obtain ⟨hc2, hf2⟩ := cell_of_box hv2
  have hBlt : Bs < W2.heap.size := (Array.getElem?_eq_some_iff.1 hv2).1
  have hl2 : l < W2.heap.size := (Array.getElem?_eq_some_iff.1 hL2).1
  have hDlt : D < W2.heap.size := (Array.getElem?_eq_some_iff.1 hK2).1
  have ne_of : ∀ {j : Nat} {o : Obj}, W2.heap[j]? = some o → (∀ cur, o ≠ .cells cur 22 (0, 0)) → some j ≠ v.ownBlock := fun hj hno => by
    rcases ownsRow_ne hrow2 hj hno with e | e
    · rw [e]; simp
    · exact fun e' => e e'.symm
  clear hW2
  unfold apAssign
  gi_wp2_with (rw [Oper.semAt_eq _ _ _ (fun c h => by cases h)]; go_simp; try go_bits)
  unfold apBody
  gi_wp2_with (first
    | (gi_at_builtin; refine wpListIn_append_own _ rfl _ _ 50 rfl w0.heap.size 22 i0 (.int .u32 0) 1 4 Tryz.underlying50 hi hz0 hz1 hz2 rfl (by decide) _ _ _ rfl (hrow2.alloc _) ⟨W2.heap.size, 0, none⟩ 1 1 [encK x] rfl rfl (cell_one_new _ _ _) (by simp [Value.oneCell', encK]) (by omega) (by omega) (by have := hb2.size; simp; omega) ?_; intro v' w3 hown' hg3 hnil3
       have hv3 : w3.heap[Bs]? = some (.cells #[v] 50 (0, 0)) := (hg3.block Bs (by simp; omega) (ne_of hv2 (fun cur e => by first | cases e | exact absurd (Obj.cells.inj e).2.1 (by decide)))).trans ((Below.heap_alloc _ _ Bs hBlt).trans hv2)
       obtain ⟨hc3, hf3⟩ := cell_of_box hv3
       obtain ⟨g', cap', cur', rfl, hbase', hgb', hr1, hr2, hr3, hr4⟩ : ∃ g' cap' cur', v' = .slice (some ⟨g', 0, none⟩) (ss.length + 1) cap' ∧ w0.heap.size ≤ g' ∧ w3.heap[g']? = some (.cells cur' 22 (0, 0)) ∧ ss.length + 1 ≤ cap' ∧ cap' ≤ maxLen ∧ cur'.size = cap' * 1 ∧ cur'.toList.take ((ss.length + 1) * 1) = ss.map encK ++ [encK x] := by
         rcases hown'.2 with ⟨_, h0⟩ | h'
         · exact absurd h0 (by omega)
         · exact h'
       go_frame)
    | (rw [Oper.semAt_eq _ _ _ (fun c h => by cases h)]; go_simp; try go_bits))
  have hg3' : (W2.alloc (.cells #[encK x] 22)).grownBy w3 v.ownBlock := hg3
  have hL3 : w3.heap[l]? = some (.loop { apRec fn sv Bs D .ready none with state := .busy }) := (hg3'.block l (by simp; omega) (ne_of hL2 (fun cur e => by first | cases e | exact absurd (Obj.cells.inj e).2.1 (by decide)))).trans ((Below.heap_alloc _ _ l hl2).trans hL2)
  have hK3 : w3.heap[D]? = some (.deferred (some [])) := (hg3'.block D (by simp; omega) (ne_of hK2 (fun cur e => by first | cases e | exact absurd (Obj.cells.inj e).2.1 (by decide)))).trans ((Below.heap_alloc _ _ D hDlt).trans hK2)
  obtain ⟨w4, hw4⟩ : ∃ w4, w3.setCell ⟨Bs, 0, none⟩ (.slice (some ⟨g', 0, none⟩) (ss.length + 1) cap') = w4 := ⟨_, rfl⟩
  rw [hw4]
  have hg4 : w3.grownBy w4 (some Bs) := by rw [← hw4]; exact grownBy_setCell0 _ _ _
  have hv4 : w4.heap[Bs]? = some (.cells #[.slice (some ⟨g', 0, none⟩) (ss.length + 1) cap'] 50 (0, 0)) := by rw [← hw4]; exact heap_setCell_box _ hv3
  have hL4 : w4.heap[l]? = some (.loop { apRec fn sv Bs D .ready none with state := .busy }) := (hg4.block l (Array.getElem?_eq_some_iff.1 hL3).1 (fun e => hBl (by cases e; rfl))).trans hL3
  have hK4 : w4.heap[D]? = some (.deferred (some [])) := (hg4.block D (Array.getElem?_eq_some_iff.1 hK3).1 (fun e => hDB (by cases e; rfl))).trans hK3
  have hrow4 := hown'.kept hg4 (ownsRow_ne hown' hv3 (fun cur e => by first | cases e | exact absurd (Obj.cells.inj e).2.1 (by decide)))
  have hl4 : l < w4.heap.size := (Array.getElem?_eq_some_iff.1 hL4).1
  have hb3 : Below w0.heap.size w0 w3 := (hb2.alloc hb2.size _).grown hg3' (by have := hb2.size; simp; omega) (fun k e => (hrow2.lt k e).1)
  have hb4 : Below w0.heap.size w0 w4 := hb3.grown hg4 hb3.size (fun k e => by cases e; exact h0B)
  have hk4 : KeepsWalks W w4 := ((hk2.trans (KeepsWalks.alloc _ _)).trans (KeepsWalks.of_grownBy hg3' (ownsRow_not_walk (hrow2.alloc _)))).trans (by rw [← hw4]; exact KeepsWalks.setCell _ _ _)
  clear hw4
  refine ⟨_, _, run_endRound none hL4, rfl, ⟨⟨_, (World.putObj_heap_other hBl).trans hv4, ?_, by simp⟩, World.putObj_heap_same hl4, (World.putObj_heap_other hDl).trans hK4, hb4.grown (grownBy_putObj _ _ _) hb4.size (fun k e => by cases e; exact h0l)⟩, hk4.trans (KeepsWalks.putObj _ hL4 rfl)⟩
  have := hrow4.kept (grownBy_putObj w4 l (.loop { { apRec fn sv Bs D .ready none with state := .busy } with state := if (none : Option Code).isNone then .ready else .done, pending := none })) (ownsRow_ne hrow4 hL4 (fun cur e => by first | cases e | exact absurd (Obj.cells.inj e).2.1 (by decide)))
  simpa using this


set_option maxRecDepth 100000 in
set_option maxHeartbeats 2000000 in
theorem appendSeq_in (F : Fence) (n : Nat) (h11 : F.fn 434) (hro : F.round = none) (hn : 2 ≤ n) (g : Nat) (lb : Array Value) (hFg : F.fn g) (eg : ∀ args w, (callFunc g args).run Tryz.prog w = .ok (.enter g args) w)
    (S : List Int → Prop) (N : Nat) (hN : N ≤ maxLen) (hNb : N * 4 ≤ 140737488355328) (w : World) (hseq : SeqGives F (n - 1) Tryz.prog g lb encK S N w) :
    CallsIn F n Tryz.prog 434 #[.slice none 0 0, .func (.func g) #[] lb] w fun e w' => ∃ (v : Value) (ss : List Int), e = .returned v ∧ S ss ∧ w'.ownsRow w.heap.size 22 1 v ss.length (ss.map encK) ∧ (v = .slice none 0 0 ↔ ss = []) ∧ Below w.heap.size w w' := by
  have h1 : 1 ≤ n := by omega
  refine callsIn_of_wp_marks Tryz.func434 rfl h11 ?_ hro
  simp only [Tryz.ntmps434, List.size_toArray, List.length_cons, List.length_nil, Nat.reduceAdd, Nat.reduceSub, Array.replicate_succ, Array.replicate_zero, List.push_toArray, List.append_toArray, List.nil_append, List.cons_append]
  gi_wp2
  refine wpIn_rangeFunc ?_
  intro fn hfn
  rw [hro]
  obtain ⟨W0, hW0⟩ : ∃ W0, w.alloc (.cells #[.slice none 0 0] 50) = W0 := ⟨_, rfl⟩
  have hs0 : W0.heap.size = w.heap.size + 1 := by rw [← hW0]; simp
  have hv0 : W0.heap[w.heap.size]? = some (.cells #[.slice none 0 0] 50 (0, 0)) := by rw [← hW0]; exact World.alloc_heap_new w _
  have hb0 : Below w.heap.size w W0 := by rw [← hW0]; exact (Below.refl _ w).alloc (Nat.le_refl _) _
  rw [hW0]
  obtain ⟨W1, hW1⟩ : ∃ W1, (W0.alloc (.deferred (some []))).alloc (.loop (apRec fn (.func (.func g) #[] lb) w.heap.size W0.heap.size .ready none)) = W1 := ⟨_, rfl⟩
  have hold : ∀ k, k < W0.heap.size → W1.heap[k]? = W0.heap[k]? := fun k hk => by
    rw [← hW1]; exact (Below.heap_alloc _ _ k (by simp; omega)).trans (Below.heap_alloc _ _ k hk)
  have hb1 : Below w.heap.size w W1 := by rw [← hW1]; exact (hb0.alloc hb0.size _).alloc (by have := hb0.size; simp; omega) _
  have hs1 : W1.heap.size = W0.heap.size + 2 := by rw [← hW1]; simp
  have hM : ApAt w fn (.func (.func g) #[] lb) w.heap.size (W0.heap.size + 1) W0.heap.size [] W1 :=
    ⟨⟨_, (hold w.heap.size (by omega)).trans hv0, ⟨rfl, .inl ⟨rfl, rfl⟩⟩, by simp⟩,
     by rw [← hW1]; have := World.alloc_heap_new (W0.alloc (.deferred (some []))) (.loop (apRec fn (.func (.func g) #[] lb) w.heap.size W0.heap.size .ready none)); rwa [World.size_alloc] at this,
     by rw [← hW1]; exact (Below.heap_alloc _ _ _ (by simp)).trans (World.alloc_heap_new W0 _), hb1⟩
  refine ⟨W0.heap.size + 1, [{ target := .collected W0.heap.size, args := #[] }], W1, { target := .fn (.func g) lb, args := #[.func (.yield (W0.heap.size + 1)) #[] #[]] }, W1, g,
    #[.func (.yield (W0.heap.size + 1)) #[] #[]] ++ lb, W1, ?_, ?_, ?_, ?_, fun _ => h1, ?_⟩
  · rw [← hW1]; exact run_enterLoop_outer _ _ _ _ _
  · simp [resolve, go_sem]
  · intro f' hf'; simp [Target.leads] at hf'; subst hf'; exact hFg
  · simp [invoke, go_sem, eg]
  · refine (hseq (W0.heap.size + 1) (ApAt w fn (.func (.func g) #[] lb) w.heap.size (W0.heap.size + 1) W0.heap.size) W1 hb1 (ap_abides _ _ _ _ _ _ _ hb1.size)
      (fun pre x W hJ hl => apYield F (n - 1 - 1) w fn hfn _ w.heap.size (W0.heap.size + 1) W0.heap.size (by omega) (by omega) (by omega) (Nat.le_refl _) (by omega) N hN hNb pre x W hJ hl) hM).mono ?_
    rintro e W2 ⟨⟨v0, rfl⟩, ss, hS, h2⟩
    obtain ⟨v, hv, hrow, hnil⟩ := h2.box
    have hend := run_endLoop (P := Tryz.prog) h2.L (by simp [apRec])
    obtain ⟨W3, hW3⟩ : ∃ W3, W2.putObj (W0.heap.size + 1) (.loop { apRec fn (.func (.func g) #[] lb) w.heap.size W0.heap.size .ready none with state := .exhausted }) = W3 := ⟨_, rfl⟩
    rw [hW3] at hend
    have hg3 : W2.grownBy W3 (some (W0.heap.size + 1)) := by rw [← hW3]; exact grownBy_putObj _ _ _
    have hv3 : W3.heap[w.heap.size]? = some (.cells #[v] 50 (0, 0)) := by rw [← hW3]; exact (World.putObj_heap_other (by omega)).trans hv
    have hK3 : W3.heap[W0.heap.size]? = some (.deferred (some [])) := by rw [← hW3]; exact (World.putObj_heap_other (by omega)).trans h2.K
    have hrow3 := hrow.kept hg3 (ownsRow_ne hrow h2.L (fun cur e => by first | cases e | exact absurd (Obj.cells.inj e).2.1 (by decide)))
    have hb3 : Below w.heap.size w W3 := h2.below.grown hg3 h2.below.size (fun k e => by cases e; omega)
    obtain ⟨hc3, hf3⟩ := cell_of_box hv3
    clear hW3
    refine ⟨none, W3, hend, ?_⟩
    gi_wp2
    rw [← hs0]
    refine ⟨by simp, .inl ⟨_, _, rfl, run_takeDeferred hK3, ?_⟩⟩
    exact ⟨_, results_tmp rfl _ _ _, v, ss, rfl, hS, hrow3.kept (grownBy_putObj _ _ _) (ownsRow_ne hrow3 hK3 (fun cur e => by first | cases e | exact absurd (Obj.cells.inj e).2.1 (by decide))), hnil, hb3.grown (grownBy_putObj _ _ _) hb3.size (fun k e => by cases e; omega)⟩



end Go.Proofs.YtfghmaheokgceaaGreatDoor
end

section
set_option linter.unusedSimpArgs false
set_option linter.unusedVariables false
set_option maxHeartbeats 1000000
set_option maxRecDepth 100000
namespace Go.Abs
open Go.RowKit (Below)
theorem HRel.adopt {P : Program} {B : Nat} {w0 w w' : World} {ρ : Rho} {h : St} (H : HRel P B w0 ρ h w) (hb : Below w.heap.size w w') (o : AObj) (l : Loc) (hg : w.heap.size ≤ l.blk)
    (ho : ORel (ρ.push h.next l) B o l w') : HRel P B w0 (ρ.push h.next l) (h.push o) w' := by
  have hle := H.fresh l
  have hsz := H.size
  refine ⟨H.below.trans (hb.mono hsz), H.base, H.globs, ?_, ?_, ?_, ?_⟩
  · intro g hg
    obtain ⟨lg, h1, h2⟩ := H.old g hg
    exact ⟨lg, hle _ _ h1, h2⟩
  · intro i l' hi
    simp only [Rho.push] at hi
    show i < h.next + 1
    split at hi
    · omega
    · have := H.dom i l' hi; omega
  · intro i o' hi
    simp only [St.push] at hi
    split at hi
    · rename_i e; subst e
      cases hi
      exact ⟨l, by simp [Rho.push], ho⟩
    · obtain ⟨l', h1, h2⟩ := H.obj i o' hi
      exact ⟨l', hle _ _ h1, h2.keep hle (hb.block l'.blk h2.lt)⟩
  · intro i j o1 o2 li lj h1 h2 h3 h4 h5 h6
    simp only [St.push] at h1 h2
    have key : ∀ k o', h.objs k = some o' → ∀ lk, (ρ.push h.next l) k = some lk → lk.blk < w.heap.size := by
      intro k o' hk lk hlk
      obtain ⟨l', e1, e2⟩ := H.obj k o' hk
      have : lk = l' := by have := hle _ _ e1; rw [this] at hlk; exact (Option.some.inj hlk).symm
      subst this
      exact e2.lt
    have top : ∀ lk, (ρ.push h.next l) h.next = some lk → lk = l := by intro lk hlk; simp [Rho.push] at hlk; exact hlk.symm
    split at h1
    · rename_i e; subst e
      have := top li h3; subst this
      split at h2
      · rename_i e; exact e.symm
      · have := key j o2 h2 lj h4; omega
    · split at h2
      · rename_i e; subst e
        have := top lj h4; subst this
        have := key i o1 h1 li h3; omega
      · obtain ⟨l1, e1, _⟩ := H.obj i o1 h1
        obtain ⟨l2, e2, _⟩ := H.obj j o2 h2
        have a1 := hle _ _ e1; rw [a1] at h3; cases h3
        have a2 := hle _ _ e2; rw [a2] at h4; cases h4
        exact H.sep i j o1 o2 _ _ h1 h2 e1 e2 h5 h6
end Go.Abs
namespace Go.Proofs.YtfghmaheokgceaaGreatDoor
open Go.Abs Go.IntWalk

def clK : FuncId := 374
/-- What is asked of a map: whole numbers as keys, each once; born one behind the other. -/
structure IntMap (es : List MapEntry) (c : Nat) (xs : List Int) : Prop where
  keys : es.map (·.key) = xs.map (Value.int .u32)
  wf : ∀ x ∈ xs, (Lit.int .u32 x).wf = true
  nd : xs.Nodup
  born : (es.map (·.born)).Nodup
  old : ∀ e ∈ es, e.born < c
  few : es.length ≤ 100000
theorem mrel_born {ρ : Rho} {l l' : List MapEntry} (h : MRel ρ l l') : l'.map (·.born) = l.map (·.born) ∧ l'.map (·.key) = l.map (·.key) := by
  induction h with
  | nil => exact ⟨rfl, rfl⟩
  | cons h _ ih => exact ⟨by rw [List.map_cons, List.map_cons, ih.1, h.2.1], by rw [List.map_cons, List.map_cons, ih.2, h.1]⟩
abbrev RT : Value → Option (DataW Unit × List MemPlace) := fun _ => some (.lit (.bool true), [])
open Go.RowKit Go.Maps Go.Sort Go.Shelf in
/-- Such a map, in memory, as the kit's laws tell it. -/
theorem owns_of {W : World} {b c : Nat} {es : List MapEntry} {xs : List Int} {es' : Array MapEntry} {ρ : Rho} (hb : W.heap[b]? = some (.map es' c)) (hm : MRel ρ es es'.toList) (im : IntMap es c xs) :
    ∃ D0 : DataW Unit, W.ownsMap Tryz.prog 22 RT b es'.size D0 ∧ Maps.size D0 = es.length ∧ ∀ x, has D0 (.int .u32 x) = true ↔ x ∈ xs := by
  obtain ⟨m1, m2⟩ := mrel_born hm
  have m3 := hm.length
  have keyE : ∀ e ∈ es'.toList, ∃ x, x ∈ xs ∧ e.key = .int .u32 x := fun e he => by
    have : e.key ∈ es'.toList.map (·.key) := List.mem_map_of_mem he
    rw [m2, im.keys] at this
    obtain ⟨x, hx, e⟩ := List.mem_map.1 this
    exact ⟨x, hx, e.symm⟩
  have rdE : ∀ e ∈ es'.toList, ∀ x, e.key = .int .u32 x → x ∈ xs → WideElems.rd Tryz.prog 22 RT e = some (.int .u32 x, .lit (.bool true)) := fun e he x hx hm => by
    obtain ⟨k, v, bn⟩ := e
    simp only at hx
    subst hx
    exact WideElems.rd_mk (R := RT) (yv := (.lit (.bool true), [])) (Maps.keyOf_int_mk Tryz.underlying22 (im.wf x hm)) rfl
  refine ⟨.map ((es'.toList.map (WideElems.rg Tryz.prog 22 RT)).foldr DataW.insert []), ⟨es', c, hb, ⟨by have := im.few; rw [← Array.length_toList, ← m3]; unfold maxLen; omega, ⟨fun x hx => ?_, ?_, ?_⟩, fun x hx => ?_⟩, Nat.le_refl _, rfl⟩, ?_, fun x => ?_⟩
  · have : x.born ∈ es'.toList.map (·.born) := List.mem_map_of_mem hx
    rw [m1] at this
    obtain ⟨e, he, eb⟩ := List.mem_map.1 this
    rw [← eb]; exact im.old e he
  · rw [m1]; exact im.born
  · rw [m2, im.keys]
    refine List.Pairwise.map _ (fun a b h e => h ?_) im.nd
    cases e; rfl
  · obtain ⟨y, hy, ek⟩ := keyE x hx
    exact ⟨_, rdE x hx y ek hy⟩
  · rw [Maps.size_eq, (Go.WideShapes.sorted_perm _).length_eq, List.length_map, m3]
  · rw [has_eq, List.any_eq_true]
    constructor
    · rintro ⟨p, hp, hs⟩
      obtain ⟨e, he, rfl⟩ := List.mem_map.1 (mem_sorted.1 hp)
      obtain ⟨y, hy, ek⟩ := keyE e he
      rw [WideElems.rg_of (rdE e he y ek hy)] at hs
      have : y = x := by simpa [Lit.sameKey] using hs
      rw [← this]; exact hy
    · intro hx
      have : Value.int .u32 x ∈ es'.toList.map (·.key) := by rw [m2, im.keys]; exact List.mem_map_of_mem hx
      obtain ⟨e, he, ek⟩ := List.mem_map.1 this
      refine ⟨_, mem_sorted.2 (List.mem_map_of_mem he), ?_⟩
      rw [WideElems.rg_of (rdE e he x ek hx)]
      simp [Lit.sameKey]
open Go.RowKit Go.Maps Go.Sort Go.Shelf in
/-- What slices.AppendSeq answers, at a map's keys. -/
theorem app_calls {W : World} {b c Bm : Nat} {es : List MapEntry} {xs : List Int} {es' : Array MapEntry} {ρ : Rho} (hb : W.heap[b]? = some (.map es' c)) (hm : MRel ρ es es'.toList) (im : IntMap es c xs) (hBm : Bm < W.heap.size) (hc : W.cell? ⟨Bm, 0, none⟩ = some (.map (some b))) :
    Calls Tryz.prog 434 #[.slice none 0 0, .func (.func 374) #[] #[.pointer (some ⟨Bm, 0, none⟩)]] W fun e w' => ∃ (v : Value) (ss : List Int), e = .returned v ∧ ss.Perm xs ∧ w'.ownsRow W.heap.size 22 1 v ss.length (ss.map encK) ∧ (v = .slice none 0 0 ↔ ss = []) ∧ Below W.heap.size W w' := by
  obtain ⟨D0, own, sz, hh⟩ := owns_of hb hm im
  have few := im.few
  have := callsIn_wide.1 (appendSeq_in Fence.wide 5 trivial rfl (by omega) 374 #[.pointer (some ⟨Bm, 0, none⟩)] trivial (enters_of Tryz.func374 (by kernel_rfl) rfl) (KeysOfD D0) (Maps.size D0) (by rw [sz]; unfold maxLen; omega) (by rw [sz]; omega) W
    (keys_gives Fence.wide 4 trivial rfl (by omega) Bm b es'.size D0 W hBm hc own))
  refine this.mono ?_
  rintro e w' ⟨v, ss, rfl, ⟨h1, h2⟩, h3, h4, h5⟩
  exact ⟨v, ss, rfl, (List.perm_ext_iff_of_nodup h1 im.nd).2 fun x => by rw [h2, hh], h3, h4, h5⟩
/-! ### AppendSeq -/
def appO : Abs.Spec := fun args h k => ∃ (b m c : Nat) (own : Bool) (es : List MapEntry) (xs : List Int), args = [.slice none 0 0, .func (.func 374) #[] #[.pointer (some ⟨b, 0, none⟩)]] ∧ h.objs b = some (.cells [.map (some m)] own) ∧ h.objs m = some (.map es c) ∧ IntMap es c xs ∧
  ∀ ss : List Int, ss.Perm xs → (ss = [] → k (.slice none 0 0) h) ∧ (ss ≠ [] → k (.slice (some ⟨h.next, 0, some 1⟩) ss.length 0) (h.push (.cells (ss.map (Value.int .u32)) true)))
theorem vrel_map {ρ : Rho} {m : Nat} {v : Value} (h : VRel ρ (.map (some m)) v) : ∃ l, ρ m = some l ∧ v = .map (some l.blk) := by
  cases h with
  | lit _ e => simp [lit1] at e
  | map _ l hl => exact ⟨l, hl, rfl⟩
theorem vrel_ptr {ρ : Rho} {i : Nat} {v : Value} (h : VRel ρ (.pointer (some ⟨i, 0, none⟩)) v) : ∃ l, ρ i = some l ∧ v = .pointer (some ⟨l.blk, 0, none⟩) := by
  cases h with
  | lit _ e => simp [lit1] at e
  | ptr _ _ l hl => exact ⟨l, hl, rfl⟩
theorem vrel_nil {ρ : Rho} {v : Value} (h : VRel ρ (.slice none 0 0) v) : v = .slice none 0 0 := by
  cases h with
  | lit _ e => rfl
theorem vrel_clo {ρ : Rho} {g : FuncId} {p v : Value} (h : VRel ρ (.func (.func g) #[] #[p]) v) : ∃ p', v = .func (.func g) #[] #[p'] ∧ VRel ρ p p' := by
  cases h with
  | lit _ e => simp [lit1] at e
  | func _ _ _ a' b' ha hb h h' =>
    have e1 : a' = #[] := Array.eq_empty_of_size_eq_zero ha.symm
    have e2 : b'.size = 1 := hb.symm
    refine ⟨b'[0], ?_, h' 0 (by simp) (by omega)⟩
    rw [e1]
    congr 1
    apply Array.ext
    · simp [e2]
    · intro i h1 h2
      have : i = 0 := by omega
      subst this; rfl
theorem ints_one (ss : List Int) : (ss.map (Value.int .u32)).all one = true := by
  rw [List.all_eq_true]
  intro v hv
  obtain ⟨x, _, rfl⟩ := List.mem_map.1 hv
  rfl
theorem ints_rel {ρ : Rho} : ∀ (ss : List Int), LRel ρ (ss.map (Value.int .u32)) (ss.map (Value.int .u32))
  | [] => .nil
  | x :: ss => .cons (.int ρ _ x) (ints_rel ss)
theorem appO_good : SpecGood Tryz.prog (434, appO) := by
  refine ⟨?_, ?_⟩
  · rintro args h k ⟨b, m, c, own, es, xs, rfl, ob, om, im, H⟩ B w0 w ρ args' HR HL
    obtain ⟨l1, hl1, r1⟩ := HR.obj _ _ ob
    obtain ⟨l2, hl2, r2⟩ := HR.obj _ _ om
    obtain ⟨_, _, arr, ty, fr, k1, _, s1, q1⟩ := id r1
    obtain ⟨_, _, es', k2, mr⟩ := id r2
    cases ha : args'.toList with
    | nil => rw [ha] at HL; cases HL
    | cons x1 t1 =>
      rw [ha] at HL
      cases HL with
      | cons v1 HL =>
        cases HL with
        | @cons _ x2 _ t2 v2 HL =>
          cases HL
          have hargs : args' = #[x1, x2] := Array.ext' (by simpa using ha)
          subst hargs
          obtain rfl := vrel_nil v1
          obtain ⟨p', rfl, vp⟩ := vrel_clo v2
          obtain ⟨lb, hlb, rfl⟩ := vrel_ptr vp
          rw [hl1] at hlb
          cases hlb
          have hcell : w.cell? ⟨l1.blk, 0, none⟩ = some (.map (some l2.blk)) := by
            obtain ⟨v', hv', vr⟩ := q1.get (i := 0) (v := .map (some m)) rfl
            obtain ⟨lm, hlm, rfl⟩ := vrel_map vr
            rw [hl2] at hlm
            cases hlm
            have : arr.toList[0]? = some (.map (some l2.blk)) := by
              rw [List.getElem?_take_of_lt (by simp)] at hv'
              exact hv'
            simp only [World.cell?, k1]
            simpa using this
          have hn : (Tryz.f434.name == "runtime.NumGoroutine") = false := by kernel_rfl
          have hb : Tryz.f434.body.isSome = true := by kernel_rfl
          rw [run_call Tryz.func434 (by simpa using hn) (fun e => by rw [e] at hb; cases hb)]
          refine (app_calls k2 mr im r1.lt hcell).mono ?_
          rintro e w' ⟨v, ss, rfl, pm, ⟨ln, row⟩, nl, bel⟩
          rcases row with ⟨rfl, z⟩ | ⟨g, cap, cur, rfl, hg, kg, ncap, cmax, csz, ctk⟩
          · have : ss = [] := List.eq_nil_of_length_eq_zero z
            subst this
            exact ⟨_, _, h, ρ, rfl, (H [] pm).1 rfl, Rho.le.refl ρ, HR.later bel, .lit _ rfl⟩
          · have hle := HR.fresh ⟨g, cap, true⟩
            have hB : B ≤ g := Nat.le_trans HR.size hg
            rw [Nat.mul_one] at csz ctk
            have he : ss ≠ [] := fun e => by have := nl.2 e; cases this
            refine ⟨.slice (some ⟨h.next, 0, some 1⟩) ss.length 0, _, h.push (.cells (ss.map (Value.int .u32)) true), ρ.push h.next ⟨g, cap, true⟩, rfl, (H ss pm).2 he, hle, HR.adopt bel _ ⟨g, cap, true⟩ hg ?_, ?_⟩
            · refine ⟨rfl, fun _ => ⟨hB, ints_one ss⟩, cur, _, _, kg, fun _ => ⟨rfl, by show cap = cur.size; omega⟩, by rw [List.length_map]; omega, ?_⟩
              rw [List.length_map, ctk]
              exact ints_rel ss
            · exact .owned h.next 0 ss.length 0 cap 1 ⟨g, cap, true⟩ (by simp [Rho.push]) ncap cmax (by simp) (fun hh => absurd rfl hh)
  · rintro args h k ⟨b, m, c, own, es, xs, rfl, ob, om, im, H⟩
    by_cases he : xs = []
    · exact ⟨_, _, (H xs (List.Perm.refl _)).1 he⟩
    · exact ⟨_, _, (H xs (List.Perm.refl _)).2 he⟩
end Go.Proofs.YtfghmaheokgceaaGreatDoor
end

section
set_option linter.unusedSimpArgs false
set_option linter.unusedVariables false
set_option maxRecDepth 100000
namespace Go.Proofs.YtfghmaheokgceaaGreatDoor
open Go.Abs

def appX : XSpec := fun args x => match args with
  | [.slice none 0 0, .func (.func g) ⟨[]⟩ ⟨[.pointer (some ⟨b, 0, none⟩)]⟩] => (match Nat.beq g 374 with
    | true => (match x.tr.get b with
      | some (.cells [.map (some m)] _) => (match x.tr.get m with
        | some (.map es c) => (match es with
          | [] => some (.slice none 0 0, x)
          | [⟨.int kd n, _, bn⟩] => (match decide (kd = .u32) && ((Lit.int .u32 n).wf && Nat.blt bn c) with
            | true => Tr.setO 40 x.tr x.nx (some (.cells [.int .u32 n] true)) fun tr => some (.slice (some ⟨x.nx, 0, some 1⟩) 1 0, ⟨Nat.succ x.nx, tr⟩)
            | false => none)
          | _ => none)
        | _ => none)
      | _ => none)
    | false => none)
  | _ => none
def appE : FuncId → Option XSpec := fun g => match Nat.beq g 434 with
  | true => some appX
  | false => none
theorem appE_ok : ExtOk Tryz.prog appE := by
  intro g s hs args x v x' hv k hk B w0 w ρ args' HR HL
  unfold appE at hs
  split at hs
  · rename_i e
    have e := Nat.eq_of_beq_eq_true e
    subst e
    cases hs
    unfold appX at hv
    split at hv
    · rename_i g b
      split at hv
      · rename_i e
        have e := Nat.eq_of_beq_eq_true e
        subst e
        split at hv
        · rename_i m own hb
          split at hv
          · rename_i es c hm
            split at hv
            · cases hv
              refine appO_good.1 _ x.st k ⟨b, m, c, own, [], [], rfl, hb, hm, ⟨rfl, by simp, List.nodup_nil, List.nodup_nil, by simp, by simp⟩, fun ss hp => ⟨fun _ => hk, fun e => absurd (List.perm_nil.1 hp) e⟩⟩ B w0 w ρ args' HR HL
            · rename_i kd n y bn
              split at hv
              · rename_i hc
                simp only [Bool.and_eq_true, decide_eq_true_eq, Nat.blt_eq] at hc
                obtain ⟨rfl, c1, c2⟩ := hc
                obtain ⟨t', h1, h2⟩ := Tr.setO_ok hv
                cases h1
                refine appO_good.1 _ x.st k ⟨b, m, c, own, [⟨.int .u32 n, y, bn⟩], [n], rfl, hb, hm, ⟨rfl, by simpa using c1, by simp, by simp, by simpa using c2, by simp⟩, fun ss hp => ?_⟩ B w0 w ρ args' HR HL
                have := List.perm_singleton.1 hp
                subst this
                refine ⟨fun e => by simp at e, fun _ => ?_⟩
                have : X.st ⟨Nat.succ x.nx, t'⟩ = x.st.push (.cells [.int .u32 n] true) := by
                  simp only [X.st, St.push, h2]
                  rfl
                rw [this] at hk
                exact hk
              · cases hv
            · cases hv
          · cases hv
        · cases hv
      · cases hv
    · cases hv
  · cases hs
end Go.Proofs.YtfghmaheokgceaaGreatDoor
end

section
set_option linter.unusedSimpArgs false
set_option linter.unusedVariables false
set_option maxRecDepth 100000
namespace Go.Proofs.YtfghmaheokgceaaGreatDoor
open Go.Abs
def baseE : FuncId → Option XSpec := orE (tagE shaG 177 keyC ticketC tagV) (orE idxE appE)
theorem baseE_ok : ExtOk Tryz.prog baseE := orE_ok (tagE_ok (by kernel_rfl) (by kernel_rfl) (by decide) tag_good) (orE_ok idxE_ok appE_ok)
end Go.Proofs.YtfghmaheokgceaaGreatDoor
end
