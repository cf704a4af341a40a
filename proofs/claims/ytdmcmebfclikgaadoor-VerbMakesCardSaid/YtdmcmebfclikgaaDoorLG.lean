/- The chapter's examples; a message turned. -/
import Derived.Test.YtdmcmebfclikgaaDoorLF
import Derived.Test.YtdmcmebfclikgaaDoorRows
import Derived.WalkKit
import Derived.ProofKit
import Derived.OpenShut
import Derived.ShutString
import Derived.ChangeOld
import Derived.Below
import Derived.HandedShaped
import Derived.DataShut
import Derived.LaidMore
import Derived.LaidLaws
import Derived.LaidHandle
set_option linter.unusedSimpArgs false
set_option linter.unusedVariables false
set_option maxHeartbeats 4000000
set_option maxRecDepth 100000
namespace Go.Proofs.YtdmcmebfclikgaaDoor
open Go.Abs Go.IntWalk
attribute [local congr] bindV_weak condK_weak guardK_weak groupK_weak allocE_weak boxE_weak storeE_weak storeM_weak tabC_weak ite_weak idG_weak

def tabW2 : List (FuncId × Abs.Spec) := [(19, makeS), (11, encodeS), (15, decodeS)]
theorem tabW2_good : ∀ p ∈ tabW2, SpecGood Tryd.prog p := by simp [tabW2, makeS_good, encodeS_good, decodeS_good]
theorem enc17 : encZ 17 [2] [] [] = (0, [17, 2]) := by kernel_rfl
theorem dec1a : (decZ [1, 2, 7, 8]).1 = 0 := by kernel_rfl
theorem dec1b : (decZ [1, 2, 7, 8]).2.1 = 1 := by kernel_rfl
theorem dec1c : (decZ [1, 2, 7, 8]).2.2.S = [⟨#[7, 8]⟩] := by kernel_rfl
theorem own_lit {h : St} {b : Nat} {l : List Nat} (ho : h.objs b = some (.cells (l.map bc) true)) (hb : b < h.next) : SliceAt (· = b) h (.slice (some ⟨b, 0, some 1⟩) l.length 0) l.length 1 (rowC l) :=
  own_bytes (.inr ⟨b, rfl, rfl, hb, ho, by simp⟩)
def awakeS : Abs.Spec := fun args h k => args = [] ∧ Glob h ∧ ∀ h', Chg h h' [] → k (.bool true) h'
theorem awakeS_good : SpecGood Tryd.prog (14, awakeS) := by
  refine spec_good mixed Tryd.func14 (by kernel_rfl) (by kernel_rfl) tabW2_good (keep := tiltyardlaw04_awake_keep) ?_
  rintro args h k ⟨rfl, g, H⟩
  refine ⟨0, ?_⟩
  show tiltyardlaw04_awake (tabC tabW2) idG 0 h _
  generalize hK : (fun v h1 => ∃ h2, St.le h2 h1 ∧ k v h2 : Cont) = K
  have H : ∀ h', Chg h h' [] → K (.bool true) h' := by subst hK; exact fun h' c => ⟨_, St.le.refl _, H h' c⟩
  clear hK
  rw [tiltyardlaw04_awake_eq]
  simp [buildSliceE, fillL, repL]
  have c1 := Chg.push (h := h) (.cells [.int .u64 2] true) []
  refine .inl ⟨rfl, (· = h.next), 17, _, [2], rfl, by simp, .inr ⟨h.next, 0, some 1, 0, rfl, .inr rfl, fun _ => ⟨rfl, by simp, _, _, push_at _ _, fun i hi => ?_⟩⟩, fun h2 v2 c2 s2 => ?_⟩
  · have : i = 0 := by simpa using hi
    subst this
    rfl
  have cc2 : Chg h h2 [] := c1.of_chg c2 (by simp)
  refine .inr (.inl ⟨rfl, 17, v2, .slice none 0 0, .slice none 0 0, fun _ => .slice none 0 0, [2], [], [], rfl, g.chg cc2 (by simp), ⟨by simp, by simp, by simp⟩, ⟨s2.imp fun i a _ => a, .inl ⟨rfl, rfl⟩, .inl ⟨rfl, rfl⟩, fun i l hl => by simp at hl⟩, fun h3 v3 c3 o3 => ?_⟩)
  rw [enc17] at o3 ⊢
  have cc3 : Chg h h3 [] := cc2.of_chg c3 (by simp)
  have n2 := cc2.1
  have n3 := c3.1
  simp [buildSliceE, fillL, repL]
  have c4 : Chg h3 (h3.push (.cells [.int .u8 1, .int .u8 2, .int .u8 7, .int .u8 8] true)) [] := Chg.push _ _
  have cc4 : Chg h (h3.push (.cells [.int .u8 1, .int .u8 2, .int .u8 7, .int .u8 8] true)) [] := cc3.of_push
  have sb : SliceAt (· = h3.next) (h3.push (.cells [.int .u8 1, .int .u8 2, .int .u8 7, .int .u8 8] true)) (.slice (some ⟨h3.next, 0, some 1⟩) 4 0) 4 1 (rowC [1, 2, 7, 8]) := own_lit (l := [1, 2, 7, 8]) (push_at _ _) (by simp)
  refine .inr (.inr (.inl ⟨rfl, _, _, [1, 2, 7, 8], rfl, g.chg cc4 (by simp), by simp, by simp, sb, fun h5 vN vS vL lv c5 F => ?_⟩))
  rw [dec1a, dec1b]
  have n5 : h3.next + 1 ≤ h5.next := c5.1
  have s3 := own_bytes ((o3.chg c4 (by simp)).chg c5 (by simp))
  have cc5 : Chg h h5 [] := cc4.of_chg c5 (by simp)
  simp [F.1.one, F.2.1.one, F.2.2.1.one]
  obtain ⟨h6, hh6⟩ : ∃ z, z = (h5.push (.cells [.int .i64 0, .slice none 0 0, .slice none 0 0, .slice none 0 0] true)).set h5.next (.cells [.int .i64 1, vN, vS, vL] true) := ⟨_, rfl⟩
  have e6 : (h5.push (.cells [.int .i64 0, .slice none 0 0, .slice none 0 0, .slice none 0 0] true)).set h5.next (.cells (List.take 0 [Value.int .i64 0, .slice none 0 0, .slice none 0 0, .slice none 0 0] ++ (Value.agg #[.int .i64 1, vN, vS, vL]).cells.toList ++ List.drop (0 + 4) [Value.int .i64 0, .slice none 0 0, .slice none 0 0, .slice none 0 0]) true) = h6 := by rw [hh6]; rfl
  rw [e6]
  have c6 : Chg h5 h6 [] := by rw [hh6]; exact (Chg.push _ _).of_set (.inr (Nat.le_refl _))
  have o6 : h6.objs h5.next = some (.cells [.int .i64 1, vN, vS, vL] true) := by rw [hh6]; exact set_at _ _ _
  have n6 : h5.next < h6.next := by rw [hh6]; simp
  have s6 := s3.chg c6 (by simp)
  have t6 : textOf v3 h6 = some (.string (bytesText [17, 2])) := text_slice s6
  have c7 : Chg h6 (h6.push (.cells [.int .u8 17, .int .u8 2] true)) [] := Chg.push _ _
  have t7 : textOf (.slice (some ⟨h6.next, 0, some 1⟩) 2 0) (h6.push (.cells [.int .u8 17, .int .u8 2] true)) = some (.string (bytesText [17, 2])) := text_slice (own_lit (l := [17, 2]) (push_at _ _) (by simp))
  have o7 := c7.at n6 (by simp) o6
  have F7 := (F.chg c6 (by simp)).chg c7 (by simp)
  have sS := F7.2.1
  rw [dec1c] at sS
  have lS : lenS vS = some (.int .i64 1) := sS.len
  obtain ⟨bb, oo, k1, k2, k3, cs, own, k4, k5⟩ := sS.idx (i := 0) (by omega) (by simp) .i64
  have k6 := takeN_get k5 (j := 0) (by omega)
  simp only [rowT, Int.toNat_zero, List.getElem?_cons_zero, Option.getD_some, Nat.add_zero] at k6
  simp [groupK_eq, getT, t6, t7, buildSliceE, fillL, repL, text_eql, -binV_text, o7, lS, k1, k4, k6]
  exact H _ (cc5.of_chg c6 (by simp) |>.of_push)
/-! ### back, msg -/
def turnS : Abs.Spec := fun args h k => ∃ (x : Int) (a b c : Value), args = [.agg #[.int .i64 x, a, b, c]] ∧ a.cells = #[a] ∧ b.cells = #[b] ∧ c.cells = #[c] ∧ isUnk a = false ∧ isUnk b = false ∧ isUnk c = false ∧ Abs.one a = true ∧ Abs.one b = true ∧ Abs.one c = true ∧ ∀ h', Chg h h' [] → k (.agg #[.int .i64 x, a, b, c]) h'
theorem backS_good : SpecGood Tryd.prog (18, turnS) := by
  refine spec_good mixed Tryd.func18 (by kernel_rfl) (by kernel_rfl) (tab := []) (by simp) (keep := tiltyardlaw04_back_keep) ?_
  rintro args h k ⟨x, a, b, c, rfl, a1, b1, c1, a2, b2, c2, a3, b3, c3, H⟩
  refine ⟨0, ?_⟩
  show tiltyardlaw04_back (tabC []) idG 0 (.agg #[.int .i64 x, a, b, c]) h _
  rw [tiltyardlaw04_back_eq]
  have o1 : ((h.push (.cells [.int .i64 x, a, b, c] true)).push (.cells [.int .i64 0, .slice none 0 0, .slice none 0 0, .slice none 0 0] true)).objs h.next = some (.cells [.int .i64 x, a, b, c] true) := by rw [push_ne (by simp)]; exact push_at _ _
  simp [a3, b3, c3, o1, bvM3 a b c a1 b1 c1 a2 b2 c2, bvM4]
  exact ⟨_, St.le.refl _, H _ (((Chg.push _ _).of_push).of_set (.inr (by simp)))⟩
theorem msgS_good : SpecGood Tryd.prog (12, turnS) := by
  refine spec_good mixed Tryd.func12 (by kernel_rfl) (by kernel_rfl) (tab := []) (by simp) (keep := tiltyardlaw04_msg_keep) ?_
  rintro args h k ⟨x, a, b, c, rfl, a1, b1, c1, a2, b2, c2, a3, b3, c3, H⟩
  refine ⟨0, ?_⟩
  show tiltyardlaw04_msg (tabC []) idG 0 (.agg #[.int .i64 x, a, b, c]) h _
  rw [tiltyardlaw04_msg_eq]
  have o1 : ((h.push (.cells [.int .i64 x, a, b, c] true)).push (.cells [.int .i64 0, .slice none 0 0, .slice none 0 0, .slice none 0 0] true)).objs h.next = some (.cells [.int .i64 x, a, b, c] true) := by rw [push_ne (by simp)]; exact push_at _ _
  simp [a3, b3, c3, o1, bvM3 a b c a1 b1 c1 a2 b2 c2, bvM4]
  exact ⟨_, St.le.refl _, H _ (((Chg.push _ _).of_push).of_set (.inr (by simp)))⟩
end Go.Proofs.YtdmcmebfclikgaaDoor

/- What the tables say, plainly. -/
set_option linter.unusedSimpArgs false
set_option linter.unusedVariables false
set_option maxHeartbeats 4000000
set_option maxRecDepth 100000
namespace Go.Proofs.YtdmcmebfclikgaaDoor
open Go.Abs Go.IntWalk

def rowOk (x : Int) (s : ByteArray) : Bool :=
  match findZ x with
  | some r => decide (nameOf s = r.name) && decide (shapeOf s = r.shape) && isKind s && decide (s ≠ none0) && decide (0 ≤ leastZ (letters (shapeOf s)))
  | none => decide (s = none0)
theorem rows_ok2 : ((List.range 200).all fun i => rowOk i (knownZ i)) = true := by kernel_rfl
theorem kinds_lt : (rowsT.all fun r => decide (1 ≤ r.kind) && decide (r.kind < 200) && decide (r.name ≠ none0)) = true := by kernel_rfl
theorem rows_inj : (rowsT.all fun r => rowsT.all fun r' => !decide (r.name = r'.name) || decide (r.kind = r'.kind)) = true := by kernel_rfl
theorem findZ_mem {x : Int} {r : KRow} (h : findZ x = some r) : r ∈ rowsT ∧ r.kind = x := by
  unfold findZ at h
  exact ⟨List.mem_of_find?_eq_some h, by simpa using List.find?_some h⟩
theorem row_lt {r : KRow} (h : r ∈ rowsT) : 1 ≤ r.kind ∧ r.kind < 200 ∧ r.name ≠ none0 := by
  have := List.all_eq_true.1 kinds_lt r h
  simpa [and_assoc] using this
theorem row_of (x : Int) : rowOk x (knownZ x) = true := by
  by_cases hx : 0 ≤ x ∧ x < 200
  · have := List.all_eq_true.1 rows_ok2 x.toNat (by simp; omega)
    have e : ((x.toNat : Nat) : Int) = x := by omega
    rw [e] at this
    exact this
  · have hk : knownZ x = none0 := by
      unfold knownZ
      rw [if_neg (by omega), if_neg (by omega), if_neg (by omega), if_neg (by omega), if_neg (by omega)]
    have hf : findZ x = none := by
      cases h : findZ x with
      | none => rfl
      | some r =>
        obtain ⟨h1, h2⟩ := findZ_mem h
        have := row_lt h1
        omega
    unfold rowOk
    rw [hf, hk]
    decide
theorem some_of {x : Int} {r : KRow} (h : findZ x = some r) : nameOf (knownZ x) = r.name ∧ shapeOf (knownZ x) = r.shape ∧ isKind (knownZ x) = true ∧ knownZ x ≠ none0 ∧ 0 ≤ leastZ (letters (shapeOf (knownZ x))) := by
  have := row_of x
  unfold rowOk at this
  rw [h] at this
  simpa [and_assoc] using this
theorem none_of {x : Int} (h : findZ x = none) : knownZ x = none0 := by
  have := row_of x
  unfold rowOk at this
  rw [h] at this
  simpa using this
theorem name0 : nameOf none0 = none0 := by decide
theorem shape0 : shapeOf none0 = none0 := by decide
theorem kind0 : isKind none0 = false := by decide
theorem mem_find {r : KRow} (h : r ∈ rowsT) : ∃ r', findZ r.kind = some r' ∧ r'.kind = r.kind := by
  cases hf : findZ r.kind with
  | none =>
    unfold findZ at hf
    have := List.find?_eq_none.1 hf r h
    simp at this
  | some r' => exact ⟨r', rfl, (findZ_mem hf).2⟩
theorem find_kinds : (rowsT.all fun r => match findZ r.kind with | some r' => decide (r'.name = r.name) && decide (r'.shape = r.shape) | none => false) = true := by kernel_rfl
theorem findName_mem {n : ByteArray} {r : KRow} (h : findName n = some r) : r ∈ rowsT ∧ r.name = n := by
  unfold findName at h
  exact ⟨List.mem_of_find?_eq_some h, by simpa using List.find?_some h⟩
theorem name_kind {r : KRow} (h : r ∈ rowsT) : nameOf (knownZ r.kind) = r.name := by
  have := List.all_eq_true.1 find_kinds r h
  obtain ⟨r', h1, _⟩ := mem_find h
  rw [h1] at this
  simp at this
  rw [(some_of h1).1, this.1]
/-- Of whom a name that is not empty is. -/
theorem kind_of_name {x : Int} {n : ByteArray} (hn : n ≠ none0) (h : nameOf (knownZ x) = n) : ∃ r, findName n = some r ∧ r.kind = x := by
  cases hf : findZ x with
  | none => rw [none_of hf, name0] at h; exact absurd h.symm hn
  | some r =>
    obtain ⟨h1, h2⟩ := findZ_mem hf
    have hr : r.name = n := by rw [← (some_of hf).1]; exact h
    cases hg : findName n with
    | none =>
      unfold findName at hg
      have := List.find?_eq_none.1 hg r h1
      simp [hr] at this
    | some r' =>
      obtain ⟨g1, g2⟩ := findName_mem hg
      refine ⟨r', rfl, ?_⟩
      have := List.all_eq_true.1 (List.all_eq_true.1 rows_inj r' g1) r h1
      simp [g2, hr] at this
      omega
theorem kindL_none {n : ByteArray} (h : n = none0 ∨ findName n = none) : ∀ d i, kindL n d i = (0, false)
  | 0, _ => rfl
  | d + 1, i => by
    rw [kindL, if_neg, kindL_none h d (i + 1)]
    rintro ⟨h1, h2⟩
    rcases h with h | h
    · exact h1 h
    · obtain ⟨r, hr, _⟩ := kind_of_name h1 h2
      rw [h] at hr; cases hr
theorem kindL_some {n : ByteArray} {r : KRow} (hn : n ≠ none0) (h : findName n = some r) : ∀ (d i : Nat), (i : Int) ≤ r.kind → r.kind < (i : Int) + (d : Int) → kindL n d i = (r.kind, true)
  | 0, i, h1, h2 => by omega
  | d + 1, i, h1, h2 => by
    obtain ⟨g1, g2⟩ := findName_mem h
    rw [kindL]
    by_cases e : (i : Int) = r.kind
    · rw [if_pos ⟨hn, by rw [e, name_kind g1, g2]⟩, e]
    · rw [if_neg]
      · exact kindL_some hn h d (i + 1) (by omega) (by omega)
      · rintro ⟨_, h3⟩
        obtain ⟨r', hr', e'⟩ := kind_of_name hn h3
        rw [h] at hr'
        cases hr'
        exact e e'.symm
theorem findName_none0 : findName none0 = none := by
  cases h : findName none0 with
  | none => rfl
  | some r => exact absurd (findName_mem h).2 (row_lt (findName_mem h).1).2.2
theorem kind_named (n : ByteArray) : kindL n 256 0 = namedZ n := by
  unfold namedZ
  cases h : findName n with
  | none => exact kindL_none (.inr h) _ _
  | some r =>
    have hn : n ≠ none0 := by intro e; rw [e, findName_none0] at h; cases h
    have := row_lt (findName_mem h).1
    exact kindL_some hn h 256 0 (by simp; omega) (by simp; omega)
theorem side_ref (x : Int) : sideZ x = refSideZ x := by
  unfold sideZ refSideZ
  cases h : findZ x with
  | none => rw [none_of h, if_pos rfl]; rfl
  | some r =>
    have h1 := (some_of h).2.2.2.1
    obtain ⟨hm, hk⟩ := findZ_mem h
    have gaps := List.all_eq_true.1 (show (rowsT.all fun r => decide (r.kind ≤ 27 ∨ 64 ≤ r.kind) && decide (r.kind ≤ 111 ∨ 160 ≤ r.kind) && decide (r.kind ≤ 165 ∨ 192 ≤ r.kind)) = true by kernel_rfl) r hm
    simp at gaps
    have e : (rowRes (some r)).2 = true := rfl
    rw [if_neg h1, e]
    simp only [Bool.true_eq_false, if_false]
    repeat' split
    all_goals omega
theorem res_name (x : Int) : (rowRes (findZ x)).1.name = nameOf (knownZ x) ∧ (rowRes (findZ x)).1.shape = shapeOf (knownZ x) ∧ (rowRes (findZ x)).2 = isKind (knownZ x) := by
  cases h : findZ x with
  | none => rw [none_of h]; exact ⟨name0.symm, shape0.symm, kind0.symm⟩
  | some r => obtain ⟨h1, h2, h3, _⟩ := some_of h; exact ⟨h1.symm, h2.symm, h3.symm⟩
end Go.Proofs.YtdmcmebfclikgaaDoor

/- 'VerbKinds', 'VerbNames': what they answer. -/
set_option linter.unusedSimpArgs false
set_option linter.unusedVariables false
set_option maxHeartbeats 4000000
set_option maxRecDepth 100000
namespace Go.Proofs.YtdmcmebfclikgaaDoor
open Go.Abs Go.IntWalk
attribute [local congr] bindV_weak condK_weak guardK_weak groupK_weak allocE_weak boxE_weak storeE_weak storeM_weak tabC_weak ite_weak idG_weak

def tabK : List (FuncId × Abs.Spec) := [(26, findS), (24, shapeS), (23, kindS), (27, namedS), (22, nameS), (28, sideS), (29, refSideS), (14, awakeS)]
theorem tabK_good : ∀ p ∈ tabK, SpecGood Tryd.prog p := by simp [tabK, findS_good, shapeS_good, kindS_good, namedS_good, nameS_good, sideS_good, refSideS_good, awakeS_good]
def kindsLawS : Abs.Spec := fun args h k => ∃ (x : Int) (n : ByteArray), args = [.int .i64 x, .string n] ∧ Glob h ∧ ∀ h', k (.bool true) h'
theorem kindsLawS_good : SpecGood Tryd.prog (9, kindsLawS) := by
  refine spec_good mixed Tryd.func9 (by kernel_rfl) (by kernel_rfl) tabK_good (keep := tiltyardlaw04_VerbKinds_keep) ?_
  rintro args h k ⟨x, n, rfl, g, H⟩
  refine ⟨0, ?_⟩
  show tiltyardlaw04_VerbKinds (tabC tabK) idG 0 (.int .i64 x) (.string n) h _
  generalize hK : (fun v h1 => ∃ h2, St.le h2 h1 ∧ k v h2 : Cont) = K
  have H : ∀ h', K (.bool true) h' := by subst hK; exact fun h' => ⟨_, St.le.refl _, H h'⟩
  clear hK
  rw [tiltyardlaw04_VerbKinds_eq]
  by_cases c' : (100 : Int) < n.size
  · simp [c']
    exact H h
  simp [c']
  refine .inl ⟨rfl, x, rfl, fun h1 c1 => ?_⟩
  obtain ⟨e1, e2, e3⟩ := res_name x
  rw [e1, e2, e3]
  simp
  obtain ⟨h2, hh2⟩ : ∃ z, z = (h1.push (.cells [.int .i64 0, .string ByteArray.empty, .string ByteArray.empty] true)).set h1.next (.cells [.int .i64 (rowRes (findZ x)).1.kind, .string (nameOf (knownZ x)), .string (shapeOf (knownZ x))] true) := ⟨_, rfl⟩
  rw [← hh2]
  have c2 : Chg h1 h2 [] := by rw [hh2]; exact (Chg.push _ _).of_set (.inr (Nat.le_refl _))
  have o2 : h2.objs h1.next = some (.cells [.int .i64 (rowRes (findZ x)).1.kind, .string (nameOf (knownZ x)), .string (shapeOf (knownZ x))] true) := by rw [hh2]; exact set_at _ _ _
  have n2 : h1.next < h2.next := by rw [hh2]; simp
  have g2 := (g.chg c1 (by simp)).chg c2 (by simp)
  refine .inr (.inl ⟨rfl, x, rfl, g2, ?_⟩)
  simp
  refine .inr (.inr (.inl ⟨rfl, n, rfl, g2, ?_⟩))
  simp
  refine .inr (.inr (.inr (.inl ⟨rfl, n, rfl, fun h3 c3 => ?_⟩)))
  simp
  have g3 := g2.chg c3 (by simp)
  have o3 := c3.at n2 (by simp) o2
  refine .inr (.inr (.inr (.inr (.inl ⟨rfl, x, rfl, g3, ?_⟩))))
  simp [o3, groupK_eq, getT, text_eql, -binV_text]
  refine .inr (.inr (.inr (.inr (.inr (.inl ⟨rfl, x, rfl, g3, ?_⟩)))))
  refine ⟨⟨trivial, trivial, trivial⟩, ?_⟩
  refine .inr (.inr (.inr (.inr (.inr (.inr (.inl ⟨rfl, x, rfl, fun h4 c4 => ?_⟩))))))
  have g4 := g3.chg c4 (by simp)
  simp [side_ref, kind_named, getT, groupK_eq]
  refine .inr (.inr (.inr (.inr (.inr (.inr (.inr (.inl ⟨rfl, rfl, g4, fun h5 c5 => ?_⟩)))))))
  simp [getT]
  exact H h5
def tabV : List (FuncId × Abs.Spec) := [(22, nameS), (23, kindS), (24, shapeS), (25, rightS), (14, awakeS)]
theorem rightS_good : SpecGood Tryd.prog (25, rightS) := ⟨rightS_ok, rightS_live⟩
theorem tabV_good : ∀ p ∈ tabV, SpecGood Tryd.prog p := by simp [tabV, nameS_good, kindS_good, shapeS_good, rightS_good, awakeS_good]
theorem right0 : 0 ≤ leastZ (letters none0) := by decide
theorem shape_right (x : Int) : 0 ≤ leastZ (letters (shapeOf (knownZ x))) := by
  cases h : findZ x with
  | none => rw [none_of h, shape0]; exact right0
  | some r => exact (some_of h).2.2.2.2
theorem name_nonempty (x : Int) : (nameOf (knownZ x) ≠ none0) ↔ isKind (knownZ x) = true := by
  cases h : findZ x with
  | none => rw [none_of h, name0, kind0]; simp
  | some r =>
    obtain ⟨h1, _, h3, _⟩ := some_of h
    rw [h1, h3]
    simp [(row_lt (findZ_mem h).1).2.2]
theorem kind_self {x : Int} (hx : nameOf (knownZ x) ≠ none0) : kindL (nameOf (knownZ x)) 256 0 = (x, true) := by
  rw [kind_named]
  obtain ⟨r, h1, h2⟩ := kind_of_name hx rfl
  unfold namedZ
  rw [h1, ← h2]
def namesLawS : Abs.Spec := fun args h k => ∃ (a b : Nat), args = [.int .u8 a, .int .u8 b] ∧ a < 256 ∧ b < 256 ∧ Glob h ∧ ∀ h', k (.bool true) h'
theorem namesLawS_good : SpecGood Tryd.prog (8, namesLawS) := by
  refine spec_good mixed Tryd.func8 (by kernel_rfl) (by kernel_rfl) tabV_good (keep := tiltyardlaw04_VerbNames_keep) ?_
  rintro args h k ⟨a, b, rfl, ha, hb, g, H⟩
  refine ⟨0, ?_⟩
  show tiltyardlaw04_VerbNames (tabC tabV) idG 0 (.int .u8 a) (.int .u8 b) h _
  generalize hK : (fun v h1 => ∃ h2, St.le h2 h1 ∧ k v h2 : Cont) = K
  have H : ∀ h', K (.bool true) h' := by subst hK; exact fun h' => ⟨_, St.le.refl _, H h'⟩
  clear hK
  rw [tiltyardlaw04_VerbNames_eq]
  have wa : IntKind.i64.wrap (a : Int) = a := i64_in _ (by omega)
  have wb : IntKind.i64.wrap (b : Int) = b := i64_in _ (by omega)
  have e0 : (⟨#[]⟩ : ByteArray) = none0 := rfl
  have tne : ∀ (p q : ByteArray), binNil .neq .other (.string p) (.string q) = some (.bool (!decide (p = q))) := fun p q => by rw [binNil_string, text_neq]
  simp only [wrapV_int, wa, bindV_some]
  refine .inl ⟨rfl, (a : Int), rfl, g, ?_⟩
  simp only [wb, bindV_some]
  refine .inl ⟨rfl, (b : Int), rfl, g, ?_⟩
  have size : (shapeOf (knownZ (a : Int))).size < 9223372036854775808 := by have := shape_size (a : Int); omega
  have hk := name_nonempty (a : Int)
  by_cases c : nameOf (knownZ (a : Int)) = none0
  · have hk' : isKind (knownZ (a : Int)) = false := by
      cases hb : isKind (knownZ (a : Int)) with
      | false => rfl
      | true => exact absurd c (hk.2 hb)
    simp only [e0, tne, bindV_some, c, decide_true, Bool.not_true, groupK_eq, guardK_bool, Bool.false_eq_true, if_false, getT, pickV_bool, condK_bool, idG_eq]
    refine .inr (.inl ⟨rfl, none0, rfl, g, ?_⟩)
    rw [kindL_none (.inl rfl)]
    simp only [extV_two0, extV_two1, bindV_some, wrapV_int, wa]
    refine .inr (.inr (.inl ⟨rfl, (a : Int), rfl, g, ?_⟩))
    simp [hk', tne, groupK_eq, getT, guardK_undef]
    refine .inr (.inr (.inr (.inl ⟨rfl, _, rfl, size, ?_⟩)))
    simp [shape_right, getT]
    refine .inr (.inr (.inr (.inr (.inl ⟨rfl, rfl, g, fun h5 c5 => ?_⟩))))
    simp [getT]
    exact H h5
  · have hk' := hk.1 c
    have eqab : decide (nameOf (knownZ (a : Int)) = nameOf (knownZ (b : Int))) = decide ((a : Int) = (b : Int)) := by
      by_cases e : (a : Int) = b
      · rw [e]; simp
      · have : ¬ nameOf (knownZ (a : Int)) = nameOf (knownZ (b : Int)) := by
          intro h
          have h1 := kind_self c
          have h2 := kind_self (x := (b : Int)) (by rw [← h]; exact c)
          rw [h, h2] at h1
          exact e (Prod.mk.inj h1).1.symm
        simp [e, this]
    simp only [e0, tne, bindV_some, c, decide_false, Bool.not_false, groupK_eq, guardK_bool, if_true, text_eql, binV_eql, binV_bool_neq, eqab, beq_self_eq_true, Bool.not_true, getT, pickV_bool, condK_bool, Bool.false_eq_true, if_false, idG_eq]
    refine .inr (.inl ⟨rfl, _, rfl, g, ?_⟩)
    rw [kind_self c]
    simp only [extV_two0, extV_two1, bindV_some, wrapV_int, wa]
    refine .inr (.inr (.inl ⟨rfl, (a : Int), rfl, g, ?_⟩))
    simp [hk', tne, c, groupK_eq, getT, guardK_undef, wa]
    refine .inr (.inr (.inr (.inl ⟨rfl, _, rfl, size, ?_⟩)))
    simp [shape_right, getT]
    refine .inr (.inr (.inr (.inr (.inl ⟨rfl, rfl, g, fun h5 c5 => ?_⟩))))
    simp [getT]
    exact H h5
end Go.Proofs.YtdmcmebfclikgaaDoor

/- The tables, as they were laid: what a call may lean on; the rows' common part. -/
set_option linter.unusedSimpArgs false
set_option linter.unusedVariables false
set_option maxHeartbeats 4000000
set_option maxRecDepth 100000
namespace Go.Proofs.YtdmcmebfclikgaaDoor
open Go.ChangeShapes Go.WideShapes Go.ChangeAt Go.RowKit

theorem own : ownKnob Tryd.prog.godebug = none := by kernel_rfl
theorem laidOut : laidOutB Tryd.prog = true := by kernel_rfl
/-- An array of texts, off its datum. -/
theorem arr_texts {H : Type} {enc : TypeId × Value → H} {P : Program} {w : World} {base : Nat} {spare : Nat → Bool} {held : Bool} {n fuel : Nat} {t e : TypeId} {cs : List Value} {l : List ByteArray} {ps : List MemPlace} (ht : P.underlying t = some (.array n e)) (hct : P.cellsOf t = n) (hc : P.cellsOf e = 1) (he : P.underlying e = some .string)
    (h : DataW.trod enc P w base spare held fuel t cs = some (.agg (l.map fun s => .lit (.string s.data.toList)), ps)) : cs = strs l := by
  obtain ⟨xs, m, rfl, hx, hlen, hl, hf⟩ := DataW.trod_array ht h
  simp only [Prod.mk.injEq, DataW.agg.injEq] at hx
  have hll : l.length = n := by
    have := congrArg List.length hx.1
    simp at this
    omega
  apply List.ext_getElem?
  intro i
  by_cases hi : i < n
  · have g := hf i hi
    rw [hc, Nat.mul_one] at g
    have hxi : xs[i]? = some xs[i] := List.getElem?_eq_getElem (by omega)
    rw [hxi] at g
    obtain ⟨s, e1, e2, _⟩ := DataW.trod_string he g
    have h1 : cs[i]? = some (.string s) := by
      have : ((cs.drop i).take 1)[0]? = some (.string s) := by rw [e1]; rfl
      simpa [List.getElem?_take] using this
    have h2 := congrArg (fun z => z[i]?) hx.1
    simp only [List.getElem?_map, hxi, Option.map_some, e2] at h2
    rw [List.getElem?_eq_getElem (by omega : i < l.length)] at h2
    simp at h2
    have h3 : l[i] = s := by
      have : l[i].data = s.data := h2
      cases hs : s; cases hq : l[i]; rw [hs, hq] at this; simp at this; rw [this]
    rw [h1]
    simp [strs, List.getElem?_eq_getElem (by omega : i < l.length), h3]
  · rw [List.getElem?_eq_none (by omega), List.getElem?_eq_none (by simp [strs]; omega)]
theorem san_strs (B : Nat) (l : List ByteArray) : (strs l).map (Abs.san B) = strs l := by
  simp only [strs, List.map_map]
  apply List.map_congr_left
  intro s _
  rfl
/-- A variable that was laid, in the heap that a walk starts in. -/
theorem obj_laid {P : Program} {W : World} {n : String} {g : Nat} {cs : Array Value} {l : List ByteArray} (hg : P.globalNamed n = some g) (hv : W.var? P n = some cs) (hc : cs.toList = strs l) : g < W.heap.size ∧ (Abs.st0 W).objs g = some (.cells (strs l) false) := by
  simp only [World.var?, hg, Option.bind_some] at hv
  cases hh : W.heap[g]? with
  | none => rw [hh] at hv; cases hv
  | some o =>
    rw [hh] at hv
    cases o with
    | cells a t f =>
      simp only [Option.some.injEq] at hv
      subst hv
      refine ⟨(Array.getElem?_eq_some_iff.1 hh).1, ?_⟩
      simp only [Abs.st0, hh, hc, san_strs]
    | _ => cases hv
def laidL : List (String × DataW Unit) := Rows.verbKindsRow.laid
theorem glob_of_laid {W : World} (h : laidMetH Tryd.prog laidL W) : Glob (Abs.st0 W) := by
  rw [MakeChecks.laidMetH_plain _ _ _ (by kernel_rfl)] at h
  obtain ⟨ps, ⟨g0, t0, cs0, f0, p0, q0, hg0, ht0, hv0, hd0, ⟨g1, t1, cs1, f1, p1, q1, hg1, ht1, hv1, hd1, ⟨g2, t2, cs2, f2, p2, q2, hg2, ht2, hv2, hd2, ⟨g3, t3, cs3, f3, p3, q3, hg3, ht3, hv3, hd3, ⟨g4, t4, cs4, f4, p4, q4, hg4, ht4, hv4, hd4, _⟩, _⟩, _⟩, _⟩, _⟩, _⟩ := h
  obtain rfl := Option.some.inj (hg0.symm.trans (by kernel_rfl : Tryd.prog.globalNamed _ = some 0))
  obtain rfl := Option.some.inj (hg1.symm.trans (by kernel_rfl : Tryd.prog.globalNamed _ = some 1))
  obtain rfl := Option.some.inj (hg2.symm.trans (by kernel_rfl : Tryd.prog.globalNamed _ = some 2))
  obtain rfl := Option.some.inj (hg3.symm.trans (by kernel_rfl : Tryd.prog.globalNamed _ = some 3))
  obtain rfl := Option.some.inj (hg4.symm.trans (by kernel_rfl : Tryd.prog.globalNamed _ = some 4))
  obtain rfl := Option.some.inj (ht0.symm.trans (by kernel_rfl : _ = some 104))
  have e0 : cs0.toList = strs requestsT := arr_texts (n := 27) (t := 104) (e := 9) (ps := p0) (by kernel_rfl) (by kernel_rfl) (by kernel_rfl) (by kernel_rfl) (hd0.trans (by kernel_rfl))
  obtain rfl := Option.some.inj (ht1.symm.trans (by kernel_rfl : _ = some 105))
  have e1 : cs1.toList = strs repliesT := arr_texts (n := 11) (t := 105) (e := 9) (ps := p1) (by kernel_rfl) (by kernel_rfl) (by kernel_rfl) (by kernel_rfl) (hd1.trans (by kernel_rfl))
  obtain rfl := Option.some.inj (ht2.symm.trans (by kernel_rfl : _ = some 106))
  have e2 : cs2.toList = strs eventsT := arr_texts (n := 16) (t := 106) (e := 9) (ps := p2) (by kernel_rfl) (by kernel_rfl) (by kernel_rfl) (by kernel_rfl) (hd2.trans (by kernel_rfl))
  obtain rfl := Option.some.inj (ht3.symm.trans (by kernel_rfl : _ = some 107))
  have e3 : cs3.toList = strs ordersT := arr_texts (n := 6) (t := 107) (e := 9) (ps := p3) (by kernel_rfl) (by kernel_rfl) (by kernel_rfl) (by kernel_rfl) (hd3.trans (by kernel_rfl))
  obtain rfl := Option.some.inj (ht4.symm.trans (by kernel_rfl : _ = some 108))
  have e4 : cs4.toList = strs reportsT := arr_texts (n := 7) (t := 108) (e := 9) (ps := p4) (by kernel_rfl) (by kernel_rfl) (by kernel_rfl) (by kernel_rfl) (hd4.trans (by kernel_rfl))
  obtain ⟨lt0, ob0⟩ := obj_laid hg0 hv0 e0
  obtain ⟨lt1, ob1⟩ := obj_laid hg1 hv1 e1
  obtain ⟨lt2, ob2⟩ := obj_laid hg2 hv2 e2
  obtain ⟨lt3, ob3⟩ := obj_laid hg3 hv3 e3
  obtain ⟨lt4, ob4⟩ := obj_laid hg4 hv4 e4
  exact ⟨lt4, ⟨_, ob0⟩, ⟨_, ob1⟩, ⟨_, ob2⟩, ⟨_, ob3⟩, ⟨_, ob4⟩⟩
/-- The row's wrapping, where it says what was laid: the contract is handed the heap's shape too. -/
theorem handed_laid {H : Type} {enc : TypeId × Value → H} {a : Assume} {C : Checked} {os : Os} {f : FuncId} {fn : Func} {s : ChangeSpec} {conds : List PathCond} {apart fresh handsOn again : Bool} {X : World → Array Value → Prop}
    (hX : ∀ (w w' : World) (args : Array Value), w.heap = w'.heap → X w args → X w' args)
    (own : ownKnob C.prog.godebug = none) (started : os.Started) (noInit : C.prog.inits.idxOf? f = none) (hfn : C.prog.funcs[f]? = some fn)
    (witness : ∃ (w : World) (tape : Tape) (i : Input), w.os = os ∧ (w.forCall tape i).Shaped C.prog ∧ i.vars = [] ∧ Input.okWide C.prog (w.forCall tape i) .any w.heap.size f i ∧
      ((s.pre enc C.prog fn conds apart (w.forCall tape i).memory i.args ∧ X (w.forCall tape i).memory i.args) ∧ sizedMet enc C.prog fn (OpenSpec.ofChange s) apart (w.forCall tape i).memory i.args) ∧ a.holds C.prog (lone (Frame.enter C.prog f i.args .normal) [] (w.forCall tape i)))
    (contract : ∀ (W : World) (base : Nat) (args : Array Value) (ds gs : List (DataW H)) (before : List MemPlace),
      (∀ (j : Nat) t v, fn.params[j]? = some t → args[j]? = some v → Value.okWide C.prog W .any base t v) →
      DataW.Whole enc C.prog fn.params.toList s.vars apart W args.toList ds gs before →
      W.ShapedOpen C.prog → X W args →
      Calls C.prog f args W fun e W' => ∃ v, e = .returned v ∧ s.post enc C.prog fn apart fresh handsOn again W args v W') :
    ReturnsInHanded a C os f .any (fun w args => (s.pre enc C.prog fn conds apart w args ∧ X w args) ∧ sizedMet enc C.prog fn (OpenSpec.ofChange s) apart w args) (s.post enc C.prog fn apart fresh handsOn again) := by
  refine returnsInHanded_of_calls own started noInit witness ?_
  intro w tape i _ hsh _ hok hpre hholds
  obtain ⟨_, _, _, fn', hfn', _, _, _, _, hval⟩ := hok
  have e : fn' = fn := Option.some.inj (hfn'.symm.trans hfn)
  subst e
  obtain ⟨⟨⟨ds, gs, before, hw, hc⟩, hx⟩, hz⟩ := hpre
  have hw' := DataW.Whole.of_heap (w' := w.forCall tape i) (by rfl) hw
  refine (contract (w.forCall tape i) w.heap.size i.args ds gs before hval hw' hsh (hX _ _ _ (by rfl) hx)).mono fun e W' ⟨v, he, hp⟩ => ?_
  subst he
  exact ChangeSpec.post_blind hp
/-- The door's own heap meets the condition. -/
theorem door_met (os : Os) (args : Array Value) : laidMetH Tryd.prog laidL ((World.doorLaid Tryd.prog 400 os).forCall (fun _ _ => 0) ⟨#[], args, []⟩).memory :=
  laidMetH_of_parts3 (fuel := 8) (laidMet_of_run' 8 (by kernel_rfl) (by kernel_rfl)) (by kernel_rfl) (by kernel_rfl)
end Go.Proofs.YtdmcmebfclikgaaDoor
