/- The document's Decode; messages that are alike. -/
import Derived.Test.YtdmcmebfclikgaaDoorLG
set_option linter.unusedSimpArgs false
set_option linter.unusedVariables false
set_option maxHeartbeats 4000000
set_option maxRecDepth 100000
namespace Go.Proofs.YtdmcmebfclikgaaDoor
open Go.Abs Go.IntWalk
/- (As AbsKit's '.._weak': there the last hypothesis is decided by a simproc that the library shuts.) -/
theorem bindV_w {dd : Prop} {o o' : Option Value} {k : Value → Prop} (e : o = o') (_t : ((0 : Nat) = 0) = dd) : bindV o k = bindV o' k := by rw [e]
theorem condK_w {dd : Prop} {v v' : Value} {y n : Prop} (e : v = v') (_t : ((0 : Nat) = 0) = dd) : condK v y n = condK v' y n := by rw [e]
theorem guardK_w {dd : Prop} {v v' : Value} {w : Bool} {y n : Prop} (e : v = v') (_t : ((0 : Nat) = 0) = dd) : guardK v w y n = guardK v' w y n := by rw [e]
theorem groupK_w {dd : Prop} {v v' : Value} {w : Bool} {l l' : List Value} {h : St} {body : (List Value → St → Prop) → Prop} {J : List Value → St → Prop} (e : v = v') (el : l = l') (_t : ((0 : Nat) = 0) = dd) : groupK v w l h body J = groupK v' w l' h body J := by rw [e, el]
theorem allocE_w {dd : Prop} {o o' : Option (List Value)} {h h' : St} {k : Cont} (e : o = o') (eh : h = h') (_t : ((0 : Nat) = 0) = dd) : allocE o h k = allocE o' h' k := by rw [e, eh]
theorem boxE_w {dd : Prop} {o o' : Value} {h h' : St} {k : Cont} (e : o = o') (eh : h = h') (_t : ((0 : Nat) = 0) = dd) : boxE o h k = boxE o' h' k := by rw [e, eh]
theorem storeE_w {dd : Prop} {n : Nat} {p p' v v' : Value} {h h' : St} {k : Cont} (e : p = p') (ev : v = v') (eh : h = h') (_t : ((0 : Nat) = 0) = dd) : storeE n p v h k = storeE n p' v' h' k := by rw [e, ev, eh]
theorem storeM_w {dd : Prop} {n i off : Nat} {v v' : Value} {h h' : St} {k : Cont} {o o' : Option AObj} (ev : v = v') (eh : h = h') (eo : o = o') (_t : ((0 : Nat) = 0) = dd) : storeM n i off v h k o = storeM n i off v' h' k o' := by rw [ev, eh, eo]
theorem tabC_w {dd : Prop} {tab : List (FuncId × Abs.Spec)} {f : FuncId} {args args' : List Value} {h h' : St} {k : Cont} (e : args = args') (eh : h = h') (_t : ((0 : Nat) = 0) = dd) : tabC tab f args h k = tabC tab f args' h' k := by rw [e, eh]
theorem ite_w {dd : Prop} {c c' : Prop} [Decidable c] [Decidable c'] {y n : Prop} (e : c = c') (_t : ((0 : Nat) = 0) = dd) : (if c then y else n) = (if c' then y else n) := by subst e; congr
theorem idG_w {dd : Prop} {p p' : Prop} (e : p = p') (_t : ((0 : Nat) = 0) = dd) : idG p = idG p' := by rw [e]
attribute [local congr] bindV_w condK_w guardK_w groupK_w allocE_w boxE_w storeE_w storeM_w tabC_w ite_w idG_w

/-- What is stored into a block that is new. -/
theorem storeE_new {n : Nat} {z vs : List Value} {v : Value} {h : St} {k : Cont} (hv : v.cells.toList = vs) (hn : vs.length = n) (hz : z.length = n) (h1 : allOne vs = true) (H : k undef ((h.push (.cells z true)).set h.next (.cells vs true))) : storeE n (.pointer (some ⟨h.next, 0, none⟩)) v (h.push (.cells z true)) k := by
  subst hv
  rw [storeE_ptr, push_at, storeM_cells]
  refine ⟨⟨by simpa using hn, by omega, h1⟩, ?_⟩
  rw [List.take_zero, List.nil_append, List.drop_eq_nil_of_le (by omega), List.append_nil]
  exact H
/-- What is stored over all of a block. -/
theorem storeE_over {n i : Nat} {z vs : List Value} {v : Value} {h : St} {k : Cont} (ho : h.objs i = some (.cells z true)) (hv : v.cells.toList = vs) (hn : vs.length = n) (hz : z.length = n) (h1 : allOne vs = true) (H : k undef (h.set i (.cells vs true))) : storeE n (.pointer (some ⟨i, 0, none⟩)) v h k := by
  subst hv
  rw [storeE_ptr, ho, storeM_cells]
  refine ⟨⟨by simpa using hn, by omega, h1⟩, ?_⟩
  rw [List.take_zero, List.nil_append, List.drop_eq_nil_of_le (by omega), List.append_nil]
  exact H
def tabH : List (FuncId × Abs.Spec) := [(26, findS), (34, readS)]
theorem tabH_good : ∀ p ∈ tabH, SpecGood Tryd.prog p := by simp [tabH, findS_good, refReadS_good]
def refDecodeS : Abs.Spec := fun args h k => ∃ (V : Nat → Prop) (v : Value) (b : List Nat), args = [v] ∧ b.length ≤ 100000 ∧ (∀ x ∈ b, x < 256) ∧ SliceAt V h v b.length 1 (rowC b) ∧
  ∀ h' vN vS vL lv, Chg h h' [] → FieldsAt (h.next ≤ ·) h' vN vS vL lv (decZ b).2.2.N (decZ b).2.2.S (decZ b).2.2.L → k (.tuple #[.agg #[.int .i64 (decZ b).2.1, vN, vS, vL], .int .i64 (decZ b).1]) h'
theorem refDecodeS_good : SpecGood Tryd.prog (16, refDecodeS) := by
  refine spec_good mixed Tryd.func16 (by kernel_rfl) (by kernel_rfl) tabH_good (keep := tiltyardref04_Decode_keep) ?_
  rintro args h k ⟨V, v, b, rfl, hb, hx, s, H⟩
  refine ⟨0, ?_⟩
  show tiltyardref04_Decode (tabC tabH) idG 0 v h _
  generalize hK : (fun v h1 => ∃ h2, St.le h2 h1 ∧ k v h2 : Cont) = K
  have H : ∀ h' vN vS vL lv, Chg h h' [] → FieldsAt (h.next ≤ ·) h' vN vS vL lv (decZ b).2.2.N (decZ b).2.2.S (decZ b).2.2.L → K (.tuple #[.agg #[.int .i64 (decZ b).2.1, vN, vS, vL], .int .i64 (decZ b).1]) h' := by subst hK; exact fun h' vN vS vL lv c s => ⟨_, St.le.refl _, H h' vN vS vL lv c s⟩
  clear hK
  rw [tiltyardref04_Decode_eq]
  simp only [allocE_some]
  obtain ⟨h1, hh1⟩ : ∃ z, z = h.push (.cells [.int .i64 0, .slice none 0 0, .slice none 0 0, .slice none 0 0] true) := ⟨_, rfl⟩
  rw [← hh1]
  have c1 : Chg h h1 [] := by rw [hh1]; exact Chg.push _ _
  have n1 : h1.next = h.next + 1 := by rw [hh1]; rfl
  have o1 : h1.objs h.next = some (.cells [.int .i64 0, .slice none 0 0, .slice none 0 0, .slice none 0 0] true) := by rw [hh1]; exact push_at _ _
  have fail : ∀ (h' : St) (e : Nat) (c2 : List Value), (decZ b).1 = e → (decZ b).2.1 = 0 → (decZ b).2.2 = noSt → Chg h1 h' [] → h'.objs h.next = some (.cells c2 true) → c2.length = 4 →
      storeE 4 (.pointer (some ⟨h.next, 0, none⟩)) (.agg #[.int .i64 0, .slice none 0 0, .slice none 0 0, .slice none 0 0]) h' (fun _ h3 => bindV (loadV true 4 (.pointer (some ⟨h.next, 0, none⟩)) h3) fun r4 => K (.tuple #[r4, .int .i64 e]) h3) := by
    intro h' e c2 d1 d2 d3 c o hl
    rw [d1, d2, d3] at H
    simp [o, hl]
    exact H _ _ _ _ (fun _ => .slice none 0 0) ((c1.of_chg c (by simp)).of_set (.inr (Nat.le_refl _))) (nilF _ _)
  cases b with
  | nil =>
    have e0 : lenS v = some (.int .i64 0) := s.len
    simp [e0, bvM0, -storeE_ptr]
    exact fail h1 3 _ rfl rfl rfl (Chg.refl _ _) o1 rfl
  | cons c r =>
    have e0 : ¬ (((c :: r).length : Nat) : Int) = 0 := by simp; omega
    have s1 := s.chg c1 (by simp)
    obtain ⟨bb, oo, g1, g2, g3, cs, own, g4, g5⟩ := s1.idx (i := 0) (by omega) (by simp) .i64
    have g6 := takeN_get g5 (j := 0) (by omega)
    simp only [rowC, Int.toNat_zero, List.getElem?_cons_zero, Option.getD_some, Nat.add_zero, bc] at g6
    have hc : c < 256 := hx c (by simp)
    have wc : IntKind.i64.wrap (c : Int) = c := i64_in _ (by omega)
    simp only [s.len, bindV_some, binNil_int, binV_eql, e0, decide_false, condK_bool, Bool.false_eq_true, if_false, idG_eq, g1, loadV_ptr, g4, loadM_cells, partV_one, g6, wrapV_int, wc]
    refine .inl ⟨rfl, (c : Int), rfl, fun h2 c2 => ?_⟩
    obtain ⟨r1, r2, r3⟩ := res_name (c : Int)
    rw [r1, r2, r3]
    have n2 := c2.1
    simp only [extV_two0, extV_two1, bindV_some, allocE_some]
    refine storeE_new (vs := [.int .i64 (rowRes (findZ (c : Int))).1.kind, .string (nameOf (knownZ c)), .string (shapeOf (knownZ c))]) rfl rfl rfl (by simp) ?_
    obtain ⟨h8, hh8⟩ : ∃ z, z = (h2.push (.cells [.int .i64 0, .string ByteArray.empty, .string ByteArray.empty] true)).set h2.next (.cells [.int .i64 (rowRes (findZ (c : Int))).1.kind, .string (nameOf (knownZ c)), .string (shapeOf (knownZ c))] true) := ⟨_, rfl⟩
    rw [← hh8]
    have c8 : Chg h2 h8 [] := by rw [hh8]; exact (Chg.push _ _).of_set (.inr (Nat.le_refl _))
    have o8 : h8.objs h2.next = some (.cells [.int .i64 (rowRes (findZ (c : Int))).1.kind, .string (nameOf (knownZ c)), .string (shapeOf (knownZ c))] true) := by rw [hh8]; exact set_at _ _ _
    have n8 : h2.next < h8.next := by rw [hh8]; simp
    have c18 : Chg h1 h8 [] := c2.of_chg c8 (by simp)
    have b8 := c18.at (by omega) (by simp) o1
    have s8 := s1.chg c18 (by simp)
    have gk8 := c18.at g3 (by simp) g4
    by_cases hk : isKind (knownZ c) = true
    · obtain ⟨v', q1, q2⟩ := s8.cut (lo := some (.int .i64 1)) (hi := none) (l := 1) (e := (c :: r).length) (loHi_lo (by simp)) (by simp) (Nat.le_refl _)
      have q3 : SliceAt (fun i => V i ∧ i < h8.next) h8 v' r.length 1 (rowC r) := by
        have e : (c :: r).length - 1 = r.length := by simp
        rw [e] at q2
        exact (q2.rows (row' := rowC r) fun i hi => by simp [rowC, Nat.add_comm 1 i]).imp fun i a b => ⟨b, a⟩
      have esh : letters (shapeOf (knownZ c)) = shZ c := rfl
      have hr : r.length ≤ 100000 := by simp at hb; omega
      have hxr : ∀ x ∈ r, x < 256 := fun x hx' => hx x (by simp [hx'])
      -- the end, whichever came first
      have tail : ∀ (h15 : St) (p6 : Nat) (vN vS vL : Value) (lv : Nat → Value), Chg h8 h15 [] → h15.objs p6 = some (.cells [vN, vS, vL] true) → h8.next ≤ p6 → FieldsAt (h8.next ≤ ·) h15 vN vS vL lv (readZ (shZ c) r).2.N (readZ (shZ c) r).2.S (readZ (shZ c) r).2.L →
          (bindV (binNil .neq .other (.int .i64 (readZ (shZ c) r).1) (.int .i64 0)) fun v32 => condK v32 (bindV (buildV [.int .i64 0, .slice none 0 0, .slice none 0 0, .slice none 0 0] (some [])) fun v33 => storeE 4 (.pointer (some ⟨h.next, 0, none⟩)) v33 h15 fun _ h17 => bindV (loadV true 4 (.pointer (some ⟨h.next, 0, none⟩)) h17) fun r18 => K (.tuple #[r18, .int .i64 (readZ (shZ c) r).1]) h17)
            (idG (bindV (idxS 1 v (.int .i64 0)) fun v36 => bindV (loadV false 1 v36 h15) fun v37 => (True) ∧ bindV (wrapV .i64 v37) fun v38 => bindV (loadV true 3 (.pointer (some ⟨p6, 0, none⟩)) h15) fun v39 => (True) ∧ bindV (buildV [.int .i64 0, .slice none 0 0, .slice none 0 0, .slice none 0 0] (some [(0, 1, v38), (1, 3, v39)])) fun v40 => storeE 4 (.pointer (some ⟨h.next, 0, none⟩)) v40 h15 fun _ h20 => (True ∧ True ∧ True) ∧ bindV (loadV true 4 (.pointer (some ⟨h.next, 0, none⟩)) h20) fun r21 => K (.tuple #[r21, (.int .i64 0)]) h20))) := by
        intro h15 p6 vN vS vL lv c15 o6 hp6 F
        have b15 := c15.at (by omega) (by simp) b8
        have gk := c15.at (by omega) (by simp) gk8
        have cc : Chg h1 h15 [] := c18.of_chg c15 (by simp)
        by_cases hw : (readZ (shZ c) r).1 = 0
        · have hd : decZ (c :: r) = (0, (c : Int), (readZ (shZ c) r).2) := by simp only [decZ, hk, if_true]; rw [if_neg (by simp [hw])]
          rw [hd] at H
          simp [hw, g1, gk, g6, wc, o6, bvM4, b15, F.1.one, F.2.1.one, F.2.2.1.one]
          refine H _ vN vS vL lv ((c1.of_chg cc (by simp)).of_set (.inr (Nat.le_refl _))) ?_
          refine (F.chg (Chg.set (S := [h.next]) _ (by simp)) ?_).imp fun i _ (hh : h8.next ≤ i) => by omega
          intro i hi (hh : h8.next ≤ i)
          simp at hi
          omega
        · have hd : decZ (c :: r) = ((readZ (shZ c) r).1, 0, noSt) := by simp only [decZ, hk, if_true]; rw [if_pos hw]
          simp [hw, bvM0, -storeE_ptr]
          exact fail h15 _ _ (by rw [hd]) (by rw [hd]) (by rw [hd]) cc b15 rfl
      simp only [hk, unV_not, Bool.not_true, bindV_some, condK_bool, Bool.false_eq_true, if_false, idG_eq]
      refine ⟨?_, ?_⟩
      · simp only [offV_ptr, bindV_some, loadV_ptr, o8, loadM_cells, partV_one, Nat.zero_add, List.getElem?_cons_succ, List.getElem?_cons_zero, true_and, q1]
        refine .inr (.inl ⟨rfl, _, _, v', r, rfl, shape_size c, hr, hxr, q3, fun i hi => hi.2, fun h12 vN vS vL lv c12 F => ?_⟩)
        rw [esh] at F ⊢
        have n12 := c12.1
        simp only [true_and, extV_two0, extV_two1, bindV_some, allocE_some]
        refine storeE_new (vs := [vN, vS, vL]) rfl rfl rfl (by simp [F.1.one, F.2.1.one, F.2.2.1.one]) ?_
        obtain ⟨h15, hh15⟩ : ∃ z, z = (h12.push (.cells [.slice none 0 0, .slice none 0 0, .slice none 0 0] true)).set h12.next (.cells [vN, vS, vL] true) := ⟨_, rfl⟩
        rw [← hh15]
        have c15 : Chg h12 h15 [] := by rw [hh15]; exact (Chg.push _ _).of_set (.inr (Nat.le_refl _))
        refine ⟨⟨trivial, trivial⟩, ?_⟩
        exact tail h15 h12.next vN vS vL lv (c12.of_chg c15 (by simp)) (by rw [hh15]; exact set_at _ _ _) (by omega) (F.chg c15 (by simp))
      · obtain ⟨h22, hh22⟩ : ∃ z, z = h8.push (.cells [.slice none 0 0, .slice none 0 0, .slice none 0 0] true) := ⟨_, rfl⟩
        have c22 : Chg h8 h22 [] := by rw [hh22]; exact Chg.push _ _
        have n22 : h22.next = h8.next + 1 := by rw [hh22]; rfl
        have o22 : h22.objs h8.next = some (.cells [.slice none 0 0, .slice none 0 0, .slice none 0 0] true) := by rw [hh22]; exact push_at _ _
        have o8' := c22.at n8 (by simp) o8
        simp only [offV_ptr, bindV_some, loadV_ptr, o8, loadM_cells, partV_one, Nat.zero_add, List.getElem?_cons_succ, List.getElem?_cons_zero, true_and, q1, allocE_some]
        rw [← hh22]
        simp only [o8', loadM_cells, partV_one, List.getElem?_cons_succ, List.getElem?_cons_zero, and_true, true_and]
        refine .inr (.inl ⟨rfl, _, _, v', r, rfl, shape_size c, hr, hxr, q3.chg c22 (by simp), fun i hi => by have := hi.2; omega, fun h23 vN vS vL lv c23 F => ?_⟩)
        rw [esh] at F ⊢
        have n23 := c23.1
        have o23 := c23.at (by omega) (by simp) o22
        simp only [true_and, extV_two0, extV_two1, bindV_some]
        refine storeE_over (vs := [vN, vS, vL]) o23 rfl rfl rfl (by simp [F.1.one, F.2.1.one, F.2.2.1.one]) ?_
        obtain ⟨h25, hh25⟩ : ∃ z, z = h23.set h8.next (.cells [vN, vS, vL] true) := ⟨_, rfl⟩
        rw [← hh25]
        simp only [true_and]
        have cc25 : Chg h8 h25 [] := by rw [hh25]; exact (c22.of_chg c23 (by simp)).of_set (.inr (Nat.le_refl _))
        refine tail h25 h8.next vN vS vL lv cc25 (by rw [hh25]; exact set_at _ _ _) (Nat.le_refl _) ?_
        rw [hh25]
        refine (F.chg (Chg.set (S := [h8.next]) _ (by simp)) ?_).imp fun i _ (hh : h22.next ≤ i) => by omega
        intro i hi (hh : h22.next ≤ i)
        simp at hi
        omega
    · have hd : decZ (c :: r) = (5, 0, noSt) := by simp only [decZ]; rw [if_neg hk]
      rw [Bool.not_eq_true] at hk
      simp [hk, bvM0, -storeE_ptr]
      exact fail h8 5 _ (by rw [hd]) (by rw [hd]) (by rw [hd]) c18 b8 rfl
/-! ### Same -/
def msgSameS : Abs.Spec := fun args h k => ∃ (x : Int) (V V' : Nat → Prop) (vN vS vL wN wS wL : Value) (lv lw : Nat → Value) (N : List Nat) (S : List ByteArray) (L : List (List Nat)), args = [.agg #[.int .i64 x, vN, vS, vL], .agg #[.int .i64 x, wN, wS, wL]] ∧ FieldsAt V h vN vS vL lv N S L ∧ FieldsAt V' h wN wS wL lw N S L ∧
  N.length ≤ 1000 ∧ S.length ≤ 1000 ∧ L.length ≤ 1000 ∧ (∀ l ∈ L, l.length ≤ 1000) ∧ ∀ h', Chg h h' [] → k (.bool true) h'
theorem msgSameS_good : SpecGood Tryd.prog (17, msgSameS) := by
  refine spec_good mixed Tryd.func17 (by kernel_rfl) (by kernel_rfl) (tab := [(35, sameS)]) (by simpa using sameS_good) (keep := tiltyardref04_Same_keep) ?_
  rintro args h k ⟨x, V, V', vN, vS, vL, wN, wS, wL, lv, lw, N, S, L, rfl, F, G, hN, hS, hL, hl, H⟩
  refine ⟨0, ?_⟩
  show tiltyardref04_Same (tabC [(35, sameS)]) idG 0 (.agg #[.int .i64 x, vN, vS, vL]) (.agg #[.int .i64 x, wN, wS, wL]) h _
  generalize hK : (fun v h1 => ∃ h2, St.le h2 h1 ∧ k v h2 : Cont) = K
  have H : ∀ h', Chg h h' [] → K (.bool true) h' := by subst hK; exact fun h' c => ⟨_, St.le.refl _, H h' c⟩
  clear hK
  rw [tiltyardref04_Same_eq]
  have o1 : ((h.push (.cells [.int .i64 x, vN, vS, vL] true)).push (.cells [.int .i64 x, wN, wS, wL] true)).objs h.next = some (.cells [.int .i64 x, vN, vS, vL] true) := by rw [push_ne (by simp)]; exact push_at _ _
  have c2 : Chg h ((h.push (.cells [.int .i64 x, vN, vS, vL] true)).push (.cells [.int .i64 x, wN, wS, wL] true)) [] := (Chg.push _ _).of_push
  have t1 : ∀ a b c d : Value, takeN [a, b, c, d] 1 3 = some [b, c, d] := fun _ _ _ _ => rfl
  simp [F.1.one, F.2.1.one, F.2.2.1.one, G.1.one, G.2.1.one, G.2.2.1.one, o1, groupK_eq, getT, t1]
  refine .inl ⟨rfl, V, V', vN, vS, vL, wN, wS, wL, lv, lw, N, S, L, rfl, F.chg c2 (by simp), G.chg c2 (by simp), hN, hS, hL, hl, fun h' c => ?_⟩
  simp [getT]
  exact H h' (c2.of_chg c (by simp))
end Go.Proofs.YtdmcmebfclikgaaDoor
