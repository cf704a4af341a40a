/- The document's 'Read'; 'FieldReads'. -/
import Derived.Test.YtiaijbkmgajieaaP
set_option linter.unusedSimpArgs false
set_option linter.unusedVariables false
set_option maxHeartbeats 4000000
namespace Go.Proofs.Ytiaijbkmgajieaa
open Go.Abs Go.IntWalk

theorem RAt.fields {col : Nat → Nat} {N0 q r : Nat} {h : St} {vB vN vS vL : Value} {LV : List Value} {st : RSt} (g : RAt col N0 h q r vB vN vS vL LV st) : FieldsAt (fun i => ¬ i < N0 ∧ i ≠ r) h vN vS vL (fun i => LV[i]?.getD (.slice none 0 0)) st.N st.S st.L := by
  have ne : ∀ a, a ≠ 8 → a ≠ 7 → ∀ i, i < h.next → col i = a → (¬ i < N0 ∧ i ≠ r) := fun a ha ha' i _ hc => ⟨fun hi => ha (hc.symm.trans (g.old i hi)), fun e => ha' (hc.symm.trans (e ▸ g.cr))⟩
  refine ⟨?_, ?_, ?_, fun i l hl => ?_⟩
  · have s := g.sN
    rw [map_flatV] at s
    exact (s.slice (row := rowQ st.N) (fun _ _ => rfl) (fun i x hx => by simp [rowQ, hx, qc])).imp (ne 0 (by decide) (by decide))
  · have s := g.sS
    rw [map_flatV] at s
    exact (s.slice (row := rowT st.S) (fun _ _ => rfl) (fun i x hx => by simp [rowT, hx])).imp (ne 1 (by decide) (by decide))
  · have s := g.sL
    have e := own_count s
    rw [← e] at s ⊢
    have e2 : LV = LV.flatMap fun v => [v] := by simp
    have s' : OwnS (col · = 2) h vL 1 (LV.flatMap fun v => [v]) LV.length := by rw [← e2]; exact s
    exact (s'.slice (fun _ _ => rfl) (fun i x hx => by simp [hx])).imp (ne 2 (by decide) (by decide))
  · obtain ⟨v, h1, h2⟩ := g.sX i l hl
    simp only [h1, Option.getD_some]
    exact h2.imp (ne (10 + i) (by omega) (by omega))
theorem nlt_r {col : Nat → Nat} {N0 q r : Nat} {h : St} {vB vN vS vL : Value} {LV : List Value} {st : RSt} (g : RAt col N0 h q r vB vN vS vL LV st) : ¬ r < N0 := fun hlt => by
  have h1 := g.old r hlt
  have h2 := g.cr
  omega
section loop
variable {s : ByteArray} {x1 x5 : Value} {r q N0 nn : Nat} {K : Cont} {hb : St} {b : List Nat} {T : Nat × RSt}
theorem ref_fail {col : Nat → Nat} {h : St} {vN vS vL : Value} {LV : List Value} {st : RSt} (g : RAt col N0 h q r x1 vN vS vL LV st) (c : ChgP (fun i => ¬ i < N0) hb h) {n : Nat} (hT : T = (n, noSt))
    (END : ∀ h' vN vS vL lv, ChgP (fun i => ¬ i < N0) hb h' → FieldsAt (fun i => ¬ i < N0) h' vN vS vL lv T.2.N T.2.S T.2.L → K (.tuple #[.agg #[vN, vS, vL], .int .i64 T.1]) h') :
    bindV (buildV [.slice none 0 0, .slice none 0 0, .slice none 0 0] (some [])) fun v33 => storeE 3 (ptr r) v33 h fun _ h9 => bindV (loadV true 3 (ptr r) h9) fun r10 => K (.tuple #[r10, (.int .i64 n)]) h9 := by
  subst hT
  have go := g.ro
  simp [buildV, fillL, ptr, go]
  exact END _ _ _ _ _ (c.of_set (.inl (nlt_r g))) (nilF _ _)
theorem ref_j4 {col : Nat → Nat} {h : St} {vN vS vL x8 x9 x10 x11 x12 : Value} {LV : List Value} {N : List Nat} {S : List ByteArray} {L : List (List Nat)} {at_ : Nat} {sh : Bool} (g : RAt col N0 h q r x1 vN vS vL LV ⟨b, sh, N, S, L⟩) (c : ChgP (fun i => ¬ i < N0) hb h) (hbl : b.length ≤ 100000) (hT : T = finZ ⟨b.drop at_, false, N, S, L⟩)
    (END : ∀ h' vN vS vL lv, ChgP (fun i => ¬ i < N0) hb h' → FieldsAt (fun i => ¬ i < N0) h' vN vS vL lv T.2.N T.2.S T.2.L → K (.tuple #[.agg #[vN, vS, vL], .int .i64 T.1]) h') :
    tiltyardref01_Read_j4 (tabC tabQ) idG nn (.string s) x1 (ptr r) x5 (ptr q) (.int .i64 at_) x8 x9 x10 x11 x12 h K := by
  rw [tiltyardref01_Read_j4_eq, g.sB.len]
  by_cases hl : at_ < b.length
  · have hl' : (at_ : Int) < b.length := by omega
    have e : T = (4, noSt) := by
      rw [hT]; unfold finZ
      rw [if_neg (by simp), if_pos (by simp; omega)]
    simp only [bindV_some, binV_lss, condK_bool, hl', decide_true, if_true]
    exact ref_fail g c e END
  · have hl' : ¬ (at_ : Int) < b.length := by omega
    have e : T = (0, ⟨b.drop at_, false, N, S, L⟩) := by
      rw [hT]; unfold finZ
      rw [if_neg (by simp), if_neg (by simp; omega)]
    subst e
    have f := g.fields
    have w1 := f.1.one; have w2 := f.2.1.one; have w3 := f.2.2.1.one
    have go := g.obj
    have gr := g.ro
    have hrq : r ≠ q := by intro e; have h1 := g.cr; have h2 := g.cq; rw [e] at h1; omega
    simp [ptr, hl', go, gr, w1, w2, w3]
    have f' := f.chgP (D := fun i => i = r) ((ChgP.refl _ h).of_set (o := .cells [vN, vS, vL] true) (.inl rfl)) (by intro i hi hh; exact hh.2 hi)
    exact END _ _ _ _ _ (c.of_set (.inl (nlt_r g))) ⟨f'.1.imp (fun i _ hi => hi.1), f'.2.1.imp (fun i _ hi => hi.1), f'.2.2.1.imp (fun i _ hi => hi.1), fun i l hl => (f'.2.2.2 i l hl).imp (fun i _ hi => hi.1)⟩
theorem ref_l0 (h8 : (letters s).length ≤ 8) (hbl : b.length ≤ 100000) (hx : ∀ x ∈ b, x < 256)
    (END : ∀ h' vN vS vL lv, ChgP (fun i => ¬ i < N0) hb h' → FieldsAt (fun i => ¬ i < N0) h' vN vS vL lv T.2.N T.2.S T.2.L → K (.tuple #[.agg #[vN, vS, vL], .int .i64 T.1]) h') :
    ∀ (d i m0 : Nat) (h : St) (col : Nat → Nat) (vN vS vL : Value) (LV : List Value) (N : List Nat) (S : List ByteArray) (L : List (List Nat)) (sh : Bool) (at_ : Nat) (x9 x10 x11 x12 : Value), i + d = (letters s).length → d + 300 < m0 → ChgP (fun i => ¬ i < N0) hb h → RAt col N0 h q r x1 vN vS vL LV ⟨b, sh, N, S, L⟩ → N.length ≤ i → S.length ≤ i → L.length ≤ i → at_ ≤ b.length →
      T = finZ (gatherZ ((letters s).drop i) ⟨b.drop at_, false, N, S, L⟩) →
      tiltyardref01_Read_l0 (tabC tabQ) idG nn m0 (.string s) x1 (ptr r) x5 (ptr q) (.int .i64 at_) (.int .i64 i) x9 x10 x11 x12 h K := by
  have hsz := letters_length s
  intro d
  induction d with
  | zero =>
    intro i m0 h col vN vS vL LV N S L sh at_ x9 x10 x11 x12 hi hm c g l1 l2 l3 ha hT
    obtain ⟨m0, rfl⟩ : ∃ m, m0 = m + 1 := ⟨m0 - 1, by omega⟩
    rw [tiltyardref01_Read_l0_eq]
    have e' : ¬ ((i : Int) < s.size) := by omega
    have z : (letters s).drop i = [] := by rw [List.drop_eq_nil_iff]; omega
    rw [z] at hT
    simp only [lenT_string, bindV_some, binV_lss, condK_bool, e', decide_false, Bool.false_eq_true, if_false, idG_eq]
    exact ref_j4 g c hbl hT END
  | succ d ih =>
    intro i m0 h col vN vS vL LV N S L sh at_ x9 x10 x11 x12 hi hm c g l1 l2 l3 ha hT
    obtain ⟨m0, rfl⟩ : ∃ m, m0 = m + 1 := ⟨m0 - 1, by omega⟩
    rw [tiltyardref01_Read_l0_eq]
    have hlt : i < (letters s).length := by omega
    have hlt' : ((i : Int) < s.size) := by omega
    obtain ⟨a, hla⟩ : ∃ a, (letters s)[i]? = some a := ⟨_, List.getElem?_eq_getElem hlt⟩
    have hd : (letters s).drop i = a :: (letters s).drop (i + 1) := by
      rw [List.drop_eq_getElem_cons hlt]
      congr 1
      exact (List.getElem?_eq_some_iff.1 hla).2
    rw [hd] at hT
    have hxd : ∀ x ∈ b.drop at_, x < 256 := fun x hm => hx x (List.mem_of_mem_drop hm)
    have hw8 := wd_le a
    simp only [lenT_string, bindV_some, binV_lss, condK_bool, hlt', decide_true, if_true, idG_eq, idxT_at hla]
    refine .inl ⟨rfl, a, rfl, fun h1 c1 => ?_⟩
    have g1 := g.chg (a := 10 + L.length) c1 (by simp) (Nat.le_refl _)
    have cc1 : ChgP (fun i => ¬ i < N0) hb h1 := c.step (c1.toP (by simp))
    have wsub : ∀ p : Nat, p ≤ b.length → IntKind.i64.wrap ((b.length : Int) - (p : Int)) = ((b.length - p : Nat) : Int) := by intro p hp; rw [i64_in _ (by omega)]; omega
    have ws1 := wsub at_ ha
    have sB : SliceAt (col · = 8) h1 x1 b.length 1 (rowC b) := g1.sB
    have hlen := sB.len
    show bindV (lenS x1) _
    simp only [hlen, bindV_some, binV_sub, ws1, binV_lss, condK_bool, idG_eq]
    have hT' : T = finZ (gatherZ ((letters s).drop (i + 1)) (fieldZ a ⟨b.drop at_, false, N, S, L⟩)) := hT
    by_cases hs : b.length - at_ < wd a
    · have hs' : ((b.length - at_ : Nat) : Int) < (wd a : Nat) := by omega
      have e3 : T = (3, noSt) := by rw [hT]; exact fin_true hxd (field_short (by simpa using hs))
      simp only [hs', decide_true, if_true]
      exact ref_fail g1 cc1 e3 END
    · have hs' : ¬ ((b.length - at_ : Nat) : Int) < (wd a : Nat) := by omega
      obtain ⟨v1, hc1, s1⟩ := part_at sB (p := at_) (m := wd a) (by omega)
      have wadd : IntKind.i64.wrap ((at_ : Int) + (wd a : Nat)) = ((at_ + wd a : Nat) : Int) := by rw [i64_in _ (by omega)]; omega
      have hxw : ∀ x ∈ (b.drop at_).take (wd a), x < 256 := fun x hm => hxd x (List.mem_of_mem_take hm)
      have lw : ((b.drop at_).take (wd a)).length = wd a := by simp; omega
      have hsm := numB_lt _ hxw
      rw [lw] at hsm
      have nw : ¬ wd a > (b.drop at_).length := by simp; omega
      have e_out : outZ (b.drop at_) (wd a) = (b.drop at_).take (wd a) := by simp only [outZ, if_neg nw]
      have e_left : leftZ (b.drop at_) (wd a) = b.drop (at_ + wd a) := by simp only [leftZ, if_neg nw, List.drop_drop]
      have e_sh : shortZ (b.drop at_) false (wd a) = false := by simp only [shortZ, if_neg nw]
      simp only [hs', decide_false, Bool.false_eq_true, if_false, binV_add, wadd, bindV_some, hc1]
      refine .inr (.inl ⟨rfl, _, v1, _, rfl, by omega, hxw, s1, ?_⟩)
      generalize hn : numB ((b.drop at_).take (wd a)) = n at *
      have nxt : ∀ (h' : St) (col' : Nat → Nat) (vN' vS' vL' : Value) (LV' : List Value) (N' : List Nat) (S' : List ByteArray) (L' : List (List Nat)) (sh' : Bool) (at' : Nat) (y9 y10 y11 y12 : Value), ChgP (fun i => ¬ i < N0) hb h' → RAt col' N0 h' q r x1 vN' vS' vL' LV' ⟨b, sh', N', S', L'⟩ → N'.length ≤ i + 1 → S'.length ≤ i + 1 → L'.length ≤ i + 1 → at' ≤ b.length →
          fieldZ a ⟨b.drop at_, false, N, S, L⟩ = ⟨b.drop at', false, N', S', L'⟩ →
          tiltyardref01_Read_j1 (tabC tabQ) idG nn m0 (.string s) x1 (ptr r) x5 (ptr q) (.int .i64 at') (.int .i64 i) y9 y10 y11 y12 h' K := by
        intro h' col' vN' vS' vL' LV' N' S' L' sh' at' y9 y10 y11 y12 q1 q2 q3 q4 q5 q6 q7
        rw [tiltyardref01_Read_j1_eq]
        simp only [binNil_int, binV_add, bindV_some, inc (show i ≤ 1000000 by omega), idG_eq]
        exact ih (i + 1) m0 h' col' vN' vS' vL' LV' N' S' L' sh' at' _ _ _ _ (by omega) (by omega) q1 q2 q3 q4 q5 q6 (by rw [hT', q7])
      have go := g1.obj
      by_cases t1 : a = 115
      · have t1i : (a : Int) = 115 := by omega
        have hw1 : wd a = 1 := by rw [t1]; rfl
        rw [hw1] at hsm
        have ef : fieldZ a ⟨b.drop at_, false, N, S, L⟩ = ⟨leftZ (b.drop (at_ + wd a)) n, shortZ (b.drop (at_ + wd a)) false n, N, S ++ [bytesText (outZ (b.drop (at_ + wd a)) n)], L⟩ := by
          unfold fieldZ
          rw [if_pos t1]
          simp only [e_out, e_left, e_sh, hn]
        have ws2 := wsub (at_ + wd a) (by omega)
        have wu : IntKind.u64.wrap ((b.length - (at_ + wd a) : Nat) : Int) = ((b.length - (at_ + wd a) : Nat) : Int) := u64_wrap _ (by omega)
        have wi : IntKind.i64.wrap (n : Int) = n := i64_in _ (by omega)
        simp only [t1i, binNil_int, binV_eql, bindV_some, condK_bool, decide_true, if_true, hlen, binV_sub, ws2, wrapV_int, wu, binV_lss]
        by_cases hs2 : b.length - (at_ + wd a) < n
        · have hs2' : ((b.length - (at_ + wd a) : Nat) : Int) < (n : Nat) := by omega
          have e3 : T = (3, noSt) := by
            rw [hT]
            refine fin_true hxd ?_
            rw [ef]
            exact short_lt (by simpa using hs2) _
          simp only [hs2', decide_true, if_true]
          exact ref_fail g1 cc1 e3 END
        · have hs2' : ¬ ((b.length - (at_ + wd a) : Nat) : Int) < (n : Nat) := by omega
          obtain ⟨v2, hc2, s2⟩ := part_at sB (p := at_ + wd a) (m := n) (by omega)
          have wadd2 : IntKind.i64.wrap (((at_ + wd a : Nat) : Int) + (n : Int)) = ((at_ + wd a + n : Nat) : Int) := by rw [i64_in _ (by omega)]; omega
          have tx := text_slice s2
          have nw2 : ¬ n > (b.drop (at_ + wd a)).length := by simp; omega
          simp only [hs2', decide_false, Bool.false_eq_true, if_false, ptr, offV_ptr, loadV_ptr, go, loadM_cells, partV_one, Nat.zero_add, List.getElem?_cons_succ, List.getElem?_cons_zero, true_and, wi, binV_add, wadd2, hc2, tx, bindV_some]
          rw [build1 _ _ rfl rfl rfl]
          have a3 : (h1.push (.cells [.string (bytesText ((b.drop (at_ + wd a)).take n))] true)).objs q = h1.objs q := push_ne g1.qn
          simp only [a3, go, loadM_cells, partV_one, Nat.zero_add, List.getElem?_cons_succ, List.getElem?_cons_zero, true_and, bindV_some]
          refine append_one g1.sS rfl (by simp; omega) (by simp; omega) fun h3 S3 hS3 c3 n3 o3 => ?_
          have hqS : q ∉ S3 := fun hi => by have h1 : col q = 1 := hS3 _ hi; have h2 := g.cq; omega
          have a4 := c3.at g1.qn hqS go
          simp only [a4, storeE_ptr, storeM_cells, true_and]
          refine ⟨by simp, ?_⟩
          obtain ⟨z1, z2⟩ := g1.addS c3 hS3 (j := h1.next + 1) (by omega) o3
          refine nxt _ _ _ _ _ _ N (S ++ [bytesText ((b.drop (at_ + wd a)).take n)]) L sh (at_ + wd a + n) _ _ _ _ (cc1.step z1) z2 (by omega) (by simp; omega) (by omega) (by omega) ?_
          rw [ef]
          simp only [leftZ, outZ, shortZ, if_neg nw2, List.drop_drop]
      · have t1i : ¬ (a : Int) = 115 := by omega
        by_cases t2 : a = 108
        · have t2i : (a : Int) = 108 := by omega
          have hw1 : wd a = 1 := by rw [t2]; rfl
          rw [hw1] at hsm
          have ef : fieldZ a ⟨b.drop at_, false, N, S, L⟩ = (if (listZ n (b.drop (at_ + wd a)) false []).2.2.2 = true then ⟨(listZ n (b.drop (at_ + wd a)) false []).1, (listZ n (b.drop (at_ + wd a)) false []).2.1, N, S, L ++ [(listZ n (b.drop (at_ + wd a)) false []).2.2.1]⟩ else ⟨(listZ n (b.drop (at_ + wd a)) false []).1, (listZ n (b.drop (at_ + wd a)) false []).2.1, N, S, L⟩) := by
            unfold fieldZ
            rw [if_neg t1, if_pos t2]
            simp only [e_out, e_left, e_sh, hn]
          have ws2 := wsub (at_ + wd a) (by omega)
          have wu : IntKind.u64.wrap ((b.length - (at_ + wd a) : Nat) : Int) = ((b.length - (at_ + wd a) : Nat) : Int) := u64_wrap _ (by omega)
          have w4 : IntKind.u64.wrap (4 * (n : Int)) = ((4 * n : Nat) : Int) := by
            have : 4 * (n : Int) = ((4 * n : Nat) : Int) := by omega
            rw [this]; exact u64_wrap _ (by omega)
          simp only [t1i, t2i, binNil_int, binV_eql, bindV_some, condK_bool, decide_true, decide_false, Bool.false_eq_true, if_false, if_true, hlen, binV_sub, ws2, wrapV_int, wu, binV_mul, w4, binV_lss]
          rw [if_neg (by decide)]
          by_cases hs2 : b.length - (at_ + wd a) < 4 * n
          · have hs2' : ((b.length - (at_ + wd a) : Nat) : Int) < ((4 * n : Nat) : Int) := by omega
            have e3 : T = (3, noSt) := by
              rw [hT]
              refine fin_true hxd ?_
              have := list_short (k := n) (b := b.drop (at_ + wd a)) (fun x hm => hx x (List.mem_of_mem_drop hm)) (by simpa using hs2) []
              rw [ef]
              split <;> exact this
            simp only [hs2', decide_true, if_true]
            exact ref_fail g1 cc1 e3 END
          · have hs2' : ¬ ((b.length - (at_ + wd a) : Nat) : Int) < ((4 * n : Nat) : Int) := by omega
            obtain ⟨lf, hlf⟩ := list_ok n (b.drop (at_ + wd a)) [] (by simp; omega)
            rw [List.drop_drop] at hlf
            simp only [hs2', decide_false, Bool.false_eq_true, if_false]
            refine ref_l2 (at0 := at_ + wd a) (n := n) (st0 := ⟨b, sh, N, S, L⟩) (lfin := lf) (by omega) (show L.length ≤ 1000 by omega) hbl hx (show at_ + wd a + 4 * n ≤ b.length by omega) ?_ n 0 m0 h1 col _ [] (by omega) (by omega) rfl g1 (.inl ⟨rfl, rfl, rfl⟩) cc1 hlf
            intro h' col' vL' LV' q1 q2 y11 y12
            refine nxt h' col' _ _ _ _ N S (L ++ [lf]) sh (at_ + wd a + 4 * n) _ _ _ _ q1 q2 (by omega) (by omega) (by simp; omega) (by omega) ?_
            rw [ef, hlf]
            rfl
        · have t2i : ¬ (a : Int) = 108 := by omega
          have ef : fieldZ a ⟨b.drop at_, false, N, S, L⟩ = ⟨b.drop (at_ + wd a), false, N ++ [n], S, L⟩ := by
            unfold fieldZ
            rw [if_neg t1, if_neg t2]
            simp only [e_out, e_left, e_sh, hn]
          simp only [t1i, t2i, binNil_int, binV_eql, bindV_some, condK_bool, decide_false, Bool.false_eq_true, if_false]
          rw [tiltyardref01_Read_j3_eq]
          simp only [ptr, offV_ptr, loadV_ptr, go, loadM_cells, partV_one, Nat.zero_add, List.getElem?_cons_succ, List.getElem?_cons_zero, bindV_some]
          rw [build1 _ _ rfl rfl rfl]
          refine append_one g1.sN rfl (by simp; omega) (by simp; omega) fun h3 S3 hS3 c3 n3 o3 => ?_
          have hqS : q ∉ S3 := fun hi => by have h1 : col q = 0 := hS3 _ hi; have h2 := g.cq; omega
          have a4 := c3.at g1.qn hqS go
          simp only [a4, storeE_ptr, storeM_cells, true_and]
          refine ⟨by simp, ?_⟩
          obtain ⟨z1, z2⟩ := g1.addN c3 hS3 (j := h1.next + 1) (by omega) o3
          exact nxt _ _ _ _ _ _ (N ++ [n]) S L sh (at_ + wd a) _ _ _ _ (cc1.step z1) z2 (by simp; omega) (by omega) (by omega) (by omega) ef
end loop
end Go.Proofs.Ytiaijbkmgajieaa
