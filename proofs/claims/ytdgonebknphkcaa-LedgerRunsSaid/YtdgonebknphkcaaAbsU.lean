/- Statements whose order Go leaves open: the order of the text serves every order (what is done), and the whole walk. -/
import Derived.Test.YtdgonebknphkcaaAbsT
set_option linter.unusedSimpArgs false
set_option linter.unusedVariables false
namespace Go.Abs
open Go.RowKit (Below)

section
variable {P : Program} {B : Nat} {w0 : World} {ρ0 : Rho} {C : Oracle} {ops : Array Oper} {K : List Value → St → Prop}

/-- What is done may be done first. -/
theorem firstE (HL : OracleLive C) {seen : SeenX} {past : PastX} {i : Nat} {oi : Oper} (hi : ops[i]? = some oi) (hE : isEff P oi.op = true) (hpast : ∀ p ∈ past, waits (Region.before ops).toList p.1 i = true) {h : St} {k : Cont} :
    ∀ (n : Nat) (listed : Array Bool) (t : List Value), Closed ops listed →
      (∀ j oj, ops[j]? = some oj → j ≠ i → listed.getD j true = false → (∀ e ∈ oj.after, Region.binds .any e = true → e.on ≠ i) → oi.apart ops oj = true) →
      i ∈ Region.ready .any ops listed → wantA ops t oi = some true → opE P C oi.op (evA P t) h k →
      (∀ v h', k v h' → (∀ r ∈ seen, waits (Region.before ops).toList r.1 i = false → opV P r.2.1.op (evA P r.2.2.1) h' = some r.2.2.2) ∧ anyX P C ops K seen ((i, h) :: past) n (listed.setIfInBounds i true) (putT t oi.dst v) h') → anyX P C ops K seen past (n + 1) listed t h := by
  intro n
  induction n with
  | zero =>
    intro listed t hcl _ hr hw hop H
    refine ⟨fun h => (by rw [h] at hr; cases hr), fun j hj oj hoj => ?_⟩
    by_cases hji : j = i
    · subst hji
      have : oj = oi := by rw [hi] at hoj; exact (Option.some.inj hoj).symm
      subst this
      exact .inr (.inl ⟨hw, hE, hpast, k, hop, fun v h' hk => ⟨(H v h' hk).1, anyX_mono (fun _ h => h) (fun p hp => List.mem_cons_of_mem _ hp) 0 _ _ _ (H v h' hk).2⟩⟩)
    · obtain ⟨v, h', hk⟩ := opE_live HL hop
      have := ready_mono hj hji
      rw [(H v h' hk).2.1] at this
      cases this
  | succ n ih =>
    intro listed t hcl hfree hr hw hop H
    refine ⟨fun h => (by rw [h] at hr; cases hr), fun j hj oj hoj => ?_⟩
    by_cases hji : j = i
    · subst hji
      have : oj = oi := by rw [hi] at hoj; exact (Option.some.inj hoj).symm
      subst this
      exact .inr (.inl ⟨hw, hE, hpast, k, hop, fun v h' hk => ⟨(H v h' hk).1, anyX_mono (fun _ h => h) (fun p hp => List.mem_cons_of_mem _ hp) (n + 1) _ _ _ (H v h' hk).2⟩⟩)
    · obtain ⟨hjun, oj', hoj', hall⟩ := mem_ready.1 hj
      have : oj' = oj := by rw [hoj] at hoj'; exact (Option.some.inj hoj').symm
      subst this
      have hiun := (mem_ready.1 hr).1
      have hnw : waits (Region.before ops).toList i j = false := by
        cases hx : waits (Region.before ops).toList i j with
        | false => rfl
        | true =>
          have := waits_listed hcl j oj' hoj hall hx
          rw [unlisted_false hiun] at this; cases this
      have hnot : ∀ e ∈ oj'.after, Region.binds .any e = true → e.on ≠ i := fun e he hb heq => by
        have h1 := hall e he hb
        rw [heq, unlisted_false hiun] at h1; cases h1
      obtain ⟨a1, a2, a3⟩ := Oper.apart_spec (hfree j oj' hoj hji hjun hnot)
      have hfree' : ∀ k ok, ops[k]? = some ok → k ≠ i → (listed.setIfInBounds j true).getD k true = false →
          (∀ e ∈ ok.after, Region.binds .any e = true → e.on ≠ i) → oi.apart ops ok = true := fun k ok hk hki hun hno => by
        refine hfree k ok hk hki ?_ hno
        by_cases hjk : j = k
        · subst hjk; exact hjun
        · rw [getD_set_ne true hjk] at hun; exact hun
      have go : ∀ (u : Value), (∀ v h', k v h' → anyX P C ops K seen ((i, h) :: past) n ((listed.setIfInBounds i true).setIfInBounds j true) (putT (putT t oi.dst v) oj'.dst u) h') →
          anyX P C ops K seen past (n + 1) (listed.setIfInBounds j true) (putT t oj'.dst u) h := by
        intro u hx
        refine ih (listed.setIfInBounds j true) _ (hcl.set hj) hfree' (ready_mono hr (Ne.symm hji)) (by rw [wantA_put a3]; exact hw) (by rw [opE_congr (evA_looks a3)]; exact hop) ?_
        intro v h' hk
        refine ⟨(H v h' hk).1, ?_⟩
        rw [Array.setIfInBounds_comm _ _ hji, ← putT_comm t v u a2]
        exact hx v h' hk
      have hstep := fun v h' hk => (H v h' hk).2.2 j (ready_mono hj hji) oj' hoj
      obtain ⟨v1, h1', hk1⟩ := opE_live HL hop
      rcases hstep v1 h1' hk1 with ⟨q1, _⟩ | ⟨q1, q2, q3, _⟩ | ⟨q1, q2, u, q3, q4, _⟩
      · rw [wantA_put a1] at q1
        refine .inl ⟨q1, go undef fun v h' hk => ?_⟩
        rcases hstep v h' hk with ⟨r1, r2⟩ | ⟨r1, _⟩ | ⟨r1, _⟩
        · exact r2
        · rw [wantA_put a1, q1] at r1; cases r1
        · rw [wantA_put a1, q1] at r1; cases r1
      · have := q3 (i, h) (List.mem_cons_self ..)
        rw [hnw] at this; cases this
      · rw [wantA_put a1] at q1
        have hu := q4 (i, h) (List.mem_cons_self ..) hnw
        rw [opV_congr (evA_looks a1)] at hu
        refine .inr (.inr ⟨q1, q2, u, hu, fun p hp hw => ?_, go u fun v h' hk => ?_⟩)
        · have := q4 p (List.mem_cons_of_mem _ hp) hw
          rwa [opV_congr (evA_looks a1)] at this
        · rcases hstep v h' hk with ⟨r1, _⟩ | ⟨r1, r2, _⟩ | ⟨r1, r2, u', r3, r4, r5⟩
          · rw [wantA_put a1, q1] at r1; cases r1
          · rw [q2] at r2; cases r2
          · have hu' := r4 (i, h) (List.mem_cons_self ..) hnw
            rw [opV_congr (evA_looks a1), hu] at hu'
            cases hu'
            exact r5

/-! ### the order of the text -/
def txtX (P : Program) (C : Oracle) (ops : Array Oper) (K : List Value → St → Prop) : List Oper → Nat → SeenX → PastX → List Value → St → Prop
  | [], _, _, _, t, h => K t h
  | o :: l, i, seen, past, t, h =>
    (wantA ops t o = some false ∧ txtX P C ops K l (i + 1) seen past (putT t o.dst undef) h) ∨
    (wantA ops t o = some true ∧ isEff P o.op = true ∧ (∀ p ∈ past, waits (Region.before ops).toList p.1 i = true) ∧
      ∃ k, opE P C o.op (evA P t) h k ∧ ∀ v h', k v h' → (∀ r ∈ seen, waits (Region.before ops).toList r.1 i = false → opV P r.2.1.op (evA P r.2.2.1) h' = some r.2.2.2) ∧ txtX P C ops K l (i + 1) seen ((i, h) :: past) (putT t o.dst v) h') ∨
    (wantA ops t o = some true ∧ isEff P o.op = false ∧
      ∃ v, opV P o.op (evA P t) h = some v ∧ (∀ p ∈ past, waits (Region.before ops).toList p.1 i = false → opV P o.op (evA P t) p.2 = some v) ∧ txtX P C ops K l (i + 1) ((i, o, t, v) :: seen) past (putT t o.dst v) h)
theorem anyX_txt (HL : OracleLive C) : ∀ (l : List Oper) (k : Nat) (seen : SeenX) (past : PastX) (listed : Array Bool) (t : List Value) (h : St), (∀ j, l[j]? = ops[k + j]?) → Closed ops listed →
    Region.lexFrom .any ops l.length k listed = true → txtX P C ops K l k seen past t h → anyX P C ops K seen past l.length listed t h
  | [], _, _, _, _, _, _, _, _, hB, H => ⟨by simpa [Region.lexFrom] using hB, H⟩
  | o :: l, k, seen, past, listed, t, h, hl, hcl, hB, H => by
    have h0 : ops[k]? = some o := by simpa using (hl 0).symm
    simp only [List.length_cons, Region.lexFrom, Bool.and_eq_true] at hB
    obtain ⟨⟨hr, hf⟩, hB'⟩ := hB
    have hr : k ∈ Region.ready .any ops listed := by simpa using hr
    have hl' : ∀ j, l[j]? = ops[k + 1 + j]? := fun j => by have := hl (j + 1); simpa [Nat.add_assoc, Nat.add_comm 1 j] using this
    have hfs := Region.free_spec h0 hf
    rcases H with ⟨q1, q2⟩ | ⟨q1, q2, q3, kk, q4, q5⟩ | ⟨q1, q2, v, q3, q4, q5⟩
    · exact firstY (fun _ h => h) h0 (b := false) (v := undef) (t0 := t) (fun h => by cases h) l.length listed t h hcl hfs hr (fun _ _ => rfl) ⟨q1, fun _ => rfl, fun h => by cases h⟩
        (anyX_txt HL l (k + 1) seen past _ _ h hl' (hcl.set hr) hB' q2)
    · exact firstE HL h0 q2 q3 l.length listed t hcl hfs hr q1 q4 fun v h' hk => ⟨(q5 v h' hk).1, anyX_txt HL l (k + 1) seen _ _ _ h' hl' (hcl.set hr) hB' (q5 v h' hk).2⟩
    · exact firstY (seen' := (k, o, t, v) :: seen) (fun r hr => List.mem_cons_of_mem _ hr) h0 (b := true) (v := v) (t0 := t) (fun _ j h' hw hh => hh (k, o, t, v) (List.mem_cons_self ..) hw) l.length listed t h hcl hfs hr (fun _ _ => rfl)
        ⟨q1, fun h => (by cases h), fun _ => ⟨q2, q3, q4⟩⟩ (anyX_txt HL l (k + 1) _ past _ _ h hl' (hcl.set hr) hB' q5)
theorem closed_none : Closed ops (Array.replicate ops.size false) := by
  intro j o ho hj
  have hlt : j < ops.size := (Array.getElem?_eq_some_iff.1 ho).1
  simp [hlt] at hj

/-- A statement whose order Go leaves open. -/
theorem wp_region_txt (hm : P.follows .mixedOrders = true) (HC : OracleOk P B w0 C) (HL : OracleLive C) {id : Nat} {Q : Exit → Act → World → Prop} (hQ : ∀ t h a w, K t h → SRel P B w0 ρ0 t h a w → Q .normal a w) (hB : Region.lexB .any ops = true)
    {t : List Value} {h : St} {a : Act} {w : World} (S : SRel P B w0 ρ0 t h a w) (H : txtX P C ops K ops.toList 0 [] [] t h) : (Code.region id ops true).wp P Q a w := by
  simp only [Region.lexB, Bool.and_eq_true] at hB
  obtain ⟨ρ, s1, s2, s3, s4⟩ := S
  refine wp_region_any hm (anyX_sound (seen := []) (past := []) HC hQ ops.size _ t h a _ ⟨ρ, s1, s2, s3.draw _, s4⟩ ?_)
  have := anyX_txt (K := K) HL ops.toList 0 [] [] (Array.replicate ops.size false) t h (by simp) closed_none (by simpa using hB.2) H
  simpa using this
end
end Go.Abs
