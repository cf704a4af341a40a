/- Maps' entries; parts; the rest. -/
import Derived.Test.YtdgonebknphkcaaAbsF
set_option linter.unusedSimpArgs false
set_option linter.unusedVariables false
namespace Go.Abs
open Go.RowKit (Below)

section
variable {P : Program} {B : Nat} {w0 w : World} {ρ : Rho} {h : St}

theorem keyMode_spec (t : TypeId) : match keyMode P t with
    | .int k => P.underlying t = some (.int k)
    | .text => P.underlying t = some .string
    | .bool => P.underlying t = some .bool
    | .flat ks => flatT P t = some ks
    | .bad => True := by
  unfold keyMode
  cases hu : P.underlying t with
  | none => simp
  | some d =>
    cases d <;> simp
    split
    all_goals (rename_i e; first | (split at e <;> simp_all; done) | skip)

/-- What is found there, and here. -/
def Found (ρ : Rho) (es' : List MapEntry) : Option (Nat × MapEntry) → Option (Nat × Value) → Prop
  | none, none => True
  | some (i, e), some (j, v) => i = j ∧ ∃ e', es'[i]? = some e' ∧ e'.val = v ∧ ERel ρ e e'
  | _, _ => False

theorem findE_now {d : TypeDesc} {k : Value} (hk : ∀ k' r, eqOne k k' = some r → Instr.sameNow d k k' = some r) : ∀ {es es' : List MapEntry}, MRel ρ es es' → ∀ (i : Nat) (r : Option (Nat × MapEntry)), findE k es i = some r →
    ∃ r', Instr.findNow d k es' i = some r' ∧ (match r, r' with
      | none, none => True
      | some (a, e), some (b, v) => a = b ∧ i ≤ a ∧ ∃ e', es'[a - i]? = some e' ∧ e'.val = v ∧ ERel ρ e e'
      | _, _ => False)
  | _, _, .nil, i, r, h => by simp [findE] at h; subst h; exact ⟨none, rfl, trivial⟩
  | _, _, .cons (e := e) (e' := e') hh t, i, r, h => by
    simp only [findE] at h
    split at h
    · rename_i e1
      cases h
      rw [hh.1] at e1
      exact ⟨some (i, e'.val), by simp [Instr.findNow, hk _ _ e1], rfl, Nat.le_refl i, e', by simp, rfl, hh⟩
    · rename_i e1
      rw [hh.1] at e1
      obtain ⟨r', h1, h2⟩ := findE_now hk t (i + 1) r h
      refine ⟨r', by simp [Instr.findNow, hk _ _ e1, h1], ?_⟩
      cases r <;> cases r' <;> simp only at h2 ⊢
      obtain ⟨h3, h4, e2, h5, h6⟩ := h2
      refine ⟨h3, by omega, e2, ?_, h6⟩
      rename_i v1 v2
      rw [show v1.1 - i = (v1.1 - (i + 1)) + 1 by omega]
      simpa using h5
    · cases h
theorem eqAll_left {ks : List Ck} {as as' bs : List Value} (hc : LRel ρ as as') {b : Bool} (hb : eqAll ks as bs = some b) : eqAll ks as' bs = some b := by
  induction ks generalizing as as' bs with
  | nil => cases hc <;> cases bs <;> simp [eqAll] at hb ⊢; exact hb
  | cons k ks ih =>
    cases hc with
    | nil => simp [eqAll] at hb
    | @cons a a' _ _ ha ta => cases bs with
      | nil => simp [eqAll] at hb
      | cons y bs =>
        simp only [eqAll] at hb ⊢
        have same : ∀ r, eqCk k a y = some r → a' = a := by
          intro r hr
          cases k <;> cases a <;> cases y <;> simp [eqCk] at hr
          · exact ha.bool_inv
          · exact ha.int_inv
          · exact ha.string_inv
        split at hb
        · rename_i e1; rw [same _ e1, e1]; exact ih ta hb
        · rename_i e1; rw [same _ e1, e1]; exact hb
        · cases hb
theorem flatT_struct {t : TypeId} {ks : List Ck} (hf : flatT P t = some ks) : ∃ fields, P.underlying t = some (.struct fields) := by
  unfold flatT at hf
  split at hf
  · rename_i fields hu; exact ⟨fields, hu⟩
  · cases hf
theorem findF_ask {t : TypeId} {ks : List Ck} (hf : flatT P t = some ks) {c c' : Array Value} (hc : LRel ρ c.toList c'.toList) (w : World) : ∀ {es es' : List MapEntry}, MRel ρ es es' → ∀ (i : Nat) (r : Option (Nat × MapEntry)), findF ks c.toList es i = some r →
    ∃ r', (Instr.findAsking t (.agg c') es' i).run P w = .ok r' w ∧ (match r, r' with
      | none, none => True
      | some (a, e), some (b, v) => a = b ∧ i ≤ a ∧ ∃ e', es'[a - i]? = some e' ∧ e'.val = v ∧ ERel ρ e e'
      | _, _ => False)
  | _, _, .nil, i, r, h => by simp [findF] at h; subst h; exact ⟨none, by simp [Instr.findAsking], trivial⟩
  | _, _, .cons (e := e) (e' := e') hh t', i, r, h => by
    simp only [findF] at h
    split at h
    · rename_i q hq
      have hq' : e'.key = .agg q := by rw [← hh.1]; exact hq
      have eq_run : ∀ b, eqAll ks c.toList q.toList = some b → (Op.equal t (.agg c') e'.key).run P w = .ok b w := by
        intro b hb
        rw [hq']
        exact run_equalIn_flat hf (eqAll_left hc hb) 9998 w
      split at h
      · rename_i e1
        cases h
        exact ⟨some (i, e'.val), by simp [Instr.findAsking, eq_run _ e1, Result.andThen], rfl, Nat.le_refl i, e', by simp, rfl, hh⟩
      · rename_i e1
        obtain ⟨r', h1, h2⟩ := findF_ask hf hc w t' (i + 1) r h
        refine ⟨r', by simp [Instr.findAsking, eq_run _ e1, Result.andThen, h1], ?_⟩
        cases r <;> cases r' <;> simp only at h2 ⊢
        obtain ⟨h3, h4, e2, h5, h6⟩ := h2
        refine ⟨h3, by omega, e2, ?_, h6⟩
        rename_i v1 v2
        rw [show v1.1 - i = (v1.1 - (i + 1)) + 1 by omega]
        simpa using h5
      · cases h
    · cases h
theorem eqAll_self {ks : List Ck} {as : List Value} (h : (eqAll ks as as).isSome = true) : as.length = ks.length ∧ ∀ {as'}, LRel ρ as as' → as' = as := by
  induction ks generalizing as with
  | nil => cases as <;> simp [eqAll] at h ⊢; intro as' h; cases h; rfl
  | cons k ks ih =>
    cases as with
    | nil => simp [eqAll] at h
    | cons a as =>
      simp only [eqAll] at h
      have hsame : ∃ r, eqCk k a a = some r := by
        cases e : eqCk k a a with
        | none => simp [e] at h
        | some r => exact ⟨r, rfl⟩
      obtain ⟨r, hr⟩ := hsame
      have hr' : r = true := by cases k <;> cases a <;> simp [eqCk] at hr <;> first | exact hr | exact hr.symm | (rw [beq_toListBytes] at hr; simpa using hr.symm)
      subst hr'
      simp only [hr] at h
      obtain ⟨h1, h2⟩ := ih h
      refine ⟨by simp [h1], ?_⟩
      intro as' hh
      cases hh with
      | cons hv ht => rw [(eqCk_lit hv hv hr).1, h2 ht]
theorem checkKey_flat {t : TypeId} {ks : List Ck} (hf : flatT P t = some ks) {c : Array Value} (hc : c.toList.length = ks.length) (hck : (eqAll ks c.toList c.toList).isSome = true) (b : Bool) (d : Nat) (w : World) :
    (Instr.checkKey b (d + 2) t (.agg c)).run P w = .ok () w := by
  unfold flatT at hf
  split at hf
  · rename_i fields hu
    split at hf
    · rename_i hs
      rw [show d + 2 = (d + 1) + 1 from rfl]
      unfold Instr.checkKey
      generalize hD : d + 1 = D
      simp only [Sem.run_bind, run_underlying hu, Result.andThen]
      rw [← Array.forIn_toList]
      subst hD
      generalize hk : (0 : Nat) = k at hf
      have hlen : ∀ j, j < ks.length → ∃ v, c[k + j]? = some v := by
        intro j hj; subst hk; exact ⟨c[j]'(by rw [← Array.length_toList]; omega), by simp⟩
      clear hc hck hk
      generalize fields.toList = fs at hf
      induction fs generalizing k ks with
      | nil => simp
      | cons f fs ih =>
        simp only [flatFrom] at hf
        split at hf
        · rename_i ck cs' hc1 hc2
          cases hf
          obtain ⟨h1, h2, ⟨i, h3, h4⟩, h5⟩ := flatField_spec hc1
          obtain ⟨v, hv⟩ := hlen 0 (by simp)
          have hck : (Instr.checkKey b (d + 1) f.type v).run P w = .ok () w := by
            cases ck <;> simp only [CkT] at h5
            · simp [Instr.checkKey, run_underlying h5, Result.andThen]
            · obtain ⟨q, hq⟩ := h5; simp [Instr.checkKey, run_underlying hq, Result.andThen]
            · simp [Instr.checkKey, run_underlying h5, Result.andThen]
          simp only [List.forIn_cons, Sem.run_bind, h1, ne_eq, not_false_eq_true, if_true, h2, part_flat h3 h5 (by simpa using hv), Result.andThen, hck, Sem.run_pure]
          exact ih (k + 1) (hf := hc2) (hlen := fun j hj => by have := hlen (j + 1) (by simp; omega); rwa [show k + (j + 1) = k + 1 + j by omega] at this)
        · cases hf
    · cases hf
  · cases hf

theorem checkKey_int {t : TypeId} {k : IntKind} (hu : P.underlying t = some (.int k)) (b : Bool) (d : Nat) (v : Value) (w : World) : (Instr.checkKey b (d + 1) t v).run P w = .ok () w := by
  simp [Instr.checkKey, run_underlying hu, Result.andThen]
theorem checkKey_string {t : TypeId} (hu : P.underlying t = some .string) (b : Bool) (d : Nat) (v : Value) (w : World) : (Instr.checkKey b (d + 1) t v).run P w = .ok () w := by
  simp [Instr.checkKey, run_underlying hu, Result.andThen]
theorem checkKey_bool {t : TypeId} (hu : P.underlying t = some .bool) (b : Bool) (d : Nat) (v : Value) (w : World) : (Instr.checkKey b (d + 1) t v).run P w = .ok () w := by
  simp [Instr.checkKey, run_underlying hu, Result.andThen]
theorem find_sound {t : TypeId} {k k' : Value} {es es' : List MapEntry} {r : Option (Nat × MapEntry)} (hk : VRel ρ k k') (he : MRel ρ es es') (hr : find (keyMode P t) k es = some r) (b : Bool) (w : World) :
    k' = k ∧ (Instr.checkKey b 10000 t k').run P w = .ok () w ∧ ∃ r', (Instr.findKey t k' es').run P w = .ok r' w ∧ Found ρ es' r r' := by
  have hs := keyMode_spec (P := P) t
  generalize keyMode P t = m at hs hr
  have up : ∀ {r : Option (Nat × MapEntry)} {r' : Option (Nat × Value)}, (match r, r' with
      | none, none => True
      | some (a, e), some (b, v) => a = b ∧ 0 ≤ a ∧ ∃ e', es'[a - 0]? = some e' ∧ e'.val = v ∧ ERel ρ e e'
      | _, _ => False) → Found ρ es' r r' := by
    intro r r' h
    cases r <;> cases r' <;> simp only [Found] at h ⊢
    obtain ⟨h1, _, e', h2, h3⟩ := h
    exact ⟨h1, e', by simpa using h2, h3⟩
  have scalar : ∀ (d : TypeDesc), P.underlying t = some d → (∀ k' r, eqOne k k' = some r → Instr.sameNow d k k' = some r) → (Instr.checkKey b 10000 t k).run P w = .ok () w → findE k es 0 = some r →
      (Instr.checkKey b 10000 t k).run P w = .ok () w ∧ ∃ r', (Instr.findKey t k es').run P w = .ok r' w ∧ Found ρ es' r r' := by
    intro d hd hsame hck hf
    obtain ⟨r', h1, h2⟩ := findE_now hsame he 0 r hf
    exact ⟨hck, r', by simp [Instr.findKey, run_underlying hd, h1, Result.andThen], up h2⟩
  unfold find at hr
  split at hr
  · rename_i q q' n
    split at hr
    · rename_i e; subst e
      obtain rfl := hk.int_inv
      exact ⟨rfl, scalar _ hs (fun k' r h => by cases k' <;> simp [eqOne] at h; simp [Instr.sameNow, h]) (checkKey_int hs b 9999 _ w) hr⟩
    · cases hr
  · obtain rfl := hk.string_inv
    exact ⟨rfl, scalar _ hs (fun k' r h => by cases k' <;> simp [eqOne] at h; simp [Instr.sameNow, h]) (checkKey_string hs b 9999 _ w) hr⟩
  · obtain rfl := hk.bool_inv
    exact ⟨rfl, scalar _ hs (fun k' r h => by cases k' <;> simp [eqOne] at h; simp [Instr.sameNow, h]) (checkKey_bool hs b 9999 _ w) hr⟩
  · rename_i ks c
    split at hr
    · rename_i hself
      cases hk with
      | lit _ e => simp [lit1] at e
      | agg _ c' h1 h2 =>
        have hc := LRel.of_array h1 h2
        obtain ⟨g1, g2⟩ := eqAll_self (ρ := ρ) hself
        have hcc : c' = c := by
          have := g2 hc
          exact Array.ext' this
        subst hcc
        refine ⟨rfl, checkKey_flat hs g1 hself b 9998 w, ?_⟩
        obtain ⟨r', h3, h4⟩ := findF_ask hs hc w he 0 r hr
        refine ⟨r', ?_, up h4⟩
        obtain ⟨fields, hu⟩ := flatT_struct hs
        simp only [Instr.findKey, Sem.run_bind, run_underlying hu, Result.andThen]
        cases es' with
        | nil => cases he; simp [findF] at hr; subst hr; simp [Instr.findNow]; cases r' <;> simp [Found] at h4 ⊢
        | cons e' es' => simp [Instr.findNow, Instr.sameNow, h3]
    · cases hr
  · cases hr
end
end Go.Abs
