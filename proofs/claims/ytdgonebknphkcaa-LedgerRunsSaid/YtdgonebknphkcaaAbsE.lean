/- Equality; maps. -/
import Derived.Test.YtdgonebknphkcaaAbsD
import Derived.Laws.StructEq
set_option linter.unusedSimpArgs false
set_option linter.unusedVariables false
namespace Go.Abs
open Go.RowKit (Below)

section
variable {P : Program} {B : Nat} {w0 w : World} {ρ : Rho} {h : St}

def CkT (P : Program) (c : Ck) (e : TypeId) : Prop :=
  match c with
  | .b => P.underlying e = some .bool
  | .i => ∃ q, P.underlying e = some (.int q)
  | .s => P.underlying e = some .string
theorem eqCk_lit {c : Ck} {a b a' b' : Value} {r : Bool} (ha : VRel ρ a a') (hb : VRel ρ b b') (h : eqCk c a b = some r) : a' = a ∧ b' = b := by
  cases c <;> cases a <;> cases b <;> simp [eqCk] at h
  · exact ⟨ha.bool_inv, hb.bool_inv⟩
  · exact ⟨ha.int_inv, hb.int_inv⟩
  · exact ⟨ha.string_inv, hb.string_inv⟩
theorem eqAll_lit {cs : List Ck} {as bs as' bs' : List Value} (ha : LRel ρ as as') (hb : LRel ρ bs bs') {r : Bool} (h : eqAll cs as bs = some r) :
    as'.length = cs.length ∨ r = false := by
  induction cs generalizing as bs as' bs' with
  | nil => cases ha <;> cases hb <;> simp [eqAll] at h ⊢
  | cons c cs ih =>
    cases ha with
    | nil => simp [eqAll] at h
    | cons ha ta => cases hb with
      | nil => simp [eqAll] at h
      | cons hb tb =>
        simp only [eqAll] at h
        split at h
        · rcases ih ta tb h with e | e
          · left; simp [e]
          · right; exact e
        · cases h; right; rfl
        · cases h
theorem flatField_spec {k : Nat} {f : Field} {c : Ck} (hf : flatField P k f = some c) : f.name ≠ "_" ∧ f.offset = k ∧ (∃ i, P.info? f.type = some i ∧ i.size = 1) ∧
    CkT P c f.type := by
  unfold flatField at hf
  have key : ∀ (bb : Bool), bb = (f.name != "_" && Nat.beq f.offset k && (match P.info? f.type with | some i => Nat.beq i.size 1 | none => false)) → bb = true → f.name ≠ "_" ∧ f.offset = k ∧ (∃ i, P.info? f.type = some i ∧ i.size = 1) := by
    intro bb e hb
    rw [hb] at e
    have e := e.symm
    simp only [Bool.and_eq_true, bne_iff_ne, ne_eq, Nat.beq_eq] at e
    obtain ⟨⟨h1, h2⟩, h3⟩ := e
    refine ⟨h1, h2, ?_⟩
    cases hi : P.info? f.type with
    | none => simp [hi] at h3
    | some i => exact ⟨i, rfl, by simpa [hi] using h3⟩
  split at hf
  · rename_i e1 e2; cases hf; have := key _ rfl e1; exact ⟨this.1, this.2.1, this.2.2, e2⟩
  · rename_i q e1 e2; cases hf; have := key _ rfl e1; exact ⟨this.1, this.2.1, this.2.2, q, e2⟩
  · rename_i e1 e2; cases hf; have := key _ rfl e1; exact ⟨this.1, this.2.1, this.2.2, e2⟩
  · cases hf
theorem run_equalIn_ck {c : Ck} {e : TypeId} (he : CkT P c e)
    {a b : Value} {r : Bool} (hr : eqCk c a b = some r) (d : Nat) (w : World) : (Op.equalIn (d + 1) e a b).run P w = .ok r w := by
  cases c <;> cases a <;> cases b <;> simp [eqCk] at hr
  · subst hr; exact run_equalIn_bool w d e _ _ he
  · obtain ⟨rfl, rfl⟩ := hr; obtain ⟨q, hq⟩ := he; exact run_equalIn_int w d e _ q _ _ hq
  · subst hr; rw [run_equalIn_string w d e _ _ he]; congr 1; exact (beq_toListBytes _ _).symm
theorem part_flat {e : TypeId} {i : TypeInfo} (hi : P.info? e = some i) {c : Ck} (he : CkT P c e)
    {xs : Array Value} {off : Nat} {v : Value} (hx : xs[off]? = some v) (w : World) : (part e xs off).run P w = .ok v w := by
  have hg : aggT P e = some false := by
    cases c <;> simp only [CkT] at he
    · simp [aggT, he]
    · obtain ⟨q, hq⟩ := he; simp [aggT, hq]
    · simp [aggT, he]
  simp [part, run_isAgg' hg, hx, Result.andThen]
theorem run_eqFields_flat (d : Nat) (xs ys : Array Value) (w : World) : ∀ (fs : List Field) (k : Nat) (cs : List Ck) (r : Bool), flatFrom P k fs = some cs → eqAll cs (xs.toList.drop k) (ys.toList.drop k) = some r →
    (Op.eqFields (d + 1) xs ys fs).run P w = .ok r w
  | [], k, cs, r, hf, hr => by
    simp [flatFrom] at hf
    subst hf
    have : r = true := by
      generalize xs.toList.drop k = as at hr
      generalize ys.toList.drop k = bs at hr
      cases as <;> cases bs <;> simp [eqAll] at hr
      exact hr
    subst this
    simp [Op.eqFields]
  | f :: fs, k, cs, r, hf, hr => by
    simp only [flatFrom] at hf
    split at hf
    · rename_i c cs' hc hcs
      cases hf
      obtain ⟨h1, h2, ⟨i, h3, h4⟩, h5⟩ := flatField_spec hc
      have split : ∀ (zs : Array Value), (∃ z l, zs.toList.drop k = z :: l) → ∃ z, zs[k]? = some z ∧ zs.toList.drop k = z :: zs.toList.drop (k + 1) := by
        intro zs ⟨z, l, e⟩
        have hz : zs.toList[k]? = some z := by
          have := congrArg (·[0]?) e
          simpa using this
        refine ⟨z, by simpa using hz, ?_⟩
        rw [e]
        have := congrArg (List.drop 1) e
        simp only [List.drop_drop, List.drop_succ_cons, List.drop_zero] at this
        rw [← this]
      cases hxs : xs.toList.drop k with
      | nil => rw [hxs] at hr; simp [eqAll] at hr
      | cons x lx =>
        cases hys : ys.toList.drop k with
        | nil => rw [hxs, hys] at hr; simp [eqAll] at hr
        | cons y ly =>
          obtain ⟨x', ex, dx⟩ := split xs ⟨x, lx, hxs⟩
          obtain ⟨y', ey, dy⟩ := split ys ⟨y, ly, hys⟩
          rw [dx, dy] at hr
          simp only [eqAll] at hr
          simp only [Op.eqFields, h1, ne_eq, not_false_eq_true, if_true, Sem.run_bind, h2, part_flat h3 h5 ex, part_flat h3 h5 ey, Result.andThen_ok]
          split at hr
          · rename_i e
            rw [run_equalIn_ck h5 e]
            simpa using run_eqFields_flat d xs ys w fs (k + 1) cs' r hcs hr
          · rename_i e
            cases hr
            rw [run_equalIn_ck h5 e]
            simp
          · cases hr
    · cases hf
theorem run_equalIn_flat {t : TypeId} {ks : List Ck} (hf : flatT P t = some ks) {xs ys : Array Value} {r : Bool} (hr : eqAll ks xs.toList ys.toList = some r) (d : Nat) (w : World) :
    (Op.equalIn (d + 2) t (.agg xs) (.agg ys)).run P w = .ok r w := by
  unfold flatT at hf
  split at hf
  · rename_i fields hu
    split at hf
    · rename_i hs
      have hfo : P.fieldsOf t = fields := by simp [Program.fieldsOf, hu]
      rw [run_equalIn_struct w (d + 1) t xs ys (by rw [hfo]; exact hu) hs, hfo]
      exact run_eqFields_flat d xs ys w fields.toList 0 ks r hf (by simpa using hr)
    · cases hf
  · cases hf
theorem eqAll_same {cs : List Ck} {as bs as' bs' : List Value} (ha : LRel ρ as as') (hb : LRel ρ bs bs') {r : Bool} (h : eqAll cs as bs = some r) : eqAll cs as' bs' = some r := by
  induction cs generalizing as bs as' bs' with
  | nil => cases ha <;> cases hb <;> simp [eqAll] at h ⊢; exact h
  | cons c cs ih =>
    cases ha with
    | nil => simp [eqAll] at h
    | cons ha ta => cases hb with
      | nil => simp [eqAll] at h
      | cons hb tb =>
        simp only [eqAll] at h ⊢
        split at h
        · rename_i e
          obtain ⟨rfl, rfl⟩ := eqCk_lit ha hb e
          rw [e]; exact ih ta tb h
        · rename_i e
          obtain ⟨rfl, rfl⟩ := eqCk_lit ha hb e
          rw [e]; exact h
        · cases h
theorem shapeOf_spec (t : TypeId) : match shapeOf P t with
    | .bool => P.underlying t = some .bool
    | .ptr => ∃ e, P.underlying t = some (.pointer e)
    | .map => ∃ k e, P.underlying t = some (.map k e)
    | .slice => ∃ e, P.underlying t = some (.slice e)
    | .func => ∃ a b c, P.underlying t = some (.func a b c)
    | .iface => ∃ m, P.underlying t = some (.interface m)
    | .flat ks => flatT P t = some ks ∧ P.eqGuardType P.depth t = false
    | .other => True := by
  unfold shapeOf
  cases hu : P.underlying t with
  | none => simp
  | some d =>
    cases d <;> simp
    split
    all_goals (rename_i e; first | (split at e <;> simp_all; done) | skip)
end
end Go.Abs
