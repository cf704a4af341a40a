/- Statements whose order Go leaves open: an abstract walk through every order. -/
import Derived.Test.YtdgonebknphkcaaAbsR
set_option linter.unusedSimpArgs false
set_option linter.unusedVariables false
namespace Go.Abs
open Go.RowKit (Below)

/-- Something comes of every call. -/
def OracleLive (C : Oracle) : Prop := ∀ g args h k, C g args h k → ∃ v h', k v h'

section
variable {P : Program} {B : Nat} {w0 : World} {ρ0 : Rho} {C : Oracle}

theorem opE_live (HL : OracleLive C) {op : Op} {ev : Operand → Value} {h : St} {k : Cont} (hk : opE P C op ev h k) : ∃ v h', k v h' := by
  unfold opE at hk
  cases op <;> simp only at hk <;> try exact hk.elim
  case alloc t => unfold allocE at hk; split at hk; exact ⟨_, _, hk⟩; exact hk.elim
  case box t x => exact ⟨_, _, hk.2⟩
  case buildSlice t len parts =>
    unfold buildSliceOp buildSliceE at hk
    repeat (first | exact ⟨_, _, hk.2.2⟩ | exact hk.elim | split at hk)
  case store t a x =>
    unfold storeOp storeE at hk
    repeat (first | exact ⟨_, _, hk.2⟩ | exact hk.elim | split at hk)
  case makeMap t r =>
    unfold makeMapOp makeMapE at hk
    repeat (first | exact ⟨_, _, hk⟩ | exact hk.elim | split at hk)
  case makeSlice t l c =>
    unfold makeSliceOp makeSliceE at hk
    repeat (first | exact ⟨_, _, hk.2⟩ | exact hk.elim | split at hk)
  case mapUpdate t m kk x =>
    unfold mapUpdateOp mapUpdateE at hk
    repeat (first | exact hk.elim | exact ⟨_, _, hk⟩ | exact ⟨_, _, hk.2⟩ | exact ⟨_, _, hk.2.2⟩ | split at hk)
  case insert t m kk x =>
    unfold mapUpdateOp mapUpdateE at hk
    repeat (first | exact hk.elim | exact ⟨_, _, hk⟩ | exact ⟨_, _, hk.2⟩ | exact ⟨_, _, hk.2.2⟩ | split at hk)
  case mapEntry t m kk =>
    unfold mapEntryOp mapEntryE at hk
    repeat (first | exact hk.elim | exact ⟨_, _, hk⟩ | exact ⟨_, _, hk.2⟩ | exact ⟨_, _, hk.2.2⟩ | split at hk)
  case entryStore t m s x =>
    unfold entryStoreE at hk
    repeat (first | exact hk.elim | exact ⟨_, _, hk⟩ | exact ⟨_, _, hk.2⟩ | exact ⟨_, _, hk.2.2⟩ | split at hk)
  case range t x =>
    unfold rangeOp rangeE at hk
    repeat (first | exact hk.elim | exact ⟨_, _, hk⟩ | split at hk)
  case next x b =>
    unfold nextE at hk
    split at hk
    · split at hk
      · exact ⟨_, _, hk⟩
      · split at hk
        · rename_i es clock _
          obtain ⟨_, h0, h1⟩ := hk
          cases hl : leftE es _ with
          | nil => exact ⟨_, _, h0 hl⟩
          | cons e l => exact ⟨_, _, h1 e (by rw [hl]; simp)⟩
        · exact hk.elim
      · exact hk.elim
    · exact hk.elim
  case convert s d x =>
    unfold toBytesOp toBytesE at hk
    repeat (first | exact hk.elim | exact ⟨_, _, hk.2⟩ | split at hk)
  case call c =>
    unfold callOp at hk
    split at hk
    · unfold callE at hk
      split at hk
      · exact HL _ _ _ _ hk
      · exact hk.elim
    · unfold builtinE at hk
      split at hk
      · split at hk
        · unfold appendOp appendE appendZ at hk
          repeat (first | exact hk.elim | exact ⟨_, _, hk.2⟩ | (obtain ⟨_, hk⟩ := hk; split at hk <;> exact ⟨_, _, hk⟩) | split at hk)
        · exact hk.elim
      · split at hk
        · unfold deleteOp deleteE at hk
          repeat (first | exact hk.elim | exact ⟨_, _, hk⟩ | exact ⟨_, _, hk.2⟩ | exact ⟨_, _, hk.2.2⟩ | split at hk)
        · exact hk.elim
      · split at hk
        · unfold copyOp copyE at hk
          repeat (first | exact hk.elim | exact ⟨_, _, hk.2⟩ | split at hk)
        · exact hk.elim
      · split at hk
        · unfold clearOp clearE at hk
          repeat (first | exact hk.elim | exact ⟨_, _, hk⟩ | exact ⟨_, _, hk.2⟩ | split at hk)
        · exact hk.elim
      · exact hk.elim
    · unfold invokeE at hk
      split at hk
      · split at hk
        · exact HL _ _ _ _ hk
        · unfold bindV at hk
          split at hk
          · exact HL _ _ _ _ hk
          · exact hk.elim
        · exact hk.elim
      · exact hk.elim

/-! ### guards -/
def wantA (ops : Array Oper) (t : List Value) (o : Oper) : Option Bool :=
  match o.guard with
  | none => some true
  | some (j, want) => match (ops[j]?).bind (·.dst) with
    | none => some false
    | some d => match getT t d with
      | .bool b => some (b == want)
      | .tuple vs => if vs.size = 0 then some false else none
      | _ => none
theorem wantA_spec {ρ : Rho} {ops : Array Oper} {t : List Value} {a : Act} (hr : LRel ρ t a.tmps.toList) {o : Oper} {b : Bool} (h : wantA ops t o = some b) : Region.wanted o (yielded ops a.tmps) = b := by
  unfold wantA at h
  unfold Region.wanted
  split at h
  · rename_i hg; simp only [hg]; exact Option.some.inj h
  · rename_i j want hg
    simp only [hg]
    split at h
    · rename_i hd
      simp only [yielded, hd]
      cases h; rfl
    · rename_i d hd
      simp only [yielded, hd, Option.bind_some]
      have hv := getT_rel hr d
      have e : a.tmps.toList.getD d Go.undef = (a.tmps[d]?).getD Go.undef := by simp [List.getD]
      rw [e] at hv
      split at h
      · rename_i b' hb
        rw [hb] at hv
        have he := hv.bool_inv
        have hs : a.tmps[d]? = some (.bool b') := by
          cases hx : a.tmps[d]? with
          | none => rw [hx] at he; simp [Go.undef] at he
          | some v => rw [hx] at he; simp at he; rw [he]
        rw [hs]
        cases h
        cases b' <;> cases want <;> rfl
      · rename_i vs hb
        split at h
        · rename_i hz
          cases h
          rw [hb] at hv
          split
          · rename_i b2 hs
            rw [hs] at hv
            cases hv
            simp at hz
          · rfl
        · cases h
      · cases h

/-! ### every order -/
/-- What was seen: an operation, the slots that it looked at, what came of it. -/
abbrev SeenX := List (Nat × Oper × List Value × Value)
abbrev PastX := List (Nat × St)
def stepX (P : Program) (C : Oracle) (ops : Array Oper) (seen : SeenX) (past : PastX) (i : Nat) (o : Oper) (t : List Value) (h : St) (next : List Value → St → Prop) : Prop :=
  (wantA ops t o = some false ∧ next (putT t o.dst undef) h) ∨
  (wantA ops t o = some true ∧ isEff P o.op = true ∧ (∀ p ∈ past, waits (Region.before ops).toList p.1 i = true) ∧
    ∃ k, opE P C o.op (evA P t) h k ∧ ∀ v h', k v h' → (∀ r ∈ seen, waits (Region.before ops).toList r.1 i = false → opV P r.2.1.op (evA P r.2.2.1) h' = some r.2.2.2) ∧ next (putT t o.dst v) h') ∨
  (wantA ops t o = some true ∧ isEff P o.op = false ∧
    ∃ v, opV P o.op (evA P t) h = some v ∧ (∀ p ∈ past, waits (Region.before ops).toList p.1 i = false → opV P o.op (evA P t) p.2 = some v) ∧ next (putT t o.dst v) h)
def anyX (P : Program) (C : Oracle) (ops : Array Oper) (K : List Value → St → Prop) (seen : SeenX) (past : PastX) : Nat → Array Bool → List Value → St → Prop
  | 0, listed, t, h => Region.ready .any ops listed = [] ∧ K t h
  | n + 1, listed, t, h => (Region.ready .any ops listed = [] → K t h) ∧
    ∀ i ∈ Region.ready .any ops listed, ∀ o, ops[i]? = some o → stepX P C ops seen past i o t h (anyX P C ops K seen past n (listed.setIfInBounds i true))

theorem anyX_sound (HC : OracleOk P B w0 C) {ops : Array Oper} {K : List Value → St → Prop} {seen : SeenX} {past : PastX} {Q : Exit → Act → World → Prop} (hQ : ∀ t h a w, K t h → SRel P B w0 ρ0 t h a w → Q .normal a w) :
    ∀ (n : Nat) (listed : Array Bool) (t : List Value) (h : St) (a : Act) (w : World), SRel P B w0 ρ0 t h a w → anyX P C ops K seen past n listed t h → wpAny P .any ops Q n listed a w
  | 0, listed, t, h, a, w, S, hk => ⟨hk.1, hQ _ _ _ _ hk.2 S⟩
  | n + 1, listed, t, h, a, w, S, hk => by
    refine ⟨fun h0 => hQ _ _ _ _ (hk.1 h0) S, fun i hi => ?_⟩
    obtain ⟨_, o, ho, _⟩ := mem_ready.1 hi
    have hs := hk.2 i hi o ho
    unfold wpOp
    simp only [ho]
    obtain ⟨ρ, h1, h2, h3, h4⟩ := id S
    rcases hs with ⟨hw, hn⟩ | ⟨hw, he, _, k, hop, hn⟩ | ⟨hw, he, v, hv, _, hn⟩
    · rw [if_neg (by rw [wantA_spec h2 hw]; simp)]
      exact anyX_sound HC hQ n _ _ _ _ _ (S.put o.dst) hn
    · rw [if_pos (by rw [wantA_spec h2 hw])]
      refine .inl (Post.upon h1 h2 h4 (opE_sound HC h3 (fun x => evA_rel h3 h2 x) he hop) ?_)
      intro v v' h' w' hkv S'
      exact anyX_sound HC hQ n _ _ _ _ _ S' (hn v h' hkv).2
    · rw [if_pos (by rw [wantA_spec h2 hw])]
      obtain ⟨v', q1, q2⟩ := opV_sound h3 (fun x => evA_rel h3 h2 x) hv
      left
      unfold Oper.wp
      rw [q1]
      exact anyX_sound HC hQ n _ _ _ _ _ ⟨ρ, h1, putT_rel h2 _ q2, h3, by rw [put_defers]; exact h4⟩ hn
end
end Go.Abs
