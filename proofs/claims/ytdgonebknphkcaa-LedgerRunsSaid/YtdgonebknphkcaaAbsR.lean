/- Towards statements whose order Go leaves open: what an operation looks at, what waits for what, that something comes of every doing. -/
import Derived.Test.YtdgonebknphkcaaAbsQ
set_option linter.unusedSimpArgs false
set_option linter.unusedVariables false
namespace Go.Abs
open Go.RowKit (Below)

section
variable {P : Program}

/-! ### an operation looks at its operands -/
theorem partsV_congr {e : TypeId} {ev ev' : Operand → Value} {n : Nat} : ∀ (l : List (Nat × Operand)), (∀ p ∈ l, ev p.2 = ev' p.2) → partsV P e ev l n = partsV P e ev' l n
  | [], _ => rfl
  | (i, x) :: r, h => by
    simp only [partsV]
    rw [h (i, x) (List.mem_cons_self ..), partsV_congr r fun p hp => h p (List.mem_cons_of_mem _ hp)]
theorem placesOf_congr {fields : Array Field} {ev ev' : Operand → Value} : ∀ (l : List (Nat × Operand)), (∀ p ∈ l, ev p.2 = ev' p.2) → placesOf P fields ev l = placesOf P fields ev' l
  | [], _ => rfl
  | (i, x) :: r, h => by
    simp only [placesOf]
    rw [h (i, x) (List.mem_cons_self ..), placesOf_congr r fun p hp => h p (List.mem_cons_of_mem _ hp)]
theorem opV_congr {op : Op} {ev ev' : Operand → Value} (h : ∀ x ∈ op.operands, ev x = ev' x) (s : St) : opV P op ev s = opV P op ev' s := by
  have pairs : ∀ ps : Array (Nat × Operand), (∀ x ∈ (ps.toList.map (·.2)).toArray, ev x = ev' x) → ∀ p ∈ ps.toList, ev p.2 = ev' p.2 :=
    fun ps hp p hm => hp p.2 (by simpa using ⟨p.1, by simpa using hm⟩)
  cases op <;> simp only [Op.operands] at h <;> simp only [opV]
  case build t ps =>
    have := pairs ps h
    simp only [buildOp, partsV_congr ps.toList this, placesOf_congr ps.toList this]
  case makeFunc fn first captured =>
    rw [Array.map_congr_left (xs := first) fun x hx => h x (by simp [hx]), Array.map_congr_left (xs := captured) fun x hx => h x (by simp [hx])]
  case slice t x lo hi mx => cases lo <;> cases hi <;> cases mx <;> simp_all
  case call c =>
    unfold callV
    have : c.args.toList.map ev = c.args.toList.map ev' := List.map_congr_left fun x hx => h x (by simp [Call.operands]; exact .inr (by simpa using hx))
    rw [this]
  all_goals (first | rfl | (simp_all; done))
theorem opE_congr {C : Oracle} {op : Op} {ev ev' : Operand → Value} (h : ∀ x ∈ op.operands, ev x = ev' x) (s : St) (k : Cont) : opE P C op ev s k = opE P C op ev' s k := by
  have pairs : ∀ ps : Array (Nat × Operand), (∀ x ∈ (ps.toList.map (·.2)).toArray, ev x = ev' x) → ∀ p ∈ ps.toList, ev p.2 = ev' p.2 :=
    fun ps hp p hm => hp p.2 (by simpa using ⟨p.1, by simpa using hm⟩)
  cases op <;> simp only [Op.operands] at h <;> simp only [opE]
  case buildSlice t n ps =>
    have := pairs ps h
    simp only [buildSliceOp]
    split
    · rename_i e he
      have hp : ∀ n, partsV P e ev ps.toList n = partsV P e ev' ps.toList n := fun n => partsV_congr ps.toList this
      simp only [hp]
    · rfl
  case call c =>
    unfold callOp
    have h1 : c.args.toList.map ev = c.args.toList.map ev' := List.map_congr_left fun x hx => h x (by simp [Call.operands]; exact .inr (by simpa using hx))
    rw [h1]
    cases hc : c.callee with
    | value f =>
      have : ev f = ev' f := h f (by simp [Call.operands, hc])
      simp only [this]
    | invoke f n =>
      have : ev f = ev' f := h f (by simp [Call.operands, hc])
      simp only [this]
    | _ => rfl
  all_goals (first | rfl | (simp_all; done))
/-- What neither does nor reads is the same in every heap. -/
theorem opV_still {op : Op} (he : isEff P op = false) (hr : isRead P op = false) (ev : Operand → Value) (s s' : St) : opV P op ev s = opV P op ev s' := by
  cases op <;> simp only [opV] <;> first
    | rfl
    | (simp [isRead] at hr; done)
    | skip
  case convert a b x =>
    simp only [isRead] at hr
    simp only [convV]
    split
    · rfl
    · rename_i e h1 h2; simp [h1, h2] at hr
    · rfl
    · rfl
  case call c =>
    simp only [isRead] at hr
    unfold callV
    split
    · rename_i b hb
      simp only [hb] at hr
      unfold builtinV
      split
      · split
        · rename_i t ts x xs hts hxs
          rw [hts] at hr
          simp only [readB] at hr
          unfold lenOp
          split
          · rfl
          · rfl
          · rename_i hm; simp [hm] at hr
          · rfl
          · rfl
        · rfl
      · rfl
      · rfl
      · rfl
      · rfl
    · rfl

/-! ### what waits for what -/
theorem testBit_foldl_edges (acc : Array Nat) (i : Nat) : ∀ (l : List Edge) (s : Nat), (l.foldl (fun s e => if Region.binds .any e then s ||| 2 ^ e.on ||| acc.getD e.on 0 else s) s).testBit i = true →
    s.testBit i = true ∨ ∃ e ∈ l, Region.binds .any e = true ∧ (e.on = i ∨ (acc.getD e.on 0).testBit i = true)
  | [], s, h => .inl h
  | e :: l, s, h => by
    rcases testBit_foldl_edges acc i l _ h with h | ⟨e', h1, h2⟩
    · dsimp only at h
      split at h
      · rename_i hb
        simp only [Nat.testBit_or, Bool.or_eq_true] at h
        rcases h with (h | h) | h
        · exact .inl h
        · refine .inr ⟨e, List.mem_cons_self .., hb, .inl ?_⟩
          rw [Nat.testBit_two_pow] at h
          simpa using h
        · exact .inr ⟨e, List.mem_cons_self .., hb, .inr h⟩
      · exact .inl h
    · exact .inr ⟨e', List.mem_cons_of_mem _ h1, h2⟩
/-- What an operation waits for: by an edge, or by an edge and on. -/
def BefOk (ops : List Oper) (acc : Array Nat) : Prop :=
  ∀ j i, j < acc.size → (acc.getD j 0).testBit i = true → ∃ o, ops[j]? = some o ∧ ∃ e ∈ o.after.toList, Region.binds .any e = true ∧ (e.on = i ∨ (e.on < j ∧ (acc.getD e.on 0).testBit i = true))
theorem before_go (ops : List Oper) : ∀ (l : List Oper) (acc : Array Nat), (∀ j, l[j]? = ops[acc.size + j]?) → BefOk ops acc →
    BefOk ops (l.foldl (fun acc o => acc.push (o.after.foldl (fun s e => if Region.binds .any e then s ||| 2 ^ e.on ||| acc.getD e.on 0 else s) 0)) acc)
  | [], acc, _, h => h
  | o :: l, acc, hl, h => by
    refine before_go ops l _ (fun j => by have := hl (j + 1); simpa [Nat.add_assoc, Nat.add_comm 1 j] using this) ?_
    intro j i hj hb
    have get : ∀ (m v : Nat), m < acc.size → (acc.push v).getD m 0 = acc.getD m 0 := by
      intro m v hm
      simp [Array.getD_eq_getD_getElem?, Array.getElem?_push, Nat.ne_of_lt hm]
    by_cases hja : j < acc.size
    · rw [get j _ hja] at hb
      obtain ⟨o', h1, e, h2, h3, h4⟩ := h j i hja hb
      refine ⟨o', h1, e, h2, h3, h4.imp id fun ⟨q1, q2⟩ => ⟨q1, ?_⟩⟩
      rw [get _ _ (by omega)]; exact q2
    · have : j = acc.size := by simp at hj; omega
      subst this
      have hv : ∀ v, (acc.push v).getD acc.size 0 = v := by intro v; simp [Array.getD_eq_getD_getElem?]
      rw [hv, ← Array.foldl_toList] at hb
      rcases testBit_foldl_edges acc i _ _ hb with hb | ⟨e, h1, h2, h3⟩
      · simp at hb
      · refine ⟨o, by simpa using (hl 0).symm, e, h1, h2, ?_⟩
        rcases h3 with h3 | h3
        · exact .inl h3
        · have hlt : e.on < acc.size := by
            rcases Nat.lt_or_ge e.on acc.size with h' | h'
            · exact h'
            · simp [Array.getD_eq_getD_getElem?, Array.getElem?_eq_none h'] at h3
          exact .inr ⟨hlt, by rw [get _ _ hlt]; exact h3⟩
/-- Whoever is listed was waited for by all that is listed. -/
def Closed (ops : Array Oper) (listed : Array Bool) : Prop :=
  ∀ j o, ops[j]? = some o → listed.getD j false = true → ∀ e ∈ o.after, Region.binds .any e = true → listed.getD e.on false = true
theorem before_spec (ops : Array Oper) : BefOk ops.toList (Region.before ops) := by
  unfold Region.before
  rw [← Array.foldl_toList]
  exact before_go ops.toList ops.toList #[] (fun j => by simp) (fun j i hj => by simp at hj)
theorem waits_listed {ops : Array Oper} {listed : Array Bool} (hc : Closed ops listed) {i : Nat} : ∀ (j : Nat) (o : Oper), ops[j]? = some o → (∀ e ∈ o.after, Region.binds .any e = true → listed.getD e.on false = true) →
    waits (Region.before ops).toList i j = true → listed.getD i false = true := by
  intro j
  induction j using Nat.strongRecOn with
  | _ j ih =>
    intro o ho ha hw
    have hw' : ((Region.before ops).getD j 0).testBit i = true := by
      unfold waits at hw
      simpa [List.getD, Array.getD_eq_getD_getElem?] using hw
    have hj : j < (Region.before ops).size := by
      rcases Nat.lt_or_ge j (Region.before ops).size with h' | h'
      · exact h'
      · simp [Array.getD_eq_getD_getElem?, Array.getElem?_eq_none h'] at hw'
    obtain ⟨o', h1, e, h2, h3, h4⟩ := before_spec ops j i hj hw'
    have : o' = o := by simp [ho] at h1; exact h1.symm
    subst this
    have hl := ha e (by simpa using h2) h3
    rcases h4 with rfl | ⟨h4, h5⟩
    · exact hl
    · have hlt : e.on < (Region.before ops).size := by omega
      obtain ⟨o2, g1, _⟩ := before_spec ops e.on i hlt h5
      have g1 : ops[e.on]? = some o2 := by simpa using g1
      refine ih e.on h4 o2 g1 (hc e.on o2 g1 hl) ?_
      unfold waits
      simpa [List.getD, Array.getD_eq_getD_getElem?] using h5
end
end Go.Abs
