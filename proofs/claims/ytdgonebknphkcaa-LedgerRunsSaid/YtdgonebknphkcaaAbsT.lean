/- Statements whose order Go leaves open: the order of the text serves every order. -/
import Derived.Test.YtdgonebknphkcaaAbsS
set_option linter.unusedSimpArgs false
set_option linter.unusedVariables false
namespace Go.Abs
open Go.RowKit (Below)

section
variable {P : Program} {B : Nat} {w0 : World} {ρ0 : Rho} {C : Oracle} {ops : Array Oper} {K : List Value → St → Prop}

theorem getT_setT : ∀ (t : List Value) (d n : Nat) (v : Value), d ≠ n → getT (setT t d v) n = getT t n
  | [], _, _, _, _ => rfl
  | _ :: _, 0, 0, _, h => absurd rfl h
  | _ :: _, 0, _ + 1, _, _ => rfl
  | _ :: _, _ + 1, 0, _, _ => rfl
  | _ :: t, d + 1, n + 1, v, h => getT_setT t d n v (by omega)
theorem setT_comm : ∀ (t : List Value) (d e : Nat) (v u : Value), d ≠ e → setT (setT t d v) e u = setT (setT t e u) d v
  | [], _, _, _, _, _ => rfl
  | _ :: _, 0, 0, _, _, h => absurd rfl h
  | _ :: _, 0, _ + 1, _, _, _ => rfl
  | _ :: _, _ + 1, 0, _, _, _ => rfl
  | x :: t, d + 1, e + 1, v, u, h => by simp only [setT]; rw [setT_comm t d e v u (by omega)]
theorem putT_comm (t : List Value) {x y : Option Tmp} (v u : Value) (h : ∀ d, x = some d → y ≠ some d) : putT (putT t x v) y u = putT (putT t y u) x v := by
  cases x with
  | none => rfl
  | some d =>
    cases y with
    | none => rfl
    | some e => exact setT_comm t d e v u fun he => h d rfl (he ▸ rfl)
theorem evA_put {t : List Value} {dst : Option Tmp} {v : Value} {x : Operand} (h : ∀ d, dst = some d → x ≠ .tmp d) : evA P (putT t dst v) x = evA P t x := by
  cases dst with
  | none => rfl
  | some d =>
    cases x with
    | tmp n => exact getT_setT t d n v fun e => h d rfl (e ▸ rfl)
    | _ => rfl
theorem evA_looks {t : List Value} {dst : Option Tmp} {v : Value} {o : Oper} (h : ∀ d, dst = some d → d ∉ o.looksAt ops) : ∀ x ∈ o.op.operands, evA P (putT t dst v) x = evA P t x :=
  fun x hx => evA_put fun d hd hxd => h d hd (by
    subst hxd
    exact List.mem_append_left _ (List.mem_filterMap.2 ⟨.tmp d, by simpa using hx, rfl⟩))
theorem wantA_put {t : List Value} {dst : Option Tmp} {v : Value} {o : Oper} (h : ∀ d, dst = some d → d ∉ o.looksAt ops) : wantA ops (putT t dst v) o = wantA ops t o := by
  cases dst with
  | none => rfl
  | some d =>
    unfold wantA
    cases hg : o.guard with
    | none => rfl
    | some g =>
      obtain ⟨j, want⟩ := g
      simp only
      cases hd : (ops[j]?).bind (·.dst) with
      | none => rfl
      | some e =>
        have hne : d ≠ e := by
          intro he; subst he
          refine h d rfl ?_
          unfold Oper.looksAt
          rw [hg]
          simp [hd]
        simp only [putT, getT_setT t d e v hne]

theorem stepX_mono {seen seen' : SeenX} {past past' : PastX} (hs : ∀ r ∈ seen, r ∈ seen') (hp : ∀ p ∈ past, p ∈ past') {i : Nat} {o : Oper} {t : List Value} {h : St} {next next' : List Value → St → Prop} (hn : ∀ t h, next' t h → next t h)
    (H : stepX P C ops seen' past' i o t h next') : stepX P C ops seen past i o t h next := by
  rcases H with ⟨h1, h2⟩ | ⟨h1, h2, h3, k, h4, h5⟩ | ⟨h1, h2, v, h3, h4, h5⟩
  · exact .inl ⟨h1, hn _ _ h2⟩
  · exact .inr (.inl ⟨h1, h2, fun p q => h3 p (hp p q), k, h4, fun v h' q => ⟨fun r hr => (h5 v h' q).1 r (hs r hr), hn _ _ (h5 v h' q).2⟩⟩)
  · exact .inr (.inr ⟨h1, h2, v, h3, fun p q => h4 p (hp p q), hn _ _ h5⟩)
theorem anyX_mono {seen seen' : SeenX} {past past' : PastX} (hs : ∀ r ∈ seen, r ∈ seen') (hp : ∀ p ∈ past, p ∈ past') : ∀ (n : Nat) (listed : Array Bool) (t : List Value) (h : St), anyX P C ops K seen' past' n listed t h → anyX P C ops K seen past n listed t h
  | 0, _, _, _, H => H
  | n + 1, _, _, _, H => ⟨H.1, fun i hi o ho => stepX_mono hs hp (fun t h q => anyX_mono hs hp n _ t h q) (H.2 i hi o ho)⟩

/-- What a quiet operation yields, wanted or not. -/
def Yl (P : Program) (ops : Array Oper) (past : PastX) (i : Nat) (o : Oper) (b : Bool) (v : Value) (t : List Value) (h : St) : Prop :=
  wantA ops t o = some b ∧ (b = false → v = undef) ∧ (b = true → isEff P o.op = false ∧ opV P o.op (evA P t) h = some v ∧ ∀ p ∈ past, waits (Region.before ops).toList p.1 i = false → opV P o.op (evA P t) p.2 = some v)
theorem Yl.step {past : PastX} {seen : SeenX} {i : Nat} {o : Oper} {b : Bool} {v : Value} {t : List Value} {h : St} (H : Yl P ops past i o b v t h) {next : List Value → St → Prop} (hn : next (putT t o.dst v) h) : stepX P C ops seen past i o t h next := by
  obtain ⟨h1, h2, h3⟩ := H
  cases b with
  | false => cases h2 rfl; exact .inl ⟨h1, hn⟩
  | true => obtain ⟨q1, q2, q3⟩ := h3 rfl; exact .inr (.inr ⟨h1, q1, v, q2, q3, hn⟩)
theorem Yl.put {past : PastX} {i : Nat} {o : Oper} {b : Bool} {v : Value} {t : List Value} {h h' : St} (H : Yl P ops past i o b v t h) {dst : Option Tmp} {u : Value} (hd : ∀ d, dst = some d → d ∉ o.looksAt ops)
    (hh : b = true → opV P o.op (evA P t) h' = some v) : Yl P ops past i o b v (putT t dst u) h' := by
  obtain ⟨h1, h2, h3⟩ := H
  refine ⟨by rw [wantA_put hd]; exact h1, h2, fun hb => ?_⟩
  obtain ⟨q1, q2, q3⟩ := h3 hb
  exact ⟨q1, by rw [opV_congr (evA_looks hd)]; exact hh hb, fun p hp hw => by rw [opV_congr (evA_looks hd)]; exact q3 p hp hw⟩

theorem Closed.set {listed : Array Bool} (hc : Closed ops listed) {i : Nat} (hi : i ∈ Region.ready .any ops listed) : Closed ops (listed.setIfInBounds i true) := by
  obtain ⟨hun, o, ho, hall⟩ := mem_ready.1 hi
  intro j oj hoj hj e he hb
  by_cases hji : j = i
  · subst hji
    have : oj = o := by rw [ho] at hoj; exact (Option.some.inj hoj).symm
    subst this
    exact getD_set_true (hall e he hb)
  · rw [getD_set_ne false (Ne.symm hji)] at hj
    exact getD_set_true (hc j oj hoj hj e he hb)
theorem unlisted_false {listed : Array Bool} {i : Nat} (h : listed.getD i true = false) : listed.getD i false = false := by
  rcases Nat.lt_or_ge i listed.size with h' | h'
  · simp [h'] at h ⊢; exact h
  · simp [Array.getElem?_eq_none h'] at h

/-- A quiet operation may be taken first. -/
theorem firstY {seen seen' : SeenX} {past : PastX} (hs : ∀ r ∈ seen, r ∈ seen') {i : Nat} {oi : Oper} (hi : ops[i]? = some oi) {b : Bool} {v : Value} {t0 : List Value}
    (hS : b = true → ∀ (j : Nat) (h' : St), waits (Region.before ops).toList i j = false → (∀ r ∈ seen', waits (Region.before ops).toList r.1 j = false → opV P r.2.1.op (evA P r.2.2.1) h' = some r.2.2.2) → opV P oi.op (evA P t0) h' = some v) :
    ∀ (n : Nat) (listed : Array Bool) (t : List Value) (h : St), Closed ops listed →
      (∀ j oj, ops[j]? = some oj → j ≠ i → listed.getD j true = false → (∀ e ∈ oj.after, Region.binds .any e = true → e.on ≠ i) → oi.apart ops oj = true) →
      i ∈ Region.ready .any ops listed → (∀ x ∈ oi.op.operands, evA P t x = evA P t0 x) → Yl P ops past i oi b v t h →
      anyX P C ops K seen' past n (listed.setIfInBounds i true) (putT t oi.dst v) h → anyX P C ops K seen past (n + 1) listed t h := by
  intro n
  induction n with
  | zero =>
    intro listed t h hcl _ hr _ hy H
    refine ⟨fun h => (by rw [h] at hr; cases hr), fun j hj oj hoj => ?_⟩
    by_cases hji : j = i
    · subst hji
      have : oj = oi := by rw [hi] at hoj; exact (Option.some.inj hoj).symm
      subst this
      exact hy.step (anyX_mono hs (fun _ h => h) 0 _ _ _ H)
    · have := ready_mono hj hji
      rw [H.1] at this
      cases this
  | succ n ih =>
    intro listed t h hcl hfree hr hev hy H
    refine ⟨fun h => (by rw [h] at hr; cases hr), fun j hj oj hoj => ?_⟩
    by_cases hji : j = i
    · subst hji
      have : oj = oi := by rw [hi] at hoj; exact (Option.some.inj hoj).symm
      subst this
      exact hy.step (anyX_mono hs (fun _ h => h) (n + 1) _ _ _ H)
    · have h1 := H.2 j (ready_mono hj hji) oj hoj
      obtain ⟨hjun, oj', hoj', hall⟩ := mem_ready.1 hj
      have : oj' = oj := by rw [hoj] at hoj'; exact (Option.some.inj hoj').symm
      subst this
      have hnot : ∀ e ∈ oj'.after, Region.binds .any e = true → e.on ≠ i := fun e he hb heq => by
        have h1 := hall e he hb
        have h0 := (mem_ready.1 hr).1
        rw [heq] at h1
        rcases Nat.lt_or_ge i listed.size with h' | h'
        · simp [h'] at h0 h1; rw [h0] at h1; cases h1
        · simp [Array.getElem?_eq_none h'] at h1
      have hiun := (mem_ready.1 hr).1
      have hnw : waits (Region.before ops).toList i j = false := by
        cases hx : waits (Region.before ops).toList i j with
        | false => rfl
        | true =>
          have := waits_listed hcl j oj' hoj hall hx
          rw [unlisted_false hiun] at this; cases this
      obtain ⟨a1, a2, a3⟩ := Oper.apart_spec (hfree j oj' hoj hji hjun hnot)
      have hfree' : ∀ k ok, ops[k]? = some ok → k ≠ i → (listed.setIfInBounds j true).getD k true = false →
          (∀ e ∈ ok.after, Region.binds .any e = true → e.on ≠ i) → oi.apart ops ok = true := fun k ok hk hki hun hno => by
        refine hfree k ok hk hki ?_ hno
        by_cases hjk : j = k
        · subst hjk; exact hjun
        · rw [getD_set_ne true hjk] at hun; exact hun
      have go : ∀ (u : Value) (h' : St), (b = true → opV P oi.op (evA P t) h' = some v) → anyX P C ops K seen' past n ((listed.setIfInBounds i true).setIfInBounds j true) (putT (putT t oi.dst v) oj'.dst u) h' →
          anyX P C ops K seen past (n + 1) (listed.setIfInBounds j true) (putT t oj'.dst u) h' := by
        intro u h' hh hx
        refine ih (listed.setIfInBounds j true) _ h' (hcl.set hj) hfree' (ready_mono hr (Ne.symm hji)) (fun x hx => by rw [evA_looks a3 x hx]; exact hev x hx) (hy.put a3 hh) ?_
        rw [Array.setIfInBounds_comm _ _ hji, ← putT_comm t v u a2]
        exact hx
      have hat : b = true → opV P oi.op (evA P t) h = some v := fun hb => (hy.2.2 hb).2.1
      rcases h1 with ⟨q1, q2⟩ | ⟨q1, q2, q3, k, q4, q5⟩ | ⟨q1, q2, u, q3, q4, q5⟩
      · rw [wantA_put a1] at q1
        exact .inl ⟨q1, go _ _ hat q2⟩
      · rw [wantA_put a1] at q1
        rw [opE_congr (evA_looks a1)] at q4
        refine .inr (.inl ⟨q1, q2, q3, k, q4, fun u h' hk => ⟨fun r hr => (q5 u h' hk).1 r (hs r hr), go u h' (fun hb => ?_) (q5 u h' hk).2⟩⟩)
        rw [opV_congr hev]
        exact hS hb j h' hnw (q5 u h' hk).1
      · rw [wantA_put a1] at q1
        rw [opV_congr (evA_looks a1)] at q3
        refine .inr (.inr ⟨q1, q2, u, q3, fun p hp hw => ?_, go u h hat q5⟩)
        have := q4 p hp hw
        rwa [opV_congr (evA_looks a1)] at this
end
end Go.Abs
