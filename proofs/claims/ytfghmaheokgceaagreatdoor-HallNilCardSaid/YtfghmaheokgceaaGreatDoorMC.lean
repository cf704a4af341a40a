/- Statements whose order Go leaves open: the order of the text serves every order. | Statements whose order Go leaves open: the order of the text serves every order (what is done), and the whole walk. | Statements whose order Go leaves open: what the evaluator asks is enough. | Specs of functions, and a table of them as an oracle. | Where a call starts: the old memory, read alone. | From a spec to what a law's row asks of the walk. | A slice of integers, or of structs of integers, that came in: its cells. | Laws for walks by 'simp': what the operations of the abstract machine do at values that are known. | Slices over the abstract heap: those that are read, one's own, appending. | Something comes of every evaluation: a spec that holds is live. -/
import Derived.Test.YtfghmaheokgceaaGreatDoorMB
import Derived.Deep.Slices
import Derived.Deep.Fields
import Derived.IntWalk
section
set_option linter.unusedSimpArgs false
set_option linter.unusedVariables false
namespace Go.Abs
open Go.RowKit (Below)

section
variable {P : Program} {B : Nat} {w0 : World} {ρ0 : Rho} {C : Oracle} {ops : Array Oper} {K : List Value → St → Prop}

theorem getT_setT : ∀ (t : List Value) (d n : Nat) (v : Value), d ≠ n → getT (setT t d v) n = getT t n
  | [], _, _, _, _ => rfl
  | _ :: _, 0, 0, _, h => absurd rfl h
  | _ :: _, 0, _ + 1, _, _ => rfl
  | _ :: _, _ + 1, 0, _, _ => rfl
  | _ :: t, d + 1, n + 1, v, h => getT_setT t d n v (by omega)
theorem setT_comm : ∀ (t : List Value) (d e : Nat) (v u : Value), d ≠ e → setT (setT t d v) e u = setT (setT t e u) d v
  | [], _, _, _, _, _ => rfl
  | _ :: _, 0, 0, _, _, h => absurd rfl h
  | _ :: _, 0, _ + 1, _, _, _ => rfl
  | _ :: _, _ + 1, 0, _, _, _ => rfl
  | x :: t, d + 1, e + 1, v, u, h => by simp only [setT]; rw [setT_comm t d e v u (by omega)]
theorem putT_comm (t : List Value) {x y : Option Tmp} (v u : Value) (h : ∀ d, x = some d → y ≠ some d) : putT (putT t x v) y u = putT (putT t y u) x v := by
  cases x with
  | none => rfl
  | some d =>
    cases y with
    | none => rfl
    | some e => exact setT_comm t d e v u fun he => h d rfl (he ▸ rfl)
theorem evA_put {t : List Value} {dst : Option Tmp} {v : Value} {x : Operand} (h : ∀ d, dst = some d → x ≠ .tmp d) : evA P (putT t dst v) x = evA P t x := by
  cases dst with
  | none => rfl
  | some d =>
    cases x with
    | tmp n => exact getT_setT t d n v fun e => h d rfl (e ▸ rfl)
    | _ => rfl
theorem evA_looks {t : List Value} {dst : Option Tmp} {v : Value} {o : Oper} (h : ∀ d, dst = some d → d ∉ o.looksAt ops) : ∀ x ∈ o.op.operands, evA P (putT t dst v) x = evA P t x :=
  fun x hx => evA_put fun d hd hxd => h d hd (by
    subst hxd
    exact List.mem_append_left _ (List.mem_filterMap.2 ⟨.tmp d, by simpa using hx, rfl⟩))
theorem wantA_put {t : List Value} {dst : Option Tmp} {v : Value} {o : Oper} (h : ∀ d, dst = some d → d ∉ o.looksAt ops) : wantA ops (putT t dst v) o = wantA ops t o := by
  cases dst with
  | none => rfl
  | some d =>
    unfold wantA
    cases hg : o.guard with
    | none => rfl
    | some g =>
      obtain ⟨j, want⟩ := g
      simp only
      cases hd : (ops[j]?).bind (·.dst) with
      | none => rfl
      | some e =>
        have hne : d ≠ e := by
          intro he; subst he
          refine h d rfl ?_
          unfold Oper.looksAt
          rw [hg]
          simp [hd]
        simp only [putT, getT_setT t d e v hne]

theorem stepX_mono {seen seen' : SeenX} {past past' : PastX} (hs : ∀ r ∈ seen, r ∈ seen') (hp : ∀ p ∈ past, p ∈ past') {i : Nat} {o : Oper} {t : List Value} {h : St} {next next' : List Value → St → Prop} (hn : ∀ t h, next' t h → next t h)
    (H : stepX P C ops seen' past' i o t h next') : stepX P C ops seen past i o t h next := by
  rcases H with ⟨h1, h2⟩ | ⟨h1, h2, h3, k, h4, h5⟩ | ⟨h1, h2, v, h3, h4, h5⟩
  · exact .inl ⟨h1, hn _ _ h2⟩
  · exact .inr (.inl ⟨h1, h2, fun p q => h3 p (hp p q), k, h4, fun v h' q => ⟨fun r hr => (h5 v h' q).1 r (hs r hr), hn _ _ (h5 v h' q).2⟩⟩)
  · exact .inr (.inr ⟨h1, h2, v, h3, fun p q => h4 p (hp p q), hn _ _ h5⟩)
theorem anyX_mono {seen seen' : SeenX} {past past' : PastX} (hs : ∀ r ∈ seen, r ∈ seen') (hp : ∀ p ∈ past, p ∈ past') : ∀ (n : Nat) (listed : Array Bool) (t : List Value) (h : St), anyX P C ops K seen' past' n listed t h → anyX P C ops K seen past n listed t h
  | 0, _, _, _, H => H
  | n + 1, _, _, _, H => ⟨H.1, fun i hi o ho => stepX_mono hs hp (fun t h q => anyX_mono hs hp n _ t h q) (H.2 i hi o ho)⟩

/-- What a quiet operation yields, wanted or not. -/
def Yl (P : Program) (ops : Array Oper) (past : PastX) (i : Nat) (o : Oper) (b : Bool) (v : Value) (t : List Value) (h : St) : Prop :=
  wantA ops t o = some b ∧ (b = false → v = undef) ∧ (b = true → isEff P o.op = false ∧ opV P o.op (evA P t) h = some v ∧ ∀ p ∈ past, waits (Region.before ops).toList p.1 i = false → opV P o.op (evA P t) p.2 = some v)
theorem Yl.step {past : PastX} {seen : SeenX} {i : Nat} {o : Oper} {b : Bool} {v : Value} {t : List Value} {h : St} (H : Yl P ops past i o b v t h) {next : List Value → St → Prop} (hn : next (putT t o.dst v) h) : stepX P C ops seen past i o t h next := by
  obtain ⟨h1, h2, h3⟩ := H
  cases b with
  | false => cases h2 rfl; exact .inl ⟨h1, hn⟩
  | true => obtain ⟨q1, q2, q3⟩ := h3 rfl; exact .inr (.inr ⟨h1, q1, v, q2, q3, hn⟩)
theorem Yl.put {past : PastX} {i : Nat} {o : Oper} {b : Bool} {v : Value} {t : List Value} {h h' : St} (H : Yl P ops past i o b v t h) {dst : Option Tmp} {u : Value} (hd : ∀ d, dst = some d → d ∉ o.looksAt ops)
    (hh : b = true → opV P o.op (evA P t) h' = some v) : Yl P ops past i o b v (putT t dst u) h' := by
  obtain ⟨h1, h2, h3⟩ := H
  refine ⟨by rw [wantA_put hd]; exact h1, h2, fun hb => ?_⟩
  obtain ⟨q1, q2, q3⟩ := h3 hb
  exact ⟨q1, by rw [opV_congr (evA_looks hd)]; exact hh hb, fun p hp hw => by rw [opV_congr (evA_looks hd)]; exact q3 p hp hw⟩

theorem Closed.set {listed : Array Bool} (hc : Closed ops listed) {i : Nat} (hi : i ∈ Region.ready .any ops listed) : Closed ops (listed.setIfInBounds i true) := by
  obtain ⟨hun, o, ho, hall⟩ := mem_ready.1 hi
  intro j oj hoj hj e he hb
  by_cases hji : j = i
  · subst hji
    have : oj = o := by rw [ho] at hoj; exact (Option.some.inj hoj).symm
    subst this
    exact getD_set_true (hall e he hb)
  · rw [getD_set_ne false (Ne.symm hji)] at hj
    exact getD_set_true (hc j oj hoj hj e he hb)
theorem unlisted_false {listed : Array Bool} {i : Nat} (h : listed.getD i true = false) : listed.getD i false = false := by
  rcases Nat.lt_or_ge i listed.size with h' | h'
  · simp [h'] at h ⊢; exact h
  · simp [Array.getElem?_eq_none h'] at h

/-- A quiet operation may be taken first. -/
theorem firstY {seen seen' : SeenX} {past : PastX} (hs : ∀ r ∈ seen, r ∈ seen') {i : Nat} {oi : Oper} (hi : ops[i]? = some oi) {b : Bool} {v : Value} {t0 : List Value}
    (hS : b = true → ∀ (j : Nat) (h' : St), waits (Region.before ops).toList i j = false → (∀ r ∈ seen', waits (Region.before ops).toList r.1 j = false → opV P r.2.1.op (evA P r.2.2.1) h' = some r.2.2.2) → opV P oi.op (evA P t0) h' = some v) :
    ∀ (n : Nat) (listed : Array Bool) (t : List Value) (h : St), Closed ops listed →
      (∀ j oj, ops[j]? = some oj → j ≠ i → listed.getD j true = false → (∀ e ∈ oj.after, Region.binds .any e = true → e.on ≠ i) → oi.apart ops oj = true) →
      i ∈ Region.ready .any ops listed → (∀ x ∈ oi.op.operands, evA P t x = evA P t0 x) → Yl P ops past i oi b v t h →
      anyX P C ops K seen' past n (listed.setIfInBounds i true) (putT t oi.dst v) h → anyX P C ops K seen past (n + 1) listed t h := by
  intro n
  induction n with
  | zero =>
    intro listed t h hcl _ hr _ hy H
    refine ⟨fun h => (by rw [h] at hr; cases hr), fun j hj oj hoj => ?_⟩
    by_cases hji : j = i
    · subst hji
      have : oj = oi := by rw [hi] at hoj; exact (Option.some.inj hoj).symm
      subst this
      exact hy.step (anyX_mono hs (fun _ h => h) 0 _ _ _ H)
    · have := ready_mono hj hji
      rw [H.1] at this
      cases this
  | succ n ih =>
    intro listed t h hcl hfree hr hev hy H
    refine ⟨fun h => (by rw [h] at hr; cases hr), fun j hj oj hoj => ?_⟩
    by_cases hji : j = i
    · subst hji
      have : oj = oi := by rw [hi] at hoj; exact (Option.some.inj hoj).symm
      subst this
      exact hy.step (anyX_mono hs (fun _ h => h) (n + 1) _ _ _ H)
    · have h1 := H.2 j (ready_mono hj hji) oj hoj
      obtain ⟨hjun, oj', hoj', hall⟩ := mem_ready.1 hj
      have : oj' = oj := by rw [hoj] at hoj'; exact (Option.some.inj hoj').symm
      subst this
      have hnot : ∀ e ∈ oj'.after, Region.binds .any e = true → e.on ≠ i := fun e he hb heq => by
        have h1 := hall e he hb
        have h0 := (mem_ready.1 hr).1
        rw [heq] at h1
        rcases Nat.lt_or_ge i listed.size with h' | h'
        · simp [h'] at h0 h1; rw [h0] at h1; cases h1
        · simp [Array.getElem?_eq_none h'] at h1
      have hiun := (mem_ready.1 hr).1
      have hnw : waits (Region.before ops).toList i j = false := by
        cases hx : waits (Region.before ops).toList i j with
        | false => rfl
        | true =>
          have := waits_listed hcl j oj' hoj hall hx
          rw [unlisted_false hiun] at this; cases this
      obtain ⟨a1, a2, a3⟩ := Oper.apart_spec (hfree j oj' hoj hji hjun hnot)
      have hfree' : ∀ k ok, ops[k]? = some ok → k ≠ i → (listed.setIfInBounds j true).getD k true = false →
          (∀ e ∈ ok.after, Region.binds .any e = true → e.on ≠ i) → oi.apart ops ok = true := fun k ok hk hki hun hno => by
        refine hfree k ok hk hki ?_ hno
        by_cases hjk : j = k
        · subst hjk; exact hjun
        · rw [getD_set_ne true hjk] at hun; exact hun
      have go : ∀ (u : Value) (h' : St), (b = true → opV P oi.op (evA P t) h' = some v) → anyX P C ops K seen' past n ((listed.setIfInBounds i true).setIfInBounds j true) (putT (putT t oi.dst v) oj'.dst u) h' →
          anyX P C ops K seen past (n + 1) (listed.setIfInBounds j true) (putT t oj'.dst u) h' := by
        intro u h' hh hx
        refine ih (listed.setIfInBounds j true) _ h' (hcl.set hj) hfree' (ready_mono hr (Ne.symm hji)) (fun x hx => by rw [evA_looks a3 x hx]; exact hev x hx) (hy.put a3 hh) ?_
        rw [Array.setIfInBounds_comm _ _ hji, ← putT_comm t v u a2]
        exact hx
      have hat : b = true → opV P oi.op (evA P t) h = some v := fun hb => (hy.2.2 hb).2.1
      rcases h1 with ⟨q1, q2⟩ | ⟨q1, q2, q3, k, q4, q5⟩ | ⟨q1, q2, u, q3, q4, q5⟩
      · rw [wantA_put a1] at q1
        exact .inl ⟨q1, go _ _ hat q2⟩
      · rw [wantA_put a1] at q1
        rw [opE_congr (evA_looks a1)] at q4
        refine .inr (.inl ⟨q1, q2, q3, k, q4, fun u h' hk => ⟨fun r hr => (q5 u h' hk).1 r (hs r hr), go u h' (fun hb => ?_) (q5 u h' hk).2⟩⟩)
        rw [opV_congr hev]
        exact hS hb j h' hnw (q5 u h' hk).1
      · rw [wantA_put a1] at q1
        rw [opV_congr (evA_looks a1)] at q3
        refine .inr (.inr ⟨q1, q2, u, q3, fun p hp hw => ?_, go u h hat q5⟩)
        have := q4 p hp hw
        rwa [opV_congr (evA_looks a1)] at this
end
end Go.Abs
end

section
set_option linter.unusedSimpArgs false
set_option linter.unusedVariables false
namespace Go.Abs
open Go.RowKit (Below)

section
variable {P : Program} {B : Nat} {w0 : World} {ρ0 : Rho} {C : Oracle} {ops : Array Oper} {K : List Value → St → Prop}

/-- What is done may be done first. -/
theorem firstE (HL : OracleLive C) {seen : SeenX} {past : PastX} {i : Nat} {oi : Oper} (hi : ops[i]? = some oi) (hE : isEff P oi.op = true) (hpast : ∀ p ∈ past, waits (Region.before ops).toList p.1 i = true) {h : St} {k : Cont} :
    ∀ (n : Nat) (listed : Array Bool) (t : List Value), Closed ops listed →
      (∀ j oj, ops[j]? = some oj → j ≠ i → listed.getD j true = false → (∀ e ∈ oj.after, Region.binds .any e = true → e.on ≠ i) → oi.apart ops oj = true) →
      i ∈ Region.ready .any ops listed → wantA ops t oi = some true → opE P C oi.op (evA P t) h k →
      (∀ v h', k v h' → (∀ r ∈ seen, waits (Region.before ops).toList r.1 i = false → opV P r.2.1.op (evA P r.2.2.1) h' = some r.2.2.2) ∧ anyX P C ops K seen ((i, h) :: past) n (listed.setIfInBounds i true) (putT t oi.dst v) h') → anyX P C ops K seen past (n + 1) listed t h := by
  intro n
  induction n with
  | zero =>
    intro listed t hcl _ hr hw hop H
    refine ⟨fun h => (by rw [h] at hr; cases hr), fun j hj oj hoj => ?_⟩
    by_cases hji : j = i
    · subst hji
      have : oj = oi := by rw [hi] at hoj; exact (Option.some.inj hoj).symm
      subst this
      exact .inr (.inl ⟨hw, hE, hpast, k, hop, fun v h' hk => ⟨(H v h' hk).1, anyX_mono (fun _ h => h) (fun p hp => List.mem_cons_of_mem _ hp) 0 _ _ _ (H v h' hk).2⟩⟩)
    · obtain ⟨v, h', hk⟩ := opE_live HL hop
      have := ready_mono hj hji
      rw [(H v h' hk).2.1] at this
      cases this
  | succ n ih =>
    intro listed t hcl hfree hr hw hop H
    refine ⟨fun h => (by rw [h] at hr; cases hr), fun j hj oj hoj => ?_⟩
    by_cases hji : j = i
    · subst hji
      have : oj = oi := by rw [hi] at hoj; exact (Option.some.inj hoj).symm
      subst this
      exact .inr (.inl ⟨hw, hE, hpast, k, hop, fun v h' hk => ⟨(H v h' hk).1, anyX_mono (fun _ h => h) (fun p hp => List.mem_cons_of_mem _ hp) (n + 1) _ _ _ (H v h' hk).2⟩⟩)
    · obtain ⟨hjun, oj', hoj', hall⟩ := mem_ready.1 hj
      have : oj' = oj := by rw [hoj] at hoj'; exact (Option.some.inj hoj').symm
      subst this
      have hiun := (mem_ready.1 hr).1
      have hnw : waits (Region.before ops).toList i j = false := by
        cases hx : waits (Region.before ops).toList i j with
        | false => rfl
        | true =>
          have := waits_listed hcl j oj' hoj hall hx
          rw [unlisted_false hiun] at this; cases this
      have hnot : ∀ e ∈ oj'.after, Region.binds .any e = true → e.on ≠ i := fun e he hb heq => by
        have h1 := hall e he hb
        rw [heq, unlisted_false hiun] at h1; cases h1
      obtain ⟨a1, a2, a3⟩ := Oper.apart_spec (hfree j oj' hoj hji hjun hnot)
      have hfree' : ∀ k ok, ops[k]? = some ok → k ≠ i → (listed.setIfInBounds j true).getD k true = false →
          (∀ e ∈ ok.after, Region.binds .any e = true → e.on ≠ i) → oi.apart ops ok = true := fun k ok hk hki hun hno => by
        refine hfree k ok hk hki ?_ hno
        by_cases hjk : j = k
        · subst hjk; exact hjun
        · rw [getD_set_ne true hjk] at hun; exact hun
      have go : ∀ (u : Value), (∀ v h', k v h' → anyX P C ops K seen ((i, h) :: past) n ((listed.setIfInBounds i true).setIfInBounds j true) (putT (putT t oi.dst v) oj'.dst u) h') →
          anyX P C ops K seen past (n + 1) (listed.setIfInBounds j true) (putT t oj'.dst u) h := by
        intro u hx
        refine ih (listed.setIfInBounds j true) _ (hcl.set hj) hfree' (ready_mono hr (Ne.symm hji)) (by rw [wantA_put a3]; exact hw) (by rw [opE_congr (evA_looks a3)]; exact hop) ?_
        intro v h' hk
        refine ⟨(H v h' hk).1, ?_⟩
        rw [Array.setIfInBounds_comm _ _ hji, ← putT_comm t v u a2]
        exact hx v h' hk
      have hstep := fun v h' hk => (H v h' hk).2.2 j (ready_mono hj hji) oj' hoj
      obtain ⟨v1, h1', hk1⟩ := opE_live HL hop
      rcases hstep v1 h1' hk1 with ⟨q1, _⟩ | ⟨q1, q2, q3, _⟩ | ⟨q1, q2, u, q3, q4, _⟩
      · rw [wantA_put a1] at q1
        refine .inl ⟨q1, go undef fun v h' hk => ?_⟩
        rcases hstep v h' hk with ⟨r1, r2⟩ | ⟨r1, _⟩ | ⟨r1, _⟩
        · exact r2
        · rw [wantA_put a1, q1] at r1; cases r1
        · rw [wantA_put a1, q1] at r1; cases r1
      · have := q3 (i, h) (List.mem_cons_self ..)
        rw [hnw] at this; cases this
      · rw [wantA_put a1] at q1
        have hu := q4 (i, h) (List.mem_cons_self ..) hnw
        rw [opV_congr (evA_looks a1)] at hu
        refine .inr (.inr ⟨q1, q2, u, hu, fun p hp hw => ?_, go u fun v h' hk => ?_⟩)
        · have := q4 p (List.mem_cons_of_mem _ hp) hw
          rwa [opV_congr (evA_looks a1)] at this
        · rcases hstep v h' hk with ⟨r1, _⟩ | ⟨r1, r2, _⟩ | ⟨r1, r2, u', r3, r4, r5⟩
          · rw [wantA_put a1, q1] at r1; cases r1
          · rw [q2] at r2; cases r2
          · have hu' := r4 (i, h) (List.mem_cons_self ..) hnw
            rw [opV_congr (evA_looks a1), hu] at hu'
            cases hu'
            exact r5

/-! ### the order of the text -/
def txtX (P : Program) (C : Oracle) (ops : Array Oper) (K : List Value → St → Prop) : List Oper → Nat → SeenX → PastX → List Value → St → Prop
  | [], _, _, _, t, h => K t h
  | o :: l, i, seen, past, t, h =>
    (wantA ops t o = some false ∧ txtX P C ops K l (i + 1) seen past (putT t o.dst undef) h) ∨
    (wantA ops t o = some true ∧ isEff P o.op = true ∧ (∀ p ∈ past, waits (Region.before ops).toList p.1 i = true) ∧
      ∃ k, opE P C o.op (evA P t) h k ∧ ∀ v h', k v h' → (∀ r ∈ seen, waits (Region.before ops).toList r.1 i = false → opV P r.2.1.op (evA P r.2.2.1) h' = some r.2.2.2) ∧ txtX P C ops K l (i + 1) seen ((i, h) :: past) (putT t o.dst v) h') ∨
    (wantA ops t o = some true ∧ isEff P o.op = false ∧
      ∃ v, opV P o.op (evA P t) h = some v ∧ (∀ p ∈ past, waits (Region.before ops).toList p.1 i = false → opV P o.op (evA P t) p.2 = some v) ∧ txtX P C ops K l (i + 1) ((i, o, t, v) :: seen) past (putT t o.dst v) h)
theorem anyX_txt (HL : OracleLive C) : ∀ (l : List Oper) (k : Nat) (seen : SeenX) (past : PastX) (listed : Array Bool) (t : List Value) (h : St), (∀ j, l[j]? = ops[k + j]?) → Closed ops listed →
    Region.lexFrom .any ops l.length k listed = true → txtX P C ops K l k seen past t h → anyX P C ops K seen past l.length listed t h
  | [], _, _, _, _, _, _, _, _, hB, H => ⟨by simpa [Region.lexFrom] using hB, H⟩
  | o :: l, k, seen, past, listed, t, h, hl, hcl, hB, H => by
    have h0 : ops[k]? = some o := by simpa using (hl 0).symm
    simp only [List.length_cons, Region.lexFrom, Bool.and_eq_true] at hB
    obtain ⟨⟨hr, hf⟩, hB'⟩ := hB
    have hr : k ∈ Region.ready .any ops listed := by simpa using hr
    have hl' : ∀ j, l[j]? = ops[k + 1 + j]? := fun j => by have := hl (j + 1); simpa [Nat.add_assoc, Nat.add_comm 1 j] using this
    have hfs := Region.free_spec h0 hf
    rcases H with ⟨q1, q2⟩ | ⟨q1, q2, q3, kk, q4, q5⟩ | ⟨q1, q2, v, q3, q4, q5⟩
    · exact firstY (fun _ h => h) h0 (b := false) (v := undef) (t0 := t) (fun h => by cases h) l.length listed t h hcl hfs hr (fun _ _ => rfl) ⟨q1, fun _ => rfl, fun h => by cases h⟩
        (anyX_txt HL l (k + 1) seen past _ _ h hl' (hcl.set hr) hB' q2)
    · exact firstE HL h0 q2 q3 l.length listed t hcl hfs hr q1 q4 fun v h' hk => ⟨(q5 v h' hk).1, anyX_txt HL l (k + 1) seen _ _ _ h' hl' (hcl.set hr) hB' (q5 v h' hk).2⟩
    · exact firstY (seen' := (k, o, t, v) :: seen) (fun r hr => List.mem_cons_of_mem _ hr) h0 (b := true) (v := v) (t0 := t) (fun _ j h' hw hh => hh (k, o, t, v) (List.mem_cons_self ..) hw) l.length listed t h hcl hfs hr (fun _ _ => rfl)
        ⟨q1, fun h => (by cases h), fun _ => ⟨q2, q3, q4⟩⟩ (anyX_txt HL l (k + 1) _ past _ _ h hl' (hcl.set hr) hB' q5)
theorem closed_none : Closed ops (Array.replicate ops.size false) := by
  intro j o ho hj
  have hlt : j < ops.size := (Array.getElem?_eq_some_iff.1 ho).1
  simp [hlt] at hj

/-- A statement whose order Go leaves open. -/
theorem wp_region_txt (hm : P.follows .mixedOrders = true) (HC : OracleOk P B w0 C) (HL : OracleLive C) {id : Nat} {Q : Exit → Act → World → Prop} (hQ : ∀ t h a w, K t h → SRel P B w0 ρ0 t h a w → Q .normal a w) (hB : Region.lexB .any ops = true)
    {t : List Value} {h : St} {a : Act} {w : World} (S : SRel P B w0 ρ0 t h a w) (H : txtX P C ops K ops.toList 0 [] [] t h) : (Code.region id ops true).wp P Q a w := by
  simp only [Region.lexB, Bool.and_eq_true] at hB
  obtain ⟨ρ, s1, s2, s3, s4⟩ := S
  refine wp_region_any hm (anyX_sound (seen := []) (past := []) HC hQ ops.size _ t h a _ ⟨ρ, s1, s2, s3.draw _, s4⟩ ?_)
  have := anyX_txt (K := K) HL ops.toList 0 [] [] (Array.replicate ops.size false) t h (by simp) closed_none (by simpa using hB.2) H
  simpa using this
end
end Go.Abs
end

section
set_option linter.unusedSimpArgs false
set_option linter.unusedVariables false
namespace Go.Abs
open Go.RowKit (Below)

section
variable {P : Program} {B : Nat} {w0 : World} {ρ0 : Rho} {C : Oracle} {ops : Array Oper} {K : List Value → St → Prop}

theorem effWaits_spec {bef : List Nat} {i : Nat} : ∀ {past : List (Nat × Option St)}, effWaits bef i past = true → ∀ p ∈ past, waits bef p.1 i = true
  | [], _, p, hp => by cases hp
  | (e, h) :: rs, H, p, hp => by
    simp only [effWaits, Bool.and_eq_true] at H
    cases hp with
    | head => exact H.1
    | tail _ hp => exact effWaits_spec H.2 p hp
theorem pastOk_spec {bef : List Nat} {i : Nat} {op : Op} {ev : Operand → Value} {v : Value} : ∀ {past : List (Nat × Option St)}, pastOk P bef i op ev v past → ∀ p ∈ past, waits bef p.1 i = false → ∃ h, p.2 = some h ∧ opV P op ev h = some v
  | [], _, p, hp, _ => by cases hp
  | (e, h) :: rs, H, p, hp, hw => by
    obtain ⟨h1, h2⟩ := H
    cases hp with
    | head =>
      simp only at hw
      rw [hw] at h1
      cases h with
      | none => exact h1.elim
      | some h => exact ⟨h, rfl, h1⟩
    | tail _ hp => exact pastOk_spec h2 p hp hw
/-- What was done, as far as it is known. -/
def CovP (px : PastX) (past : List (Nat × Option St)) : Prop := ∀ p ∈ px, (p.1, some p.2) ∈ past ∨ (p.1, none) ∈ past
theorem CovP.eff {px : PastX} {past : List (Nat × Option St)} (c : CovP px past) {bef : List Nat} {i : Nat} (h : effWaits bef i past = true) : ∀ p ∈ px, waits bef p.1 i = true := by
  intro p hp
  rcases c p hp with q | q
  · exact effWaits_spec h _ q
  · exact effWaits_spec h _ q
theorem CovP.past {px : PastX} {past : List (Nat × Option St)} (c : CovP px past) {bef : List Nat} {i : Nat} {op : Op} {ev : Operand → Value} {v : Value} (h : pastOk P bef i op ev v past) : ∀ p ∈ px, waits bef p.1 i = false → opV P op ev p.2 = some v := by
  intro p hp hw
  rcases c p hp with q | q
  · obtain ⟨h', e, q⟩ := pastOk_spec h _ q hw
    cases e
    exact q
  · obtain ⟨h', e, q⟩ := pastOk_spec h _ q hw
    cases e
theorem CovP.mono {px : PastX} {past past' : List (Nat × Option St)} (c : CovP px past) (h : ∀ p ∈ past, p ∈ past') : CovP px past' := fun p hp => (c p hp).imp (h _) (h _)
/-- The evaluator's list says no less. -/
def Cov (P : Program) (bef : List Nat) (seen : List Seen) (sx : SeenX) : Prop := ∀ j h', seenOk P bef j h' seen → ∀ r ∈ sx, waits bef r.1 j = false → opV P r.2.1.op (evA P r.2.2.1) h' = some r.2.2.2
theorem Cov.add {bef : List Nat} {seen : List Seen} {sx : SeenX} (hc : Cov P bef seen sx) {o : Oper} {i : Nat} {t : List Value} {v : Value} {h : St} (he : isEff P o.op = false) (hv : opV P o.op (evA P t) h = some v) : Cov P bef (addSeen P none o.op i t v seen) ((i, o, t, v) :: sx) := by
  intro j h' hs r hr hw
  unfold addSeen at hs
  cases hrd : isRead P o.op with
  | true =>
    rw [hrd] at hs
    cases hr with
    | head =>
      have := hs.1
      simp only at hw this
      rw [hw] at this
      exact this
    | tail _ hr => exact hc j h' hs.2 r hr hw
  | false =>
    rw [hrd] at hs
    cases hr with
    | head => rw [opV_still he hrd (evA P t) h' h]; exact hv
    | tail _ hr => exact hc j h' hs r hr hw
theorem Cov.eff {bef : List Nat} {seen : List Seen} {sx : SeenX} (hc : Cov P bef seen sx) {o : Oper} {i : Nat} {t : List Value} {v : Value} : Cov P bef (addSeen P none o.op i t v seen) sx := by
  intro j h' hs
  unfold addSeen at hs
  split at hs
  · exact hc j h' hs.2
  · exact hc j h' hs
theorem moved_spec {op : Op} {x : Operand} (h : moved op = some x) (ev : Operand → Value) (s : St) : opV P op ev s = some (ev x) ∧ isEff P op = false ∧ isRead P op = false := by
  unfold moved at h
  split at h
  · cases h; exact ⟨rfl, rfl, rfl⟩
  · cases h; exact ⟨rfl, rfl, rfl⟩
  · cases h

theorem stepD_txt {o : Oper} {l : List Oper} {i : Nat} {t : List Value} {h : St} {seen : List Seen} {past : List (Nat × Option St)} {sx : SeenX} {px : PastX} {k : Cont} (hc : Cov P (Region.before ops).toList seen sx) (hp : CovP px past) (hw : wantA ops t o = some true)
    (H : stepD P C (Region.before ops).toList o.op i t h seen past k)
    (hE : ∀ v h', isEff P o.op = true → k v h' → txtX P C ops K l (i + 1) sx ((i, h) :: px) (putT t o.dst v) h')
    (hR : ∀ v, isEff P o.op = false → opV P o.op (evA P t) h = some v → k v h → txtX P C ops K l (i + 1) ((i, o, t, v) :: sx) px (putT t o.dst v) h) : txtX P C ops K (o :: l) i sx px t h := by
  unfold stepD at H
  split at H
  · rename_i x hx
    rw [evK_eq] at H
    obtain ⟨q1, q2, q3⟩ := moved_spec (P := P) hx (evA P t) h
    exact .inr (.inr ⟨hw, q2, _, q1, fun p _ _ => (moved_spec (P := P) hx (evA P t) p.2).1, hR _ q2 q1 H⟩)
  · split at H
    · rename_i he
      split at H
      · rename_i hew
        exact .inr (.inl ⟨hw, he, hp.eff hew, _, H, fun v h' hk => ⟨hc i h' hk.1, hE v h' he hk.2⟩⟩)
      · exact H.elim
    · rename_i he
      split at H
      · cases hv : opV P o.op (evA P t) h with
        | none => rw [hv] at H; exact H.elim
        | some v =>
          rw [hv] at H
          exact .inr (.inr ⟨hw, he, v, hv, hp.past H.1, hR v he hv H.2⟩)
      · rename_i hrd
        cases hv : opV P o.op (evA P t) h with
        | none => rw [hv] at H; exact H.elim
        | some v =>
          rw [hv] at H
          exact .inr (.inr ⟨hw, he, v, hv, fun p _ _ => by rw [opV_still he hrd (evA P t) p.2 h]; exact hv, hR v he hv H⟩)

/-! ### groups -/
def runSeen (P : Program) (xs : List Value) : List Oper → Nat → Nat → List Value → List Seen → List Seen
  | [], _, _, _, seen => seen
  | o :: l, i, k, t, seen => runSeen P xs l (i + 1) (k + 1) (putT t o.dst (getT xs k)) (addSeen P none o.op i t (getT xs k) seen)
theorem seenIn_mono {g : Value × Bool} {xs : List Value} {bef : List Nat} {j : Nat} {h' : St} : ∀ (l : List Oper) (i k : Nat) (t : List Value) (seen : List Seen), seenOk P bef j h' (seenIn P g xs l i k t seen) → seenOk P bef j h' seen
  | [], _, _, _, _, H => H
  | o :: l, i, k, t, seen, H => by
    have := seenIn_mono l (i + 1) (k + 1) _ _ H
    unfold addSeen at this
    split at this
    · exact this.2
    · exact this
theorem seenIn_run {g : Value} {want : Bool} (hg : g = .bool want) {xs : List Value} {bef : List Nat} {j : Nat} {h' : St} : ∀ (l : List Oper) (i k : Nat) (t : List Value) (seen seen' : List Seen), (seenOk P bef j h' seen → seenOk P bef j h' seen') →
    seenOk P bef j h' (seenIn P (g, want) xs l i k t seen) → seenOk P bef j h' (runSeen P xs l i k t seen')
  | [], _, _, _, _, _, hs, H => hs H
  | o :: l, i, k, t, seen, seen', hs, H => by
    refine seenIn_run hg l (i + 1) (k + 1) _ _ _ ?_ H
    intro q
    unfold addSeen at q ⊢
    split
    · rename_i hr
      rw [hr] at q
      refine ⟨?_, hs q.2⟩
      have := q.1
      simp only at this ⊢
      cases hw : waits bef i j with
      | true => trivial
      | false =>
        rw [hw] at this
        subst hg
        cases want <;> exact this
    · rename_i hr
      rw [hr] at q
      exact hs q
theorem doneIn_mono : ∀ (h : Option St) (l : List Oper) (i : Nat) (past : List (Nat × Option St)), ∀ p ∈ past, p ∈ doneIn P h l i past
  | _, [], _, _, p, hp => hp
  | h, o :: l, i, past, p, hp => by
    refine doneIn_mono _ l (i + 1) _ p ?_
    unfold addPast
    split
    · exact List.mem_cons_of_mem _ hp
    · exact hp
theorem wantA_group {o : Oper} {j d : Nat} {want : Bool} (hg : o.guard = some (j, want)) (hd : (ops[j]?).bind (·.dst) = some d) {t : List Value} {b : Bool} (hb : getT t d = .bool b) : wantA ops t o = some (b == want) := by
  unfold wantA; simp only [hg, hd, hb]
theorem wantA_group0 {o : Oper} {j d : Nat} {want : Bool} (hg : o.guard = some (j, want)) (hd : (ops[j]?).bind (·.dst) = some d) {t : List Value} {vs : Array Value} (hb : getT t d = .tuple vs) (hz : vs.toList = []) : wantA ops t o = some false := by
  have hz' : vs.size = 0 := by rw [← Array.length_toList, hz]; rfl
  unfold wantA; simp only [hg, hd, hb, hz', if_true]
theorem getT_free {o : Oper} {l : List Oper} {d : Nat} (hf : free d (o :: l) = true) (t : List Value) (v : Value) : getT (putT t o.dst v) d = getT t d ∧ free d l = true := by
  simp only [free, Bool.and_eq_true] at hf
  refine ⟨?_, hf.2⟩
  cases ho : o.dst with
  | none => rfl
  | some e =>
    rw [ho] at hf
    refine getT_setT t e d v ?_
    intro he; subst he
    have h1 := hf.1
    simp only [Bool.not_eq_true'] at h1
    rw [Nat.beq_refl] at h1; cases h1

/-- The heap ahead of a group's later operations, where it is known. -/
def Known (oh : Option St) (h : St) : Prop := oh = none ∨ oh = some h
theorem CovP.add {px : PastX} {past : List (Nat × Option St)} (c : CovP px past) {o : Op} {i : Nat} {h : St} {oh : Option St} (hk : Known oh h) (he : isEff P o = true) : CovP ((i, h) :: px) (addPast P o i oh past) := by
  intro p hp
  unfold addPast
  rw [he]
  cases hp with
  | head =>
    rcases hk with rfl | rfl
    · exact .inr (List.mem_cons_self ..)
    · exact .inl (List.mem_cons_self ..)
  | tail _ hp => exact (c p hp).imp (List.mem_cons_of_mem _) (List.mem_cons_of_mem _)
theorem addPast_none {o : Op} {i : Nat} {oh : Option St} {past : List (Nat × Option St)} (he : isEff P o = false) : addPast P o i oh past = past := by unfold addPast; rw [he]

theorem runD_txt {j d : Nat} {want : Bool} (hd : (ops[j]?).bind (·.dst) = some d) {rest : List Oper} {J : List Value → St → Prop} :
    ∀ (l : List Oper) (i : Nat) (t : List Value) (h : St) (oh : Option St) (acc : List Value) (seen : List Seen) (past past' : List (Nat × Option St)) (sx : SeenX) (px : PastX), GuardOk j want l → free d l = true → getT t d = .bool want → Cov P (Region.before ops).toList seen sx → CovP px past → CovP px past' → Known oh h →
      runD P C (Region.before ops).toList l i t h seen past acc J →
      (∀ vs h' sx' px', J (acc ++ vs) h' → Cov P (Region.before ops).toList (runSeen P (acc ++ vs) l i acc.length t seen) sx' → CovP px' (doneIn P oh l i past') → txtX P C ops K rest (i + l.length) sx' px' (putsT (acc ++ vs) l acc.length t) h') →
      txtX P C ops K (l ++ rest) i sx px t h
  | [], i, t, h, oh, acc, seen, past, past', sx, px, _, _, _, hc, hp, hp', _, hk, hn => hn [] h sx px (by simpa [runD] using hk) hc hp'
  | o :: l, i, t, h, oh, acc, seen, past, past', sx, px, hg, hf, hb, hc, hp, hp', hoh, hk, hn => by
    have hgo := hg o (List.mem_cons_self ..)
    have hgl : GuardOk j want l := fun x hx => hg x (List.mem_cons_of_mem _ hx)
    have hw : wantA ops t o = some true := by rw [wantA_group hgo hd hb]; simp
    have next : ∀ v h' sx' px', runD P C (Region.before ops).toList l (i + 1) (putT t o.dst v) h' (addSeen P none o.op i t v seen) (addPast P o.op i (some h) past) (acc ++ [v]) J →
        Cov P (Region.before ops).toList (addSeen P none o.op i t v seen) sx' → CovP px' (addPast P o.op i (some h) past) → CovP px' (addPast P o.op i oh past') → Known (restH P o.op oh) h' → txtX P C ops K (l ++ rest) (i + 1) sx' px' (putT t o.dst v) h' := by
      intro v h' sx' px' hk' hc' hp1 hp2 hoh'
      obtain ⟨e1, e2⟩ := getT_free hf t v
      refine runD_txt hd l (i + 1) _ h' (restH P o.op oh) (acc ++ [v]) _ _ (addPast P o.op i oh past') sx' px' hgl e2 (by rw [e1]; exact hb) hc' hp1 hp2 hoh' hk' ?_
      intro vs h2 sx2 px2 hJ hc2 hp2
      have q := hn (v :: vs) h2 sx2 px2 (by simpa using hJ) (by simpa [runSeen, getT_append] using hc2) hp2
      have e : i + (o :: l).length = i + 1 + l.length := by simp; omega
      rw [e] at q
      simpa [putsT, getT_append] using q
    refine stepD_txt hc hp hw hk ?_ ?_
    · intro v h' he hk'
      exact next v h' sx _ hk' hc.eff (hp.add (.inr rfl) he) (hp'.add hoh he) (.inl (by unfold restH; rw [he]))
    · intro v he hv hk'
      refine next v h _ px hk' (hc.add he hv) (by rw [addPast_none he]; exact hp) (by rw [addPast_none he]; exact hp') ?_
      unfold restH; rw [he]; exact hoh
theorem skipD_txt {j : Nat} {want : Bool} {d : Nat} (hd : (ops[j]?).bind (·.dst) = some d) {rest : List Oper} {h : St} {sx : SeenX} {px : PastX} :
    ∀ (l : List Oper) (i : Nat) (t : List Value), GuardOk j want l → free d l = true → (∀ o ∈ l, ∀ t', getT t' d = getT t d → wantA ops t' o = some false) →
      txtX P C ops K rest (i + l.length) sx px (l.foldl (fun t o => putT t o.dst undef) t) h → txtX P C ops K (l ++ rest) i sx px t h
  | [], _, _, _, _, _, H => H
  | o :: l, i, t, hg, hf, hw, H => by
    obtain ⟨e1, e2⟩ := getT_free hf t undef
    refine .inl ⟨hw o (List.mem_cons_self ..) t rfl, ?_⟩
    refine skipD_txt hd l (i + 1) _ (fun x hx => hg x (List.mem_cons_of_mem _ hx)) e2 (fun o ho t' ht' => hw o (List.mem_cons_of_mem _ ho) t' (by rw [ht', e1])) ?_
    have e : i + (o :: l).length = i + 1 + l.length := by simp; omega
    rw [e] at H
    exact H
theorem guardK_abs {v : Value} {want : Bool} {yes no : Prop} (H : guardK v want yes no) : (yes ∧ v = .bool want) ∨ (no ∧ ((∃ b, v = .bool b ∧ (b == want) = false) ∨ ∃ vs : Array Value, v = .tuple vs ∧ vs.toList = [])) := by
  unfold guardK at H
  split at H
  · rename_i b
    cases b <;> cases want <;> first
      | exact .inl ⟨H, rfl⟩
      | exact .inr ⟨H, .inl ⟨_, rfl, rfl⟩⟩
  · rename_i vs
    split at H
    · rename_i hz; exact .inr ⟨H, .inr ⟨vs, rfl, hz⟩⟩
    · exact H.elim
  · exact H.elim

theorem regD_txt : ∀ (gs : List Group) (i : Nat) (t : List Value) (h : St) (seen : List Seen) (past : List (Nat × Option St)) (sx : SeenX) (px : PastX), GroupsOk gs → Cov P (Region.before ops).toList seen sx → CovP px past →
    regD P C idG ops (Region.before ops).toList gs i t h seen past K → txtX P C ops K (flatG gs) i sx px t h
  | [], _, _, _, _, _, _, _, _, _, _, H => H
  | .one o :: r, i, t, h, seen, past, sx, px, hg, hc, hp, H => by
    have hw : wantA ops t o = some true := by unfold wantA; simp only [hg.1]
    refine stepD_txt (l := flatG r) hc hp hw H ?_ ?_
    · intro v h' he hk
      exact regD_txt r (i + 1) _ h' _ _ sx _ hg.2 hc.eff (hp.add (.inr rfl) he) hk
    · intro v he hv hk
      refine regD_txt r (i + 1) _ h _ _ _ px hg.2 (hc.add he hv) ?_ hk
      rw [addPast_none he]
      exact hp
  | .many j want l :: r, i, t, h, seen, past, sx, px, hg, hc, hp, H => by
    simp only [regD] at H
    split at H
    · rename_i d hs
      obtain ⟨hd, hf⟩ := guardSlot_spec hs
      rcases guardK_abs H with ⟨H, hb⟩ | ⟨H, hb⟩
      · refine runD_txt hd l i t h (some h) [] seen past past sx px hg.1 hf hb hc hp hp (.inr rfl) H ?_
        intro vs h' sx' px' hJ hc' hp'
        simp only [idG, forceT_eq, List.nil_append, List.length_nil] at hJ hc' ⊢
        exact regD_txt r _ _ h' _ _ sx' px' hg.2 (fun j h2 q => hc' j h2 (seenIn_run hb l i 0 t seen seen id q)) hp' hJ
      · simp only [idG, forceT_eq] at H
        refine skipD_txt hd l i t hg.1 hf ?_ ?_
        · intro o ho t' ht'
          rcases hb with ⟨b, hb, hne⟩ | ⟨vs, hb, hz⟩
          · rw [wantA_group (hg.1 o ho) hd (ht'.trans hb), hne]
          · exact wantA_group0 (hg.1 o ho) hd (ht'.trans hb) hz
        · have := putsT_undefs l [] t 0 rfl
          rw [List.nil_append] at this
          rw [this] at H
          exact regD_txt r _ _ h _ _ sx px hg.2 (fun j h2 q => hc j h2 (seenIn_mono l i 0 t seen q)) (hp.mono (doneIn_mono _ l i past)) H
    · exact H.elim
/-! ### things done in an order that Go leaves open -/
/-- The orders that a statement may be done in. -/
def Lin (ops : Array Oper) : Nat → Array Bool → List Nat → Prop
  | 0, _, lin => lin = []
  | n + 1, listed, lin => (lin = [] ∧ Region.ready .any ops listed = []) ∨ ∃ i rest, lin = i :: rest ∧ i ∈ Region.ready .any ops listed ∧ Lin ops n (listed.setIfInBounds i true) rest
theorem wpAny_lin {Q : Exit → Act → World → Prop} : ∀ (n : Nat) (listed : Array Bool) (lin : List Nat) (a : Act) (w : World), wpAny P .any ops Q n listed a w → Lin ops n listed lin → wpOps P ops Q lin a w
  | 0, _, _, a, w, h, hl => by
    cases (show _ = [] from hl)
    simpa [wpOps] using h.2
  | n + 1, listed, lin, a, w, h, hl => by
    rcases hl with ⟨rfl, h0⟩ | ⟨i, rest, rfl, hi, hl⟩
    · simpa [wpOps] using h.1 h0
    · rw [wpOps_cons]
      exact wpOp_mono (fun a w hh => wpAny_lin n _ rest a w hh hl) (h.2 i hi)
theorem lin_of_go : ∀ (fuel t : Nat) (listed : Array Bool), Lin ops fuel listed (Region.linearise.go .any ops fuel t listed []) := by
  intro fuel
  induction fuel with
  | zero => intro t listed; simp [Region.linearise.go, Lin]
  | succ fuel ih =>
    intro t listed
    simp only [Region.linearise.go]
    change Lin ops (fuel + 1) listed (match (Region.ready .any ops listed)[t % (Region.ready .any ops listed).length]? with
      | some i => Region.linearise.go .any ops fuel (t / (Region.ready .any ops listed).length) (listed.setIfInBounds i true) [i]
      | none => [].reverse)
    cases hi : (Region.ready .any ops listed)[t % (Region.ready .any ops listed).length]? with
    | none =>
      refine .inl ⟨rfl, ?_⟩
      cases hr : Region.ready .any ops listed with
      | nil => rfl
      | cons x xs =>
        rw [hr] at hi
        have hlt : t % (x :: xs).length < (x :: xs).length := Nat.mod_lt _ (by simp)
        simp at hi
        simp at hlt
        omega
    | some i =>
      refine .inr ⟨i, _, ?_, List.mem_of_getElem? hi, ih (t / (Region.ready .any ops listed).length) _⟩
      simp only []
      rw [linearise_go_acc, List.reverse_singleton, List.singleton_append]
theorem wp_region_each (hm : P.follows .mixedOrders = true) {id : Nat} {Q : Exit → Act → World → Prop} {a : Act} {w : World} (H : ∀ lin, Lin ops ops.size (Array.replicate ops.size false) lin → wpOps P ops Q lin a { w with drawn := w.drawn + 1 }) : (Code.region id ops true).wp P Q a w :=
  wp_region_draw fun t => by
    simp only [Region.schedule, hm, Bool.true_or, if_true]
    exact H _ (lin_of_go ops.size t _)
theorem addEdge_get (ops : Array Oper) (f e j : Nat) : (addEdge ops f e)[j]? = (ops[j]?).map fun o => if j = f then { o with after := o.after.push ⟨e, .data⟩ } else o := by
  unfold addEdge
  cases hf : ops[f]? with
  | none =>
    simp only
    cases hj : ops[j]? with
    | none => rfl
    | some o =>
      have : j ≠ f := by intro h; subst h; rw [hf] at hj; cases hj
      simp [this]
  | some o =>
    simp only
    have hlt := (Array.getElem?_eq_some_iff.1 hf).1
    rw [Array.getElem?_setIfInBounds]
    by_cases h : f = j
    · subst h; rw [hf]; simp [hlt]
    · rw [if_neg h]
      cases hj : ops[j]? with
      | none => rfl
      | some o => simp [Ne.symm h]
theorem addEdge_size (ops : Array Oper) (f e : Nat) : (addEdge ops f e).size = ops.size := by
  unfold addEdge; split <;> simp
theorem wpOp_addEdge {Q : Exit → Act → World → Prop} {f e i : Nat} {K : Act → World → Prop} {a : Act} {w : World} : wpOp P (addEdge ops f e) Q i K a w = wpOp P ops Q i K a w := by
  have hy : yielded (addEdge ops f e) a.tmps = yielded ops a.tmps := by
    funext j
    unfold yielded
    rw [addEdge_get]
    cases hj : ops[j]? with
    | none => rfl
    | some o => by_cases h : j = f <;> simp [h]
  unfold wpOp
  rw [addEdge_get, hy]
  cases hi : ops[i]? with
  | none => rfl
  | some o => by_cases h : i = f <;> simp only [Option.map_some, h, if_true, if_false] <;> rfl
theorem wpOps_addEdge {Q : Exit → Act → World → Prop} {f e : Nat} : ∀ (lin : List Nat) (a : Act) (w : World), wpOps P (addEdge ops f e) Q lin a w = wpOps P ops Q lin a w
  | [], a, w => by simp [wpOps]
  | i :: l, a, w => by
    rw [wpOps_cons, wpOps_cons, wpOp_addEdge]
    congr 1
    funext a w
    exact wpOps_addEdge l a w
theorem ready_addEdge {f e i : Nat} {listed : Array Bool} (h : i ∈ Region.ready .any ops listed) (he : i = f → listed.getD e false = true) : i ∈ Region.ready .any (addEdge ops f e) listed := by
  obtain ⟨h1, o, h2, h3⟩ := mem_ready.1 h
  refine mem_ready.2 ⟨h1, if i = f then { o with after := o.after.push ⟨e, .data⟩ } else o, by rw [addEdge_get, h2]; rfl, ?_⟩
  by_cases hf : i = f
  · rw [if_pos hf]
    intro x hx hb
    rcases Array.mem_push.1 hx with hx | rfl
    · exact h3 x hx hb
    · exact he hf
  · rw [if_neg hf]; exact h3
theorem ready_of_addEdge {f e i : Nat} {listed : Array Bool} (h : i ∈ Region.ready .any (addEdge ops f e) listed) : i ∈ Region.ready .any ops listed := by
  obtain ⟨h1, o, h2, h3⟩ := mem_ready.1 h
  rw [addEdge_get] at h2
  cases hi : ops[i]? with
  | none => rw [hi] at h2; cases h2
  | some o' =>
    rw [hi] at h2
    simp only [Option.map_some, Option.some.injEq] at h2
    refine mem_ready.2 ⟨h1, o', hi, fun x hx hb => h3 x ?_ hb⟩
    rw [← h2]
    split
    · exact Array.mem_push.2 (.inl hx)
    · exact hx
theorem lin_addEdge {f e : Nat} : ∀ (n : Nat) (listed : Array Bool) (lin : List Nat), Lin ops n listed lin → (∀ l1 l2, lin = l1 ++ f :: l2 → e ∈ l1 ∨ listed.getD e false = true) → Lin (addEdge ops f e) n listed lin
  | 0, _, _, h, _ => h
  | n + 1, listed, lin, h, hf => by
    rcases h with ⟨rfl, h0⟩ | ⟨i, rest, rfl, hi, hl⟩
    · refine .inl ⟨rfl, ?_⟩
      cases hr : Region.ready .any (addEdge ops f e) listed with
      | nil => rfl
      | cons x xs =>
        have := ready_of_addEdge (ops := ops) (f := f) (e := e) (i := x) (listed := listed) (by rw [hr]; exact List.mem_cons_self ..)
        rw [h0] at this; cases this
    · refine .inr ⟨i, rest, rfl, ready_addEdge hi fun hif => ?_, lin_addEdge n _ rest hl fun l1 l2 hr => ?_⟩
      · rcases hf [] rest (by rw [hif]; rfl) with h | h
        · cases h
        · exact h
      · rcases hf (i :: l1) l2 (by rw [hr]; rfl) with h | h
        · rcases List.mem_cons.1 h with rfl | h
          · right
            have h1 := (mem_ready.1 hi).1
            have hlt : e < listed.size := by
              rcases Nat.lt_or_ge e listed.size with h | h
              · exact h
              · simp [Array.getElem?_eq_none h] at h1
            simp [hlt]
          · exact .inl h
        · exact .inr (getD_set_true h)
theorem first_of {e f : Nat} (hne : e ≠ f) : ∀ lin : List Nat, (∀ l1 l2, lin = l1 ++ f :: l2 → e ∈ l1) ∨ (∀ l1 l2, lin = l1 ++ e :: l2 → f ∈ l1)
  | [] => .inl fun l1 l2 h => by cases l1 <;> cases h
  | x :: l => by
    by_cases hx : x = e
    · subst hx
      refine .inl fun l1 l2 h => ?_
      cases l1 with
      | nil => simp at h; exact absurd h.1 hne
      | cons y l1 => simp at h; simp [h.1]
    · by_cases hy : x = f
      · subst hy
        refine .inr fun l1 l2 h => ?_
        cases l1 with
        | nil => simp at h; exact absurd h.1 (Ne.symm hne)
        | cons y l1 => simp at h; simp [h.1]
      · rcases first_of hne l with ih | ih
        · refine .inl fun l1 l2 h => ?_
          cases l1 with
          | nil => simp at h; exact absurd h.1 hy
          | cons y l1 => simp at h; exact List.mem_cons_of_mem _ (ih l1 l2 h.2)
        · refine .inr fun l1 l2 h => ?_
          cases l1 with
          | nil => simp at h; exact absurd h.1 hx
          | cons y l1 => simp at h; exact List.mem_cons_of_mem _ (ih l1 l2 h.2)

/-- In an order that is given. -/
def txtO (P : Program) (C : Oracle) (ops : Array Oper) (K : List Value → St → Prop) : List Nat → SeenX → PastX → List Value → St → Prop
  | [], _, _, t, h => K t h
  | i :: l, seen, past, t, h => ∃ o, ops[i]? = some o ∧ wantA ops t o = some true ∧
    ((isEff P o.op = true ∧ (∀ p ∈ past, waits (Region.before ops).toList p.1 i = true) ∧
      ∃ k, opE P C o.op (evA P t) h k ∧ ∀ v h', k v h' → (∀ r ∈ seen, waits (Region.before ops).toList r.1 i = false → opV P r.2.1.op (evA P r.2.2.1) h' = some r.2.2.2) ∧ txtO P C ops K l seen ((i, h) :: past) (putT t o.dst v) h') ∨
    (isEff P o.op = false ∧
      ∃ v, opV P o.op (evA P t) h = some v ∧ (∀ p ∈ past, waits (Region.before ops).toList p.1 i = false → opV P o.op (evA P t) p.2 = some v) ∧ txtO P C ops K l ((i, o, t, v) :: seen) past (putT t o.dst v) h))
theorem anyX_txtO (HL : OracleLive C) : ∀ (l : List Nat) (seen : SeenX) (past : PastX) (listed : Array Bool) (t : List Value) (h : St), Closed ops listed →
    ordOk ops l listed = true → txtO P C ops K l seen past t h → anyX P C ops K seen past l.length listed t h
  | [], _, _, _, _, _, _, hB, H => ⟨by simpa [ordOk] using hB, H⟩
  | i :: l, seen, past, listed, t, h, hcl, hB, H => by
    simp only [ordOk, Bool.and_eq_true] at hB
    obtain ⟨⟨hr, hf⟩, hB'⟩ := hB
    have hr : i ∈ Region.ready .any ops listed := by simpa using hr
    obtain ⟨o, h0, q1, H⟩ := H
    have hfs := Region.free_spec h0 hf
    rcases H with ⟨q2, q3, kk, q4, q5⟩ | ⟨q2, v, q3, q4, q5⟩
    · exact firstE HL h0 q2 q3 l.length listed t hcl hfs hr q1 q4 fun v h' hk => ⟨(q5 v h' hk).1, anyX_txtO HL l seen _ _ _ h' (hcl.set hr) hB' (q5 v h' hk).2⟩
    · exact firstY (seen' := (i, o, t, v) :: seen) (fun r hr => List.mem_cons_of_mem _ hr) h0 (b := true) (v := v) (t0 := t) (fun _ j h' hw hh => hh (i, o, t, v) (List.mem_cons_self ..) hw) l.length listed t h hcl hfs hr (fun _ _ => rfl)
        ⟨q1, fun h => (by cases h), fun _ => ⟨q2, q3, q4⟩⟩ (anyX_txtO HL l _ past _ _ h (hcl.set hr) hB' q5)
theorem runO_txt : ∀ (l : List Nat) (t : List Value) (h : St) (seen : List Seen) (past : List (Nat × Option St)) (sx : SeenX) (px : PastX), Cov P (Region.before ops).toList seen sx → CovP px past →
    runO P C ops (Region.before ops).toList l t h seen past K → txtO P C ops K l sx px t h
  | [], _, _, _, _, _, _, _, _, H => H
  | i :: l, t, h, seen, past, sx, px, hc, hp, H => by
    simp only [runO] at H
    split at H
    · rename_i o ho
      split at H
      · rename_i hg
        have hw : wantA ops t o = some true := by unfold wantA; simp only [hg]
        refine ⟨o, ho, hw, ?_⟩
        unfold stepD at H
        split at H
        · rename_i x hx
          rw [evK_eq] at H
          obtain ⟨q1, q2, q3⟩ := moved_spec (P := P) hx (evA P t) h
          refine .inr ⟨q2, _, q1, fun p _ _ => (moved_spec (P := P) hx (evA P t) p.2).1, ?_⟩
          refine runO_txt l _ h _ _ _ px (hc.add q2 q1) ?_ H
          rw [addPast_none q2]; exact hp
        · split at H
          · rename_i he
            split at H
            · rename_i hew
              refine .inl ⟨he, hp.eff hew, _, H, fun v h' hk => ⟨hc i h' hk.1, ?_⟩⟩
              exact runO_txt l _ h' _ _ sx _ hc.eff (hp.add (.inr rfl) he) hk.2
            · exact H.elim
          · rename_i he
            have next : ∀ v, opV P o.op (evA P t) h = some v → runO P C ops (Region.before ops).toList l (putT t o.dst v) h (addSeen P none o.op i t v seen) (addPast P o.op i (some h) past) K → txtO P C ops K l ((i, o, t, v) :: sx) px (putT t o.dst v) h := by
              intro v hv hk
              refine runO_txt l _ h _ _ _ px (hc.add he hv) ?_ hk
              rw [addPast_none he]; exact hp
            split at H
            · cases hv : opV P o.op (evA P t) h with
              | none => rw [hv] at H; exact H.elim
              | some v =>
                rw [hv] at H
                exact .inr ⟨he, v, rfl, hp.past H.1, next v hv H.2⟩
            · rename_i hrd
              cases hv : opV P o.op (evA P t) h with
              | none => rw [hv] at H; exact H.elim
              | some v =>
                rw [hv] at H
                exact .inr ⟨he, v, rfl, fun p _ _ => by rw [opV_still he hrd (evA P t) p.2 h]; exact hv, next v hv H⟩
      · exact H.elim
    · exact H.elim
theorem edgeB_spec {ops : Array Oper} {f m : Nat} (h : edgeB ops f m = true) : ∃ o, ops[f]? = some o ∧ ∃ x ∈ o.after, x.on = m ∧ Region.binds .any x = true := by
  unfold edgeB at h
  split at h
  · rename_i o ho
    simp only [List.any_eq_true, Bool.and_eq_true, Array.mem_toList_iff] at h
    obtain ⟨x, hx, h1, h2⟩ := h
    exact ⟨o, ho, x, hx, Nat.eq_of_beq_eq_true h1, h2⟩
  · cases h
theorem lin_edge {ops : Array Oper} {f m : Nat} (he : edgeB ops f m = true) : ∀ (n : Nat) (listed : Array Bool) (lin : List Nat), Lin ops n listed lin → ∀ l1 l2, lin = l1 ++ f :: l2 → m ∈ l1 ∨ listed.getD m false = true
  | 0, _, _, h, l1, l2, e => by
    cases (show _ = [] from h)
    cases l1 <;> cases e
  | n + 1, listed, lin, h, l1, l2, e => by
    rcases h with ⟨rfl, h0⟩ | ⟨i, rest, rfl, hi, hl⟩
    · cases l1 <;> cases e
    · cases l1 with
      | nil =>
        simp only [List.nil_append, List.cons.injEq] at e
        obtain ⟨rfl, _⟩ := e
        obtain ⟨_, o, h2, h3⟩ := mem_ready.1 hi
        obtain ⟨o', g1, x, g2, g3, g4⟩ := edgeB_spec he
        rw [h2] at g1
        cases g1
        have := h3 x g2 g4
        rw [g3] at this
        exact .inr this
      | cons y l1 =>
        simp only [List.cons_append, List.cons.injEq] at e
        obtain ⟨rfl, e⟩ := e
        rcases lin_edge he n _ rest hl l1 l2 e with h | h
        · exact .inl (List.mem_cons_of_mem _ h)
        · by_cases hm : m = i
          · exact .inl (by rw [hm]; exact List.mem_cons_self ..)
          · right
            simpa [Array.getD_eq_getD_getElem?, Array.getElem?_setIfInBounds, Ne.symm hm] using h
theorem lin_linked {ops : Array Oper} {e f : Nat} (h : linked ops e f = true) {lin : List Nat} (hl : Lin ops ops.size (Array.replicate ops.size false) lin) : ∀ l1 l2, lin = l1 ++ f :: l2 → e ∈ l1 := by
  unfold linked at h
  simp only [List.any_eq_true, Bool.and_eq_true] at h
  obtain ⟨m, _, h1, h2⟩ := h
  have none : ∀ j, (Array.replicate ops.size false).getD j false = true → False := fun j hj => by
    simp [Array.getD_eq_getD_getElem?, Array.getElem?_replicate] at hj
    split at hj <;> simp at hj
  intro l1 l2 e1
  rcases lin_edge h1 _ _ lin hl l1 l2 e1 with q | q
  · obtain ⟨a, b, rfl⟩ := List.append_of_mem q
    rcases lin_edge h2 _ _ lin hl a (b ++ f :: l2) (by rw [e1]; simp) with r | r
    · exact List.mem_append_left _ r
    · exact (none _ r).elim
  · exact (none _ q).elim
theorem regS_lin (HC : OracleOk P B w0 C) (HL : OracleLive C) {Q : Exit → Act → World → Prop} (hQ : ∀ t h a w, K t h → SRel P B w0 ρ0 t h a w → Q .normal a w) :
    ∀ (n : Nat) (ops : Array Oper) (order : List Nat) (t : List Value) (h : St) (a : Act) (w : World), SRel P B w0 ρ0 t h a w → regS P C n ops order t h K →
      ∀ lin, Lin ops ops.size (Array.replicate ops.size false) lin → wpOps P ops Q lin a w
  | 0, _, _, _, _, _, _, _, H, _, _ => H.elim
  | n + 1, ops, order, t, h, a, w, S, H, lin, hl => by
    simp only [regS] at H
    split at H
    · split at H
      · rename_i hB
        simp only [Bool.and_eq_true] at hB
        have hlen : order.length = ops.size := Nat.eq_of_beq_eq_true hB.2
        have := anyX_txtO (K := K) HL order [] [] _ t h closed_none hB.1 (runO_txt order t h [] [] [] [] (fun _ _ _ r hr => by cases hr) (fun p hp => by cases hp) H)
        rw [hlen] at this
        exact wpAny_lin ops.size _ lin a w (anyX_sound HC hQ ops.size _ t h a w S this) hl
      · exact H.elim
    · rename_i e f ho
      split at H
      · exact H.elim
      · rename_i hne
        have hne : e ≠ f := by intro h; subst h; simp at hne
        split at H
        · rename_i hlk
          have l1 := lin_addEdge (f := f) (e := e) _ _ _ hl fun a b hab => .inl (lin_linked hlk hl a b hab)
          have := regS_lin HC HL hQ n (addEdge ops f e) order t h a w S H lin (by rw [addEdge_size]; exact l1)
          rwa [wpOps_addEdge] at this
        rcases first_of hne lin with hf | hf
        · have l1 := lin_addEdge (f := f) (e := e) _ _ _ hl fun a b hab => .inl (hf a b hab)
          have := regS_lin HC HL hQ n (addEdge ops f e) order t h a w S H.1 lin (by rw [addEdge_size]; exact l1)
          rwa [wpOps_addEdge] at this
        · have l1 := lin_addEdge (f := e) (e := f) _ _ _ hl fun a b hab => .inl (hf a b hab)
          have := regS_lin HC HL hQ n (addEdge ops e f) _ t h a w S H.2 lin (by rw [addEdge_size]; exact l1)
          rwa [wpOps_addEdge] at this
theorem drawOk (hm : P.follows .mixedOrders = true) (HC : OracleOk P B w0 C) (HL : OracleLive C) : DrawOk P B w0 ρ0 C := by
  intro id ops t h a w K Q hq S hB H
  unfold drawK at H
  split at H
  · obtain ⟨ρ, s1, s2, s3, s4⟩ := S
    exact wp_region_each hm fun lin hl => regS_lin (K := K .normal) HC HL (fun t h a w hk S => hq _ _ _ _ _ hk S) 8 ops _ t h a _ ⟨ρ, s1, s2, s3.draw _, s4⟩ H lin hl
  · obtain ⟨h1, h2⟩ := groupsOf_flat ops.toList
    refine wp_region_txt (K := K .normal) hm HC HL (fun t h a w hk S => hq _ _ _ _ _ hk S) hB S ?_
    have := regD_txt (K := K .normal) (groupsOf ops.toList) 0 t h [] [] [] [] h2 (fun _ _ _ r hr => by cases hr) (fun p hp => by cases hp) H
    rwa [h1] at this
end
end Go.Abs
end

section
set_option linter.unusedSimpArgs false
set_option linter.unusedVariables false
namespace Go.Abs
open Go.RowKit (Below)

/-- What a call is said to do: asked of the arguments and the heap, for whatever stands behind. -/
abbrev Spec := List Value → St → Cont → Prop
def SpecOk (P : Program) (g : FuncId) (S : Spec) : Prop :=
  ∀ args h k, S args h k → ∀ B w0 w ρ args', HRel P B w0 ρ h w → LRel ρ args args'.toList → Post P B w0 ρ k ((callFunc g args').run P w)
theorem run_call {P : Program} {g : FuncId} {fn : Func} (hf : P.funcs[g]? = some fn) (hn : fn.name ≠ "runtime.NumGoroutine") (hb : fn.body ≠ none) (args : Array Value) (w : World) : (callFunc g args).run P w = .ok (.enter g args) w := by
  simp [callFunc, hf, hn, hb]
def SpecLive (S : Spec) : Prop := ∀ args h k, S args h k → ∃ v h', k v h'

/-- The oracle of a table. -/
def tabC : List (FuncId × Spec) → Oracle
  | [], _, _, _, _ => False
  | (f, S) :: r, g, args, h, k => (g = f ∧ S args h k) ∨ tabC r g args h k
theorem tabC_ok {P : Program} (B : Nat) (w0 : World) : ∀ {tab : List (FuncId × Spec)}, (∀ p ∈ tab, SpecOk P p.1 p.2) → OracleOk P B w0 (tabC tab)
  | [], _, g, args, h, k, H => H.elim
  | (f, S) :: r, hs, g, args, h, k, H => by
    rcases H with ⟨rfl, H⟩ | H
    · exact fun w ρ args' => hs (g, S) (List.mem_cons_self ..) args h k H B w0 w ρ args'
    · exact tabC_ok B w0 (fun p hp => hs p (List.mem_cons_of_mem _ hp)) g args h k H
theorem tabC_live : ∀ {tab : List (FuncId × Spec)}, (∀ p ∈ tab, SpecLive p.2) → OracleLive (tabC tab)
  | [], _, g, args, h, k, H => H.elim
  | (f, S) :: r, hs, g, args, h, k, H => by
    rcases H with ⟨_, H⟩ | H
    · exact hs (f, S) (List.mem_cons_self ..) args h k H
    · exact tabC_live (fun p hp => hs p (List.mem_cons_of_mem _ hp)) g args h k H

/-- A spec holds when the body, walked abstractly, does as it says. -/
theorem specOk_of {P : Program} (hm : P.follows .mixedOrders = true) {g : FuncId} {fn : Func} (hf : P.funcs[g]? = some fn) (hn : fn.name ≠ "runtime.NumGoroutine") (hb : fn.body ≠ none) {tab : List (FuncId × Spec)} (ht : ∀ p ∈ tab, SpecOk P p.1 p.2) (hl : ∀ p ∈ tab, SpecLive p.2)
    {S : Spec} {keep : List Bool} (H : ∀ args h k, S args h k → ∃ n, funcK P (tabC tab) idG keep n fn args h fun v h1 => ∃ h2, St.le h2 h1 ∧ k v h2) : SpecOk P g S := by
  intro args h k hS B w0 w ρ args' HR HL
  obtain ⟨n, hk⟩ := H args h k hS
  rw [run_call hf hn hb]
  exact funcK_sound (tabC_ok B w0 ht) (drawOk hm (tabC_ok B w0 ht) (tabC_live hl)) hf hb HR HL hk
end Go.Abs
end

section
set_option linter.unusedSimpArgs false
set_option linter.unusedVariables false
namespace Go.Abs
open Go.RowKit (Below)

/-- What of an old cell is known. -/
def san (B : Nat) (v : Value) : Value :=
  match lit1 v with
  | true => v
  | false => match v with
    | .pointer (some ⟨b, o, none⟩) => if b < B then v else unk
    | .slice (some ⟨b, o, s⟩) n c => if n = 0 ∧ c = 0 then .slice (some ⟨0, 0, none⟩) 0 0 else if s = none ∧ b < B ∧ n ≤ c ∧ c ≤ maxLen then v else unk
    | _ => unk
def rho0 (B : Nat) : Rho := fun i => if i < B then some ⟨i, 0, false⟩ else none
def st0 (w : World) : St := ⟨w.heap.size, fun i => match w.heap[i]? with
  | some (.cells arr _ _) => some (.cells (arr.toList.map (san w.heap.size)) false)
  | _ => none⟩
theorem san_rel (B : Nat) (v : Value) : VRel (rho0 B) (san B v) v := by
  unfold san
  split
  · rename_i h; exact .lit v h
  · split
    · rename_i b o _
      split
      · rename_i hb; exact .ptr b o ⟨b, 0, false⟩ (by simp [rho0, hb])
      · exact .unk _
    · rename_i b o s n c _
      split
      · rename_i hz
        obtain ⟨rfl, rfl⟩ := hz
        exact .empty _ _ _ fun h => absurd rfl h
      · split
        · rename_i hb
          obtain ⟨rfl, hb⟩ := hb
          exact .slice b o n c c ⟨b, 0, false⟩ (by simp [rho0, hb.1]) rfl hb.2.1 hb.2.2
        · exact .unk _
    · exact .unk _
theorem san_list (B : Nat) : ∀ l : List Value, LRel (rho0 B) (l.map (san B)) l
  | [] => .nil
  | v :: l => .cons (san_rel B v) (san_list B l)
theorem HRel.start {P : Program} {w : World} (hg : P.globals.size ≤ w.heap.size) : HRel P w.heap.size w (rho0 w.heap.size) (st0 w) w := by
  refine ⟨Below.refl _ _, rfl, hg, ?_, ?_, ?_, ?_⟩
  · intro g hgl
    exact ⟨⟨g, 0, false⟩, by simp [rho0]; omega, rfl⟩
  · intro i l hi
    unfold rho0 at hi
    split at hi
    · rename_i h; exact h
    · cases hi
  · intro i o ho
    simp only [st0] at ho
    split at ho
    · rename_i arr ty fr hb
      cases ho
      have hlt : i < w.heap.size := (Array.getElem?_eq_some_iff.1 hb).1
      refine ⟨⟨i, 0, false⟩, by simp [rho0, hlt], rfl, (fun h => by cases h), arr, ty, fr, hb, (fun h => by cases h), by simp, ?_⟩
      have : arr.toList.take ((arr.toList.map (san w.heap.size)).length) = arr.toList := by rw [List.length_map]; exact List.take_length
      rw [this]
      exact san_list _ _
    · cases ho
  · intro i j o o' li lj _ _ hi hj hown hblk
    unfold rho0 at hi
    split at hi
    · cases hi; cases hown
    · cases hi
end Go.Abs
end

section
set_option linter.unusedSimpArgs false
set_option linter.unusedVariables false
namespace Go.Abs
open Go.RowKit (Below)

theorem law_calls {P : Program} {W : World} (hg : P.globals.size ≤ W.heap.size) {f : FuncId} {fn : Func} (hf : P.funcs[f]? = some fn) (hn : (fn.name == "runtime.NumGoroutine") = false) (hb : fn.body.isSome = true) {S : Spec} (hS : SpecOk P f S) {args : List Value} {args' : Array Value} (ha : LRel (rho0 W.heap.size) args args'.toList)
    (H : S args (st0 W) fun v _ => v = .bool true) : Calls P f args' W fun e w' => e = .returned (.bool true) ∧ Below W.heap.size W w' := by
  have hn' : fn.name ≠ "runtime.NumGoroutine" := fun e => by rw [e] at hn; simp at hn
  have hb' : fn.body ≠ none := fun e => by rw [e] at hb; simp at hb
  have hc := hS args (st0 W) _ H W.heap.size W W (rho0 W.heap.size) args' (HRel.start hg) ha
  rw [run_call hf hn' hb'] at hc
  refine hc.mono ?_
  rintro e w' ⟨v, v', h', ρ', rfl, rfl, _, h2, h3⟩
  rw [h3.bool_inv]
  exact ⟨rfl, h2.below⟩

theorem san_lit {B : Nat} {v : Value} (h : lit1 v = true) : san B v = v := by unfold san; rw [h]
/-- A row of the old memory, as the abstract machine sees it. -/
theorem st0_cells {W : World} {b off n : Nat} {vs : List Value} (hn : vs.length = n) (h0 : 0 < n) (hc : ∀ j v, vs[j]? = some v → W.cell? ⟨b, off + j, none⟩ = some v) (hl : vs.all lit1 = true) :
    b < W.heap.size ∧ ∃ cs, (st0 W).objs b = some (.cells cs false) ∧ takeN cs off n = some vs := by
  have get : ∀ j v, vs[j]? = some v → ∃ arr ty fr, W.heap[b]? = some (.cells arr ty fr) ∧ arr[off + j]? = some v := by
    intro j v hv
    have := hc j v hv
    simp only [World.cell?] at this
    split at this
    · rename_i arr ty fr hb; exact ⟨arr, ty, fr, hb, this⟩
    · cases this
  obtain ⟨v0, hv0⟩ : ∃ v, vs[0]? = some v := ⟨vs[0], by simp [hn, h0]⟩
  obtain ⟨arr, ty, fr, hb, _⟩ := get 0 v0 hv0
  refine ⟨(Array.getElem?_eq_some_iff.1 hb).1, arr.toList.map (san W.heap.size), by simp only [st0, hb], ?_⟩
  have at_ : ∀ j v, vs[j]? = some v → arr.toList[off + j]? = some v := by
    intro j v hv
    obtain ⟨arr', ty', fr', hb', h⟩ := get j v hv
    rw [hb] at hb'; cases hb'
    simpa using h
  have hlen : off + n ≤ arr.toList.length := by
    obtain ⟨v, hv⟩ : ∃ v, vs[n - 1]? = some v := ⟨vs[n - 1], by simp [hn]⟩
    have := (List.getElem?_eq_some_iff.1 (at_ _ _ hv)).1
    omega
  unfold takeN
  rw [if_pos (by rw [List.length_map]; exact hlen)]
  congr 1
  apply List.ext_getElem?
  intro j
  rw [List.getElem?_take]
  split
  · rename_i hj
    rw [List.getElem?_drop, List.getElem?_map]
    have hv : vs[j]? = some vs[j] := by simp [hn, hj]
    rw [at_ j _ hv, hv]
    simp only [Option.map_some]
    congr 1
    exact san_lit (List.all_eq_true.1 hl _ (List.getElem_mem _))
  · rename_i hj
    exact (List.getElem?_eq_none (by omega)).symm
end Go.Abs
end

section
set_option linter.unusedSimpArgs false
set_option linter.unusedVariables false
namespace Go.Abs
open Go.RowKit (Below)
open Go.ChangeShapes Go.WideShapes Go.Deep

section
variable {H : Type} {enc : TypeId × Value → H} {P : Program} {w : World} {base : Nat} {spare : Nat → Bool} {held : Bool}

def kindsF (P : Program) : List Field → Option (List IntKind)
  | [] => some []
  | f :: r => match P.underlying f.type, kindsF P r with
    | some (.int k), some ks => some (k :: ks)
    | _, _ => none
/-- The kinds of an element's cells. -/
def kindsOf (P : Program) (e : TypeId) : Option (List IntKind) :=
  match P.underlying e with
  | some (.int k) => match Nat.beq (P.cellsOf e) 1 with
    | true => some [k]
    | false => none
  | some (.struct fs) => match oneCellFields P fs && Nat.beq (P.cellsOf e) fs.size with
    | true => kindsF P fs.toList
    | false => none
  | _ => none
/-- Cells that are integers of these kinds, each within its kind. -/
def Fits (ks : List IntKind) (vs : List Value) : Prop := vs.length = ks.length ∧ ∀ (i : Nat) (k : IntKind), ks[i]? = some k → ∃ n : Int, vs[i]? = some (Value.int k n) ∧ (Lit.int k n).wf = true

theorem kindsF_spec : ∀ {l : List Field} {ks : List IntKind}, kindsF P l = some ks → ks.length = l.length ∧ ∀ (i : Nat) (k : IntKind), ks[i]? = some k → ∃ f : Field, l[i]? = some f ∧ P.underlying f.type = some (TypeDesc.int k)
  | [], ks, h => by cases h; exact ⟨rfl, fun i k h => by simp at h⟩
  | f :: r, ks, h => by
    simp only [kindsF] at h
    split at h
    · rename_i k0 ks0 h1 h2
      cases h
      obtain ⟨q1, q2⟩ := kindsF_spec h2
      refine ⟨by simp [q1], fun i k hk => ?_⟩
      cases i with
      | zero => simp at hk; subst hk; exact ⟨f, rfl, h1⟩
      | succ i => simpa using q2 i k (by simpa using hk)
    · cases h
theorem elem_fits {e : TypeId} {ks : List IntKind} {fuel : Nat} {cs : List Value} {x : DataW H × List MemPlace} (hk : kindsOf P e = some ks) (h : DataW.trod enc P w base spare held fuel e cs = some x) : P.cellsOf e = ks.length ∧ Fits ks cs := by
  unfold kindsOf at hk
  split at hk
  · rename_i k hu
    split at hk
    · rename_i hc
      cases hk
      obtain ⟨n, rfl, _, hw⟩ := DataW.trod_int hu h
      refine ⟨Nat.eq_of_beq_eq_true hc, rfl, fun i k' hk' => ?_⟩
      cases i with
      | zero => simp at hk'; subst hk'; exact ⟨n, rfl, hw⟩
      | succ i => simp at hk'
    · cases hk
  · rename_i fs hu
    split at hk
    · rename_i hc
      simp only [Bool.and_eq_true] at hc
      have hone := hone_of hc.1
      have hcell := Nat.eq_of_beq_eq_true hc.2
      obtain ⟨q1, q2⟩ := kindsF_spec hk
      obtain ⟨xs, n, _, _, hlen, hxl, hf⟩ := DataW.trod_struct hu h
      have hkl : ks.length = fs.size := by simpa using q1
      refine ⟨by omega, by omega, fun i k hki => ?_⟩
      obtain ⟨f, hfi, hfk⟩ := q2 i k hki
      have hfi : fs[i]? = some f := by simpa using hfi
      have hlt : i < fs.size := (Array.getElem?_eq_some_iff.1 hfi).1
      obtain ⟨o1, o2⟩ := hone i f hfi
      have g := hf i f hfi
      rw [o1, o2, List.getElem?_eq_getElem (by omega)] at g
      obtain ⟨m, e1, _, hw⟩ := DataW.trod_int hfk g
      refine ⟨m, ?_, hw⟩
      have : ((cs.drop i).take 1)[0]? = some (.int k m) := by rw [e1]; rfl
      simpa [List.getElem?_take] using this
    · cases hk
  · cases hk
theorem Fits.lit {ks : List IntKind} {vs : List Value} (h : Fits ks vs) : vs.all lit1 = true := by
  rw [List.all_eq_true]
  intro v hv
  obtain ⟨i, hi⟩ := List.getElem?_of_mem hv
  have hlt := (List.getElem?_eq_some_iff.1 hi).1
  have hks : i < ks.length := by have := h.1; omega
  obtain ⟨n, h1, _⟩ := h.2 i ks[i] (List.getElem?_eq_getElem hks)
  rw [hi] at h1
  cases h1
  rfl

/-- The rows of a slice that came in, one list for each element. -/
theorem open_rows {t e : TypeId} {ks : List IntKind} {fuel : Nat} {cs : List Value} {x : DataW H × List MemPlace} (ht : P.underlying t = some (.slice e)) (hk : kindsOf P e = some ks) (h : DataW.trod enc P w base spare held fuel t cs = some x) :
    cs = [.slice none 0 0] ∨ ∃ (a : Addr) (len cap : Nat) (rows : Nat → List Value), cs = [.slice (some a) len cap] ∧ len ≤ cap ∧ cap ≤ maxLen ∧
      ∀ i, i < (if spare a.block then cap else len) → Fits ks (rows i) ∧ ∀ j v, (rows i)[j]? = some v → w.cell? (a.add (i * ks.length + j)) = some v := by
  rcases open_slice ht h with ⟨h0, _⟩ | ⟨a, len, cap, m, n, D, Pl, rfl, hb, hl, hm, hmm, rfl, hx⟩
  · exact .inl h0
  right
  obtain ⟨rows, hr⟩ := choose_lt (n := m) (α := List Value) (p := fun i r => Fits ks r ∧ ∀ j v, r[j]? = some v → w.cell? (a.add (i * ks.length + j)) = some v) (fun i hi => by
    obtain ⟨cs', h1, h2⟩ := hx i hi
    obtain ⟨q1, q2⟩ := elem_fits hk h2
    refine ⟨cs', q2, fun j v hv => ?_⟩
    obtain ⟨_, hlen, hcell⟩ := World.cells?_some h1
    have hlt := (List.getElem?_eq_some_iff.1 hv).1
    have := hcell j (by omega)
    rw [add_add, q1] at this
    rw [this, hv])
  exact ⟨a, len, cap, rows, rfl, hl, hm, hmm ▸ hr⟩
/-- A slice of the old memory, abstractly: its cells. -/
def RowIn (h : St) (v : Value) (n sz : Nat) (rows : Nat → List Value) : Prop :=
  (v = .slice none 0 0 ∧ n = 0) ∨ ∃ b off c, v = .slice (some ⟨b, off, none⟩) n c ∧
    (0 < n → ∃ cs, h.objs b = some (.cells cs false) ∧ takeN cs off (n * sz) = some ((List.range n).flatMap rows))
theorem flat_length {rows : Nat → List Value} {sz : Nat} : ∀ n, (∀ i, i < n → (rows i).length = sz) → ((List.range n).flatMap rows).length = n * sz
  | 0, _ => by simp
  | n + 1, h => by
    rw [List.range_succ, List.flatMap_append, List.length_append, flat_length n fun i hi => h i (by omega), Nat.succ_mul]
    simp [h n (by omega)]
theorem flat_get {rows : Nat → List Value} {sz : Nat} : ∀ n, (∀ i, i < n → (rows i).length = sz) → ∀ j v, ((List.range n).flatMap rows)[j]? = some v → ∃ i q, i < n ∧ j = i * sz + q ∧ (rows i)[q]? = some v
  | 0, _, j, v, hv => by simp at hv
  | n + 1, h, j, v, hv => by
    have hl := flat_length (rows := rows) n fun i hi => h i (by omega)
    rw [List.range_succ, List.flatMap_append, List.getElem?_append] at hv
    split at hv
    · obtain ⟨i, q, h1, h2, h3⟩ := flat_get n (fun i hi => h i (by omega)) j v hv
      exact ⟨i, q, by omega, h2, h3⟩
    · rename_i hj
      rw [hl] at hv hj
      exact ⟨n, j - n * sz, by omega, by omega, by simpa using hv⟩
theorem row_in {W : World} {t e : TypeId} {ks : List IntKind} {fuel : Nat} {v : Value} {x : DataW H × List MemPlace} (ht : P.underlying t = some (.slice e)) (hk : kindsOf P e = some ks) (hpos : 0 < ks.length)
    (h : DataW.trod enc P W 0 (fun _ => true) held fuel t [v] = some x) :
    ∃ (n : Nat) (rows : Nat → List Value) (v' : Value), n ≤ maxLen ∧ (∀ i, i < n → Fits ks (rows i)) ∧ RowIn (st0 W) v' n ks.length rows ∧ VRel (rho0 W.heap.size) v' v := by
  rcases open_rows ht hk h with h0 | ⟨a, len, cap, rows, h0, hl, hm, hr⟩
  · have : v = .slice none 0 0 := by simpa using h0
    subst this
    exact ⟨0, fun _ => [], .slice none 0 0, by simp, fun i hi => by omega, .inl ⟨rfl, rfl⟩, .lit _ rfl⟩
  · have : v = .slice (some a) len cap := by simpa using h0
    subst this
    simp only [if_true] at hr
    by_cases hc : cap = 0
    · subst hc
      have : len = 0 := by omega
      subst this
      exact ⟨0, fun _ => [], .slice (some ⟨0, 0, none⟩) 0 0, by simp, fun i hi => by omega, .inr ⟨0, 0, 0, rfl, fun h => by omega⟩, .empty _ _ _ fun h => absurd rfl h⟩
    · obtain ⟨f0, c0⟩ := hr 0 (by omega)
      obtain ⟨b, o, spot⟩ := a
      obtain ⟨n0, g0, _⟩ := f0.2 0 ks[0] (List.getElem?_eq_getElem hpos)
      have hcell := c0 0 _ g0
      have hspot : spot = none := by simpa [Addr.add] using World.cell?_spot hcell
      subst hspot
      have hlt : b < W.heap.size := by
        rw [add_none] at hcell
        simp only [World.cell?] at hcell
        split at hcell
        · rename_i hb; exact (Array.getElem?_eq_some_iff.1 hb).1
        · cases hcell
      refine ⟨len, rows, .slice (some ⟨b, o, none⟩) len cap, by omega, fun i hi => (hr i (by omega)).1, .inr ⟨b, o, cap, rfl, fun hn => ?_⟩, .slice b o len cap cap ⟨b, 0, false⟩ (by simp [rho0, hlt]) rfl hl hm⟩
      have hlen : ∀ i, i < len → (rows i).length = ks.length := fun i hi => (hr i (by omega)).1.1
      obtain ⟨_, cs, q1, q2⟩ := st0_cells (W := W) (b := b) (off := o) (flat_length len hlen) (Nat.mul_pos hn hpos) (fun j v hv => by
        obtain ⟨i, q, h1, rfl, h3⟩ := flat_get len hlen j v hv
        have := (hr i (by omega)).2 q v h3
        rwa [add_none] at this) (by
        rw [List.all_eq_true]
        intro v hv
        obtain ⟨i, hi, hv⟩ := List.mem_flatMap.1 hv
        exact List.all_eq_true.1 (hr i (by have := List.mem_range.1 hi; omega)).1.lit v hv)
      exact ⟨cs, q1, q2⟩
end
end Go.Abs
end

section
set_option linter.unusedSimpArgs false
set_option linter.unusedVariables false
namespace Go.Abs

attribute [simp] List.getElem?_cons_zero List.getElem?_cons_succ
@[simp] theorem idG_eq (p : Prop) : idG p = p := propext Iff.rfl
@[simp] theorem bindV_some (v : Value) (k : Value → Prop) : bindV (some v) k = k v := propext Iff.rfl
@[simp] theorem condK_bool (b : Bool) (y n : Prop) : condK (.bool b) y n = if b = true then y else n := by cases b <;> simp [condK]
@[simp] theorem binV_add (s : Shp) (k : IntKind) (a b : Int) : binV .add s (.int k a) (.int k b) = some (.int k (k.wrap (a + b))) := by simp [binV, isShift, intV]
@[simp] theorem binV_sub (s : Shp) (k : IntKind) (a b : Int) : binV .sub s (.int k a) (.int k b) = some (.int k (k.wrap (a - b))) := by simp [binV, isShift, intV]
@[simp] theorem binV_mul (s : Shp) (k : IntKind) (a b : Int) : binV .mul s (.int k a) (.int k b) = some (.int k (k.wrap (a * b))) := by simp [binV, isShift, intV]
@[simp] theorem binV_eql (s : Shp) (k : IntKind) (a b : Int) : binV .eql s (.int k a) (.int k b) = some (.bool (decide (a = b))) := by simp only [binV, isShift, intV, if_true]; congr 2
@[simp] theorem binV_neq (s : Shp) (k : IntKind) (a b : Int) : binV .neq s (.int k a) (.int k b) = some (.bool (decide (a ≠ b))) := by
  simp only [binV, isShift, intV, if_true]; congr 2; by_cases h : a = b <;> simp [h]
@[simp] theorem binV_lss (s : Shp) (k : IntKind) (a b : Int) : binV .lss s (.int k a) (.int k b) = some (.bool (decide (a < b))) := by simp [binV, isShift, intV]
@[simp] theorem binV_leq (s : Shp) (k : IntKind) (a b : Int) : binV .leq s (.int k a) (.int k b) = some (.bool (decide (a ≤ b))) := by simp [binV, isShift, intV]
@[simp] theorem binV_gtr (s : Shp) (k : IntKind) (a b : Int) : binV .gtr s (.int k a) (.int k b) = some (.bool (decide (a > b))) := by simp [binV, isShift, intV]
@[simp] theorem binV_geq (s : Shp) (k : IntKind) (a b : Int) : binV .geq s (.int k a) (.int k b) = some (.bool (decide (a ≥ b))) := by simp [binV, isShift, intV]
@[simp] theorem binNil_int (o : BinOp) (s : Shp) (k : IntKind) (a b : Int) : binNil o s (.int k a) (.int k b) = binV o s (.int k a) (.int k b) := by cases o <;> cases s <;> rfl
@[simp] theorem binNil_string (o : BinOp) (s : Shp) (a b : ByteArray) : binNil o s (.string a) (.string b) = binV o s (.string a) (.string b) := by cases o <;> cases s <;> rfl
@[simp] theorem binNil_ptr_eql (x : Option Addr) : binNil .eql .ptr (.pointer x) (.pointer none) = some (.bool x.isNone) := by cases x <;> rfl
@[simp] theorem binNil_ptr_neq (x : Option Addr) : binNil .neq .ptr (.pointer x) (.pointer none) = some (.bool (!x.isNone)) := by cases x <;> rfl
@[simp] theorem binV_bool_eql (a b : Bool) : binV .eql .bool (.bool a) (.bool b) = some (.bool (a == b)) := rfl
@[simp] theorem binV_bool_neq (a b : Bool) : binV .neq .bool (.bool a) (.bool b) = some (.bool (!(a == b))) := rfl
@[simp] theorem binNil_bool_eql (a b : Bool) : binNil .eql .bool (.bool a) (.bool b) = some (.bool (a == b)) := rfl
@[simp] theorem binNil_bool_neq (a b : Bool) : binNil .neq .bool (.bool a) (.bool b) = some (.bool (!(a == b))) := rfl
@[simp] theorem unV_not (b : Bool) : unV .not (.bool b) = some (.bool !b) := rfl
@[simp] theorem unV_neg (k : IntKind) (n : Int) : unV .neg (.int k n) = some (.int k (k.wrap (0 - n))) := rfl
@[simp] theorem wrapV_int (k k' : IntKind) (n : Int) : wrapV k (.int k' n) = some (.int k (k.wrap n)) := rfl
@[simp] theorem nilV_ptr (a : Addr) : nilV (.pointer (some a)) = some (.pointer (some a)) := rfl
@[simp] theorem offV_ptr (o i off : Nat) : offV o (.pointer (some ⟨i, off, none⟩)) = some (.pointer (some ⟨i, off + o, none⟩)) := rfl
@[simp] theorem pickV_bool (t : Bool) (a b : Value) : pickV (.bool t) a b = some (if t = true then a else b) := by cases t <;> rfl
@[simp] theorem lenS_slice (a : Option Addr) (n c : Nat) : lenS (.slice a n c) = some (.int .i64 n) := rfl
@[simp] theorem capS_nil : capS (.slice none 0 0) = some (.int .i64 0) := rfl
@[simp] theorem lenT_string (s : ByteArray) : lenT (.string s) = some (.int .i64 s.size) := rfl
@[simp] theorem extV_two0 (v w : Value) : extV 0 (.tuple #[v, w]) = some v := by simp [extV]
@[simp] theorem extV_two1 (v w : Value) : extV 1 (.tuple #[v, w]) = some w := by simp [extV]
@[simp] theorem extV_three0 (v w x : Value) : extV 0 (.tuple #[v, w, x]) = some v := by simp [extV]
@[simp] theorem extV_three1 (v w x : Value) : extV 1 (.tuple #[v, w, x]) = some w := by simp [extV]
@[simp] theorem extV_three2 (v w x : Value) : extV 2 (.tuple #[v, w, x]) = some x := by simp [extV]
theorem bool_and (b c : Bool) : (b && c) = true ↔ b = true ∧ c = true := by simp

/-- The heap has changed nowhere but there. -/
def Chg (h h' : St) (S : List Nat) : Prop := h.next ≤ h'.next ∧ ∀ i, i < h.next → i ∉ S → h'.objs i = h.objs i
theorem Chg.refl (h : St) (S : List Nat) : Chg h h S := ⟨Nat.le_refl _, fun _ _ _ => rfl⟩
theorem Chg.trans {h h' h'' : St} {S T U : List Nat} (a : Chg h h' S) (b : Chg h' h'' T) (hS : ∀ i ∈ S, i ∈ U) (hT : ∀ i ∈ T, i < h.next → i ∈ U) : Chg h h'' U :=
  ⟨Nat.le_trans a.1 b.1, fun i hi hn => (b.2 i (Nat.lt_of_lt_of_le hi a.1) fun h => hn (hT i h hi)).trans (a.2 i hi fun h => hn (hS i h))⟩
theorem Chg.push {h : St} (o : AObj) (S : List Nat) : Chg h (h.push o) S := ⟨Nat.le_succ _, fun i hi _ => by simp [St.push, Nat.ne_of_lt hi]⟩
theorem Chg.set {h : St} {i : Nat} (o : AObj) {S : List Nat} (hi : i ∈ S) : Chg h (h.set i o) S := ⟨Nat.le_refl _, fun j _ hn => by
  simp only [St.set]; rw [if_neg]; intro e; exact hn (e ▸ hi)⟩
theorem Chg.at {h h' : St} {S : List Nat} (c : Chg h h' S) {i : Nat} {o : AObj} (hi : i < h.next) (hn : i ∉ S) (ho : h.objs i = some o) : h'.objs i = some o := (c.2 i hi hn).trans ho
@[simp] theorem push_at (h : St) (o : AObj) : (h.push o).objs h.next = some o := by simp [St.push]
@[simp] theorem push_next (h : St) (o : AObj) : (h.push o).next = h.next + 1 := rfl
@[simp] theorem set_next (h : St) (i : Nat) (o : AObj) : (h.set i o).next = h.next := rfl
@[simp] theorem kill_next (h : St) (i : Nat) : (h.kill i).next = h.next := rfl
@[simp] theorem set_at (h : St) (i : Nat) (o : AObj) : (h.set i o).objs i = some o := by simp [St.set]
theorem push_ne {h : St} {o : AObj} {i : Nat} (hi : i < h.next) : (h.push o).objs i = h.objs i := by simp [St.push, Nat.ne_of_lt hi]
theorem set_ne {h : St} {o : AObj} {i j : Nat} (hi : i ≠ j) : (h.set j o).objs i = h.objs i := by simp [St.set, hi]
theorem kill_ne {h : St} {i j : Nat} (hi : i ≠ j) : (h.kill j).objs i = h.objs i := by simp [St.kill, hi]

/-- A heap as they come: no object beyond the next number. -/
def St.Wf (h : St) : Prop := ∀ i o, h.objs i = some o → i < h.next
theorem specOk_wf {P : Program} (hm : P.follows .mixedOrders = true) {g : FuncId} {fn : Func} (hf : P.funcs[g]? = some fn) (hn : (fn.name == "runtime.NumGoroutine") = false) (hb : fn.body.isSome = true) {tab : List (FuncId × Spec)} (ht : ∀ p ∈ tab, SpecOk P p.1 p.2) (hl : ∀ p ∈ tab, SpecLive p.2)
    {S : Spec} {keep : List Bool} (H : ∀ args h k, h.Wf → S args h k → ∃ n, funcK P (tabC tab) idG keep n fn args h fun v h1 => ∃ h2, St.le h2 h1 ∧ k v h2) : SpecOk P g S := by
  have hn : fn.name ≠ "runtime.NumGoroutine" := fun e => by rw [e] at hn; simp at hn
  have hb : fn.body ≠ none := fun e => by rw [e] at hb; simp at hb
  intro args h k hS B w0 w ρ args' HR HL
  obtain ⟨n, hk⟩ := H args h k (fun i o ho => HR.wf ho) hS
  rw [run_call hf hn hb]
  exact funcK_sound (tabC_ok B w0 ht) (drawOk hm (tabC_ok B w0 ht) (tabC_live hl)) hf hb HR HL hk
/-- The globals have their blocks. -/
theorem globs_le {P : Program} {W : World} (h : W.ShapedOpen P) (h0 : Nat.blt P.globals.size (begin P (fun _ _ => 0) default).world.heap.size = true) : P.globals.size ≤ W.heap.size := by
  have h0 : P.globals.size < (begin P (fun _ _ => 0) default).world.heap.size := by simpa [Nat.blt_eq] using h0
  obtain ⟨o, _, h1, _⟩ := h.2 P.globals.size (Nat.le_refl _) h0
  exact Nat.le_of_lt (Array.getElem?_eq_some_iff.1 h1).1
@[simp] theorem guardK_bool (b want : Bool) (y n : Prop) : guardK (.bool b) want y n = if b = want then y else n := by cases b <;> cases want <;> rfl
theorem groupK_eq (v : Value) (want : Bool) (l : List Value) (h : St) (body : (List Value → St → Prop) → Prop) (J : List Value → St → Prop) : groupK v want l h body J = guardK v want (body J) (J l h) := propext Iff.rfl
@[simp] theorem allocE_some (cs : List Value) (h : St) (k : Cont) : allocE (some cs) h k = k (.pointer (some ⟨h.next, 0, none⟩)) (h.push (.cells cs true)) := propext Iff.rfl
/-! ### cells -/
def allOne : List Value → Bool
  | [] => true
  | v :: l => one v && allOne l
theorem allOne_eq : ∀ l : List Value, l.all one = allOne l
  | [] => rfl
  | v :: l => by rw [List.all_cons, allOne, allOne_eq l]
@[simp] theorem allOne_nil : allOne [] = true := rfl
@[simp] theorem allOne_cons (v : Value) (l : List Value) : allOne (v :: l) = (one v && allOne l) := rfl
theorem allOne_append : ∀ l r : List Value, allOne (l ++ r) = (allOne l && allOne r)
  | [], r => by simp
  | v :: l, r => by simp [allOne_append l r, Bool.and_assoc]
@[simp] theorem one_int (k : IntKind) (n : Int) : one (.int k n) = true := rfl
@[simp] theorem one_bool (b : Bool) : one (.bool b) = true := rfl
@[simp] theorem one_string (b : ByteArray) : one (.string b) = true := rfl
@[simp] theorem one_pointer (b : Option Addr) : one (.pointer b) = true := rfl
@[simp] theorem one_map (b : Option Nat) : one (.map b) = true := rfl
@[simp] theorem one_slice (a : Option Addr) (n c : Nat) : one (.slice a n c) = true := rfl
@[simp] theorem cells_agg (cs : Array Value) : (Value.agg cs).cells = cs := rfl
@[simp] theorem cells_int (k : IntKind) (n : Int) : (Value.int k n).cells = #[.int k n] := rfl
@[simp] theorem cells_bool (b : Bool) : (Value.bool b).cells = #[.bool b] := rfl
@[simp] theorem cells_string (b : ByteArray) : (Value.string b).cells = #[.string b] := rfl
@[simp] theorem cells_pointer (b : Option Addr) : (Value.pointer b).cells = #[.pointer b] := rfl
@[simp] theorem cells_map (b : Option Nat) : (Value.map b).cells = #[.map b] := rfl
@[simp] theorem cells_slice (a : Option Addr) (n c : Nat) : (Value.slice a n c).cells = #[.slice a n c] := rfl
@[simp] theorem isUnk_int (k : IntKind) (n : Int) : isUnk (.int k n) = false := rfl
@[simp] theorem isUnk_bool (b : Bool) : isUnk (.bool b) = false := rfl
@[simp] theorem isUnk_string (b : ByteArray) : isUnk (.string b) = false := rfl
@[simp] theorem isUnk_pointer (b : Option Addr) : isUnk (.pointer b) = false := rfl
@[simp] theorem isUnk_map (b : Option Nat) : isUnk (.map b) = false := rfl
@[simp] theorem isUnk_slice (a : Option Addr) (n c : Nat) : isUnk (.slice a n c) = false := rfl
@[simp] theorem isUnk_agg (cs : Array Value) : isUnk (.agg cs) = false := rfl
@[simp] theorem boxE_eq (v : Value) (h : St) (k : Cont) : boxE v h k = (allOne v.cells.toList = true ∧ k (.pointer (some ⟨h.next, 0, none⟩)) (h.push (.cells v.cells.toList true))) := by unfold boxE; rw [allOne_eq]
def storeM (n i off : Nat) (v : Value) (h : St) (k : Cont) : Option AObj → Prop
  | some (.cells cs true) => (v.cells.size = n ∧ off + n ≤ cs.length ∧ allOne v.cells.toList = true) ∧ k undef (h.set i (.cells (cs.take off ++ v.cells.toList ++ cs.drop (off + n)) true))
  | _ => False
@[simp] theorem storeE_ptr (n i off : Nat) (v : Value) (h : St) (k : Cont) : storeE n (.pointer (some ⟨i, off, none⟩)) v h k = storeM n i off v h k (h.objs i) := by
  simp only [storeE, storeM, allOne_eq]
  rcases h.objs i with _ | (⟨cs, _ | _⟩ | _ | _) <;> rfl
@[simp] theorem storeM_cells (n i off : Nat) (v : Value) (h : St) (k : Cont) (cs : List Value) :
    storeM n i off v h k (some (.cells cs true)) = ((v.cells.size = n ∧ off + n ≤ cs.length ∧ allOne v.cells.toList = true) ∧ k undef (h.set i (.cells (cs.take off ++ v.cells.toList ++ cs.drop (off + n)) true))) := propext Iff.rfl
def loadM (agg : Bool) (n off : Nat) : Option AObj → Option Value
  | some (.cells cs _) => partV agg n cs off
  | _ => none
@[simp] theorem loadV_ptr (agg : Bool) (n i off : Nat) (h : St) : loadV agg n (.pointer (some ⟨i, off, none⟩)) h = loadM agg n off (h.objs i) := by
  simp only [loadV, loadM]
  rcases h.objs i with _ | (⟨cs, _ | _⟩ | _ | _) <;> rfl
@[simp] theorem loadM_cells (agg : Bool) (n off : Nat) (cs : List Value) (own : Bool) : loadM agg n off (some (.cells cs own)) = partV agg n cs off := rfl
@[simp] theorem partV_one (n off : Nat) (cs : List Value) : partV false n cs off = cs[off]? := rfl
@[simp] theorem partV_agg (n off : Nat) (cs : List Value) : partV true n cs off = (takeN cs off n).map fun l => .agg l.toArray := rfl
@[simp] theorem makeMapE_eq (h : St) (k : Cont) : makeMapE h k = k (.map (some h.next)) (h.push (.map [] 0)) := propext Iff.rfl
@[simp] theorem lenM_some (r : Nat) (h : St) : lenM (.map (some r)) h = (match h.objs r with | some (.map es _) => some (.int .i64 es.length) | _ => none) := rfl
theorem Chg.of_push {h h' : St} {S : List Nat} {o : AObj} (c : Chg h h' S) : Chg h (h'.push o) S := c.trans (Chg.push _ []) (fun _ h => h) (by simp)
theorem Chg.of_set {h h' : St} {S : List Nat} {o : AObj} {i : Nat} (c : Chg h h' S) (hi : i ∈ S ∨ h.next ≤ i) : Chg h (h'.set i o) S :=
  c.trans (Chg.set (S := [i]) o (by simp)) (fun _ h => h) (by intro j hj hlt; simp at hj; subst hj; rcases hi with h | h; exact h; omega)
theorem Chg.kill {h : St} {i : Nat} : Chg h (h.kill i) [i] := ⟨Nat.le_refl _, fun j _ hn => kill_ne (by simpa using hn)⟩
theorem Chg.of_kill {h h' : St} {S : List Nat} {i : Nat} (c : Chg h h' S) (hi : i ∈ S ∨ h.next ≤ i) : Chg h (h'.kill i) S :=
  c.trans Chg.kill (fun _ h => h) (by intro j hj hlt; simp at hj; subst hj; rcases hi with h | h; exact h; omega)
theorem Chg.of_chg {h h' h'' : St} {S T : List Nat} (c : Chg h h' S) (d : Chg h' h'' T) (hi : ∀ i ∈ T, i ∈ S ∨ h.next ≤ i) : Chg h h'' S :=
  c.trans d (fun _ h => h) (by intro j hj hlt; rcases hi j hj with h | h; exact h; omega)
def lookM (key : KeyMode) (zero : Value) (ok : Bool) (k : Value) : Option AObj → Option Value
  | some (.map es _) => (find key k es).map fun
      | some (_, e) => outV ok e.val true
      | none => outV ok zero false
  | _ => none
theorem lookV_ptr (key : KeyMode) (zero : Value) (ok : Bool) (r : Nat) (k : Value) (h : St) : lookV key zero ok (.map (some r)) k h = lookM key zero ok k (h.objs r) := by
  simp only [lookV, lookM]
  rcases h.objs r with _ | (_ | _ | _) <;> rfl
@[simp] theorem lookM_map (key : KeyMode) (zero : Value) (ok : Bool) (k : Value) (es : List MapEntry) (c : Nat) : lookM key zero ok k (some (.map es c)) = (find key k es).map fun
      | some (_, e) => outV ok e.val true
      | none => outV ok zero false := rfl
def updM (key : KeyMode) (r : Nat) (k x : Value) (h : St) (K : Cont) : Option AObj → Prop
  | some (.map es clock) => match find key k es with
      | some (some (i, _)) => K undef (h.set r (.map (entrySet es i k x) clock))
      | some none => K undef (h.set r (.map (es ++ [⟨k, x, clock⟩]) (clock + 1)))
      | none => False
  | _ => False
theorem mapUpdateE_ptr (key : KeyMode) (r : Nat) (k x : Value) (h : St) (K : Cont) : mapUpdateE key (.map (some r)) k x h K = updM key r k x h K (h.objs r) := by
  simp only [mapUpdateE, updM]
  rcases h.objs r with _ | (_ | _ | _) <;> rfl
@[simp] theorem updM_map (key : KeyMode) (r : Nat) (k x : Value) (h : St) (K : Cont) (es : List MapEntry) (clock : Nat) : updM key r k x h K (some (.map es clock)) = match find key k es with
      | some (some (i, _)) => K undef (h.set r (.map (entrySet es i k x) clock))
      | some none => K undef (h.set r (.map (es ++ [⟨k, x, clock⟩]) (clock + 1)))
      | none => False := propext Iff.rfl
def delM (key : KeyMode) (r : Nat) (k : Value) (h : St) (K : Cont) : Option AObj → Prop
  | some (.map es clock) => match find key k es with
      | some (some (i, _)) => K undef (h.set r (.map (es.eraseIdx i) clock))
      | some none => K undef h
      | none => False
  | _ => False
theorem deleteE_ptr (key : KeyMode) (r : Nat) (k : Value) (h : St) (K : Cont) : deleteE key (.map (some r)) k h K = delM key r k h K (h.objs r) := by
  simp only [deleteE, delM]
  rcases h.objs r with _ | (_ | _ | _) <;> rfl
@[simp] theorem delM_map (key : KeyMode) (r : Nat) (k : Value) (h : St) (K : Cont) (es : List MapEntry) (clock : Nat) : delM key r k h K (some (.map es clock)) = match find key k es with
      | some (some (i, _)) => K undef (h.set r (.map (es.eraseIdx i) clock))
      | some none => K undef h
      | none => False := propext Iff.rfl
@[simp] theorem outV_true (v : Value) (b : Bool) : outV true v b = .tuple #[v, .bool b] := rfl
@[simp] theorem outV_false (v : Value) (b : Bool) : outV false v b = v := rfl
@[simp] theorem find_int (k : IntKind) (n : Int) (es : List MapEntry) : find (.int k) (.int k n) es = findE (.int k n) es 0 := by simp [find]
theorem Chg.mono {h h' : St} {S T : List Nat} (c : Chg h h' S) (hs : ∀ i ∈ S, i ∈ T) : Chg h h' T := ⟨c.1, fun i hi hn => c.2 i hi fun h => hn (hs i h)⟩
/-- Tests behind one another. -/
theorem groupK_and (b : Bool) (u xs : List Value) (i : Nat) (h : St) (F : St → Value → Prop) :
    groupK (.bool b) true u h (fun J => J xs h) (fun xs h => bindV (pickV (.bool b) (getT xs i) (.bool false)) (F h)) = F h (if b = true then getT xs i else .bool false) := by
  rw [groupK_eq, guardK_bool]
  cases b <;> simp
theorem groupK_or (b : Bool) (u xs : List Value) (i : Nat) (h : St) (F : St → Value → Prop) :
    groupK (.bool b) false u h (fun J => J xs h) (fun xs h => bindV (pickV (.bool b) (.bool true) (getT xs i)) (F h)) = F h (if b = true then .bool true else getT xs i) := by
  rw [groupK_eq, guardK_bool]
  cases b <;> simp
@[simp] theorem ite_and (b c : Bool) : (if b = true then Value.bool c else .bool false) = .bool (b && c) := by cases b <;> rfl
@[simp] theorem ite_or (b c : Bool) : (if b = true then Value.bool true else .bool c) = .bool (b || c) := by cases b <;> rfl
@[simp] theorem takeN_lit1 (a : Value) : takeN [a] 0 1 = some [a] := rfl
@[simp] theorem takeN_lit2 (a b : Value) : takeN [a, b] 0 2 = some [a, b] := rfl
@[simp] theorem takeN_lit3 (a b c : Value) : takeN [a, b, c] 0 3 = some [a, b, c] := rfl
@[simp] theorem takeN_lit4 (a b c d : Value) : takeN [a, b, c, d] 0 4 = some [a, b, c, d] := rfl
@[simp] theorem takeN_lit5 (a b c d e : Value) : takeN [a, b, c, d, e] 0 5 = some [a, b, c, d, e] := rfl
@[simp] theorem push_at1 (h : St) (o o' : AObj) : ((h.push o).push o').objs (h.next + 1) = some o' := push_at (h.push o) o'
@[simp] theorem push_at2 (h : St) (o o' o2 : AObj) : (((h.push o).push o').push o2).objs (h.next + 1 + 1) = some o2 := push_at ((h.push o).push o') o2
@[simp] theorem push_at3 (h : St) (o o' o2 o3 : AObj) : ((((h.push o).push o').push o2).push o3).objs (h.next + 1 + 1 + 1) = some o3 := push_at (((h.push o).push o').push o2) o3
@[simp] theorem push_at4 (h : St) (o o' o2 o3 o4 : AObj) : (((((h.push o).push o').push o2).push o3).push o4).objs (h.next + 1 + 1 + 1 + 1) = some o4 := push_at ((((h.push o).push o').push o2).push o3) o4
@[simp] theorem push_at5 (h : St) (o o' o2 o3 o4 o5 : AObj) : ((((((h.push o).push o').push o2).push o3).push o4).push o5).objs (h.next + 1 + 1 + 1 + 1 + 1) = some o5 := push_at (((((h.push o).push o').push o2).push o3).push o4) o5
/-! ### 'attribute [local congr]' of these lets simp look at what is at hand alone, not at the rest -/
theorem bindV_weak {dd : Prop} {o o' : Option Value} {k : Value → Prop} (e : o = o') (_t : ((0 : Nat) = 0) = dd) : bindV o k = bindV o' k := by rw [e]
theorem condK_weak {dd : Prop} {v v' : Value} {y n : Prop} (e : v = v') (_t : ((0 : Nat) = 0) = dd) : condK v y n = condK v' y n := by rw [e]
theorem guardK_weak {dd : Prop} {v v' : Value} {w : Bool} {y n : Prop} (e : v = v') (_t : ((0 : Nat) = 0) = dd) : guardK v w y n = guardK v' w y n := by rw [e]
theorem groupK_weak {dd : Prop} {v v' : Value} {w : Bool} {l l' : List Value} {h : St} {body : (List Value → St → Prop) → Prop} {J : List Value → St → Prop} (e : v = v') (el : l = l') (_t : ((0 : Nat) = 0) = dd) : groupK v w l h body J = groupK v' w l' h body J := by rw [e, el]
theorem allocE_weak {dd : Prop} {o o' : Option (List Value)} {h h' : St} {k : Cont} (e : o = o') (eh : h = h') (_t : ((0 : Nat) = 0) = dd) : allocE o h k = allocE o' h' k := by rw [e, eh]
theorem boxE_weak {dd : Prop} {o o' : Value} {h h' : St} {k : Cont} (e : o = o') (eh : h = h') (_t : ((0 : Nat) = 0) = dd) : boxE o h k = boxE o' h' k := by rw [e, eh]
theorem storeE_weak {dd : Prop} {n : Nat} {p p' v v' : Value} {h h' : St} {k : Cont} (e : p = p') (ev : v = v') (eh : h = h') (_t : ((0 : Nat) = 0) = dd) : storeE n p v h k = storeE n p' v' h' k := by rw [e, ev, eh]
theorem storeM_weak {dd : Prop} {n i off : Nat} {v v' : Value} {h h' : St} {k : Cont} {o o' : Option AObj} (ev : v = v') (eh : h = h') (eo : o = o') (_t : ((0 : Nat) = 0) = dd) : storeM n i off v h k o = storeM n i off v' h' k o' := by rw [ev, eh, eo]
theorem tabC_weak {dd : Prop} {tab : List (FuncId × Spec)} {f : FuncId} {args args' : List Value} {h h' : St} {k : Cont} (e : args = args') (eh : h = h') (_t : ((0 : Nat) = 0) = dd) : tabC tab f args h k = tabC tab f args' h' k := by rw [e, eh]
theorem ite_weak {dd : Prop} {c c' : Prop} [Decidable c] [Decidable c'] {y n : Prop} (e : c = c') (_t : ((0 : Nat) = 0) = dd) : (if c then y else n) = (if c' then y else n) := by subst e; congr
theorem idG_weak {dd : Prop} {p p' : Prop} (e : p = p') (_t : ((0 : Nat) = 0) = dd) : idG p = idG p' := by rw [e]
end Go.Abs
end

section
set_option linter.unusedSimpArgs false
set_option linter.unusedVariables false
namespace Go.Abs

theorem takeN_some {cs l : List Value} {o n : Nat} (h : takeN cs o n = some l) : o + n ≤ cs.length ∧ l = (cs.drop o).take n ∧ l.length = n := by
  unfold takeN at h
  split at h
  · rename_i hl
    cases h
    refine ⟨hl, rfl, ?_⟩
    rw [List.length_take, List.length_drop]
    omega
  · cases h
theorem takeN_get {cs l : List Value} {o n j : Nat} (h : takeN cs o n = some l) (hj : j < n) : cs[o + j]? = l[j]? := by
  obtain ⟨_, rfl, _⟩ := takeN_some h
  rw [List.getElem?_take, if_pos hj, List.getElem?_drop]
theorem takeN_sub {cs l : List Value} {o n o' m : Nat} (h : takeN cs o n = some l) (hm : o' + m ≤ n) : takeN cs (o + o') m = some ((l.drop o').take m) := by
  obtain ⟨h1, rfl, _⟩ := takeN_some h
  unfold takeN
  rw [if_pos (by omega)]
  congr 1
  rw [List.drop_take, List.take_take, List.drop_drop, Nat.min_eq_left (by omega)]
theorem takeN_flat {α : Type} {f : α → List Value} {sz : Nat} : ∀ (L : List α) (i : Nat) (x : α), (∀ y ∈ L, (f y).length = sz) → L[i]? = some x → takeN (L.flatMap f) (i * sz) sz = some (f x)
  | [], i, x, hf, h => by simp at h
  | y :: L, 0, x, hf, h => by
    simp at h; subst h
    have hy := hf y (by simp)
    unfold takeN
    rw [Nat.zero_mul, Nat.zero_add, if_pos (by rw [List.flatMap_cons, List.length_append]; omega), List.drop_zero, List.flatMap_cons, ← hy, List.take_append_of_le_length (Nat.le_refl _), List.take_length]
  | y :: L, i + 1, x, hf, h => by
    have ih := takeN_flat L i x (fun y hy => hf y (by simp [hy])) (by simpa using h)
    have hy := hf y (by simp)
    unfold takeN at ih ⊢
    split at ih
    · rename_i hl
      have e : (i + 1) * sz = (f y).length + i * sz := by rw [hy, Nat.succ_mul]; omega
      rw [if_pos (by simp only [List.flatMap_cons, List.length_append]; omega)]
      rw [List.flatMap_cons, e, List.drop_append, List.drop_eq_nil_of_le (by omega), List.nil_append, Nat.add_sub_cancel_left]
      exact ih
    · cases ih

/-- The heap has changed in places of a kind alone. -/
def ChgP (D : Nat → Prop) (h h' : St) : Prop := h.next ≤ h'.next ∧ ∀ i, i < h.next → ¬ D i → h'.objs i = h.objs i
theorem ChgP.refl (D : Nat → Prop) (h : St) : ChgP D h h := ⟨Nat.le_refl _, fun _ _ _ => rfl⟩
theorem Chg.toP {D : Nat → Prop} {h h' : St} {S : List Nat} (c : Chg h h' S) (hS : ∀ i ∈ S, D i) : ChgP D h h' := ⟨c.1, fun i hi hn => c.2 i hi fun h => hn (hS i h)⟩
theorem ChgP.trans {D D' E : Nat → Prop} {h h' h'' : St} (a : ChgP D h h') (b : ChgP D' h' h'') (hD : ∀ i, i < h.next → D i → E i) (hD' : ∀ i, i < h.next → D' i → E i) : ChgP E h h'' :=
  ⟨Nat.le_trans a.1 b.1, fun i hi hn => (b.2 i (Nat.lt_of_lt_of_le hi a.1) fun h => hn (hD' i hi h)).trans (a.2 i hi fun h => hn (hD i hi h))⟩
theorem ChgP.step {D : Nat → Prop} {h h' h'' : St} (a : ChgP D h h') (b : ChgP D h' h'') : ChgP D h h'' := a.trans b (fun _ _ h => h) (fun _ _ h => h)
theorem ChgP.mono {D E : Nat → Prop} {h h' : St} (a : ChgP D h h') (hD : ∀ i, i < h.next → D i → E i) : ChgP E h h' := ⟨a.1, fun i hi hn => a.2 i hi fun h => hn (hD i hi h)⟩
theorem ChgP.at {D : Nat → Prop} {h h' : St} (c : ChgP D h h') {i : Nat} {o : AObj} (hi : i < h.next) (hn : ¬ D i) (ho : h.objs i = some o) : h'.objs i = some o := (c.2 i hi hn).trans ho
theorem ChgP.of_push {D : Nat → Prop} {h h' : St} {o : AObj} (c : ChgP D h h') : ChgP D h (h'.push o) := c.trans ((Chg.push o []).toP (D := D) (by simp)) (fun _ _ h => h) (fun _ _ h => h)
theorem ChgP.of_set {D : Nat → Prop} {h h' : St} {o : AObj} {i : Nat} (c : ChgP D h h') (hi : D i ∨ h.next ≤ i) : ChgP D h (h'.set i o) :=
  c.trans ((Chg.set (S := [i]) o (by simp)).toP (D := (· = i)) (by simp)) (fun _ _ h => h) (by rintro j hj rfl; rcases hi with h | h; exact h; omega)
theorem ChgP.of_kill {D : Nat → Prop} {h h' : St} {i : Nat} (c : ChgP D h h') (hi : D i ∨ h.next ≤ i) : ChgP D h (h'.kill i) :=
  c.trans ((Chg.kill (h := h') (i := i)).toP (D := (· = i)) (by simp)) (fun _ _ h => h) (by rintro j hj rfl; rcases hi with h | h; exact h; omega)
theorem ChgP.of_chg {D : Nat → Prop} {h h' h'' : St} {S : List Nat} (c : ChgP D h h') (d : Chg h' h'' S) (hi : ∀ i ∈ S, D i ∨ h.next ≤ i) : ChgP D h h'' :=
  c.trans (d.toP (D := (· ∈ S)) (fun _ h => h)) (fun _ _ h => h) (by intro j hj h; rcases hi j h with h | h; exact h; omega)
theorem ChgP.list {D : Nat → Prop} {h h' : St} (c : ChgP D h h') {S : List Nat} (hS : ∀ i, i < h.next → D i → i ∈ S) : Chg h h' S := ⟨c.1, fun i hi hn => c.2 i hi fun h => hn (hS i hi h)⟩

/-- A slice, as it is read: its rows, in a block of a kind. -/
def SliceAt (B : Nat → Prop) (h : St) (v : Value) (n sz : Nat) (row : Nat → List Value) : Prop :=
  (v = .slice none 0 0 ∧ n = 0) ∨ ∃ b off sp c, v = .slice (some ⟨b, off, sp⟩) n c ∧ (sp = none ∨ sp = some sz ∧ c = 0) ∧ (0 < n → B b ∧ b < h.next ∧ ∃ cs own, h.objs b = some (.cells cs own) ∧ ∀ i, i < n → takeN cs (off + i * sz) sz = some (row i))
theorem SliceAt.len {B : Nat → Prop} {h : St} {v : Value} {n sz : Nat} {row : Nat → List Value} (s : SliceAt B h v n sz row) : lenS v = some (.int .i64 n) := by
  rcases s with ⟨rfl, rfl⟩ | ⟨b, off, sp, c, rfl, _⟩ <;> rfl
theorem SliceAt.idx {B : Nat → Prop} {h : St} {v : Value} {n sz : Nat} {row : Nat → List Value} (s : SliceAt B h v n sz row) {i : Int} (h0 : 0 ≤ i) (h1 : i < n) (k : IntKind) :
    ∃ b o, idxS sz v (.int k i) = some (.pointer (some ⟨b, o, none⟩)) ∧ B b ∧ b < h.next ∧ ∃ cs own, h.objs b = some (.cells cs own) ∧ takeN cs o sz = some (row i.toNat) := by
  rcases s with ⟨rfl, rfl⟩ | ⟨b, off, sp, c, rfl, _, hs⟩
  · omega
  · obtain ⟨g1, g2, cs, own, g3, g4⟩ := hs (by omega)
    exact ⟨b, off + i.toNat * sz, by simp [idxS, h0, h1], g1, g2, cs, own, g3, g4 _ (by omega)⟩
theorem SliceAt.chgP {B D : Nat → Prop} {h h' : St} {v : Value} {n sz : Nat} {row : Nat → List Value} (s : SliceAt B h v n sz row) (c : ChgP D h h') (hS : ∀ i, D i → ¬ B i) : SliceAt B h' v n sz row := by
  rcases s with hs | ⟨b, off, sp, cc, hv, hp, hs⟩
  · exact .inl hs
  · refine .inr ⟨b, off, sp, cc, hv, hp, fun hn => ?_⟩
    obtain ⟨g1, g2, cs, own, g3, g4⟩ := hs hn
    exact ⟨g1, Nat.lt_of_lt_of_le g2 c.1, cs, own, c.at g2 (fun hi => hS b hi g1) g3, g4⟩
theorem SliceAt.chg {B : Nat → Prop} {h h' : St} {v : Value} {n sz : Nat} {row : Nat → List Value} (s : SliceAt B h v n sz row) {S : List Nat} (c : Chg h h' S) (hS : ∀ i ∈ S, ¬ B i) : SliceAt B h' v n sz row :=
  s.chgP (D := (· ∈ S)) (c.toP fun _ h => h) hS
theorem SliceAt.imp {B B' : Nat → Prop} {h : St} {v : Value} {n sz : Nat} {row : Nat → List Value} (s : SliceAt B h v n sz row) (hB : ∀ i, i < h.next → B i → B' i) : SliceAt B' h v n sz row := by
  rcases s with hs | ⟨b, off, sp, cc, hv, hp, hs⟩
  · exact .inl hs
  · refine .inr ⟨b, off, sp, cc, hv, hp, fun hn => ?_⟩
    obtain ⟨g1, g2, g3⟩ := hs hn
    exact ⟨hB b g2 g1, g2, g3⟩
theorem SliceAt.rows {B : Nat → Prop} {h : St} {v : Value} {n sz : Nat} {row row' : Nat → List Value} (s : SliceAt B h v n sz row) (hr : ∀ i, i < n → row i = row' i) : SliceAt B h v n sz row' := by
  rcases s with hs | ⟨b, off, sp, cc, hv, hp, hs⟩
  · exact .inl hs
  · refine .inr ⟨b, off, sp, cc, hv, hp, fun hn => ?_⟩
    obtain ⟨g1, g2, cs, own, g3, g4⟩ := hs hn
    exact ⟨g1, g2, cs, own, g3, fun i hi => by rw [← hr i hi]; exact g4 i hi⟩
/-- A part of a slice. -/
theorem SliceAt.cut {B : Nat → Prop} {h : St} {v : Value} {n sz : Nat} {row : Nat → List Value} (s : SliceAt B h v n sz row) {lo hi : Option Value} {l e : Nat} (hr : loHi n n lo hi = some (l, e)) (h1 : l ≤ e) (h2 : e ≤ n) :
    ∃ v', cutS sz v lo hi = some v' ∧ SliceAt B h v' (e - l) sz (fun i => row (l + i)) := by
  rcases s with ⟨rfl, rfl⟩ | ⟨b, off, sp, cc, rfl, hp, hs⟩
  · have : e - l = 0 := by omega
    rw [this]
    exact ⟨.slice none 0 0, by simp [cutS, hr], .inl ⟨rfl, rfl⟩⟩
  · refine ⟨.slice (some ⟨b, off + l * sz, sp⟩) (e - l) cc, ?_, .inr ⟨b, off + l * sz, sp, cc, rfl, hp, fun hn => ?_⟩⟩
    · rcases hp with rfl | ⟨rfl, rfl⟩
      · simp [cutS, hr]
      · simp [cutS, capOf, hr]
    · obtain ⟨g1, g2, cs, own, g3, g4⟩ := hs (by omega)
      refine ⟨g1, g2, cs, own, g3, fun i hi => ?_⟩
      have := g4 (l + i) (by omega)
      rwa [Nat.add_mul, ← Nat.add_assoc] at this
theorem loHi_lo {n l : Nat} {k : IntKind} (h : l ≤ n) : loHi n n (some (.int k l)) none = some (l, n) := by simp [loHi]; omega
theorem loHi_hi {n e : Nat} {k : IntKind} (h : e ≤ n) : loHi n n none (some (.int k e)) = some (0, e) := by simp [loHi]; omega
theorem loHi_both {n l e : Nat} {k k' : IntKind} (h : l ≤ e) (h' : e ≤ n) : loHi n n (some (.int k l)) (some (.int k' e)) = some (l, e) := by simp [loHi]; omega
theorem RowIn.slice {h : St} {v : Value} {n sz : Nat} {rows : Nat → List Value} (r : RowIn h v n sz rows) (wf : h.Wf) (hl : ∀ i, i < n → (rows i).length = sz) : SliceAt (· < h.next) h v n sz rows := by
  rcases r with hs | ⟨b, off, c, hv, hs⟩
  · exact .inl hs
  · refine .inr ⟨b, off, none, c, hv, .inl rfl, fun hn => ?_⟩
    obtain ⟨cs, g1, g2⟩ := hs hn
    refine ⟨wf _ _ g1, wf _ _ g1, cs, false, g1, fun i hi => ?_⟩
    have e := takeN_sub (o' := i * sz) (m := sz) g2 (by
      have : (i + 1) * sz ≤ n * sz := Nat.mul_le_mul_right _ hi
      rw [Nat.succ_mul] at this; exact this)
    rw [e]
    have f := takeN_flat (f := rows) (sz := sz) (List.range n) i i (fun y hy => hl y (by simpa using hy)) (by simp [hi])
    unfold takeN at f
    split at f
    · exact f
    · cases f

/-- A slice of one's own: all of its cells. -/
def OwnS (B : Nat → Prop) (h : St) (v : Value) (sz : Nat) (cs : List Value) (n : Nat) : Prop :=
  (v = .slice none 0 0 ∧ n = 0 ∧ cs = []) ∨ ∃ q, v = .slice (some ⟨q, 0, some sz⟩) n 0 ∧ B q ∧ q < h.next ∧ h.objs q = some (.cells cs true) ∧ cs.length = n * sz
theorem OwnS.len {B : Nat → Prop} {h : St} {v : Value} {n sz : Nat} {cs : List Value} (s : OwnS B h v sz cs n) : lenS v = some (.int .i64 n) := by
  rcases s with ⟨rfl, rfl, _⟩ | ⟨q, rfl, _⟩ <;> rfl
theorem OwnS.chg {B : Nat → Prop} {h h' : St} {v : Value} {n sz : Nat} {cs : List Value} (s : OwnS B h v sz cs n) {S : List Nat} (c : Chg h h' S) (hS : ∀ i ∈ S, ¬ B i) : OwnS B h' v sz cs n := by
  rcases s with hs | ⟨q, g1, g2, g3, g4, g5⟩
  · exact .inl hs
  · exact .inr ⟨q, g1, g2, Nat.lt_of_lt_of_le g3 c.1, c.at g3 (fun hi => hS q hi g2) g4, g5⟩
theorem OwnS.imp {B B' : Nat → Prop} {h : St} {v : Value} {n sz : Nat} {cs : List Value} (s : OwnS B h v sz cs n) (hB : ∀ i, i < h.next → B i → B' i) : OwnS B' h v sz cs n := by
  rcases s with hs | ⟨q, g1, g2, g3, g4, g5⟩
  · exact .inl hs
  · exact .inr ⟨q, g1, hB q g3 g2, g3, g4, g5⟩
theorem OwnS.slice {B : Nat → Prop} {h : St} {v : Value} {sz : Nat} {α : Type} {f : α → List Value} {L : List α} {row : Nat → List Value} (s : OwnS B h v sz (L.flatMap f) L.length) (hf : ∀ y ∈ L, (f y).length = sz) (hr : ∀ (i : Nat) (x : α), L[i]? = some x → row i = f x) : SliceAt B h v L.length sz row := by
  rcases s with ⟨rfl, g, _⟩ | ⟨q, rfl, g2, g3, g4, g5⟩
  · exact .inl ⟨rfl, g⟩
  · refine .inr ⟨q, 0, some sz, 0, rfl, .inr ⟨rfl, rfl⟩, fun hn => ⟨g2, g3, _, _, g4, fun i hi => ?_⟩⟩
    have e : L[i]? = some L[i] := List.getElem?_eq_getElem hi
    rw [Nat.zero_add, hr i _ e]
    exact takeN_flat L i _ hf e
theorem OwnS.app0 {B : Nat → Prop} {h h' : St} {v x : Value} {n sz size bytes : Nat} {cs : List Value} {k : Cont} (s : OwnS B h v sz cs n) : appendE size bytes v x h' k = appendE0 size bytes v x h' k := by
  unfold appendE
  rcases s with ⟨rfl, _⟩ | ⟨q, rfl, _⟩ <;> rfl
/-- What is appended to a slice of one's own. -/
theorem append_own {B : Nat → Prop} {h : St} {v x : Value} {sz n m bytes : Nat} {cs new : List Value} (s : OwnS B h v sz cs n) (hx : newCells sz x h = some (new, m)) (hm : 0 < m) (hn : new.length = m * sz)
    (h1 : allOne new = true) (hb : (n + m) * bytes ≤ 140737488355328) (hb' : n + m ≤ 140737488355328) {k : Cont}
    (hk : ∀ h' S, (∀ i ∈ S, B i) → Chg h h' S → h.next < h'.next → h'.objs h.next = some (.cells (cs ++ new) true) → (cs ++ new).length = (n + m) * sz → k (.slice (some ⟨h.next, 0, some sz⟩) (n + m) 0) h') : appendE sz bytes v x h k := by
  rw [s.app0]
  unfold appendE0
  rw [hx]
  rcases s with ⟨rfl, rfl, rfl⟩ | ⟨q, rfl, g2, g3, g4, g5⟩
  · obtain ⟨m, rfl⟩ : ∃ m', m = m' + 1 := ⟨m - 1, by omega⟩
    rw [Nat.zero_add] at hb hb' hk
    refine ⟨⟨by rw [allOne_eq]; exact h1, hb, hb'⟩, ?_⟩
    exact hk _ [] (by simp) (Chg.push _ _) (by simp) (push_at _ _) (by simpa using hn)
  · simp only [g4]
    refine ⟨⟨by rw [allOne_eq]; exact h1, trivial, trivial, by omega, hb, hb'⟩, ?_⟩
    have e : cs.take (n * sz) = cs := by rw [← g5]; exact List.take_length
    rw [e]
    exact hk _ [q] (by simpa using g2) (Chg.of_push Chg.kill) (by simp) (by exact push_at (h.kill q) _) (by rw [List.length_append, g5, hn, Nat.add_mul])
theorem st0_wf (W : World) : (st0 W).Wf := by
  intro i o h
  simp only [st0] at h
  split at h
  · rename_i hb; exact (Array.getElem?_eq_some_iff.1 hb).1
  · cases h
theorem OwnS.chgP {B D : Nat → Prop} {h h' : St} {v : Value} {n sz : Nat} {cs : List Value} (s : OwnS B h v sz cs n) (c : ChgP D h h') (hS : ∀ i, D i → ¬ B i) : OwnS B h' v sz cs n := by
  rcases s with hs | ⟨q, g1, g2, g3, g4, g5⟩
  · exact .inl hs
  · exact .inr ⟨q, g1, g2, Nat.lt_of_lt_of_le g3 c.1, c.at g3 (fun hi => hS q hi g2) g4, g5⟩
/-- What is appended to a slice of one's own, even nothing. -/
theorem append_own' {B : Nat → Prop} {h : St} {v x : Value} {sz n m bytes : Nat} {cs new : List Value} (hB : B h.next) (s : OwnS B h v sz cs n) (hx : newCells sz x h = some (new, m)) (hn : new.length = m * sz)
    (h1 : allOne new = true) (hb : (n + m) * bytes ≤ 140737488355328) (hb' : n + m ≤ 140737488355328) {k : Cont}
    (hk : ∀ h' v', ChgP B h h' → OwnS B h' v' sz (cs ++ new) (n + m) → k v' h') : appendE sz bytes v x h k := by
  by_cases hm : 0 < m
  · exact append_own s hx hm hn h1 hb hb' fun h' S hS c n' o' e' => hk h' _ (c.toP hS) (.inr ⟨_, rfl, hB, n', o', e'⟩)
  have : m = 0 := by omega
  subst this
  have : new = [] := by simpa using hn
  subst this
  rw [s.app0]
  unfold appendE0
  rw [hx]
  rcases s with ⟨rfl, rfl, rfl⟩ | ⟨q, rfl, g2, g3, g4, g5⟩
  · exact ⟨⟨rfl, by omega, by omega⟩, hk h _ (ChgP.refl _ _) (.inl ⟨rfl, rfl, rfl⟩)⟩
  · simp only [g4]
    refine ⟨⟨rfl, trivial, trivial, by omega, hb, hb'⟩, ?_⟩
    have e : cs.take (n * sz) = cs := by rw [← g5]; exact List.take_length
    rw [e]
    exact hk _ _ ((ChgP.of_kill (ChgP.refl _ _) (.inl g2)).of_push) (.inr ⟨h.next, rfl, hB, by simp, by exact push_at (h.kill q) _, by simpa using g5⟩)
theorem OwnS.one {B : Nat → Prop} {h : St} {v : Value} {sz : Nat} {cs : List Value} {n : Nat} (s : OwnS B h v sz cs n) : one v = true := by
  rcases s with ⟨rfl, _⟩ | ⟨q, rfl, _⟩ <;> rfl
theorem OwnS.cells1 {B : Nat → Prop} {h : St} {v : Value} {sz : Nat} {cs : List Value} {n : Nat} (s : OwnS B h v sz cs n) : v.cells = #[v] := by
  rcases s with ⟨rfl, _⟩ | ⟨q, rfl, _⟩ <;> rfl
theorem SliceAt.one {B : Nat → Prop} {h : St} {v : Value} {n sz : Nat} {row : Nat → List Value} (s : SliceAt B h v n sz row) : Abs.one v = true := by
  rcases s with ⟨rfl, _⟩ | ⟨b, off, sp, c, rfl, _⟩ <;> rfl
theorem SliceAt.cells1 {B : Nat → Prop} {h : St} {v : Value} {n sz : Nat} {row : Nat → List Value} (s : SliceAt B h v n sz row) : v.cells = #[v] := by
  rcases s with ⟨rfl, _⟩ | ⟨b, off, sp, c, rfl, _⟩ <;> rfl
theorem SliceAt.isUnk {B : Nat → Prop} {h : St} {v : Value} {n sz : Nat} {row : Nat → List Value} (s : SliceAt B h v n sz row) : isUnk v = false := by
  rcases s with ⟨rfl, _⟩ | ⟨b, off, sp, c, rfl, _⟩ <;> rfl
theorem OwnS.isUnk {B : Nat → Prop} {h : St} {v : Value} {sz : Nat} {cs : List Value} {n : Nat} (s : OwnS B h v sz cs n) : Abs.isUnk v = false := by
  rcases s with ⟨rfl, _⟩ | ⟨q, rfl, _⟩ <;> rfl
def isAgg : Option TypeDesc → Bool
  | some (.struct _) | some (.array _ _) => true
  | _ => false
theorem okWide_agg {P : Program} {w : World} {r : Reach} {base : Nat} {t : TypeId} {v : Value} (ht : isAgg (P.underlying t) = true) (h : Value.okWide P w r base t v) : ∃ cs, v = .agg cs := by
  unfold Value.okWide at h
  split at h
  · obtain ⟨cs, h, _⟩ := h; exact ⟨cs, h⟩
  · obtain ⟨cs, h, _⟩ := h; exact ⟨cs, h⟩
  · rename_i h1 h2
    unfold isAgg at ht
    split at ht
    · rename_i h; exact absurd h (h1 _)
    · rename_i h; exact absurd h (h2 _ _)
    · cases ht
/-- Cells that hold no address are what they are. -/
theorem VRel.flat {ρ : Rho} (cs : Array Value) (h : cs.toList.all lit1 = true) : VRel ρ (.agg cs) (.agg cs) :=
  .agg cs cs rfl fun i h1 _ => .lit _ (by
    rw [List.all_eq_true] at h
    exact h _ (by simp))
end Go.Abs
end

section
set_option linter.unusedSimpArgs false
set_option linter.unusedVariables false
namespace Go.Abs
section
variable {P : Program} {C : Oracle}

theorem stepK_live (HL : OracleLive C) {o : Op} {t : List Value} {h : St} {k : Cont} (H : stepK P C o t h k) : ∃ v h', k v h' := by
  unfold stepK at H
  split at H
  · rw [evK_eq] at H; exact ⟨_, _, H⟩
  · unfold opK at H
    split at H
    · exact opE_live HL H
    · cases hv : opV P o (evA P t) h with
      | none => rw [hv] at H; exact H.elim
      | some v => rw [hv] at H; exact ⟨_, _, H⟩
theorem runG_live (HL : OracleLive C) {J : List Value → St → Prop} : ∀ (l : List Oper) (t : List Value) (h : St) (acc : List Value), runG P C l t h acc J → ∃ xs h', J xs h'
  | [], _, _, _, H => ⟨_, _, H⟩
  | o :: l, t, h, acc, H => by
    obtain ⟨v, h', H⟩ := stepK_live HL H
    exact runG_live HL l _ _ _ H
theorem guardK_live {v : Value} {want : Bool} {yes no : Prop} (H : guardK v want yes no) : yes ∨ no := by
  rcases guardK_abs H with ⟨H, _⟩ | ⟨H, _⟩
  · exact .inl H
  · exact .inr H
theorem regK_live (HL : OracleLive C) {ops : Array Oper} {K : List Value → St → Prop} : ∀ (gs : List Group) (t : List Value) (h : St), regK P C idG ops gs t h K → ∃ t' h', K t' h'
  | [], _, _, H => ⟨_, _, H⟩
  | .one o :: r, t, h, H => by
    obtain ⟨v, h', H⟩ := stepK_live HL H
    rw [tidyT_eq] at H
    exact regK_live HL r _ _ H
  | .many j want l :: r, t, h, H => by
    simp only [regK] at H
    split at H
    · have go : ∀ xs h', idG (forceT (putsT xs l 0 t) fun t' => regK P C idG ops r t' h' K) → ∃ t' h', K t' h' := fun xs h' q => by
        rw [idG_eq, forceT_eq] at q
        exact regK_live HL r _ _ q
      rcases guardK_live H with H | H
      · obtain ⟨xs, h', H⟩ := runG_live HL _ _ _ _ H
        exact go _ _ H
      · exact go _ _ H
    · exact H.elim
theorem stepD_live (HL : OracleLive C) {bef : List Nat} {o : Op} {i : Nat} {t : List Value} {h : St} {seen : List Seen} {past : List (Nat × Option St)} {k : Cont} (H : stepD P C bef o i t h seen past k) : ∃ v h', k v h' := by
  unfold stepD at H
  split at H
  · rw [evK_eq] at H; exact ⟨_, _, H⟩
  · split at H
    · split at H
      · obtain ⟨v, h', H⟩ := opE_live HL H
        exact ⟨v, h', H.2⟩
      · exact H.elim
    · split at H
      · cases hv : opV P o (evA P t) h with
        | none => rw [hv] at H; exact H.elim
        | some v => rw [hv] at H; exact ⟨_, _, H.2⟩
      · cases hv : opV P o (evA P t) h with
        | none => rw [hv] at H; exact H.elim
        | some v => rw [hv] at H; exact ⟨_, _, H⟩
theorem runD_live (HL : OracleLive C) {bef : List Nat} {J : List Value → St → Prop} : ∀ (l : List Oper) (i : Nat) (t : List Value) (h : St) (seen : List Seen) (past : List (Nat × Option St)) (acc : List Value), runD P C bef l i t h seen past acc J → ∃ xs h', J xs h'
  | [], _, _, _, _, _, _, H => ⟨_, _, H⟩
  | o :: l, i, t, h, seen, past, acc, H => by
    obtain ⟨v, h', H⟩ := stepD_live HL H
    exact runD_live HL l _ _ _ _ _ _ H
theorem regD_live (HL : OracleLive C) {ops : Array Oper} {bef : List Nat} {K : List Value → St → Prop} : ∀ (gs : List Group) (i : Nat) (t : List Value) (h : St) (seen : List Seen) (past : List (Nat × Option St)), regD P C idG ops bef gs i t h seen past K → ∃ t' h', K t' h'
  | [], _, _, _, _, _, H => ⟨_, _, H⟩
  | .one o :: r, i, t, h, seen, past, H => by
    obtain ⟨v, h', H⟩ := stepD_live HL H
    exact regD_live HL r _ _ _ _ _ H
  | .many j want l :: r, i, t, h, seen, past, H => by
    simp only [regD] at H
    split at H
    · have go : ∀ xs h' s p, idG (forceT (putsT xs l 0 t) fun t' => regD P C idG ops bef r (i + l.length) t' h' s p K) → ∃ t' h', K t' h' := fun xs h' s p q => by
        rw [idG_eq, forceT_eq] at q
        exact regD_live HL r _ _ _ _ _ q
      rcases guardK_live H with H | H
      · obtain ⟨xs, h', H⟩ := runD_live HL _ _ _ _ _ _ _ H
        exact go _ _ _ _ H
      · exact go _ _ _ _ H
    · exact H.elim
theorem runO_live (HL : OracleLive C) {ops : Array Oper} {bef : List Nat} {K : List Value → St → Prop} : ∀ (l : List Nat) (t : List Value) (h : St) (seen : List Seen) (past : List (Nat × Option St)), runO P C ops bef l t h seen past K → ∃ t' h', K t' h'
  | [], t, h, _, _, H => ⟨t, h, H⟩
  | i :: l, t, h, seen, past, H => by
    simp only [runO] at H
    split at H
    · split at H
      · obtain ⟨v, h', H⟩ := stepD_live HL H
        exact runO_live HL l _ _ _ _ H
      · exact H.elim
    · exact H.elim
theorem regS_live (HL : OracleLive C) {K : List Value → St → Prop} : ∀ (n : Nat) (ops : Array Oper) (order : List Nat) (t : List Value) (h : St), regS P C n ops order t h K → ∃ t' h', K t' h'
  | 0, _, _, _, _, H => H.elim
  | n + 1, ops, order, t, h, H => by
    simp only [regS] at H
    split at H
    · split at H
      · exact runO_live HL _ _ _ _ _ H
      · exact H.elim
    · split at H
      · exact H.elim
      · split at H
        · exact regS_live HL n _ _ _ _ H
        · exact regS_live HL n _ _ _ _ H.1
theorem drawK_live (HL : OracleLive C) {ops : Array Oper} {t : List Value} {h : St} {K : List Value → St → Prop} (H : drawK P C idG ops t h K) : ∃ t' h', K t' h' := by
  unfold drawK at H
  split at H
  · exact regS_live HL _ _ _ _ _ H
  · exact regD_live HL _ _ _ _ _ _ H
def LoopLive (L : Looper) : Prop := ∀ c t h K, L c t h K → ∃ e t' h', K e t' h'
theorem codeK_live (HL : OracleLive C) {keep : List Bool} {L : Looper} (hL : LoopLive L) : ∀ (c : Code) (t : List Value) (h : St) (K : Kont), codeK P C idG keep L c t h K → ∃ e t' h', K e t' h'
  | .skip, t, h, K, H => ⟨_, _, _, H⟩
  | .region _ ops false, t, h, K, H => by
    obtain ⟨t', h', H⟩ := regK_live HL _ _ _ H
    exact ⟨_, _, _, H⟩
  | .region _ ops true, t, h, K, H => by
    simp only [codeK] at H
    split at H
    · obtain ⟨t', h', H⟩ := drawK_live HL H
      exact ⟨_, _, _, H⟩
    · exact H.elim
  | .seq a b, t, h, K, H => by
    obtain ⟨e, t', h', H⟩ := codeK_live HL hL a _ _ _ H
    cases e with
    | normal =>
      simp only [seqC, nextK] at H
      split at H
      · rw [forceT_eq] at H
        exact codeK_live HL hL b _ _ _ H
      · rw [idG_eq, forceT_eq] at H
        exact codeK_live HL hL b _ _ _ H
    | _ => exact ⟨_, _, _, H⟩
  | .cond c a b, t, h, K, H => by
    simp only [codeK, condK] at H
    split at H
    · exact codeK_live HL hL a _ _ _ H
    · exact codeK_live HL hL b _ _ _ H
    · exact H.elim
  | .block id c, t, h, K, H => by
    obtain ⟨e, t', h', H⟩ := codeK_live HL hL c _ _ _ H
    unfold blockC at H
    split at H
    · split at H
      · exact ⟨_, _, _, H⟩
      · exact ⟨_, _, _, H⟩
    · exact ⟨_, _, _, H⟩
  | .loop c, t, h, K, H => by
    simp only [codeK, idG_eq] at H
    exact hL _ _ _ _ H
  | .exit id, t, h, K, H => ⟨_, _, _, H⟩
  | .ret, t, h, K, H => ⟨_, _, _, H⟩
  | .label _, t, h, K, H => ⟨_, _, _, H⟩
theorem loopK_live (HL : OracleLive C) {keep : List Bool} : ∀ n, LoopLive (loopK P C idG keep n)
  | 0 => fun c t h K H => H.elim
  | n + 1 => fun c t h K H => by
    obtain ⟨e, t', h', H⟩ := codeK_live HL (loopK_live HL n) c t h _ H
    cases e with
    | normal =>
      simp only [loopC, idG_eq] at H
      exact loopK_live HL n _ _ _ _ H
    | _ => exact ⟨_, _, _, H⟩
theorem resultK_live {t : List Value} {h : St} {K : List Value → Prop} : ∀ (rs : List ResultVar) (acc : List Value), resultK P t h rs acc K → ∃ l, K l
  | [], _, H => ⟨_, H⟩
  | .tmp n :: r, acc, H => resultK_live r _ H
  | .cell a ty :: r, acc, H => by
    simp only [resultK] at H
    split at H
    · cases hv : loadV _ _ (getT t a) h with
      | none => rw [hv] at H; exact H.elim
      | some v => rw [hv] at H; exact resultK_live r _ H
    · exact H.elim
theorem funcK_live (HL : OracleLive C) {keep : List Bool} {n : Nat} {fn : Func} {args : List Value} {h : St} {K : Cont} (H : funcK P C idG keep n fn args h K) : ∃ v h', K v h' := by
  obtain ⟨e, t', h', H⟩ := codeK_live HL (loopK_live HL n) _ _ _ _ H
  unfold funcC at H
  split at H
  · obtain ⟨l, H⟩ := resultK_live _ _ H; exact ⟨_, _, H⟩
  · obtain ⟨l, H⟩ := resultK_live _ _ H; exact ⟨_, _, H⟩
  · exact H.elim
end
/-- A spec that holds, and of which something comes. -/
def SpecGood (P : Program) (p : FuncId × Spec) : Prop := SpecOk P p.1 p.2 ∧ SpecLive p.2
theorem spec_good {P : Program} (hm : P.follows .mixedOrders = true) {g : FuncId} {fn : Func} (hf : P.funcs[g]? = some fn) (hn : (fn.name == "runtime.NumGoroutine") = false) (hb : fn.body.isSome = true) {tab : List (FuncId × Spec)} (ht : ∀ p ∈ tab, SpecGood P p)
    {S : Spec} {keep : List Bool} (H : ∀ args h k, S args h k → ∃ n, funcK P (tabC tab) idG keep n fn args h fun v h1 => ∃ h2, St.le h2 h1 ∧ k v h2) : SpecGood P (g, S) := by
  refine ⟨specOk_wf hm hf hn hb (fun p hp => (ht p hp).1) (fun p hp => (ht p hp).2) (fun args h k _ hS => H args h k hS), fun args h k hS => ?_⟩
  obtain ⟨n, hk⟩ := H args h k hS
  obtain ⟨v, h', h2, _, hk⟩ := funcK_live (tabC_live fun p hp => (ht p hp).2) hk
  exact ⟨v, h2, hk⟩
/-! ### capacities -/
/-- A spec whose function asks for the capacity of its first argument. -/
theorem spec_good_cap {P : Program} (hm : P.follows .mixedOrders = true) {g : FuncId} {fn : Func} (hf : P.funcs[g]? = some fn) (hn : (fn.name == "runtime.NumGoroutine") = false) (hb : fn.body.isSome = true) {tab : List (FuncId × Spec)} (ht : ∀ p ∈ tab, SpecGood P p)
    {S : Spec} {keep : List Bool} (H : ∀ args h k, S args h k → ∃ q off z n rest, args = .slice (some ⟨q, off, some z⟩) n 0 :: rest ∧
      ∀ c, n ≤ c → c ≤ maxLen → ∃ m, funcK P (tabC tab) idG keep m fn (.slice (some ⟨q, off, some z⟩) n (c + 1) :: rest) h fun v h1 => ∃ h2, St.le h2 h1 ∧ k (forget v) h2)
    (hle : ∀ args h k, S args h k → ∀ q off z n rest, args = .slice (some ⟨q, off, some z⟩) n 0 :: rest → n ≤ maxLen) : SpecGood P (g, S) := by
  have hn' : fn.name ≠ "runtime.NumGoroutine" := fun e => by rw [e] at hn; simp at hn
  have hb' : fn.body ≠ none := fun e => by rw [e] at hb; simp at hb
  refine ⟨fun args h k hS B w0 w ρ args' HR HL => ?_, fun args h k hS => ?_⟩
  · obtain ⟨q, off, z, n, rest, rfl, hk⟩ := H args h k hS
    have hh := HL
    cases ha : args'.toList with
    | nil => rw [ha] at hh; cases hh
    | cons v' rest' =>
      rw [ha] at hh
      cases hh with
      | cons h1 h2 =>
        obtain ⟨c, c1, c2, c3⟩ := h1.known
        obtain ⟨m, hm'⟩ := hk c c1 c2
        have HL2 : LRel ρ (.slice (some ⟨q, off, some z⟩) n (c + 1) :: rest) args'.toList := by rw [ha]; exact .cons c3 h2
        rw [run_call hf hn' hb']
        refine (funcK_sound (K := fun v h2 => k (forget v) h2) (tabC_ok B w0 fun p hp => (ht p hp).1) (drawOk hm (tabC_ok B w0 fun p hp => (ht p hp).1) (tabC_live fun p hp => (ht p hp).2)) hf hb' HR HL2 hm').mono ?_
        rintro e w' ⟨v, v', h', ρ', e1, e2, e3, e4, e5⟩
        exact ⟨forget v, v', h', ρ', e1, e2, e3, e4, e5.forget⟩
  · obtain ⟨q, off, z, n, rest, rfl, hk⟩ := H args h k hS
    obtain ⟨m, hm'⟩ := hk n (Nat.le_refl _) (hle _ h k hS q off z n rest rfl)
    obtain ⟨v, h', h2, _, hk2⟩ := funcK_live (tabC_live fun p hp => (ht p hp).2) hm'
    exact ⟨forget v, h2, hk2⟩
end Go.Abs
end
