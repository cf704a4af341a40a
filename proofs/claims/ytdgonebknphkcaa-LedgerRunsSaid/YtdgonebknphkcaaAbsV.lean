/- Statements whose order Go leaves open: what the evaluator asks is enough. -/
import Derived.Test.YtdgonebknphkcaaAbsU
set_option linter.unusedSimpArgs false
set_option linter.unusedVariables false
namespace Go.Abs
open Go.RowKit (Below)

section
variable {P : Program} {B : Nat} {w0 : World} {ρ0 : Rho} {C : Oracle} {ops : Array Oper} {K : List Value → St → Prop}

theorem effWaits_spec {bef : List Nat} {i : Nat} : ∀ {past : List (Nat × Option St)}, effWaits bef i past = true → ∀ p ∈ past, waits bef p.1 i = true
  | [], _, p, hp => by cases hp
  | (e, h) :: rs, H, p, hp => by
    simp only [effWaits, Bool.and_eq_true] at H
    cases hp with
    | head => exact H.1
    | tail _ hp => exact effWaits_spec H.2 p hp
theorem pastOk_spec {bef : List Nat} {i : Nat} {op : Op} {ev : Operand → Value} {v : Value} : ∀ {past : List (Nat × Option St)}, pastOk P bef i op ev v past → ∀ p ∈ past, waits bef p.1 i = false → ∃ h, p.2 = some h ∧ opV P op ev h = some v
  | [], _, p, hp, _ => by cases hp
  | (e, h) :: rs, H, p, hp, hw => by
    obtain ⟨h1, h2⟩ := H
    cases hp with
    | head =>
      simp only at hw
      rw [hw] at h1
      cases h with
      | none => exact h1.elim
      | some h => exact ⟨h, rfl, h1⟩
    | tail _ hp => exact pastOk_spec h2 p hp hw
/-- What was done, as far as it is known. -/
def CovP (px : PastX) (past : List (Nat × Option St)) : Prop := ∀ p ∈ px, (p.1, some p.2) ∈ past ∨ (p.1, none) ∈ past
theorem CovP.eff {px : PastX} {past : List (Nat × Option St)} (c : CovP px past) {bef : List Nat} {i : Nat} (h : effWaits bef i past = true) : ∀ p ∈ px, waits bef p.1 i = true := by
  intro p hp
  rcases c p hp with q | q
  · exact effWaits_spec h _ q
  · exact effWaits_spec h _ q
theorem CovP.past {px : PastX} {past : List (Nat × Option St)} (c : CovP px past) {bef : List Nat} {i : Nat} {op : Op} {ev : Operand → Value} {v : Value} (h : pastOk P bef i op ev v past) : ∀ p ∈ px, waits bef p.1 i = false → opV P op ev p.2 = some v := by
  intro p hp hw
  rcases c p hp with q | q
  · obtain ⟨h', e, q⟩ := pastOk_spec h _ q hw
    cases e
    exact q
  · obtain ⟨h', e, q⟩ := pastOk_spec h _ q hw
    cases e
theorem CovP.mono {px : PastX} {past past' : List (Nat × Option St)} (c : CovP px past) (h : ∀ p ∈ past, p ∈ past') : CovP px past' := fun p hp => (c p hp).imp (h _) (h _)
/-- The evaluator's list says no less. -/
def Cov (P : Program) (bef : List Nat) (seen : List Seen) (sx : SeenX) : Prop := ∀ j h', seenOk P bef j h' seen → ∀ r ∈ sx, waits bef r.1 j = false → opV P r.2.1.op (evA P r.2.2.1) h' = some r.2.2.2
theorem Cov.add {bef : List Nat} {seen : List Seen} {sx : SeenX} (hc : Cov P bef seen sx) {o : Oper} {i : Nat} {t : List Value} {v : Value} {h : St} (he : isEff P o.op = false) (hv : opV P o.op (evA P t) h = some v) : Cov P bef (addSeen P none o.op i t v seen) ((i, o, t, v) :: sx) := by
  intro j h' hs r hr hw
  unfold addSeen at hs
  cases hrd : isRead P o.op with
  | true =>
    rw [hrd] at hs
    cases hr with
    | head =>
      have := hs.1
      simp only at hw this
      rw [hw] at this
      exact this
    | tail _ hr => exact hc j h' hs.2 r hr hw
  | false =>
    rw [hrd] at hs
    cases hr with
    | head => rw [opV_still he hrd (evA P t) h' h]; exact hv
    | tail _ hr => exact hc j h' hs r hr hw
theorem Cov.eff {bef : List Nat} {seen : List Seen} {sx : SeenX} (hc : Cov P bef seen sx) {o : Oper} {i : Nat} {t : List Value} {v : Value} : Cov P bef (addSeen P none o.op i t v seen) sx := by
  intro j h' hs
  unfold addSeen at hs
  split at hs
  · exact hc j h' hs.2
  · exact hc j h' hs
theorem moved_spec {op : Op} {x : Operand} (h : moved op = some x) (ev : Operand → Value) (s : St) : opV P op ev s = some (ev x) ∧ isEff P op = false ∧ isRead P op = false := by
  unfold moved at h
  split at h
  · cases h; exact ⟨rfl, rfl, rfl⟩
  · cases h; exact ⟨rfl, rfl, rfl⟩
  · cases h

theorem stepD_txt {o : Oper} {l : List Oper} {i : Nat} {t : List Value} {h : St} {seen : List Seen} {past : List (Nat × Option St)} {sx : SeenX} {px : PastX} {k : Cont} (hc : Cov P (Region.before ops).toList seen sx) (hp : CovP px past) (hw : wantA ops t o = some true)
    (H : stepD P C (Region.before ops).toList o.op i t h seen past k)
    (hE : ∀ v h', isEff P o.op = true → k v h' → txtX P C ops K l (i + 1) sx ((i, h) :: px) (putT t o.dst v) h')
    (hR : ∀ v, isEff P o.op = false → opV P o.op (evA P t) h = some v → k v h → txtX P C ops K l (i + 1) ((i, o, t, v) :: sx) px (putT t o.dst v) h) : txtX P C ops K (o :: l) i sx px t h := by
  unfold stepD at H
  split at H
  · rename_i x hx
    rw [evK_eq] at H
    obtain ⟨q1, q2, q3⟩ := moved_spec (P := P) hx (evA P t) h
    exact .inr (.inr ⟨hw, q2, _, q1, fun p _ _ => (moved_spec (P := P) hx (evA P t) p.2).1, hR _ q2 q1 H⟩)
  · split at H
    · rename_i he
      split at H
      · rename_i hew
        exact .inr (.inl ⟨hw, he, hp.eff hew, _, H, fun v h' hk => ⟨hc i h' hk.1, hE v h' he hk.2⟩⟩)
      · exact H.elim
    · rename_i he
      split at H
      · cases hv : opV P o.op (evA P t) h with
        | none => rw [hv] at H; exact H.elim
        | some v =>
          rw [hv] at H
          exact .inr (.inr ⟨hw, he, v, hv, hp.past H.1, hR v he hv H.2⟩)
      · rename_i hrd
        cases hv : opV P o.op (evA P t) h with
        | none => rw [hv] at H; exact H.elim
        | some v =>
          rw [hv] at H
          exact .inr (.inr ⟨hw, he, v, hv, fun p _ _ => by rw [opV_still he hrd (evA P t) p.2 h]; exact hv, hR v he hv H⟩)

/-! ### groups -/
def runSeen (P : Program) (xs : List Value) : List Oper → Nat → Nat → List Value → List Seen → List Seen
  | [], _, _, _, seen => seen
  | o :: l, i, k, t, seen => runSeen P xs l (i + 1) (k + 1) (putT t o.dst (getT xs k)) (addSeen P none o.op i t (getT xs k) seen)
theorem seenIn_mono {g : Value × Bool} {xs : List Value} {bef : List Nat} {j : Nat} {h' : St} : ∀ (l : List Oper) (i k : Nat) (t : List Value) (seen : List Seen), seenOk P bef j h' (seenIn P g xs l i k t seen) → seenOk P bef j h' seen
  | [], _, _, _, _, H => H
  | o :: l, i, k, t, seen, H => by
    have := seenIn_mono l (i + 1) (k + 1) _ _ H
    unfold addSeen at this
    split at this
    · exact this.2
    · exact this
theorem seenIn_run {g : Value} {want : Bool} (hg : g = .bool want) {xs : List Value} {bef : List Nat} {j : Nat} {h' : St} : ∀ (l : List Oper) (i k : Nat) (t : List Value) (seen seen' : List Seen), (seenOk P bef j h' seen → seenOk P bef j h' seen') →
    seenOk P bef j h' (seenIn P (g, want) xs l i k t seen) → seenOk P bef j h' (runSeen P xs l i k t seen')
  | [], _, _, _, _, _, hs, H => hs H
  | o :: l, i, k, t, seen, seen', hs, H => by
    refine seenIn_run hg l (i + 1) (k + 1) _ _ _ ?_ H
    intro q
    unfold addSeen at q ⊢
    split
    · rename_i hr
      rw [hr] at q
      refine ⟨?_, hs q.2⟩
      have := q.1
      simp only at this ⊢
      cases hw : waits bef i j with
      | true => trivial
      | false =>
        rw [hw] at this
        subst hg
        cases want <;> exact this
    · rename_i hr
      rw [hr] at q
      exact hs q
theorem doneIn_mono : ∀ (h : Option St) (l : List Oper) (i : Nat) (past : List (Nat × Option St)), ∀ p ∈ past, p ∈ doneIn P h l i past
  | _, [], _, _, p, hp => hp
  | h, o :: l, i, past, p, hp => by
    refine doneIn_mono _ l (i + 1) _ p ?_
    unfold addPast
    split
    · exact List.mem_cons_of_mem _ hp
    · exact hp
theorem wantA_group {o : Oper} {j d : Nat} {want : Bool} (hg : o.guard = some (j, want)) (hd : (ops[j]?).bind (·.dst) = some d) {t : List Value} {b : Bool} (hb : getT t d = .bool b) : wantA ops t o = some (b == want) := by
  unfold wantA; simp only [hg, hd, hb]
theorem wantA_group0 {o : Oper} {j d : Nat} {want : Bool} (hg : o.guard = some (j, want)) (hd : (ops[j]?).bind (·.dst) = some d) {t : List Value} {vs : Array Value} (hb : getT t d = .tuple vs) (hz : vs.toList = []) : wantA ops t o = some false := by
  have hz' : vs.size = 0 := by rw [← Array.length_toList, hz]; rfl
  unfold wantA; simp only [hg, hd, hb, hz', if_true]
theorem getT_free {o : Oper} {l : List Oper} {d : Nat} (hf : free d (o :: l) = true) (t : List Value) (v : Value) : getT (putT t o.dst v) d = getT t d ∧ free d l = true := by
  simp only [free, Bool.and_eq_true] at hf
  refine ⟨?_, hf.2⟩
  cases ho : o.dst with
  | none => rfl
  | some e =>
    rw [ho] at hf
    refine getT_setT t e d v ?_
    intro he; subst he
    have h1 := hf.1
    simp only [Bool.not_eq_true'] at h1
    rw [Nat.beq_refl] at h1; cases h1

/-- The heap ahead of a group's later operations, where it is known. -/
def Known (oh : Option St) (h : St) : Prop := oh = none ∨ oh = some h
theorem CovP.add {px : PastX} {past : List (Nat × Option St)} (c : CovP px past) {o : Op} {i : Nat} {h : St} {oh : Option St} (hk : Known oh h) (he : isEff P o = true) : CovP ((i, h) :: px) (addPast P o i oh past) := by
  intro p hp
  unfold addPast
  rw [he]
  cases hp with
  | head =>
    rcases hk with rfl | rfl
    · exact .inr (List.mem_cons_self ..)
    · exact .inl (List.mem_cons_self ..)
  | tail _ hp => exact (c p hp).imp (List.mem_cons_of_mem _) (List.mem_cons_of_mem _)
theorem addPast_none {o : Op} {i : Nat} {oh : Option St} {past : List (Nat × Option St)} (he : isEff P o = false) : addPast P o i oh past = past := by unfold addPast; rw [he]

theorem runD_txt {j d : Nat} {want : Bool} (hd : (ops[j]?).bind (·.dst) = some d) {rest : List Oper} {J : List Value → St → Prop} :
    ∀ (l : List Oper) (i : Nat) (t : List Value) (h : St) (oh : Option St) (acc : List Value) (seen : List Seen) (past past' : List (Nat × Option St)) (sx : SeenX) (px : PastX), GuardOk j want l → free d l = true → getT t d = .bool want → Cov P (Region.before ops).toList seen sx → CovP px past → CovP px past' → Known oh h →
      runD P C (Region.before ops).toList l i t h seen past acc J →
      (∀ vs h' sx' px', J (acc ++ vs) h' → Cov P (Region.before ops).toList (runSeen P (acc ++ vs) l i acc.length t seen) sx' → CovP px' (doneIn P oh l i past') → txtX P C ops K rest (i + l.length) sx' px' (putsT (acc ++ vs) l acc.length t) h') →
      txtX P C ops K (l ++ rest) i sx px t h
  | [], i, t, h, oh, acc, seen, past, past', sx, px, _, _, _, hc, hp, hp', _, hk, hn => hn [] h sx px (by simpa [runD] using hk) hc hp'
  | o :: l, i, t, h, oh, acc, seen, past, past', sx, px, hg, hf, hb, hc, hp, hp', hoh, hk, hn => by
    have hgo := hg o (List.mem_cons_self ..)
    have hgl : GuardOk j want l := fun x hx => hg x (List.mem_cons_of_mem _ hx)
    have hw : wantA ops t o = some true := by rw [wantA_group hgo hd hb]; simp
    have next : ∀ v h' sx' px', runD P C (Region.before ops).toList l (i + 1) (putT t o.dst v) h' (addSeen P none o.op i t v seen) (addPast P o.op i (some h) past) (acc ++ [v]) J →
        Cov P (Region.before ops).toList (addSeen P none o.op i t v seen) sx' → CovP px' (addPast P o.op i (some h) past) → CovP px' (addPast P o.op i oh past') → Known (restH P o.op oh) h' → txtX P C ops K (l ++ rest) (i + 1) sx' px' (putT t o.dst v) h' := by
      intro v h' sx' px' hk' hc' hp1 hp2 hoh'
      obtain ⟨e1, e2⟩ := getT_free hf t v
      refine runD_txt hd l (i + 1) _ h' (restH P o.op oh) (acc ++ [v]) _ _ (addPast P o.op i oh past') sx' px' hgl e2 (by rw [e1]; exact hb) hc' hp1 hp2 hoh' hk' ?_
      intro vs h2 sx2 px2 hJ hc2 hp2
      have q := hn (v :: vs) h2 sx2 px2 (by simpa using hJ) (by simpa [runSeen, getT_append] using hc2) hp2
      have e : i + (o :: l).length = i + 1 + l.length := by simp; omega
      rw [e] at q
      simpa [putsT, getT_append] using q
    refine stepD_txt hc hp hw hk ?_ ?_
    · intro v h' he hk'
      exact next v h' sx _ hk' hc.eff (hp.add (.inr rfl) he) (hp'.add hoh he) (.inl (by unfold restH; rw [he]))
    · intro v he hv hk'
      refine next v h _ px hk' (hc.add he hv) (by rw [addPast_none he]; exact hp) (by rw [addPast_none he]; exact hp') ?_
      unfold restH; rw [he]; exact hoh
theorem skipD_txt {j : Nat} {want : Bool} {d : Nat} (hd : (ops[j]?).bind (·.dst) = some d) {rest : List Oper} {h : St} {sx : SeenX} {px : PastX} :
    ∀ (l : List Oper) (i : Nat) (t : List Value), GuardOk j want l → free d l = true → (∀ o ∈ l, ∀ t', getT t' d = getT t d → wantA ops t' o = some false) →
      txtX P C ops K rest (i + l.length) sx px (l.foldl (fun t o => putT t o.dst undef) t) h → txtX P C ops K (l ++ rest) i sx px t h
  | [], _, _, _, _, _, H => H
  | o :: l, i, t, hg, hf, hw, H => by
    obtain ⟨e1, e2⟩ := getT_free hf t undef
    refine .inl ⟨hw o (List.mem_cons_self ..) t rfl, ?_⟩
    refine skipD_txt hd l (i + 1) _ (fun x hx => hg x (List.mem_cons_of_mem _ hx)) e2 (fun o ho t' ht' => hw o (List.mem_cons_of_mem _ ho) t' (by rw [ht', e1])) ?_
    have e : i + (o :: l).length = i + 1 + l.length := by simp; omega
    rw [e] at H
    exact H
theorem guardK_abs {v : Value} {want : Bool} {yes no : Prop} (H : guardK v want yes no) : (yes ∧ v = .bool want) ∨ (no ∧ ((∃ b, v = .bool b ∧ (b == want) = false) ∨ ∃ vs : Array Value, v = .tuple vs ∧ vs.toList = [])) := by
  unfold guardK at H
  split at H
  · rename_i b
    cases b <;> cases want <;> first
      | exact .inl ⟨H, rfl⟩
      | exact .inr ⟨H, .inl ⟨_, rfl, rfl⟩⟩
  · rename_i vs
    split at H
    · rename_i hz; exact .inr ⟨H, .inr ⟨vs, rfl, hz⟩⟩
    · exact H.elim
  · exact H.elim

theorem regD_txt : ∀ (gs : List Group) (i : Nat) (t : List Value) (h : St) (seen : List Seen) (past : List (Nat × Option St)) (sx : SeenX) (px : PastX), GroupsOk gs → Cov P (Region.before ops).toList seen sx → CovP px past →
    regD P C idG ops (Region.before ops).toList gs i t h seen past K → txtX P C ops K (flatG gs) i sx px t h
  | [], _, _, _, _, _, _, _, _, _, _, H => H
  | .one o :: r, i, t, h, seen, past, sx, px, hg, hc, hp, H => by
    have hw : wantA ops t o = some true := by unfold wantA; simp only [hg.1]
    refine stepD_txt (l := flatG r) hc hp hw H ?_ ?_
    · intro v h' he hk
      exact regD_txt r (i + 1) _ h' _ _ sx _ hg.2 hc.eff (hp.add (.inr rfl) he) hk
    · intro v he hv hk
      refine regD_txt r (i + 1) _ h _ _ _ px hg.2 (hc.add he hv) ?_ hk
      rw [addPast_none he]
      exact hp
  | .many j want l :: r, i, t, h, seen, past, sx, px, hg, hc, hp, H => by
    simp only [regD] at H
    split at H
    · rename_i d hs
      obtain ⟨hd, hf⟩ := guardSlot_spec hs
      rcases guardK_abs H with ⟨H, hb⟩ | ⟨H, hb⟩
      · refine runD_txt hd l i t h (some h) [] seen past past sx px hg.1 hf hb hc hp hp (.inr rfl) H ?_
        intro vs h' sx' px' hJ hc' hp'
        simp only [idG, forceT_eq, List.nil_append, List.length_nil] at hJ hc' ⊢
        exact regD_txt r _ _ h' _ _ sx' px' hg.2 (fun j h2 q => hc' j h2 (seenIn_run hb l i 0 t seen seen id q)) hp' hJ
      · simp only [idG, forceT_eq] at H
        refine skipD_txt hd l i t hg.1 hf ?_ ?_
        · intro o ho t' ht'
          rcases hb with ⟨b, hb, hne⟩ | ⟨vs, hb, hz⟩
          · rw [wantA_group (hg.1 o ho) hd (ht'.trans hb), hne]
          · exact wantA_group0 (hg.1 o ho) hd (ht'.trans hb) hz
        · have := putsT_undefs l [] t 0 rfl
          rw [List.nil_append] at this
          rw [this] at H
          exact regD_txt r _ _ h _ _ sx px hg.2 (fun j h2 q => hc j h2 (seenIn_mono l i 0 t seen q)) (hp.mono (doneIn_mono _ l i past)) H
    · exact H.elim
/-! ### things done in an order that Go leaves open -/
/-- The orders that a statement may be done in. -/
def Lin (ops : Array Oper) : Nat → Array Bool → List Nat → Prop
  | 0, _, lin => lin = []
  | n + 1, listed, lin => (lin = [] ∧ Region.ready .any ops listed = []) ∨ ∃ i rest, lin = i :: rest ∧ i ∈ Region.ready .any ops listed ∧ Lin ops n (listed.setIfInBounds i true) rest
theorem wpAny_lin {Q : Exit → Act → World → Prop} : ∀ (n : Nat) (listed : Array Bool) (lin : List Nat) (a : Act) (w : World), wpAny P .any ops Q n listed a w → Lin ops n listed lin → wpOps P ops Q lin a w
  | 0, _, _, a, w, h, hl => by
    cases (show _ = [] from hl)
    simpa [wpOps] using h.2
  | n + 1, listed, lin, a, w, h, hl => by
    rcases hl with ⟨rfl, h0⟩ | ⟨i, rest, rfl, hi, hl⟩
    · simpa [wpOps] using h.1 h0
    · rw [wpOps_cons]
      exact wpOp_mono (fun a w hh => wpAny_lin n _ rest a w hh hl) (h.2 i hi)
theorem lin_of_go : ∀ (fuel t : Nat) (listed : Array Bool), Lin ops fuel listed (Region.linearise.go .any ops fuel t listed []) := by
  intro fuel
  induction fuel with
  | zero => intro t listed; simp [Region.linearise.go, Lin]
  | succ fuel ih =>
    intro t listed
    simp only [Region.linearise.go]
    change Lin ops (fuel + 1) listed (match (Region.ready .any ops listed)[t % (Region.ready .any ops listed).length]? with
      | some i => Region.linearise.go .any ops fuel (t / (Region.ready .any ops listed).length) (listed.setIfInBounds i true) [i]
      | none => [].reverse)
    cases hi : (Region.ready .any ops listed)[t % (Region.ready .any ops listed).length]? with
    | none =>
      refine .inl ⟨rfl, ?_⟩
      cases hr : Region.ready .any ops listed with
      | nil => rfl
      | cons x xs =>
        rw [hr] at hi
        have hlt : t % (x :: xs).length < (x :: xs).length := Nat.mod_lt _ (by simp)
        simp at hi
        simp at hlt
        omega
    | some i =>
      refine .inr ⟨i, _, ?_, List.mem_of_getElem? hi, ih (t / (Region.ready .any ops listed).length) _⟩
      simp only []
      rw [linearise_go_acc, List.reverse_singleton, List.singleton_append]
theorem wp_region_each (hm : P.follows .mixedOrders = true) {id : Nat} {Q : Exit → Act → World → Prop} {a : Act} {w : World} (H : ∀ lin, Lin ops ops.size (Array.replicate ops.size false) lin → wpOps P ops Q lin a { w with drawn := w.drawn + 1 }) : (Code.region id ops true).wp P Q a w :=
  wp_region_draw fun t => by
    simp only [Region.schedule, hm, Bool.true_or, if_true]
    exact H _ (lin_of_go ops.size t _)
theorem addEdge_get (ops : Array Oper) (f e j : Nat) : (addEdge ops f e)[j]? = (ops[j]?).map fun o => if j = f then { o with after := o.after.push ⟨e, .data⟩ } else o := by
  unfold addEdge
  cases hf : ops[f]? with
  | none =>
    simp only
    cases hj : ops[j]? with
    | none => rfl
    | some o =>
      have : j ≠ f := by intro h; subst h; rw [hf] at hj; cases hj
      simp [this]
  | some o =>
    simp only
    have hlt := (Array.getElem?_eq_some_iff.1 hf).1
    rw [Array.getElem?_setIfInBounds]
    by_cases h : f = j
    · subst h; rw [hf]; simp [hlt]
    · rw [if_neg h]
      cases hj : ops[j]? with
      | none => rfl
      | some o => simp [Ne.symm h]
theorem addEdge_size (ops : Array Oper) (f e : Nat) : (addEdge ops f e).size = ops.size := by
  unfold addEdge; split <;> simp
theorem wpOp_addEdge {Q : Exit → Act → World → Prop} {f e i : Nat} {K : Act → World → Prop} {a : Act} {w : World} : wpOp P (addEdge ops f e) Q i K a w = wpOp P ops Q i K a w := by
  have hy : yielded (addEdge ops f e) a.tmps = yielded ops a.tmps := by
    funext j
    unfold yielded
    rw [addEdge_get]
    cases hj : ops[j]? with
    | none => rfl
    | some o => by_cases h : j = f <;> simp [h]
  unfold wpOp
  rw [addEdge_get, hy]
  cases hi : ops[i]? with
  | none => rfl
  | some o => by_cases h : i = f <;> simp only [Option.map_some, h, if_true, if_false] <;> rfl
theorem wpOps_addEdge {Q : Exit → Act → World → Prop} {f e : Nat} : ∀ (lin : List Nat) (a : Act) (w : World), wpOps P (addEdge ops f e) Q lin a w = wpOps P ops Q lin a w
  | [], a, w => by simp [wpOps]
  | i :: l, a, w => by
    rw [wpOps_cons, wpOps_cons, wpOp_addEdge]
    congr 1
    funext a w
    exact wpOps_addEdge l a w
theorem ready_addEdge {f e i : Nat} {listed : Array Bool} (h : i ∈ Region.ready .any ops listed) (he : i = f → listed.getD e false = true) : i ∈ Region.ready .any (addEdge ops f e) listed := by
  obtain ⟨h1, o, h2, h3⟩ := mem_ready.1 h
  refine mem_ready.2 ⟨h1, if i = f then { o with after := o.after.push ⟨e, .data⟩ } else o, by rw [addEdge_get, h2]; rfl, ?_⟩
  by_cases hf : i = f
  · rw [if_pos hf]
    intro x hx hb
    rcases Array.mem_push.1 hx with hx | rfl
    · exact h3 x hx hb
    · exact he hf
  · rw [if_neg hf]; exact h3
theorem ready_of_addEdge {f e i : Nat} {listed : Array Bool} (h : i ∈ Region.ready .any (addEdge ops f e) listed) : i ∈ Region.ready .any ops listed := by
  obtain ⟨h1, o, h2, h3⟩ := mem_ready.1 h
  rw [addEdge_get] at h2
  cases hi : ops[i]? with
  | none => rw [hi] at h2; cases h2
  | some o' =>
    rw [hi] at h2
    simp only [Option.map_some, Option.some.injEq] at h2
    refine mem_ready.2 ⟨h1, o', hi, fun x hx hb => h3 x ?_ hb⟩
    rw [← h2]
    split
    · exact Array.mem_push.2 (.inl hx)
    · exact hx
theorem lin_addEdge {f e : Nat} : ∀ (n : Nat) (listed : Array Bool) (lin : List Nat), Lin ops n listed lin → (∀ l1 l2, lin = l1 ++ f :: l2 → e ∈ l1 ∨ listed.getD e false = true) → Lin (addEdge ops f e) n listed lin
  | 0, _, _, h, _ => h
  | n + 1, listed, lin, h, hf => by
    rcases h with ⟨rfl, h0⟩ | ⟨i, rest, rfl, hi, hl⟩
    · refine .inl ⟨rfl, ?_⟩
      cases hr : Region.ready .any (addEdge ops f e) listed with
      | nil => rfl
      | cons x xs =>
        have := ready_of_addEdge (ops := ops) (f := f) (e := e) (i := x) (listed := listed) (by rw [hr]; exact List.mem_cons_self ..)
        rw [h0] at this; cases this
    · refine .inr ⟨i, rest, rfl, ready_addEdge hi fun hif => ?_, lin_addEdge n _ rest hl fun l1 l2 hr => ?_⟩
      · rcases hf [] rest (by rw [hif]; rfl) with h | h
        · cases h
        · exact h
      · rcases hf (i :: l1) l2 (by rw [hr]; rfl) with h | h
        · rcases List.mem_cons.1 h with rfl | h
          · right
            have h1 := (mem_ready.1 hi).1
            have hlt : e < listed.size := by
              rcases Nat.lt_or_ge e listed.size with h | h
              · exact h
              · simp [Array.getElem?_eq_none h] at h1
            simp [hlt]
          · exact .inl h
        · exact .inr (getD_set_true h)
theorem first_of {e f : Nat} (hne : e ≠ f) : ∀ lin : List Nat, (∀ l1 l2, lin = l1 ++ f :: l2 → e ∈ l1) ∨ (∀ l1 l2, lin = l1 ++ e :: l2 → f ∈ l1)
  | [] => .inl fun l1 l2 h => by cases l1 <;> cases h
  | x :: l => by
    by_cases hx : x = e
    · subst hx
      refine .inl fun l1 l2 h => ?_
      cases l1 with
      | nil => simp at h; exact absurd h.1 hne
      | cons y l1 => simp at h; simp [h.1]
    · by_cases hy : x = f
      · subst hy
        refine .inr fun l1 l2 h => ?_
        cases l1 with
        | nil => simp at h; exact absurd h.1 (Ne.symm hne)
        | cons y l1 => simp at h; simp [h.1]
      · rcases first_of hne l with ih | ih
        · refine .inl fun l1 l2 h => ?_
          cases l1 with
          | nil => simp at h; exact absurd h.1 hy
          | cons y l1 => simp at h; exact List.mem_cons_of_mem _ (ih l1 l2 h.2)
        · refine .inr fun l1 l2 h => ?_
          cases l1 with
          | nil => simp at h; exact absurd h.1 hx
          | cons y l1 => simp at h; exact List.mem_cons_of_mem _ (ih l1 l2 h.2)

/-- In an order that is given. -/
def txtO (P : Program) (C : Oracle) (ops : Array Oper) (K : List Value → St → Prop) : List Nat → SeenX → PastX → List Value → St → Prop
  | [], _, _, t, h => K t h
  | i :: l, seen, past, t, h => ∃ o, ops[i]? = some o ∧ wantA ops t o = some true ∧
    ((isEff P o.op = true ∧ (∀ p ∈ past, waits (Region.before ops).toList p.1 i = true) ∧
      ∃ k, opE P C o.op (evA P t) h k ∧ ∀ v h', k v h' → (∀ r ∈ seen, waits (Region.before ops).toList r.1 i = false → opV P r.2.1.op (evA P r.2.2.1) h' = some r.2.2.2) ∧ txtO P C ops K l seen ((i, h) :: past) (putT t o.dst v) h') ∨
    (isEff P o.op = false ∧
      ∃ v, opV P o.op (evA P t) h = some v ∧ (∀ p ∈ past, waits (Region.before ops).toList p.1 i = false → opV P o.op (evA P t) p.2 = some v) ∧ txtO P C ops K l ((i, o, t, v) :: seen) past (putT t o.dst v) h))
theorem anyX_txtO (HL : OracleLive C) : ∀ (l : List Nat) (seen : SeenX) (past : PastX) (listed : Array Bool) (t : List Value) (h : St), Closed ops listed →
    ordOk ops l listed = true → txtO P C ops K l seen past t h → anyX P C ops K seen past l.length listed t h
  | [], _, _, _, _, _, _, hB, H => ⟨by simpa [ordOk] using hB, H⟩
  | i :: l, seen, past, listed, t, h, hcl, hB, H => by
    simp only [ordOk, Bool.and_eq_true] at hB
    obtain ⟨⟨hr, hf⟩, hB'⟩ := hB
    have hr : i ∈ Region.ready .any ops listed := by simpa using hr
    obtain ⟨o, h0, q1, H⟩ := H
    have hfs := Region.free_spec h0 hf
    rcases H with ⟨q2, q3, kk, q4, q5⟩ | ⟨q2, v, q3, q4, q5⟩
    · exact firstE HL h0 q2 q3 l.length listed t hcl hfs hr q1 q4 fun v h' hk => ⟨(q5 v h' hk).1, anyX_txtO HL l seen _ _ _ h' (hcl.set hr) hB' (q5 v h' hk).2⟩
    · exact firstY (seen' := (i, o, t, v) :: seen) (fun r hr => List.mem_cons_of_mem _ hr) h0 (b := true) (v := v) (t0 := t) (fun _ j h' hw hh => hh (i, o, t, v) (List.mem_cons_self ..) hw) l.length listed t h hcl hfs hr (fun _ _ => rfl)
        ⟨q1, fun h => (by cases h), fun _ => ⟨q2, q3, q4⟩⟩ (anyX_txtO HL l _ past _ _ h (hcl.set hr) hB' q5)
theorem runO_txt : ∀ (l : List Nat) (t : List Value) (h : St) (seen : List Seen) (past : List (Nat × Option St)) (sx : SeenX) (px : PastX), Cov P (Region.before ops).toList seen sx → CovP px past →
    runO P C ops (Region.before ops).toList l t h seen past K → txtO P C ops K l sx px t h
  | [], _, _, _, _, _, _, _, _, H => H
  | i :: l, t, h, seen, past, sx, px, hc, hp, H => by
    simp only [runO] at H
    split at H
    · rename_i o ho
      split at H
      · rename_i hg
        have hw : wantA ops t o = some true := by unfold wantA; simp only [hg]
        refine ⟨o, ho, hw, ?_⟩
        unfold stepD at H
        split at H
        · rename_i x hx
          rw [evK_eq] at H
          obtain ⟨q1, q2, q3⟩ := moved_spec (P := P) hx (evA P t) h
          refine .inr ⟨q2, _, q1, fun p _ _ => (moved_spec (P := P) hx (evA P t) p.2).1, ?_⟩
          refine runO_txt l _ h _ _ _ px (hc.add q2 q1) ?_ H
          rw [addPast_none q2]; exact hp
        · split at H
          · rename_i he
            split at H
            · rename_i hew
              refine .inl ⟨he, hp.eff hew, _, H, fun v h' hk => ⟨hc i h' hk.1, ?_⟩⟩
              exact runO_txt l _ h' _ _ sx _ hc.eff (hp.add (.inr rfl) he) hk.2
            · exact H.elim
          · rename_i he
            have next : ∀ v, opV P o.op (evA P t) h = some v → runO P C ops (Region.before ops).toList l (putT t o.dst v) h (addSeen P none o.op i t v seen) (addPast P o.op i (some h) past) K → txtO P C ops K l ((i, o, t, v) :: sx) px (putT t o.dst v) h := by
              intro v hv hk
              refine runO_txt l _ h _ _ _ px (hc.add he hv) ?_ hk
              rw [addPast_none he]; exact hp
            split at H
            · cases hv : opV P o.op (evA P t) h with
              | none => rw [hv] at H; exact H.elim
              | some v =>
                rw [hv] at H
                exact .inr ⟨he, v, rfl, hp.past H.1, next v hv H.2⟩
            · rename_i hrd
              cases hv : opV P o.op (evA P t) h with
              | none => rw [hv] at H; exact H.elim
              | some v =>
                rw [hv] at H
                exact .inr ⟨he, v, rfl, fun p _ _ => by rw [opV_still he hrd (evA P t) p.2 h]; exact hv, next v hv H⟩
      · exact H.elim
    · exact H.elim
theorem regS_lin (HC : OracleOk P B w0 C) (HL : OracleLive C) {Q : Exit → Act → World → Prop} (hQ : ∀ t h a w, K t h → SRel P B w0 ρ0 t h a w → Q .normal a w) :
    ∀ (n : Nat) (ops : Array Oper) (order : List Nat) (t : List Value) (h : St) (a : Act) (w : World), SRel P B w0 ρ0 t h a w → regS P C n ops order t h K →
      ∀ lin, Lin ops ops.size (Array.replicate ops.size false) lin → wpOps P ops Q lin a w
  | 0, _, _, _, _, _, _, _, H, _, _ => H.elim
  | n + 1, ops, order, t, h, a, w, S, H, lin, hl => by
    simp only [regS] at H
    split at H
    · split at H
      · rename_i hB
        simp only [Bool.and_eq_true] at hB
        have hlen : order.length = ops.size := Nat.eq_of_beq_eq_true hB.2
        have := anyX_txtO (K := K) HL order [] [] _ t h closed_none hB.1 (runO_txt order t h [] [] [] [] (fun _ _ _ r hr => by cases hr) (fun p hp => by cases hp) H)
        rw [hlen] at this
        exact wpAny_lin ops.size _ lin a w (anyX_sound HC hQ ops.size _ t h a w S this) hl
      · exact H.elim
    · rename_i e f ho
      split at H
      · exact H.elim
      · rename_i hne
        have hne : e ≠ f := by intro h; subst h; simp at hne
        rcases first_of hne lin with hf | hf
        · have l1 := lin_addEdge (f := f) (e := e) _ _ _ hl fun a b hab => .inl (hf a b hab)
          have := regS_lin HC HL hQ n (addEdge ops f e) order t h a w S H.1 lin (by rw [addEdge_size]; exact l1)
          rwa [wpOps_addEdge] at this
        · have l1 := lin_addEdge (f := e) (e := f) _ _ _ hl fun a b hab => .inl (hf a b hab)
          have := regS_lin HC HL hQ n (addEdge ops e f) _ t h a w S H.2 lin (by rw [addEdge_size]; exact l1)
          rwa [wpOps_addEdge] at this
theorem drawOk (hm : P.follows .mixedOrders = true) (HC : OracleOk P B w0 C) (HL : OracleLive C) : DrawOk P B w0 ρ0 C := by
  intro id ops t h a w K Q hq S hB H
  unfold drawK at H
  split at H
  · obtain ⟨ρ, s1, s2, s3, s4⟩ := S
    exact wp_region_each hm fun lin hl => regS_lin (K := K .normal) HC HL (fun t h a w hk S => hq _ _ _ _ _ hk S) 8 ops _ t h a _ ⟨ρ, s1, s2, s3.draw _, s4⟩ H lin hl
  · obtain ⟨h1, h2⟩ := groupsOf_flat ops.toList
    refine wp_region_txt (K := K .normal) hm HC HL (fun t h a w hk S => hq _ _ _ _ _ hk S) hB S ?_
    have := regD_txt (K := K .normal) (groupsOf ops.toList) 0 t h [] [] [] [] h2 (fun _ _ _ r hr => by cases hr) (fun p hp => by cases hp) H
    rwa [h1] at this
end
end Go.Abs
