/- Statements whose order Go leaves open: what the evaluator asks is enough. -/
import Derived.Test.YtomjbkembmimbaaAbsU
set_option linter.unusedSimpArgs false
set_option linter.unusedVariables false
namespace Go.Abs
open Go.RowKit (Below)

section
variable {P : Program} {B : Nat} {w0 : World} {ρ0 : Rho} {C : Oracle} {ops : Array Oper} {K : List Value → St → Prop}

theorem effWaits_spec {bef : List Nat} {i : Nat} : ∀ {past : List (Nat × Option St)}, effWaits bef i past = true → ∀ p ∈ past, waits bef p.1 i = true
  | [], _, p, hp => by cases hp
  | (e, h) :: rs, H, p, hp => by
    simp only [effWaits, Bool.and_eq_true] at H
    cases hp with
    | head => exact H.1
    | tail _ hp => exact effWaits_spec H.2 p hp
theorem pastOk_spec {bef : List Nat} {i : Nat} {op : Op} {ev : Operand → Value} {v : Value} : ∀ {past : List (Nat × Option St)}, pastOk P bef i op ev v past → ∀ p ∈ past, waits bef p.1 i = false → ∃ h, p.2 = some h ∧ opV P op ev h = some v
  | [], _, p, hp, _ => by cases hp
  | (e, h) :: rs, H, p, hp, hw => by
    obtain ⟨h1, h2⟩ := H
    cases hp with
    | head =>
      simp only at hw
      rw [hw] at h1
      cases h with
      | none => exact h1.elim
      | some h => exact ⟨h, rfl, h1⟩
    | tail _ hp => exact pastOk_spec h2 p hp hw
/-- What was done, as far as it is known. -/
def CovP (px : PastX) (past : List (Nat × Option St)) : Prop := ∀ p ∈ px, (p.1, some p.2) ∈ past ∨ (p.1, none) ∈ past
theorem CovP.eff {px : PastX} {past : List (Nat × Option St)} (c : CovP px past) {bef : List Nat} {i : Nat} (h : effWaits bef i past = true) : ∀ p ∈ px, waits bef p.1 i = true := by
  intro p hp
  rcases c p hp with q | q
  · exact effWaits_spec h _ q
  · exact effWaits_spec h _ q
theorem CovP.past {px : PastX} {past : List (Nat × Option St)} (c : CovP px past) {bef : List Nat} {i : Nat} {op : Op} {ev : Operand → Value} {v : Value} (h : pastOk P bef i op ev v past) : ∀ p ∈ px, waits bef p.1 i = false → opV P op ev p.2 = some v := by
  intro p hp hw
  rcases c p hp with q | q
  · obtain ⟨h', e, q⟩ := pastOk_spec h _ q hw
    cases e
    exact q
  · obtain ⟨h', e, q⟩ := pastOk_spec h _ q hw
    cases e
theorem CovP.mono {px : PastX} {past past' : List (Nat × Option St)} (c : CovP px past) (h : ∀ p ∈ past, p ∈ past') : CovP px past' := fun p hp => (c p hp).imp (h _) (h _)
/-- The evaluator's list says no less. -/
def Cov (P : Program) (bef : List Nat) (seen : List Seen) (sx : SeenX) : Prop := ∀ j h', seenOk P bef j h' seen → ∀ r ∈ sx, waits bef r.1 j = false → opV P r.2.1.op (evA P r.2.2.1) h' = some r.2.2.2
theorem Cov.add {bef : List Nat} {seen : List Seen} {sx : SeenX} (hc : Cov P bef seen sx) {o : Oper} {i : Nat} {t : List Value} {v : Value} {h : St} (he : isEff P o.op = false) (hv : opV P o.op (evA P t) h = some v) : Cov P bef (addSeen P none o.op i t v seen) ((i, o, t, v) :: sx) := by
  intro j h' hs r hr hw
  unfold addSeen at hs
  cases hrd : isRead P o.op with
  | true =>
    rw [hrd] at hs
    cases hr with
    | head =>
      have := hs.1
      simp only at hw this
      rw [hw] at this
      exact this
    | tail _ hr => exact hc j h' hs.2 r hr hw
  | false =>
    rw [hrd] at hs
    cases hr with
    | head => rw [opV_still he hrd (evA P t) h' h]; exact hv
    | tail _ hr => exact hc j h' hs r hr hw
theorem Cov.eff {bef : List Nat} {seen : List Seen} {sx : SeenX} (hc : Cov P bef seen sx) {o : Oper} {i : Nat} {t : List Value} {v : Value} : Cov P bef (addSeen P none o.op i t v seen) sx := by
  intro j h' hs
  unfold addSeen at hs
  split at hs
  · exact hc j h' hs.2
  · exact hc j h' hs
theorem moved_spec {op : Op} {x : Operand} (h : moved op = some x) (ev : Operand → Value) (s : St) : opV P op ev s = some (ev x) ∧ isEff P op = false ∧ isRead P op = false := by
  unfold moved at h
  split at h
  · cases h; exact ⟨rfl, rfl, rfl⟩
  · cases h; exact ⟨rfl, rfl, rfl⟩
  · cases h

theorem stepD_txt {o : Oper} {l : List Oper} {i : Nat} {t : List Value} {h : St} {seen : List Seen} {past : List (Nat × Option St)} {sx : SeenX} {px : PastX} {k : Cont} (hc : Cov P (Region.before ops).toList seen sx) (hp : CovP px past) (hw : wantA ops t o = some true)
    (H : stepD P C (Region.before ops).toList o.op i t h seen past k)
    (hE : ∀ v h', isEff P o.op = true → k v h' → txtX P C ops K l (i + 1) sx ((i, h) :: px) (putT t o.dst v) h')
    (hR : ∀ v, isEff P o.op = false → opV P o.op (evA P t) h = some v → k v h → txtX P C ops K l (i + 1) ((i, o, t, v) :: sx) px (putT t o.dst v) h) : txtX P C ops K (o :: l) i sx px t h := by
  unfold stepD at H
  split at H
  · rename_i x hx
    rw [evK_eq] at H
    obtain ⟨q1, q2, q3⟩ := moved_spec (P := P) hx (evA P t) h
    exact .inr (.inr ⟨hw, q2, _, q1, fun p _ _ => (moved_spec (P := P) hx (evA P t) p.2).1, hR _ q2 q1 H⟩)
  · split at H
    · rename_i he
      split at H
      · rename_i hew
        exact .inr (.inl ⟨hw, he, hp.eff hew, _, H, fun v h' hk => ⟨hc i h' hk.1, hE v h' he hk.2⟩⟩)
      · exact H.elim
    · rename_i he
      split at H
      · cases hv : opV P o.op (evA P t) h with
        | none => rw [hv] at H; exact H.elim
        | some v =>
          rw [hv] at H
          exact .inr (.inr ⟨hw, he, v, hv, hp.past H.1, hR v he hv H.2⟩)
      · rename_i hrd
        cases hv : opV P o.op (evA P t) h with
        | none => rw [hv] at H; exact H.elim
        | some v =>
          rw [hv] at H
          exact .inr (.inr ⟨hw, he, v, hv, fun p _ _ => by rw [opV_still he hrd (evA P t) p.2 h]; exact hv, hR v he hv H⟩)

/-! ### groups -/
def runSeen (P : Program) (xs : List Value) : List Oper → Nat → Nat → List Value → List Seen → List Seen
  | [], _, _, _, seen => seen
  | o :: l, i, k, t, seen => runSeen P xs l (i + 1) (k + 1) (putT t o.dst (getT xs k)) (addSeen P none o.op i t (getT xs k) seen)
theorem seenIn_mono {g : Value × Bool} {xs : List Value} {bef : List Nat} {j : Nat} {h' : St} : ∀ (l : List Oper) (i k : Nat) (t : List Value) (seen : List Seen), seenOk P bef j h' (seenIn P g xs l i k t seen) → seenOk P bef j h' seen
  | [], _, _, _, _, H => H
  | o :: l, i, k, t, seen, H => by
    have := seenIn_mono l (i + 1) (k + 1) _ _ H
    unfold addSeen at this
    split at this
    · exact this.2
    · exact this
theorem seenIn_run {g : Value} {want : Bool} (hg : g = .bool want) {xs : List Value} {bef : List Nat} {j : Nat} {h' : St} : ∀ (l : List Oper) (i k : Nat) (t : List Value) (seen seen' : List Seen), (seenOk P bef j h' seen → seenOk P bef j h' seen') →
    seenOk P bef j h' (seenIn P (g, want) xs l i k t seen) → seenOk P bef j h' (runSeen P xs l i k t seen')
  | [], _, _, _, _, _, hs, H => hs H
  | o :: l, i, k, t, seen, seen', hs, H => by
    refine seenIn_run hg l (i + 1) (k + 1) _ _ _ ?_ H
    intro q
    unfold addSeen at q ⊢
    split
    · rename_i hr
      rw [hr] at q
      refine ⟨?_, hs q.2⟩
      have := q.1
      simp only at this ⊢
      cases hw : waits bef i j with
      | true => trivial
      | false =>
        rw [hw] at this
        subst hg
        cases want <;> exact this
    · rename_i hr
      rw [hr] at q
      exact hs q
theorem doneIn_mono : ∀ (h : Option St) (l : List Oper) (i : Nat) (past : List (Nat × Option St)), ∀ p ∈ past, p ∈ doneIn P h l i past
  | _, [], _, _, p, hp => hp
  | h, o :: l, i, past, p, hp => by
    refine doneIn_mono _ l (i + 1) _ p ?_
    unfold addPast
    split
    · exact List.mem_cons_of_mem _ hp
    · exact hp
theorem wantA_group {o : Oper} {j d : Nat} {want : Bool} (hg : o.guard = some (j, want)) (hd : (ops[j]?).bind (·.dst) = some d) {t : List Value} {b : Bool} (hb : getT t d = .bool b) : wantA ops t o = some (b == want) := by
  unfold wantA; simp only [hg, hd, hb]
theorem wantA_group0 {o : Oper} {j d : Nat} {want : Bool} (hg : o.guard = some (j, want)) (hd : (ops[j]?).bind (·.dst) = some d) {t : List Value} {vs : Array Value} (hb : getT t d = .tuple vs) (hz : vs.toList = []) : wantA ops t o = some false := by
  have hz' : vs.size = 0 := by rw [← Array.length_toList, hz]; rfl
  unfold wantA; simp only [hg, hd, hb, hz', if_true]
theorem getT_free {o : Oper} {l : List Oper} {d : Nat} (hf : free d (o :: l) = true) (t : List Value) (v : Value) : getT (putT t o.dst v) d = getT t d ∧ free d l = true := by
  simp only [free, Bool.and_eq_true] at hf
  refine ⟨?_, hf.2⟩
  cases ho : o.dst with
  | none => rfl
  | some e =>
    rw [ho] at hf
    refine getT_setT t e d v ?_
    intro he; subst he
    have h1 := hf.1
    simp only [Bool.not_eq_true'] at h1
    rw [Nat.beq_refl] at h1; cases h1

/-- The heap ahead of a group's later operations, where it is known. -/
def Known (oh : Option St) (h : St) : Prop := oh = none ∨ oh = some h
theorem CovP.add {px : PastX} {past : List (Nat × Option St)} (c : CovP px past) {o : Op} {i : Nat} {h : St} {oh : Option St} (hk : Known oh h) (he : isEff P o = true) : CovP ((i, h) :: px) (addPast P o i oh past) := by
  intro p hp
  unfold addPast
  rw [he]
  cases hp with
  | head =>
    rcases hk with rfl | rfl
    · exact .inr (List.mem_cons_self ..)
    · exact .inl (List.mem_cons_self ..)
  | tail _ hp => exact (c p hp).imp (List.mem_cons_of_mem _) (List.mem_cons_of_mem _)
theorem addPast_none {o : Op} {i : Nat} {oh : Option St} {past : List (Nat × Option St)} (he : isEff P o = false) : addPast P o i oh past = past := by unfold addPast; rw [he]

theorem runD_txt {j d : Nat} {want : Bool} (hd : (ops[j]?).bind (·.dst) = some d) {rest : List Oper} {J : List Value → St → Prop} :
    ∀ (l : List Oper) (i : Nat) (t : List Value) (h : St) (oh : Option St) (acc : List Value) (seen : List Seen) (past past' : List (Nat × Option St)) (sx : SeenX) (px : PastX), GuardOk j want l → free d l = true → getT t d = .bool want → Cov P (Region.before ops).toList seen sx → CovP px past → CovP px past' → Known oh h →
      runD P C (Region.before ops).toList l i t h seen past acc J →
      (∀ vs h' sx' px', J (acc ++ vs) h' → Cov P (Region.before ops).toList (runSeen P (acc ++ vs) l i acc.length t seen) sx' → CovP px' (doneIn P oh l i past') → txtX P C ops K rest (i + l.length) sx' px' (putsT (acc ++ vs) l acc.length t) h') →
      txtX P C ops K (l ++ rest) i sx px t h
  | [], i, t, h, oh, acc, seen, past, past', sx, px, _, _, _, hc, hp, hp', _, hk, hn => hn [] h sx px (by simpa [runD] using hk) hc hp'
  | o :: l, i, t, h, oh, acc, seen, past, past', sx, px, hg, hf, hb, hc, hp, hp', hoh, hk, hn => by
    have hgo := hg o (List.mem_cons_self ..)
    have hgl : GuardOk j want l := fun x hx => hg x (List.mem_cons_of_mem _ hx)
    have hw : wantA ops t o = some true := by rw [wantA_group hgo hd hb]; simp
    have next : ∀ v h' sx' px', runD P C (Region.before ops).toList l (i + 1) (putT t o.dst v) h' (addSeen P none o.op i t v seen) (addPast P o.op i (some h) past) (acc ++ [v]) J →
        Cov P (Region.before ops).toList (addSeen P none o.op i t v seen) sx' → CovP px' (addPast P o.op i (some h) past) → CovP px' (addPast P o.op i oh past') → Known (restH P o.op oh) h' → txtX P C ops K (l ++ rest) (i + 1) sx' px' (putT t o.dst v) h' := by
      intro v h' sx' px' hk' hc' hp1 hp2 hoh'
      obtain ⟨e1, e2⟩ := getT_free hf t v
      refine runD_txt hd l (i + 1) _ h' (restH P o.op oh) (acc ++ [v]) _ _ (addPast P o.op i oh past') sx' px' hgl e2 (by rw [e1]; exact hb) hc' hp1 hp2 hoh' hk' ?_
      intro vs h2 sx2 px2 hJ hc2 hp2
      have q := hn (v :: vs) h2 sx2 px2 (by simpa using hJ) (by simpa [runSeen, getT_append] using hc2) hp2
      have e : i + (o :: l).length = i + 1 + l.length := by simp; omega
      rw [e] at q
      simpa [putsT, getT_append] using q
    refine stepD_txt hc hp hw hk ?_ ?_
    · intro v h' he hk'
      exact next v h' sx _ hk' hc.eff (hp.add (.inr rfl) he) (hp'.add hoh he) (.inl (by unfold restH; rw [he]))
    · intro v he hv hk'
      refine next v h _ px hk' (hc.add he hv) (by rw [addPast_none he]; exact hp) (by rw [addPast_none he]; exact hp') ?_
      unfold restH; rw [he]; exact hoh
theorem skipD_txt {j : Nat} {want : Bool} {d : Nat} (hd : (ops[j]?).bind (·.dst) = some d) {rest : List Oper} {h : St} {sx : SeenX} {px : PastX} :
    ∀ (l : List Oper) (i : Nat) (t : List Value), GuardOk j want l → free d l = true → (∀ o ∈ l, ∀ t', getT t' d = getT t d → wantA ops t' o = some false) →
      txtX P C ops K rest (i + l.length) sx px (l.foldl (fun t o => putT t o.dst undef) t) h → txtX P C ops K (l ++ rest) i sx px t h
  | [], _, _, _, _, _, H => H
  | o :: l, i, t, hg, hf, hw, H => by
    obtain ⟨e1, e2⟩ := getT_free hf t undef
    refine .inl ⟨hw o (List.mem_cons_self ..) t rfl, ?_⟩
    refine skipD_txt hd l (i + 1) _ (fun x hx => hg x (List.mem_cons_of_mem _ hx)) e2 (fun o ho t' ht' => hw o (List.mem_cons_of_mem _ ho) t' (by rw [ht', e1])) ?_
    have e : i + (o :: l).length = i + 1 + l.length := by simp; omega
    rw [e] at H
    exact H
theorem guardK_abs {v : Value} {want : Bool} {yes no : Prop} (H : guardK v want yes no) : (yes ∧ v = .bool want) ∨ (no ∧ ((∃ b, v = .bool b ∧ (b == want) = false) ∨ ∃ vs : Array Value, v = .tuple vs ∧ vs.toList = [])) := by
  unfold guardK at H
  split at H
  · rename_i b
    cases b <;> cases want <;> first
      | exact .inl ⟨H, rfl⟩
      | exact .inr ⟨H, .inl ⟨_, rfl, rfl⟩⟩
  · rename_i vs
    split at H
    · rename_i hz; exact .inr ⟨H, .inr ⟨vs, rfl, hz⟩⟩
    · exact H.elim
  · exact H.elim

theorem regD_txt : ∀ (gs : List Group) (i : Nat) (t : List Value) (h : St) (seen : List Seen) (past : List (Nat × Option St)) (sx : SeenX) (px : PastX), GroupsOk gs → Cov P (Region.before ops).toList seen sx → CovP px past →
    regD P C idG ops (Region.before ops).toList gs i t h seen past K → txtX P C ops K (flatG gs) i sx px t h
  | [], _, _, _, _, _, _, _, _, _, _, H => H
  | .one o :: r, i, t, h, seen, past, sx, px, hg, hc, hp, H => by
    have hw : wantA ops t o = some true := by unfold wantA; simp only [hg.1]
    refine stepD_txt (l := flatG r) hc hp hw H ?_ ?_
    · intro v h' he hk
      exact regD_txt r (i + 1) _ h' _ _ sx _ hg.2 hc.eff (hp.add (.inr rfl) he) hk
    · intro v he hv hk
      refine regD_txt r (i + 1) _ h _ _ _ px hg.2 (hc.add he hv) ?_ hk
      rw [addPast_none he]
      exact hp
  | .many j want l :: r, i, t, h, seen, past, sx, px, hg, hc, hp, H => by
    simp only [regD] at H
    split at H
    · rename_i d hs
      obtain ⟨hd, hf⟩ := guardSlot_spec hs
      rcases guardK_abs H with ⟨H, hb⟩ | ⟨H, hb⟩
      · refine runD_txt hd l i t h (some h) [] seen past past sx px hg.1 hf hb hc hp hp (.inr rfl) H ?_
        intro vs h' sx' px' hJ hc' hp'
        simp only [idG, forceT_eq, List.nil_append, List.length_nil] at hJ hc' ⊢
        exact regD_txt r _ _ h' _ _ sx' px' hg.2 (fun j h2 q => hc' j h2 (seenIn_run hb l i 0 t seen seen id q)) hp' hJ
      · simp only [idG, forceT_eq] at H
        refine skipD_txt hd l i t hg.1 hf ?_ ?_
        · intro o ho t' ht'
          rcases hb with ⟨b, hb, hne⟩ | ⟨vs, hb, hz⟩
          · rw [wantA_group (hg.1 o ho) hd (ht'.trans hb), hne]
          · exact wantA_group0 (hg.1 o ho) hd (ht'.trans hb) hz
        · have := putsT_undefs l [] t 0 rfl
          rw [List.nil_append] at this
          rw [this] at H
          exact regD_txt r _ _ h _ _ sx px hg.2 (fun j h2 q => hc j h2 (seenIn_mono l i 0 t seen q)) (hp.mono (doneIn_mono _ l i past)) H
    · exact H.elim
theorem drawOk (hm : P.follows .mixedOrders = true) (HC : OracleOk P B w0 C) (HL : OracleLive C) : DrawOk P B w0 ρ0 C := by
  intro id ops t h a w K Q hq S hB H
  obtain ⟨h1, h2⟩ := groupsOf_flat ops.toList
  refine wp_region_txt (K := K .normal) hm HC HL (fun t h a w hk S => hq _ _ _ _ _ hk S) hB S ?_
  have := regD_txt (K := K .normal) (groupsOf ops.toList) 0 t h [] [] [] [] h2 (fun _ _ _ r hr => by cases hr) (fun p hp => by cases hp) H
  rwa [h1] at this
end
end Go.Abs
