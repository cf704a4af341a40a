/- Statements whose order Go leaves open: what the evaluator asks is enough. -/
import Derived.Test.YtdgonebknphkcaaAbsU
set_option linter.unusedSimpArgs false
set_option linter.unusedVariables false
namespace Go.Abs
open Go.RowKit (Below)

section
variable {P : Program} {B : Nat} {w0 : World} {ρ0 : Rho} {C : Oracle} {ops : Array Oper} {K : List Value → St → Prop}

theorem effWaits_spec {bef : List Nat} {i : Nat} : ∀ {past : PastX}, effWaits bef i past = true → ∀ p ∈ past, waits bef p.1 i = true
  | [], _, p, hp => by cases hp
  | (e, h) :: rs, H, p, hp => by
    simp only [effWaits, Bool.and_eq_true] at H
    cases hp with
    | head => exact H.1
    | tail _ hp => exact effWaits_spec H.2 p hp
theorem pastOk_spec {bef : List Nat} {i : Nat} {op : Op} {ev : Operand → Value} {v : Value} : ∀ {past : PastX}, pastOk P bef i op ev v past → ∀ p ∈ past, waits bef p.1 i = false → opV P op ev p.2 = some v
  | [], _, p, hp, _ => by cases hp
  | (e, h) :: rs, H, p, hp, hw => by
    obtain ⟨h1, h2⟩ := H
    cases hp with
    | head =>
      simp only at hw
      rw [hw] at h1
      exact h1
    | tail _ hp => exact pastOk_spec h2 p hp hw
/-- The evaluator's list says no less. -/
def Cov (P : Program) (seen : List Seen) (sx : SeenX) : Prop := ∀ h', seenOk P h' seen → ∀ r ∈ sx, opV P r.1.op (evA P r.2.1) h' = some r.2.2
theorem Cov.add {seen : List Seen} {sx : SeenX} (hc : Cov P seen sx) {o : Oper} {t : List Value} {v : Value} {h : St} (he : isEff P o.op = false) (hv : opV P o.op (evA P t) h = some v) : Cov P (addSeen P none o.op t v seen) ((o, t, v) :: sx) := by
  intro h' hs r hr
  unfold addSeen at hs
  cases hrd : isRead P o.op with
  | true =>
    rw [hrd] at hs
    cases hr with
    | head => exact hs.1
    | tail _ hr => exact hc h' hs.2 r hr
  | false =>
    rw [hrd] at hs
    cases hr with
    | head => rw [opV_still he hrd (evA P t) h' h]; exact hv
    | tail _ hr => exact hc h' hs r hr
theorem Cov.eff {seen : List Seen} {sx : SeenX} (hc : Cov P seen sx) {o : Oper} {t : List Value} {v : Value} : Cov P (addSeen P none o.op t v seen) sx := by
  intro h' hs
  unfold addSeen at hs
  split at hs
  · exact hc h' hs.2
  · exact hc h' hs
theorem moved_spec {op : Op} {x : Operand} (h : moved op = some x) (ev : Operand → Value) (s : St) : opV P op ev s = some (ev x) ∧ isEff P op = false ∧ isRead P op = false := by
  unfold moved at h
  split at h
  · cases h; exact ⟨rfl, rfl, rfl⟩
  · cases h; exact ⟨rfl, rfl, rfl⟩
  · cases h

theorem stepD_txt {o : Oper} {l : List Oper} {i : Nat} {t : List Value} {h : St} {seen : List Seen} {past : PastX} {sx : SeenX} {px : PastX} {k : Cont} (hc : Cov P seen sx) (hp : ∀ p ∈ px, p ∈ past) (hw : wantA ops t o = some true)
    (H : stepD P C (Region.before ops).toList o.op i t h seen past k)
    (hE : ∀ v h', isEff P o.op = true → k v h' → txtX P C ops K l (i + 1) sx ((i, h) :: px) (putT t o.dst v) h')
    (hR : ∀ v, isEff P o.op = false → opV P o.op (evA P t) h = some v → k v h → txtX P C ops K l (i + 1) ((o, t, v) :: sx) px (putT t o.dst v) h) : txtX P C ops K (o :: l) i sx px t h := by
  unfold stepD at H
  split at H
  · rename_i x hx
    rw [evK_eq] at H
    obtain ⟨q1, q2, q3⟩ := moved_spec (P := P) hx (evA P t) h
    exact .inr (.inr ⟨hw, q2, _, q1, fun p _ _ => (moved_spec (P := P) hx (evA P t) p.2).1, hR _ q2 q1 H⟩)
  · split at H
    · rename_i he
      split at H
      · rename_i hew
        exact .inr (.inl ⟨hw, he, fun p q => effWaits_spec hew p (hp p q), _, H, fun v h' hk => ⟨hc h' hk.1, hE v h' he hk.2⟩⟩)
      · exact H.elim
    · rename_i he
      split at H
      · cases hv : opV P o.op (evA P t) h with
        | none => rw [hv] at H; exact H.elim
        | some v =>
          rw [hv] at H
          exact .inr (.inr ⟨hw, he, v, hv, fun p q => pastOk_spec H.1 p (hp p q), hR v he hv H.2⟩)
      · rename_i hrd
        cases hv : opV P o.op (evA P t) h with
        | none => rw [hv] at H; exact H.elim
        | some v =>
          rw [hv] at H
          exact .inr (.inr ⟨hw, he, v, hv, fun p _ _ => by rw [opV_still he hrd (evA P t) p.2 h]; exact hv, hR v he hv H⟩)

/-! ### groups -/
def runSeen (P : Program) (xs : List Value) : List Oper → Nat → List Value → List Seen → List Seen
  | [], _, _, seen => seen
  | o :: l, k, t, seen => runSeen P xs l (k + 1) (putT t o.dst (getT xs k)) (addSeen P none o.op t (getT xs k) seen)
theorem seenIn_mono {g : Value × Bool} {xs : List Value} {h' : St} : ∀ (l : List Oper) (k : Nat) (t : List Value) (seen : List Seen), seenOk P h' (seenIn P g xs l k t seen) → seenOk P h' seen
  | [], _, _, _, H => H
  | o :: l, k, t, seen, H => by
    have := seenIn_mono l (k + 1) _ _ H
    unfold addSeen at this
    split at this
    · exact this.2
    · exact this
theorem seenIn_run {g : Value} {want : Bool} (hg : g = .bool want) {xs : List Value} {h' : St} : ∀ (l : List Oper) (k : Nat) (t : List Value) (seen seen' : List Seen), (seenOk P h' seen → seenOk P h' seen') →
    seenOk P h' (seenIn P (g, want) xs l k t seen) → seenOk P h' (runSeen P xs l k t seen')
  | [], _, _, _, _, hs, H => hs H
  | o :: l, k, t, seen, seen', hs, H => by
    refine seenIn_run hg l (k + 1) _ _ _ ?_ H
    intro q
    unfold addSeen at q ⊢
    split
    · rename_i hr
      rw [hr] at q
      refine ⟨?_, hs q.2⟩
      have := q.1
      subst hg
      cases want <;> exact this
    · rename_i hr
      rw [hr] at q
      exact hs q
theorem doneIn_mono {h : St} : ∀ (l : List Oper) (i : Nat) (past : PastX), ∀ p ∈ past, p ∈ doneIn P h l i past
  | [], _, _, p, hp => hp
  | o :: l, i, past, p, hp => by
    refine doneIn_mono l (i + 1) _ p ?_
    unfold addPast
    split
    · exact List.mem_cons_of_mem _ hp
    · exact hp
theorem wantA_group {o : Oper} {j d : Nat} {want : Bool} (hg : o.guard = some (j, want)) (hd : (ops[j]?).bind (·.dst) = some d) {t : List Value} {b : Bool} (hb : getT t d = .bool b) : wantA ops t o = some (b == want) := by
  unfold wantA; simp only [hg, hd, hb]
theorem wantA_group0 {o : Oper} {j d : Nat} {want : Bool} (hg : o.guard = some (j, want)) (hd : (ops[j]?).bind (·.dst) = some d) {t : List Value} {vs : Array Value} (hb : getT t d = .tuple vs) (hz : vs.toList = []) : wantA ops t o = some false := by
  have hz' : vs.size = 0 := by rw [← Array.length_toList, hz]; rfl
  unfold wantA; simp only [hg, hd, hb, hz', if_true]
theorem getT_free {o : Oper} {l : List Oper} {d : Nat} (hf : free d (o :: l) = true) (t : List Value) (v : Value) : getT (putT t o.dst v) d = getT t d ∧ free d l = true := by
  simp only [free, Bool.and_eq_true] at hf
  refine ⟨?_, hf.2⟩
  cases ho : o.dst with
  | none => rfl
  | some e =>
    rw [ho] at hf
    refine getT_setT t e d v ?_
    intro he; subst he
    have h1 := hf.1
    simp only [Bool.not_eq_true'] at h1
    rw [Nat.beq_refl] at h1; cases h1

theorem runD_txt {j d : Nat} {want : Bool} (hd : (ops[j]?).bind (·.dst) = some d) {rest : List Oper} {J : List Value → St → Prop} {h0 : St} :
    ∀ (l : List Oper) (i : Nat) (t : List Value) (h : St) (acc : List Value) (seen : List Seen) (past : PastX) (sx : SeenX) (px : PastX) (n : Nat), GuardOk j want l → free d l = true → getT t d = .bool want → Cov P seen sx → (∀ p ∈ px, p ∈ past) → fewEff P l n = true → (n = 0 → h = h0) →
      runD P C (Region.before ops).toList l i t h seen past acc J →
      (∀ vs h' sx' px', J (acc ++ vs) h' → Cov P (runSeen P (acc ++ vs) l acc.length t seen) sx' → (∀ p ∈ px', p ∈ doneIn P h0 l i past) → txtX P C ops K rest (i + l.length) sx' px' (putsT (acc ++ vs) l acc.length t) h') →
      txtX P C ops K (l ++ rest) i sx px t h
  | [], i, t, h, acc, seen, past, sx, px, n, _, _, _, hc, hp, _, _, hk, hn => hn [] h sx px (by simpa [runD] using hk) hc hp
  | o :: l, i, t, h, acc, seen, past, sx, px, n, hg, hf, hb, hc, hp, hfew, h00, hk, hn => by
    have hgo := hg o (List.mem_cons_self ..)
    have hgl : GuardOk j want l := fun x hx => hg x (List.mem_cons_of_mem _ hx)
    have hw : wantA ops t o = some true := by rw [wantA_group hgo hd hb]; simp
    have next : ∀ v h' sx' px' n', runD P C (Region.before ops).toList l (i + 1) (putT t o.dst v) h' (addSeen P none o.op t v seen) (addPast P o.op i h past) (acc ++ [v]) J →
        Cov P (addSeen P none o.op t v seen) sx' → (∀ p ∈ px', p ∈ addPast P o.op i h past) → fewEff P l n' = true → (n' = 0 → h' = h0) → (addPast P o.op i h past = addPast P o.op i h0 past) → txtX P C ops K (l ++ rest) (i + 1) sx' px' (putT t o.dst v) h' := by
      intro v h' sx' px' n' hk' hc' hp' hf' h0' hadd
      obtain ⟨e1, e2⟩ := getT_free hf t v
      refine runD_txt hd l (i + 1) _ h' (acc ++ [v]) _ _ sx' px' n' hgl e2 (by rw [e1]; exact hb) hc' hp' hf' h0' hk' ?_
      intro vs h2 sx2 px2 hJ hc2 hp2
      have q := hn (v :: vs) h2 sx2 px2 (by simpa using hJ) (by simpa [runSeen, getT_append] using hc2) (by
        intro p hp
        have := hp2 p hp
        rw [hadd] at this
        exact this)
      have e : i + (o :: l).length = i + 1 + l.length := by simp; omega
      rw [e] at q
      simpa [putsT, getT_append] using q
    refine stepD_txt hc hp hw hk ?_ ?_
    · intro v h' he hk'
      have hf2 : n = 0 ∧ fewEff P l 1 = true := by
        simp only [fewEff, he] at hfew
        cases n with
        | zero => exact ⟨rfl, hfew⟩
        | succ n => cases hfew
      have hh := h00 hf2.1
      refine next v h' sx _ 1 hk' hc.eff ?_ hf2.2 (by intro h; cases h) (by rw [hh])
      intro p hp'
      unfold addPast
      rw [he]
      cases hp' with
      | head => exact List.mem_cons_self ..
      | tail _ hp' => exact List.mem_cons_of_mem _ (hp p hp')
    · intro v he hv hk'
      have hf2 : fewEff P l n = true := by simpa only [fewEff, he] using hfew
      have ha : ∀ x, addPast P o.op i x past = past := fun x => by unfold addPast; rw [he]
      exact next v h _ px n hk' (hc.add he hv) (by rw [ha]; exact hp) hf2 h00 (by rw [ha, ha])
theorem skipD_txt {j : Nat} {want : Bool} {d : Nat} (hd : (ops[j]?).bind (·.dst) = some d) {rest : List Oper} {h : St} {sx : SeenX} {px : PastX} :
    ∀ (l : List Oper) (i : Nat) (t : List Value), GuardOk j want l → free d l = true → (∀ o ∈ l, ∀ t', getT t' d = getT t d → wantA ops t' o = some false) →
      txtX P C ops K rest (i + l.length) sx px (l.foldl (fun t o => putT t o.dst undef) t) h → txtX P C ops K (l ++ rest) i sx px t h
  | [], _, _, _, _, _, H => H
  | o :: l, i, t, hg, hf, hw, H => by
    obtain ⟨e1, e2⟩ := getT_free hf t undef
    refine .inl ⟨hw o (List.mem_cons_self ..) t rfl, ?_⟩
    refine skipD_txt hd l (i + 1) _ (fun x hx => hg x (List.mem_cons_of_mem _ hx)) e2 (fun o ho t' ht' => hw o (List.mem_cons_of_mem _ ho) t' (by rw [ht', e1])) ?_
    have e : i + (o :: l).length = i + 1 + l.length := by simp; omega
    rw [e] at H
    exact H
theorem guardK_abs {v : Value} {want : Bool} {yes no : Prop} (H : guardK v want yes no) : (yes ∧ v = .bool want) ∨ (no ∧ ((∃ b, v = .bool b ∧ (b == want) = false) ∨ ∃ vs : Array Value, v = .tuple vs ∧ vs.toList = [])) := by
  unfold guardK at H
  split at H
  · rename_i b
    cases b <;> cases want <;> first
      | exact .inl ⟨H, rfl⟩
      | exact .inr ⟨H, .inl ⟨_, rfl, rfl⟩⟩
  · rename_i vs
    split at H
    · rename_i hz; exact .inr ⟨H, .inr ⟨vs, rfl, hz⟩⟩
    · exact H.elim
  · exact H.elim

theorem regD_txt : ∀ (gs : List Group) (i : Nat) (t : List Value) (h : St) (seen : List Seen) (past : PastX) (sx : SeenX) (px : PastX), GroupsOk gs → Cov P seen sx → (∀ p ∈ px, p ∈ past) →
    regD P C idG ops (Region.before ops).toList gs i t h seen past K → txtX P C ops K (flatG gs) i sx px t h
  | [], _, _, _, _, _, _, _, _, _, _, H => H
  | .one o :: r, i, t, h, seen, past, sx, px, hg, hc, hp, H => by
    have hw : wantA ops t o = some true := by unfold wantA; simp only [hg.1]
    refine stepD_txt (l := flatG r) hc hp hw H ?_ ?_
    · intro v h' he hk
      refine regD_txt r (i + 1) _ h' _ _ sx _ hg.2 hc.eff ?_ hk
      intro p hp'
      unfold addPast
      rw [he]
      cases hp' with
      | head => exact List.mem_cons_self ..
      | tail _ hp' => exact List.mem_cons_of_mem _ (hp p hp')
    · intro v he hv hk
      refine regD_txt r (i + 1) _ h _ _ _ px hg.2 (hc.add he hv) ?_ hk
      unfold addPast
      rw [he]
      exact hp
  | .many j want l :: r, i, t, h, seen, past, sx, px, hg, hc, hp, H => by
    simp only [regD] at H
    split at H
    · rename_i d hs hfew
      obtain ⟨hd, hf⟩ := guardSlot_spec hs
      rcases guardK_abs H with ⟨H, hb⟩ | ⟨H, hb⟩
      · refine runD_txt hd l i t h [] seen past sx px 0 hg.1 hf hb hc hp hfew (fun _ => rfl) H ?_
        intro vs h' sx' px' hJ hc' hp'
        simp only [idG, forceT_eq, List.nil_append, List.length_nil] at hJ hc' ⊢
        exact regD_txt r _ _ h' _ _ sx' px' hg.2 (fun h2 q => hc' h2 (seenIn_run hb l 0 t seen seen id q)) hp' hJ
      · simp only [idG, forceT_eq] at H
        refine skipD_txt hd l i t hg.1 hf ?_ ?_
        · intro o ho t' ht'
          rcases hb with ⟨b, hb, hne⟩ | ⟨vs, hb, hz⟩
          · rw [wantA_group (hg.1 o ho) hd (ht'.trans hb), hne]
          · exact wantA_group0 (hg.1 o ho) hd (ht'.trans hb) hz
        · have := putsT_undefs l [] t 0 rfl
          rw [List.nil_append] at this
          rw [this] at H
          exact regD_txt r _ _ h _ _ sx px hg.2 (fun h2 q => hc h2 (seenIn_mono l 0 t seen q)) (fun p q => doneIn_mono l i past p (hp p q)) H
    · exact H.elim
theorem drawOk (hm : P.follows .mixedOrders = true) (HC : OracleOk P B w0 C) (HL : OracleLive C) : DrawOk P B w0 ρ0 C := by
  intro id ops t h a w K Q hq S hB H
  obtain ⟨h1, h2⟩ := groupsOf_flat ops.toList
  refine wp_region_txt (K := K .normal) hm HC HL (fun t h a w hk S => hq _ _ _ _ _ hk S) hB S ?_
  have := regD_txt (K := K .normal) (groupsOf ops.toList) 0 t h [] [] [] [] h2 (fun _ _ r hr => by cases hr) (fun p hp => by cases hp) H
  rwa [h1] at this
end
end Go.Abs
