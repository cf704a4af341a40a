/- What the abstract machine does in a statement whose order is the text's, the machine does. -/
import Derived.Test.YtdgonebknphkcaaAbsO
set_option linter.unusedSimpArgs false
set_option linter.unusedVariables false
namespace Go.Abs
open Go.RowKit (Below)

/-- An abstract state stands for a state, behind a call's start. -/
def SRel (P : Program) (B : Nat) (w0 : World) (ρ0 : Rho) (t : List Value) (h : St) (a : Act) (w : World) : Prop :=
  ∃ ρ, ρ0.le ρ ∧ LRel ρ t a.tmps.toList ∧ HRel P B w0 ρ h w ∧ a.defers = []

theorem revF_eq : ∀ (t r : List Value) (k : List Value → Prop), revF t r k = k (t.reverse ++ r)
  | [], r, k => rfl
  | v :: t, r, k => by
    have h := revF_eq t (v :: r) k
    rw [List.reverse_cons, List.append_assoc]
    exact h
theorem forceT_eq (t : List Value) (k : List Value → Prop) : forceT t k = k t := by
  unfold forceT
  rw [revF_eq, revF_eq]; simp
theorem tidyT_eq (d : Option Nat) (t : List Value) (k : List Value → Prop) : tidyT d t k = k t := by
  unfold tidyT
  split
  · split
    · rw [forceT_eq]
    · rfl
  · rfl
theorem getK_eq : ∀ (t : List Value) (n : Nat) (k : Value → Prop), getK t n k = k (getT t n)
  | [], n, k => rfl
  | v :: _, 0, k => rfl
  | _ :: t, n + 1, k => getK_eq t n k
theorem evK_eq (P : Program) (t : List Value) (x : Operand) (k : Value → Prop) : evK P t x k = k (evA P t x) := by
  unfold evK; cases x <;> first | rfl | exact getK_eq _ _ _

section
variable {P : Program} {B : Nat} {w0 : World} {ρ0 : Rho} {C : Oracle}

theorem SRel.put {t : List Value} {h : St} {a : Act} {w : World} (d : Option Tmp) (S : SRel P B w0 ρ0 t h a w) : SRel P B w0 ρ0 (putT t d undef) h (a.put d undef) w := by
  obtain ⟨ρ, h1, h2, h3, h4⟩ := S
  exact ⟨ρ, h1, putT_rel h2 d (VRel.undef ρ), h3, by cases d <;> exact h4⟩
theorem put_defers (a : Act) (d : Option Tmp) (v : Value) : (a.put d v).defers = a.defers := by cases d <;> rfl

theorem stepK_post (HC : OracleOk P B w0 C) {ρ : Rho} {t : List Value} {h : St} {a : Act} {w : World} (hr : LRel ρ t a.tmps.toList) (H : HRel P B w0 ρ h w) {o : Oper} {k : Cont} (hk : stepK P C o.op t h k) :
    Post P B w0 ρ k ((execOp a.eval o).run P w) := by
  unfold stepK at hk
  split at hk
  · rename_i x hx
    rw [evK_eq] at hk
    have : (execOp a.eval o).run P w = .ok (.value (a.eval x)) w := by
      obtain ⟨dst, op, type, pos, after, guard⟩ := o
      simp only [moved] at hx
      cases op <;> simp only at hx <;> cases hx <;> rfl
    rw [this]
    exact ⟨_, h, ρ, hk, Rho.le.refl ρ, H, evA_rel H hr x⟩
  · unfold opK at hk
    split at hk
    · rename_i he
      exact opE_sound HC H (fun x => evA_rel H hr x) he hk
    · cases hv : opV P o.op (evA P t) h with
      | none => rw [hv] at hk; exact hk.elim
      | some v =>
        rw [hv] at hk
        obtain ⟨v', h1, h2⟩ := opV_sound H (fun x => evA_rel H hr x) hv
        rw [h1]
        exact ⟨_, h, ρ, hk, Rho.le.refl ρ, H, h2⟩
theorem Post.upon {ρ : Rho} {o : Oper} {a : Act} {k : Cont} {r : Result Next} {t : List Value} (h0 : ρ0.le ρ) (hr : LRel ρ t a.tmps.toList) (hd : a.defers = []) (hp : Post P B w0 ρ k r) {next : Act → World → Prop} {Q : Exit → Act → World → Prop}
    (hn : ∀ v v' h' w', k v h' → SRel P B w0 ρ0 (putT t o.dst v) h' (a.put o.dst v') w' → next (a.put o.dst v') w') : o.upon P a next Q r := by
  have done : ∀ v v' h' ρ' w', k v h' → ρ.le ρ' → HRel P B w0 ρ' h' w' → VRel ρ' v v' → next (a.put o.dst v') w' :=
    fun v v' h' ρ' w' h1 h2 h3 h4 => hn v v' h' w' h1 ⟨ρ', h0.trans h2, putT_rel (hr.mono h2) _ h4, h3, by rw [put_defers]; exact hd⟩
  unfold Post at hp
  split at hp
  · obtain ⟨v, h', ρ', h1, h2, h3, h4⟩ := hp
    exact done _ _ _ _ _ h1 h2 h3 h4
  · obtain ⟨h', ρ', h1, h2, h3⟩ := hp
    exact done _ _ _ _ _ h1 h2 h3 (VRel.undef ρ')
  · refine Calls.mono hp ?_
    rintro e w'' ⟨v, v', h', ρ', rfl, h1, h2, h3, h4⟩
    exact done _ _ _ _ _ h1 h2 h3 h4
  · exact hp.elim
theorem stepK_wp (HC : OracleOk P B w0 C) {t : List Value} {h : St} {a : Act} {w : World} (S : SRel P B w0 ρ0 t h a w) {o : Oper} {k : Cont} (hk : stepK P C o.op t h k) {next : Act → World → Prop} {Q : Exit → Act → World → Prop}
    (hn : ∀ v v' h' w', k v h' → SRel P B w0 ρ0 (putT t o.dst v) h' (a.put o.dst v') w' → next (a.put o.dst v') w') : o.wp P a w next Q := by
  obtain ⟨ρ, h1, h2, h3, h4⟩ := S
  exact Post.upon h1 h2 h4 (stepK_post HC h2 h3 hk) hn

/-! ### guards -/
def GuardOk (j : Nat) (want : Bool) (l : List Oper) : Prop := ∀ o ∈ l, o.guard = some (j, want)
def flatG : List Group → List Oper
  | [] => []
  | .one o :: r => o :: flatG r
  | .many _ _ l :: r => l ++ flatG r
def GroupsOk : List Group → Prop
  | [] => True
  | .one o :: r => o.guard = none ∧ GroupsOk r
  | .many j want l :: r => GuardOk j want l ∧ GroupsOk r
theorem sameG_eq {i j : Nat} {a b : Bool} (h : sameG i a j b = true) : i = j ∧ a = b := by
  unfold sameG at h
  split at h
  · exact ⟨Nat.eq_of_beq_eq_true h, rfl⟩
  · exact ⟨Nat.eq_of_beq_eq_true h, rfl⟩
  · cases h
theorem addG_flat (o : Oper) (r : List Group) (hr : GroupsOk r) : flatG (addG o r) = o :: flatG r ∧ GroupsOk (addG o r) := by
  unfold addG
  split
  · rename_i i a j b l r' hg
    split
    · rename_i hs
      obtain ⟨rfl, rfl⟩ := sameG_eq hs
      refine ⟨rfl, ?_, hr.2⟩
      intro x hx
      cases hx with
      | head => exact hg
      | tail _ hx => exact hr.1 x hx
    · refine ⟨rfl, ?_, hr⟩
      intro x hx
      cases hx with
      | head => exact hg
      | tail _ hx => cases hx
  · rename_i hg _
    refine ⟨rfl, ?_, hr⟩
    intro x hx
    cases hx with
    | head => exact hg
    | tail _ hx => cases hx
  · rename_i hg
    exact ⟨rfl, hg, hr⟩
theorem groupsOf_flat : ∀ l : List Oper, flatG (groupsOf l) = l ∧ GroupsOk (groupsOf l)
  | [] => ⟨rfl, trivial⟩
  | o :: l => by
    obtain ⟨h1, h2⟩ := groupsOf_flat l
    have := addG_flat o (groupsOf l) h2
    rw [h1] at this
    exact this
theorem guardSlot_spec {ops : Array Oper} {j d : Nat} {l : List Oper} (h : guardSlot ops j l = some d) : (ops[j]?).bind (·.dst) = some d ∧ free d l = true := by
  unfold guardSlot at h
  split at h
  · rename_i d' hd
    split at h
    · rename_i hf; cases h; exact ⟨hd, hf⟩
    · cases h
  · cases h
theorem wanted_yes {ops : Array Oper} {a : Act} {j d : Nat} {want : Bool} {o : Oper} (hd : (ops[j]?).bind (·.dst) = some d) (hg : o.guard = some (j, want)) (ha : a.tmps[d]? = some (.bool want)) :
    Region.wanted o (yielded ops a.tmps) = true := by
  simp [Region.wanted, hg, yielded, hd, ha]
theorem wanted_no {ops : Array Oper} {a : Act} {j d : Nat} {want : Bool} {o : Oper} (hd : (ops[j]?).bind (·.dst) = some d) (hg : o.guard = some (j, want)) (ha : a.tmps[d]? ≠ some (.bool want)) :
    Region.wanted o (yielded ops a.tmps) = false := by
  simp only [Region.wanted, hg, yielded, hd, Option.bind_some]
  split
  · rename_i b hb
    simp only [beq_eq_false_iff_ne, ne_eq, Option.some.injEq]
    intro e; subst e; exact ha hb
  · rfl
theorem guardK_spec {ρ : Rho} {t : List Value} {a : Act} (hr : LRel ρ t a.tmps.toList) {d : Nat} {want : Bool} {yes no : Prop} (h : guardK (getT t d) want yes no) :
    (yes ∧ a.tmps[d]? = some (.bool want)) ∨ (no ∧ a.tmps[d]? ≠ some (.bool want)) := by
  have hv := getT_rel hr d
  have hg : a.tmps.toList.getD d Go.undef = (a.tmps[d]?).getD Go.undef := by simp [List.getD]
  rw [hg] at hv
  unfold guardK at h
  split at h
  · rename_i b hb
    rw [hb] at hv
    have he := hv.bool_inv
    have hs : a.tmps[d]? = some (.bool b) := by
      cases hx : a.tmps[d]? with
      | none => rw [hx] at he; simp [Go.undef] at he
      | some v => rw [hx] at he; simp at he; rw [he]
    rw [hs]
    split at h
    · exact .inl ⟨h, rfl⟩
    · exact .inl ⟨h, rfl⟩
    · rename_i h1 h2
      refine .inr ⟨h, ?_⟩
      intro e
      injection e with e; injection e with e
      subst e
      cases b
      · exact h2 rfl rfl
      · exact h1 rfl rfl
  · rename_i vs hb
    split at h
    · rename_i hvs
      refine .inr ⟨h, ?_⟩
      intro e
      rw [e, hb] at hv
      cases hv
      simp at hvs
    · exact h.elim
  · exact h.elim
theorem put_other {a : Act} {o : Oper} {d : Nat} {l : List Oper} (hf : free d (o :: l) = true) (v : Value) : (a.put o.dst v).tmps[d]? = a.tmps[d]? ∧ free d l = true := by
  simp only [free, Bool.and_eq_true] at hf
  refine ⟨?_, hf.2⟩
  cases ho : o.dst with
  | none => rfl
  | some e =>
    rw [ho] at hf
    have : e ≠ d := by
      intro he; subst he
      have h1 := hf.1
      simp only [Bool.not_eq_true'] at h1
      rw [Nat.beq_refl] at h1; cases h1
    simp [Act.put, Array.getElem?_setIfInBounds, this]

theorem getT_append (acc : List Value) (v : Value) (r : List Value) : getT (acc ++ v :: r) acc.length = v := by
  induction acc with
  | nil => rfl
  | cons x l ih => exact ih

theorem runG_sound (HC : OracleOk P B w0 C) {ops : Array Oper} {Q : Exit → Act → World → Prop} {j d : Nat} {want : Bool} (hd : (ops[j]?).bind (·.dst) = some d) {rest : List Oper} {J : List Value → St → Prop} :
    ∀ (l : List Oper) (t : List Value) (h : St) (acc : List Value) (a : Act) (w : World), GuardOk j want l → free d l = true → a.tmps[d]? = some (.bool want) → SRel P B w0 ρ0 t h a w → runG P C l t h acc J →
      (∀ vs h' a' w', J (acc ++ vs) h' → SRel P B w0 ρ0 (putsT (acc ++ vs) l acc.length t) h' a' w' → wpList P ops Q rest a' w') → wpList P ops Q (l ++ rest) a w
  | [], t, h, acc, a, w, _, _, _, S, hk, hn => hn [] h a w (by simpa [runG] using hk) S
  | o :: l, t, h, acc, a, w, hg, hf, ha, S, hk, hn => by
    show wpList P ops Q (o :: (l ++ rest)) a w
    simp only [wpList]
    rw [if_pos (wanted_yes hd (hg o (List.mem_cons_self ..)) ha)]
    refine .inl (stepK_wp HC S hk ?_)
    intro v v' h' w' hk' S'
    obtain ⟨e1, e2⟩ := put_other (a := a) hf v'
    refine runG_sound HC hd l _ h' (acc ++ [v]) _ w' (fun x hx => hg x (List.mem_cons_of_mem _ hx)) e2 (by rw [e1]; exact ha) S' hk' ?_
    intro vs h2 a2 w2 hJ S2
    refine hn (v :: vs) h2 a2 w2 (by simpa using hJ) ?_
    have : putsT (acc ++ v :: vs) (o :: l) acc.length t = putsT (acc ++ [v] ++ vs) l (acc ++ [v]).length (putT t o.dst v) := by
      simp only [putsT, getT_append, List.append_assoc, List.singleton_append, List.length_append, List.length_singleton]
    rw [this]
    exact S2
theorem putsT_undefs : ∀ (l : List Oper) (pre : List Value) (t : List Value) (n : Nat), pre.length = n → putsT (pre ++ undefs l) l n t = l.foldl (fun t o => putT t o.dst undef) t
  | [], _, _, _, _ => rfl
  | o :: l, pre, t, n, hn => by
    subst hn
    have ih := putsT_undefs l (pre ++ [undef]) (putT t o.dst undef) (pre.length + 1) (by simp)
    simp only [undefs, putsT, List.foldl_cons, getT_append]
    rw [← ih]
    simp
theorem skipG_sound {ops : Array Oper} {Q : Exit → Act → World → Prop} {j d : Nat} {want : Bool} (hd : (ops[j]?).bind (·.dst) = some d) {rest : List Oper} {h : St} :
    ∀ (l : List Oper) (t : List Value) (a : Act) (w : World), GuardOk j want l → free d l = true → a.tmps[d]? ≠ some (.bool want) → SRel P B w0 ρ0 t h a w →
      (∀ a', SRel P B w0 ρ0 (l.foldl (fun t o => putT t o.dst undef) t) h a' w → wpList P ops Q rest a' w) → wpList P ops Q (l ++ rest) a w
  | [], t, a, w, _, _, _, S, hn => hn a S
  | o :: l, t, a, w, hg, hf, ha, S, hn => by
    show wpList P ops Q (o :: (l ++ rest)) a w
    simp only [wpList]
    rw [if_neg (by rw [wanted_no hd (hg o (List.mem_cons_self ..)) ha]; simp)]
    obtain ⟨e1, e2⟩ := put_other (a := a) hf undef
    exact skipG_sound hd l _ _ w (fun x hx => hg x (List.mem_cons_of_mem _ hx)) e2 (by rw [e1]; exact ha) (S.put o.dst) hn

theorem regK_sound (HC : OracleOk P B w0 C) {ops : Array Oper} {Q : Exit → Act → World → Prop} {K : List Value → St → Prop} (hQ : ∀ t h a w, K t h → SRel P B w0 ρ0 t h a w → Q .normal a w) :
    ∀ (gs : List Group) (t : List Value) (h : St) (a : Act) (w : World), GroupsOk gs → SRel P B w0 ρ0 t h a w → regK P C idG ops gs t h K → wpList P ops Q (flatG gs) a w
  | [], t, h, a, w, _, S, hk => hQ t h a w hk S
  | .one o :: r, t, h, a, w, hg, S, hk => by
    show wpList P ops Q (o :: flatG r) a w
    simp only [wpList]
    rw [if_pos (by simp [Region.wanted, hg.1])]
    exact .inl (stepK_wp HC S hk fun v v' h' w' hk' S' => regK_sound HC hQ r _ h' _ w' hg.2 S' (by rw [tidyT_eq] at hk'; exact hk'))
  | .many j want l :: r, t, h, a, w, hg, S, hk => by
    show wpList P ops Q (l ++ flatG r) a w
    simp only [regK] at hk
    split at hk
    · rename_i d hs
      obtain ⟨hd, hf⟩ := guardSlot_spec hs
      obtain ⟨ρ, _, hr, _, _⟩ := id S
      rcases guardK_spec hr hk with ⟨hk, ha⟩ | ⟨hk, ha⟩
      · refine runG_sound HC hd l t h [] a w hg.1 hf ha S hk ?_
        intro vs h' a' w' hJ S'
        simp only [idG, forceT_eq, List.nil_append] at hJ S'
        exact regK_sound HC hQ r _ h' a' w' hg.2 S' hJ
      · refine skipG_sound hd l t a w hg.1 hf ha S ?_
        intro a' S'
        simp only [idG, forceT_eq] at hk
        have := putsT_undefs l [] t 0 rfl
        rw [List.nil_append] at this
        rw [this] at hk
        exact regK_sound HC hQ r _ h a' w hg.2 S' hk
    · exact hk.elim
end
end Go.Abs
