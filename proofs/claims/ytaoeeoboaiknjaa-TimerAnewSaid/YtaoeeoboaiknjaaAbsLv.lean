/- Something comes of every evaluation: a spec that holds is live. -/
import Derived.Test.YtaoeeoboaiknjaaAbsKit
set_option linter.unusedSimpArgs false
set_option linter.unusedVariables false
namespace Go.Abs
section
variable {P : Program} {C : Oracle}

theorem stepK_live (HL : OracleLive C) {o : Op} {t : List Value} {h : St} {k : Cont} (H : stepK P C o t h k) : ∃ v h', k v h' := by
  unfold stepK at H
  split at H
  · rw [evK_eq] at H; exact ⟨_, _, H⟩
  · unfold opK at H
    split at H
    · exact opE_live HL H
    · cases hv : opV P o (evA P t) h with
      | none => rw [hv] at H; exact H.elim
      | some v => rw [hv] at H; exact ⟨_, _, H⟩
theorem runG_live (HL : OracleLive C) {J : List Value → St → Prop} : ∀ (l : List Oper) (t : List Value) (h : St) (acc : List Value), runG P C l t h acc J → ∃ xs h', J xs h'
  | [], _, _, _, H => ⟨_, _, H⟩
  | o :: l, t, h, acc, H => by
    obtain ⟨v, h', H⟩ := stepK_live HL H
    exact runG_live HL l _ _ _ H
theorem guardK_live {v : Value} {want : Bool} {yes no : Prop} (H : guardK v want yes no) : yes ∨ no := by
  rcases guardK_abs H with ⟨H, _⟩ | ⟨H, _⟩
  · exact .inl H
  · exact .inr H
theorem regK_live (HL : OracleLive C) {ops : Array Oper} {K : List Value → St → Prop} : ∀ (gs : List Group) (t : List Value) (h : St), regK P C idG ops gs t h K → ∃ t' h', K t' h'
  | [], _, _, H => ⟨_, _, H⟩
  | .one o :: r, t, h, H => by
    obtain ⟨v, h', H⟩ := stepK_live HL H
    rw [tidyT_eq] at H
    exact regK_live HL r _ _ H
  | .many j want l :: r, t, h, H => by
    simp only [regK] at H
    split at H
    · have go : ∀ xs h', idG (forceT (putsT xs l 0 t) fun t' => regK P C idG ops r t' h' K) → ∃ t' h', K t' h' := fun xs h' q => by
        rw [idG_eq, forceT_eq] at q
        exact regK_live HL r _ _ q
      rcases guardK_live H with H | H
      · obtain ⟨xs, h', H⟩ := runG_live HL _ _ _ _ H
        exact go _ _ H
      · exact go _ _ H
    · exact H.elim
theorem stepD_live (HL : OracleLive C) {bef : List Nat} {o : Op} {i : Nat} {t : List Value} {h : St} {seen : List Seen} {past : List (Nat × Option St)} {k : Cont} (H : stepD P C bef o i t h seen past k) : ∃ v h', k v h' := by
  unfold stepD at H
  split at H
  · rw [evK_eq] at H; exact ⟨_, _, H⟩
  · split at H
    · split at H
      · obtain ⟨v, h', H⟩ := opE_live HL H
        exact ⟨v, h', H.2⟩
      · exact H.elim
    · split at H
      · cases hv : opV P o (evA P t) h with
        | none => rw [hv] at H; exact H.elim
        | some v => rw [hv] at H; exact ⟨_, _, H.2⟩
      · cases hv : opV P o (evA P t) h with
        | none => rw [hv] at H; exact H.elim
        | some v => rw [hv] at H; exact ⟨_, _, H⟩
theorem runD_live (HL : OracleLive C) {bef : List Nat} {J : List Value → St → Prop} : ∀ (l : List Oper) (i : Nat) (t : List Value) (h : St) (seen : List Seen) (past : List (Nat × Option St)) (acc : List Value), runD P C bef l i t h seen past acc J → ∃ xs h', J xs h'
  | [], _, _, _, _, _, _, H => ⟨_, _, H⟩
  | o :: l, i, t, h, seen, past, acc, H => by
    obtain ⟨v, h', H⟩ := stepD_live HL H
    exact runD_live HL l _ _ _ _ _ _ H
theorem regD_live (HL : OracleLive C) {ops : Array Oper} {bef : List Nat} {K : List Value → St → Prop} : ∀ (gs : List Group) (i : Nat) (t : List Value) (h : St) (seen : List Seen) (past : List (Nat × Option St)), regD P C idG ops bef gs i t h seen past K → ∃ t' h', K t' h'
  | [], _, _, _, _, _, H => ⟨_, _, H⟩
  | .one o :: r, i, t, h, seen, past, H => by
    obtain ⟨v, h', H⟩ := stepD_live HL H
    exact regD_live HL r _ _ _ _ _ H
  | .many j want l :: r, i, t, h, seen, past, H => by
    simp only [regD] at H
    split at H
    · have go : ∀ xs h' s p, idG (forceT (putsT xs l 0 t) fun t' => regD P C idG ops bef r (i + l.length) t' h' s p K) → ∃ t' h', K t' h' := fun xs h' s p q => by
        rw [idG_eq, forceT_eq] at q
        exact regD_live HL r _ _ _ _ _ q
      rcases guardK_live H with H | H
      · obtain ⟨xs, h', H⟩ := runD_live HL _ _ _ _ _ _ _ H
        exact go _ _ _ _ H
      · exact go _ _ _ _ H
    · exact H.elim
theorem runO_live (HL : OracleLive C) {ops : Array Oper} {bef : List Nat} {K : List Value → St → Prop} : ∀ (l : List Nat) (t : List Value) (h : St) (seen : List Seen) (past : List (Nat × Option St)), runO P C ops bef l t h seen past K → ∃ t' h', K t' h'
  | [], t, h, _, _, H => ⟨t, h, H⟩
  | i :: l, t, h, seen, past, H => by
    simp only [runO] at H
    split at H
    · split at H
      · obtain ⟨v, h', H⟩ := stepD_live HL H
        exact runO_live HL l _ _ _ _ H
      · exact H.elim
    · exact H.elim
theorem regS_live (HL : OracleLive C) {K : List Value → St → Prop} : ∀ (n : Nat) (ops : Array Oper) (order : List Nat) (t : List Value) (h : St), regS P C n ops order t h K → ∃ t' h', K t' h'
  | 0, _, _, _, _, H => H.elim
  | n + 1, ops, order, t, h, H => by
    simp only [regS] at H
    split at H
    · split at H
      · exact runO_live HL _ _ _ _ _ H
      · exact H.elim
    · split at H
      · exact H.elim
      · exact regS_live HL n _ _ _ _ H.1
theorem drawK_live (HL : OracleLive C) {ops : Array Oper} {t : List Value} {h : St} {K : List Value → St → Prop} (H : drawK P C idG ops t h K) : ∃ t' h', K t' h' := by
  unfold drawK at H
  split at H
  · exact regS_live HL _ _ _ _ _ H
  · exact regD_live HL _ _ _ _ _ _ H
def LoopLive (L : Looper) : Prop := ∀ c t h K, L c t h K → ∃ e t' h', K e t' h'
theorem codeK_live (HL : OracleLive C) {keep : List Bool} {L : Looper} (hL : LoopLive L) : ∀ (c : Code) (t : List Value) (h : St) (K : Kont), codeK P C idG keep L c t h K → ∃ e t' h', K e t' h'
  | .skip, t, h, K, H => ⟨_, _, _, H⟩
  | .region _ ops false, t, h, K, H => by
    obtain ⟨t', h', H⟩ := regK_live HL _ _ _ H
    exact ⟨_, _, _, H⟩
  | .region _ ops true, t, h, K, H => by
    simp only [codeK] at H
    split at H
    · obtain ⟨t', h', H⟩ := drawK_live HL H
      exact ⟨_, _, _, H⟩
    · exact H.elim
  | .seq a b, t, h, K, H => by
    obtain ⟨e, t', h', H⟩ := codeK_live HL hL a _ _ _ H
    cases e with
    | normal =>
      simp only [seqC, nextK] at H
      split at H
      · rw [forceT_eq] at H
        exact codeK_live HL hL b _ _ _ H
      · rw [idG_eq, forceT_eq] at H
        exact codeK_live HL hL b _ _ _ H
    | _ => exact ⟨_, _, _, H⟩
  | .cond c a b, t, h, K, H => by
    simp only [codeK, condK] at H
    split at H
    · exact codeK_live HL hL a _ _ _ H
    · exact codeK_live HL hL b _ _ _ H
    · exact H.elim
  | .block id c, t, h, K, H => by
    obtain ⟨e, t', h', H⟩ := codeK_live HL hL c _ _ _ H
    unfold blockC at H
    split at H
    · split at H
      · exact ⟨_, _, _, H⟩
      · exact ⟨_, _, _, H⟩
    · exact ⟨_, _, _, H⟩
  | .loop c, t, h, K, H => by
    simp only [codeK, idG_eq] at H
    exact hL _ _ _ _ H
  | .exit id, t, h, K, H => ⟨_, _, _, H⟩
  | .ret, t, h, K, H => ⟨_, _, _, H⟩
  | .label _, t, h, K, H => ⟨_, _, _, H⟩
theorem loopK_live (HL : OracleLive C) {keep : List Bool} : ∀ n, LoopLive (loopK P C idG keep n)
  | 0 => fun c t h K H => H.elim
  | n + 1 => fun c t h K H => by
    obtain ⟨e, t', h', H⟩ := codeK_live HL (loopK_live HL n) c t h _ H
    cases e with
    | normal =>
      simp only [loopC, idG_eq] at H
      exact loopK_live HL n _ _ _ _ H
    | _ => exact ⟨_, _, _, H⟩
theorem resultK_live {t : List Value} {h : St} {K : List Value → Prop} : ∀ (rs : List ResultVar) (acc : List Value), resultK P t h rs acc K → ∃ l, K l
  | [], _, H => ⟨_, H⟩
  | .tmp n :: r, acc, H => resultK_live r _ H
  | .cell a ty :: r, acc, H => by
    simp only [resultK] at H
    split at H
    · cases hv : loadV _ _ (getT t a) h with
      | none => rw [hv] at H; exact H.elim
      | some v => rw [hv] at H; exact resultK_live r _ H
    · exact H.elim
theorem funcK_live (HL : OracleLive C) {keep : List Bool} {n : Nat} {fn : Func} {args : List Value} {h : St} {K : Cont} (H : funcK P C idG keep n fn args h K) : ∃ v h', K v h' := by
  obtain ⟨e, t', h', H⟩ := codeK_live HL (loopK_live HL n) _ _ _ _ H
  unfold funcC at H
  split at H
  · obtain ⟨l, H⟩ := resultK_live _ _ H; exact ⟨_, _, H⟩
  · obtain ⟨l, H⟩ := resultK_live _ _ H; exact ⟨_, _, H⟩
  · exact H.elim
end
/-- A spec that holds, and of which something comes. -/
def SpecGood (P : Program) (p : FuncId × Spec) : Prop := SpecOk P p.1 p.2 ∧ SpecLive p.2
theorem spec_good {P : Program} (hm : P.follows .mixedOrders = true) {g : FuncId} {fn : Func} (hf : P.funcs[g]? = some fn) (hn : (fn.name == "runtime.NumGoroutine") = false) (hb : fn.body.isSome = true) {tab : List (FuncId × Spec)} (ht : ∀ p ∈ tab, SpecGood P p)
    {S : Spec} {keep : List Bool} (H : ∀ args h k, S args h k → ∃ n, funcK P (tabC tab) idG keep n fn args h fun v h1 => ∃ h2, St.le h2 h1 ∧ k v h2) : SpecGood P (g, S) := by
  refine ⟨specOk_wf hm hf hn hb (fun p hp => (ht p hp).1) (fun p hp => (ht p hp).2) (fun args h k _ hS => H args h k hS), fun args h k hS => ?_⟩
  obtain ⟨n, hk⟩ := H args h k hS
  obtain ⟨v, h', h2, _, hk⟩ := funcK_live (tabC_live fun p hp => (ht p hp).2) hk
  exact ⟨v, h2, hk⟩
end Go.Abs
