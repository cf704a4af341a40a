/- Something comes of every evaluation: a spec that holds is live. -/
import Derived.Test.YtdgonebknphkcaaAbsKit
set_option linter.unusedSimpArgs false
set_option linter.unusedVariables false
namespace Go.Abs
section
variable {P : Program} {C : Oracle}

theorem stepK_live (HL : OracleLive C) {o : Op} {t : List Value} {h : St} {k : Cont} (H : stepK P C o t h k) : ∃ v h', k v h' := by
  unfold stepK at H
  split at H
  · rw [evK_eq] at H; exact ⟨_, _, H⟩
  · unfold opK at H
    split at H
    · exact opE_live HL H
    · cases hv : opV P o (evA P t) h with
      | none => rw [hv] at H; exact H.elim
      | some v => rw [hv] at H; exact ⟨_, _, H⟩
theorem runG_live (HL : OracleLive C) {J : List Value → St → Prop} : ∀ (l : List Oper) (t : List Value) (h : St) (acc : List Value), runG P C l t h acc J → ∃ xs h', J xs h'
  | [], _, _, _, H => ⟨_, _, H⟩
  | o :: l, t, h, acc, H => by
    obtain ⟨v, h', H⟩ := stepK_live HL H
    exact runG_live HL l _ _ _ H
theorem guardK_live {v : Value} {want : Bool} {yes no : Prop} (H : guardK v want yes no) : yes ∨ no := by
  rcases guardK_abs H with ⟨H, _⟩ | ⟨H, _⟩
  · exact .inl H
  · exact .inr H
theorem regK_live (HL : OracleLive C) {ops : Array Oper} {K : List Value → St → Prop} : ∀ (gs : List Group) (t : List Value) (h : St), regK P C idG ops gs t h K → ∃ t' h', K t' h'
  | [], _, _, H => ⟨_, _, H⟩
  | .one o :: r, t, h, H => by
    obtain ⟨v, h', H⟩ := stepK_live HL H
    rw [tidyT_eq] at H
    exact regK_live HL r _ _ H
  | .many j want l :: r, t, h, H => by
    simp only [regK] at H
    split at H
    · have go : ∀ xs h', idG (forceT (putsT xs l 0 t) fun t' => regK P C idG ops r t' h' K) → ∃ t' h', K t' h' := fun xs h' q => by
        rw [idG_eq, forceT_eq] at q
        exact regK_live HL r _ _ q
      rcases guardK_live H with H | H
      · obtain ⟨xs, h', H⟩ := runG_live HL _ _ _ _ H
        exact go _ _ H
      · exact go _ _ H
    · exact H.elim
theorem stepD_live (HL : OracleLive C) {bef : List Nat} {o : Op} {i : Nat} {t : List Value} {h : St} {seen : List Seen} {past : List (Nat × Option St)} {k : Cont} (H : stepD P C bef o i t h seen past k) : ∃ v h', k v h' := by
  unfold stepD at H
  split at H
  · rw [evK_eq] at H; exact ⟨_, _, H⟩
  · split at H
    · split at H
      · obtain ⟨v, h', H⟩ := opE_live HL H
        exact ⟨v, h', H.2⟩
      · exact H.elim
    · split at H
      · cases hv : opV P o (evA P t) h with
        | none => rw [hv] at H; exact H.elim
        | some v => rw [hv] at H; exact ⟨_, _, H.2⟩
      · cases hv : opV P o (evA P t) h with
        | none => rw [hv] at H; exact H.elim
        | some v => rw [hv] at H; exact ⟨_, _, H⟩
theorem runD_live (HL : OracleLive C) {bef : List Nat} {J : List Value → St → Prop} : ∀ (l : List Oper) (i : Nat) (t : List Value) (h : St) (seen : List Seen) (past : List (Nat × Option St)) (acc : List Value), runD P C bef l i t h seen past acc J → ∃ xs h', J xs h'
  | [], _, _, _, _, _, _, H => ⟨_, _, H⟩
  | o :: l, i, t, h, seen, past, acc, H => by
    obtain ⟨v, h', H⟩ := stepD_live HL H
    exact runD_live HL l _ _ _ _ _ _ H
theorem regD_live (HL : OracleLive C) {ops : Array Oper} {bef : List Nat} {K : List Value → St → Prop} : ∀ (gs : List Group) (i : Nat) (t : List Value) (h : St) (seen : List Seen) (past : List (Nat × Option St)), regD P C idG ops bef gs i t h seen past K → ∃ t' h', K t' h'
  | [], _, _, _, _, _, H => ⟨_, _, H⟩
  | .one o :: r, i, t, h, seen, past, H => by
    obtain ⟨v, h', H⟩ := stepD_live HL H
    exact regD_live HL r _ _ _ _ _ H
  | .many j want l :: r, i, t, h, seen, past, H => by
    simp only [regD] at H
    split at H
    · have go : ∀ xs h' s p, idG (forceT (putsT xs l 0 t) fun t' => regD P C idG ops bef r (i + l.length) t' h' s p K) → ∃ t' h', K t' h' := fun xs h' s p q => by
        rw [idG_eq, forceT_eq] at q
        exact regD_live HL r _ _ _ _ _ q
      rcases guardK_live H with H | H
      · obtain ⟨xs, h', H⟩ := runD_live HL _ _ _ _ _ _ _ H
        exact go _ _ _ _ H
      · exact go _ _ _ _ H
    · exact H.elim
theorem runO_live (HL : OracleLive C) {ops : Array Oper} {bef : List Nat} {K : List Value → St → Prop} : ∀ (l : List Nat) (t : List Value) (h : St) (seen : List Seen) (past : List (Nat × Option St)), runO P C ops bef l t h seen past K → ∃ t' h', K t' h'
  | [], t, h, _, _, H => ⟨t, h, H⟩
  | i :: l, t, h, seen, past, H => by
    simp only [runO] at H
    split at H
    · split at H
      · obtain ⟨v, h', H⟩ := stepD_live HL H
        exact runO_live HL l _ _ _ _ H
      · exact H.elim
    · exact H.elim
theorem regS_live (HL : OracleLive C) {K : List Value → St → Prop} : ∀ (n : Nat) (ops : Array Oper) (order : List Nat) (t : List Value) (h : St), regS P C n ops order t h K → ∃ t' h', K t' h'
  | 0, _, _, _, _, H => H.elim
  | n + 1, ops, order, t, h, H => by
    simp only [regS] at H
    split at H
    · split at H
      · exact runO_live HL _ _ _ _ _ H
      · exact H.elim
    · split at H
      · exact H.elim
      · exact regS_live HL n _ _ _ _ H.1
theorem drawK_live (HL : OracleLive C) {ops : Array Oper} {t : List Value} {h : St} {K : List Value → St → Prop} (H : drawK P C idG ops t h K) : ∃ t' h', K t' h' := by
  unfold drawK at H
  split at H
  · exact regS_live HL _ _ _ _ _ H
  · exact regD_live HL _ _ _ _ _ _ H
def LoopLive (L : Looper) : Prop := ∀ c t h K, L c t h K → ∃ e t' h', K e t' h'
theorem codeK_live (HL : OracleLive C) {keep : List Bool} {L : Looper} (hL : LoopLive L) : ∀ (c : Code) (t : List Value) (h : St) (K : Kont), codeK P C idG keep L c t h K → ∃ e t' h', K e t' h'
  | .skip, t, h, K, H => ⟨_, _, _, H⟩
  | .region _ ops false, t, h, K, H => by
    obtain ⟨t', h', H⟩ := regK_live HL _ _ _ H
    exact ⟨_, _, _, H⟩
  | .region _ ops true, t, h, K, H => by
    simp only [codeK] at H
    split at H
    · obtain ⟨t', h', H⟩ := drawK_live HL H
      exact ⟨_, _, _, H⟩
    · exact H.elim
  | .seq a b, t, h, K, H => by
    obtain ⟨e, t', h', H⟩ := codeK_live HL hL a _ _ _ H
    cases e with
    | normal =>
      simp only [seqC, nextK] at H
      split at H
      · rw [forceT_eq] at H
        exact codeK_live HL hL b _ _ _ H
      · rw [idG_eq, forceT_eq] at H
        exact codeK_live HL hL b _ _ _ H
    | _ => exact ⟨_, _, _, H⟩
  | .cond c a b, t, h, K, H => by
    simp only [codeK, condK] at H
    split at H
    · exact codeK_live HL hL a _ _ _ H
    · exact codeK_live HL hL b _ _ _ H
    · exact H.elim
  | .block id c, t, h, K, H => by
    obtain ⟨e, t', h', H⟩ := codeK_live HL hL c _ _ _ H
    unfold blockC at H
    split at H
    · split at H
      · exact ⟨_, _, _, H⟩
      · exact ⟨_, _, _, H⟩
    · exact ⟨_, _, _, H⟩
  | .loop c, t, h, K, H => by
    simp only [codeK, idG_eq] at H
    exact hL _ _ _ _ H
  | .exit id, t, h, K, H => ⟨_, _, _, H⟩
  | .ret, t, h, K, H => ⟨_, _, _, H⟩
  | .label _, t, h, K, H => ⟨_, _, _, H⟩
theorem loopK_live (HL : OracleLive C) {keep : List Bool} : ∀ n, LoopLive (loopK P C idG keep n)
  | 0 => fun c t h K H => H.elim
  | n + 1 => fun c t h K H => by
    obtain ⟨e, t', h', H⟩ := codeK_live HL (loopK_live HL n) c t h _ H
    cases e with
    | normal =>
      simp only [loopC, idG_eq] at H
      exact loopK_live HL n _ _ _ _ H
    | _ => exact ⟨_, _, _, H⟩
theorem resultK_live {t : List Value} {h : St} {K : List Value → Prop} : ∀ (rs : List ResultVar) (acc : List Value), resultK P t h rs acc K → ∃ l, K l
  | [], _, H => ⟨_, H⟩
  | .tmp n :: r, acc, H => resultK_live r _ H
  | .cell a ty :: r, acc, H => by
    simp only [resultK] at H
    split at H
    · cases hv : loadV _ _ (getT t a) h with
      | none => rw [hv] at H; exact H.elim
      | some v => rw [hv] at H; exact resultK_live r _ H
    · exact H.elim
theorem funcK_live (HL : OracleLive C) {keep : List Bool} {n : Nat} {fn : Func} {args : List Value} {h : St} {K : Cont} (H : funcK P C idG keep n fn args h K) : ∃ v h', K v h' := by
  obtain ⟨e, t', h', H⟩ := codeK_live HL (loopK_live HL n) _ _ _ _ H
  unfold funcC at H
  split at H
  · obtain ⟨l, H⟩ := resultK_live _ _ H; exact ⟨_, _, H⟩
  · obtain ⟨l, H⟩ := resultK_live _ _ H; exact ⟨_, _, H⟩
  · exact H.elim
end
/-- A spec that holds, and of which something comes. -/
def SpecGood (P : Program) (p : FuncId × Spec) : Prop := SpecOk P p.1 p.2 ∧ SpecLive p.2
theorem spec_good {P : Program} (hm : P.follows .mixedOrders = true) {g : FuncId} {fn : Func} (hf : P.funcs[g]? = some fn) (hn : (fn.name == "runtime.NumGoroutine") = false) (hb : fn.body.isSome = true) {tab : List (FuncId × Spec)} (ht : ∀ p ∈ tab, SpecGood P p)
    {S : Spec} {keep : List Bool} (H : ∀ args h k, S args h k → ∃ n, funcK P (tabC tab) idG keep n fn args h fun v h1 => ∃ h2, St.le h2 h1 ∧ k v h2) : SpecGood P (g, S) := by
  refine ⟨specOk_wf hm hf hn hb (fun p hp => (ht p hp).1) (fun p hp => (ht p hp).2) (fun args h k _ hS => H args h k hS), fun args h k hS => ?_⟩
  obtain ⟨n, hk⟩ := H args h k hS
  obtain ⟨v, h', h2, _, hk⟩ := funcK_live (tabC_live fun p hp => (ht p hp).2) hk
  exact ⟨v, h2, hk⟩
/-! ### capacities -/
/-- What is known of a capacity is forgotten. -/
def forget : Value → Value
  | .slice (some ⟨q, off, some z⟩) n _ => .slice (some ⟨q, off, some z⟩) n 0
  | v => v
theorem VRel.forget {ρ : Rho} {v v' : Value} (h : VRel ρ v v') : VRel ρ (Abs.forget v) v' := by
  cases h with
  | owned i off n c cap z l h hn hc hl hk => exact .owned i off n 0 cap z l h hn hc hl (fun h => absurd rfl h)
  | empty a c b hk =>
    obtain ⟨q, off, z⟩ := a
    cases z with
    | none => exact .empty _ c b hk
    | some z => exact .empty _ 0 b (fun _ => by omega)
  | lit v h =>
    cases v <;> first | exact .lit _ h | skip
    rename_i a n c
    cases a with
    | none => exact .lit _ h
    | some a => simp [lit1] at h
  | unk => exact .unk _
  | ptr i off l h => exact .ptr i off l h
  | slice i off n c cap l h ho hn hc => exact .slice i off n c cap l h ho hn hc
  | map i l h => exact .map i l h
  | func fn a b a' b' ha hb h h' => exact .func fn a b a' b' ha hb h h'
  | iface t v v' h => exact .iface t v v' h
  | agg a a' ha h => exact .agg a a' ha h
  | tuple a a' ha h => exact .tuple a a' ha h
/-- The capacity of a slice of one's own, whatever it is, may be known. -/
theorem VRel.known {ρ : Rho} {q off z n : Nat} {v' : Value} (h : VRel ρ (.slice (some ⟨q, off, some z⟩) n 0) v') : ∃ c, n ≤ c ∧ c ≤ maxLen ∧ VRel ρ (.slice (some ⟨q, off, some z⟩) n (c + 1)) v' := by
  cases h with
  | lit _ e => simp [lit1] at e
  | owned _ _ _ _ cap _ l h hn hc hl hk => exact ⟨cap, hn, hc, .owned q off n (cap + 1) cap z l h hn hc hl (fun _ => rfl)⟩
  | empty a c b hk => exact ⟨0, Nat.le_refl _, Nat.zero_le _, .empty _ 1 b (fun _ => Nat.le_refl _)⟩
/-- A spec whose function asks for the capacity of its first argument. -/
theorem spec_good_cap {P : Program} (hm : P.follows .mixedOrders = true) {g : FuncId} {fn : Func} (hf : P.funcs[g]? = some fn) (hn : (fn.name == "runtime.NumGoroutine") = false) (hb : fn.body.isSome = true) {tab : List (FuncId × Spec)} (ht : ∀ p ∈ tab, SpecGood P p)
    {S : Spec} {keep : List Bool} (H : ∀ args h k, S args h k → ∃ q off z n rest, args = .slice (some ⟨q, off, some z⟩) n 0 :: rest ∧
      ∀ c, n ≤ c → c ≤ maxLen → ∃ m, funcK P (tabC tab) idG keep m fn (.slice (some ⟨q, off, some z⟩) n (c + 1) :: rest) h fun v h1 => ∃ h2, St.le h2 h1 ∧ k (forget v) h2)
    (hle : ∀ args h k, S args h k → ∀ q off z n rest, args = .slice (some ⟨q, off, some z⟩) n 0 :: rest → n ≤ maxLen) : SpecGood P (g, S) := by
  have hn' : fn.name ≠ "runtime.NumGoroutine" := fun e => by rw [e] at hn; simp at hn
  have hb' : fn.body ≠ none := fun e => by rw [e] at hb; simp at hb
  refine ⟨fun args h k hS B w0 w ρ args' HR HL => ?_, fun args h k hS => ?_⟩
  · obtain ⟨q, off, z, n, rest, rfl, hk⟩ := H args h k hS
    have hh := HL
    cases ha : args'.toList with
    | nil => rw [ha] at hh; cases hh
    | cons v' rest' =>
      rw [ha] at hh
      cases hh with
      | cons h1 h2 =>
        obtain ⟨c, c1, c2, c3⟩ := h1.known
        obtain ⟨m, hm'⟩ := hk c c1 c2
        have HL2 : LRel ρ (.slice (some ⟨q, off, some z⟩) n (c + 1) :: rest) args'.toList := by rw [ha]; exact .cons c3 h2
        rw [run_call hf hn' hb']
        refine (funcK_sound (K := fun v h2 => k (forget v) h2) (tabC_ok B w0 fun p hp => (ht p hp).1) (drawOk hm (tabC_ok B w0 fun p hp => (ht p hp).1) (tabC_live fun p hp => (ht p hp).2)) hf hb' HR HL2 hm').mono ?_
        rintro e w' ⟨v, v', h', ρ', e1, e2, e3, e4, e5⟩
        exact ⟨forget v, v', h', ρ', e1, e2, e3, e4, e5.forget⟩
  · obtain ⟨q, off, z, n, rest, rfl, hk⟩ := H args h k hS
    obtain ⟨m, hm'⟩ := hk n (Nat.le_refl _) (hle _ h k hS q off z n rest rfl)
    obtain ⟨v, h', h2, _, hk2⟩ := funcK_live (tabC_live fun p hp => (ht p hp).2) hm'
    exact ⟨forget v, h2, hk2⟩
end Go.Abs
