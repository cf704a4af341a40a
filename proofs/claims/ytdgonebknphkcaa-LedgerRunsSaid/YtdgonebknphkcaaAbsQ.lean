/- What the abstract machine does in a body, the machine does. -/
import Derived.Test.YtdgonebknphkcaaAbsP
import Derived.LoopN
set_option linter.unusedSimpArgs false
set_option linter.unusedVariables false
namespace Go.Abs
open Go.RowKit (Below)

section
variable {P : Program} {B : Nat} {w0 : World} {ρ0 : Rho} {C : Oracle}

/-- What is asked behind an abstract statement is asked behind the statement. -/
def KQ (P : Program) (B : Nat) (w0 : World) (ρ0 : Rho) (K : Kont) (Q : Exit → Act → World → Prop) : Prop :=
  ∀ e t h a w, K e t h → SRel P B w0 ρ0 t h a w → Q e a w
/-- The statements whose order Go leaves open. -/
def DrawOk (P : Program) (B : Nat) (w0 : World) (ρ0 : Rho) (C : Oracle) : Prop :=
  ∀ id ops t h a w K Q, KQ P B w0 ρ0 K Q → SRel P B w0 ρ0 t h a w → Region.lexB .any ops = true → drawK P C idG ops t h (K .normal) → (Code.region id ops true).wp P Q a w
def LoopOk (P : Program) (B : Nat) (w0 : World) (ρ0 : Rho) (keep : List Bool) (L : Looper) : Prop :=
  ∀ c t h a w K Q, KQ P B w0 ρ0 K Q → SRel P B w0 ρ0 t h a w → L c t h K → (Code.loop c).wp P Q a w

theorem SRel.mask {t : List Value} {h : St} {a : Act} {w : World} (S : SRel P B w0 ρ0 t h a w) (keep : List Bool) : SRel P B w0 ρ0 (maskT keep t) h a w := by
  obtain ⟨ρ, h1, h2, h3, h4⟩ := S
  exact ⟨ρ, h1, maskT_rel h2 keep, h3, h4⟩

theorem codeK_sound (HC : OracleOk P B w0 C) (HD : DrawOk P B w0 ρ0 C) {keep : List Bool} {L : Looper} (HL : LoopOk P B w0 ρ0 keep L) :
    ∀ (c : Code) (t : List Value) (h : St) (K : Kont) (Q : Exit → Act → World → Prop) (a : Act) (w : World), KQ P B w0 ρ0 K Q → SRel P B w0 ρ0 t h a w → codeK P C idG keep L c t h K → c.wp P Q a w := by
  intro c
  induction c with
  | skip => intro t h K Q a w hq S hk; exact wp_skip (hq _ _ _ _ _ hk S)
  | region id ops draw =>
    intro t h K Q a w hq S hk
    cases draw with
    | false =>
      obtain ⟨h1, h2⟩ := groupsOf_flat ops.toList
      refine wp_region_list ?_
      rw [← h1]
      exact regK_sound HC (fun t h a w hk S => hq _ _ _ _ _ hk S) _ t h a w h2 S hk
    | true =>
      simp only [codeK] at hk
      split at hk
      · rename_i hB; exact HD id ops t h a w K Q hq S hB hk
      · exact hk.elim
  | seq x y ihx ihy =>
    intro t h K Q a w hq S hk
    refine wp_seq (ihx t h _ _ a w ?_ S hk)
    intro e t' h' a' w' hk' S'
    cases e <;> first
      | exact hq _ _ _ _ _ hk' S'
      | skip
    show y.wp P Q a' w'
    simp only [seqC, nextK] at hk'
    split at hk'
    · rw [forceT_eq] at hk'
      exact ihy _ _ _ _ _ _ hq S' hk'
    · simp only [idG, forceT_eq] at hk'
      exact ihy _ _ _ _ _ _ hq (S'.mask keep) hk'
  | cond c x y ihx ihy =>
    intro t h K Q a w hq S hk
    obtain ⟨ρ, h1, h2, h3, h4⟩ := id S
    have he := evA_rel h3 h2 c
    simp only [codeK, condK] at hk
    split at hk
    · rename_i hv; rw [hv] at he
      exact wp_cond_true he.bool_inv (ihx _ _ _ _ _ _ hq S hk)
    · rename_i hv; rw [hv] at he
      exact wp_cond_false he.bool_inv (ihy _ _ _ _ _ _ hq S hk)
    · exact hk.elim
  | block id c ih =>
    intro t h K Q a w hq S hk
    refine wp_block (ih t h _ _ a w ?_ S hk)
    intro e t' h' a' w' hk' S'
    cases e with
    | exit j =>
      simp only [blockC] at hk'
      simp only [Exit.inBlock]
      split at hk'
      · rename_i hj
        rw [if_pos (Nat.eq_of_beq_eq_true hj)]
        exact hq _ _ _ _ _ hk' S'
      · rename_i hj
        rw [if_neg (Nat.ne_of_beq_eq_false hj)]
        exact hq _ _ _ _ _ hk' S'
    | _ => exact hq _ _ _ _ _ hk' S'
  | loop c ih =>
    intro t h K Q a w hq S hk
    exact HL c _ h a w K Q hq (S.mask keep) hk
  | exit id => intro t h K Q a w hq S hk; exact wp_exit (hq _ _ _ _ _ hk S)
  | label l => intro t h K Q a w hq S hk; exact wp_label (hq _ _ _ _ _ hk S)
  | ret => intro t h K Q a w hq S hk; exact wp_ret (hq _ _ _ _ _ hk S)
  | rangeFunc => intro t h K Q a w hq S hk; exact hk.elim
  | scope => intro t h K Q a w hq S hk; exact hk.elim
  | goto => intro t h K Q a w hq S hk; exact hk.elim
  | refuse => intro t h K Q a w hq S hk; exact hk.elim

theorem loopK_rounds (HC : OracleOk P B w0 C) (HD : DrawOk P B w0 ρ0 C) {keep : List Bool} : ∀ (n : Nat) (c : Code) (t : List Value) (h : St) (a : Act) (w : World) (K : Kont) (Q : Exit → Act → World → Prop),
    KQ P B w0 ρ0 K Q → SRel P B w0 ρ0 t h a w → loopK P C idG keep n c t h K → Code.rounds P c Q n a w
  | 0, c, t, h, a, w, K, Q, _, _, hk => hk.elim
  | n + 1, c, t, h, a, w, K, Q, hq, S, hk => by
    rw [rounds_succ]
    have HL : LoopOk P B w0 ρ0 keep (loopK P C idG keep n) := fun c t h a w K Q hq S hk => wp_loop_rounds n (loopK_rounds HC HD n c t h a w K Q hq S hk)
    refine codeK_sound HC HD HL c t h _ _ a w ?_ S hk
    intro e t' h' a' w' hk' S'
    cases e with
    | normal =>
      simp only [loopC, idG] at hk'
      exact loopK_rounds HC HD n c _ h' a' w' K Q hq (S'.mask keep) hk'
    | _ => exact hq _ _ _ _ _ hk' (S'.mask keep)
theorem loopK_ok (HC : OracleOk P B w0 C) (HD : DrawOk P B w0 ρ0 C) (keep : List Bool) (n : Nat) : LoopOk P B w0 ρ0 keep (loopK P C idG keep n) :=
  fun c t h a w K Q hq S hk => wp_loop_rounds n (loopK_rounds HC HD n c t h a w K Q hq S hk)

/-! ### a function -/
def resF (tmps : Array Value) : ResultVar → Sem Value
  | .tmp t => pure (tmps.getD t undef)
  | .cell b t => do loadVar t (← asAddr (tmps.getD b undef))
theorem results_eq (fn : Func) (tmps : Array Value) : results fn tmps = (do
    let vs ← fn.results.mapM (resF tmps)
    pure (if h : vs.size = 1 then vs[0] else .tuple vs)) := by
  unfold results
  congr 1
theorem resultK_sound {ρ : Rho} {t : List Value} {h : St} {a : Act} {w : World} (hr : LRel ρ t a.tmps.toList) (H : HRel P B w0 ρ h w) {J : List Value → Prop} {f : ResultVar → Sem Value}
    (f1 : ∀ n, f (.tmp n) = pure (a.tmps.getD n undef)) (f2 : ∀ b t, f (.cell b t) = do loadVar t (← asAddr (a.tmps.getD b undef))) :
    ∀ (rs : List ResultVar) (acc : List Value), resultK P t h rs acc J → ∃ vs vs', J (acc ++ vs) ∧ (rs.mapM f).run P w = .ok vs' w ∧ LRel ρ vs vs'
  | [], acc, hk => ⟨[], [], by simpa [resultK] using hk, by simp, .nil⟩
  | .tmp n :: r, acc, hk => by
    obtain ⟨vs, vs', h1, h2, h3⟩ := resultK_sound hr H f1 f2 r _ hk
    refine ⟨getT t n :: vs, a.tmps.getD n undef :: vs', by simpa using h1, ?_, .cons ?_ h3⟩
    · simp only [List.mapM_cons, f1, Sem.run_bind, Sem.run_pure, Result.andThen, h2]
    · have := getT_rel hr n
      have e : a.tmps.toList.getD n Go.undef = a.tmps.getD n Go.undef := by simp [List.getD, Array.getD_eq_getD_getElem?]
      rwa [e] at this
  | .cell b ty :: r, acc, hk => by
    simp only [resultK] at hk
    split at hk
    · rename_i g i hg hi
      cases hv : loadV g i.size (getT t b) h with
      | none => rw [hv] at hk; exact hk.elim
      | some v =>
        rw [hv] at hk
        obtain ⟨vs, vs', h1, h2, h3⟩ := resultK_sound hr H f1 f2 r _ hk
        have hb := getT_rel hr b
        have e : a.tmps.toList.getD b Go.undef = a.tmps.getD b Go.undef := by simp [List.getD, Array.getD_eq_getD_getElem?]
        rw [e] at hb
        obtain ⟨v', q1, q2⟩ := loadV_sound H hg hi hb hv
        refine ⟨v :: vs, v' :: vs', by simpa using h1, ?_, .cons q2 h3⟩
        have q3 : (do loadVar ty (← asAddr (a.tmps.getD b undef)) : Sem Value).run P w = .ok v' w := by
          rw [← q1]
          clear e q1
          generalize a.tmps.getD b Go.undef = x at hb ⊢
          unfold loadV at hv
          split at hv
          · rename_i id off hp
            rw [hp] at hb
            cases hb with
            | lit _ e => simp [lit1] at e
            | ptr => rename_i e3; simp_all [Instr.loadAt, Instr.sureAddr, asAddr]
          · cases hv
        rw [← f2] at q3
        simp only [List.mapM_cons, Sem.run_bind, q3, Result.andThen, h2, Sem.run_pure]
    · exact hk.elim
theorem packL_rel {ρ : Rho} {vs vs' : List Value} (h : LRel ρ vs vs') : VRel ρ (packL vs) (if h : vs'.toArray.size = 1 then vs'.toArray[0] else .tuple vs'.toArray) := by
  cases h with
  | nil => exact VRel.undef ρ
  | cons h1 t =>
    cases t with
    | nil => simpa [packL] using h1
    | cons h2 t =>
      rw [dif_neg (by simp)]
      exact VRel.tupleL (by simpa using LRel.cons h1 (.cons h2 t))
theorem funcK_sound {ρ : Rho} (HC : OracleOk P B w0 C) (HD : DrawOk P B w0 ρ C) {g : FuncId} {fn : Func} (hf : P.funcs[g]? = some fn) (hb : fn.body ≠ none) {keep : List Bool} {n : Nat} {args : List Value} {args' : Array Value} {h : St} {w : World} {K : Cont}
    (H : HRel P B w0 ρ h w) (ha : LRel ρ args args'.toList) (hk : funcK P C idG keep n fn args h fun v h1 => ∃ h2, St.le h2 h1 ∧ K v h2) :
    Calls P g args' w fun e w' => ∃ v v' h' ρ', e = .returned v' ∧ K v h' ∧ ρ.le ρ' ∧ HRel P B w0 ρ' h' w' ∧ VRel ρ' v v' := by
  cases hc : fn.body with
  | none => exact absurd hc hb
  | some c =>
    refine calls_of_wp hf hc ?_
    have hbody : bodyOf fn = c := by simp [bodyOf, hc]
    unfold funcK at hk
    rw [hbody] at hk
    refine codeK_sound (ρ0 := ρ) HC HD (loopK_ok HC HD keep n) c _ h _ _ _ w ?_ ⟨ρ, Rho.le.refl ρ, ?_, H, rfl⟩ hk
    · intro e t' h' a' w' hk' S'
      obtain ⟨ρ', h1, h2, h3, h4⟩ := S'
      have fin : resultK P t' h' fn.results.toList [] (fun l => ∃ h2, St.le h2 h' ∧ K (packL l) h2) →
          a'.defers = [] ∧ ∃ v, (results fn a'.tmps).run P w' = .ok v w' ∧ ∃ u v' hh ρ2, Ending.returned v = .returned v' ∧ K u hh ∧ ρ.le ρ2 ∧ HRel P B w0 ρ2 hh w' ∧ VRel ρ2 u v' := by
        intro hk'
        rw [results_eq, Array.mapM_eq_mapM_toList]
        obtain ⟨vs, vs', ⟨hh, q1, q2⟩, q3, q4⟩ := resultK_sound h2 h3 (f := resF a'.tmps) (fun n => rfl) (fun b t => rfl) _ _ hk'
        refine ⟨h4, _, ?_, packL ([] ++ vs), _, hh, ρ', rfl, q2, h1, h3.weaken q1, packL_rel q4⟩
        simp only [Sem.run_bind, Sem.run_map, q3, Result.andThen, Sem.run_pure]
      cases e with
      | normal => exact fin hk'
      | ret => exact fin hk'
      | _ => exact hk'.elim
    · have hl := ha.length
      simp only [padL, Array.toList_append, Array.toList_replicate]
      have : args.length = args'.size := by simpa using hl
      rw [this]
      refine ha.append ?_
      generalize fn.ntmps - args'.size = m
      induction m with
      | zero => exact .nil
      | succ m ih => exact .cons (VRel.undef ρ) ih
end
end Go.Abs
