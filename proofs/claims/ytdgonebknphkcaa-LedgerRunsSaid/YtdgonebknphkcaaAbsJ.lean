/- Every operation that leaves the heap alone, carried out. -/
import Derived.Test.YtdgonebknphkcaaAbsI
set_option linter.unusedSimpArgs false
set_option linter.unusedVariables false
namespace Go.Abs
open Go.RowKit (Below)

section
variable {P : Program} {B : Nat} {w0 w : World} {ρ : Rho} {h : St}

theorem eqGuard_run {op : BinOp} {t : TypeId} {x y : Operand} {a b : Value} (h1 : ¬ (a = .nilIface ∧ b = .nilIface)) (h2 : ∀ u v, a = .agg u → b = .agg v → P.eqGuardType P.depth t = false) (w : World) :
    (eqGuard op t x y a b).run P w = .ok () w := by
  unfold eqGuard
  cases op
  case eql | neq =>
    simp only [Bool.not_true, Bool.false_eq_true, if_false]
    split
    · exact absurd ⟨rfl, rfl⟩ h1
    · have := h2 _ _ rfl rfl
      simp [this, Result.andThen]
    · rfl
  all_goals rfl
/-- Values at which '==' goes by the type. -/
def byType : Value → Prop
  | .bool _ | .agg _ | .pointer _ | .map _ | .slice _ _ _ | .nilFunc | .func _ _ _ | .iface _ _ | .nilIface => True
  | _ => False
theorem run_eql {t : TypeId} {a b : Value} (ha : byType a) (w : World) : (Go.binOp .eql t a b).run P w = ((Op.equal t a b).run P w).andThen fun r w => .ok (.bool r) w := by
  cases a <;> first | exact ha.elim | (cases b <;> simp [Go.binOp])
theorem run_neq {t : TypeId} {a b : Value} (ha : byType a) (w : World) : (Go.binOp .neq t a b).run P w = ((Op.equal t a b).run P w).andThen fun r w => .ok (.bool (!r)) w := by
  cases a <;> first | exact ha.elim | (cases b <;> simp [Go.binOp])
theorem eqV_byType {s : Shp} {x y x' : Value} {b : Bool} (hx : VRel ρ x x') (hv : eqV s x y = some b) : byType x' ∧ ¬ (x = .nilIface ∧ y = .nilIface) ∧ (∀ u v, x = .agg u → y = .agg v → ∃ ks, s = .flat ks) ∧ x ≠ unk ∧ y ≠ unk := by
  unfold eqV at hv
  split at hv <;> first | (cases hv; done) | skip
  all_goals refine ⟨?_, ?_, ?_, ?_, ?_⟩
  all_goals first
    | (intro h; simp [unk] at h; done)
    | (rintro ⟨h1, h2⟩; simp at h1 h2; done)
    | (intro u v h1 h2; simp at h1; done)
    | (intro u v h1 h2; exact ⟨_, rfl⟩)
    | skip
  · rw [hx.bool_inv]; trivial
  · cases hx with | lit _ e => simp [lit1] at e | agg => trivial
  · obtain ⟨a, rfl, _⟩ := hx.ptr_inv; trivial
  · obtain ⟨a, rfl, _⟩ := hx.ptr_inv; trivial
  · obtain ⟨a, rfl, _⟩ := hx.map_inv; trivial
  · obtain ⟨a, rfl, _⟩ := hx.map_inv; trivial
  · rw [hx.nilSlice_inv]; trivial
  · obtain ⟨a, c, rfl, _⟩ := hx.slice_inv; trivial
  · rw [hx.nilFunc_inv]; trivial
  · rw [hx.nilFunc_inv]; trivial
  · obtain ⟨a, c, rfl⟩ := hx.func_inv; trivial
  · obtain ⟨a, rfl, _⟩ := hx.iface_inv; trivial
  · rw [hx.nilIface_inv]; trivial
theorem VRel.nilIface_back {x : Value} (hx : VRel ρ x .nilIface) (hu : x ≠ Abs.unk) : x = .nilIface := by
  cases hx with
  | unk => exact absurd rfl hu
  | lit => rfl
theorem VRel.agg_back {x : Value} {a' : Array Value} (hx : VRel ρ x (.agg a')) (hu : x ≠ Abs.unk) : ∃ a, x = .agg a := by
  cases hx with
  | unk => exact absurd rfl hu
  | lit _ e => simp [lit1] at e
  | agg a => exact ⟨a, rfl⟩
theorem binV_sound {b : BinOp} {t : TypeId} {xo yo : Operand} {x y x' y' v : Value} (hx : VRel ρ x x') (hy : VRel ρ y y') (hv : binV b (shapeOf P t) x y = some v) (w : World) :
    (do eqGuard b t xo yo x' y'; Go.binOp b t x' y' : Sem Value).run P w = .ok v w ∧ lit1 v = true := by
  unfold binV at hv
  split at hv
  · rename_i k a k' c
    obtain rfl := hx.int_inv; obtain rfl := hy.int_inv
    rw [Sem.run_bind, eqGuard_run (by simp) (by simp)]
    split at hv
    · exact shiftV_sound hv t w
    · rename_i hs
      split at hv
      · rename_i e; subst e; exact intV_sound hs hv t w
      · cases hv
  · rename_i a c
    obtain rfl := hx.string_inv; obtain rfl := hy.string_inv
    rw [Sem.run_bind, eqGuard_run (by simp) (by simp)]
    split at hv
    · cases hv
    · rename_i hs
      exact textV_sound hs hv t w
  · split at hv
    · simp only [Option.map_eq_some_iff] at hv
      obtain ⟨r, e, rfl⟩ := hv
      obtain ⟨h1, h2, h3, h4, h5⟩ := eqV_byType hx e
      rw [Sem.run_bind, eqGuard_run (fun ⟨g1, g2⟩ => h2 ⟨(g1 ▸ hx).nilIface_back h4, (g2 ▸ hy).nilIface_back h5⟩) ?_]
      · simp only [Result.andThen]
        rw [run_eql h1, eqV_sound hx hy e]
        exact ⟨rfl, rfl⟩
      · intro u v g1 g2
        obtain ⟨a, rfl⟩ := (g1 ▸ hx).agg_back h4
        obtain ⟨c, rfl⟩ := (g2 ▸ hy).agg_back h5
        obtain ⟨ks, hks⟩ := h3 _ _ rfl rfl
        have := shapeOf_spec (P := P) t
        rw [hks] at this
        exact this.2
    · simp only [Option.map_eq_some_iff] at hv
      obtain ⟨r, e, rfl⟩ := hv
      obtain ⟨h1, h2, h3, h4, h5⟩ := eqV_byType hx e
      rw [Sem.run_bind, eqGuard_run (fun ⟨g1, g2⟩ => h2 ⟨(g1 ▸ hx).nilIface_back h4, (g2 ▸ hy).nilIface_back h5⟩) ?_]
      · simp only [Result.andThen]
        rw [run_neq h1, eqV_sound hx hy e]
        exact ⟨rfl, rfl⟩
      · intro u v g1 g2
        obtain ⟨a, rfl⟩ := (g1 ▸ hx).agg_back h4
        obtain ⟨c, rfl⟩ := (g2 ▸ hy).agg_back h5
        obtain ⟨ks, hks⟩ := h3 _ _ rfl rfl
        have := shapeOf_spec (P := P) t
        rw [hks] at this
        exact this.2
    · cases hv
theorem binOpV_sound {b : BinOp} {t : TypeId} {xo yo : Operand} {x y x' y' v : Value} (hx : VRel ρ x x') (hy : VRel ρ y y') (hv : binOpV P b t (isConstO xo || isConstO yo) x y = some v) (w : World) :
    (do eqGuard b t xo yo x' y'; Go.binOp b t x' y' : Sem Value).run P w = .ok v w ∧ lit1 v = true := by
  unfold binOpV at hv
  split at hv
  · rename_i hc
    unfold binNil at hv
    have guard : ∀ b : BinOp, (eqGuard b t xo yo .nilIface .nilIface).run P w = .ok () w := by
      intro b
      unfold eqGuard
      cases b
      case eql | neq =>
        simp only [Bool.not_true, Bool.false_eq_true, if_false]
        cases xo <;> cases yo <;> first | rfl | (simp [isConstO] at hc)
      all_goals rfl
    split at hv
    · rename_i hsh
      cases hv
      obtain rfl := hx.nilIface_inv; obtain rfl := hy.nilIface_inv
      have hs := shapeOf_spec (P := P) t
      rw [hsh] at hs
      obtain ⟨m, hm⟩ := hs
      rw [Sem.run_bind, guard]
      simp only [Result.andThen]
      rw [run_eql (a := .nilIface) trivial]
      unfold Op.equal Op.maxDepth
      rw [(eq_iface 9999 hm 0 (.bool true) w).1]
      exact ⟨rfl, rfl⟩
    · rename_i hsh
      cases hv
      obtain rfl := hx.nilIface_inv; obtain rfl := hy.nilIface_inv
      have hs := shapeOf_spec (P := P) t
      rw [hsh] at hs
      obtain ⟨m, hm⟩ := hs
      rw [Sem.run_bind, guard]
      simp only [Result.andThen]
      rw [run_neq (a := .nilIface) trivial]
      unfold Op.equal Op.maxDepth
      rw [(eq_iface 9999 hm 0 (.bool true) w).1]
      exact ⟨rfl, rfl⟩
    · exact binV_sound hx hy hv w
  · exact binV_sound hx hy hv w

theorem LRel.map {f f' : Operand → Value} (hf : ∀ x, VRel ρ (f x) (f' x)) : ∀ l : List Operand, LRel ρ (l.map f) (l.map f')
  | [] => .nil
  | x :: l => .cons (hf x) (LRel.map hf l)
theorem VRel.mapA {f f' : Operand → Value} (hf : ∀ x, VRel ρ (f x) (f' x)) (a : Array Operand) : LRel ρ (a.map f).toList (a.map f').toList := by
  simpa using LRel.map hf a.toList

theorem back_toArray (l : List Nat) : l.toArray.back? = l.getLast? := by simp
theorem MRel.findBorn {es es' : List MapEntry} (hr : MRel ρ es es') (b : Nat) {e : MapEntry} (h : es.find? (fun e => e.born == b) = some e) : ∃ e', es'.find? (fun e => e.born == b) = some e' ∧ ERel ρ e e' := by
  induction hr with
  | nil => simp at h
  | @cons x x' l l' hh _ ih =>
    by_cases hb : (x.born == b) = true
    · have hb' : (x'.born == b) = true := by rw [← hh.2.1]; exact hb
      simp only [List.find?_cons, hb] at h
      cases h
      exact ⟨x', by simp only [List.find?_cons, hb'], hh⟩
    · have hb' : ¬ (x'.born == b) = true := by rw [← hh.2.1]; exact hb
      simp only [List.find?_cons, eq_false_of_ne_true hb] at h
      obtain ⟨e', h1, h2⟩ := ih h
      exact ⟨e', by simp only [List.find?_cons, eq_false_of_ne_true hb']; exact h1, h2⟩
theorem entryV_sound (H : HRel P B w0 ρ h w) {x x' v : Value} (hx : VRel ρ x x') (hv : entryV x h = some v) : ∃ v', (Instr.entry x').run P w = .ok v' w ∧ VRel ρ v v' := by
  unfold entryV at hv
  split at hv
  · rename_i i
    split at hv
    · rename_i r since seen stepped ho
      split at hv
      · rename_i b es clock hb hm
        split at hv
        · rename_i hc
          have hc := Nat.eq_of_beq_eq_true hc
          subst hc
          have : ∃ e, es.find? (fun e => e.born == b) = some e ∧ lit e.key = true ∧ v = .tuple #[e.key, e.val] := by
            split at hv
            · rename_i e he
              split at hv
              · rename_i hlit; cases hv; exact ⟨e, he, hlit, rfl⟩
              · cases hv
            · cases hv
          obtain ⟨e, he, hlit, rfl⟩ := this
          obtain ⟨li, hli, g1, g2, m', g3, g4⟩ := H.obj _ _ ho
          obtain ⟨lm, hlm, q1, q2, es', q3, q4⟩ := H.obj _ _ hm
          cases m' with
          | none => exact g4.elim
          | some bm =>
            obtain ⟨lr, h5, h6⟩ := g4
            have : lr = lm := by rw [hlm] at h5; exact (Option.some.inj h5).symm
            subst this
            subst h6
            obtain ⟨e', f1, f2⟩ := q4.findBorn b he
            have hkey : e.key = e'.key := f2.1
            cases hx with
            | lit _ e => simp [lit1] at e
            | ptr _ _ l' hl' =>
              have : l' = li := by rw [hli] at hl'; exact (Option.some.inj hl').symm
              subst this
              have hf : es'.find? (fun e => e.born == b) = some e' := by rw [← Array.find?_toList]; exact f1
              refine ⟨.tuple #[e'.key, e'.val], ?_, ?_⟩
              · simp only [Instr.entry, getObj, Sem.run_bind, Sem.run, g3, q3, Result.andThen, back_toArray, hb, bne_self_eq_false, Bool.false_eq_true, if_false, hf]
                rfl
              · refine .tupleL (l := [e.key, e.val]) (.cons ?_ (.cons f2.2.2 .nil))
                rw [← hkey]; exact VRel.of_lit hlit
        · cases hv
      · cases hv
    · cases hv
  · cases hv
theorem opV_sound (H : HRel P B w0 ρ h w) {ev ev' : Operand → Value} (hev : ∀ x, VRel ρ (ev x) (ev' x)) {o : Oper} {v : Value} (hv : opV P o.op ev h = some v) :
    ∃ v', (execOp ev' o).run P w = .ok (.value v') w ∧ VRel ρ v v' := by
  have val : ∀ {s : Sem Value} {u : Value}, s.run P w = .ok u w → (do pure (.value (← s)) : Sem Next).run P w = .ok (.value u) w := by
    intro s u hs
    simp [hs, Result.andThen]
  have lit : ∀ {s : Sem Value} {u : Value}, (s.run P w = .ok u w ∧ lit1 u = true) → ∃ v', (do pure (.value (← s)) : Sem Next).run P w = .ok (.value v') w ∧ VRel ρ u v' :=
    fun hs => ⟨_, val hs.1, .lit _ hs.2⟩
  have up : ∀ {s : Sem Value} {u : Value}, (∃ v', s.run P w = .ok v' w ∧ VRel ρ u v') → ∃ v', (do pure (.value (← s)) : Sem Next).run P w = .ok (.value v') w ∧ VRel ρ u v' :=
    fun ⟨v', h1, h2⟩ => ⟨v', val h1, h2⟩
  obtain ⟨dst, op, type, pos, after, guard⟩ := o
  simp only at hv
  unfold opV at hv
  cases op <;> simp only at hv <;> try (cases hv; done)
  case move x => cases hv; exact ⟨_, rfl, hev x⟩
  case assign x => cases hv; exact ⟨_, rfl, hev x⟩
  case pick c a b =>
    obtain ⟨t, h1, h2⟩ := pickV_sound (P := P) (hev c) (hev a) (hev b) hv w
    exact ⟨if t then ev' a else ev' b, by simp only [execOp, Sem.run_bind, h1, Result.andThen, Sem.run_pure], h2⟩
  case build t parts => exact up (buildOp_sound hev hv w)
  case load t a => exact up (loadOp_sound H (hev a) hv)
  case nilCheck x =>
    obtain ⟨rfl, h2⟩ := nilV_sound (hev x) hv
    refine ⟨ev' x, ?_, hev x⟩
    simp only [execOp]
    generalize ev' x = u at h2
    cases u with
    | pointer a => cases a <;> first | exact h2.elim | rfl
    | func fn a b => cases fn <;> first | exact h2.elim | rfl
    | nilFunc => exact h2.elim
    | nilIface => exact h2.elim
    | _ => rfl
  case binOp b t x y ty => exact lit (binOpV_sound (hev x) (hev y) hv w)
  case unOp u t x => exact lit (unV_sound (hev x) hv w)
  case convert s d x => exact lit (convV_sound H (hev x) hv)
  case makeInterface t x => exact up (ifaceOp_sound (hev x) hv w)
  case makeFunc fn first cap =>
    cases hv
    have h1 := VRel.mapA hev first
    have h2 := VRel.mapA hev cap
    exact ⟨_, rfl, .func _ _ _ _ _ (LRel.size h1) (LRel.size h2) (LRel.array h1) (LRel.array h2)⟩
  case slice t x lo hi mx =>
    cases mx with
    | some m =>
      simp only at hv
      unfold sliceOp3 at hv
      split at hv
      · rename_i e hu
        split at hv
        · rename_i i hi'
          obtain ⟨v', h1, h2⟩ := cutS3_sound hu hi' (hev x) (ORelO.map hev lo) (ORelO.map hev hi) (.some (hev m)) hv w
          exact ⟨v', by simp [execOp, Instr.sliceAt, run_underlying hu, h1, Result.andThen], h2⟩
        · cases hv
      · cases hv
    | none =>
      simp only at hv
      unfold sliceOp at hv
      split at hv
      · rename_i hu
        obtain ⟨v', h1, h2⟩ := cutT_sound hu (hev x) (ORelO.map hev lo) (ORelO.map hev hi) hv w
        exact ⟨v', by simp [execOp, Instr.sliceAt, run_underlying hu, h1, Result.andThen], h2⟩
      · rename_i e hu
        split at hv
        · rename_i i hi'
          obtain ⟨v', h1, h2⟩ := cutS_sound hu hi' (hev x) (ORelO.map hev lo) (ORelO.map hev hi) hv w
          exact ⟨v', by simp [execOp, Instr.sliceAt, run_underlying hu, h1, Result.andThen], h2⟩
        · cases hv
      · cases hv
  case fieldAddr s x f => exact up (fieldAddrOp_sound (hev x) hv w)
  case field s x f => exact up (fieldOp_sound (hev x) hv w)
  case indexAddr t x i => exact up (indexAddrOp_sound (hev x) (hev i) hv w)
  case index t x i => exact up (indexOp_sound (hev x) (hev i) hv w)
  case lookup t m k ok => exact up (lookupOp_sound H (hev m) (hev k) hv)
  case extract x i => exact up (extV_sound (hev x) hv w)
  case typeAssert x s t ok => exact up (assertOp_sound (hev x) hv w)
  case entry x => exact up (entryV_sound H (hev x) hv)
  case call c =>
    unfold callV at hv
    split at hv
    · rename_i b hb
      unfold builtinV at hv
      have hargs := VRel.mapA hev c.args
      have run : ∀ {s : Sem Value} {u : Value}, (∀ cs, Go.builtin b c.argTypes type cs (c.args.map ev') = (do pure (.value (← s)) : Sem Next)) → (s.run P w = .ok u w ∧ lit1 u = true) →
          ∃ v', (execOp ev' ⟨dst, .call c, type, pos, after, guard⟩).run P w = .ok (.value v') w ∧ VRel ρ u v' := by
        intro s u h1 h2
        refine ⟨u, ?_, .lit _ h2.2⟩
        simp only [execOp, resolve, hb, Sem.run_bind, Sem.run_pure, Result.andThen, invoke]
        rw [h1]
        exact val h2.1
      split at hv
      · split at hv
        · rename_i t _ x _ e1 e2
          refine run (s := Builtin.len_ c.argTypes type (c.args.map ev')) (fun _ => rfl) ?_
          have hx : (c.args.map ev')[0]? = (c.args[0]?).map ev' := by simp
          have ht : c.argTypes[0]? = some t := by rw [← Array.getElem?_toList, e1]; rfl
          have hl : (c.args.toList.map ev)[0]? = some x := by rw [e2]; rfl
          simp only [List.getElem?_map, Option.map_eq_some_iff, Array.getElem?_toList] at hl
          obtain ⟨ox, g1, rfl⟩ := hl
          exact lenOp_sound H ht (by rw [hx, g1]; rfl) (hev ox) hv
        · cases hv
      · refine run (s := Builtin.min_ c.argTypes type (c.args.map ev')) (fun _ => rfl) (minV_sound (by simpa using hargs) hv _ _ w)
      · refine run (s := Builtin.max_ c.argTypes type (c.args.map ev')) (fun _ => rfl) (maxV_sound (by simpa using hargs) hv _ _ w)
      · split at hv
        · rename_i t _ x _ e1 e2
          refine run (s := Builtin.cap_ c.argTypes type (c.args.map ev')) (fun _ => rfl) ?_
          have hx : (c.args.map ev')[0]? = (c.args[0]?).map ev' := by simp
          have ht : c.argTypes[0]? = some t := by rw [← Array.getElem?_toList, e1]; rfl
          have hl : (c.args.toList.map ev)[0]? = some x := by rw [e2]; rfl
          simp only [List.getElem?_map, Option.map_eq_some_iff, Array.getElem?_toList] at hl
          obtain ⟨ox, g1, rfl⟩ := hl
          exact capOp_sound ht (by rw [hx, g1]; rfl) (hev ox) hv w
        · cases hv
      · cases hv
    · cases hv
end
end Go.Abs
