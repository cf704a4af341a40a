/- slices.Sorted(maps.Keys(m)) over the abstract heap. -/
import Derived.Test.YtdgonebknphkcaaSeqA
import Derived.Test.YtdgonebknphkcaaSrt
import Derived.Test.YtdgonebknphkcaaAbsMap3
import Derived.Test.YtdgonebknphkcaaGenQ
set_option linter.unusedSimpArgs false
set_option linter.unusedVariables false
set_option maxHeartbeats 1000000
namespace Go.Abs
open Go.RowKit (Below)
theorem HRel.adopt {P : Program} {B : Nat} {w0 w w' : World} {ρ : Rho} {h : St} (H : HRel P B w0 ρ h w) (hb : Below w.heap.size w w') (o : AObj) (l : Loc) (hg : w.heap.size ≤ l.blk)
    (ho : ORel (ρ.push h.next l) B o l w') : HRel P B w0 (ρ.push h.next l) (h.push o) w' := by
  have hle := H.fresh l
  have hsz := H.size
  refine ⟨H.below.trans (hb.mono hsz), H.base, H.globs, ?_, ?_, ?_, ?_⟩
  · intro g hg
    obtain ⟨lg, h1, h2⟩ := H.old g hg
    exact ⟨lg, hle _ _ h1, h2⟩
  · intro i l' hi
    simp only [Rho.push] at hi
    show i < h.next + 1
    split at hi
    · omega
    · have := H.dom i l' hi; omega
  · intro i o' hi
    simp only [St.push] at hi
    split at hi
    · rename_i e; subst e
      cases hi
      exact ⟨l, by simp [Rho.push], ho⟩
    · obtain ⟨l', h1, h2⟩ := H.obj i o' hi
      exact ⟨l', hle _ _ h1, h2.keep hle (hb.block l'.blk h2.lt)⟩
  · intro i j o1 o2 li lj h1 h2 h3 h4 h5 h6
    simp only [St.push] at h1 h2
    have key : ∀ k o', h.objs k = some o' → ∀ lk, (ρ.push h.next l) k = some lk → lk.blk < w.heap.size := by
      intro k o' hk lk hlk
      obtain ⟨l', e1, e2⟩ := H.obj k o' hk
      have : lk = l' := by have := hle _ _ e1; rw [this] at hlk; exact (Option.some.inj hlk).symm
      subst this
      exact e2.lt
    have top : ∀ lk, (ρ.push h.next l) h.next = some lk → lk = l := by intro lk hlk; simp [Rho.push] at hlk; exact hlk.symm
    split at h1
    · rename_i e; subst e
      have := top li h3; subst this
      split at h2
      · rename_i e; exact e.symm
      · have := key j o2 h2 lj h4; omega
    · split at h2
      · rename_i e; subst e
        have := top lj h4; subst this
        have := key i o1 h1 li h3; omega
      · obtain ⟨l1, e1, _⟩ := H.obj i o1 h1
        obtain ⟨l2, e2, _⟩ := H.obj j o2 h2
        have a1 := hle _ _ e1; rw [a1] at h3; cases h3
        have a2 := hle _ _ e2; rw [a2] at h4; cases h4
        exact H.sep i j o1 o2 _ _ h1 h2 e1 e2 h5 h6
theorem HRel.later {P : Program} {B : Nat} {w0 w w' : World} {ρ : Rho} {h : St} (H : HRel P B w0 ρ h w) (hb : Below w.heap.size w w') : HRel P B w0 ρ h w' :=
  ⟨H.below.trans (hb.mono H.size), H.base, H.globs, H.old, H.dom, fun i o ho => by
    obtain ⟨l, h1, h2⟩ := H.obj i o ho
    exact ⟨l, h1, h2.keep (Rho.le.refl ρ) (hb.block l.blk h2.lt)⟩, H.sep⟩
end Go.Abs
namespace Go.Proofs.Ytdgonebknphkcaa
open Go.Abs Go.IntWalk

def clK : FuncId := 28
/-- What is asked of a map: whole numbers as keys, each once; born one behind the other. -/
structure IntMap (es : List MapEntry) (c : Nat) (xs : List Int) : Prop where
  keys : es.map (·.key) = xs.map (Value.int .u64)
  wf : ∀ x ∈ xs, (Lit.int .u64 x).wf = true
  nd : xs.Nodup
  born : (es.map (·.born)).Nodup
  old : ∀ e ∈ es, e.born < c
  few : es.length ≤ 100000
theorem mrel_born {ρ : Rho} {l l' : List MapEntry} (h : MRel ρ l l') : l'.map (·.born) = l.map (·.born) ∧ l'.map (·.key) = l.map (·.key) := by
  induction h with
  | nil => exact ⟨rfl, rfl⟩
  | cons h _ ih => exact ⟨by rw [List.map_cons, List.map_cons, ih.1, h.2.1], by rw [List.map_cons, List.map_cons, ih.2, h.1]⟩
abbrev RT : Value → Option (DataW Unit × List MemPlace) := fun _ => some (.lit (.bool true), [])
open Go.RowKit Go.Maps Go.Sort Go.Shelf in
/-- Such a map, in memory, as the kit's laws tell it. -/
theorem owns_of {W : World} {b c : Nat} {es : List MapEntry} {xs : List Int} {es' : Array MapEntry} {ρ : Rho} (hb : W.heap[b]? = some (.map es' c)) (hm : MRel ρ es es'.toList) (im : IntMap es c xs) :
    ∃ D0 : DataW Unit, W.ownsMap Try.prog 28 RT b es'.size D0 ∧ Maps.size D0 = es.length ∧ ∀ x, has D0 (.int .u64 x) = true ↔ x ∈ xs := by
  obtain ⟨m1, m2⟩ := mrel_born hm
  have m3 := hm.length
  have keyE : ∀ e ∈ es'.toList, ∃ x, x ∈ xs ∧ e.key = .int .u64 x := fun e he => by
    have : e.key ∈ es'.toList.map (·.key) := List.mem_map_of_mem he
    rw [m2, im.keys] at this
    obtain ⟨x, hx, e⟩ := List.mem_map.1 this
    exact ⟨x, hx, e.symm⟩
  have rdE : ∀ e ∈ es'.toList, ∀ x, e.key = .int .u64 x → x ∈ xs → WideElems.rd Try.prog 28 RT e = some (.int .u64 x, .lit (.bool true)) := fun e he x hx hm => by
    obtain ⟨k, v, bn⟩ := e
    simp only at hx
    subst hx
    exact WideElems.rd_mk (R := RT) (yv := (.lit (.bool true), [])) (Maps.keyOf_int_mk Try.underlying28 (im.wf x hm)) rfl
  refine ⟨.map ((es'.toList.map (WideElems.rg Try.prog 28 RT)).foldr DataW.insert []), ⟨es', c, hb, ⟨by have := im.few; rw [← Array.length_toList, ← m3]; unfold maxLen; omega, ⟨fun x hx => ?_, ?_, ?_⟩, fun x hx => ?_⟩, Nat.le_refl _, rfl⟩, ?_, fun x => ?_⟩
  · have : x.born ∈ es'.toList.map (·.born) := List.mem_map_of_mem hx
    rw [m1] at this
    obtain ⟨e, he, eb⟩ := List.mem_map.1 this
    rw [← eb]; exact im.old e he
  · rw [m1]; exact im.born
  · rw [m2, im.keys]
    refine List.Pairwise.map _ (fun a b h e => h ?_) im.nd
    cases e; rfl
  · obtain ⟨y, hy, ek⟩ := keyE x hx
    exact ⟨_, rdE x hx y ek hy⟩
  · rw [Maps.size_eq, (Go.WideShapes.sorted_perm _).length_eq, List.length_map, m3]
  · rw [has_eq, List.any_eq_true]
    constructor
    · rintro ⟨p, hp, hs⟩
      obtain ⟨e, he, rfl⟩ := List.mem_map.1 (mem_sorted.1 hp)
      obtain ⟨y, hy, ek⟩ := keyE e he
      rw [WideElems.rg_of (rdE e he y ek hy)] at hs
      have : y = x := by simpa [Lit.sameKey] using hs
      rw [← this]; exact hy
    · intro hx
      have : Value.int .u64 x ∈ es'.toList.map (·.key) := by rw [m2, im.keys]; exact List.mem_map_of_mem hx
      obtain ⟨e, he, ek⟩ := List.mem_map.1 this
      refine ⟨_, mem_sorted.2 (List.mem_map_of_mem he), ?_⟩
      rw [WideElems.rg_of (rdE e he x ek hx)]
      simp [Lit.sameKey]
open Go.RowKit Go.Maps Go.Sort Go.Shelf in
/-- What slices.AppendSeq answers, at a map's keys. -/
theorem app_calls {W : World} {b c Bm : Nat} {es : List MapEntry} {xs : List Int} {es' : Array MapEntry} {ρ : Rho} (hb : W.heap[b]? = some (.map es' c)) (hm : MRel ρ es es'.toList) (im : IntMap es c xs) (hBm : Bm < W.heap.size) (hc : W.cell? ⟨Bm, 0, none⟩ = some (.map (some b))) :
    Calls Try.prog 29 #[.slice none 0 0, .func (.func 28) #[] #[.pointer (some ⟨Bm, 0, none⟩)]] W fun e w' => ∃ (v : Value) (ss : List Int), e = .returned v ∧ ss.Perm xs ∧ w'.ownsRow W.heap.size 28 1 v ss.length (ss.map encK) ∧ Below W.heap.size W w' := by
  obtain ⟨D0, own, sz, hh⟩ := owns_of hb hm im
  have few := im.few
  have := callsIn_wide.1 (appendSeq_in Fence.wide 5 trivial rfl (by omega) 28 #[.pointer (some ⟨Bm, 0, none⟩)] trivial (enters_of Try.func28 (by kernel_rfl) rfl) (KeysOfD D0) (Maps.size D0) (by rw [sz]; unfold maxLen; omega) (by rw [sz]; omega) W
    (keys_gives Fence.wide 4 trivial rfl (by omega) Bm b es'.size D0 W hBm hc own))
  refine this.mono ?_
  rintro e w' ⟨v, ss, rfl, ⟨h1, h2⟩, h3, _, h5⟩
  exact ⟨v, ss, rfl, (List.perm_ext_iff_of_nodup h1 im.nd).2 fun x => by rw [h2, hh], h3, h5⟩
/-! ### AppendSeq -/
def appO : Abs.Spec := fun args h k => ∃ (b m c : Nat) (own : Bool) (es : List MapEntry) (xs : List Int), args = [.slice none 0 0, .func (.func 28) #[] #[.pointer (some ⟨b, 0, none⟩)]] ∧ h.objs b = some (.cells [.map (some m)] own) ∧ h.objs m = some (.map es c) ∧ IntMap es c xs ∧
  ∀ h' v (ss : List Int), Chg h h' [] → OwnS (fun i => h.next ≤ i) h' v 1 (ss.map (Value.int .u64)) ss.length → ss.Perm xs → k v h'
theorem vrel_map {ρ : Rho} {m : Nat} {v : Value} (h : VRel ρ (.map (some m)) v) : ∃ l, ρ m = some l ∧ v = .map (some l.blk) := by
  cases h with
  | lit _ e => simp [lit1] at e
  | map _ l hl => exact ⟨l, hl, rfl⟩
theorem vrel_ptr {ρ : Rho} {i : Nat} {v : Value} (h : VRel ρ (.pointer (some ⟨i, 0, none⟩)) v) : ∃ l, ρ i = some l ∧ v = .pointer (some ⟨l.blk, 0, none⟩) := by
  cases h with
  | lit _ e => simp [lit1] at e
  | ptr _ _ l hl => exact ⟨l, hl, rfl⟩
theorem vrel_nil {ρ : Rho} {v : Value} (h : VRel ρ (.slice none 0 0) v) : v = .slice none 0 0 := by
  cases h with
  | lit _ e => rfl
theorem vrel_clo {ρ : Rho} {g : FuncId} {p v : Value} (h : VRel ρ (.func (.func g) #[] #[p]) v) : ∃ p', v = .func (.func g) #[] #[p'] ∧ VRel ρ p p' := by
  cases h with
  | lit _ e => simp [lit1] at e
  | func _ _ _ a' b' ha hb h h' =>
    have e1 : a' = #[] := Array.eq_empty_of_size_eq_zero ha.symm
    have e2 : b'.size = 1 := hb.symm
    refine ⟨b'[0], ?_, h' 0 (by simp) (by omega)⟩
    rw [e1]
    congr 1
    apply Array.ext
    · simp [e2]
    · intro i h1 h2
      have : i = 0 := by omega
      subst this; rfl
theorem ints_one (ss : List Int) : (ss.map (Value.int .u64)).all one = true := by
  rw [List.all_eq_true]
  intro v hv
  obtain ⟨x, _, rfl⟩ := List.mem_map.1 hv
  rfl
theorem ints_rel {ρ : Rho} : ∀ (ss : List Int), LRel ρ (ss.map (Value.int .u64)) (ss.map (Value.int .u64))
  | [] => .nil
  | x :: ss => .cons (.int ρ _ x) (ints_rel ss)
theorem appO_good : SpecGood Try.prog (29, appO) := by
  refine ⟨?_, ?_⟩
  · rintro args h k ⟨b, m, c, own, es, xs, rfl, ob, om, im, H⟩ B w0 w ρ args' HR HL
    obtain ⟨l1, hl1, r1⟩ := HR.obj _ _ ob
    obtain ⟨l2, hl2, r2⟩ := HR.obj _ _ om
    obtain ⟨_, _, arr, ty, fr, k1, _, s1, q1⟩ := id r1
    obtain ⟨_, _, es', k2, mr⟩ := id r2
    cases ha : args'.toList with
    | nil => rw [ha] at HL; cases HL
    | cons x1 t1 =>
      rw [ha] at HL
      cases HL with
      | cons v1 HL =>
        cases HL with
        | @cons _ x2 _ t2 v2 HL =>
          cases HL
          have hargs : args' = #[x1, x2] := Array.ext' (by simpa using ha)
          subst hargs
          obtain rfl := vrel_nil v1
          obtain ⟨p', rfl, vp⟩ := vrel_clo v2
          obtain ⟨lb, hlb, rfl⟩ := vrel_ptr vp
          rw [hl1] at hlb
          cases hlb
          have hcell : w.cell? ⟨l1.blk, 0, none⟩ = some (.map (some l2.blk)) := by
            obtain ⟨v', hv', vr⟩ := q1.get (i := 0) (v := .map (some m)) rfl
            obtain ⟨lm, hlm, rfl⟩ := vrel_map vr
            rw [hl2] at hlm
            cases hlm
            have : arr.toList[0]? = some (.map (some l2.blk)) := by
              rw [List.getElem?_take_of_lt (by simp)] at hv'
              exact hv'
            simp only [World.cell?, k1]
            simpa using this
          have hn : (Try.f29.name == "runtime.NumGoroutine") = false := by kernel_rfl
          have hb : Try.f29.body.isSome = true := by kernel_rfl
          rw [run_call Try.func29 (by simpa using hn) (fun e => by rw [e] at hb; cases hb)]
          refine (app_calls k2 mr im r1.lt hcell).mono ?_
          rintro e w' ⟨v, ss, rfl, pm, ⟨ln, row⟩, bel⟩
          rcases row with ⟨rfl, z⟩ | ⟨g, cap, cur, rfl, hg, kg, ncap, cmax, csz, ctk⟩
          · have : ss = [] := List.eq_nil_of_length_eq_zero z
            subst this
            exact ⟨_, _, h, ρ, rfl, H h _ [] (Chg.refl _ _) (.inl ⟨rfl, rfl, rfl⟩) pm, Rho.le.refl ρ, HR.later bel, .lit _ rfl⟩
          · have hle := HR.fresh ⟨g, cap, true⟩
            have hB : B ≤ g := Nat.le_trans HR.size hg
            rw [Nat.mul_one] at csz ctk
            refine ⟨.slice (some ⟨h.next, 0, some 1⟩) ss.length 0, _, h.push (.cells (ss.map (Value.int .u64)) true), ρ.push h.next ⟨g, cap, true⟩, rfl, H _ _ ss (Chg.push _ _) (.inr ⟨h.next, rfl, Nat.le_refl _, by simp, push_at _ _, by simp⟩) pm, hle, HR.adopt bel _ ⟨g, cap, true⟩ hg ?_, ?_⟩
            · refine ⟨rfl, fun _ => ⟨hB, ints_one ss⟩, cur, _, _, kg, fun _ => ⟨rfl, by show cap ≤ cur.size; omega⟩, by rw [List.length_map]; omega, ?_⟩
              rw [List.length_map, ctk]
              exact ints_rel ss
            · exact .owned h.next 0 ss.length 0 cap 1 ⟨g, cap, true⟩ (by simp [Rho.push]) ncap cmax (by simp) (fun hh => absurd rfl hh)
  · rintro args h k ⟨b, m, c, own, es, xs, rfl, ob, om, im, H⟩
    refine ⟨.slice (some ⟨h.next, 0, some 1⟩) xs.length 0, h.push (.cells (xs.map (Value.int .u64)) true), H _ _ xs (Chg.push _ _) (.inr ⟨h.next, rfl, Nat.le_refl _, by simp, push_at _ _, by simp⟩) (List.Perm.refl _)⟩
end Go.Proofs.Ytdgonebknphkcaa
