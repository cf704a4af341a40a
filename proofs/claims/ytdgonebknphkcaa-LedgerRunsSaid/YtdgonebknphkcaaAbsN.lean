/- What the abstract machine's append does, the machine does. -/
import Derived.Test.YtdgonebknphkcaaAbsM
import Derived.Deep.AppendSrc
import Derived.Deep.Upon
import Derived.Lib.AppendZeros
import Derived.Lib.AppendZerosOnto
set_option linter.unusedSimpArgs false
set_option linter.unusedVariables false
namespace Go.Abs
open Go.RowKit (Below)
section
variable {P : Program} {B : Nat} {w0 w : World} {ρ : Rho} {h : St}

/-- An object lives on under a new name; its old name is forgotten. -/
theorem HRel.move (H : HRel P B w0 ρ h w) {i : Nat} {o o' : AObj} {l : Loc} (hi : h.objs i = some o) (hl : ρ i = some l) (hown : l.own = true) (ho : ORel ρ B o' l w) :
    HRel P B w0 (ρ.push h.next l) ((h.kill i).push o') w := by
  have hle := H.fresh l
  have hobj : ∀ j q, ((h.kill i).push o').objs j = some q → (j = h.next ∧ q = o') ∨ (j ≠ h.next ∧ j ≠ i ∧ h.objs j = some q) := by
    intro j q hj
    have hj : (if j = h.next then some o' else if j = i then none else h.objs j) = some q := hj
    by_cases e : j = h.next
    · rw [if_pos e] at hj; exact .inl ⟨e, (Option.some.inj hj).symm⟩
    · rw [if_neg e] at hj
      by_cases e2 : j = i
      · rw [if_pos e2] at hj; cases hj
      · rw [if_neg e2] at hj; exact .inr ⟨e, e2, hj⟩
  have hat : ∀ j q, h.objs j = some q → ∀ lj, (ρ.push h.next l) j = some lj → ρ j = some lj := by
    intro j q hj lj hlj
    obtain ⟨l', e1, _⟩ := H.obj j q hj
    have := hle _ _ e1; rw [this] at hlj; cases hlj; exact e1
  have top : ∀ lk, (ρ.push h.next l) h.next = some lk → lk = l := by intro lk hlk; simp [Rho.push] at hlk; exact hlk.symm
  refine ⟨H.below, H.base, H.globs, ?_, ?_, ?_, ?_⟩
  · intro g hg
    obtain ⟨lg, h1, h2⟩ := H.old g hg
    exact ⟨lg, hle _ _ h1, h2⟩
  · intro j l' hj
    simp only [Rho.push] at hj
    show j < h.next + 1
    split at hj
    · omega
    · have := H.dom j l' hj; omega
  · intro j q hj
    rcases hobj j q hj with ⟨rfl, rfl⟩ | ⟨e1, e2, e3⟩
    · exact ⟨l, by simp [Rho.push], ho.keep hle rfl⟩
    · obtain ⟨l', h1, h2⟩ := H.obj j q e3
      exact ⟨l', hle _ _ h1, h2.keep hle rfl⟩
  · intro j k q q' lj lk h1 h2 h3 h4 h5 h6
    rcases hobj j q h1 with ⟨rfl, rfl⟩ | ⟨a1, a2, a3⟩
    · have := top lj h3; subst this
      rcases hobj k q' h2 with ⟨rfl, rfl⟩ | ⟨b1, b2, b3⟩
      · rfl
      · exact absurd (H.sep i k o q' lj lk hi b3 hl (hat k q' b3 lk h4) hown h6).symm b2
    · rcases hobj k q' h2 with ⟨rfl, rfl⟩ | ⟨b1, b2, b3⟩
      · have := top lk h4; subst this
        exact absurd (H.sep j i q o lj lk a3 hi (hat j q a3 lj h3) hl h5 h6) a2
      · exact H.sep j k q q' lj lk a3 b3 (hat j q a3 lj h3) (hat k q' b3 lk h4) h5 h6

theorem St.set_kill_push (h : St) (i : Nat) (o p : AObj) : ((h.set i o).kill i).push p = (h.kill i).push p := by
  unfold St.push
  congr 1
  funext j
  show (if j = h.next then some p else if j = i then none else if j = i then some o else h.objs j) = (if j = h.next then some p else if j = i then none else h.objs j)
  by_cases e : j = h.next
  · rw [if_pos e, if_pos e]
  · rw [if_neg e, if_neg e]
    by_cases e2 : j = i
    · rw [if_pos e2, if_pos e2]
    · rw [if_neg e2, if_neg e2, if_neg e2]
theorem newCells_src (H : HRel P B w0 ρ h w) {tx : TypeId} (hk : (∃ e', P.underlying tx = some (.slice e')) ∨ P.underlying tx = some .string) {size m : Nat} {x x' : Value} (hx : VRel ρ x x') {new : List Value}
    (hn : newCells size x h = some (new, m)) (hone : new.all one = true) : ∃ news, Src P size tx x' m news w ∧ LRel ρ new news := by
  have slc : ∀ (b : Addr) (c : Nat) (news : List Value), news.length = m * size → (∀ j u, news[j]? = some u → w.cell? (b.add j) = some u) → LRel ρ new news → Src P size tx (.slice (some b) m c) m news w := by
    intro b c news hl hc hr
    refine ⟨hk, fun _ => rfl, run_firstCells_some w size m b m c news hl hc, run_firstCells_some w.drew size m b m c news hl (by simpa using hc), hl, fun u hu => ?_⟩
    rw [one_oneCell]; exact List.all_eq_true.1 (hr.one hone) u hu
  unfold newCells at hn
  split at hn
  · cases hn
    have : x' = .slice none 0 0 := by cases hx; rfl
    subst this
    exact ⟨[], ⟨hk, fun _ => rfl, run_firstCells_none w size 0 0 0, run_firstCells_none w.drew size 0 0 0, by simp, fun _ h => by cases h⟩, .nil⟩
  · rename_i a n c
    split at hn
    · cases hn
      have : ∃ b c', x' = .slice (some b) 0 c' := by
        cases hx with
        | lit _ e => simp [lit1] at e
        | slice i off _ _ cap l => exact ⟨_, _, rfl⟩
        | owned i off _ _ cap z l => exact ⟨_, _, rfl⟩
        | empty => exact ⟨_, _, rfl⟩
      obtain ⟨b, c', rfl⟩ := this
      exact ⟨[], slc b c' [] (by simp) (by simp) .nil, .nil⟩
    · rename_i hne
      split at hn
      · rename_i cs own ho
        cases ht : takeN cs a.off (n * size) with
        | none => rw [ht] at hn; cases hn
        | some vs =>
          rw [ht] at hn
          cases hn
          obtain ⟨l, hl, hor⟩ := H.obj _ _ ho
          obtain ⟨vs', e1, e2, e3⟩ := hor.cells ht
          have : ∃ c', x' = .slice (some ⟨l.blk, a.off, none⟩) m c' := by
            cases hx with
            | lit _ e => simp [lit1] at e
            | slice i off n c cap l' hl' => rw [hl] at hl'; cases hl'; exact ⟨_, rfl⟩
            | owned i off n c cap z l' hl' => rw [hl] at hl'; cases hl'; exact ⟨_, rfl⟩
            | empty => exact absurd rfl hne
          obtain ⟨c', rfl⟩ := this
          exact ⟨vs', slc _ c' vs' e1 (fun j u hj => by rw [add_none]; exact e3 j u hj) e2, e2⟩
      · cases hn
  · rename_i s
    split at hn
    · rename_i hs
      cases hn
      have hs := Nat.eq_of_beq_eq_true hs
      subst hs
      obtain rfl := hx.string_inv
      have q := firstCells_string (P := P) s
      exact ⟨byteCells s, ⟨hk, fun _ => rfl, q w, q w.drew, by rw [byteCells_length, Nat.mul_one], fun u hu => by
        obtain ⟨_, _, rfl⟩ := List.mem_map.1 hu
        rfl⟩, LRel.refl (bytes_lit _)⟩
    · cases hn
  · cases hn
theorem St.set_same {h : St} {i : Nat} {o : AObj} (ho : h.objs i = some o) : h.set i o = h := by
  have : (h.set i o).objs = h.objs := by
    funext j
    simp only [St.set]
    split
    · rename_i e; rw [e, ho]
    · rfl
  cases h
  simp only [St.set] at this ⊢
  rw [this]
/-- Cells laid over cells of one's own, from a place on that is not beyond what is known. -/
theorem HRel.splice (H : HRel P B w0 ρ h w) {i o : Nat} {cs new news : List Value} {l : Loc} (ho : h.objs i = some (.cells cs true)) (hl : ρ i = some l) (hoc : o ≤ cs.length) (hrel : LRel ρ new news) (hone : new.all one = true) (hfit : o + new.length ≤ l.lim) :
    ∃ arr ty, w.heap[l.blk]? = some (.cells arr ty (0, 0)) ∧ l.lim ≤ arr.size ∧ cs.length ≤ arr.size ∧
      HRel P B w0 ρ (h.set i (.cells (cs.take o ++ new ++ cs.drop (o + new.length)) true)) (w.setRow l.blk (arr.toList.take o ++ news ++ arr.toList.drop (o + news.length)).toArray) := by
  obtain ⟨l', hl', hown, hB, arr, ty, fr, hblk, hfr, hlen, hcs⟩ := H.obj _ _ ho
  have : l' = l := by rw [hl] at hl'; exact (Option.some.inj hl').symm
  subst this
  obtain ⟨hB1, hB2⟩ := hB rfl
  obtain ⟨rfl, hlim⟩ := hfr rfl
  have hnl := hrel.length
  refine ⟨arr, ty, hblk, hlim, hlen, H.set ho hl hown.symm hB1 rfl rfl rfl (by simp [World.setRow]) (fun q _ hq => setRow_other w l'.blk q _ hq) ?_⟩
  have t1 : (arr.toList.take o).length = o := by simp only [List.length_take, Array.length_toList]; omega
  have hfull : (arr.toList.take o ++ news ++ arr.toList.drop (o + news.length)).length = arr.size := by
    simp only [List.length_append, t1, List.length_drop, Array.length_toList]; omega
  have hnew : (cs.take o ++ new ++ cs.drop (o + new.length)).length = o + new.length + (cs.length - (o + new.length)) := by
    simp only [List.length_append, List.length_take, List.length_drop]; omega
  refine ⟨hown, fun _ => ⟨hB1, ?_⟩, _, ty, (0, 0), setRow_heap w l'.blk arr _ ty _ hblk, fun _ => ⟨rfl, by simp only [List.size_toArray, hfull]; exact hlim⟩, by simp only [List.size_toArray, hfull, hnew]; omega, ?_⟩
  · simp only [List.all_append, Bool.and_eq_true]
    simp only [List.all_eq_true] at hB2 hone ⊢
    exact ⟨⟨fun v hv => hB2 v (List.mem_of_mem_take hv), hone⟩, fun v hv => hB2 v (List.mem_of_mem_drop hv)⟩
  · rw [hnew]
    simp only [List.toList_toArray]
    rw [take_three (a := o) (b := new.length) t1 hnl.symm (by omega)]
    have e1 : arr.toList.take o = (arr.toList.take cs.length).take o := by rw [List.take_take, Nat.min_eq_left hoc]
    have e2 : (arr.toList.drop (o + news.length)).take (o + new.length + (cs.length - (o + new.length)) - (o + new.length)) = (arr.toList.take cs.length).drop (o + new.length) := by
      rw [List.drop_take, hnl]
      congr 1
      omega
    rw [e1, e2]
    exact ((hcs.take o).append hrel).append (hcs.drop (o + new.length))
theorem append_seq (H : HRel P B w0 ρ h w) {t u ty e : TypeId} {i2 : TypeInfo} {zv s s' x x' : Value} (hs : VRel ρ s s') (hx : VRel ρ x x') (ht : P.underlying t = some (.slice e)) (hi : P.info? e = some i2) (hz1 : i2.zero = some zv) (hc1 : 0 < i2.size) (hzs : zv.cells.size = i2.size) (hseq : isSeq (P.underlying u) = true) {k : Cont} (hk : appendE i2.size i2.bytes s x h k) :
    Post P B w0 ρ k ((do pure (.value (← Builtin.append_ #[t, u] ty #[s', x'])) : Sem Next).run P w) := by
  have hkind : (∃ e', P.underlying u = some (.slice e')) ∨ P.underlying u = some .string := by
    unfold isSeq at hseq
    split at hseq
    · rename_i e' he; exact .inl ⟨e', he⟩
    · rename_i he; exact .inr he
    · cases hseq
  unfold appendE at hk
  split at hk
  · exact hk.elim
  · rename_i new m hnew
    -- a new row
    have grow : ∀ (base : Option Addr) (sLen sCap : Nat) (old olds : List Value) (hh : St), hh.next = h.next → hh.le h → old.length = sLen * i2.size → old.all one = true → LRel ρ old olds → 
        (Builtin.firstCells i2.size sLen (.slice base sLen sCap)).run P w.drew = .ok olds.toArray w.drew → sCap < sLen + m → (sLen + m) * i2.bytes ≤ 140737488355328 → sLen + m ≤ 140737488355328 → new.all one = true →
        k (.slice (some ⟨h.next, 0, some i2.size⟩) (sLen + m) 0) (hh.push (.cells (old ++ new) true)) →
        Post P B w0 ρ k ((do pure (.value (← Builtin.append_ #[t, u] ty #[.slice base sLen sCap, x'])) : Sem Next).run P w) := by
      intro base sLen sCap old olds hh hnx hle hol ho1 hold hf hg hb hm hone hkk
      obtain ⟨news, hsrc, hrel⟩ := newCells_src H hkind hx hnew hone
      have hrun := run_append_grow_src (P := P) w t u ty e i2 zv ht hi hz1 base sLen sCap olds hf x' m news hsrc hg (by omega) (growslice_fits hg (by omega))
      simp only [Sem.run_bind, hrun, Result.andThen, Sem.run_pure]
      have hll := (hold.append hrel).length
      have hnl := hsrc.newsLen
      have hrl := hrel.length
      have hge := grownCap_ge w (sLen + m) sCap e
      have hcm := grownCap_le_maxLen w (sLen + m) sCap e (by unfold maxLen; omega)
      have hsz : ((olds ++ news).toArray ++ Builtin.zeroCells zv.cells (grownCap w (sLen + m) sCap e - (sLen + m))).size = grownCap w (sLen + m) sCap e * i2.size := by
        rw [Array.size_append, List.size_toArray, ← hll, size_zeroCells, hzs, List.length_append, hol, hrl, hnl, ← Nat.add_mul, ← Nat.add_mul]
        congr 1
        omega
      obtain ⟨q1, q2⟩ := ((H.weaken hle).draw (w.drawn + 1)).newCells (cs := old ++ new) (arr := (olds ++ news).toArray ++ Builtin.zeroCells zv.cells (grownCap w (sLen + m) sCap e - (sLen + m))) e
        (by rw [hll, Array.size_append, List.size_toArray]; omega)
        (by
          rw [hll]
          simp only [Array.toList_append, List.toList_toArray, List.take_left]
          exact hold.append hrel)
        (by rw [List.all_append, ho1, hone]; rfl)
      rw [hnx] at q1 q2
      refine ⟨_, _, _, hkk, q1, q2, .owned h.next 0 (sLen + m) 0 (grownCap w (sLen + m) sCap e) i2.size ⟨w.heap.size, ((olds ++ news).toArray ++ Builtin.zeroCells zv.cells (grownCap w (sLen + m) sCap e - (sLen + m))).size, true⟩ (by simp [Rho.push]) hge hcm ?_ (fun h => absurd rfl h)⟩
      show 0 + _ ≤ Array.size _
      rw [hsz]; omega
    have nothing : ∀ (base : Option Addr) (sLen sCap : Nat), m = 0 → sLen ≤ sCap → new.all one = true →
        (do pure (.value (← Builtin.append_ #[t, u] ty #[.slice base sLen sCap, x'])) : Sem Next).run P w = .ok (.value (.slice base sLen sCap)) w := by
      intro base sLen sCap hm hle hone
      obtain ⟨news, hsrc, hrel⟩ := newCells_src H hkind hx hnew hone
      subst hm
      have : news = [] := by apply List.eq_nil_of_length_eq_zero; rw [hsrc.newsLen]; omega
      subst this
      simp only [Sem.run_bind, run_append_nothing (P := P) w t u ty e i2 ht hi base sLen sCap hle x' hsrc, Result.andThen, Sem.run_pure]
    split at hk
    · have : s' = .slice none 0 0 := by cases hs; rfl
      subst this
      obtain ⟨⟨h1, h2, h3⟩, h4⟩ := hk
      split at h4
      · rw [nothing none 0 0 rfl (Nat.le_refl _) h1]
        exact ⟨_, _, _, h4, Rho.le.refl ρ, H, hs⟩
      · rename_i hne
        have hm : m ≠ 0 := fun e => hne e
        have := grow none 0 0 [] [] h rfl (St.le.refl h) (by simp) rfl .nil (run_firstCells_none w.drew i2.size 0 0 0) (by omega) (by rw [Nat.zero_add]; exact h2) (by omega) h1
        simp only [Nat.zero_add, List.nil_append] at this
        exact this h4
    · rename_i id off zz n c0
      split at hk
      · rename_i cs ho
        cases c0 with
        | zero =>
          simp only at hk
          obtain ⟨⟨h1, rfl, rfl, h4, h5, h6⟩, h7⟩ := hk
          obtain ⟨l, hl, hor⟩ := H.obj _ _ ho
          have hor2 := hor
          obtain ⟨hown, hB, arr, ty2, fr, hblk, hfr, hlen, hcs⟩ := hor
          obtain ⟨hB1, hB2⟩ := hB rfl
          obtain ⟨rfl, hlim⟩ := hfr rfl
          have old1 : (cs.take (n * i2.size)).all one = true := by
            simp only [List.all_eq_true] at hB2 ⊢
            exact fun v hv => hB2 v (List.mem_of_mem_take hv)
          obtain ⟨news, hsrc, hrel⟩ := newCells_src H hkind hx hnew h1
          have hnl := hsrc.newsLen
          have hrl := hrel.length
          have hnm : (n + m) * i2.size = n * i2.size + m * i2.size := Nat.add_mul _ _ _
          have htl : (cs.take (n * i2.size)).length = n * i2.size := by rw [List.length_take]; omega
          have hcl : (cs.take (n * i2.size) ++ new).length = n * i2.size + m * i2.size := by rw [List.length_append, htl, hrl, hnl]
          have hone2 : (cs.take (n * i2.size) ++ new).all one = true := by rw [List.all_append, old1, h1]; rfl
          -- the row grows
          have grow2 : ∀ (b : Addr) (cap : Nat) (olds : List Value), olds.length = n * i2.size → (∀ j v, olds[j]? = some v → w.cell? (b.add j) = some v) → LRel ρ (cs.take (n * i2.size)) olds → cap < n + m →
              Post P B w0 ρ k ((do pure (.value (← Builtin.append_ #[t, u] ty #[.slice (some b) n cap, x'])) : Sem Next).run P w) := by
            intro b cap olds hol hoc hor hg
            exact grow (some b) n cap (cs.take (n * i2.size)) olds (h.kill id) rfl (St.kill_le h id) htl old1 hor
              (run_firstCells_some w.drew i2.size n b n cap olds hol (by simpa using hoc)) hg h5 h6 h1 h7
          -- the row stays, under a new name
          have stay : ∀ (w' : World) (arr' : Array Value) (v' : Value), w'.os = w.os → w'.tape = w.tape → w'.output = w.output → w.heap.size ≤ w'.heap.size → (∀ k, k < w.heap.size → k ≠ l.blk → w'.heap[k]? = w.heap[k]?) →
              w'.heap[l.blk]? = some (.cells arr' ty2 (0, 0)) → l.lim ≤ arr'.size → n * i2.size + m * i2.size ≤ arr'.size → LRel ρ (cs.take (n * i2.size) ++ new) (arr'.toList.take (n * i2.size + m * i2.size)) →
              VRel (ρ.push h.next l) (.slice (some ⟨h.next, 0, some i2.size⟩) (n + m) 0) v' → Post P B w0 ρ k (.ok (.value v') w') := by
            intro w' arr' v' e1 e2 e3 e4 e5 e6 e7 e8 e9 hv
            have ho' : ORel ρ B (.cells (cs.take (n * i2.size) ++ new) true) l w' := ⟨hown, fun _ => ⟨hB1, hone2⟩, arr', ty2, (0, 0), e6, fun _ => ⟨rfl, e7⟩, by rw [hcl]; exact e8, by rw [hcl]; exact e9⟩
            have H2 := H.set (o' := .cells (cs.take (n * i2.size) ++ new) true) ho hl hown.symm hB1 e1 e2 e3 e4 e5 ho'
            have H3 := H2.move (i := id) (o := .cells (cs.take (n * i2.size) ++ new) true) (by simp [St.set]) hl hown.symm ho'
            have heq : ((h.set id (.cells (cs.take (n * i2.size) ++ new) true)).kill id).push (.cells (cs.take (n * i2.size) ++ new) true) = (h.kill id).push (.cells (cs.take (n * i2.size) ++ new) true) := by
              exact St.set_kill_push h id _ _
            rw [heq] at H3
            exact ⟨_, _, _, h7, H.fresh l, H3, hv⟩
          cases hs with
          | lit _ e => simp [lit1] at e
          | empty a c b =>
            by_cases hm : m = 0
            · rw [nothing (some b) 0 0 hm (Nat.le_refl _) h1]
              subst hm
              refine stay w arr _ rfl rfl rfl (Nat.le_refl _) (fun _ _ _ => rfl) hblk hlim (by simp) ?_ (.empty _ _ _ fun _ => by omega)
              have : new = [] := by apply List.eq_nil_of_length_eq_zero; rw [hrl, hnl]; simp
              subst this
              simpa using LRel.nil
            · exact grow2 b 0 [] (by simp) (by simp) (by simpa using LRel.nil) (by omega)
          | owned _ _ n c cap _ l' hl' hn hcm hlm =>
            rw [hl] at hl'
            cases hl'
            by_cases hroom : n + m ≤ cap
            · have hcap : (n + m) * i2.size ≤ cap * i2.size := Nat.mul_le_mul_right _ hroom
              have hlm' : cap * i2.size ≤ l.lim := by omega
              have hin : ∀ j, j < news.length → (w.cell? ⟨l.blk, 0 + n * i2.size + j, none⟩).isSome = true := by
                intro j hj
                simp only [World.cell?, hblk]
                simp; omega
              have hfz : ∀ j, j < news.length → w.frozen? ⟨l.blk, 0 + n * i2.size + j, none⟩ = false := fun j _ => frozen_of_row w l.blk _ arr ty2 hblk
              have r1 := run_append_room_src (P := P) w t u ty e i2 ht hi l.blk 0 n cap x' m news hsrc hroom hin hfz
              have s1 := run_storeCells_cells (P := P) l.blk (0 + n * i2.size) news 0 w (by simpa using hin) (by simpa using hfz) hsrc.one
              have s2 := run_storeCells_at P l.blk (0 + n * i2.size) ty2 news 0 arr w hblk (by omega) hsrc.one
              have se : w.setCells l.blk (0 + n * i2.size) news = w.setRow l.blk (arr.toList.take (n * i2.size) ++ news ++ arr.toList.drop (n * i2.size + news.length)).toArray := by
                rw [s1] at s2
                simp only [Nat.add_zero, Nat.zero_add] at s2 ⊢
                injection s2
              rw [se] at r1
              simp only [Sem.run_bind, r1, Result.andThen, Sem.run_pure]
              have t1 : (arr.toList.take (n * i2.size)).length = n * i2.size := by simp only [List.length_take, Array.length_toList]; omega
              have hfull : (arr.toList.take (n * i2.size) ++ news ++ arr.toList.drop (n * i2.size + news.length)).length = arr.size := by
                simp only [List.length_append, t1, List.length_drop, Array.length_toList]; omega
              refine stay _ _ _ rfl rfl rfl (by simp [World.setRow]) (fun q _ hq => setRow_other w l.blk q _ hq) (setRow_heap w l.blk arr _ ty2 _ hblk) (by rw [List.size_toArray, hfull]; exact hlim) (by rw [List.size_toArray, hfull]; omega) ?_
                (.owned h.next 0 (n + m) 0 cap i2.size l (by simp [Rho.push]) hroom hcm hlm (fun h => absurd rfl h))
              simp only [List.toList_toArray]
              rw [take_three (a := n * i2.size) (b := m * i2.size) t1 hnl (Nat.le_refl _), Nat.sub_self, List.take_zero, List.append_nil]
              refine LRel.append ?_ hrel
              have := hcs.take (n * i2.size)
              rwa [List.take_take, Nat.min_eq_left h4] at this
            · obtain ⟨olds, q1, q2, q3⟩ := hor2.cells (off := 0) (n := n * i2.size) (vs := cs.take (n * i2.size)) (by unfold takeN; rw [if_pos (by omega)]; simp)
              exact grow2 ⟨l.blk, 0, none⟩ cap olds q1 (fun j v hj => by rw [add_none]; exact q3 j v hj) q2 (by omega)
        | succ cp =>
          simp only at hk
          cases hb : Nat.ble (n + m) cp with
          | true =>
            rw [hb] at hk
            obtain ⟨⟨h1, rfl, h4⟩, h7⟩ := hk
            have hle := Nat.le_of_ble_eq_true hb
            obtain ⟨news, hsrc, hrel⟩ := newCells_src H hkind hx hnew h1
            have hnl := hsrc.newsLen
            have hrl := hrel.length
            cases hs with
            | lit _ e => simp [lit1] at e
            | empty a c b hk1 =>
              have hc1 := hk1 (by simp)
              have hm : m = 0 := by omega
              have hnew0 : new = [] := by apply List.eq_nil_of_length_eq_zero; rw [hrl, hnl, hm]; simp
              rw [nothing (some b) 0 0 hm (Nat.le_refl _) h1]
              subst hm
              subst hnew0
              have e0 : cs.take (off + 0 * i2.size) ++ [] ++ cs.drop (off + 0 * i2.size + 0 * i2.size) = cs := by simp
              rw [e0, St.set_same ho] at h7
              exact ⟨_, _, _, h7, Rho.le.refl ρ, H, .empty _ _ _ hk1⟩
            | owned _ _ n c cap _ l hl hn hcm hlm hk1 =>
              have : cap = cp := by have := hk1 (by omega); omega
              subst this
              have hmul : (n + m) * i2.size ≤ cap * i2.size := Nat.mul_le_mul_right _ hle
              have hnm : (n + m) * i2.size = n * i2.size + m * i2.size := Nat.add_mul _ _ _
              obtain ⟨arr, ty2, hblk, hlim, hlen, HH⟩ := H.splice ho hl (o := off + n * i2.size) h4 hrel h1 (by omega)
              have hin : ∀ j, j < news.length → (w.cell? ⟨l.blk, off + n * i2.size + j, none⟩).isSome = true := by
                intro j hj
                simp only [World.cell?, hblk]
                simp; omega
              have hfz : ∀ j, j < news.length → w.frozen? ⟨l.blk, off + n * i2.size + j, none⟩ = false := fun j _ => frozen_of_row w l.blk _ arr ty2 hblk
              have r1 := run_append_room_src (P := P) w t u ty e i2 ht hi l.blk off n cap x' m news hsrc hle hin hfz
              have s1 := run_storeCells_cells (P := P) l.blk (off + n * i2.size) news 0 w (by simpa using hin) (by simpa using hfz) hsrc.one
              have s2 := run_storeCells_at P l.blk (off + n * i2.size) ty2 news 0 arr w hblk (by omega) hsrc.one
              have se : w.setCells l.blk (off + n * i2.size) news = w.setRow l.blk (arr.toList.take (off + n * i2.size) ++ news ++ arr.toList.drop (off + n * i2.size + news.length)).toArray := by
                rw [s1] at s2
                simp only [Nat.add_zero] at s2 ⊢
                injection s2
              rw [se] at r1
              simp only [Sem.run_bind, r1, Result.andThen, Sem.run_pure]
              have el : off + n * i2.size + new.length = off + n * i2.size + m * i2.size := by rw [hrl, hnl]
              rw [el] at HH
              exact ⟨_, _, _, h7, Rho.le.refl ρ, HH, .owned id off (n + m) (cap + 1) cap i2.size l hl hle hcm hlm (fun _ => rfl)⟩
          | false =>
            rw [hb] at hk
            obtain ⟨⟨h1, rfl, h4, h5, h6⟩, h7⟩ := hk
            have hgt : cp < n + m := by
              rcases Nat.lt_or_ge cp (n + m) with h | h
              · exact h
              · have := Nat.ble_eq_true_of_le h; rw [this] at hb; cases hb
            obtain ⟨l, hl, hor⟩ := H.obj _ _ ho
            have hor2 := hor
            obtain ⟨hown, hB, arr, ty2, fr, hblk, hfr, hlen, hcs⟩ := hor
            obtain ⟨hB1, hB2⟩ := hB rfl
            have old1 : ((cs.drop off).take (n * i2.size)).all one = true := by
              simp only [List.all_eq_true] at hB2 ⊢
              exact fun v hv => hB2 v (List.mem_of_mem_drop (List.mem_of_mem_take hv))
            have htl : ((cs.drop off).take (n * i2.size)).length = n * i2.size := by rw [List.length_take, List.length_drop]; omega
            cases hs with
            | lit _ e => simp [lit1] at e
            | empty a c b hk1 =>
              have hc1 := hk1 (by simp)
              have z : (cs.drop off).take (0 * i2.size) = [] := by simp
              refine grow (some b) 0 0 ((cs.drop off).take (0 * i2.size)) [] h rfl (St.le.refl h) htl old1 (by rw [z]; exact .nil)
                (run_firstCells_some w.drew i2.size 0 b 0 0 [] (by simp) (by simp)) (by omega) h5 h6 h1 h7
            | owned _ _ n c cap _ l' hl' hn hcm hlm hk1 =>
              have : cap = cp := by have := hk1 (by omega); omega
              subst this
              rw [hl] at hl'
              cases hl'
              obtain ⟨olds, q1, q2, q3⟩ := hor2.cells (off := off) (n := n * i2.size) (vs := (cs.drop off).take (n * i2.size)) (by unfold takeN; rw [if_pos (by omega)])
              exact grow (some ⟨l.blk, off, none⟩) n cap ((cs.drop off).take (n * i2.size)) olds h rfl (St.le.refl h) htl old1 q2
                (run_firstCells_some w.drew i2.size n ⟨l.blk, off, none⟩ n cap olds q1 (fun j v hj => by
                  have := q3 j v hj
                  rw [add_none]
                  simpa using this)) hgt h5 h6 h1 h7
      · exact hk.elim
    · exact hk.elim
theorem append_sound (H : HRel P B w0 ρ h w) {t u ty : TypeId} {s s' x x' : Value} (hs : VRel ρ s s') (hx : VRel ρ x x') {k : Cont} (hk : appendOp P t u s x h k) :
    Post P B w0 ρ k ((do pure (.value (← Builtin.append_ #[t, u] ty #[s', x'])) : Sem Next).run P w) := by
  unfold appendOp at hk
  split at hk
  · rename_i e ht
    split at hk
    · rename_i i z hi hz
      split at hk
      · rename_i hc
        simp only [Bool.and_eq_true, Nat.blt_eq, Nat.beq_eq] at hc
        obtain ⟨hc1, hc2⟩ := hc
        obtain ⟨i2, zv, hi2, hz1, rfl, hz3, hz4⟩ := zeroOf_spec hz
        have : i2 = i := by rw [hi] at hi2; exact (Option.some.inj hi2).symm
        subst this
        have hzs : zv.cells.size = i2.size := by simpa using hc2
        split at hk
        · rename_i hseq
          exact append_seq H hs hx ht hi hz1 hc1 hzs hseq hk
        · split at hk
          · rename_i hint
            unfold isIntT at hint
            split at hint
            · rename_i kn hu
              unfold appendZ at hk
              split at hk
              · rename_i kk n
                obtain ⟨⟨h1, h2, h3⟩, h4⟩ := hk
                have : s' = .slice none 0 0 := by cases hs; rfl
                subst this
                obtain rfl := hx.int_inv
                obtain ⟨m, rfl⟩ : ∃ m : Nat, n = m := ⟨n.toNat, by omega⟩
                have hm : 0 < m := by omega
                have hmb : m * i2.bytes ≤ 140737488355328 := by
                  have : ((m * i2.bytes : Nat) : Int) = (m : Int) * i2.bytes := by simp
                  omega
                have hrun := Go.Lib.run_append_nil_zeros (P := P) w t u ty e i2 zv kk kn ht hu hi hz1 m hm hc1 (by omega) (by omega)
                simp only [Sem.run_bind, hrun, Result.andThen, Sem.run_pure]
                have hge := grownCap_ge w m 0 e
                have hcm := grownCap_le_maxLen w m 0 e (by unfold maxLen; omega)
                obtain ⟨q1, q2⟩ := (H.draw (w.drawn + 1)).newCells (cs := []) (arr := Builtin.zeroCells zv.cells m ++ Builtin.zeroCells zv.cells (grownCap w m 0 e - m)) e (by simp) (by simpa using LRel.nil) rfl
                rw [Int.toNat_natCast] at h4
                refine ⟨_, _, _, h4, q1, q2, .owned h.next 0 m 0 (grownCap w m 0 e) i2.size ⟨w.heap.size, (Builtin.zeroCells zv.cells m ++ Builtin.zeroCells zv.cells (grownCap w m 0 e - m)).size, true⟩ (by simp [Rho.push]) hge hcm ?_ (fun h => absurd rfl h)⟩
                show 0 + _ ≤ Array.size _
                rw [Array.size_append, size_zeroCells, size_zeroCells, hzs, ← Nat.add_mul]
                have : m + (grownCap w m 0 e - m) = grownCap w m 0 e := by omega
                rw [this]; omega
              · rename_i id off zz m cap kk n
                split at hk
                · rename_i cs ho
                  obtain ⟨⟨h1, h2, rfl, h4, h5, h6⟩, h7⟩ := hk
                  obtain rfl := hx.int_inv
                  obtain ⟨q, rfl⟩ : ∃ q : Nat, n = q := ⟨n.toNat, by omega⟩
                  rw [Int.toNat_natCast] at h7
                  have hq : 0 < q := by omega
                  have hb : (m + q) * i2.bytes ≤ 140737488355328 := by
                    have : (((m + q) * i2.bytes : Nat) : Int) = ((m : Int) + (q : Int)) * i2.bytes := by simp
                    omega
                  have hqb : q * i2.bytes ≤ (m + q) * i2.bytes := Nat.mul_le_mul_right _ (by omega)
                  have hmq : m + q ≤ 140737488355328 := by omega
                  obtain ⟨l, hl, hor⟩ := H.obj _ _ ho
                  have hor2 := hor
                  obtain ⟨hown, hB, arr, ty2, fr, hblk, hfr, hlen, hcs⟩ := hor
                  obtain ⟨hB1, hB2⟩ := hB rfl
                  have old1 : ((cs.drop off).take (m * i2.size)).all one = true := by
                    simp only [List.all_eq_true] at hB2 ⊢
                    exact fun v hv => hB2 v (List.mem_of_mem_drop (List.mem_of_mem_take hv))
                  have htl : ((cs.drop off).take (m * i2.size)).length = m * i2.size := by rw [List.length_take, List.length_drop]; omega
                  have fin : ∀ (b : Addr) (cap' : Nat) (olds : List Value), LRel ρ ((cs.drop off).take (m * i2.size)) olds → (Builtin.firstCells i2.size m (.slice (some b) m cap')).run P w.drew = .ok olds.toArray w.drew → cap' < m + q →
                      Post P B w0 ρ k ((do pure (.value (← Builtin.append_ #[t, u] ty #[.slice (some b) m cap', .int kk q])) : Sem Next).run P w) := by
                    intro b cap' olds hold hf hg
                    have hrun := Go.Lib.run_append_grow_zeros (P := P) w t u ty e i2 zv kk kn ht hu hi hz1 (some b) m cap' olds hf q hq hc1 hg (by omega) (by omega) (growslice_fits hg (by omega))
                    simp only [Sem.run_bind, hrun, Result.andThen, Sem.run_pure]
                    have hge := grownCap_ge w (m + q) cap' e
                    have hcm := grownCap_le_maxLen w (m + q) cap' e (by unfold maxLen; omega)
                    have hol := hold.length
                    obtain ⟨q1, q2⟩ := (H.draw (w.drawn + 1)).newCells (cs := (cs.drop off).take (m * i2.size)) (arr := olds.toArray ++ Builtin.zeroCells zv.cells q ++ Builtin.zeroCells zv.cells (grownCap w (m + q) cap' e - (m + q))) e
                      (by rw [hol]; simp only [Array.size_append, List.size_toArray]; omega)
                      (by
                        rw [hol]
                        simp only [Array.toList_append, List.toList_toArray, List.append_assoc, List.take_left]
                        exact hold)
                      old1
                    refine ⟨_, _, _, h7, q1, q2, .owned h.next 0 (m + q) 0 (grownCap w (m + q) cap' e) i2.size ⟨w.heap.size, (olds.toArray ++ Builtin.zeroCells zv.cells q ++ Builtin.zeroCells zv.cells (grownCap w (m + q) cap' e - (m + q))).size, true⟩ (by simp [Rho.push]) hge hcm ?_ (fun h => absurd rfl h)⟩
                    show 0 + _ ≤ Array.size _
                    rw [Array.size_append, Array.size_append, size_zeroCells, size_zeroCells, hzs, List.size_toArray, ← hol, htl, ← Nat.add_mul, ← Nat.add_mul]
                    have : m + q + (grownCap w (m + q) cap' e - (m + q)) = grownCap w (m + q) cap' e := by omega
                    rw [this]; omega
                  cases hs with
                  | lit _ e => simp [lit1] at e
                  | empty a c b hk1 =>
                    have hc1 := hk1 (by simp)
                    exact fin b 0 [] (by simpa using LRel.nil) (run_firstCells_some w.drew i2.size 0 b 0 0 [] (by simp) (by simp)) (by omega)
                  | owned _ _ _ c cap' _ l' hl' hn hcm hlm hk1 =>
                    have : cap' = cap := by have := hk1 (by omega); omega
                    subst this
                    rw [hl] at hl'
                    cases hl'
                    obtain ⟨olds, q1, q2, q3⟩ := hor2.cells (off := off) (n := m * i2.size) (vs := (cs.drop off).take (m * i2.size)) (by unfold takeN; rw [if_pos (by omega)])
                    exact fin ⟨l.blk, off, none⟩ cap' olds q2 (run_firstCells_some w.drew i2.size m ⟨l.blk, off, none⟩ m cap' olds q1 (fun j v hj => by
                      have := q3 j v hj
                      rw [add_none]
                      simpa using this)) (by omega)
                · exact hk.elim
              · exact hk.elim
            · cases hint
          · exact hk.elim
      · exact hk.elim
    · exact hk.elim
  · exact hk.elim
end
end Go.Abs
