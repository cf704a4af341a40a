/- What the abstract machine's copying, clearing and ranging over maps do, the machine does. -/
import Derived.Test.YtdgonebknphkcaaAbsN
import Derived.Maps.RangeRun
set_option linter.unusedSimpArgs false
set_option linter.unusedVariables false
namespace Go.Abs
open Go.RowKit (Below)
section
variable {P : Program} {B : Nat} {w0 w : World} {ρ : Rho} {h : St}

/-- A slice's first elements. -/
theorem VRel.firstOf {a : Option Addr} {m c n : Nat} {x' : Value} (hx : VRel ρ (.slice a m c) x') (hn : n ≤ m) : ∃ a' c', x' = .slice a' m c' ∧ VRel ρ (.slice a n c) (.slice a' n c') := by
  cases hx with
  | lit _ e =>
    cases a with
    | some a => simp [lit1] at e
    | none =>
      cases m with
      | succ m => simp [lit1] at e
      | zero =>
        cases c with
        | succ c => simp [lit1] at e
        | zero =>
          have : n = 0 := by omega
          subst this
          exact ⟨none, 0, rfl, .lit _ rfl⟩
  | slice i off _ _ cap l h ho hn' hc => exact ⟨_, _, rfl, .slice i off n c cap l h ho (by omega) hc⟩
  | owned i off _ _ cap z l h hn' hc hl hk => exact ⟨_, _, rfl, .owned i off n c cap z l h (by omega) hc hl hk⟩
  | empty a c b hk =>
    have : n = 0 := by omega
    subst this
    exact ⟨_, _, rfl, .empty a c b hk⟩
theorem firstCells_alike (size n m c m' c' : Nat) (a : Option Addr) : Builtin.firstCells size n (.slice a m c) = Builtin.firstCells size n (.slice a m' c') := by cases a <;> rfl
theorem copy_sound (H : HRel P B w0 ρ h w) {t u ty : TypeId} {d d' x x' : Value} (hd : VRel ρ d d') (hx : VRel ρ x x') {k : Cont} (hk : copyOp P t u d x h k) :
    Post P B w0 ρ k ((do pure (.value (← Builtin.copy_ #[t, u] ty #[d', x'])) : Sem Next).run P w) := by
  unfold copyOp at hk
  split at hk
  · rename_i e e2 ht hu
    split at hk
    · rename_i i2 hi
      unfold copyE at hk
      split at hk
      · rename_i id off zz n c0 a m c1
        split at hk
        · rename_i cs ho
          split at hk
          · rename_i new q hnew
            obtain ⟨⟨h1, rfl, h4⟩, h7⟩ := hk
            obtain ⟨a', c', rfl, hx2⟩ := hx.firstOf (Nat.min_le_left m n)
            obtain ⟨news, hsrc, hrel⟩ := newCells_src H (tx := u) (.inl ⟨e2, hu⟩) hx2 hnew h1
            have hq : q = min m n := by
              unfold newCells at hnew
              split at hnew
              · rename_i hx0; cases hnew; injection hx0 with _ h0 _; exact h0.symm
              · rename_i hx0; injection hx0 with _ h0 _
                split at hnew
                · cases hnew; exact h0.symm
                · split at hnew
                  · cases hh : takeN _ _ _ with
                    | none => rw [hh] at hnew; cases hnew
                    | some l => rw [hh] at hnew; cases hnew; exact h0.symm
                  · cases hnew
              · rename_i hx0; cases hx0
              · cases hnew
            subst hq
            have hnl := hsrc.newsLen
            have hrl := hrel.length
            have hf := hsrc.cells
            rw [firstCells_alike _ _ _ _ m c' a'] at hf
            cases hd with
            | lit _ e => simp [lit1] at e
            | empty _ _ b hk1 =>
              have hm0 : min m 0 = 0 := Nat.min_zero m
              rw [hm0] at hf h7 hnl
              have hn0 : news = [] := by apply List.eq_nil_of_length_eq_zero; rw [hnl]; simp
              have hw0 : new = [] := by apply List.eq_nil_of_length_eq_zero; rw [hrl, hn0]; rfl
              subst hn0; subst hw0
              have e0 : cs.take off ++ [] ++ cs.drop (off + 0 * i2.size) = cs := by simp
              rw [e0, St.set_same ho] at h7
              have : (do pure (.value (← Builtin.copy_ #[t, u] ty #[.slice (some b) 0 0, .slice a' m c'])) : Sem Next).run P w = .ok (.value (.int .i64 0)) w := by
                have hmn : Nat.min m 0 = 0 := Nat.min_zero m
                simp only [Builtin.copy_, Sem.run_bind, run_underlying ht, Result.andThen, Builtin.lenOf, Sem.run_pure, run_size' hi, hmn]
                rw [show (#[t, u] : Array TypeId)[0]? = some t from rfl, show (#[Value.slice (some b) 0 0, Value.slice a' m c'] : Array Value)[0]? = some (.slice (some b) 0 0) from rfl, show (#[Value.slice (some b) 0 0, Value.slice a' m c'] : Array Value)[1]? = some (.slice a' m c') from rfl]
                simp only [Sem.run_bind, run_underlying ht, Result.andThen, Builtin.lenOf, Sem.run_pure, run_size' hi, hmn, hf]
                rfl
              rw [this]
              exact ⟨_, _, _, h7, Rho.le.refl ρ, H, VRel.int ρ .i64 0⟩
            | owned _ _ _ c cap _ l hl hn hcm hlm hk1 =>
              have hmin : min m n ≤ n := Nat.min_le_right m n
              have hmul : min m n * i2.size ≤ cap * i2.size := Nat.mul_le_mul_right _ (by omega)
              obtain ⟨arr, ty2, hblk, hlim, hlen, HH⟩ := H.splice ho hl (o := off) h4 hrel h1 (by omega)
              have hst := run_storeCells_at P l.blk off ty2 news 0 arr w hblk (by omega) hsrc.one
              simp only [Nat.add_zero] at hst
              have : (do pure (.value (← Builtin.copy_ #[t, u] ty #[.slice (some ⟨l.blk, off, none⟩) n cap, .slice a' m c'])) : Sem Next).run P w =
                  .ok (.value (.int .i64 (min m n : Nat))) (w.setRow l.blk (arr.toList.take off ++ news ++ arr.toList.drop (off + news.length)).toArray) := by
                have hmn : Nat.min m n = min m n := rfl
                simp only [Builtin.copy_, Sem.run_bind, run_underlying ht, Result.andThen, Builtin.lenOf, Sem.run_pure, run_size' hi, hmn]
                rw [show (#[t, u] : Array TypeId)[0]? = some t from rfl, show (#[Value.slice (some ⟨l.blk, off, none⟩) n cap, Value.slice a' m c'] : Array Value)[0]? = some (.slice (some ⟨l.blk, off, none⟩) n cap) from rfl, show (#[Value.slice (some ⟨l.blk, off, none⟩) n cap, Value.slice a' m c'] : Array Value)[1]? = some (.slice a' m c') from rfl]
                simp only [Sem.run_bind, run_underlying ht, Result.andThen, Builtin.lenOf, Sem.run_pure, run_size' hi, hmn, hf, List.toList_toArray, hst, goInt]
              rw [this]
              have el : off + new.length = off + min m n * i2.size := by rw [hrl, hnl]
              rw [el] at HH
              exact ⟨_, _, _, h7, Rho.le.refl ρ, HH, VRel.int ρ .i64 _⟩
          · exact hk.elim
        · exact hk.elim
      · exact hk.elim
    · exact hk.elim
  · exact hk.elim
theorem clear_sound (H : HRel P B w0 ρ h w) {t ty : TypeId} {x x' : Value} (hx : VRel ρ x x') {k : Cont} (hk : clearOp P t x h k) :
    Post P B w0 ρ k ((do pure (.value (← Builtin.clear_ #[t] ty #[x'])) : Sem Next).run P w) := by
  unfold clearOp at hk
  split at hk
  · rename_i e ht
    split at hk
    · rename_i i z hi hz
      obtain ⟨i2, zv, hi2, hz1, rfl, hz3, hz4⟩ := zeroOf_spec hz
      have : i2 = i := by rw [hi] at hi2; exact (Option.some.inj hi2).symm
      subst this
      unfold clearE at hk
      split at hk
      · have : x' = .slice none 0 0 := by cases hx; rfl
        subst this
        have : (do pure (.value (← Builtin.clear_ #[t] ty #[.slice none 0 0])) : Sem Next).run P w = .ok (.value (.tuple #[])) w := by
          simp [Builtin.clear_, run_underlying ht, Result.andThen]
        rw [this]
        exact ⟨_, _, _, hk, Rho.le.refl ρ, H, VRel.undef ρ⟩
      · rename_i id off zz n c0
        split at hk
        · rename_i cs ho
          obtain ⟨⟨h1, rfl, h4⟩, h7⟩ := hk
          cases hx with
          | lit _ e => simp [lit1] at e
          | empty _ _ b hk1 =>
            have e0 : cs.take off ++ repL zv.cells.toList 0 ++ cs.drop (off + 0 * i2.size) = cs := by simp [repL]
            rw [e0, St.set_same ho] at h7
            have : (do pure (.value (← Builtin.clear_ #[t] ty #[.slice (some b) 0 0])) : Sem Next).run P w = .ok (.value (.tuple #[])) w := by
              simp [Builtin.clear_, run_underlying ht, Result.andThen]
            rw [this]
            exact ⟨_, _, _, h7, Rho.le.refl ρ, H, VRel.undef ρ⟩
          | owned _ _ _ c cap _ l hl hn hcm hlm hk1 =>
            have hmul : n * i2.size ≤ cap * i2.size := Nat.mul_le_mul_right _ hn
            have hlit := repL_lit hz3 n
            have hrl : (repL zv.cells.toList n).length = n * i2.size := by rw [repL_length, h1]
            obtain ⟨arr, ty2, hblk, hlim, hlen, HH⟩ := H.splice ho hl (o := off) (news := repL zv.cells.toList n) h4 (LRel.refl hlit) (all_lit1_one hlit) (by rw [hrl]; omega)
            rw [hrl] at HH
            by_cases hn0 : n = 0
            · subst hn0
              have e0 : cs.take off ++ repL zv.cells.toList 0 ++ cs.drop (off + 0 * i2.size) = cs := by simp [repL]
              rw [e0, St.set_same ho] at h7
              have : (do pure (.value (← Builtin.clear_ #[t] ty #[.slice (some ⟨l.blk, off, none⟩) 0 cap])) : Sem Next).run P w = .ok (.value (.tuple #[])) w := by
                simp [Builtin.clear_, run_underlying ht, Result.andThen]
              rw [this]
              exact ⟨_, _, _, h7, Rho.le.refl ρ, H, VRel.undef ρ⟩
            · obtain ⟨n, rfl⟩ : ∃ n', n = n' + 1 := ⟨n - 1, by omega⟩
              have hst := run_storeCells_at P l.blk off ty2 (repL zv.cells.toList (n + 1)) 0 arr w hblk (by omega) (fun v hv => by rw [one_oneCell]; exact List.all_eq_true.1 (all_lit1_one hlit) v hv)
              simp only [Nat.add_zero] at hst
              have hzc : (Builtin.zeroCells zv.cells (n + 1)).toList = repL zv.cells.toList (n + 1) := rep_range zv.cells (n + 1)
              have : (do pure (.value (← Builtin.clear_ #[t] ty #[.slice (some ⟨l.blk, off, none⟩) (n + 1) cap])) : Sem Next).run P w =
                  .ok (.value (.tuple #[])) (w.setRow l.blk (arr.toList.take off ++ repL zv.cells.toList (n + 1) ++ arr.toList.drop (off + (repL zv.cells.toList (n + 1)).length)).toArray) := by
                simp [Builtin.clear_, run_underlying ht, Result.andThen, hz4, hzc, hst]
              rw [this, hrl]
              exact ⟨_, _, _, h7, Rho.le.refl ρ, HH, VRel.undef ρ⟩
        · exact hk.elim
      · exact hk.elim
    · exact hk.elim
  · exact hk.elim
theorem range_sound (H : HRel P B w0 ρ h w) {t : TypeId} {x x' : Value} (hx : VRel ρ x x') {k : Cont} (hk : rangeOp P t x h k) :
    Post P B w0 ρ k ((do pure (.value (← Instr.range t x')) : Sem Next).run P w) := by
  unfold rangeOp at hk
  split at hk
  · rename_i kt et hu
    unfold rangeE at hk
    split at hk
    · have : x' = .map none := by cases hx; rfl
      subst this
      have hr := Go.run_range_nilMap (P := P) w t kt et hu
      simp only [Sem.run_bind, hr, Result.andThen, Sem.run_pure]
      refine ⟨_, _, _, hk, H.fresh ⟨w.heap.size, 0, true⟩, H.push _ _ ⟨w.heap.size, 0, true⟩ rfl ⟨rfl, H.size, none, heap_alloc_new w _, trivial⟩, .ptr h.next 0 ⟨w.heap.size, 0, true⟩ (by simp [Rho.push])⟩
    · rename_i r
      split at hk
      · rename_i es clock ho
        obtain ⟨l, es', hl, rfl, hown, hB, hblk, hes⟩ := H.mapAt ho hx
        have hr := Go.run_range_map (P := P) w t kt et l.blk _ clock hu hblk
        simp only [Sem.run_bind, hr, Result.andThen, Sem.run_pure]
        refine ⟨_, _, _, hk, H.fresh ⟨w.heap.size, 0, true⟩, H.push _ _ ⟨w.heap.size, 0, true⟩ rfl ⟨rfl, H.size, some l.blk, heap_alloc_new w _, l, H.fresh _ _ _ hl, rfl⟩, .ptr h.next 0 ⟨w.heap.size, 0, true⟩ (by simp [Rho.push])⟩
      · exact hk.elim
    · exact hk.elim
  · exact hk.elim
theorem MRel.mem {es es' : List MapEntry} (hr : MRel ρ es es') {e' : MapEntry} (he : e' ∈ es') : ∃ e ∈ es, ERel ρ e e' := by
  induction hr with
  | nil => simp at he
  | cons hh _ ih =>
    rcases List.mem_cons.1 he with rfl | he
    · exact ⟨_, by simp, hh⟩
    · obtain ⟨e, h1, h2⟩ := ih he
      exact ⟨e, by simp [h1], h2⟩
theorem MRel.mem' {es es' : List MapEntry} (hr : MRel ρ es es') {e : MapEntry} (he : e ∈ es) : ∃ e' ∈ es', ERel ρ e e' := by
  induction hr with
  | nil => simp at he
  | cons hh _ ih =>
    rcases List.mem_cons.1 he with rfl | he
    · exact ⟨_, by simp, hh⟩
    · obtain ⟨e, h1, h2⟩ := ih he
      exact ⟨e, by simp [h1], h2⟩
theorem next_sound (H : HRel P B w0 ρ h w) {ty : TypeId} {isS : Bool} {x x' : Value} (hx : VRel ρ x x') {k : Cont} (hk : nextE x isS h k) :
    Post P B w0 ρ k ((do pure (.value (← Instr.next x' isS ty)) : Sem Next).run P w) := by
  unfold nextE at hk
  split at hk
  · rename_i i
    split at hk
    · rename_i since seen last ho
      obtain ⟨li, hli, g1, g2, m', g3, g4⟩ := H.obj _ _ ho
      cases hx with
      | lit _ e => simp [lit1] at e
      | ptr _ _ l' hl' =>
        have : l' = li := by rw [hli] at hl'; exact (Option.some.inj hl').symm
        subst this
        cases m' with
        | some b => exact g4.elim
        | none =>
          have : (do pure (.value (← Instr.next (.pointer (some ⟨l'.blk, 0, none⟩)) false ty)) : Sem Next).run P w = .ok (.value (.tuple #[.bool false])) w := by
            simp only [Instr.next, getObj, Sem.run_bind, Sem.run, g3, Result.andThen]
            rfl
          rw [this]
          exact ⟨_, _, _, hk, Rho.le.refl ρ, H, .tupleL (l := [.bool false]) (.cons (VRel.bool ρ false) .nil)⟩
    · rename_i r since seen last ho
      split at hk
      · rename_i es clock hm
        obtain ⟨⟨hold, hsc⟩, hk0, hk1⟩ := hk
        obtain ⟨li, hli, g1, g2, m', g3, g4⟩ := H.obj _ _ ho
        obtain ⟨lm, hlm, q1, q2, es', q3, q4⟩ := H.obj _ _ hm
        cases m' with
        | none => exact g4.elim
        | some bm =>
          obtain ⟨lr, h5, h6⟩ := g4
          have : lr = lm := by rw [hlm] at h5; exact (Option.some.inj h5).symm
          subst this
          subst h6
          cases hx with
          | lit _ e => simp [lit1] at e
          | ptr _ _ l' hl' =>
            have : l' = li := by rw [hli] at hl'; exact (Option.some.inj hl').symm
            subst this
            have hold' : ∀ x ∈ es'.toList, x.born < since := fun x hx => by
              obtain ⟨e, he, hr⟩ := q4.mem hx
              rw [← hr.2.1]; exact (hold e he).1
            rcases Go.run_next_at (P := P) w ty l'.blk lr.blk since last seen.toArray es' clock g3 q3 hold' hsc with ⟨hz, hrun⟩ | ⟨e', he', w1, hw1, hrun⟩
            · simp only [Sem.run_bind, hrun, Result.andThen, Sem.run_pure]
              refine ⟨_, _, _, hk0 ?_, Rho.le.refl ρ, H, .tupleL (l := [.bool false]) (.cons (VRel.bool ρ false) .nil)⟩
              unfold leftE
              rw [List.filter_eq_nil_iff]
              intro e he hc
              obtain ⟨e', he', hr⟩ := q4.mem' he
              have : e' ∈ (leftOf es' seen.toArray).toList := by
                unfold leftOf
                simp only [Array.toList_filter, List.mem_filter]
                refine ⟨he', ?_⟩
                rw [← hr.2.1]
                simpa using hc
              rw [Array.eq_empty_of_size_eq_zero hz] at this
              simp at this
            · have hel : e' ∈ es'.toList ∧ (!seen.contains e'.born) = true := by
                unfold leftOf at he'
                simp only [Array.toList_filter, List.mem_filter] at he'
                exact ⟨he'.1, by simpa using he'.2⟩
              obtain ⟨e, he, hr⟩ := q4.mem hel.1
              have hin : e ∈ leftE es seen := by
                unfold leftE
                rw [List.mem_filter]
                exact ⟨he, by rw [hr.2.1]; exact hel.2⟩
              simp only [Sem.run_bind, hrun, Result.andThen, Sem.run_pure]
              have h7 := hk1 e hin
              have Hd : HRel P B w0 ρ h w1 := by
                rcases hw1 with rfl | rfl
                · exact H
                · exact H.draw _
              have g3' : w1.heap[l'.blk]? = some (.mapIter (some lr.blk) since seen.toArray last) := by
                rcases hw1 with rfl | rfl <;> exact g3
              have hlt : l'.blk < w1.heap.size := (Array.getElem?_eq_some_iff.1 g3').1
              refine ⟨_, _, _, h7, Rho.le.refl ρ, Hd.set ho hli g1 g2 rfl rfl rfl (by simp [ChangeMaps.setBlock]) (fun q _ hq => ?_) ?_, .tupleL (l := [.bool true, e.key, e.val]) (.cons (VRel.bool ρ true) (.cons ?_ (.cons hr.2.2 .nil)))⟩
              · simp only [ChangeMaps.setBlock]
                rw [Array.getElem?_setIfInBounds]
                rw [if_neg (fun e => hq e.symm)]
              · refine ⟨g1, g2, some lr.blk, ?_, lr, hlm, rfl⟩
                simp only [ChangeMaps.setBlock]
                rw [Array.getElem?_setIfInBounds, if_pos rfl, if_pos hlt]
                simp [hr.2.1]
              · rw [← hr.1]; exact VRel.of_lit (hold e he).2
      · exact hk.elim
    · exact hk.elim
  · exact hk.elim
end
end Go.Abs
