/- From a spec to what a law's row asks of the walk. -/
import Derived.Test.YtdgonebknphkcaaAbsX
set_option linter.unusedSimpArgs false
set_option linter.unusedVariables false
namespace Go.Abs
open Go.RowKit (Below)

theorem law_calls {P : Program} {W : World} (hg : P.globals.size ≤ W.heap.size) {f : FuncId} {fn : Func} (hf : P.funcs[f]? = some fn) (hn : (fn.name == "runtime.NumGoroutine") = false) (hb : fn.body.isSome = true) {S : Spec} (hS : SpecOk P f S) {args : List Value} {args' : Array Value} (ha : LRel (rho0 W.heap.size) args args'.toList)
    (H : S args (st0 W) fun v _ => v = .bool true) : Calls P f args' W fun e w' => e = .returned (.bool true) ∧ Below W.heap.size W w' := by
  have hn' : fn.name ≠ "runtime.NumGoroutine" := fun e => by rw [e] at hn; simp at hn
  have hb' : fn.body ≠ none := fun e => by rw [e] at hb; simp at hb
  have hc := hS args (st0 W) _ H W.heap.size W W (rho0 W.heap.size) args' (HRel.start hg) ha
  rw [run_call hf hn' hb'] at hc
  refine hc.mono ?_
  rintro e w' ⟨v, v', h', ρ', rfl, rfl, _, h2, h3⟩
  rw [h3.bool_inv]
  exact ⟨rfl, h2.below⟩

theorem san_lit {B : Nat} {v : Value} (h : lit1 v = true) : san B v = v := by unfold san; rw [h]
/-- A row of the old memory, as the abstract machine sees it. -/
theorem st0_cells {W : World} {b off n : Nat} {vs : List Value} (hn : vs.length = n) (h0 : 0 < n) (hc : ∀ j v, vs[j]? = some v → W.cell? ⟨b, off + j, none⟩ = some v) (hl : vs.all lit1 = true) :
    b < W.heap.size ∧ ∃ cs, (st0 W).objs b = some (.cells cs false) ∧ takeN cs off n = some vs := by
  have get : ∀ j v, vs[j]? = some v → ∃ arr ty fr, W.heap[b]? = some (.cells arr ty fr) ∧ arr[off + j]? = some v := by
    intro j v hv
    have := hc j v hv
    simp only [World.cell?] at this
    split at this
    · rename_i arr ty fr hb; exact ⟨arr, ty, fr, hb, this⟩
    · cases this
  obtain ⟨v0, hv0⟩ : ∃ v, vs[0]? = some v := ⟨vs[0], by simp [hn, h0]⟩
  obtain ⟨arr, ty, fr, hb, _⟩ := get 0 v0 hv0
  refine ⟨(Array.getElem?_eq_some_iff.1 hb).1, arr.toList.map (san W.heap.size), by simp only [st0, hb], ?_⟩
  have at_ : ∀ j v, vs[j]? = some v → arr.toList[off + j]? = some v := by
    intro j v hv
    obtain ⟨arr', ty', fr', hb', h⟩ := get j v hv
    rw [hb] at hb'; cases hb'
    simpa using h
  have hlen : off + n ≤ arr.toList.length := by
    obtain ⟨v, hv⟩ : ∃ v, vs[n - 1]? = some v := ⟨vs[n - 1], by simp [hn]⟩
    have := (List.getElem?_eq_some_iff.1 (at_ _ _ hv)).1
    omega
  unfold takeN
  rw [if_pos (by rw [List.length_map]; exact hlen)]
  congr 1
  apply List.ext_getElem?
  intro j
  rw [List.getElem?_take]
  split
  · rename_i hj
    rw [List.getElem?_drop, List.getElem?_map]
    have hv : vs[j]? = some vs[j] := by simp [hn, hj]
    rw [at_ j _ hv, hv]
    simp only [Option.map_some]
    congr 1
    exact san_lit (List.all_eq_true.1 hl _ (List.getElem_mem _))
  · rename_i hj
    exact (List.getElem?_eq_none (by omega)).symm
end Go.Abs
