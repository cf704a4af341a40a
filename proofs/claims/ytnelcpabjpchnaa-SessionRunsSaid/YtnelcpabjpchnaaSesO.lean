/- The document's Players. -/
import Derived.Test.YtnelcpabjpchnaaSesN
set_option linter.unusedSimpArgs false
set_option linter.unusedVariables false
set_option maxHeartbeats 4000000
namespace Go.Proofs.Ytnelcpabjpchnaa
open Go.Abs Go.IntWalk
attribute [local congr] bindV_weak condK_weak guardK_weak groupK_weak allocE_weak boxE_weak storeE_weak storeM_weak tabC_weak ite_weak idG_weak appendE_weak buildSliceE_weak mapUpdateE_weak deleteE_weak makeMapE_weak copyE_weak clearE_weak callE_weak

def rplayersO : Abs.Spec := fun args h k => ∃ (E : Nat → Prop) (lv : Value) (most : Nat) (idle : Int) (M : List Lk) (L : List Nat), args = [encR lv most idle] ∧ M.length ≤ 100000 ∧ RtS E h lv M ∧ (∀ x ∈ M, x.player ≠ 0 → rightId x.player = true) ∧ L.length ≤ 100000 ∧ L.Pairwise (· < ·) ∧ (∀ q, q ∈ L ↔ ∃ x ∈ M, x.player = q ∧ q ≠ 0) ∧
  ∀ h' sv, Chg h h' [] → OwnS (fun i => h.next ≤ i) h' sv 1 (L.map fun (q : Nat) => Value.int .u32 (q : Int)) L.length → k sv h'
def tabRp : List (FuncId × Abs.Spec) := [(52, hputO), (53, hidsO)]
theorem rplayers_l0 {nn b1 b3 : Nat} {lv x2 : Value} {E : Nat → Prop} {most : Nat} {idle : Int} {M : List Lk} {L : List Nat} {h0 hb : St} {k : Cont} (few : M.length ≤ 100000) (s : RtS E h0 lv M) (rt : ∀ x ∈ M, x.player ≠ 0 → rightId x.player = true) (lew : L.length ≤ 100000) (srt : L.Pairwise (· < ·)) (mem : ∀ q, q ∈ L ↔ ∃ x ∈ M, x.player = q ∧ q ≠ 0)
    (c0 : Chg h0 hb []) (n1 : h0.next ≤ b1) (n13 : b1 < b3) (n3 : b3 < hb.next) (o1 : hb.objs b1 = some (.cells [lv, .int .i64 (most : Int), .int .i64 idle] true))
    (H : ∀ h' sv, Chg h0 h' [] → OwnS (fun i => h0.next ≤ i) h' sv 1 (L.map fun (q : Nat) => Value.int .u32 (q : Int)) L.length → k sv h') :
    ∀ (d i m0 : Nat) (h : St) (lvr : Value) (R : List Nat), i + d = M.length → d < m0 → ChgP (fun j => j = b3 ∨ hb.next ≤ j) hb h → h.objs b3 = some (.cells [lvr, .int .i64 (M.length : Int)] true) → JtS (fun j => hb.next ≤ j) h lvr R → R.length ≤ i → (∀ q, q ∈ R ↔ ∃ x ∈ M.take i, x.player = q ∧ q ≠ 0) →
      tiltyardref10_Players_l0 (tabC tabRp) idG nn m0 (.pointer (some ⟨b1, 0, none⟩)) x2 (.pointer (some ⟨b3, 0, none⟩)) (.int .i64 (i : Int)) h (fun v h1 => ∃ h2, St.le h2 h1 ∧ k v h2) := by
  have mb := c0.1
  intro d
  induction d with
  | zero =>
    intro i m0 h lvr R hi hm ch o3 sr rl rm
    obtain ⟨m0, rfl⟩ : ∃ m, m0 = m + 1 := ⟨m0 - 1, by omega⟩
    rw [tiltyardref10_Players_l0_eq]
    have e' : i = M.length := by omega
    subst e'
    rw [List.take_length] at rm
    have o1' := ch.at (by omega) (by omega) o1
    have cc := chg_loop c0 ch (by omega)
    have mh := ch.1
    simp only [offV_ptr, bindV_some, loadV_ptr, o1', loadM_cells, partV_one, List.getElem?_cons_zero, Nat.zero_add, OwnS.len s, binV_lss, condK_bool, Int.lt_irrefl, decide_false, Bool.false_eq_true, if_false, idG_eq]
    rw [tiltyardref10_Players_j2_eq, boxJ_load sr o3]
    simp only [bindV_some]
    refine .inr (.inl ⟨rfl, fun j => hb.next ≤ j, lvr, M.length, R, L, rfl, by omega, lew, srt, fun q => (mem q).trans (rm q).symm, fun q hq => by obtain ⟨x, _, _, h0⟩ := (mem q).1 hq; omega, sr, fun h1 sv c1 s1 => ?_⟩)
    exact ⟨h1, St.le.refl _, H h1 sv (cc.seq c1) (s1.imp fun j _ hj => by omega)⟩
  | succ d ih =>
    intro i m0 h lvr R hi hm ch o3 sr rl rm
    obtain ⟨m0, rfl⟩ : ∃ m, m0 = m + 1 := ⟨m0 - 1, by omega⟩
    rw [tiltyardref10_Players_l0_eq]
    have hlt : (i : Int) < M.length := by omega
    have inc : IntKind.i64.wrap ((i : Int) + 1) = ((i + 1 : Nat) : Int) := by rw [i64_in _ (by omega)]; omega
    have o1' := ch.at (by omega) (by omega) o1
    have cc := chg_loop c0 ch (by omega)
    have mh := ch.1
    obtain ⟨b', o', g1, g2⟩ := s.row0 (show i < M.length by omega) .i64
    obtain ⟨cs, g4, _, _, g6, _⟩ := g2 h cc
    have hx : M[i] ∈ M := List.getElem_mem _
    obtain ⟨x, ex⟩ : ∃ x, x = M[i] := ⟨_, rfl⟩
    rw [← ex] at g6 hx
    have tak : M.take (i + 1) = M.take i ++ [x] := by rw [ex]; exact List.take_succ_eq_append_getElem (by omega)
    simp only [offV_ptr, bindV_some, loadV_ptr, o1', loadM_cells, partV_one, List.getElem?_cons_zero, Nat.zero_add, OwnS.len s, binV_lss, condK_bool, hlt, decide_true, if_true, idG_eq, g1, g4, g6, binNil_int, binV_neq, decide_eq_true_eq]
    by_cases hp : x.player = 0
    · have hp' : ¬ (x.player : Int) ≠ 0 := by omega
      rw [if_neg hp']
      simp only [idG_eq]
      rw [tiltyardref10_Players_j1_eq]
      simp only [binNil_int, binV_add, bindV_some, inc, idG_eq]
      refine ih (i + 1) m0 h lvr R (by omega) (by omega) ch o3 sr (by omega) fun q => ?_
      rw [rm, tak]
      constructor
      · rintro ⟨y, hy, e⟩; exact ⟨y, List.mem_append_left _ hy, e⟩
      · rintro ⟨y, hy, e⟩
        rcases List.mem_append.1 hy with hy | hy
        · exact ⟨y, hy, e⟩
        · rw [List.mem_singleton.1 hy] at e; omega
    · have hp' : (x.player : Int) ≠ 0 := by omega
      rw [if_pos hp']
      rw [boxJ_load sr o3]
      simp only [bindV_some]
      refine ⟨trivial, ?_⟩
      simp only [offV_ptr, bindV_some, loadV_ptr, o1', loadM_cells, partV_one, List.getElem?_cons_zero, Nat.zero_add]
      refine ⟨trivial, ?_⟩
      simp only [g1, offV_ptr, bindV_some, loadV_ptr, g4, loadM_cells, partV_one, g6]
      refine ⟨trivial, ?_⟩
      refine .inl ⟨rfl, fun j => hb.next ≤ j, lvr, M.length, R, x.player, rfl, rt x hx hp, by omega, by omega, sr, fun h1 lv' c1 s1 => ⟨⟨trivial, trivial, trivial, trivial⟩, ?_⟩⟩
      have o31 := c1.at0 (by omega) o3
      have h1' := s1.one
      simp only [extV_two0, extV_two1, bindV_some]
      refine storeE_all o31 rfl rfl (by show allOne [lv', _] = true; simp only [allOne, h1', Bool.true_and]; rfl) fun h2 c2 n2 o2 => ⟨⟨trivial, trivial, trivial, trivial⟩, ?_⟩
      simp only [idG_eq]
      rw [tiltyardref10_Players_j1_eq]
      simp only [binNil_int, binV_add, bindV_some, inc, idG_eq]
      have dl : (dropR R x.player).length ≤ R.length := List.length_filter_le ..
      refine ih (i + 1) m0 h2 lv' (dropR R x.player ++ [x.player]) (by omega) (by omega) ((ch.seq c1).of_chg c2 (by simp)) o2 ?_ (by rw [List.length_append, List.length_singleton]; omega) fun q => ?_
      · exact OwnS.imp (OwnS.chg s1 c2 (by simp; omega)) fun j _ hj => by omega
      · have : q ∈ dropR R x.player ++ [x.player] ↔ q ∈ R ∨ q = x.player := by
          unfold dropR
          simp only [List.mem_append, List.mem_filter, decide_eq_true_eq, List.mem_singleton]
          constructor
          · rintro (⟨h, _⟩ | h)
            · exact .inl h
            · exact .inr h
          · rintro (h | h)
            · by_cases e : q = x.player
              · exact .inr e
              · exact .inl ⟨h, e⟩
            · exact .inr h
        rw [this, rm, tak]
        constructor
        · rintro (⟨y, hy, e⟩ | rfl)
          · exact ⟨y, List.mem_append_left _ hy, e⟩
          · exact ⟨x, List.mem_append_right _ (List.mem_singleton.2 rfl), rfl, hp⟩
        · rintro ⟨y, hy, e⟩
          rcases List.mem_append.1 hy with hy | hy
          · exact .inl ⟨y, hy, e⟩
          · rw [List.mem_singleton.1 hy] at e
            exact .inr e.1.symm
theorem rplayersO_good : SpecGood Try.prog (44, rplayersO) := by
  refine spec_good mixed Try.func44 (by kernel_rfl) (by kernel_rfl) (tab := tabRp) (by simp [tabRp, hputO_good, hidsO_good]) (keep := tiltyardref10_Players_keep) ?_
  rintro args h k ⟨E, lv, most, idle, M, L, rfl, few, s, rt, lew, srt, mem, H⟩
  refine ⟨M.length + 1, ?_⟩
  show tiltyardref10_Players (tabC tabRp) idG _ (encR lv most idle) h _
  rw [tiltyardref10_Players_eq]
  refine s.box most idle fun h1 c1 n1 o1 => ?_
  simp only [offV_ptr, bindV_some, loadV_ptr, o1, loadM_cells, partV_one, List.getElem?_cons_zero, Nat.zero_add, OwnS.len s, encJ_build]
  refine allocE_in fun h2 c2 n2 o2 => ?_
  refine storeE_all o2 rfl rfl rfl fun h3 c3 n3 o3 => ?_
  have o3 : h3.objs h1.next = some (.cells [.slice none 0 0, .int .i64 (M.length : Int)] true) := o3
  have o13 := c3.at1 (by omega) (by omega) (c2.at0 (by omega) o1)
  simp only [idG_eq]
  exact rplayers_l0 (b1 := h.next) (b3 := h1.next) few s rt lew srt mem ((c1.seq c2).new c3 (by omega)) (Nat.le_refl _) (by omega) (by omega) o13 H M.length 0 _ h3 _ [] (by omega) (by omega) (ChgP.refl _ _) o3 (.inl ⟨rfl, rfl, rfl⟩) (by simp) (by simp)
end Go.Proofs.Ytnelcpabjpchnaa
