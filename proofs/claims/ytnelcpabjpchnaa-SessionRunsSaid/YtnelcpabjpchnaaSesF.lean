/- Connections, plainly: who is where. -/
import Derived.Test.YtnelcpabjpchnaaSes
set_option linter.unusedSimpArgs false
set_option linter.unusedVariables false
set_option maxHeartbeats 4000000
namespace Go.Proofs.Ytnelcpabjpchnaa

abbrev Rise (M : List Lk) : Prop := M.Pairwise fun x y => x.conn < y.conn
theorem mem_putL {M : List Lk} (r : Rise M) (c p : Nat) (l : Int) (y : Lk) : y ∈ putL M c p l ↔ y = ⟨c, p, l⟩ ∨ (y ∈ M ∧ y.conn ≠ c) := by
  induction M with
  | nil => simp [putL]
  | cons x M ih =>
    obtain ⟨r1, r2⟩ := List.pairwise_cons.1 r
    rw [putL]
    by_cases h1 : c < x.conn
    · rw [if_pos h1]
      have : ∀ z ∈ x :: M, z.conn ≠ c := fun z hz => by
        rcases List.mem_cons.1 hz with rfl | hz
        · omega
        · have := r1 z hz; omega
      constructor
      · intro h
        rcases List.mem_cons.1 h with rfl | h
        · exact .inl rfl
        · exact .inr ⟨h, this y h⟩
      · rintro (rfl | ⟨h, _⟩)
        · exact List.mem_cons_self ..
        · exact List.mem_cons_of_mem _ h
    · rw [if_neg h1]
      by_cases h2 : x.conn = c
      · rw [if_pos h2]
        have : ∀ z ∈ M, z.conn ≠ c := fun z hz => by have := r1 z hz; omega
        constructor
        · intro h
          rcases List.mem_cons.1 h with rfl | h
          · exact .inl rfl
          · exact .inr ⟨List.mem_cons_of_mem _ h, this y h⟩
        · rintro (rfl | ⟨h, hn⟩)
          · exact List.mem_cons_self ..
          · rcases List.mem_cons.1 h with rfl | h
            · exact absurd h2 hn
            · exact List.mem_cons_of_mem _ h
      · rw [if_neg h2, List.mem_cons, ih r2, List.mem_cons]
        constructor
        · rintro (rfl | rfl | ⟨h, hn⟩)
          · exact .inr ⟨.inl rfl, h2⟩
          · exact .inl rfl
          · exact .inr ⟨.inr h, hn⟩
        · rintro (rfl | ⟨rfl | h, hn⟩)
          · exact .inr (.inl rfl)
          · exact .inl rfl
          · exact .inr (.inr ⟨h, hn⟩)
theorem mem_dropL {M : List Lk} (r : Rise M) (c : Nat) (y : Lk) : y ∈ dropL M c ↔ y ∈ M ∧ y.conn ≠ c := by
  induction M with
  | nil => simp [dropL]
  | cons x M ih =>
    obtain ⟨r1, r2⟩ := List.pairwise_cons.1 r
    rw [dropL]
    by_cases h2 : x.conn = c
    · rw [if_pos h2]
      constructor
      · intro h
        exact ⟨List.mem_cons_of_mem _ h, by have := r1 y h; omega⟩
      · rintro ⟨h, hn⟩
        rcases List.mem_cons.1 h with rfl | h
        · exact absurd h2 hn
        · exact h
    · rw [if_neg h2, List.mem_cons, ih r2, List.mem_cons]
      constructor
      · rintro (rfl | ⟨h, hn⟩)
        · exact ⟨.inl rfl, h2⟩
        · exact ⟨.inr h, hn⟩
      · rintro ⟨rfl | h, hn⟩
        · exact .inl rfl
        · exact .inr ⟨h, hn⟩
theorem dropL_sub : ∀ (M : List Lk) (c : Nat), (dropL M c).Sublist M
  | [], _ => .slnil
  | x :: M, c => by
    rw [dropL]
    split
    · exact List.sublist_cons_self ..
    · exact (dropL_sub M c).cons_cons x
theorem rise_drop {M : List Lk} (r : Rise M) (c : Nat) : Rise (dropL M c) := r.sublist (dropL_sub M c)
theorem getL_some {M : List Lk} {c : Nat} {x : Lk} (h : getL M c = some x) : x ∈ M ∧ x.conn = c := by
  induction M with
  | nil => cases h
  | cons y M ih =>
    rw [getL] at h
    split at h
    · rename_i hy
      cases h
      exact ⟨List.mem_cons_self .., hy⟩
    · exact ⟨List.mem_cons_of_mem _ (ih h).1, (ih h).2⟩
theorem getL_none {M : List Lk} {c : Nat} (h : getL M c = none) : ∀ x ∈ M, x.conn ≠ c := by
  induction M with
  | nil => simp
  | cons y M ih =>
    rw [getL] at h
    split at h
    · cases h
    · rename_i hy
      intro x hx
      rcases List.mem_cons.1 hx with rfl | hx
      · exact hy
      · exact ih h x hx
/-- Nobody is there twice. -/
def Uniq (M : List Lk) : Prop := ∀ x ∈ M, ∀ y ∈ M, x.player = y.player → x.player ≠ 0 → x = y
theorem Uniq.sub {M N : List Lk} (u : Uniq M) (h : ∀ x ∈ N, x ∈ M) : Uniq N := fun x hx y hy => u x (h x hx) y (h y hy)
theorem Uniq.put {M : List Lk} (u : Uniq M) (r : Rise M) {c p : Nat} {l : Int} (hp : p ≠ 0 → ∀ x ∈ M, x.player = p → x.conn = c) : Uniq (putL M c p l) := by
  intro x hx y hy e h0
  rw [mem_putL r] at hx hy
  rcases hx with rfl | ⟨hx, nx⟩
  · rcases hy with rfl | ⟨hy, ny⟩
    · rfl
    · exact absurd (hp h0 y hy e.symm) ny
  · rcases hy with rfl | ⟨hy, ny⟩
    · have e : x.player = p := e
      exact absurd (hp (by omega) x hx e) nx
    · exact u x hx y hy e h0
theorem uniq_open {M : List Lk} (u : Uniq M) (r : Rise M) (most c : Nat) (now : Int) : Uniq (openNext M most c now) := by
  unfold openNext
  split
  · exact u.put r fun h => absurd rfl h
  · exact u
theorem uniq_put {M : List Lk} (u : Uniq M) (r : Rise M) {most c p : Nat} {l : Int} (hp : p ≠ 0 → ∀ x ∈ M, x.player = p → x.conn = c) : Uniq (putNext M most c p l) := by
  unfold putNext
  split
  · exact u.put r hp
  · exact u
theorem uniq_touch {M : List Lk} (u : Uniq M) (r : Rise M) (most c : Nat) (now : Int) : Uniq (touchNext M most c now) := by
  unfold touchNext
  split
  · rename_i x hx
    obtain ⟨xm, xc⟩ := getL_some hx
    refine uniq_put u r fun h0 y hy e => ?_
    rw [← u x xm y hy e.symm h0]
    exact xc
  · exact u
theorem uniq_logout {M : List Lk} (u : Uniq M) (r : Rise M) (most c : Nat) : Uniq (logoutNext M most c) := by
  unfold logoutNext
  split
  · exact u
  · split
    · exact u
    · exact uniq_put u r fun h => absurd rfl h
theorem uniq_close {M : List Lk} (u : Uniq M) (c : Nat) : Uniq (closeNext M c) := by
  unfold closeNext
  split
  · exact u
  · exact u.sub fun x hx => (dropL_sub M c).subset hx
theorem connOf_spec {M : List Lk} (p : Nat) (ids : ∀ x ∈ M, 1 ≤ x.conn) : (connOf M p = 0 → ∀ x ∈ M, p ≠ 0 → x.player ≠ p) ∧ (connOf M p ≠ 0 → ∃ x ∈ M, x.player = p ∧ p ≠ 0 ∧ x.conn = connOf M p) := by
  unfold connOf
  cases hf : M.filter (isAt p) with
  | nil =>
    refine ⟨fun _ x hx hp e => ?_, fun h => absurd rfl h⟩
    have : x ∈ M.filter (isAt p) := List.mem_filter.2 ⟨hx, by simp [isAt, hp, e]⟩
    rw [hf] at this
    cases this
  | cons x R =>
    have hx : x ∈ M.filter (isAt p) := by rw [hf]; exact List.mem_cons_self ..
    obtain ⟨h1, h2⟩ := List.mem_filter.1 hx
    have h2 : p ≠ 0 ∧ x.player = p := by simpa [isAt] using h2
    have := ids x h1
    refine ⟨fun h => ?_, fun _ => ⟨x, h1, h2.2, h2.1, rfl⟩⟩
    have h : x.conn = 0 := h
    omega
/-- Behind a login nobody else is he. -/
theorem login_only {M : List Lk} (u : Uniq M) (r : Rise M) (ids : ∀ x ∈ M, 1 ≤ x.conn) (p : Nat) : ∀ x ∈ (if connOf M p = 0 then M else dropL M (connOf M p)), p ≠ 0 → x.player ≠ p := by
  obtain ⟨h1, h2⟩ := connOf_spec p ids
  intro x hx hp e
  by_cases h : connOf M p = 0
  · rw [if_pos h] at hx
    exact h1 h x hx hp e
  · rw [if_neg h, mem_dropL r] at hx
    obtain ⟨y, ym, ye, _, yc⟩ := h2 h
    have : x = y := u x hx.1 y ym (by rw [e, ye]) (by omega)
    subst this
    exact hx.2 yc
theorem rise_if {M : List Lk} (r : Rise M) (p : Nat) : Rise (if connOf M p = 0 then M else dropL M (connOf M p)) := by
  split
  · exact r
  · exact rise_drop r _
theorem uniq_if {M : List Lk} (u : Uniq M) (p : Nat) : Uniq (if connOf M p = 0 then M else dropL M (connOf M p)) := by
  split
  · exact u
  · exact u.sub fun x hx => (dropL_sub M _).subset hx
theorem uniq_login {M : List Lk} (u : Uniq M) (r : Rise M) (ids : ∀ x ∈ M, 1 ≤ x.conn) (most c p : Nat) (now : Int) : Uniq (loginNext M most c p now) := by
  unfold loginNext
  split
  · exact u
  · split
    · split
      · exact uniq_put (uniq_if u p) (rise_if r p) fun hp x hx e => absurd e (login_only u r ids p x hx hp)
      · exact u
    · exact u
theorem playerOf_at {M : List Lk} (r : Rise M) {x : Lk} (hx : x ∈ M) : playerOf M x.conn = x.player := by
  unfold playerOf; rw [getL_at r hx]; rfl
/-- Who logged in is there. -/
theorem login_there {M : List Lk} (u : Uniq M) (r : Rise M) (ids : ∀ x ∈ M, 1 ≤ x.conn) {most c p : Nat} {now : Int} (ok : (loginAns M most c p).2 = 0) (r' : Rise (loginNext M most c p now)) (ids' : ∀ x ∈ loginNext M most c p now, 1 ≤ x.conn) :
    connOf (loginNext M most c p now) p = c ∧ playerOf (loginNext M most c p now) c = p := by
  unfold loginAns at ok
  unfold loginNext at r' ids' ⊢
  cases hg : getL M c with
  | none => rw [hg] at ok; cases ok
  | some x =>
    rw [hg] at ok
    simp only [hg] at r' ids' ⊢
    by_cases hr : rightId p = true
    · have hp0 : p ≠ 0 := by simp [rightId] at hr; omega
      simp only [if_pos hr] at ok r' ids' ⊢
      by_cases hp : x.player = 0
      · simp only [if_pos hp] at ok r' ids' ⊢
        have only := login_only u r ids p
        have rr := rise_if r p
        obtain ⟨M1, hM⟩ : ∃ M1, M1 = (if connOf M p = 0 then M else dropL M (connOf M p)) := ⟨_, rfl⟩
        rw [← hM] at ok r' ids' only rr ⊢
        have ok : putAns M1 most c = 0 := ok
        unfold putNext at r' ids' ⊢
        rw [if_pos ok] at r' ids' ⊢
        have me : (⟨c, p, now⟩ : Lk) ∈ putL M1 c p now := (mem_putL rr c p now _).2 (.inl rfl)
        refine ⟨?_, playerOf_at r' me⟩
        obtain ⟨h1, h2⟩ := connOf_spec p ids'
        have : connOf (putL M1 c p now) p ≠ 0 := fun h => h1 h _ me hp0 rfl
        obtain ⟨y, ym, ye, _, yc⟩ := h2 this
        rw [← yc]
        rcases (mem_putL rr c p now y).1 ym with rfl | ⟨ym, _⟩
        · rfl
        · exact absurd ye (only y ym hp0)
      · simp only [if_neg hp] at ok; cases ok
    · simp only [if_neg hr] at ok; cases ok
/-! ### who is logged in -/
theorem mem_logged {M : List Lk} {q : Int} : q ∈ loggedOf M ↔ ∃ x ∈ M, x.player ≠ 0 ∧ (x.player : Int) = q := by
  unfold loggedOf
  simp only [List.mem_map, List.mem_filter, decide_eq_true_eq]
  constructor
  · rintro ⟨x, ⟨h1, h2⟩, h3⟩; exact ⟨x, h1, h2, h3⟩
  · rintro ⟨x, h1, h2, h3⟩; exact ⟨x, ⟨h1, h2⟩, h3⟩
theorem logged_nodup {M : List Lk} (u : Uniq M) (r : Rise M) : (loggedOf M).Nodup := by
  unfold loggedOf
  rw [List.Nodup, List.pairwise_map]
  have r2 : (M.filter fun x => decide (x.player ≠ 0)).Pairwise fun x y => x.conn < y.conn := r.sublist List.filter_sublist
  refine r2.imp_of_mem ?_
  intro x y hx hy lt e
  obtain ⟨x1, x2⟩ := List.mem_filter.1 hx
  obtain ⟨y1, y2⟩ := List.mem_filter.1 hy
  have x2 : x.player ≠ 0 := by simpa using x2
  have : x = y := u x x1 y y1 (by omega) x2
  subst this
  omega
theorem rise_sorted {L : List Int} (s : L.Pairwise (· ≤ ·)) (n : L.Nodup) : L.Pairwise (· < ·) := by
  have := s.and n
  exact this.imp fun h => by obtain ⟨h1, h2⟩ := h; omega
theorem player_conn {M : List Lk} (r : Rise M) (ids : ∀ x ∈ M, 1 ≤ x.conn) {q : Nat} (h : ∃ x ∈ M, x.player ≠ 0 ∧ x.player = q) : playerOf M (connOf M q) = q := by
  obtain ⟨x, hx, h0, e⟩ := h
  obtain ⟨h1, h2⟩ := connOf_spec q ids
  have : connOf M q ≠ 0 := fun h => h1 h x hx (by omega) e
  obtain ⟨y, ym, ye, _, yc⟩ := h2 this
  rw [← yc, playerOf_at r ym, ye]
end Go.Proofs.Ytnelcpabjpchnaa
