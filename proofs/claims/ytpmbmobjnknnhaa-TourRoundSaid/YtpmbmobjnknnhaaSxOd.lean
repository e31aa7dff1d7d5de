/- Going round, plain: the best of those that a test lets; how many stand ahead; the next one, and the one ahead. -/
import Derived.Test.YtpmbmobjnknnhaaSxS
set_option linter.unusedVariables false
set_option linter.unusedSimpArgs false
namespace Go.Sx
def bestI (q : Nat → Bool) (bt : Nat → Nat → Bool) : Nat → Option Nat
  | 0 => none
  | i + 1 => match bestI q bt i with
    | none => if q i = true then some i else none
    | some j => if q i = true then (if bt i j = true then some i else some j) else some j
theorem bestI_spec {q : Nat → Bool} {bt : Nat → Nat → Bool} {R : Nat → Nat → Prop} (hr : ∀ i, R i i) (ht : ∀ i j k, R i j → R j k → R i k) (h1 : ∀ i j, bt i j = true → R i j) (h0 : ∀ i j, bt i j = false → R j i) :
    ∀ n, (bestI q bt n = none ∧ ∀ k, k < n → q k = false) ∨ ∃ j, bestI q bt n = some j ∧ j < n ∧ q j = true ∧ ∀ k, k < n → q k = true → R j k
  | 0 => .inl ⟨rfl, fun k hk => absurd hk (Nat.not_lt_zero k)⟩
  | n + 1 => by
    rcases bestI_spec (q := q) hr ht h1 h0 n with ⟨e, h⟩ | ⟨j, e, hj, hq, h⟩
    · cases hqn : q n with
      | true =>
        refine .inr ⟨n, by simp [bestI, e, hqn], by omega, hqn, fun k hk hqk => ?_⟩
        by_cases hkn : k = n
        · subst hkn; exact hr k
        · have := h k (by omega); rw [hqk] at this; cases this
      | false =>
        refine .inl ⟨by simp [bestI, e, hqn], fun k hk => ?_⟩
        by_cases hkn : k = n
        · subst hkn; exact hqn
        · exact h k (by omega)
    · right
      cases hqn : q n with
      | false =>
        refine ⟨j, by simp [bestI, e, hqn], by omega, hq, fun k hk hqk => ?_⟩
        by_cases hkn : k = n
        · subst hkn; rw [hqn] at hqk; cases hqk
        · exact h k (by omega) hqk
      | true =>
        cases hb : bt n j with
        | true =>
          refine ⟨n, by simp [bestI, e, hqn, hb], by omega, hqn, fun k hk hqk => ?_⟩
          by_cases hkn : k = n
          · subst hkn; exact hr k
          · exact ht n j k (h1 n j hb) (h k (by omega) hqk)
        | false =>
          refine ⟨j, by simp [bestI, e, hqn, hb], by omega, hq, fun k hk hqk => ?_⟩
          by_cases hkn : k = n
          · subst hkn; exact h0 k j hb
          · exact h k (by omega) hqk
def rk (cs : Nat → Int) (n i : Nat) : Nat := (List.range n).countP fun k => decide (cs k < cs i)
theorem countP_or {p : Nat → Bool} {a : Nat} (hp : p a = false) : ∀ n, a < n → (List.range n).countP (fun k => p k || k == a) = (List.range n).countP p + 1
  | 0, h => absurd h (Nat.not_lt_zero a)
  | n + 1, h => by
    rw [List.range_succ, List.countP_append, List.countP_append]
    by_cases han : a = n
    · subst han
      have : (List.range a).countP (fun k => p k || k == a) = (List.range a).countP p := by
        refine List.countP_congr fun k hk => ?_
        have : k < a := List.mem_range.1 hk
        simp
        omega
      rw [this]
      simp [hp]
    · have ih := countP_or hp n (by omega)
      have : (n == a) = false := by simp; omega
      rw [ih]
      simp [this]
      omega
section
variable {cs : Nat → Int} {n : Nat}
theorem rk_up {i : Nat} (h : i < n) : (List.range n).countP (fun k => decide (cs k < cs i) || k == i) = rk cs n i + 1 := countP_or (by simp) n h
theorem rk_lt {i : Nat} (h : i < n) : rk cs n i < n := by
  have h1 := rk_up (cs := cs) h
  have h2 : (List.range n).countP (fun k => decide (cs k < cs i) || k == i) ≤ (List.range n).length := List.countP_le_length
  rw [List.length_range] at h2
  omega
theorem rk_mono {i j : Nat} (hi : i < n) (h : cs i < cs j) : rk cs n i < rk cs n j := by
  have h1 := rk_up (cs := cs) hi
  have h2 : (List.range n).countP (fun k => decide (cs k < cs i) || k == i) ≤ rk cs n j := by
    refine List.countP_mono_left fun k _ hk => ?_
    simp only [Bool.or_eq_true, decide_eq_true_eq, beq_iff_eq] at hk ⊢
    rcases hk with hk | hk
    · omega
    · subst hk; exact h
  omega
theorem rk_inj (inj : ∀ i j, i < n → j < n → cs i = cs j → i = j) {i j : Nat} (hi : i < n) (hj : j < n) (h : rk cs n i = rk cs n j) : i = j := by
  by_cases h1 : cs i < cs j
  · have := rk_mono hi h1; omega
  by_cases h2 : cs j < cs i
  · have := rk_mono hj h2; omega
  exact inj i j hi hj (by omega)
theorem rk_next (inj : ∀ i j, i < n → j < n → cs i = cs j → i = j) {a j : Nat} (ha : a < n) (h : cs a < cs j) (hl : ∀ k, k < n → cs a < cs k → cs j ≤ cs k) : rk cs n j = rk cs n a + 1 := by
  rw [← rk_up ha]
  refine List.countP_congr fun k hk => ?_
  have hk : k < n := List.mem_range.1 hk
  simp only [Bool.or_eq_true, decide_eq_true_eq, beq_iff_eq]
  constructor
  · intro hkj
    by_cases hka : k = a
    · exact .inr hka
    · left
      have h1 := hl k hk
      have h2 : cs k ≠ cs a := fun e => hka (inj k a hk ha e)
      omega
  · rintro (h1 | rfl) <;> omega
theorem rk_top (inj : ∀ i j, i < n → j < n → cs i = cs j → i = j) {a : Nat} (ha : a < n) (h : ∀ k, k < n → cs k ≤ cs a) : rk cs n a + 1 = n := by
  rw [← rk_up ha]
  have : (List.range n).countP (fun k => decide (cs k < cs a) || k == a) = (List.range n).countP (fun _ => true) := by
    refine List.countP_congr fun k hk => ?_
    have hk : k < n := List.mem_range.1 hk
    simp only [Bool.or_eq_true, decide_eq_true_eq, beq_iff_eq, iff_true]
    by_cases hka : k = a
    · exact .inr hka
    · left
      have h1 := h k hk
      have h2 : cs k ≠ cs a := fun e => hka (inj k a hk ha e)
      omega
  rw [this]
  simp
theorem rk_bot {a : Nat} (h : ∀ k, k < n → cs a ≤ cs k) : rk cs n a = 0 := by
  unfold rk
  rw [List.countP_eq_zero]
  intro k hk
  have := h k (List.mem_range.1 hk)
  simp
  omega
def nxt (cs : Nat → Int) (n a : Nat) : Option Nat × Bool :=
  match bestI (fun k => decide (cs a < cs k)) (fun i j => decide (cs i < cs j)) n with
  | some j => (some j, false)
  | none => match bestI (fun _ => true) (fun i j => decide (cs i < cs j)) n with
    | some j => (some j, true)
    | none => (none, false)
def prv (cs : Nat → Int) (n a : Nat) : Option Nat × Bool :=
  match bestI (fun k => decide (cs k < cs a)) (fun i j => decide (cs j ≤ cs i)) n with
  | some j => (some j, false)
  | none => match bestI (fun _ => true) (fun i j => decide (cs j ≤ cs i)) n with
    | some j => (some j, true)
    | none => (none, false)
theorem nxt_spec (inj : ∀ i j, i < n → j < n → cs i = cs j → i = j) {a : Nat} (ha : a < n) :
    ∃ j w, nxt cs n a = (some j, w) ∧ j < n ∧ ((w = true ∧ rk cs n a + 1 = n ∧ rk cs n j = 0) ∨ (w = false ∧ rk cs n j = rk cs n a + 1)) := by
  have hr : ∀ i, cs i ≤ cs i := fun i => by omega
  have ht : ∀ i j k, cs i ≤ cs j → cs j ≤ cs k → cs i ≤ cs k := fun i j k h1 h2 => by omega
  have h1 : ∀ i j, decide (cs i < cs j) = true → cs i ≤ cs j := fun i j h => by rw [decide_eq_true_eq] at h; omega
  have h0 : ∀ i j, decide (cs i < cs j) = false → cs j ≤ cs i := fun i j h => by rw [decide_eq_false_iff_not] at h; omega
  unfold nxt
  rcases bestI_spec (q := fun k => decide (cs a < cs k)) (R := fun i j => cs i ≤ cs j) hr ht h1 h0 n with ⟨e, h⟩ | ⟨j, e, hj, hq, h⟩
  · rw [e]
    rcases bestI_spec (q := fun _ => true) (R := fun i j => cs i ≤ cs j) hr ht h1 h0 n with ⟨e2, h2⟩ | ⟨j, e2, hj, _, h2⟩
    · have := h2 a ha
      cases this
    · rw [e2]
      refine ⟨j, true, rfl, hj, .inl ⟨rfl, rk_top inj ha fun k hk => ?_, rk_bot fun k hk => h2 k hk rfl⟩⟩
      have := h k hk
      rw [decide_eq_false_iff_not] at this
      omega
  · rw [e]
    refine ⟨j, false, rfl, hj, .inr ⟨rfl, rk_next inj ha (by rwa [decide_eq_true_eq] at hq) fun k hk hak => h k hk (by rw [decide_eq_true_eq]; exact hak)⟩⟩
theorem prv_spec (inj : ∀ i j, i < n → j < n → cs i = cs j → i = j) {a : Nat} (ha : a < n) :
    ∃ j w, prv cs n a = (some j, w) ∧ j < n ∧ ((w = true ∧ rk cs n a = 0 ∧ rk cs n j + 1 = n) ∨ (w = false ∧ rk cs n j + 1 = rk cs n a)) := by
  have hr : ∀ i, cs i ≤ cs i := fun i => by omega
  have ht : ∀ i j k, cs j ≤ cs i → cs k ≤ cs j → cs k ≤ cs i := fun i j k h1 h2 => by omega
  have h1 : ∀ i j, decide (cs j ≤ cs i) = true → cs j ≤ cs i := fun i j h => by rw [decide_eq_true_eq] at h; omega
  have h0 : ∀ i j, decide (cs j ≤ cs i) = false → cs i ≤ cs j := fun i j h => by rw [decide_eq_false_iff_not] at h; omega
  unfold prv
  rcases bestI_spec (q := fun k => decide (cs k < cs a)) (R := fun i j => cs j ≤ cs i) hr ht h1 h0 n with ⟨e, h⟩ | ⟨j, e, hj, hq, h⟩
  · rw [e]
    rcases bestI_spec (q := fun _ => true) (R := fun i j => cs j ≤ cs i) hr ht h1 h0 n with ⟨e2, h2⟩ | ⟨j, e2, hj, _, h2⟩
    · have := h2 a ha
      cases this
    · rw [e2]
      refine ⟨j, true, rfl, hj, .inl ⟨rfl, rk_bot fun k hk => ?_, rk_top inj hj fun k hk => h2 k hk rfl⟩⟩
      have := h k hk
      rw [decide_eq_false_iff_not] at this
      omega
  · rw [e]
    rw [decide_eq_true_eq] at hq
    refine ⟨j, false, rfl, hj, .inr ⟨rfl, (rk_next inj hj hq fun k hk hjk => ?_).symm⟩⟩
    by_cases hka : cs k < cs a
    · have := h k hk (by rw [decide_eq_true_eq]; exact hka)
      omega
    · omega
end
end Go.Sx
