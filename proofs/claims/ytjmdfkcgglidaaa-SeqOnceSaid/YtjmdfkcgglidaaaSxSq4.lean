/- Seq, plain: chains of numbers. -/
import Derived.Test.YtjmdfkcgglidaaaSxS
set_option linter.unusedVariables false
set_option linter.unusedSimpArgs false
namespace Go.Sx

section
variable (nx : Nat → Option Nat)

def prevOf (k : Nat) : Option Nat := (List.range k).find? fun i => nx i == some k
def rankH (k : Nat) : Nat := ((List.range k).filter fun i => (prevOf nx i).isNone).length

theorem prevOf_some {k i : Nat} (h : prevOf nx k = some i) : i < k ∧ nx i = some k := by
  unfold prevOf at h
  have h1 := List.mem_of_find?_eq_some h
  have h2 := List.find?_some h
  exact ⟨by simpa using h1, by simpa using h2⟩

theorem prevOf_none {k i : Nat} (h : prevOf nx k = none) (hi : i < k) : nx i ≠ some k := by
  unfold prevOf at h
  have := List.find?_eq_none.1 h i (by simpa using hi)
  simpa using this

def sidx (k : Nat) : Nat := match h : prevOf nx k with
  | some i => sidx i
  | none => rankH nx k
termination_by k
decreasing_by exact (prevOf_some nx h).1

structure Chain (N : Nat) : Prop where
  up : ∀ i j, nx i = some j → i < j ∧ j < N
  inj : ∀ i j k, nx i = some k → nx j = some k → i = j

variable {nx} {N : Nat}

theorem sidx_head {k : Nat} (h : prevOf nx k = none) : sidx nx k = rankH nx k := by
  rw [sidx]
  split
  · rename_i i hi; rw [h] at hi; cases hi
  · rfl

theorem sidx_prev {k i : Nat} (h : prevOf nx k = some i) : sidx nx k = sidx nx i := by
  rw [sidx]
  split
  · rename_i j hj; rw [h] at hj; cases hj; rfl
  · rename_i hj; rw [h] at hj; cases hj

theorem Chain.prev (h : Chain nx N) {i k : Nat} (hk : nx i = some k) : prevOf nx k = some i := by
  cases hp : prevOf nx k with
  | none => exact absurd hk (prevOf_none nx hp (h.up i k hk).1)
  | some j => rw [h.inj j i k (prevOf_some nx hp).2 hk]

theorem Chain.sidx (h : Chain nx N) {i k : Nat} (hk : nx i = some k) : sidx nx k = sidx nx i := sidx_prev (h.prev hk)

theorem rankH_succ (nx : Nat → Option Nat) (k : Nat) : rankH nx (k + 1) = rankH nx k + if (prevOf nx k).isNone = true then 1 else 0 := by
  unfold rankH
  rw [List.range_succ, List.filter_append, List.length_append]
  cases h : (prevOf nx k).isNone with
  | true => simp [List.filter_cons, h]
  | false => simp [List.filter_cons, h]

theorem rankH_mono {i k : Nat} (h : i ≤ k) : rankH nx i ≤ rankH nx k := by
  induction k with
  | zero => have : i = 0 := by omega
            subst this; exact Nat.le_refl _
  | succ k ih =>
    by_cases hk : i = k + 1
    · subst hk; exact Nat.le_refl _
    · rw [rankH_succ]; have := ih (by omega); omega

theorem sidx_lt (nx : Nat → Option Nat) (k : Nat) : sidx nx k < rankH nx (k + 1) := by
  induction k using Nat.strongRecOn with
  | ind k ih =>
    cases hp : prevOf nx k with
    | none => rw [sidx_head hp, rankH_succ, hp]; simp
    | some i =>
      have hi := (prevOf_some nx hp).1
      rw [sidx_prev hp]
      exact Nat.lt_of_lt_of_le (ih i hi) (rankH_mono (by omega))

theorem Chain.gap (h : Chain nx N) : ∀ x k, k < x → Go.Sx.sidx nx x = Go.Sx.sidx nx k → ∃ j, nx k = some j ∧ j ≤ x := by
  intro x
  induction x using Nat.strongRecOn with
  | ind x ih =>
    intro k hk he
    cases hp : prevOf nx x with
    | none =>
      have h1 := sidx_lt nx k
      have h2 : rankH nx (k + 1) ≤ rankH nx x := rankH_mono (by omega)
      rw [sidx_head hp] at he
      omega
    | some i =>
      obtain ⟨hi, hn⟩ := prevOf_some nx hp
      rw [sidx_prev hp] at he
      rcases Nat.lt_trichotomy i k with h1 | h1 | h1
      · obtain ⟨j, h2, h3⟩ := ih k hk i h1 he.symm
        rw [hn] at h2; cases h2; omega
      · subst h1; exact ⟨x, hn, Nat.le_refl _⟩
      · obtain ⟨j, h2, h3⟩ := ih i hi k h1 he
        exact ⟨j, h2, by omega⟩

/-- The members ahead of a number. -/
def memb (nx : Nat → Option Nat) (k s : Nat) : List Nat := (List.range k).filter fun i => sidx nx i == s

theorem memb_succ (k s : Nat) : memb nx (k + 1) s = memb nx k s ++ if (sidx nx k == s) = true then [k] else [] := by
  unfold memb
  rw [List.range_succ, List.filter_append]
  congr 1
  simp only [List.filter_cons, List.filter_nil]

theorem memb_no {k d s : Nat} (h : ∀ x, k ≤ x → x < k + d → sidx nx x ≠ s) : memb nx (k + d) s = memb nx k s := by
  induction d with
  | zero => rfl
  | succ d ih =>
    rw [← Nat.add_assoc, memb_succ, ih (fun x h1 h2 => h x h1 (by omega)), if_neg (by simpa using h (k + d) (by omega) (by omega)), List.append_nil]

theorem memb_head {k : Nat} (hp : prevOf nx k = none) : memb nx k (sidx nx k) = [] := by
  have := memb_no (nx := nx) (k := 0) (d := k) (s := sidx nx k) (fun x _ hx he => by
    have h1 := sidx_lt nx x
    have h2 : rankH nx (x + 1) ≤ rankH nx k := rankH_mono (by omega)
    rw [sidx_head hp] at he
    omega)
  rw [Nat.zero_add] at this
  exact this

theorem Chain.memb_next (h : Chain nx N) {k j : Nat} (hk : nx k = some j) : memb nx j (Go.Sx.sidx nx k) = memb nx k (Go.Sx.sidx nx k) ++ [k] := by
  have hj := (h.up k j hk).1
  obtain ⟨d, rfl⟩ : ∃ d, j = k + 1 + d := ⟨j - (k + 1), by omega⟩
  rw [memb_no (fun x h1 h2 he => by
    obtain ⟨j', q1, q2⟩ := h.gap x k (by omega) he
    rw [hk] at q1; cases q1; omega), memb_succ, if_pos (by simp)]

theorem Chain.memb_last (h : Chain nx N) {k : Nat} (hkN : k < N) (hk : nx k = none) : memb nx N (Go.Sx.sidx nx k) = memb nx k (Go.Sx.sidx nx k) ++ [k] := by
  obtain ⟨d, rfl⟩ : ∃ d, N = k + 1 + d := ⟨N - (k + 1), by omega⟩
  rw [memb_no (fun x h1 h2 he => by
    obtain ⟨j', q1, q2⟩ := h.gap x k (by omega) he
    rw [hk] at q1; cases q1), memb_succ, if_pos (by simp)]

theorem heads_rank (k : Nat) : ((List.range k).filter fun i => (prevOf nx i).isNone).map (rankH nx) = List.range (rankH nx k) := by
  induction k with
  | zero => rfl
  | succ k ih =>
    rw [List.range_succ, List.filter_append, List.map_append, ih, rankH_succ]
    cases hp : (prevOf nx k).isNone with
    | true => rw [if_pos rfl, List.range_succ]; simp [List.filter_cons, hp]
    | false => simp [List.filter_cons, hp]

end
end Go.Sx
