/- Scan: 'First', 'Cover', and the laws ScanCaches, ScanCovers, ScanFirsts. -/
import Derived.Test.YtjmmbgjdfmceeaaSxDj
set_option linter.unusedVariables false
set_option linter.unusedSimpArgs false
namespace Go.Sx
def FirstI (p : List Inst) (l : List Int) (a : Nat) (r : (Int × Int) × Bool) : Prop :=
  (∃ k : Nat, a ≤ k ∧ k ≤ l.length ∧ (∀ j : Nat, a ≤ j → j < k → lgS p l j < 0) ∧ 0 ≤ lgS p l k ∧ r = (((k : Int), lgS p l k), true)) ∨
  ((∀ j : Nat, a ≤ j → j ≤ l.length → lgS p l j < 0) ∧ r = ((0, 0), false))
theorem d38_no {p : List Inst} {l : List Int} {k : Int} (h : rightS p = false ∨ k < 0) : D.f38F (p, l, k) = some ((0, 0), false) := by
  unfold D.f38F
  dsimp only
  by_cases hk : k < 0
  · rw [if_pos (by rw [decide_eq_true_eq]; exact hk)]
    rfl
  · rw [if_neg (by rw [decide_eq_true_eq]; exact hk), s42_any, h.resolve_right hk]
    rfl
theorem d38_ok {p : List Inst} (hp : rightS p = true) (hr : ranged p) {l : List Int} (hll : l.length ≤ 10000) (a : Nat) (ha : a ≤ l.length + 1) : ∃ r, D.f38F (p, l, (a : Int)) = some r ∧ FirstI p l a r := by
  obtain ⟨_, _, hp1000⟩ := rightS_last hp
  unfold D.f38F
  dsimp only
  rw [if_neg (by rw [decide_eq_true_eq]; omega), s42_any, hp]
  simp only [Option.bind_some, Bool.not_true, Bool.false_eq_true, if_false]
  refine bind_ex (Q := fun e : (Int × Int) ⊕ (Bool × Int × Int) => ((∀ j : Nat, a ≤ j → j ≤ l.length → lgS p l j < 0) ∧ e = .inl (0, 0)) ∨ ∃ k : Nat, a ≤ k ∧ k ≤ l.length ∧ (∀ j : Nat, a ≤ j → j < k → lgS p l j < 0) ∧ 0 ≤ lgS p l k ∧ e = .inr (true, (k : Int), lgS p l k))
    (iter_rule (I := fun s : Int × Int × Int => ∃ k : Nat, s = ((k : Int), 0, 0) ∧ a ≤ k ∧ k ≤ l.length + 1 ∧ ∀ j : Nat, a ≤ j → j < k → lgS p l j < 0) (fun s => ((l.length : Int) + 1 - s.1).toNat) ?_ _ ⟨a, rfl, Nat.le_refl _, ha, fun j h1 h2 => by omega⟩) ?_
  · rintro _ ⟨k, rfl, h1, h2, h3⟩
    dsimp only
    by_cases hk : k ≤ l.length
    · rw [if_pos (by rw [decide_eq_true_eq]; omega), s21_eq (by omega) hr l hll k]
      simp only [Option.bind_some]
      have hlg : lastOr (-1) (runS p l k).1 = lgS p l k := rfl
      rw [hlg]
      by_cases hl : 0 ≤ lgS p l k
      · rw [if_pos (by rw [decide_eq_true_eq]; exact hl)]
        exact .inr ⟨_, rfl, .inr ⟨k, h1, hk, h3, hl, rfl⟩⟩
      · rw [if_neg (by rw [decide_eq_true_eq]; exact hl), wrap_i64 (by omega) (by omega)]
        refine .inl ⟨_, rfl, ⟨k + 1, rfl, by omega, by omega, fun j q1 q2 => ?_⟩, by show ((l.length : Int) + 1 - ((k : Int) + 1)).toNat < ((l.length : Int) + 1 - (k : Int)).toNat; omega⟩
        rcases Nat.eq_or_lt_of_le (show j ≤ k by omega) with e | e
        · rw [e]; omega
        · exact h3 j q1 e
    · rw [if_neg (by rw [decide_eq_true_eq]; omega)]
      exact .inr ⟨_, rfl, .inl ⟨fun j q1 q2 => h3 j q1 (by omega), rfl⟩⟩
  · rintro e (⟨h, rfl⟩ | ⟨k, h1, h2, h3, h4, rfl⟩)
    · exact ⟨_, rfl, .inr ⟨h, rfl⟩⟩
    · exact ⟨_, rfl, .inl ⟨k, h1, h2, h3, h4, rfl⟩⟩
theorem d35_ok (p : List Inst) (l : List Int) (hl : p.length ≤ 9223372036854775807) : ∃ b, D.f35F (p, l) = some b ∧ (b = false → p.length ≤ 100 ∧ l.length ≤ 30) := by
  unfold D.f35F
  dsimp only
  obtain ⟨g, hg⟩ := s15_some p hl
  rw [hg]
  simp only [Option.bind_some]
  cases g with
  | true => exact ⟨_, rfl, fun h => by cases h⟩
  | false =>
    rw [if_neg (by decide)]
    by_cases h1 : (p.length : Int) > 100
    · rw [if_pos (by rw [decide_eq_true_eq]; exact h1)]
      exact ⟨_, rfl, fun h => by cases h⟩
    · rw [if_neg (by rw [decide_eq_true_eq]; exact h1)]
      refine ⟨_, rfl, fun h => ?_⟩
      rw [decide_eq_false_iff_not] at h
      omega
theorem d40_self (a : List (Int × Int)) (hl : a.length ≤ 9223372036854775807) : D.f40F (a, a) = some true := by
  unfold D.f40F
  dsimp only
  rw [if_neg (by simp)]
  rw [all_ok a.length hl (fun i hi => ?_) ?_]
  · rfl
  · rw [if_neg (by rw [decide_eq_true_eq]; omega)]
  · rw [if_pos (by rw [decide_eq_true_eq]; omega), if_pos (by omega), if_pos (by omega), pair_same, if_neg (by decide)]
theorem AllI.len {p : List Inst} {l : List Int} {a : Nat} {r : List (Int × Int)} (h : AllI p l a r) (ha : a ≤ l.length + 1) : r.length ≤ l.length + 1 - a := by
  induction h with
  | nil _ => simp
  | @cons a k r h1 h2 h3 h4 h5 ih =>
    have hin := (lgS_in p l k).resolve_left (by omega)
    have := ih (by omega)
    rw [List.length_cons]
    omega
end Go.Sx
