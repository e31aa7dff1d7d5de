/- Dfa: the law 'DfaNews'. -/
import Derived.Test.YtjmmbgjdfmceeaaSxDh
set_option linter.unusedVariables false
set_option linter.unusedSimpArgs false
namespace Go.Sx
theorem rightS_big {p : List Inst} (h : 1000 < p.length) : rightS p = false := by
  unfold rightS
  rw [decide_eq_false (show ¬ p.length ≤ 1000 by omega)]
  simp
theorem s42_any (p : List Inst) : D.f42F p = some (rightS p) := by
  by_cases hl : p.length ≤ 100000
  · exact s42_eq p hl
  · rw [rightS_big (by omega)]
    unfold D.f42F
    rw [if_neg (by simp only [beq_iff_eq]; omega), if_pos (by rw [decide_eq_true_eq]; omega)]
    rfl
theorem s26_any (p : List Inst) : D.f26F p = some (rightS p) := by
  by_cases hl : p.length ≤ 100000
  · exact s26_eq p hl
  · rw [rightS_big (by omega)]
    unfold D.f26F
    rw [if_neg (by rw [decide_eq_true_eq]; omega), if_pos (by rw [decide_eq_true_eq]; omega)]
    rfl
theorem s15_some (p : List Inst) (hl : p.length ≤ 9223372036854775807) : ∃ b, D.f15F p = some b := by
  unfold D.f15F
  suffices hh : ∃ r, Option.bind _ _ = some r ∧ True by
    obtain ⟨r, h, _⟩ := hh
    exact ⟨r, h⟩
  refine bind_ex (iter_rule (I := fun (s : Int × Int) => ∃ i : Nat, s.2 = (i : Int) ∧ i ≤ p.length) (Q := fun _ => True) (fun s => ((p.length : Int) - s.2).toNat) ?_ _ ⟨0, rfl, Nat.zero_le _⟩) fun e _ => ⟨_, rfl, trivial⟩
  rintro ⟨n, q⟩ ⟨i, hq, hi⟩
  dsimp only at hq ⊢
  subst hq
  by_cases hil : i < p.length
  · rw [if_pos (by rw [decide_eq_true_eq]; omega)]
    simp only [Option.bind_some]
    by_cases hn : n ≤ 1000
    · rw [if_pos (by rw [decide_eq_true_eq]; exact hn), if_pos (by omega), wrap_i64 (x := (i : Int) + 1) (by omega) (by omega)]
      exact .inl ⟨_, rfl, ⟨i + 1, rfl, hil⟩, by show ((p.length : Int) - ((i : Int) + 1)).toNat < ((p.length : Int) - (i : Int)).toNat; omega⟩
    · rw [if_neg (by rw [decide_eq_true_eq]; exact hn)]
      exact .inr ⟨_, rfl, trivial⟩
  · rw [if_neg (by rw [decide_eq_true_eq]; omega)]
    simp only [Option.bind_some, Bool.false_eq_true, if_false]
    exact .inr ⟨_, rfl, trivial⟩
theorem ranged_of {p : List Inst} (h : ∀ y ∈ p, Ty.wf (.st (.pair (.int .i64) (.pair (.sl (.st (.pair (.int .i64) (.int .i64)))) (.pair (.int .i64) (.int .i64))))) y) : ranged p := fun x hx => (h x hx).2.1.1
end Go.Sx
