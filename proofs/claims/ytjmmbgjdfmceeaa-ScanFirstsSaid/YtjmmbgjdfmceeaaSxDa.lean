/- Dfa, plain: caches of states. -/
import Derived.Test.YtjmmbgjdfmceeaaSxDY9
set_option linter.unusedVariables false
set_option linter.unusedSimpArgs false
namespace Go.Sx
theorem rightS_last {p : List Inst} (hp : rightS p = true) : 0 < p.length ∧ (p.getD (p.length - 1) dI).1 = 0 ∧ p.length ≤ 1000 := by
  unfold rightS at hp
  simp only [Bool.and_eq_true, decide_eq_true_eq] at hp
  obtain ⟨⟨⟨h1, h2⟩, h3⟩, _⟩ := hp
  exact ⟨by cases p with
    | nil => exact absurd rfl h1
    | cons a r => simp, h3, h2⟩
end Go.Sx
