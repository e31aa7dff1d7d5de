/- Scan, plain: what 'All' and 'First' find. -/
import Derived.Test.YtjmmbgjdfmceeaaSxDi
set_option linter.unusedVariables false
set_option linter.unusedSimpArgs false
namespace Go.Sx
theorem ex_to {A : Type} {x : Option A} {v : A} (h : ∃ r, x = some r ∧ r = v) : x = some v := by
  obtain ⟨r, h, rfl⟩ := h
  exact h
end Go.Sx
