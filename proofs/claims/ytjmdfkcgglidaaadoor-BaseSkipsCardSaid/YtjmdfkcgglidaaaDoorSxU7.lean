import Derived.Test.YtjmdfkcgglidaaaDoorSxU6
set_option linter.unusedVariables false
set_option linter.unusedSimpArgs false
namespace Go.Sx
theorem f22_eq (c : Int) : G.f22F c = some (opens c) := by
  unfold G.f22F opens
  by_cases h1 : c = 19
  · subst h1; rfl
  · by_cases h2 : c = 20
    · subst h2; rfl
    · simp [h1, h2]
end Go.Sx
