/- Sim, plain: runs; the laws SimRuns and SimLongests. -/
import Derived.Test.YtjmmbgjdfmceeaaSxDY8
set_option linter.unusedVariables false
set_option linter.unusedSimpArgs false
namespace Go.Sx
theorem s17_eq {p : List Inst} {st sp : Bool} {A : List Int} (hp : rightS p = true) (hA : A.length ≤ 100000) : D.f17F (p, A, st, sp) = some (reachS p A st sp) := by
  obtain ⟨m, h1, h2⟩ := s17_ok (st := st) (sp := sp) hp hA
  rw [h1, h2.reachS]
end Go.Sx
