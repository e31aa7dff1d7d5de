/- Sim, plain: numbers that rise are sorted as they are. -/
import Derived.Test.YtjmmbgjdfmceeaaSxDZ5
set_option linter.unusedVariables false
set_option linter.unusedSimpArgs false
namespace Go.Sx
theorem rise_get {l : List Int} (h : l.Pairwise (· < ·)) {i j : Nat} (hj : j < l.length) (hij : i < j) : l[i] < l[j] :=
  List.pairwise_iff_getElem.1 h i j (by omega) hj hij
theorem s75_rise {l : List Int} (h : l.Pairwise (· < ·)) (hl : l.length ≤ 100000) : D.f75F l = some l := by rw [s75_ok l hl, compS_self h]
end Go.Sx
