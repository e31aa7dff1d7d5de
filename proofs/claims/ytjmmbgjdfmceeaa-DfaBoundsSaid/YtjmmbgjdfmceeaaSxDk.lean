/- Scan: 'First', 'Cover', and the laws ScanCaches, ScanCovers, ScanFirsts. -/
import Derived.Test.YtjmmbgjdfmceeaaSxDj
set_option linter.unusedVariables false
set_option linter.unusedSimpArgs false
namespace Go.Sx
theorem minI_eq (a b : Int) : minI a b = min a b := by
  unfold minI
  split <;> omega
end Go.Sx
