/- Scan: 'First', 'Cover', and the laws ScanCaches, ScanCovers, ScanFirsts. -/
import Derived.Test.YtjmmbgjdfmceeaaSxDj
set_option linter.unusedVariables false
set_option linter.unusedSimpArgs false
namespace Go.Sx
end Go.Sx
