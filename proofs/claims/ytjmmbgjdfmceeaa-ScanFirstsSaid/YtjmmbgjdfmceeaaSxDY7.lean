/- Sim, plain: numbers that rise are sorted as they are. -/
import Derived.Test.YtjmmbgjdfmceeaaSxDZ5
set_option linter.unusedVariables false
set_option linter.unusedSimpArgs false
namespace Go.Sx
end Go.Sx
