/- Dfa: the longest. -/
import Derived.Test.YtjmmbgjdfmceeaaSxDf
set_option linter.unusedVariables false
set_option linter.unusedSimpArgs false
namespace Go.Sx
end Go.Sx
