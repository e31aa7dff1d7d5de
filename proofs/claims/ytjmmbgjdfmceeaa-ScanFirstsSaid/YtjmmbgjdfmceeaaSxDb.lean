/- Dfa: what looks at a cache. -/
import Derived.Test.YtjmmbgjdfmceeaaSxDa
set_option linter.unusedVariables false
set_option linter.unusedSimpArgs false
namespace Go.Sx
end Go.Sx
