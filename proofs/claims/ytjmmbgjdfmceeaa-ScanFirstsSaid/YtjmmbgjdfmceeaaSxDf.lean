/- Dfa: is it matched; the longest. -/
import Derived.Test.YtjmmbgjdfmceeaaSxDe
set_option linter.unusedVariables false
set_option linter.unusedSimpArgs false
namespace Go.Sx
end Go.Sx
