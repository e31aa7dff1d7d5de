/- Dfa: caches that may be; those that are copied. -/
import Derived.Test.YtjmmbgjdfmceeaaSxDc
set_option linter.unusedVariables false
set_option linter.unusedSimpArgs false
namespace Go.Sx
end Go.Sx
