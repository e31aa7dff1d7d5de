/- Dfa: a cache is the same as itself; new ones. -/
import Derived.Test.YtjmmbgjdfmceeaaSxDg
import Derived.Test.YtjmmbgjdfmceeaaSxE9
import Derived.Test.YtjmmbgjdfmceeaaSxR
set_option linter.unusedVariables false
set_option linter.unusedSimpArgs false
namespace Go.Sx
end Go.Sx
