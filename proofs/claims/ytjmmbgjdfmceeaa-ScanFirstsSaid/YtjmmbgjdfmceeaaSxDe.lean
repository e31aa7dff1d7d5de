/- Dfa: the program's own copy; what is found by it. -/
import Derived.Test.YtjmmbgjdfmceeaaSxDd
set_option linter.unusedVariables false
set_option linter.unusedSimpArgs false
namespace Go.Sx
end Go.Sx
