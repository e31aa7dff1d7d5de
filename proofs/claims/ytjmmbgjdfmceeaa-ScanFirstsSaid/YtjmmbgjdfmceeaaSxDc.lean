/- Dfa: states that are found, and gone on from. -/
import Derived.Test.YtjmmbgjdfmceeaaSxDb
set_option linter.unusedVariables false
set_option linter.unusedSimpArgs false
namespace Go.Sx
end Go.Sx
