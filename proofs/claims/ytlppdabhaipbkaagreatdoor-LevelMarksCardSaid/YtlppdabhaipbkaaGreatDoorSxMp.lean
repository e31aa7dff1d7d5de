/- Level, plain: texts of letters alone. -/
import Derived.Test.YtlppdabhaipbkaaGreatDoorSxMi
set_option linter.unusedVariables false
set_option linter.unusedSimpArgs false
namespace Go.Sx
end Go.Sx
