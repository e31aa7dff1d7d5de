/- Level, plain: which classes and levels there are in the end. -/
import Derived.Test.YtlppdabhaipbkaaGreatDoorSxMp
set_option linter.unusedVariables false
set_option linter.unusedSimpArgs false
namespace Go.Sx
end Go.Sx
