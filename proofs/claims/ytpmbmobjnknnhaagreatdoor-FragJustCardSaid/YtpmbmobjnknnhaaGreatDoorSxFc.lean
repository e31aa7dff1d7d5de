/- Frag: the reference's fragments and places; the law FragAnswers. -/
import Derived.Test.YtpmbmobjnknnhaaGreatDoorSxFb
import Derived.Test.YtpmbmobjnknnhaaGreatDoorSxRz
set_option linter.unusedVariables false
set_option linter.unusedSimpArgs false
namespace Go.Sx
end Go.Sx
