/- Tour: keys of spans are the reference's. -/
import Derived.Test.YtpmbmobjnknnhaaSxOb
import Derived.Test.YtpmbmobjnknnhaaSxEU
set_option linter.unusedVariables false
set_option linter.unusedSimpArgs false
namespace Go.Sx
end Go.Sx
