/- The symbolic evaluator, part Rz: a law's call, whose arguments are no larger than memory. -/
import Derived.Test.YtpmbmobjnknnhaaGreatDoorSxR
set_option linter.unusedVariables false
set_option linter.unusedSimpArgs false
namespace Go.Sx
open Go.RowKit Go.ChangeShapes Go.WideShapes
section
variable {H:Type} {P:Program}
end
section
variable {H:Type} {enc:TypeId×Value→H} {P:Program} {W:World}
end
end Go.Sx
