/- Token, plain: what is read behind another pattern; quoted texts. -/
import Derived.Test.YtemngcdlgnconaaSxTKh
set_option linter.unusedVariables false
set_option linter.unusedSimpArgs false
namespace Go.Sx
section
variable {l a b : List Int} {i : Nat} {t : List TknT}
end
end Go.Sx
