/- Token, plain: what is read behind another pattern; quoted texts. -/
import Derived.Test.YtemngcdlgnconaaSxTKh
set_option linter.unusedVariables false
set_option linter.unusedSimpArgs false
namespace Go.Sx
section
variable {l a b : List Int} {i : Nat} {t : List TknT}
end
theorem sign_esc {c : Int} (h : isSign c = true) : escM c = (c, false, true) := by
  unfold isSign at h
  simp only [List.contains_eq_mem, List.mem_cons, List.not_mem_nil, or_false, decide_eq_true_eq] at h
  unfold escM isGrp isSign
  simp only [List.contains_eq_mem, List.mem_cons, List.not_mem_nil, or_false, decide_eq_true_eq]
  rw [if_neg (by omega), if_neg (by omega), if_neg (by omega), if_pos (by omega)]
end Go.Sx
