/- Tour: how great rows are, where a place is seen: what the told functions of layer 24 are. -/
import Derived.Test.YtpmbmobjnknnhaaSxTUa
import Derived.Test.YtpmbmobjnknnhaaSxRz
import Derived.Test.YtpmbmobjnknnhaaSxEv
set_option linter.unusedVariables false
set_option linter.unusedSimpArgs false
namespace Go.Sx
theorem ugetD {α : Type} (l : List α) (d : α) {i : Nat} (h : i < l.length) : l.getD i d = l[i] := by simp [List.getD_eq_getElem?_getD, h]
theorem uex_to {A : Type} {x : Option A} {v : A} (h : ∃ r, x = some r ∧ r = v) : x = some v := by
  obtain ⟨r, h, rfl⟩ := h
  exact h
end Go.Sx
