/- Frag: the reference's fragments and places; the law FragAnswers. -/
import Derived.Test.YtpmbmobjnknnhaaGreatDoorSxFb
import Derived.Test.YtpmbmobjnknnhaaGreatDoorSxRz
set_option linter.unusedVariables false
set_option linter.unusedSimpArgs false
namespace Go.Sx
theorem fragRows_small {rows : List RowT} (h : (Ty.sl (.st (.pair (.int .i64) (.pair (.int .i64) (.sl (.int .i64)))))).sm rows) : rows.length ≤ 2 ^ 60 ∧ ∀ r ∈ rows, r.2.2.length ≤ 2 ^ 60 := by
  have e : reachBytes ≤ 2 ^ 60 := by decide
  refine ⟨Nat.le_trans h.1 e, fun r hr => ?_⟩
  have := h.2 r hr
  exact Nat.le_trans this.2.2.1 e
theorem fragParts_pure (x : List RowT × List Int) (hw : wfTup [.sl (.st (.pair (.int .i64) (.pair (.int .i64) (.sl (.int .i64))))), .arr 3 (.int .i64)] x)
    (hs : smTup [.sl (.st (.pair (.int .i64) (.pair (.int .i64) (.sl (.int .i64))))), .arr 3 (.int .i64)] x) : R.f7F x = some true := by
  obtain ⟨rows, three⟩ := x
  have h := fragRows_small hs.1
  exact fragParts_core rows three h.1 h.2
end Go.Sx
