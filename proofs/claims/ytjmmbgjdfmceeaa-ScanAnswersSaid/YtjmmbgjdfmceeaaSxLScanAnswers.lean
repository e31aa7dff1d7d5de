/- The law ScanAnswers, for every input: all that any program finds, its steps, and the first from a place on, are the reference's; of up to 100 instructions and 30 characters. -/
import Derived.Test.YtjmmbgjdfmceeaaSxDn
import Derived.Test.YtjmmbgjdfmceeaaRows
import Derived.ProofKit
import Derived.OpenShut
import Derived.ChangeOld
import Derived.SizedLaws
set_option linter.unusedVariables false
set_option linter.unusedSimpArgs false
namespace Go.Proofs.Ytjmmbgjdfmceeaa
open Go.ChangeShapes Go.WideShapes Go.ChangeAt Go.WideMaps Go.WideElems Go.RowKit Go.Sx
set_option maxRecDepth 100000
theorem scanAnswers_lifted (os : Os) (started : os.Started) (Ky : Type) (enc : TypeId × Value → Ky) :
    ReturnsInHanded {} Try.checked os 10 .any (Rows.scanAnswersSpec.pre6 enc Try.prog Try.f10 Rows.scanAnswersRow.domain false)
      (Rows.scanAnswersSpec.post enc Try.prog Try.f10 false true false false) := by
  refine returnsInHanded_of_change_sized (C := Try.checked) (show ownKnob Try.prog.godebug = none by kernel_rfl) started (by kernel_rfl) Try.func10
    (ChangeSpec.witness6 (enc := enc) (C := Try.checked) false ⟨#[], #[.slice none 0 0, .slice none 0 0, .agg #[.int .i64 0, .int .i64 0]], []⟩ 8 (by kernel_rfl) (by kernel_rfl) (by kernel_rfl) (by kernel_rfl)) ?_
  intro W base args ds gs before hval0 hW _ _ _
  exact law_post (C := D.C) (tb := 4) (slots := [.hole (.sl (.st (.pair (.int .i64) (.pair (.sl (.st (.pair (.int .i64) (.int .i64)))) (.pair (.int .i64) (.int .i64)))))), .hole (.sl (.int .i64)), .hole (.arr 2 (.int .i64))]) (F := D.f10F) D.f10ok (by kernel_rfl) (by kernel_rfl) (by kernel_rfl) (by kernel_rfl) (show laidOutB Try.prog = true by kernel_rfl) rfl
    (fun ds h => match ds, h with | [_, _, _], _ => rfl) scanAnswers_pure (fun g d h => by simp [D.C] at h) hval0 hW
theorem scanAnswers_holds : Rows.ScanAnswersSaid :=
  OpenClaim.holds_of_wide 10 Try.f10 rfl rfl rfl rfl rfl rfl rfl ⟨rfl, rfl, rfl, rfl, rfl⟩ rfl rfl rfl rfl rfl (by kernel_rfl) Try.func10 (by kernel_rfl)
    (of_decide_eq_true (by kernel_rfl)) (by unfold Func.isWrapper; first | (rw [if_pos (by decide +kernel)]; kernel_rfl) | (rw [if_neg (by decide +kernel)]; exact ⟨rfl, rfl⟩))
    (fun os started Ky enc _ => scanAnswers_lifted os started Ky enc)
#print axioms scanAnswers_holds
end Go.Proofs.Ytjmmbgjdfmceeaa
