/- The law TokenEscapes, for every input: an escape is a character or a group alone, where there is one, and a wrong pattern, where there is none. -/
import Derived.Test.YtemngcdlgnconaaSxTKj
import Derived.Test.YtemngcdlgnconaaSxR
import Derived.Test.YtemngcdlgnconaaRows
import Derived.ProofKit
import Derived.OpenShut
import Derived.ChangeOld
import Derived.SizedLaws
set_option linter.unusedVariables false
set_option linter.unusedSimpArgs false
namespace Go.Proofs.Ytemngcdlgnconaa
open Go.ChangeShapes Go.WideShapes Go.ChangeAt Go.WideMaps Go.WideElems Go.RowKit Go.Sx
set_option maxRecDepth 100000
theorem tokenEscapes_lifted (os : Os) (started : os.Started) (Ky : Type) (enc : TypeId × Value → Ky) :
    ReturnsInHanded {} Try.checked os 6 .any (Rows.tokenEscapesSpec.pre6 enc Try.prog Try.f6 Rows.tokenEscapesRow.domain false)
      (Rows.tokenEscapesSpec.post enc Try.prog Try.f6 false true false false) := by
  refine returnsInHanded_of_change_sized (C := Try.checked) (show ownKnob Try.prog.godebug = none by kernel_rfl) started (by kernel_rfl) Try.func6
    (ChangeSpec.witness6 (enc := enc) (C := Try.checked) false ⟨#[], #[.int .i64 0], []⟩ 8 (by kernel_rfl) (by kernel_rfl) (by kernel_rfl) (by kernel_rfl)) ?_
  intro W base args ds gs before hval0 hW _ _ _
  exact law_post (C := Z.C) (tb := 4) (slots := [.hole (.int .i64)]) (F := Z.f6F) Z.f6ok (by kernel_rfl) (by kernel_rfl) (by kernel_rfl) (by kernel_rfl) (show laidOutB Try.prog = true by kernel_rfl) rfl
    (fun ds h => match ds, h with | [_], _ => rfl) tokenEscapes_pure (fun g d h => by simp [Z.C] at h) hval0 hW
theorem tokenEscapes_holds : Rows.TokenEscapesSaid :=
  OpenClaim.holds_of_wide 6 Try.f6 rfl rfl rfl rfl rfl rfl rfl ⟨rfl, rfl, rfl, rfl, rfl⟩ rfl rfl rfl rfl rfl (by kernel_rfl) Try.func6 (by kernel_rfl)
    (of_decide_eq_true (by kernel_rfl)) (by unfold Func.isWrapper; first | (rw [if_pos (by decide +kernel)]; kernel_rfl) | (rw [if_neg (by decide +kernel)]; exact ⟨rfl, rfl⟩))
    (fun os started Ky enc _ => tokenEscapes_lifted os started Ky enc)
#print axioms tokenEscapes_holds
end Go.Proofs.Ytemngcdlgnconaa
