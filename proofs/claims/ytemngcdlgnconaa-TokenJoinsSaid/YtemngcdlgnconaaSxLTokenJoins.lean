/- The law TokenJoins, for every input: tokens of a pattern that is whole, behind another whole one, are both's; of up to 100 each. -/
import Derived.Test.YtemngcdlgnconaaSxTKj
import Derived.Test.YtemngcdlgnconaaSxR
import Derived.Test.YtemngcdlgnconaaRows
import Derived.ProofKit
import Derived.OpenShut
import Derived.ChangeOld
import Derived.SizedLaws
set_option linter.unusedVariables false
set_option linter.unusedSimpArgs false
namespace Go.Proofs.Ytemngcdlgnconaa
open Go.ChangeShapes Go.WideShapes Go.ChangeAt Go.WideMaps Go.WideElems Go.RowKit Go.Sx
set_option maxRecDepth 100000
theorem tokenJoins_lifted (os : Os) (started : os.Started) (Ky : Type) (enc : TypeId × Value → Ky) :
    ReturnsInHanded {} Try.checked os 5 .any (Rows.tokenJoinsSpec.pre6 enc Try.prog Try.f5 Rows.tokenJoinsRow.domain false)
      (Rows.tokenJoinsSpec.post enc Try.prog Try.f5 false true false false) := by
  refine returnsInHanded_of_change_sized (C := Try.checked) (show ownKnob Try.prog.godebug = none by kernel_rfl) started (by kernel_rfl) Try.func5
    (ChangeSpec.witness6 (enc := enc) (C := Try.checked) false ⟨#[], #[.slice none 0 0, .slice none 0 0], []⟩ 8 (by kernel_rfl) (by kernel_rfl) (by kernel_rfl) (by kernel_rfl)) ?_
  intro W base args ds gs before hval0 hW _ _ _
  exact law_post (C := Z.C) (tb := 4) (slots := [.hole (.sl (.int .i64)), .hole (.sl (.int .i64))]) (F := Z.f5F) Z.f5ok (by kernel_rfl) (by kernel_rfl) (by kernel_rfl) (by kernel_rfl) (show laidOutB Try.prog = true by kernel_rfl) rfl
    (fun ds h => match ds, h with | [_, _], _ => rfl) tokenJoins_pure (fun g d h => by simp [Z.C] at h) hval0 hW
theorem tokenJoins_holds : Rows.TokenJoinsSaid :=
  OpenClaim.holds_of_wide 5 Try.f5 rfl rfl rfl rfl rfl rfl rfl ⟨rfl, rfl, rfl, rfl, rfl⟩ rfl rfl rfl rfl rfl (by kernel_rfl) Try.func5 (by kernel_rfl)
    (of_decide_eq_true (by kernel_rfl)) (by unfold Func.isWrapper; first | (rw [if_pos (by decide +kernel)]; kernel_rfl) | (rw [if_neg (by decide +kernel)]; exact ⟨rfl, rfl⟩))
    (fun os started Ky enc _ => tokenJoins_lifted os started Ky enc)
#print axioms tokenJoins_holds
end Go.Proofs.Ytemngcdlgnconaa
