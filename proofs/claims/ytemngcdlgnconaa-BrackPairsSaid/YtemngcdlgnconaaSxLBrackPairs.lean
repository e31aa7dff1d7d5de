/- The law BrackPairs, for every input: pairs are brackets that belong together, within one another, or apart; of up to 300. -/
import Derived.Test.YtemngcdlgnconaaSxBC
import Derived.Test.YtemngcdlgnconaaRows
import Derived.ProofKit
import Derived.OpenShut
import Derived.ChangeOld
import Derived.SizedLaws
set_option linter.unusedVariables false
set_option linter.unusedSimpArgs false
namespace Go.Proofs.Ytemngcdlgnconaa
open Go.ChangeShapes Go.WideShapes Go.ChangeAt Go.WideMaps Go.WideElems Go.RowKit Go.Sx
set_option maxRecDepth 100000
theorem brackPairs_lifted (os : Os) (started : os.Started) (Ky : Type) (enc : TypeId × Value → Ky) :
    ReturnsInHanded {} Try.checked os 12 .any (Rows.brackPairsSpec.pre6 enc Try.prog Try.f12 Rows.brackPairsRow.domain false)
      (Rows.brackPairsSpec.post enc Try.prog Try.f12 false true false false) := by
  refine returnsInHanded_of_change_sized (C := Try.checked) (show ownKnob Try.prog.godebug = none by kernel_rfl) started (by kernel_rfl) Try.func12
    (ChangeSpec.witness6 (enc := enc) (C := Try.checked) false ⟨#[], #[.slice none 0 0, .slice none 0 0], []⟩ 8 (by kernel_rfl) (by kernel_rfl) (by kernel_rfl) (by kernel_rfl)) ?_
  intro W base args ds gs before hval0 hW _ _ _
  exact law_post (C := K.C) (tb := 4) (slots := [.hole (.sl (.int .i64)), .hole (.sl (.int .i64))]) (F := K.f12F) K.f12ok (by kernel_rfl) (by kernel_rfl) (by kernel_rfl) (by kernel_rfl) (show laidOutB Try.prog = true by kernel_rfl) rfl
    (fun ds h => match ds, h with | [_, _], _ => rfl) brackPairs_pure (fun g d h => by simp [K.C] at h) hval0 hW
theorem brackPairs_holds : Rows.BrackPairsSaid :=
  OpenClaim.holds_of_wide 12 Try.f12 rfl rfl rfl rfl rfl rfl rfl ⟨rfl, rfl, rfl, rfl, rfl⟩ rfl rfl rfl rfl rfl (by kernel_rfl) Try.func12 (by kernel_rfl)
    (of_decide_eq_true (by kernel_rfl)) (by unfold Func.isWrapper; first | (rw [if_pos (by decide +kernel)]; kernel_rfl) | (rw [if_neg (by decide +kernel)]; exact ⟨rfl, rfl⟩))
    (fun os started Ky enc _ => brackPairs_lifted os started Ky enc)
#print axioms brackPairs_holds
end Go.Proofs.Ytemngcdlgnconaa
