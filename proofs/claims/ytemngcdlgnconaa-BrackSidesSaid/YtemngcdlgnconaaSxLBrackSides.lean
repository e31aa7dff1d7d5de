/- The law BrackSides, for every input: sides of two parts are the whole's; a class has one side at most; of up to 300. -/
import Derived.Test.YtemngcdlgnconaaSxBA
import Derived.Test.YtemngcdlgnconaaRows
import Derived.ProofKit
import Derived.OpenShut
import Derived.ChangeOld
import Derived.SizedLaws
set_option linter.unusedVariables false
set_option linter.unusedSimpArgs false
namespace Go.Proofs.Ytemngcdlgnconaa
open Go.ChangeShapes Go.WideShapes Go.ChangeAt Go.WideMaps Go.WideElems Go.RowKit Go.Sx
set_option maxRecDepth 100000
theorem brackSides_lifted (os : Os) (started : os.Started) (Ky : Type) (enc : TypeId × Value → Ky) :
    ReturnsInHanded {} Try.checked os 14 .any (Rows.brackSidesSpec.pre6 enc Try.prog Try.f14 Rows.brackSidesRow.domain false)
      (Rows.brackSidesSpec.post enc Try.prog Try.f14 false true false false) := by
  refine returnsInHanded_of_change_sized (C := Try.checked) (show ownKnob Try.prog.godebug = none by kernel_rfl) started (by kernel_rfl) Try.func14
    (ChangeSpec.witness6 (enc := enc) (C := Try.checked) false ⟨#[], #[.slice none 0 0, .agg #[.int .u16 0, .int .u16 0]], []⟩ 8 (by kernel_rfl) (by kernel_rfl) (by kernel_rfl) (by kernel_rfl)) ?_
  intro W base args ds gs before hval0 hW _ _ _
  exact law_post (C := K.C) (tb := 4) (slots := [.hole (.sl (.int .i64)), .hole (.arr 2 (.int .u16))]) (F := K.f14F) K.f14ok (by kernel_rfl) (by kernel_rfl) (by kernel_rfl) (by kernel_rfl) (show laidOutB Try.prog = true by kernel_rfl) rfl
    (fun ds h => match ds, h with | [_, _], _ => rfl) brackSides_pure (fun g d h => by simp [K.C] at h) hval0 hW
theorem brackSides_holds : Rows.BrackSidesSaid :=
  OpenClaim.holds_of_wide 14 Try.f14 rfl rfl rfl rfl rfl rfl rfl ⟨rfl, rfl, rfl, rfl, rfl⟩ rfl rfl rfl rfl rfl (by kernel_rfl) Try.func14 (by kernel_rfl)
    (of_decide_eq_true (by kernel_rfl)) (by unfold Func.isWrapper; first | (rw [if_pos (by decide +kernel)]; kernel_rfl) | (rw [if_neg (by decide +kernel)]; exact ⟨rfl, rfl⟩))
    (fun os started Ky enc _ => brackSides_lifted os started Ky enc)
#print axioms brackSides_holds
end Go.Proofs.Ytemngcdlgnconaa
