/- The law BrackKeeps, for every input: brackets that are paired, and marks behind them, become sides, or stay; all else stays; of up to 200. -/
import Derived.Test.YtemngcdlgnconaaSxBD
import Derived.Test.YtemngcdlgnconaaRows
import Derived.ProofKit
import Derived.OpenShut
import Derived.ChangeOld
import Derived.SizedLaws
set_option linter.unusedVariables false
set_option linter.unusedSimpArgs false
namespace Go.Proofs.Ytemngcdlgnconaa
open Go.ChangeShapes Go.WideShapes Go.ChangeAt Go.WideMaps Go.WideElems Go.RowKit Go.Sx
set_option maxRecDepth 100000
theorem brackKeeps_lifted (os : Os) (started : os.Started) (Ky : Type) (enc : TypeId × Value → Ky) :
    ReturnsInHanded {} Try.checked os 13 .any (Rows.brackKeepsSpec.pre6 enc Try.prog Try.f13 Rows.brackKeepsRow.domain false)
      (Rows.brackKeepsSpec.post enc Try.prog Try.f13 false true false false) := by
  refine returnsInHanded_of_change_sized (C := Try.checked) (show ownKnob Try.prog.godebug = none by kernel_rfl) started (by kernel_rfl) Try.func13
    (ChangeSpec.witness6 (enc := enc) (C := Try.checked) false ⟨#[], #[.agg #[.slice none 0 0, .slice none 0 0, .slice none 0 0], .int .i64 0, .bool false], []⟩ 8 (by kernel_rfl) (by kernel_rfl) (by kernel_rfl) (by kernel_rfl)) ?_
  intro W base args ds gs before hval0 hW _ _ _
  exact law_post (C := K.C) (tb := 4) (slots := [.hole (.st (.pair (.sl (.int .i64)) (.pair (.sl (.int .i64)) (.sl (.int .i64))))), .hole (.int .i64), .hole .bool]) (F := K.f13F) K.f13ok (by kernel_rfl) (by kernel_rfl) (by kernel_rfl) (by kernel_rfl) (show laidOutB Try.prog = true by kernel_rfl) rfl
    (fun ds h => match ds, h with | [_, _, _], _ => rfl) brackKeeps_pure (fun g d h => by simp [K.C] at h) hval0 hW
theorem brackKeeps_holds : Rows.BrackKeepsSaid :=
  OpenClaim.holds_of_wide 13 Try.f13 rfl rfl rfl rfl rfl rfl rfl ⟨rfl, rfl, rfl, rfl, rfl⟩ rfl rfl rfl rfl rfl (by kernel_rfl) Try.func13 (by kernel_rfl)
    (of_decide_eq_true (by kernel_rfl)) (by unfold Func.isWrapper; first | (rw [if_pos (by decide +kernel)]; kernel_rfl) | (rw [if_neg (by decide +kernel)]; exact ⟨rfl, rfl⟩))
    (fun os started Ky enc _ => brackKeeps_lifted os started Ky enc)
#print axioms brackKeeps_holds
end Go.Proofs.Ytemngcdlgnconaa
