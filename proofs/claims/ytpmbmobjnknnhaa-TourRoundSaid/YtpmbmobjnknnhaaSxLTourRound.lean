/- The law TourRound, for every input: going on as often as there are unlike keys each is met once, and it is gone round once; going back one is where one was; of up to 60. -/
import Derived.Test.YtpmbmobjnknnhaaSxOg
import Derived.Test.YtpmbmobjnknnhaaRows
import Derived.ProofKit
import Derived.OpenShut
import Derived.ChangeOld
import Derived.SizedLaws
set_option linter.unusedVariables false
set_option linter.unusedSimpArgs false
namespace Go.Proofs.Ytpmbmobjnknnhaa
open Go.ChangeShapes Go.WideShapes Go.ChangeAt Go.WideMaps Go.WideElems Go.RowKit Go.Sx
set_option maxRecDepth 100000
theorem tourRound_lifted (os : Os) (started : os.Started) (Ky : Type) (enc : TypeId × Value → Ky) :
    ReturnsInHanded {} Try.checked os 4 .any (Rows.tourRoundSpec.pre6 enc Try.prog Try.f4 Rows.tourRoundRow.domain false)
      (Rows.tourRoundSpec.post enc Try.prog Try.f4 false true false false) := by
  refine returnsInHanded_of_change_sized (C := Try.checked) (show ownKnob Try.prog.godebug = none by kernel_rfl) started (by kernel_rfl) Try.func4
    (ChangeSpec.witness6 (enc := enc) (C := Try.checked) false ⟨#[], #[.slice none 0 0, .int .u8 0], []⟩ 8 (by kernel_rfl) (by kernel_rfl) (by kernel_rfl) (by kernel_rfl)) ?_
  intro W base args ds gs before hval0 hW _ _ _
  exact law_post (C := U.C) (tb := 4) (slots := [.hole (.sl (.arr 2 (.int .u16))), .hole (.int .u8)]) (F := U.f4F) U.f4ok (by kernel_rfl) (by kernel_rfl) (by kernel_rfl) (by kernel_rfl) (show laidOutB Try.prog = true by kernel_rfl) rfl
    (fun ds h => match ds, h with | [_, _], _ => rfl) tourRound_pure (fun g d h => by simp [U.C] at h) hval0 hW
theorem tourRound_holds : Rows.TourRoundSaid :=
  OpenClaim.holds_of_wide 4 Try.f4 rfl rfl rfl rfl rfl rfl rfl ⟨rfl, rfl, rfl, rfl, rfl⟩ rfl rfl rfl rfl rfl (by kernel_rfl) Try.func4 (by kernel_rfl)
    (of_decide_eq_true (by kernel_rfl)) (by unfold Func.isWrapper; first | (rw [if_pos (by decide +kernel)]; kernel_rfl) | (rw [if_neg (by decide +kernel)]; exact ⟨rfl, rfl⟩))
    (fun os started Ky enc _ => tourRound_lifted os started Ky enc)
#print axioms tourRound_holds
end Go.Proofs.Ytpmbmobjnknnhaa
