/- The law TourKeys, for every input: any spans' keys, in any rows, are the reference's; of up to 500 rows and places, and 60 spans. -/
import Derived.Test.YtpmbmobjnknnhaaSxOc
import Derived.Test.YtpmbmobjnknnhaaSxRz
import Derived.Test.YtpmbmobjnknnhaaRows
import Derived.ProofKit
import Derived.OpenShut
import Derived.ChangeOld
import Derived.SizedLaws
set_option linter.unusedVariables false
set_option linter.unusedSimpArgs false
namespace Go.Proofs.Ytpmbmobjnknnhaa
open Go.ChangeShapes Go.WideShapes Go.ChangeAt Go.WideMaps Go.WideElems Go.RowKit Go.Sx
set_option maxRecDepth 100000
theorem tourKeys_lifted (os : Os) (started : os.Started) (Ky : Type) (enc : TypeId × Value → Ky) :
    ReturnsInHanded {} Try.checked os 3 .any (Rows.tourKeysSpec.pre6 enc Try.prog Try.f3 Rows.tourKeysRow.domain false)
      (Rows.tourKeysSpec.post enc Try.prog Try.f3 false true false false) := by
  refine returnsInHanded_of_change_sized (C := Try.checked) (show ownKnob Try.prog.godebug = none by kernel_rfl) started (by kernel_rfl) Try.func3
    (ChangeSpec.witness6 (enc := enc) (C := Try.checked) false ⟨#[], #[.slice none 0 0, .slice none 0 0, .agg #[.int .i64 0, .int .i64 0]], []⟩ 8 (by kernel_rfl) (by kernel_rfl) (by kernel_rfl) (by kernel_rfl)) ?_
  intro W base args ds gs before hval0 hW _ hz _
  exact law_postZ (C := U.C) (tb := 4) (slots := [.hole (.sl (.st (.pair (.int .i64) (.pair (.int .i64) (.sl (.int .i64)))))), .hole (.sl (.st (.pair (.int .i64) (.int .i64)))), .hole (.arr 2 (.int .i64))]) (F := U.f3F) U.f3ok (by kernel_rfl) (by kernel_rfl) (by kernel_rfl) (by kernel_rfl) (show laidOutB Try.prog = true by kernel_rfl) rfl
    (fun ds h => match ds, h with | [_, _, _], _ => rfl) (by kernel_rfl) tourKeys_pure (fun g d h => by simp [U.C] at h) hz hval0 hW
theorem tourKeys_holds : Rows.TourKeysSaid :=
  OpenClaim.holds_of_wide 3 Try.f3 rfl rfl rfl rfl rfl rfl rfl ⟨rfl, rfl, rfl, rfl, rfl⟩ rfl rfl rfl rfl rfl (by kernel_rfl) Try.func3 (by kernel_rfl)
    (of_decide_eq_true (by kernel_rfl)) (by unfold Func.isWrapper; first | (rw [if_pos (by decide +kernel)]; kernel_rfl) | (rw [if_neg (by decide +kernel)]; exact ⟨rfl, rfl⟩))
    (fun os started Ky enc _ => tourKeys_lifted os started Ky enc)
#print axioms tourKeys_holds
end Go.Proofs.Ytpmbmobjnknnhaa
