/- The law FragAnswers: any span's fragments in any rows, and where any place is seen, are the reference's; of up to 500 rows and places. -/
import Derived.Test.YtpmbmobjnknnhaaGreatDoorSxFc
import Derived.Test.YtpmbmobjnknnhaaGreatDoorSxLz0
import Derived.Test.YtpmbmobjnknnhaaGreatDoorSxRz
set_option linter.unusedVariables false
set_option linter.unusedSimpArgs false
namespace Go.Proofs.YtpmbmobjnknnhaaGreatDoor
open Go.ChangeShapes Go.WideShapes Go.ChangeAt Go.WideMaps Go.WideElems Go.RowKit Go.Sx
set_option maxRecDepth 100000
theorem fragAnswers_lifted (os : Os) (started : os.Started) (H : Type) (enc : TypeId × Value → H) :
    ReturnsInHanded {} Tryz.checked os 4 .any (fun w args => (Rows.fragAnswersSpec.pre enc Tryz.prog Tryz.f4 [] false w args ∧ laidMetH Tryz.prog Law.laid w) ∧ sizedMet enc Tryz.prog Tryz.f4 (OpenSpec.ofChange Rows.fragAnswersSpec) false w args)
      (Rows.fragAnswersSpec.post enc Tryz.prog Tryz.f4 false true false false) := by
  refine returnsInHanded_of_change_and (C := Tryz.checked) (X := fun w _ => laidMetH Tryz.prog Law.laid w) (fun _ _ _ hh h => h.of_heap hh) Law.own started (by kernel_rfl) Tryz.func4
    (ChangeSpec.witness_shaped (enc := enc) (C := Tryz.checked) (os := os) (X := fun w _ => laidMetH Tryz.prog Law.laid w) false (World.doorLaid Tryz.prog 400 os) #[.slice none 0 0, .agg #[.int .i64 0, .int .i64 0], .int .i64 0] 8 rfl (World.shaped_of_RefB (by kernel_rfl) (by kernel_rfl)) (by kernel_rfl) (by kernel_rfl) (by kernel_rfl) (Law.door_met os _)) ?_
  intro W base args ds gs before hval0 hW _ hz hL _
  exact law_postZ (C := R.C) (tb := 4) (slots := [.hole (.sl (.st (.pair (.int .i64) (.pair (.int .i64) (.sl (.int .i64)))))), .hole (.st (.pair (.int .i64) (.int .i64))), .hole (.int .i64)]) (F := R.f4F) R.f4ok (by kernel_rfl) (by kernel_rfl) (by kernel_rfl) (by kernel_rfl) Law.laidOut rfl
    (fun ds h => match ds, h with | [_, _, _], _ => rfl) (by kernel_rfl) fragAnswers_pure (globs_of_laid hL (by kernel_rfl) Law.globs) hz hval0 hW
theorem fragAnswers_holds : Rows.FragAnswersSaid :=
  OpenClaim.holds_of_wide 4 Tryz.f4 rfl rfl rfl rfl rfl rfl rfl ⟨rfl, rfl, rfl, rfl, rfl⟩ rfl rfl rfl rfl rfl (by kernel_rfl) Tryz.func4 (by kernel_rfl)
    (of_decide_eq_true (by kernel_rfl)) (by unfold Func.isWrapper; first | (rw [if_pos (by decide +kernel)]; kernel_rfl) | (rw [if_neg (by decide +kernel)]; exact ⟨rfl, rfl⟩))
    (fun os started H enc _ => fragAnswers_lifted os started H enc)
theorem fragAnswers_card_holds : Rows.FragAnswersCardSaid :=
  Claim7.holds_tied_plain_at .later [] [.data] true (true, "889ea9c9417e27e68ff45d04ebb868805cdc188404ad09f1e73996c4456331a3") false
    fragAnswers_holds (fun _ h => by cases h) (by kernel_rfl) (fun _ h => by cases h) fragAnswers_row_tie rfl ⟨rfl, rfl⟩ (by kernel_rfl) rfl
    (fun f fn hf hfn => by
      obtain rfl : f = 4 := Option.some.inj ((show Tryz.prog.funcNamed "ductus/ductuslaw24.FragAnswers" = some 4 by kernel_rfl).symm.trans hf) |>.symm
      obtain rfl : fn = Tryz.f4 := (Option.some.inj (Tryz.func4.symm.trans hfn)).symm
      exact ⟨by kernel_rfl, fun j t ht => by
        rw [show Tryz.f4.params = #[24, 31, 3] from rfl] at ht
        have hm : t ∈ [24, 31, 3] := by simpa using Array.mem_of_getElem? ht
        have hall : ([24, 31, 3].all fun u => !Tryz.prog.wantsStandIn u) = true := by kernel_rfl
        exact (show Tryz.prog.wantsStandIn t = false by simpa using List.all_eq_true.1 hall t hm)⟩)
    (by kernel_rfl)
#print axioms fragAnswers_card_holds
end Go.Proofs.YtpmbmobjnknnhaaGreatDoor
