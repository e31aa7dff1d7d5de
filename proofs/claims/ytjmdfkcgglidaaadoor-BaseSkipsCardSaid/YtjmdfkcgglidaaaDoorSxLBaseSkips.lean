/- The law BaseSkips: whatever stands in an isolate at the beginning says nothing of its paragraph, but of the isolate; of up to 300 classes each. -/
import Derived.Test.YtjmdfkcgglidaaaDoorSxUA
import Derived.Test.YtjmdfkcgglidaaaDoorSxL0
set_option linter.unusedVariables false
set_option linter.unusedSimpArgs false
namespace Go.Proofs.YtjmdfkcgglidaaaDoor
open Go.ChangeShapes Go.WideShapes Go.ChangeAt Go.WideMaps Go.WideElems Go.RowKit Go.Sx
set_option maxRecDepth 100000
theorem baseSkips_lifted (os : Os) (started : os.Started) (H : Type) (enc : TypeId × Value → H) :
    ReturnsInHanded {} Tryd.checked os 5 .any (fun w args => (Rows.baseSkipsSpec.pre enc Tryd.prog Tryd.f5 [] false w args ∧ laidMetH Tryd.prog Law.laid w) ∧ sizedMet enc Tryd.prog Tryd.f5 (OpenSpec.ofChange Rows.baseSkipsSpec) false w args)
      (Rows.baseSkipsSpec.post enc Tryd.prog Tryd.f5 false true false false) := by
  refine returnsInHanded_of_change_and (C := Tryd.checked) (X := fun w _ => laidMetH Tryd.prog Law.laid w) (fun _ _ _ hh h => h.of_heap hh) Law.own started (by kernel_rfl) Tryd.func5
    (ChangeSpec.witness_shaped (enc := enc) (C := Tryd.checked) (os := os) (X := fun w _ => laidMetH Tryd.prog Law.laid w) false (World.doorLaid Tryd.prog 400 os) #[.slice none 0 0, .slice none 0 0, .int .i64 0] 8 rfl (World.shaped_of_RefB (by kernel_rfl) (by kernel_rfl)) (by kernel_rfl) (by kernel_rfl) (by kernel_rfl) (Law.door_met os _)) ?_
  intro W base args ds gs before hval0 hW _ _ hL _
  exact law_post (C := G.C) (tb := 4) (slots := [.hole (.sl (.int .i64)), .hole (.sl (.int .i64)), .hole (.int .i64)]) (F := G.f5F) G.f5ok (by kernel_rfl) (by kernel_rfl) (by kernel_rfl) (by kernel_rfl) Law.laidOut rfl
    (fun ds h => match ds, h with | [_, _, _], _ => rfl) baseSkips_pure (globs_of_laid hL (by kernel_rfl) Law.globs) hval0 hW
theorem baseSkips_holds : Rows.BaseSkipsSaid :=
  OpenClaim.holds_of_wide 5 Tryd.f5 rfl rfl rfl rfl rfl rfl rfl ⟨rfl, rfl, rfl, rfl, rfl⟩ rfl rfl rfl rfl rfl (by kernel_rfl) Tryd.func5 (by kernel_rfl)
    (of_decide_eq_true (by kernel_rfl)) (by unfold Func.isWrapper; first | (rw [if_pos (by decide +kernel)]; kernel_rfl) | (rw [if_neg (by decide +kernel)]; exact ⟨rfl, rfl⟩))
    (fun os started H enc _ => baseSkips_lifted os started H enc)
theorem baseSkips_card_holds : Rows.BaseSkipsCardSaid :=
  Claim7.holds_tied_plain_at .later [] [.data] true (true, "46d9fed1b6c481662a71efd9a148647baa88081749193cc8af5f1ce59b091ff1") false
    baseSkips_holds (fun _ h => by cases h) (by kernel_rfl) (fun _ h => by cases h) baseSkips_row_tie rfl ⟨rfl, rfl⟩ (by kernel_rfl) rfl
    (fun f fn hf hfn => by
      obtain rfl : f = 5 := Option.some.inj ((show Tryd.prog.funcNamed "ductus/ductuslaw05.BaseSkips" = some 5 by kernel_rfl).symm.trans hf) |>.symm
      obtain rfl : fn = Tryd.f5 := (Option.some.inj (Tryd.func5.symm.trans hfn)).symm
      exact ⟨by kernel_rfl, fun j t ht => by
        rw [show Tryd.f5.params = #[22, 22, 3] from rfl] at ht
        have hm : t ∈ [22, 22, 3] := by simpa using Array.mem_of_getElem? ht
        have hall : ([22, 22, 3].all fun u => !Tryd.prog.wantsStandIn u) = true := by kernel_rfl
        exact (show Tryd.prog.wantsStandIn t = false by simpa using List.all_eq_true.1 hall t hm)⟩)
    (by kernel_rfl)
#print axioms baseSkips_card_holds
end Go.Proofs.YtjmdfkcgglidaaaDoor
