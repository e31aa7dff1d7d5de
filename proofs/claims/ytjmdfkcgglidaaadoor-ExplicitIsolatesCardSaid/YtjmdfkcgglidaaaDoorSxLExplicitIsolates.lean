/- The law ExplicitIsolates: what stands in an isolate changes nothing behind it; of up to 200 classes each. -/
import Derived.Test.YtjmdfkcgglidaaaDoorSxWD
import Derived.Test.YtjmdfkcgglidaaaDoorSxL0
set_option linter.unusedVariables false
set_option linter.unusedSimpArgs false
namespace Go.Proofs.YtjmdfkcgglidaaaDoor
open Go.ChangeShapes Go.WideShapes Go.ChangeAt Go.WideMaps Go.WideElems Go.RowKit Go.Sx
set_option maxRecDepth 100000
theorem explicitIsolates_lifted (os : Os) (started : os.Started) (H : Type) (enc : TypeId × Value → H) :
    ReturnsInHanded {} Tryd.checked os 9 .any (fun w args => (Rows.explicitIsolatesSpec.pre enc Tryd.prog Tryd.f9 [] false w args ∧ laidMetH Tryd.prog Law.laid w) ∧ sizedMet enc Tryd.prog Tryd.f9 (OpenSpec.ofChange Rows.explicitIsolatesSpec) false w args)
      (Rows.explicitIsolatesSpec.post enc Tryd.prog Tryd.f9 false true false false) := by
  refine returnsInHanded_of_change_and (C := Tryd.checked) (X := fun w _ => laidMetH Tryd.prog Law.laid w) (fun _ _ _ hh h => h.of_heap hh) Law.own started (by kernel_rfl) Tryd.func9
    (ChangeSpec.witness_shaped (enc := enc) (C := Tryd.checked) (os := os) (X := fun w _ => laidMetH Tryd.prog Law.laid w) false (World.doorLaid Tryd.prog 400 os) #[.slice none 0 0, .slice none 0 0, .bool false] 8 rfl (World.shaped_of_RefB (by kernel_rfl) (by kernel_rfl)) (by kernel_rfl) (by kernel_rfl) (by kernel_rfl) (Law.door_met os _)) ?_
  intro W base args ds gs before hval0 hW _ _ hL _
  exact law_post (C := G.C) (tb := 4) (slots := [.hole (.sl (.int .i64)), .hole (.sl (.int .i64)), .hole .bool]) (F := G.f9F) G.f9ok (by kernel_rfl) (by kernel_rfl) (by kernel_rfl) (by kernel_rfl) Law.laidOut rfl
    (fun ds h => match ds, h with | [_, _, _], _ => rfl) explicitIsolates_pure (globs_of_laid hL (by kernel_rfl) Law.globs) hval0 hW
theorem explicitIsolates_holds : Rows.ExplicitIsolatesSaid :=
  OpenClaim.holds_of_wide 9 Tryd.f9 rfl rfl rfl rfl rfl rfl rfl ⟨rfl, rfl, rfl, rfl, rfl⟩ rfl rfl rfl rfl rfl (by kernel_rfl) Tryd.func9 (by kernel_rfl)
    (of_decide_eq_true (by kernel_rfl)) (by unfold Func.isWrapper; first | (rw [if_pos (by decide +kernel)]; kernel_rfl) | (rw [if_neg (by decide +kernel)]; exact ⟨rfl, rfl⟩))
    (fun os started H enc _ => explicitIsolates_lifted os started H enc)
theorem explicitIsolates_card_holds : Rows.ExplicitIsolatesCardSaid :=
  Claim7.holds_tied_plain_at .later [] [.data] true (true, "46d9fed1b6c481662a71efd9a148647baa88081749193cc8af5f1ce59b091ff1") false
    explicitIsolates_holds (fun _ h => by cases h) (by kernel_rfl) (fun _ h => by cases h) explicitIsolates_row_tie rfl ⟨rfl, rfl⟩ (by kernel_rfl) rfl
    (fun f fn hf hfn => by
      obtain rfl : f = 9 := Option.some.inj ((show Tryd.prog.funcNamed "ductus/ductuslaw06.ExplicitIsolates" = some 9 by kernel_rfl).symm.trans hf) |>.symm
      obtain rfl : fn = Tryd.f9 := (Option.some.inj (Tryd.func9.symm.trans hfn)).symm
      exact ⟨by kernel_rfl, fun j t ht => by
        rw [show Tryd.f9.params = #[22, 22, 4] from rfl] at ht
        have hm : t ∈ [22, 22, 4] := by simpa using Array.mem_of_getElem? ht
        have hall : ([22, 22, 4].all fun u => !Tryd.prog.wantsStandIn u) = true := by kernel_rfl
        exact (show Tryd.prog.wantsStandIn t = false by simpa using List.all_eq_true.1 hall t hm)⟩)
    (by kernel_rfl)
#print axioms explicitIsolates_card_holds
end Go.Proofs.YtjmdfkcgglidaaaDoor
