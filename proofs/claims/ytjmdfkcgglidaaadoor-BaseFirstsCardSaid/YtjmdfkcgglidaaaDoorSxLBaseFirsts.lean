/- The law BaseFirsts: what is looked at further finds the same first strong one; of none nothing; of up to 300. -/
import Derived.Test.YtjmdfkcgglidaaaDoorSxU6
import Derived.Test.YtjmdfkcgglidaaaDoorRows
import Derived.Test.YtjmdfkcgglidaaaDoorTie
import Derived.Test.YtjmdfkcgglidaaaDoorCards
import Derived.ProofKit
import Derived.LaidMore
import Derived.OpenShut
import Derived.Stop.Joined
import Derived.SevenTiedAt
set_option linter.unusedVariables false
set_option linter.unusedSimpArgs false
namespace Go.Proofs.YtjmdfkcgglidaaaDoor
open Go.ChangeShapes Go.WideShapes Go.ChangeAt Go.WideMaps Go.WideElems Go.RowKit Go.Sx
set_option maxRecDepth 100000
theorem own : ownKnob Tryd.prog.godebug = none := by kernel_rfl
theorem laidOut : laidOutB Tryd.prog = true := by kernel_rfl
def laid : List (String × DataW Unit) := [("ductus/class.words", Rows.laid_ductus_class_words)]
theorem glob0 : GlobIs Tryd.prog ("ductus/class.words", Rows.laid_ductus_class_words) 0 ⟨.arr 23 .str, G.words⟩ :=
  ⟨by kernel_rfl, ⟨72, by kernel_rfl, by kernel_rfl⟩, by rfl⟩
theorem globs : ∀ g d, (g, d) ∈ G.C.globs → ∃ nd ∈ laid, GlobIs Tryd.prog nd g d := by
  intro g d h
  simp only [G.C, List.mem_cons, Prod.mk.injEq, List.not_mem_nil, or_false] at h
  obtain ⟨rfl, rfl⟩ := h
  exact ⟨_, List.mem_cons_self, glob0⟩
theorem door_met (os : Os) (args : Array Value) : laidMetH Tryd.prog laid ((World.doorLaid Tryd.prog 400 os).forCall (fun _ _ => 0) ⟨#[], args, []⟩).memory :=
  laidMetH_of_parts3 (fuel := 8) (laidMet_of_run' 8 (by kernel_rfl) (by kernel_rfl)) (by kernel_rfl) (by kernel_rfl)
theorem baseFirsts_lifted (os : Os) (started : os.Started) (H : Type) (enc : TypeId × Value → H) :
    ReturnsInHanded {} Tryd.checked os 6 .any (fun w args => (Rows.baseFirstsSpec.pre enc Tryd.prog Tryd.f6 [] false w args ∧ laidMetH Tryd.prog laid w) ∧ sizedMet enc Tryd.prog Tryd.f6 (OpenSpec.ofChange Rows.baseFirstsSpec) false w args)
      (Rows.baseFirstsSpec.post enc Tryd.prog Tryd.f6 false true false false) := by
  refine returnsInHanded_of_change_and (C := Tryd.checked) (X := fun w _ => laidMetH Tryd.prog laid w) (fun _ _ _ hh h => h.of_heap hh) own started (by kernel_rfl) Tryd.func6
    (ChangeSpec.witness_shaped (enc := enc) (C := Tryd.checked) (os := os) (X := fun w _ => laidMetH Tryd.prog laid w) false (World.doorLaid Tryd.prog 400 os) #[.slice none 0 0, .agg #[.int .u16 0, .int .u16 0, .int .u16 0]] 8 rfl (World.shaped_of_RefB (by kernel_rfl) (by kernel_rfl)) (by kernel_rfl) (by kernel_rfl) (by kernel_rfl) (door_met os _)) ?_
  intro W base args ds gs before hval0 hW _ _ hL _
  exact law_post (C := G.C) (tb := 4) (slots := [.hole (.sl (.int .i64)), .hole (.arr 3 (.int .u16))]) (F := G.f6F) G.f6ok (by kernel_rfl) (by kernel_rfl) (by kernel_rfl) (by kernel_rfl) laidOut rfl
    (fun ds h => match ds, h with | [_, _], _ => rfl) baseFirsts_pure (globs_of_laid hL (by kernel_rfl) globs) hval0 hW
theorem baseFirsts_holds : Rows.BaseFirstsSaid :=
  OpenClaim.holds_of_wide 6 Tryd.f6 rfl rfl rfl rfl rfl rfl rfl ⟨rfl, rfl, rfl, rfl, rfl⟩ rfl rfl rfl rfl rfl (by kernel_rfl) Tryd.func6 (by kernel_rfl)
    (of_decide_eq_true (by kernel_rfl)) (by unfold Func.isWrapper; first | (rw [if_pos (by decide +kernel)]; kernel_rfl) | (rw [if_neg (by decide +kernel)]; exact ⟨rfl, rfl⟩))
    (fun os started H enc _ => baseFirsts_lifted os started H enc)
theorem baseFirsts_card_holds : Rows.BaseFirstsCardSaid :=
  Claim7.holds_tied_plain_at .later [] [.data] true (true, "46d9fed1b6c481662a71efd9a148647baa88081749193cc8af5f1ce59b091ff1") false
    baseFirsts_holds (fun _ h => by cases h) (by kernel_rfl) (fun _ h => by cases h) baseFirsts_row_tie rfl ⟨rfl, rfl⟩ (by kernel_rfl) rfl
    (fun f fn hf hfn => by
      obtain rfl : f = 6 := Option.some.inj ((show Tryd.prog.funcNamed "ductus/ductuslaw05.BaseFirsts" = some 6 by kernel_rfl).symm.trans hf) |>.symm
      obtain rfl : fn = Tryd.f6 := (Option.some.inj (Tryd.func6.symm.trans hfn)).symm
      exact ⟨by kernel_rfl, fun j t ht => by
        rw [show Tryd.f6.params = #[22, 34] from rfl] at ht
        have hm : t ∈ [22, 34] := by simpa using Array.mem_of_getElem? ht
        have hall : ([22, 34].all fun u => !Tryd.prog.wantsStandIn u) = true := by kernel_rfl
        exact (show Tryd.prog.wantsStandIn t = false by simpa using List.all_eq_true.1 hall t hm)⟩)
    (by kernel_rfl)
#print axioms baseFirsts_card_holds
end Go.Proofs.YtjmdfkcgglidaaaDoor
