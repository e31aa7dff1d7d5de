/- What all laws of the seat lean on. -/
import Derived.Test.YtlppdabhaipbkaaGreatDoorSxTMa
import Derived.Test.YtlppdabhaipbkaaGreatDoorSxR
import Derived.Test.YtlppdabhaipbkaaGreatDoorRows
import Derived.Test.YtlppdabhaipbkaaGreatDoorTie
import Derived.Test.YtlppdabhaipbkaaGreatDoorCards
import Derived.ProofKit
import Derived.LaidMore
import Derived.OpenShut
import Derived.Stop.Joined
import Derived.SevenTiedAt
set_option linter.unusedVariables false
set_option linter.unusedSimpArgs false
namespace Go.Proofs.YtlppdabhaipbkaaGreatDoor.Law
open Go.ChangeShapes Go.WideShapes Go.ChangeAt Go.WideMaps Go.WideElems Go.RowKit Go.Sx
set_option maxRecDepth 100000
theorem own:ownKnob Tryz.prog.godebug=none:=by kernel_rfl
theorem laidOut:laidOutB Tryz.prog=true:=by kernel_rfl
def laid:List (String×DataW Unit):= [("ductus/class.words",Rows.laid_ductus_class_words)]
theorem z1d:GlobIs Tryz.prog ("ductus/class.words",Rows.laid_ductus_class_words) 0 ⟨.arr 23 .str,Lz.words⟩:=
 ⟨by kernel_rfl,⟨130,by kernel_rfl,by kernel_rfl⟩,by rfl⟩
theorem globs: ∀ g d,(g,d)∈Lz.C.globs→ ∃ nd∈laid,GlobIs Tryz.prog nd g d:=by
 intro g d h
 simp only[Lz.C,List.mem_cons,Prod.mk.injEq,List.not_mem_nil,or_false] at h
 obtain⟨rfl,rfl⟩:=h
 exact⟨_,List.mem_cons_self,z1d⟩
theorem door_met (os:Os) (args:Array Value):laidMetH Tryz.prog laid ((World.doorLaid Tryz.prog 400 os).forCall (fun _ _=>0) ⟨#[],args, []⟩).memory:=
 laidMetH_of_parts3 (fuel:=8) (laidMet_of_run' 8 (by kernel_rfl) (by kernel_rfl)) (by kernel_rfl) (by kernel_rfl)
end Go.Proofs.YtlppdabhaipbkaaGreatDoor.Law
