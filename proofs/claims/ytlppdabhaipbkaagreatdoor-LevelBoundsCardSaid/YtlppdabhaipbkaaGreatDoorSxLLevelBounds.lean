/- The law LevelBounds: levels are from the base to 126, each as its class's must be; a text of L alone has level 0; of up to 200 characters. -/
import Derived.Test.YtlppdabhaipbkaaGreatDoorSxMn
import Derived.Test.YtlppdabhaipbkaaGreatDoorSxLe0
set_option linter.unusedVariables false
set_option linter.unusedSimpArgs false
namespace Go.Proofs.YtlppdabhaipbkaaGreatDoor
open Go.ChangeShapes Go.WideShapes Go.ChangeAt Go.WideMaps Go.WideElems Go.RowKit Go.Sx
set_option maxRecDepth 100000
theorem zd9 (os:Os) (started:os.Started) (H:Type) (enc:TypeId×Value→H):
  ReturnsInHanded {} Tryz.checked os 5 .any (fun w args=>(Rows.levelBoundsSpec.pre enc Tryz.prog Tryz.f5 [] false w args∧laidMetH Tryz.prog Law.laid w)∧sizedMet enc Tryz.prog Tryz.f5 (OpenSpec.ofChange Rows.levelBoundsSpec) false w args)
   (Rows.levelBoundsSpec.post enc Tryz.prog Tryz.f5 false true false false):=by
 refine returnsInHanded_of_change_and (C:=Tryz.checked) (X:=fun w _=>laidMetH Tryz.prog Law.laid w) (fun _ _ _ hh h=>h.of_heap hh) Law.own started (by kernel_rfl) Tryz.func5
  (ChangeSpec.witness_shaped (enc:=enc) (C:=Tryz.checked) (os:=os) (X:=fun w _=>laidMetH Tryz.prog Law.laid w) false (World.doorLaid Tryz.prog 400 os) #[.slice none 0 0, .int .i64 0] 8 rfl (World.shaped_of_RefB (by kernel_rfl) (by kernel_rfl)) (by kernel_rfl) (by kernel_rfl) (by kernel_rfl) (Law.door_met os _)) ?_
 intro W base args ds gs before hval0 hW _ _ hL _
 exact zwr (C:=Lz.C) (tb:=4) (slots:= [.hole (.sl (.int .i64)), .hole (.int .i64)]) (F:=Lz.f5F) Lz.f5ok (by kernel_rfl) (by kernel_rfl) (by kernel_rfl) (by kernel_rfl) Law.laidOut rfl
  (fun ds h=>match ds,h with| [_,_],_=>rfl) zge (zlk hL (by kernel_rfl) Law.globs) hval0 hW
theorem zfa:Rows.LevelBoundsSaid:=
 OpenClaim.holds_of_wide 5 Tryz.f5 rfl rfl rfl rfl rfl rfl rfl ⟨rfl,rfl,rfl,rfl,rfl⟩ rfl rfl rfl rfl rfl (by kernel_rfl) Tryz.func5 (by kernel_rfl)
  (of_decide_eq_true (by kernel_rfl)) (by unfold Func.isWrapper;first|(rw[if_pos (by decide+kernel)];kernel_rfl)|(rw[if_neg (by decide+kernel)];exact⟨rfl,rfl⟩))
  (fun os started H enc _=>zd9 os started H enc)
theorem levelBounds_card_holds:Rows.LevelBoundsCardSaid:=
 Claim7.holds_tied_plain_at .later [] [.data] true (true, "ce4cf017e21e9c4bc084fcae611813f64ee971f748b7e7bc9200d00bdcb6cb9d") false
  zfa (fun _ h=>by cases h) (by kernel_rfl) (fun _ h=>by cases h) levelBounds_row_tie rfl ⟨rfl,rfl⟩ (by kernel_rfl) rfl
  (fun f fn hf hfn=>by
   obtain rfl:f=5:=Option.some.inj ((show Tryz.prog.funcNamed "ductus/ductuslaw12.LevelBounds" =some 5 by kernel_rfl).symm.trans hf) |>.symm
   obtain rfl:fn=Tryz.f5:=(Option.some.inj (Tryz.func5.symm.trans hfn)).symm
   exact⟨by kernel_rfl,fun j t ht=>by
    rw[show Tryz.f5.params= #[22,3] from rfl] at ht
    have hm:t∈ [22,3]:=by simpa using Array.mem_of_getElem? ht
    have hall:([22,3].all fun u=> !Tryz.prog.wantsStandIn u)=true:=by kernel_rfl
    exact(show Tryz.prog.wantsStandIn t=false by simpa using List.all_eq_true.1 hall t hm)⟩)
  (by kernel_rfl)
#print axioms levelBounds_card_holds
end Go.Proofs.YtlppdabhaipbkaaGreatDoor
