/- The law LevelMarks: marks without a class of their own (BN) put in anywhere turn neither the base nor the level of any place that is kept; of up to 100 characters and 20 marks. -/
import Derived.Test.YtlppdabhaipbkaaGreatDoorSxMo
import Derived.Test.YtlppdabhaipbkaaGreatDoorSxLe0
set_option linter.unusedVariables false
set_option linter.unusedSimpArgs false
namespace Go.Proofs.YtlppdabhaipbkaaGreatDoor
open Go.ChangeShapes Go.WideShapes Go.ChangeAt Go.WideMaps Go.WideElems Go.RowKit Go.Sx
set_option maxRecDepth 100000
theorem zfa (os:Os) (started:os.Started) (H:Type) (enc:TypeId×Value→H):
  ReturnsInHanded {} Tryz.checked os 3 .any (fun w args=>(Rows.levelMarksSpec.pre enc Tryz.prog Tryz.f3 [] false w args∧laidMetH Tryz.prog Law.laid w)∧sizedMet enc Tryz.prog Tryz.f3 (OpenSpec.ofChange Rows.levelMarksSpec) false w args)
   (Rows.levelMarksSpec.post enc Tryz.prog Tryz.f3 false true false false):=by
 refine returnsInHanded_of_change_and (C:=Tryz.checked) (X:=fun w _=>laidMetH Tryz.prog Law.laid w) (fun _ _ _ hh h=>h.of_heap hh) Law.own started (by kernel_rfl) Tryz.func3
  (ChangeSpec.witness_shaped (enc:=enc) (C:=Tryz.checked) (os:=os) (X:=fun w _=>laidMetH Tryz.prog Law.laid w) false (World.doorLaid Tryz.prog 400 os) #[.slice none 0 0, .slice none 0 0, .int .i64 0] 8 rfl (World.shaped_of_RefB (by kernel_rfl) (by kernel_rfl)) (by kernel_rfl) (by kernel_rfl) (by kernel_rfl) (Law.door_met os _)) ?_
 intro W base args ds gs before hval0 hW _ _ hL _
 exact zwo (C:=Lz.C) (tb:=4) (slots:= [.hole (.sl (.int .i64)), .hole (.sl (.int .u8)), .hole (.int .i64)]) (F:=Lz.f3F) Lz.f3ok (by kernel_rfl) (by kernel_rfl) (by kernel_rfl) (by kernel_rfl) Law.laidOut rfl
  (fun ds h=>match ds,h with| [_,_,_],_=>rfl) zh0 (zlk hL (by kernel_rfl) Law.globs) hval0 hW
theorem zf7:Rows.LevelMarksSaid:=
 OpenClaim.holds_of_wide 3 Tryz.f3 rfl rfl rfl rfl rfl rfl rfl ⟨rfl,rfl,rfl,rfl,rfl⟩ rfl rfl rfl rfl rfl (by kernel_rfl) Tryz.func3 (by kernel_rfl)
  (of_decide_eq_true (by kernel_rfl)) (by unfold Func.isWrapper;first|(rw[if_pos (by decide+kernel)];kernel_rfl)|(rw[if_neg (by decide+kernel)];exact⟨rfl,rfl⟩))
  (fun os started H enc _=>zfa os started H enc)
theorem levelMarks_card_holds:Rows.LevelMarksCardSaid:=
 Claim7.holds_tied_plain_at .later [] [.data] true (true, "ce4cf017e21e9c4bc084fcae611813f64ee971f748b7e7bc9200d00bdcb6cb9d") false
  zf7 (fun _ h=>by cases h) (by kernel_rfl) (fun _ h=>by cases h) levelMarks_row_tie rfl ⟨rfl,rfl⟩ (by kernel_rfl) rfl
  (fun f fn hf hfn=>by
   obtain rfl:f=3:=Option.some.inj ((show Tryz.prog.funcNamed "ductus/ductuslaw12.LevelMarks" =some 3 by kernel_rfl).symm.trans hf) |>.symm
   obtain rfl:fn=Tryz.f3:=(Option.some.inj (Tryz.func3.symm.trans hfn)).symm
   exact⟨by kernel_rfl,fun j t ht=>by
    rw[show Tryz.f3.params= #[22,23,3] from rfl] at ht
    have hm:t∈ [22,23,3]:=by simpa using Array.mem_of_getElem? ht
    have hall:([22,23,3].all fun u=> !Tryz.prog.wantsStandIn u)=true:=by kernel_rfl
    exact(show Tryz.prog.wantsStandIn t=false by simpa using List.all_eq_true.1 hall t hm)⟩)
  (by kernel_rfl)
#print axioms levelMarks_card_holds
end Go.Proofs.YtlppdabhaipbkaaGreatDoor
