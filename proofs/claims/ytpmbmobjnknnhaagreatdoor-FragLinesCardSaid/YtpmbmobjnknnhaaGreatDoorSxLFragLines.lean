/- The law FragLines: rows go on one behind the other, each has all its places, and letters of one direction beside one another are seen beside one another; of up to 100 Latin letters and Hebrew ones. -/
import Derived.Test.YtpmbmobjnknnhaaGreatDoorSxHr
import Derived.Test.YtpmbmobjnknnhaaGreatDoorSxLz0
import Derived.Test.YtpmbmobjnknnhaaGreatDoorSxRz
set_option linter.unusedVariables false
set_option linter.unusedSimpArgs false
namespace Go.Proofs.YtpmbmobjnknnhaaGreatDoor
open Go.ChangeShapes Go.WideShapes Go.ChangeAt Go.WideMaps Go.WideElems Go.RowKit Go.Sx
set_option maxRecDepth 100000
theorem zgm (os:Os) (started:os.Started) (H:Type) (enc:TypeId×Value→H):
  ReturnsInHanded {} Tryz.checked os 8 .any (fun w args=>(Rows.fragLinesSpec.pre enc Tryz.prog Tryz.f8 [] false w args∧laidMetH Tryz.prog Law.laid w)∧sizedMet enc Tryz.prog Tryz.f8 (OpenSpec.ofChange Rows.fragLinesSpec) false w args)
   (Rows.fragLinesSpec.post enc Tryz.prog Tryz.f8 false true false false):=by
 refine returnsInHanded_of_change_and (C:=Tryz.checked) (X:=fun w _=>laidMetH Tryz.prog Law.laid w) (fun _ _ _ hh h=>h.of_heap hh) Law.own started (by kernel_rfl) Tryz.func8
  (ChangeSpec.witness_shaped (enc:=enc) (C:=Tryz.checked) (os:=os) (X:=fun w _=>laidMetH Tryz.prog Law.laid w) false (World.doorLaid Tryz.prog 400 os) #[.slice none 0 0, .int .i64 0, .int .u8 0] 8 rfl (World.shaped_of_RefB (by kernel_rfl) (by kernel_rfl)) (by kernel_rfl) (by kernel_rfl) (by kernel_rfl) (Law.door_met os _)) ?_
 intro W base args ds gs before hval0 hW _ _ hL _
 exact zxv (C:=R.C) (tb:=4) (slots:= [.hole (.sl (.int .u8)), .hole (.int .i64), .hole (.int .u8)]) (F:=R.f8F) R.f8ok (by kernel_rfl) (by kernel_rfl) (by kernel_rfl) (by kernel_rfl) Law.laidOut rfl
  (fun ds h=>match ds,h with| [_,_,_],_=>rfl) zjs (zmd hL (by kernel_rfl) Law.globs) hval0 hW
theorem zh2:Rows.FragLinesSaid:=
 OpenClaim.holds_of_wide 8 Tryz.f8 rfl rfl rfl rfl rfl rfl rfl ⟨rfl,rfl,rfl,rfl,rfl⟩ rfl rfl rfl rfl rfl (by kernel_rfl) Tryz.func8 (by kernel_rfl)
  (of_decide_eq_true (by kernel_rfl)) (by unfold Func.isWrapper;first|(rw[if_pos (by decide+kernel)];kernel_rfl)|(rw[if_neg (by decide+kernel)];exact⟨rfl,rfl⟩))
  (fun os started H enc _=>zgm os started H enc)
theorem fragLines_card_holds:Rows.FragLinesCardSaid:=
 Claim7.holds_tied_plain_at .later [] [.data] true (true, "889ea9c9417e27e68ff45d04ebb868805cdc188404ad09f1e73996c4456331a3") false
  zh2 (fun _ h=>by cases h) (by kernel_rfl) (fun _ h=>by cases h) fragLines_row_tie rfl ⟨rfl,rfl⟩ (by kernel_rfl) rfl
  (fun f fn hf hfn=>by
   obtain rfl:f=8:=Option.some.inj ((show Tryz.prog.funcNamed "ductus/ductuslaw24.FragLines" =some 8 by kernel_rfl).symm.trans hf) |>.symm
   obtain rfl:fn=Tryz.f8:=(Option.some.inj (Tryz.func8.symm.trans hfn)).symm
   exact⟨by kernel_rfl,fun j t ht=>by
    rw[show Tryz.f8.params= #[51,3,5] from rfl] at ht
    have hm:t∈ [51,3,5]:=by simpa using Array.mem_of_getElem? ht
    have hall:([51,3,5].all fun u=> !Tryz.prog.wantsStandIn u)=true:=by kernel_rfl
    exact(show Tryz.prog.wantsStandIn t=false by simpa using List.all_eq_true.1 hall t hm)⟩)
  (by kernel_rfl)
#print axioms fragLines_card_holds
end Go.Proofs.YtpmbmobjnknnhaaGreatDoor
