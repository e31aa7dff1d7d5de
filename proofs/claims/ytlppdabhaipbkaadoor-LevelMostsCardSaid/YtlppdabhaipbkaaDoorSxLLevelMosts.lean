/- The law LevelMosts: the greatest level is one of them, and none is above it; a text is whole just if all are of one level; the base is 0 or 1, and there is a level of each; of up to 200 characters, and 200 levels. -/
import Derived.Test.YtlppdabhaipbkaaDoorSxPm
import Derived.Test.YtlppdabhaipbkaaDoorSxLd0
set_option linter.unusedVariables false
set_option linter.unusedSimpArgs false
namespace Go.Proofs.YtlppdabhaipbkaaDoor
open Go.ChangeShapes Go.WideShapes Go.ChangeAt Go.WideMaps Go.WideElems Go.RowKit Go.Sx
set_option maxRecDepth 100000
theorem zew (os:Os) (started:os.Started) (H:Type) (enc:TypeId×Value→H):
  ReturnsInHanded {} Tryd.checked os 4 .any (fun w args=>(Rows.levelMostsSpec.pre enc Tryd.prog Tryd.f4 [] false w args∧laidMetH Tryd.prog Law.laid w)∧sizedMet enc Tryd.prog Tryd.f4 (OpenSpec.ofChange Rows.levelMostsSpec) false w args)
   (Rows.levelMostsSpec.post enc Tryd.prog Tryd.f4 false true false false):=by
 refine returnsInHanded_of_change_and (C:=Tryd.checked) (X:=fun w _=>laidMetH Tryd.prog Law.laid w) (fun _ _ _ hh h=>h.of_heap hh) Law.own started (by kernel_rfl) Tryd.func4
  (ChangeSpec.witness_shaped (enc:=enc) (C:=Tryd.checked) (os:=os) (X:=fun w _=>laidMetH Tryd.prog Law.laid w) false (World.doorLaid Tryd.prog 400 os) #[.slice none 0 0, .int .i64 0, .slice none 0 0] 8 rfl (World.shaped_of_RefB (by kernel_rfl) (by kernel_rfl)) (by kernel_rfl) (by kernel_rfl) (by kernel_rfl) (Law.door_met os _)) ?_
 intro W base args ds gs before hval0 hW _ _ hL _
 exact zvj (C:=Ld.C) (tb:=4) (slots:= [.hole (.sl (.int .i64)), .hole (.int .i64), .hole (.sl (.int .i64))]) (F:=Ld.f4F) Ld.f4ok (by kernel_rfl) (by kernel_rfl) (by kernel_rfl) (by kernel_rfl) Law.laidOut rfl
  (fun ds h=>match ds,h with| [_,_,_],_=>rfl) zhd (zkx hL (by kernel_rfl) Law.globs) hval0 hW
theorem zfr:Rows.LevelMostsSaid:=
 OpenClaim.holds_of_wide 4 Tryd.f4 rfl rfl rfl rfl rfl rfl rfl ⟨rfl,rfl,rfl,rfl,rfl⟩ rfl rfl rfl rfl rfl (by kernel_rfl) Tryd.func4 (by kernel_rfl)
  (of_decide_eq_true (by kernel_rfl)) (by unfold Func.isWrapper;first|(rw[if_pos (by decide+kernel)];kernel_rfl)|(rw[if_neg (by decide+kernel)];exact⟨rfl,rfl⟩))
  (fun os started H enc _=>zew os started H enc)
theorem levelMosts_card_holds:Rows.LevelMostsCardSaid:=
 Claim7.holds_tied_plain_at .later [] [.data] true (true, "df16186532d43108eac48d651a81dab44279b02d739a31fbe62cb1707fa1ff3d") false
  zfr (fun _ h=>by cases h) (by kernel_rfl) (fun _ h=>by cases h) levelMosts_row_tie rfl ⟨rfl,rfl⟩ (by kernel_rfl) rfl
  (fun f fn hf hfn=>by
   obtain rfl:f=4:=Option.some.inj ((show Tryd.prog.funcNamed "ductus/ductuslaw12.LevelMosts" =some 4 by kernel_rfl).symm.trans hf) |>.symm
   obtain rfl:fn=Tryd.f4:=(Option.some.inj (Tryd.func4.symm.trans hfn)).symm
   exact⟨by kernel_rfl,fun j t ht=>by
    rw[show Tryd.f4.params= #[24,3,24] from rfl] at ht
    have hm:t∈ [24,3,24]:=by simpa using Array.mem_of_getElem? ht
    have hall:([24,3,24].all fun u=> !Tryd.prog.wantsStandIn u)=true:=by kernel_rfl
    exact(show Tryd.prog.wantsStandIn t=false by simpa using List.all_eq_true.1 hall t hm)⟩)
  (by kernel_rfl)
#print axioms levelMosts_card_holds
end Go.Proofs.YtlppdabhaipbkaaDoor
