/- The law LevelPlain: a text of Latin letters alone has the base of its direction, all levels even; of Hebrew ones all are odd; of up to 200. -/
import Derived.Test.YtlppdabhaipbkaaDoorSxPn
import Derived.Test.YtlppdabhaipbkaaDoorSxLd0
set_option linter.unusedVariables false
set_option linter.unusedSimpArgs false
namespace Go.Proofs.YtlppdabhaipbkaaDoor
open Go.ChangeShapes Go.WideShapes Go.ChangeAt Go.WideMaps Go.WideElems Go.RowKit Go.Sx
set_option maxRecDepth 100000
theorem ze1 (os:Os) (started:os.Started) (H:Type) (enc:TypeId×Value→H):
  ReturnsInHanded {} Tryd.checked os 3 .any (fun w args=>(Rows.levelPlainSpec.pre enc Tryd.prog Tryd.f3 [] false w args∧laidMetH Tryd.prog Law.laid w)∧sizedMet enc Tryd.prog Tryd.f3 (OpenSpec.ofChange Rows.levelPlainSpec) false w args)
   (Rows.levelPlainSpec.post enc Tryd.prog Tryd.f3 false true false false):=by
 refine returnsInHanded_of_change_and (C:=Tryd.checked) (X:=fun w _=>laidMetH Tryd.prog Law.laid w) (fun _ _ _ hh h=>h.of_heap hh) Law.own started (by kernel_rfl) Tryd.func3
  (ChangeSpec.witness_shaped (enc:=enc) (C:=Tryd.checked) (os:=os) (X:=fun w _=>laidMetH Tryd.prog Law.laid w) false (World.doorLaid Tryd.prog 400 os) #[.slice none 0 0, .int .i64 0, .bool false] 8 rfl (World.shaped_of_RefB (by kernel_rfl) (by kernel_rfl)) (by kernel_rfl) (by kernel_rfl) (by kernel_rfl) (Law.door_met os _)) ?_
 intro W base args ds gs before hval0 hW _ _ hL _
 exact zv2 (C:=Ld.C) (tb:=4) (slots:= [.hole (.sl (.int .u8)), .hole (.int .i64), .hole .bool]) (F:=Ld.f3F) Ld.f3ok (by kernel_rfl) (by kernel_rfl) (by kernel_rfl) (by kernel_rfl) Law.laidOut rfl
  (fun ds h=>match ds,h with| [_,_,_],_=>rfl) zhn (zld hL (by kernel_rfl) Law.globs) hval0 hW
theorem zfz:Rows.LevelPlainSaid:=
 OpenClaim.holds_of_wide 3 Tryd.f3 rfl rfl rfl rfl rfl rfl rfl ⟨rfl,rfl,rfl,rfl,rfl⟩ rfl rfl rfl rfl rfl (by kernel_rfl) Tryd.func3 (by kernel_rfl)
  (of_decide_eq_true (by kernel_rfl)) (by unfold Func.isWrapper;first|(rw[if_pos (by decide+kernel)];kernel_rfl)|(rw[if_neg (by decide+kernel)];exact⟨rfl,rfl⟩))
  (fun os started H enc _=>ze1 os started H enc)
theorem levelPlain_card_holds:Rows.LevelPlainCardSaid:=
 Claim7.holds_tied_plain_at .later [] [.data] true (true, "df16186532d43108eac48d651a81dab44279b02d739a31fbe62cb1707fa1ff3d") false
  zfz (fun _ h=>by cases h) (by kernel_rfl) (fun _ h=>by cases h) levelPlain_row_tie rfl ⟨rfl,rfl⟩ (by kernel_rfl) rfl
  (fun f fn hf hfn=>by
   obtain rfl:f=3:=Option.some.inj ((show Tryd.prog.funcNamed "ductus/ductuslaw12.LevelPlain" =some 3 by kernel_rfl).symm.trans hf) |>.symm
   obtain rfl:fn=Tryd.f3:=(Option.some.inj (Tryd.func3.symm.trans hfn)).symm
   exact⟨by kernel_rfl,fun j t ht=>by
    rw[show Tryd.f3.params= #[22,3,4] from rfl] at ht
    have hm:t∈ [22,3,4]:=by simpa using Array.mem_of_getElem? ht
    have hall:([22,3,4].all fun u=> !Tryd.prog.wantsStandIn u)=true:=by kernel_rfl
    exact(show Tryd.prog.wantsStandIn t=false by simpa using List.all_eq_true.1 hall t hm)⟩)
  (by kernel_rfl)
#print axioms levelPlain_card_holds
end Go.Proofs.YtlppdabhaipbkaaDoor
