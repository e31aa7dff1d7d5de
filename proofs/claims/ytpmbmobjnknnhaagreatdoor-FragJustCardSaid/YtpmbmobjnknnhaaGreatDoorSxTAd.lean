import Derived.Test.YtpmbmobjnknnhaaGreatDoorSxTAc
set_option maxRecDepth 100000
set_option maxHeartbeats 0
set_option linter.unusedVariables false
set_option linter.unusedSimpArgs false
namespace Go.Sx
open Go.Proofs
def R.f21sig:Sig:=⟨⟨[.hole (.int .i64), .hole (.int .i64)], []⟩,⟨[.hole (.sl (.int .i64))], []⟩⟩
noncomputable def R.f21Γ:List Con:= []
def R.f21ann:Ann:=(.seq .leaf (.seq (.seq (.join [⟨.normal, [(16, .hole .bool)], []⟩] .leaf) (.cond (.seq .leaf .leaf) .leaf)) (.seq .leaf (.seq (.seq .leaf (.block (.loop ⟨.normal, [(5, .own 0),(6, .hole (.int .i64))], [.arr 3 (.int
 .i64)]⟩ [⟨(.exit 0), [(5, .own 0)], [.arr 3 (.int .i64)]⟩] (.seq (.seq .leaf (.cond .leaf .leaf)) (.seq (.block (.seq (.join [⟨.normal, [(30, .hole .bool)], [.arr 3 (.int .i64)]⟩] .leaf) (.cond .leaf .leaf))) .leaf))))) (.seq .leaf
 .leaf)))))
noncomputable def R.f21F:Int×Int→Option (List Int):=fun(x:Int×Int)=>Option.bind (if decide (x.1<(1:Int))=true then some true else if decide (x.2<(1:Int))=true then some true else some (decide (x.1 > (4000:
 Int)))) fun v1=>if v1=true then some [] else Option.bind (iter (fun(s2:Int×List Int)=>if decide (s2.1≤x.1)=true then Option.bind (if(s2.1==x.1)=true then some (true,s2.2) else if x.2=(0:Int) then none else some
 (Int.tmod s2.1 x.2==(0:Int),s2.2)) fun(v3:Bool×List Int)=>if v3.1=true then if zi (List.length v3.2+(1:Nat)) (8:Nat) then some (Sum.inl (IntKind.i64.wrap (s2.1+(1:Int)),v3.2++ [s2.1])) else none else some
 (Sum.inl (IntKind.i64.wrap (s2.1+(1:Int)),v3.2)) else some (Sum.inr s2.2)) ((1:Int), [])) fun(v2:List Int)=>some v2
theorem R.f21eq: ∀ x,zj R.C R.f21Γ R.f21sig R.f21ann Go.Proofs.Tryz.f21 x=R.f21F x:=by
 intro x
 kernel_rfl
noncomputable def R.f21con:Con:=⟨21,R.f21sig,R.f21F⟩
theorem R.f21ok:Con.Ok Go.Proofs.Tryz.prog R.C R.f21con:=
 zb (Γ:=R.f21Γ) (an:=R.f21ann) ⟨R.Cok,(fun _ h=>nomatch h),R.mixed⟩ Go.Proofs.Tryz.func21 rfl rfl (fun x y h=>(R.f21eq x).trans h) (by decide)
def R.f33sig:Sig:=⟨⟨[.hole (.int .i64)], []⟩,⟨[.hole (.int .i64)], []⟩⟩
noncomputable def R.f33Γ:List Con:= []
def R.f33ann:Ann:=(.seq .leaf (.seq (.block (.seq (.join [⟨.normal, [(3, .hole .bool)], []⟩] .leaf) (.cond (.seq .leaf .leaf) (.seq .leaf (.cond (.seq .leaf .leaf) (.seq .leaf (.cond (.seq .leaf .leaf) (.seq .leaf (.cond (.seq .leaf
 .leaf) (.seq .leaf (.cond (.seq .leaf .leaf) (.seq .leaf (.cond (.seq .leaf .leaf) (.seq (.join [⟨.normal, [(25, .hole .bool)], []⟩] .leaf) (.cond (.seq .leaf .leaf) (.seq (.join [⟨.normal, [(32, .hole .bool)], []⟩] .leaf) (.cond (.seq
 .leaf .leaf) (.seq .leaf (.cond (.seq .leaf .leaf) (.seq .leaf (.cond (.seq .leaf .leaf) (.seq (.join [⟨.normal, [(45, .hole .bool)], []⟩] .leaf) (.cond (.seq .leaf .leaf) (.seq (.join [⟨.normal, [(52, .hole .bool)], []⟩] .leaf) (.cond
 (.seq .leaf .leaf) (.seq (.join [⟨.normal, [(59, .hole .bool)], []⟩] .leaf) (.cond (.seq .leaf .leaf) (.seq .leaf (.cond (.seq .leaf .leaf) (.seq .leaf (.cond (.seq .leaf .leaf) (.seq .leaf (.cond (.seq .leaf .leaf) (.seq (.join [⟨.normal,
 [(75, .hole .bool)], []⟩] .leaf) (.cond (.seq .leaf .leaf) (.seq (.join [⟨.normal, [(82, .hole .bool)], []⟩] .leaf) (.cond (.seq .leaf .leaf) (.seq .leaf (.cond (.seq .leaf .leaf) (.seq (.join [⟨.normal, [(92, .hole .bool)], []⟩] .leaf)
 (.cond (.seq .leaf .leaf) (.seq (.join [⟨.normal, [(99, .hole .bool)], []⟩] .leaf) (.cond (.seq .leaf .leaf) (.seq (.join [⟨.normal, [(106, .hole .bool)], []⟩] .leaf) (.cond (.seq .leaf .leaf) (.seq (.join [⟨.normal, [(113, .hole .bool)],
 []⟩] .leaf) (.cond (.seq .leaf .leaf) (.seq .leaf (.cond (.seq .leaf .leaf) (.seq (.join [⟨.normal, [(123, .hole .bool)], []⟩] .leaf) (.cond (.seq .leaf .leaf) (.seq .leaf (.cond (.seq .leaf .leaf) (.seq .leaf (.cond (.seq .leaf .leaf)
 (.seq (.join [⟨.normal, [(136, .hole .bool)], []⟩] .leaf) (.cond (.seq .leaf .leaf) (.seq (.join [⟨.normal, [(143, .hole .bool)], []⟩] .leaf) (.cond (.seq .leaf .leaf) (.seq (.join [⟨.normal, [(150, .hole .bool)], []⟩] .leaf) (.cond (.seq
 .leaf .leaf) (.seq .leaf (.cond (.seq .leaf .leaf) (.seq (.join [⟨.normal, [(160, .hole .bool)], []⟩] .leaf) (.cond (.seq .leaf .leaf) (.seq (.join [⟨.normal, [(167, .hole .bool)], []⟩] .leaf) (.cond (.seq .leaf .leaf) (.seq (.join
 [⟨.normal, [(174, .hole .bool)], []⟩] .leaf) (.cond (.seq .leaf .leaf) (.seq .leaf (.cond (.seq .leaf .leaf) (.seq (.join [⟨.normal, [(184, .hole .bool)], []⟩] .leaf) (.cond (.seq .leaf .leaf) (.seq .leaf (.cond (.seq .leaf .leaf) (.seq
 (.join [⟨.normal, [(194, .hole .bool)], []⟩] .leaf) (.cond (.seq .leaf .leaf) (.seq .leaf (.cond (.seq .leaf .leaf) (.seq .leaf (.cond (.seq .leaf .leaf) (.seq (.join [⟨.normal, [(207, .hole .bool)], []⟩] .leaf) (.cond (.seq .leaf .leaf)
 (.seq (.join [⟨.normal, [(214, .hole .bool)], []⟩] .leaf) (.cond (.seq .leaf .leaf) (.seq .leaf (.cond (.seq .leaf .leaf) (.seq .leaf (.cond (.seq .leaf .leaf) (.seq .leaf (.cond (.seq .leaf .leaf) (.seq (.join [⟨.normal, [(230, .hole
 .bool)], []⟩] .leaf) (.cond (.seq .leaf .leaf) (.seq (.join [⟨.normal, [(237, .hole .bool)], []⟩] .leaf) (.cond (.seq .leaf .leaf) (.seq (.join [⟨.normal, [(244, .hole .bool)], []⟩] .leaf) (.cond (.seq .leaf .leaf) (.seq (.join [⟨.normal,
 [(251, .hole .bool)], []⟩] .leaf) (.cond (.seq .leaf .leaf) (.seq .leaf (.cond (.seq .leaf .leaf) (.seq (.join [⟨.normal, [(261, .hole .bool)], []⟩] .leaf) (.cond (.seq .leaf .leaf) (.seq .leaf (.cond (.seq .leaf .leaf) (.seq .leaf (.cond
 (.seq .leaf .leaf) (.seq .leaf (.cond (.seq .leaf .leaf) (.seq (.join [⟨.normal, [(277, .hole .bool)], []⟩] .leaf) (.cond (.seq .leaf .leaf) (.seq (.join [⟨.normal, [(284, .hole .bool)], []⟩] .leaf) (.cond (.seq .leaf .leaf) (.seq (.join
 [⟨.normal, [(291, .hole .bool)], []⟩] .leaf) (.cond (.seq .leaf .leaf) (.seq (.join [⟨.normal, [(298, .hole .bool)], []⟩] .leaf) (.cond (.seq .leaf .leaf) (.seq .leaf (.cond (.seq .leaf .leaf) (.seq (.join [⟨.normal, [(308, .hole .bool)],
 []⟩] .leaf) (.cond (.seq .leaf .leaf) (.seq (.join [⟨.normal, [(315, .hole .bool)], []⟩] .leaf) (.cond (.seq .leaf .leaf) (.seq .leaf (.cond (.seq .leaf .leaf) (.seq (.join [⟨.normal, [(325, .hole .bool)], []⟩] .leaf) (.cond (.seq .leaf
 .leaf) (.seq (.join [⟨.normal, [(332, .hole .bool)], []⟩] .leaf) (.cond (.seq .leaf .leaf) (.seq .leaf (.cond (.seq .leaf .leaf) (.seq (.join [⟨.normal, [(342, .hole .bool)], []⟩] .leaf) (.cond (.seq .leaf .leaf) (.seq .leaf (.cond (.seq
 .leaf .leaf) (.seq .leaf (.cond (.seq .leaf .leaf) (.seq .leaf (.cond (.seq .leaf .leaf) (.seq .leaf (.cond (.seq .leaf .leaf) (.seq .leaf (.cond (.seq .leaf .leaf) (.seq .leaf (.cond (.seq .leaf .leaf) (.seq .leaf (.cond (.seq .leaf .leaf)
 (.seq .leaf (.cond (.seq .leaf .leaf) (.seq (.join [⟨.normal, [(373, .hole .bool)], []⟩] .leaf) (.cond (.seq .leaf .leaf) (.seq (.join [⟨.normal, [(380, .hole .bool)], []⟩] .leaf) (.cond (.seq .leaf .leaf) (.seq .leaf (.cond (.seq .leaf
 .leaf) (.seq .leaf (.cond (.seq .leaf .leaf) (.seq .leaf (.cond (.seq .leaf .leaf) (.seq .leaf (.cond (.seq .leaf .leaf) (.seq .leaf (.cond (.seq .leaf .leaf) (.seq (.join [⟨.normal, [(402, .hole .bool)], []⟩] .leaf) (.cond (.seq .leaf
 .leaf) (.seq (.join [⟨.normal, [(409, .hole .bool)], []⟩] .leaf) (.cond (.seq .leaf .leaf) (.seq (.join [⟨.normal, [(416, .hole .bool)], []⟩] .leaf) (.cond (.seq .leaf .leaf) (.seq .leaf (.cond (.seq .leaf .leaf) (.seq .leaf (.cond (.seq
 .leaf .leaf) (.seq (.join [⟨.normal, [(429, .hole .bool)], []⟩] .leaf) (.cond (.seq .leaf .leaf) (.seq (.join [⟨.normal, [(436, .hole .bool)], []⟩] .leaf) (.cond (.seq .leaf .leaf) (.seq .leaf (.cond (.seq .leaf .leaf) (.seq (.join
 [⟨.normal, [(446, .hole .bool)], []⟩] .leaf) (.cond (.seq .leaf .leaf)
 .leaf))))))))))))))))))))))))))))))))))))))))))))))))))))))))))))))))))))))))))))))))))))))))))))))))))))))))))))))))))))))))))))))))))))))))))))))))))))))))))))))))))))))))))))))))))))) (.seq .leaf .leaf)))
noncomputable def R.f33F:Int→Option (Int):=fun(x:Int)=>Option.bind (if decide (x≥(0:Int))=true then some (decide (x≤(8:Int))) else some false) fun v1=>if v1=true then some (9:Int) else if(x==(9:Int))=true
 then some (11:Int) else if(x==(10:Int))=true then some (10:Int) else if(x==(11:Int))=true then some (11:Int) else if(x==(12:Int))=true then some (12:Int) else if(x==(13:Int))=true then some (10:Int)
 else Option.bind (if decide (x≥(14:Int))=true then some (decide (x≤(27:Int))) else some false) fun v2=>if v2=true then some (9:Int) else Option.bind (if decide (x≥(28:Int))=true then some (decide (x≤(30:Int))) else
 some false) fun v3=>if v3=true then some (10:Int) else if(x==(31:Int))=true then some (11:Int) else if(x==(32:Int))=true then some (12:Int) else Option.bind (if decide (x≥(33:Int))=true then some (decide (x≤
 (34:Int))) else some false) fun v4=>if v4=true then some (13:Int) else Option.bind (if decide (x≥(35:Int))=true then some (decide (x≤(37:Int))) else some false) fun v5=>if v5=true then some (5:Int) else Option.bind
 (if decide (x≥(38:Int))=true then some (decide (x≤(42:Int))) else some false) fun v6=>if v6=true then some (13:Int) else if(x==(43:Int))=true then some (4:Int) else if(x==(44:Int))=true then some (7:Int)
 else if(x==(45:Int))=true then some (4:Int) else Option.bind (if decide (x≥(46:Int))=true then some (decide (x≤(47:Int))) else some false) fun v7=>if v7=true then some (7:Int) else Option.bind (if decide (x≥(48:
 Int))=true then some (decide (x≤(57:Int))) else some false) fun v8=>if v8=true then some (3:Int) else if(x==(58:Int))=true then some (7:Int) else Option.bind (if decide (x≥(59:Int))=true then some (decide (x≤(64
 :Int))) else some false) fun v9=>if v9=true then some (13:Int) else Option.bind (if decide (x≥(91:Int))=true then some (decide (x≤(96:Int))) else some false) fun v10=>if v10=true then some (13:Int) else Option.bind
 (if decide (x≥(123:Int))=true then some (decide (x≤(126:Int))) else some false) fun v11=>if v11=true then some (13:Int) else Option.bind (if decide (x≥(127:Int))=true then some (decide (x≤(132:Int))) else some
 false) fun v12=>if v12=true then some (9:Int) else if(x==(133:Int))=true then some (10:Int) else Option.bind (if decide (x≥(134:Int))=true then some (decide (x≤(159:Int))) else some false) fun v13=>if v13=true
 then some (9:Int) else if(x==(160:Int))=true then some (7:Int) else if(x==(161:Int))=true then some (13:Int) else Option.bind (if decide (x≥(162:Int))=true then some (decide (x≤(165:Int))) else some false) fun
 v14=>if v14=true then some (5:Int) else Option.bind (if decide (x≥(166:Int))=true then some (decide (x≤(169:Int))) else some false) fun v15=>if v15=true then some (13:Int) else Option.bind (if decide (x≥(171:Int))
 =true then some (decide (x≤(172:Int))) else some false) fun v16=>if v16=true then some (13:Int) else if(x==(173:Int))=true then some (9:Int) else Option.bind (if decide (x≥(174:Int))=true then some (decide (x≤
 (175:Int))) else some false) fun v17=>if v17=true then some (13:Int) else Option.bind (if decide (x≥(176:Int))=true then some (decide (x≤(177:Int))) else some false) fun v18=>if v18=true then some (5:Int) else
 Option.bind (if decide (x≥(178:Int))=true then some (decide (x≤(179:Int))) else some false) fun v19=>if v19=true then some (3:Int) else if(x==(180:Int))=true then some (13:Int) else Option.bind (if decide (x≥(182
 :Int))=true then some (decide (x≤(184:Int))) else some false) fun v20=>if v20=true then some (13:Int) else if(x==(185:Int))=true then some (3:Int) else Option.bind (if decide (x≥(187:Int))=true then some (decide
 (x≤(191:Int))) else some false) fun v21=>if v21=true then some (13:Int) else if(x==(215:Int))=true then some (13:Int) else if(x==(247:Int))=true then some (13:Int) else Option.bind (if decide (x≥(768:Int))=
 true then some (decide (x≤(879:Int))) else some false) fun v22=>if v22=true then some (8:Int) else Option.bind (if decide (x≥(1425:Int))=true then some (decide (x≤(1469:Int))) else some false) fun v23=>if v23=true
 then some (8:Int) else if(x==(1470:Int))=true then some (1:Int) else if(x==(1471:Int))=true then some (8:Int) else if(x==(1472:Int))=true then some (1:Int) else Option.bind (if decide (x≥(1473:Int))=true
 then some (decide (x≤(1474:Int))) else some false) fun v24=>if v24=true then some (8:Int) else Option.bind (if decide (x≥(1488:Int))=true then some (decide (x≤(1524:Int))) else some false) fun v25=>if v25=true then
 some (1:Int) else Option.bind (if decide (x≥(1536:Int))=true then some (decide (x≤(1541:Int))) else some false) fun v26=>if v26=true then some (6:Int) else Option.bind (if decide (x≥(1542:Int))=true then some (decide
 (x≤(1543:Int))) else some false) fun v27=>if v27=true then some (13:Int) else if(x==(1544:Int))=true then some (2:Int) else Option.bind (if decide (x≥(1545:Int))=true then some (decide (x≤(1546:Int))) else some
 false) fun v28=>if v28=true then some (5:Int) else if(x==(1547:Int))=true then some (2:Int) else if(x==(1548:Int))=true then some (7:Int) else if(x==(1549:Int))=true then some (2:Int) else Option.bind (if
 decide (x≥(1552:Int))=true then some (decide (x≤(1562:Int))) else some false) fun v29=>if v29=true then some (8:Int) else Option.bind (if decide (x≥(1563:Int))=true then some (decide (x≤(1610:Int))) else some
 false) fun v30=>if v30=true then some (2:Int) else Option.bind (if decide (x≥(1611:Int))=true then some (decide (x≤(1631:Int))) else some false) fun v31=>if v31=true then some (8:Int) else Option.bind (if decide (x≥
 (1632:Int))=true then some (decide (x≤(1641:Int))) else some false) fun v32=>if v32=true then some (6:Int) else if(x==(1642:Int))=true then some (5:Int) else Option.bind (if decide (x≥(1643:Int))=true then some
 (decide (x≤(1644:Int))) else some false) fun v33=>if v33=true then some (6:Int) else Option.bind (if decide (x≥(1645:Int))=true then some (decide (x≤(1647:Int))) else some false) fun v34=>if v34=true then some (2:
 Int) else if(x==(1648:Int))=true then some (8:Int) else Option.bind (if decide (x≥(1649:Int))=true then some (decide (x≤(1749:Int))) else some false) fun v35=>if v35=true then some (2:Int) else Option.bind (if
 decide (x≥(8203:Int))=true then some (decide (x≤(8205:Int))) else some false) fun v36=>if v36=true then some (9:Int) else if(x==(8207:Int))=true then some (1:Int) else Option.bind (if decide (x≥(8208:Int))=
 true then some (decide (x≤(8231:Int))) else some false) fun v37=>if v37=true then some (13:Int) else if(x==(8232:Int))=true then some (12:Int) else if(x==(8233:Int))=true then some (10:Int) else if(x==(8234:
 Int))=true then some (14:Int) else if(x==(8235:Int))=true then some (16:Int) else if(x==(8236:Int))=true then some (18:Int) else if(x==(8237:Int))=true then some (15:Int) else if(x==(8238:Int))=true
 then some (17:Int) else if(x==(8239:Int))=true then some (7:Int) else Option.bind (if decide (x≥(8240:Int))=true then some (decide (x≤(8244:Int))) else some false) fun v38=>if v38=true then some (5:Int) else
 Option.bind (if decide (x≥(8245:Int))=true then some (decide (x≤(8259:Int))) else some false) fun v39=>if v39=true then some (13:Int) else if(x==(8294:Int))=true then some (19:Int) else if(x==(8295:Int))=true
 then some (20:Int) else if(x==(8296:Int))=true then some (21:Int) else if(x==(8297:Int))=true then some (22:Int) else if(x==(8304:Int))=true then some (3:Int) else Option.bind (if decide (x≥(8308:Int))=
 true then some (decide (x≤(8313:Int))) else some false) fun v40=>if v40=true then some (3:Int) else Option.bind (if decide (x≥(8352:Int))=true then some (decide (x≤(8384:Int))) else some false) fun v41=>if v41=true
 then some (5:Int) else Option.bind (if decide (x≥(8592:Int))=true then some (decide (x≤(8721:Int))) else some false) fun v42=>if v42=true then some (13:Int) else if(x==(8722:Int))=true then some (4:Int) else if(x
 ==(8723:Int))=true then some (5:Int) else Option.bind (if decide (x≥(8724:Int))=true then some (decide (x≤(9013:Int))) else some false) fun v43=>if v43=true then some (13:Int) else Option.bind (if decide (x≥(12296:
 Int))=true then some (decide (x≤(12305:Int))) else some false) fun v44=>if v44=true then some (13:Int) else if(x==(65279:Int))=true then some (9:Int) else Option.bind (if decide (x≥(128512:Int))=true then some
 (decide (x≤(128591:Int))) else some false) fun v45=>if v45=true then some (13:Int) else some (0:Int)
theorem R.f33eq: ∀ x,zj R.C R.f33Γ R.f33sig R.f33ann Go.Proofs.Tryz.f33 x=R.f33F x:=by
 intro x
 kernel_rfl
noncomputable def R.f33con:Con:=⟨33,R.f33sig,R.f33F⟩
theorem R.f33ok:Con.Ok Go.Proofs.Tryz.prog R.C R.f33con:=
 zb (Γ:=R.f33Γ) (an:=R.f33ann) ⟨R.Cok,(fun _ h=>nomatch h),R.mixed⟩ Go.Proofs.Tryz.func33 rfl rfl (fun x y h=>(R.f33eq x).trans h) (by decide)
def R.f34sig:Sig:=⟨⟨[.hole (.int .i64)], []⟩,⟨[.hole .bool], []⟩⟩
noncomputable def R.f34Γ:List Con:= []
def R.f34ann:Ann:=(.seq .leaf (.seq .leaf .leaf))
noncomputable def R.f34F:Int→Option (Bool):=fun(x:Int)=>if(x==(9:Int))=true then some true else if(x==(14:Int))=true then some true else if(x==(15:Int))=true then some true else if(x==(16:Int))=true
 then some true else if(x==(17:Int))=true then some true else some (x==(18:Int))
theorem R.f34eq: ∀ x,zj R.C R.f34Γ R.f34sig R.f34ann Go.Proofs.Tryz.f34 x=R.f34F x:=by
 intro x
 kernel_rfl
noncomputable def R.f34con:Con:=⟨34,R.f34sig,R.f34F⟩
theorem R.f34ok:Con.Ok Go.Proofs.Tryz.prog R.C R.f34con:=
 zb (Γ:=R.f34Γ) (an:=R.f34ann) ⟨R.Cok,(fun _ h=>nomatch h),R.mixed⟩ Go.Proofs.Tryz.func34 rfl rfl (fun x y h=>(R.f34eq x).trans h) (by decide)
def R.f35sig:Sig:=⟨⟨[.hole (.int .i64)], []⟩,⟨[.hole .bool], []⟩⟩
noncomputable def R.f35Γ:List Con:= []
def R.f35ann:Ann:=(.seq .leaf (.seq .leaf .leaf))
noncomputable def R.f35F:Int→Option (Bool):=fun(x:Int)=>if(x==(19:Int))=true then some true else if(x==(20:Int))=true then some true else some (x==(21:Int))
theorem R.f35eq: ∀ x,zj R.C R.f35Γ R.f35sig R.f35ann Go.Proofs.Tryz.f35 x=R.f35F x:=by
 intro x
 kernel_rfl
noncomputable def R.f35con:Con:=⟨35,R.f35sig,R.f35F⟩
theorem R.f35ok:Con.Ok Go.Proofs.Tryz.prog R.C R.f35con:=
 zb (Γ:=R.f35Γ) (an:=R.f35ann) ⟨R.Cok,(fun _ h=>nomatch h),R.mixed⟩ Go.Proofs.Tryz.func35 rfl rfl (fun x y h=>(R.f35eq x).trans h) (by decide)
def R.f22sig:Sig:=⟨⟨[.hole (.int .i64)], []⟩,⟨[.hole .bool], []⟩⟩
noncomputable def R.f22Γ:List Con:= [R.f33con,R.f34con,R.f35con]
def R.f22ann:Ann:=(.seq .leaf (.seq .leaf (.seq .leaf .leaf)))
noncomputable def R.f22F:Int→Option (Bool):=fun(x:Int)=>Option.bind (R.f33F x) fun v1=>Option.bind (R.f34F v1) fun v2=>if v2=true then some true else Option.bind (R.f35F v1) fun v3=>if v3=true then some true else some
 (v1==(22:Int))
theorem R.f22eq: ∀ x,zj R.C R.f22Γ R.f22sig R.f22ann Go.Proofs.Tryz.f22 x=R.f22F x:=by
 intro x
 kernel_rfl
noncomputable def R.f22con:Con:=⟨22,R.f22sig,R.f22F⟩
theorem R.f22ok:Con.Ok Go.Proofs.Tryz.prog R.C R.f22con:=
 zb (Γ:=R.f22Γ) (an:=R.f22ann) ⟨R.Cok,(List.forall_mem_cons.2 ⟨R.f33ok,(List.forall_mem_cons.2 ⟨R.f34ok,(List.forall_mem_cons.2 ⟨R.f35ok,(fun _ h=>nomatch h)⟩)⟩)⟩),R.mixed⟩ Go.Proofs.Tryz.func22 rfl rfl (fun x y h=>(R.f22eq x).trans h) (by decide)
def R.f5sig:Sig:=⟨⟨[.hole (.sl (.int .i64)), .hole (.int .i64), .hole (.arr 3 (.int .u8))], []⟩,⟨[.hole .bool], []⟩⟩
noncomputable def R.f5Γ:List Con:= [R.f9con,R.f21con,R.f10con,R.f14con,R.f22con,R.f19con]
def R.f5ann:Ann:=(.seq .leaf (.seq (.seq .leaf (.cond (.seq .leaf .leaf) .leaf)) (.seq (.seq .leaf (.cond (.seq .leaf .leaf) .leaf)) (.seq .leaf (.seq (.seq .leaf (.cond (.seq .leaf .leaf) .leaf)) (.seq .leaf (.seq .leaf (.seq .leaf
 (.seq .leaf (.seq (.seq .leaf (.block (.loop ⟨.normal, [(13, .hole (.int .i64)),(14, .hole (.int .i64))], [.gone, .cells [.hole (.int .i64), .hole (.int .i64)]]⟩ [⟨(.exit 0), [(13, .hole (.int .i64))], [.gone, .cells [.hole (.int .i64),
 .hole (.int .i64)]]⟩] (.seq (.seq .leaf (.cond .leaf .leaf)) (.seq (.block (.seq .leaf (.cond .leaf .leaf))) .leaf))))) (.seq (.seq .leaf (.block (.loop ⟨.normal, [(15, .hole (.int .i64))], [.gone, .cells [.hole (.int .i64), .hole (.int
 .i64)]]⟩ [⟨(.exit 2), [], [.gone, .gone]⟩,⟨.ret, [(6, .hole .bool)], [.gone, .gone]⟩] (.seq (.seq .leaf (.cond .leaf .leaf)) (.seq (.block (.seq .leaf (.seq (.seq (.join [⟨.normal, [(159, .hole .bool)], [.gone, .cells [.hole (.int .i64),
 .hole (.int .i64)], .cells [.hole (.int .i64), .hole (.int .i64), .hole (.int .i64)]]⟩] .leaf) (.cond (.seq .leaf .leaf) .leaf)) (.seq .leaf (.block (.loop ⟨.normal, [(17, .hole (.int .i64))], [.gone, .cells [.hole (.int .i64), .hole (.int
 .i64)], .cells [.hole (.int .i64), .hole (.int .i64), .hole (.int .i64)]]⟩ [⟨(.exit 4), [], [.gone, .cells [.hole (.int .i64), .hole (.int .i64)], .gone]⟩,⟨.ret, [(6, .hole .bool)], [.gone, .gone, .gone]⟩] (.seq (.seq .leaf (.cond .leaf
 .leaf)) (.seq (.block (.seq .leaf (.seq (.join [⟨.normal, [(186, .hole .bool)], [.gone, .cells [.hole (.int .i64), .hole (.int .i64)], .cells [.hole (.int .i64), .hole (.int .i64), .hole (.int .i64)]]⟩] .leaf) (.cond (.seq .leaf .leaf)
 .leaf)))) .leaf)))))))) .leaf))))) (.seq .leaf .leaf))))))))))))
noncomputable def R.f5F:List Int×Int×List Int→Option (Bool):=fun(x:List Int×Int×List Int)=>Option.bind (R.f9F ()) fun v1=>if(!v1)=true then some false else if decide ((x.1.length:Int) > (120:Int))=true then
 some true else if(0:Int)≤(0:Int)∧(0:Int)<(↑(3:Nat):Int) then Option.bind (R.f21F ((x.1.length:Int),IntKind.i64.wrap ((1:Int)+IntKind.i64.wrap (List.getD x.2.2 (nat_lit 0) (0:Int))))) fun(v2:List Int)=>
 Option.bind (R.f10F (x.1,x.2.1,v2)) fun(v3:List (Int×Int×List Int)×Int)=>if(v3.2 !=(0:Int))=true then some false else if(0:Int)≤(1:Int)∧(1:Int)<(↑(3:Nat):Int) then if IntKind.i64.wrap ((x.1.length:Int)
 +(1:Int))=(0:Int) then none else if(0:Int)≤(2:Int)∧(2:Int)<(↑(3:Nat):Int) then if IntKind.i64.wrap ((x.1.length:Int)+(1:Int))=(0:Int) then none else Option.bind (R.f14F (v3.1,zck (Int.tmod
 (IntKind.i64.wrap (List.getD x.2.2 (nat_lit 1) (0:Int))) (IntKind.i64.wrap ((x.1.length:Int)+(1:Int)))) (Int.tmod (IntKind.i64.wrap (List.getD x.2.2 (nat_lit 2) (0:Int))) (IntKind.i64.wrap ((x.1.length:Int)+(1:Int)))),zef
 (Int.tmod (IntKind.i64.wrap (List.getD x.2.2 (nat_lit 1) (0:Int))) (IntKind.i64.wrap ((x.1.length:Int)+(1:Int)))) (Int.tmod (IntKind.i64.wrap (List.getD x.2.2 (nat_lit 2) (0:Int))) (IntKind.i64.wrap ((x.1.length:Int)+(1:
 Int)))))) fun(v4:List (Int×Int×Int))=>Option.bind (iter (fun(s5:Int×Int×Int×Int)=>if decide (s5.2.1<s5.2.2.2)=true then if(0:Int)≤s5.2.1∧s5.2.1<(x.1.length:Int) then Option.bind (R.f22F (List.getD x.1
 (Int.toNat s5.2.1) (0:Int))) fun v6=>if(!v6)=true then some (Sum.inl (IntKind.i64.wrap (s5.1+(1:Int)),IntKind.i64.wrap (s5.2.1+(1:Int)),s5.2.2.1,s5.2.2.2)) else some (Sum.inl (s5.1,IntKind.i64.wrap (s5.2.1+(1:Int)),
 s5.2.2.1,s5.2.2.2)) else none else some (Sum.inr (s5.1,s5.2.2.1,s5.2.2.2))) ((0:Int),zck (Int.tmod (IntKind.i64.wrap (List.getD x.2.2 (nat_lit 1) (0:Int))) (IntKind.i64.wrap ((x.1.length:Int)+(1:Int)))) (Int.tmod
 (IntKind.i64.wrap (List.getD x.2.2 (nat_lit 2) (0:Int))) (IntKind.i64.wrap ((x.1.length:Int)+(1:Int)))),zck (Int.tmod (IntKind.i64.wrap (List.getD x.2.2 (nat_lit 1) (0:Int))) (IntKind.i64.wrap ((x.1.length:Int)+(1:Int))))
 (Int.tmod (IntKind.i64.wrap (List.getD x.2.2 (nat_lit 2) (0:Int))) (IntKind.i64.wrap ((x.1.length:Int)+(1:Int)))),zef (Int.tmod (IntKind.i64.wrap (List.getD x.2.2 (nat_lit 1) (0:Int))) (IntKind.i64.wrap ((x.1.length:Int)+(1
 :Int)))) (Int.tmod (IntKind.i64.wrap (List.getD x.2.2 (nat_lit 2) (0:Int))) (IntKind.i64.wrap ((x.1.length:Int)+(1:Int)))))) fun v5=>Option.bind (iter (fun(s6:Int×Int×Int)=>if decide (s6.1<(v4.length:Int))=true
 then if(0:Int)≤s6.1∧s6.1<(v4.length:Int) then Option.bind (if decide ((List.getD v4 (Int.toNat s6.1) ((0:Int),(0:Int),(0:Int))).1<(0:Int))=true then some (true,s6.2.1,s6.2.2,(List.getD v4 (Int.toNat s6.1) ((0:
 Int),(0:Int),(0:Int))).1,(List.getD v4 (Int.toNat s6.1) ((0:Int),(0:Int),(0:Int))).2.1,(List.getD v4 (Int.toNat s6.1) ((0:Int),(0:Int),(0:Int))).2.2) else if decide ((List.getD v4 (Int.toNat s6.1) ((0:Int),(0:
 Int),(0:Int))).1≥(v3.1.length:Int))=true then some (true,s6.2.1,s6.2.2,(List.getD v4 (Int.toNat s6.1) ((0:Int),(0:Int),(0:Int))).1,(List.getD v4 (Int.toNat s6.1) ((0:Int),(0:Int),(0:Int))).2.1,(List.getD v4
 (Int.toNat s6.1) ((0:Int),(0:Int),(0:Int))).2.2) else if decide ((List.getD v4 (Int.toNat s6.1) ((0:Int),(0:Int),(0:Int))).2.1<(0:Int))=true then some (true,s6.2.1,s6.2.2,(List.getD v4 (Int.toNat s6.1) ((0:Int),
 (0:Int),(0:Int))).1,(List.getD v4 (Int.toNat s6.1) ((0:Int),(0:Int),(0:Int))).2.1,(List.getD v4 (Int.toNat s6.1) ((0:Int),(0:Int),(0:Int))).2.2) else if decide ((List.getD v4 (Int.toNat s6.1) ((0:Int),(0:Int),(0
 :Int))).2.1≥(List.getD v4 (Int.toNat s6.1) ((0:Int),(0:Int),(0:Int))).2.2)=true then some (true,s6.2.1,s6.2.2,(List.getD v4 (Int.toNat s6.1) ((0:Int),(0:Int),(0:Int))).1,(List.getD v4 (Int.toNat s6.1) ((0:Int),(0
 :Int),(0:Int))).2.1,(List.getD v4 (Int.toNat s6.1) ((0:Int),(0:Int),(0:Int))).2.2) else if(0:Int)≤(List.getD v4 (Int.toNat s6.1) ((0:Int),(0:Int),(0:Int))).1∧(List.getD v4 (Int.toNat s6.1) ((0:Int),(0:Int),
 (0:Int))).1<(v3.1.length:Int) then if decide ((List.getD v4 (Int.toNat s6.1) ((0:Int),(0:Int),(0:Int))).2.2 > (↑(List.length (List.getD v3.1 (Int.toNat (List.getD v4 (Int.toNat s6.1) ((0:Int),(0:Int),(0:Int))).1) ((0:
 Int),(0:Int), [])).2.2):Int))=true then some (true,s6.2.1,s6.2.2,(List.getD v4 (Int.toNat s6.1) ((0:Int),(0:Int),(0:Int))).1,(List.getD v4 (Int.toNat s6.1) ((0:Int),(0:Int),(0:Int))).2.1,(List.getD v4 (Int.toNat
 s6.1) ((0:Int),(0:Int),(0:Int))).2.2) else if decide (s6.1 > (0:Int))=true then if(0:Int)≤IntKind.i64.wrap (s6.1 - (1:Int))∧IntKind.i64.wrap (s6.1 - (1:Int))<(v4.length:Int) then if decide ((List.getD v4
 (Int.toNat (IntKind.i64.wrap (s6.1 - (1:Int)))) ((0:Int),(0:Int),(0:Int))).1 > (List.getD v4 (Int.toNat s6.1) ((0:Int),(0:Int),(0:Int))).1)=true then some (true,s6.2.1,s6.2.2,(List.getD v4 (Int.toNat s6.1) ((0:Int),
 (0:Int),(0:Int))).1,(List.getD v4 (Int.toNat s6.1) ((0:Int),(0:Int),(0:Int))).2.1,(List.getD v4 (Int.toNat s6.1) ((0:Int),(0:Int),(0:Int))).2.2) else if(0:Int)≤IntKind.i64.wrap (s6.1 - (1:Int))∧
 IntKind.i64.wrap (s6.1 - (1:Int))<(v4.length:Int) then if((List.getD v4 (Int.toNat (IntKind.i64.wrap (s6.1 - (1:Int)))) ((0:Int),(0:Int),(0:Int))).1==(List.getD v4 (Int.toNat s6.1) ((0:Int),(0:Int),(0:Int))).1)=
 true then if(0:Int)≤IntKind.i64.wrap (s6.1 - (1:Int))∧IntKind.i64.wrap (s6.1 - (1:Int))<(v4.length:Int) then some (decide ((List.getD v4 (Int.toNat (IntKind.i64.wrap (s6.1 - (1:Int)))) ((0:Int),(0:Int),(0:Int))).2.2
 ≥(List.getD v4 (Int.toNat s6.1) ((0:Int),(0:Int),(0:Int))).2.1),s6.2.1,s6.2.2,(List.getD v4 (Int.toNat s6.1) ((0:Int),(0:Int),(0:Int))).1,(List.getD v4 (Int.toNat s6.1) ((0:Int),(0:Int),(0:Int))).2.1,(List.getD
 v4 (Int.toNat s6.1) ((0:Int),(0:Int),(0:Int))).2.2) else none else some (false,s6.2.1,s6.2.2,(List.getD v4 (Int.toNat s6.1) ((0:Int),(0:Int),(0:Int))).1,(List.getD v4 (Int.toNat s6.1) ((0:Int),(0:Int),(0:
 Int))).2.1,(List.getD v4 (Int.toNat s6.1) ((0:Int),(0:Int),(0:Int))).2.2) else none else none else some (false,s6.2.1,s6.2.2,(List.getD v4 (Int.toNat s6.1) ((0:Int),(0:Int),(0:Int))).1,(List.getD v4 (Int.toNat s6.1) ((0
 :Int),(0:Int),(0:Int))).2.1,(List.getD v4 (Int.toNat s6.1) ((0:Int),(0:Int),(0:Int))).2.2) else none) fun v7=>if v7.1=true then some (Sum.inr (Sum.inr false)) else Option.bind (iter (fun(s8:Int×Int×Int×Int×Int
 ×Int)=>if decide (s8.1<s8.2.2.2.2.2)=true then if(0:Int)≤s8.2.2.2.1∧s8.2.2.2.1<(v3.1.length:Int) then if(0:Int)≤s8.1∧s8.1<(↑(List.length (List.getD v3.1 (Int.toNat s8.2.2.2.1) ((0:Int),(0:Int), [])).2.2):
 Int) then Option.bind (if decide (List.getD (List.getD v3.1 (Int.toNat s8.2.2.2.1) ((0:Int),(0:Int), [])).2.2 (Int.toNat s8.1) (0:Int)<s8.2.1)=true then some (true,s8.2.1,s8.2.2.1,s8.2.2.2.1,s8.2.2.2.2.1,s8.2.2.2.2.2) else
 some (decide (List.getD (List.getD v3.1 (Int.toNat s8.2.2.2.1) ((0:Int),(0:Int), [])).2.2 (Int.toNat s8.1) (0:Int)≥s8.2.2.1),s8.2.1,s8.2.2.1,s8.2.2.2.1,s8.2.2.2.2.1,s8.2.2.2.2.2)) fun v9=>if v9.1=true then some (Sum.inr
 (Sum.inr false)) else some (Sum.inl (IntKind.i64.wrap (s8.1+(1:Int)),v9.2.1,v9.2.2.1,v9.2.2.2.1,v9.2.2.2.2.1,v9.2.2.2.2.2)) else none else none else some (Sum.inr (Sum.inl (s8.2.1,s8.2.2.1)))) (v7.2.2.2.2.1,v7.2.1,v7.2.2.1,
 v7.2.2.2.1,v7.2.2.2.2.1,v7.2.2.2.2.2)) fun v8=>Sum.elim (fun(p9:Int×Int)=>some (Sum.inl (IntKind.i64.wrap (s6.1+(1:Int)),p9.1,p9.2))) (fun(q9:Bool)=>some (Sum.inr (Sum.inr q9))) v8 else none else some (Sum.inr (Sum.inl
 ()))) ((0:Int),v5.2.1,v5.2.2)) fun v6=>Sum.elim (fun(p7:PUnit)=>Option.bind (R.f19F v4) fun v8=>some (v8==v5.1)) (fun(q7:Bool)=>some q7) v6 else none else none else none
theorem R.f5eq: ∀ x,zj R.C R.f5Γ R.f5sig R.f5ann Go.Proofs.Tryz.f5 x=R.f5F x:=by
 intro x
 kernel_rfl
noncomputable def R.f5con:Con:=⟨5,R.f5sig,R.f5F⟩
theorem R.f5ok:Con.Ok Go.Proofs.Tryz.prog R.C R.f5con:=
 zb (Γ:=R.f5Γ) (an:=R.f5ann) ⟨R.Cok,(List.forall_mem_cons.2 ⟨R.f9ok,(List.forall_mem_cons.2 ⟨R.f21ok,(List.forall_mem_cons.2 ⟨R.f10ok,(List.forall_mem_cons.2 ⟨R.f14ok,(List.forall_mem_cons.2 ⟨R.f22ok,(List.forall_mem_cons.2 ⟨R.f19ok,(fun _ h=>nomatch h)⟩)⟩)⟩)⟩)⟩)⟩),R.mixed⟩ Go.Proofs.Tryz.func5 rfl rfl (fun x y h=>(R.f5eq x).trans h) (by decide)
end Go.Sx
