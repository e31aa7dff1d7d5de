import Derived.Test.YtpmbmobjnknnhaaGreatDoorSxTAc
set_option maxRecDepth 100000
set_option maxHeartbeats 0
set_option linter.unusedVariables false
set_option linter.unusedSimpArgs false
namespace Go.Sx
open Go.Proofs
def R.f21sig:Sig:=⟨⟨[.hole (.int .i64), .hole (.int .i64)], []⟩,⟨[.hole (.sl (.int .i64))], []⟩⟩
noncomputable def R.f21Γ:List Con:= []
def R.f21ann:Ann:=(.seq .leaf (.seq (.seq (.join [⟨.normal, [(16, .hole .bool)], []⟩] .leaf) (.cond (.seq .leaf .leaf) .leaf)) (.seq .leaf (.seq (.seq .leaf (.block (.loop ⟨.normal, [(5, .own 0),(6, .hole (.int .i64))], [.arr 3 (.int
 .i64)]⟩ [⟨(.exit 0), [(5, .own 0)], [.arr 3 (.int .i64)]⟩] (.seq (.seq .leaf (.cond .leaf .leaf)) (.seq (.block (.seq (.join [⟨.normal, [(30, .hole .bool)], [.arr 3 (.int .i64)]⟩] .leaf) (.cond .leaf .leaf))) .leaf))))) (.seq .leaf
 .leaf)))))
noncomputable def R.f21F:Int×Int→Option (List Int):=fun(x:Int×Int)=>Option.bind (if decide (x.1<(1:Int))=true then some true else if decide (x.2<(1:Int))=true then some true else some (decide (x.1 > (4000:
 Int)))) fun v1=>if v1=true then some [] else Option.bind (iter (fun(s2:Int×List Int)=>if decide (s2.1≤x.1)=true then Option.bind (if(s2.1==x.1)=true then some (true,s2.2) else if x.2=(0:Int) then none else some
 (Int.tmod s2.1 x.2==(0:Int),s2.2)) fun(v3:Bool×List Int)=>if v3.1=true then if zi (List.length v3.2+(1:Nat)) (8:Nat) then some (Sum.inl (IntKind.i64.wrap (s2.1+(1:Int)),v3.2++ [s2.1])) else none else some
 (Sum.inl (IntKind.i64.wrap (s2.1+(1:Int)),v3.2)) else some (Sum.inr s2.2)) ((1:Int), [])) fun(v2:List Int)=>some v2
theorem R.f21eq: ∀ x,zk R.C R.f21Γ R.f21sig R.f21ann Go.Proofs.Tryz.f21 x=R.f21F x:=by
 intro x
 kernel_rfl
noncomputable def R.f21con:Con:=⟨21,R.f21sig,R.f21F⟩
theorem R.f21ok:Con.Ok Go.Proofs.Tryz.prog R.C R.f21con:=
 zb (Γ:=R.f21Γ) (an:=R.f21ann) ⟨R.Cok,(fun _ h=>nomatch h),R.mixed⟩ Go.Proofs.Tryz.func21 rfl rfl (fun x y h=>(R.f21eq x).trans h) (by decide)
def R.f8sig:Sig:=⟨⟨[.hole (.sl (.int .u8)), .hole (.int .i64), .hole (.int .u8)], []⟩,⟨[.hole .bool], []⟩⟩
noncomputable def R.f8Γ:List Con:= [R.f9con,R.f21con,R.f10con,R.f16con]
def R.f8ann:Ann:=(.seq .leaf (.seq (.seq .leaf (.cond (.seq .leaf .leaf) .leaf)) (.seq (.seq .leaf (.cond (.seq .leaf .leaf) .leaf)) (.seq .leaf (.seq (.seq .leaf (.block (.loop ⟨.normal, [(7, .own 0),(8, .hole (.int .i64))], [.arr 3
 (.int .i64)]⟩ [⟨(.exit 0), [(7, .own 0)], [.arr 3 (.int .i64)]⟩] (.seq (.seq .leaf (.cond .leaf .leaf)) (.seq (.block .leaf) .leaf))))) (.seq .leaf (.seq (.seq .leaf (.cond (.seq .leaf .leaf) .leaf)) (.seq .leaf (.seq (.seq .leaf (.block
 (.loop ⟨.normal, [(11, .hole (.int .i64)),(12, .hole (.int .i64))], [.gone]⟩ [⟨(.exit 2), [(11, .hole (.int .i64))], [.gone]⟩,⟨.ret, [(6, .hole .bool)], [.gone]⟩] (.seq (.seq .leaf (.cond .leaf .leaf)) (.seq (.block (.seq .leaf (.seq
 (.seq (.join [⟨.normal, [(88, .hole .bool)], [.gone, .cells [.hole (.int .i64), .hole (.int .i64), .hole (.sl (.int .i64))]]⟩] .leaf) (.cond (.seq .leaf .leaf) .leaf)) (.seq .leaf (.seq .leaf (.block (.loop ⟨.normal, [(14, .hole (.int
 .i64))], [.gone, .cells [.hole (.int .i64), .hole (.int .i64), .hole (.sl (.int .i64))]]⟩ [⟨(.exit 4), [], [.gone, .gone]⟩,⟨.ret, [(6, .hole .bool)], [.gone, .gone]⟩] (.seq (.seq .leaf (.cond .leaf .leaf)) (.seq (.block (.seq .leaf (.seq
 .leaf (.seq .leaf (.seq (.join [⟨.normal, [(147, .hole .bool)], [.gone, .cells [.hole (.int .i64), .hole (.int .i64), .hole (.sl (.int .i64))]]⟩] .leaf) (.cond (.seq .leaf .leaf) .leaf)))))) .leaf))))))))) .leaf))))) (.seq .leaf
 .leaf))))))))))
noncomputable def R.f8F:List Int×Int×Int→Option (Bool):=fun(x:List Int×Int×Int)=>Option.bind (R.f9F ()) fun v1=>if(!v1)=true then some false else if decide ((x.1.length:Int) > (100:Int))=true then some true
 else Option.bind (iter (fun(s2:Int×List Int)=>if decide (s2.1<(x.1.length:Int))=true then if(0:Int)≤s2.1∧s2.1<(x.1.length:Int) then if(0:Int)≤Int.tmod (IntKind.i64.wrap (List.getD x.1 (Int.toNat s2.1) (0:
 Int))) (6:Int)∧Int.tmod (IntKind.i64.wrap (List.getD x.1 (Int.toNat s2.1) (0:Int))) (6:Int)<(↑((5:Nat)+(1:Nat)):Int) then if zi (List.length s2.2+(1:Nat)) (8:Nat) then some (Sum.inl (IntKind.i64.wrap (s2.1+(1:
 Int)),s2.2++ [List.getD [(97:Int),(98:Int),(1488:Int),(1489:Int),(99:Int),(1490:Int)] (Int.toNat (Int.tmod (IntKind.i64.wrap (List.getD x.1 (Int.toNat s2.1) (0:Int))) (6:Int))) (0:Int)])) else none else none else
 none else some (Sum.inr s2.2)) ((0:Int), [])) fun(v2:List Int)=>Option.bind (R.f21F ((v2.length:Int),IntKind.i64.wrap ((1:Int)+IntKind.i64.wrap x.2.2))) fun(v3:List Int)=>Option.bind (R.f10F (v2,x.2.1,v3)) fun(v4:
 List (Int×Int×List Int)×Int)=>if(v4.2 !=(0:Int))=true then some false else Option.bind (iter (fun(s5:Int×Int)=>if decide (s5.2<(v4.1.length:Int))=true then if(0:Int)≤s5.2∧s5.2<(v4.1.length:Int) then
 Option.bind (if((List.getD v4.1 (Int.toNat s5.2) ((0:Int),(0:Int), [])).1 !=s5.1)=true then some (true,(List.getD v4.1 (Int.toNat s5.2) ((0:Int),(0:Int), [])).1,(List.getD v4.1 (Int.toNat s5.2) ((0:Int),(0:Int),
 [])).2.1,(List.getD v4.1 (Int.toNat s5.2) ((0:Int),(0:Int), [])).2.2) else if decide ((List.getD v4.1 (Int.toNat s5.2) ((0:Int),(0:Int), [])).2.1≤s5.1)=true then some (true,(List.getD v4.1 (Int.toNat s5.2) ((0:Int),(0:
 Int), [])).1,(List.getD v4.1 (Int.toNat s5.2) ((0:Int),(0:Int), [])).2.1,(List.getD v4.1 (Int.toNat s5.2) ((0:Int),(0:Int), [])).2.2) else some ((↑(List.length (List.getD v4.1 (Int.toNat s5.2) ((0:Int),(0:Int), [])).2.2):
 Int)!=IntKind.i64.wrap ((List.getD v4.1 (Int.toNat s5.2) ((0:Int),(0:Int), [])).2.1 - (List.getD v4.1 (Int.toNat s5.2) ((0:Int),(0:Int), [])).1),(List.getD v4.1 (Int.toNat s5.2) ((0:Int),(0:Int), [])).1,(List.getD v4.1
 (Int.toNat s5.2) ((0:Int),(0:Int), [])).2.1,(List.getD v4.1 (Int.toNat s5.2) ((0:Int),(0:Int), [])).2.2)) fun(v6:Bool×Int×Int×List Int)=>if v6.1=true then some (Sum.inr (Sum.inr false)) else Option.bind (iter (fun
 (s7:Int×Int×Int×List Int)=>if decide (IntKind.i64.wrap (s7.1+(1:Int))<s7.2.2.1)=true then Option.bind (R.f16F (v4.1,s7.1)) fun v8=>Option.bind (R.f16F (v4.1,IntKind.i64.wrap (s7.1+(1:Int)))) fun v9=>if(0:Int)
 ≤s7.1∧s7.1<(v2.length:Int) then if(0:Int)≤IntKind.i64.wrap (s7.1+(1:Int))∧IntKind.i64.wrap (s7.1+(1:Int))<(v2.length:Int) then Option.bind (if decide (List.getD v2 (Int.toNat s7.1) (0:Int)<(1488:Int))=true
 then if decide (List.getD v2 (Int.toNat (IntKind.i64.wrap (s7.1+(1:Int)))) (0:Int)<(1488:Int))=true then if(v9.2 !=IntKind.i64.wrap (v8.2+(1:Int)))=true then some (true,s7.2.1,s7.2.2.1,s7.2.2.2) else if(!decide
 (List.getD v2 (Int.toNat s7.1) (0:Int)<(1488:Int)))=true then if(!decide (List.getD v2 (Int.toNat (IntKind.i64.wrap (s7.1+(1:Int)))) (0:Int)<(1488:Int)))=true then some (v9.2 !=IntKind.i64.wrap (v8.2 - (1:Int)),
 s7.2.1,s7.2.2.1,s7.2.2.2) else some (false,s7.2.1,s7.2.2.1,s7.2.2.2) else some (false,s7.2.1,s7.2.2.1,s7.2.2.2) else if(!decide (List.getD v2 (Int.toNat s7.1) (0:Int)<(1488:Int)))=true then if(!decide (List.getD v2
 (Int.toNat (IntKind.i64.wrap (s7.1+(1:Int)))) (0:Int)<(1488:Int)))=true then some (v9.2 !=IntKind.i64.wrap (v8.2 - (1:Int)),s7.2.1,s7.2.2.1,s7.2.2.2) else some (false,s7.2.1,s7.2.2.1,s7.2.2.2) else some (false,s7.2.1,
 s7.2.2.1,s7.2.2.2) else if(!decide (List.getD v2 (Int.toNat s7.1) (0:Int)<(1488:Int)))=true then if(!decide (List.getD v2 (Int.toNat (IntKind.i64.wrap (s7.1+(1:Int)))) (0:Int)<(1488:Int)))=true then some (v9.2 !=
 IntKind.i64.wrap (v8.2 - (1:Int)),s7.2.1,s7.2.2.1,s7.2.2.2) else some (false,s7.2.1,s7.2.2.1,s7.2.2.2) else some (false,s7.2.1,s7.2.2.1,s7.2.2.2)) fun(v10:Bool×Int×Int×List Int)=>if v10.1=true then some (Sum.inr
 (Sum.inr false)) else some (Sum.inl (IntKind.i64.wrap (s7.1+(1:Int)),v10.2.1,v10.2.2.1,v10.2.2.2)) else none else none else some (Sum.inr (Sum.inl ()))) (v6.2.1,v6.2.1,v6.2.2.1,v6.2.2.2)) fun v7=>Sum.elim (fun(p8:PUnit)=>
 some (Sum.inl (v6.2.2.1,IntKind.i64.wrap (s5.2+(1:Int))))) (fun(q8:Bool)=>some (Sum.inr (Sum.inr q8))) v7 else none else some (Sum.inr (Sum.inl s5.1))) ((0:Int),(0:Int))) fun v5=>Sum.elim (fun(p6:Int)=>some (p6==
 (v2.length:Int))) (fun(q6:Bool)=>some q6) v5
theorem R.f8eq: ∀ x,zk R.C R.f8Γ R.f8sig R.f8ann Go.Proofs.Tryz.f8 x=R.f8F x:=by
 intro x
 kernel_rfl
noncomputable def R.f8con:Con:=⟨8,R.f8sig,R.f8F⟩
theorem R.f8ok:Con.Ok Go.Proofs.Tryz.prog R.C R.f8con:=
 zb (Γ:=R.f8Γ) (an:=R.f8ann) ⟨R.Cok,(List.forall_mem_cons.2 ⟨R.f9ok,(List.forall_mem_cons.2 ⟨R.f21ok,(List.forall_mem_cons.2 ⟨R.f10ok,(List.forall_mem_cons.2 ⟨R.f16ok,(fun _ h=>nomatch h)⟩)⟩)⟩)⟩),R.mixed⟩ Go.Proofs.Tryz.func8 rfl rfl (fun x y h=>(R.f8eq x).trans h) (by decide)
end Go.Sx
