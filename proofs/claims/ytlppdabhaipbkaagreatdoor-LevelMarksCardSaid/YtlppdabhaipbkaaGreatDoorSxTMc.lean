import Derived.Test.YtlppdabhaipbkaaGreatDoorSxTMb
set_option maxRecDepth 100000
set_option maxHeartbeats 0
set_option linter.unusedVariables false
set_option linter.unusedSimpArgs false
namespace Go.Sx
open Go.Proofs
def Lz.f20sig:Sig:=⟨⟨[.hole (.int .i64)], []⟩,⟨[.hole .bool], []⟩⟩
noncomputable def Lz.f20Γ:List Con:= [Lz.f17con,Lz.f18con]
def Lz.f20ann:Ann:=(.seq .leaf (.seq .leaf .leaf))
noncomputable def Lz.f20F:Int→Option (Bool):=fun(x:Int)=>Option.bind (Lz.f17F x) fun v1=>Option.bind (Lz.f18F v1) fun v2=>some v2
theorem Lz.f20eq: ∀ x,zl Lz.C Lz.f20Γ Lz.f20sig Lz.f20ann Go.Proofs.Tryz.f20 x=Lz.f20F x:=by
 intro x
 kernel_rfl
noncomputable def Lz.f20con:Con:=⟨20,Lz.f20sig,Lz.f20F⟩
theorem Lz.f20ok:Con.Ok Go.Proofs.Tryz.prog Lz.C Lz.f20con:=
 zb (Γ:=Lz.f20Γ) (an:=Lz.f20ann) ⟨Lz.Cok,(List.forall_mem_cons.2 ⟨Lz.f17ok,(List.forall_mem_cons.2 ⟨Lz.f18ok,(fun _ h=>nomatch h)⟩)⟩),Lz.mixed⟩ Go.Proofs.Tryz.func20 rfl rfl (fun x y h=>(Lz.f20eq x).trans h) (by decide)
def Lz.f8sig:Sig:=⟨⟨[.hole (.sl (.int .i64))], []⟩,⟨[.hole (.sl (.int .i64))], []⟩⟩
noncomputable def Lz.f8Γ:List Con:= [Lz.f20con]
def Lz.f8ann:Ann:=(.seq .leaf (.seq .leaf (.seq (.seq .leaf (.block (.loop ⟨.normal, [(3, .own 0),(4, .hole (.int .i64))], [.arr 3 (.int .i64)]⟩ [⟨(.exit 0), [(3, .own 0)], [.arr 3 (.int .i64)]⟩] (.seq (.seq .leaf (.cond .leaf .leaf))
 (.seq (.block (.seq .leaf (.cond .leaf .leaf))) .leaf))))) (.seq .leaf .leaf))))
noncomputable def Lz.f8F:List Int→Option (List Int):=fun(x:List Int)=>Option.bind (iter (fun(s1:Int×List Int)=>if decide (s1.1<(x.length:Int))=true then if(0:Int)≤s1.1∧s1.1<(x.length:Int) then Option.bind
 (Lz.f20F (List.getD x (Int.toNat s1.1) (0:Int))) fun v2=>if(!v2)=true then if zj (List.length s1.2+(1:Nat)) (8:Nat) then some (Sum.inl (IntKind.i64.wrap (s1.1+(1:Int)),s1.2++ [s1.1])) else none else some (Sum.inl
 (IntKind.i64.wrap (s1.1+(1:Int)),s1.2)) else none else some (Sum.inr s1.2)) ((0:Int), [])) fun(v1:List Int)=>some v1
theorem Lz.f8eq: ∀ x,zl Lz.C Lz.f8Γ Lz.f8sig Lz.f8ann Go.Proofs.Tryz.f8 x=Lz.f8F x:=by
 intro x
 kernel_rfl
noncomputable def Lz.f8con:Con:=⟨8,Lz.f8sig,Lz.f8F⟩
theorem Lz.f8ok:Con.Ok Go.Proofs.Tryz.prog Lz.C Lz.f8con:=
 zb (Γ:=Lz.f8Γ) (an:=Lz.f8ann) ⟨Lz.Cok,(List.forall_mem_cons.2 ⟨Lz.f20ok,(fun _ h=>nomatch h)⟩),Lz.mixed⟩ Go.Proofs.Tryz.func8 rfl rfl (fun x y h=>(Lz.f8eq x).trans h) (by decide)
def Lz.f3sig:Sig:=⟨⟨[.hole (.sl (.int .i64)), .hole (.sl (.int .u8)), .hole (.int .i64)], []⟩,⟨[.hole .bool], []⟩⟩
noncomputable def Lz.f3Γ:List Con:= [Lz.f6con,Lz.f7con,Lz.f8con]
def Lz.f3ann:Ann:=(.seq .leaf (.seq (.seq .leaf (.cond (.seq .leaf .leaf) .leaf)) (.seq (.seq (.join [⟨.normal, [(26, .hole .bool)], []⟩] .leaf) (.cond (.seq .leaf .leaf) .leaf)) (.seq .leaf (.seq (.seq .leaf (.block (.loop ⟨.normal,
 [(7, .own 2),(8, .hole (.int .i64))], [.gone, .gone, .arr 3 (.int .i64)]⟩ [⟨(.exit 0), [(7, .own 2)], [.gone, .gone, .arr 3 (.int .i64)]⟩] (.seq (.seq .leaf (.cond .leaf .leaf)) (.seq (.block (.seq .leaf (.fro [2] (.effl 7 [5] [0,0,0,6,
 15,0,63,0,0,384,1023])))) .leaf))))) (.seq .leaf (.seq .leaf (.seq (.seq (.join [⟨.normal, [(84, .hole .bool)], [.gone, .gone, .gone]⟩] .leaf) (.cond (.seq .leaf .leaf) .leaf)) (.seq .leaf (.seq (.seq .leaf (.block (.loop ⟨.normal,
 [(16, .hole (.int .i64))], [.gone, .gone, .gone]⟩ [⟨(.exit 2), [], [.gone, .gone, .gone]⟩,⟨.ret, [(6, .hole .bool)], [.gone, .gone, .gone]⟩] (.seq (.seq (.join [⟨.normal, [(98, .hole .bool)], [.gone, .gone, .gone]⟩] .leaf) (.cond .leaf
 .leaf)) (.seq (.block (.seq .leaf (.cond (.seq .leaf .leaf) .leaf))) .leaf))))) (.seq .leaf .leaf)))))))))))
noncomputable def Lz.f3F:List Int×List Int×Int→Option (Bool):=fun(x:List Int×List Int×Int)=>Option.bind (Lz.f6F ()) fun v1=>if(!v1)=true then some false else Option.bind (if decide ((x.1.length:Int) > (100:Int))
 =true then some true else some (decide ((x.2.1.length:Int) > (20:Int)))) fun v2=>if v2=true then some true else if zj ((0:Nat)+List.length x.1) (8:Nat) then Option.bind (iter (fun(s3:Int×List Int)=>if decide (s3.1
 <(x.2.1.length:Int))=true then if(0:Int)≤s3.1∧s3.1<(x.2.1.length:Int) then if IntKind.i64.wrap ((s3.2.length:Int)+(1:Int))=(0:Int) then none else if(0:Int)≤Int.tmod (IntKind.i64.wrap (List.getD x.2.1
 (Int.toNat s3.1) (0:Int))) (IntKind.i64.wrap ((s3.2.length:Int)+(1:Int)))∧Int.tmod (IntKind.i64.wrap (List.getD x.2.1 (Int.toNat s3.1) (0:Int))) (IntKind.i64.wrap ((s3.2.length:Int)+(1:Int)))≤(s3.2.length:Int) then if
 zj ((0:Nat)+List.length (List.take (Int.toNat (Int.tmod (IntKind.i64.wrap (List.getD x.2.1 (Int.toNat s3.1) (0:Int))) (IntKind.i64.wrap ((s3.2.length:Int)+(1:Int))))) s3.2)) (8:Nat) then if zj (List.length ([]++
 List.take (Int.toNat (Int.tmod (IntKind.i64.wrap (List.getD x.2.1 (Int.toNat s3.1) (0:Int))) (IntKind.i64.wrap ((s3.2.length:Int)+(1:Int))))) s3.2)+(1:Nat)) (8:Nat) then if(0:Int)≤Int.tmod (IntKind.i64.wrap (List.getD
 x.2.1 (Int.toNat s3.1) (0:Int))) (IntKind.i64.wrap ((s3.2.length:Int)+(1:Int)))∧Int.tmod (IntKind.i64.wrap (List.getD x.2.1 (Int.toNat s3.1) (0:Int))) (IntKind.i64.wrap ((s3.2.length:Int)+(1:Int)))≤(s3.2.length:Int)
 then if zj (List.length ([]++List.take (Int.toNat (Int.tmod (IntKind.i64.wrap (List.getD x.2.1 (Int.toNat s3.1) (0:Int))) (IntKind.i64.wrap ((s3.2.length:Int)+(1:Int))))) s3.2++ [(65279:Int)])+List.length (List.drop
 (Int.toNat (Int.tmod (IntKind.i64.wrap (List.getD x.2.1 (Int.toNat s3.1) (0:Int))) (IntKind.i64.wrap ((s3.2.length:Int)+(1:Int))))) s3.2)) (8:Nat) then some (Sum.inl (IntKind.i64.wrap (s3.1+(1:Int)), []++List.take (Int.toNat
 (Int.tmod (IntKind.i64.wrap (List.getD x.2.1 (Int.toNat s3.1) (0:Int))) (IntKind.i64.wrap ((s3.2.length:Int)+(1:Int))))) s3.2++ [(65279:Int)]++List.drop (Int.toNat (Int.tmod (IntKind.i64.wrap (List.getD x.2.1 (Int.toNat s3.1)
 (0:Int))) (IntKind.i64.wrap ((s3.2.length:Int)+(1:Int))))) s3.2)) else none else none else none else none else none else none else some (Sum.inr s3.2)) ((0:Int), []++x.1)) fun(v3:List Int)=>Option.bind (Lz.f7F (x.1,x.2.2))
 fun(v4:List Int×Int)=>Option.bind (Lz.f7F (v3,x.2.2)) fun(v5:List Int×Int)=>Option.bind (if(v4.2 !=v5.2)=true then some true else if((v4.1.length:Int)!=(x.1.length:Int))=true then some true else some
 ((v5.1.length:Int)!=(v3.length:Int))) fun v6=>if v6=true then some false else Option.bind (Lz.f8F x.1) fun(v7:List Int)=>Option.bind (Lz.f8F v3) fun(v8:List Int)=>Option.bind (iter (fun(s9:Int)=>Option.bind (if
 decide (s9<(v7.length:Int))=true then some (decide (s9<(v8.length:Int))) else some false) fun v10=>if v10=true then if(0:Int)≤s9∧s9<(v7.length:Int) then if(0:Int)≤List.getD v7 (Int.toNat s9) (0:Int)∧
 List.getD v7 (Int.toNat s9) (0:Int)<(v4.1.length:Int) then if(0:Int)≤s9∧s9<(v8.length:Int) then if(0:Int)≤List.getD v8 (Int.toNat s9) (0:Int)∧List.getD v8 (Int.toNat s9) (0:Int)<(v5.1.length:Int) then if
 (List.getD v4.1 (Int.toNat (List.getD v7 (Int.toNat s9) (0:Int))) (0:Int)!=List.getD v5.1 (Int.toNat (List.getD v8 (Int.toNat s9) (0:Int))) (0:Int))=true then some (Sum.inr (Sum.inr false)) else some (Sum.inl (IntKind.i64.wrap
 (s9+(1:Int)))) else none else none else none else none else some (Sum.inr (Sum.inl ()))) (0:Int)) fun v9=>Sum.elim (fun(p10:PUnit)=>some ((v7.length:Int)==(v8.length:Int))) (fun(q10:Bool)=>some q10) v9 else none
theorem Lz.f3eq: ∀ x,zl Lz.C Lz.f3Γ Lz.f3sig Lz.f3ann Go.Proofs.Tryz.f3 x=Lz.f3F x:=by
 intro x
 kernel_rfl
noncomputable def Lz.f3con:Con:=⟨3,Lz.f3sig,Lz.f3F⟩
theorem Lz.f3ok:Con.Ok Go.Proofs.Tryz.prog Lz.C Lz.f3con:=
 zb (Γ:=Lz.f3Γ) (an:=Lz.f3ann) ⟨Lz.Cok,(List.forall_mem_cons.2 ⟨Lz.f6ok,(List.forall_mem_cons.2 ⟨Lz.f7ok,(List.forall_mem_cons.2 ⟨Lz.f8ok,(fun _ h=>nomatch h)⟩)⟩)⟩),Lz.mixed⟩ Go.Proofs.Tryz.func3 rfl rfl (fun x y h=>(Lz.f3eq x).trans h) (by decide)
end Go.Sx
