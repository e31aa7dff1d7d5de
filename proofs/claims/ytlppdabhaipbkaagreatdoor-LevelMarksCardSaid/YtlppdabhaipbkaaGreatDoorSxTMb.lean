import Derived.Test.YtlppdabhaipbkaaGreatDoorSxTMa
import Derived.KernelRfl
set_option maxRecDepth 100000
set_option maxHeartbeats 0
set_option linter.unusedVariables false
set_option linter.unusedSimpArgs false
namespace Go.Sx
open Go.Proofs
noncomputable def Lz.f164F:Int×List (List Int)×Int→Option (Int×List (List Int)×Int):=fun(x:Int×List (List Int)×Int)=>Option.bind (Lz.f165F (IntKind.i64.wrap (x.1 - (1:Int)),x.1,IntKind.i64.wrap (x.1+(1:Int)),
 x.2.1,x.2.2)) fun(v1:Int×List (List Int)×Int)=>some (v1.1,v1.2.1,v1.2.2)
theorem Lz.f164eq: ∀ x,zl Lz.C Lz.f164Γ Lz.f164sig Lz.f164ann Go.Proofs.Tryz.f164 x=Lz.f164F x:=by
 intro x
 kernel_rfl
noncomputable def Lz.f164con:Con:=⟨164,Lz.f164sig,Lz.f164F⟩
theorem Lz.f164ok:Con.Ok Go.Proofs.Tryz.prog Lz.C Lz.f164con:=
 zb (Γ:=Lz.f164Γ) (an:=Lz.f164ann) ⟨Lz.Cok,(List.forall_mem_cons.2 ⟨Lz.f165ok,(List.forall_mem_cons.2 ⟨Lz.f127ok,(fun _ h=>nomatch h)⟩)⟩),Lz.mixed⟩ Go.Proofs.Tryz.func164 rfl rfl (fun x y h=>(Lz.f164eq x).trans h) (by decide)
def Lz.f154sig:Sig:=⟨⟨[.own 0, .hole (.int .i64), .hole (.int .i64), .fnc 127 0], [.arr 82 (.arr 2 (.int .i64))]⟩,⟨[.hole (.int .i64), .hole (.int .i64)], [.arr 82 (.arr 2 (.int .i64))]⟩⟩
noncomputable def Lz.f154Γ:List Con:= [Lz.f164con,Lz.f165con,Lz.f127con]
def Lz.f154ann:Ann:=(.seq .leaf (.seq .leaf (.seq .leaf (.seq .leaf (.seq .leaf (.seq .leaf (.seq (.join [⟨.normal, [(13, .hole (.int .i64))], [.arr 82 (.arr 2 (.int .i64)), .cells [.hole (.int .i64)]]⟩] (.seq .leaf (.cond (.seq (.join
 [⟨.normal, [(12, .hole (.int .i64)),(13, .hole (.int .i64)),(14, .hole (.int .i64))], [.arr 82 (.arr 2 (.int .i64)), .cells [.hole (.int .i64)]]⟩] (.seq .leaf (.cond (.seq .leaf (.seq .leaf .leaf)) .leaf))) .leaf) .leaf))) (.seq .leaf
 (.block (.seq .leaf (.cond (.seq .leaf .leaf) (.seq .leaf (.cond (.seq .leaf .leaf) (.seq .leaf .leaf))))))))))))))
noncomputable def Lz.f154F:Int×Int×List (List Int)→Option (Int×Int×List (List Int)):=fun(x:Int×Int×List (List Int))=>Option.bind (if decide (IntKind.i64.wrap (x.2.1 - x.1)≥(8:Int))=true then Option.bind (if
 decide (IntKind.i64.wrap (x.2.1 - x.1)≥(50:Int))=true then Option.bind (Lz.f164F (IntKind.i64.wrap (x.1+IntKind.i64.wrap (IntKind.i64.wrap (Int.tdiv (IntKind.i64.wrap (x.2.1 - x.1)) (4:Int))*(1:Int))),x.2.2,(0:Int))) fun
 (v1:Int×List (List Int)×Int)=>Option.bind (Lz.f164F (IntKind.i64.wrap (x.1+IntKind.i64.wrap (IntKind.i64.wrap (Int.tdiv (IntKind.i64.wrap (x.2.1 - x.1)) (4:Int))*(2:Int))),v1.2.1,v1.2.2)) fun(v2:Int×List (List Int)×
 Int)=>Option.bind (Lz.f164F (IntKind.i64.wrap (x.1+IntKind.i64.wrap (IntKind.i64.wrap (Int.tdiv (IntKind.i64.wrap (x.2.1 - x.1)) (4:Int))*(3:Int))),v2.2.1,v2.2.2)) fun(v3:Int×List (List Int)×Int)=>some (v1.1,v2.1,
 v3.1,v3.2.1,v3.2.2) else some (IntKind.i64.wrap (x.1+IntKind.i64.wrap (IntKind.i64.wrap (Int.tdiv (IntKind.i64.wrap (x.2.1 - x.1)) (4:Int))*(1:Int))),IntKind.i64.wrap (x.1+IntKind.i64.wrap (IntKind.i64.wrap (Int.tdiv
 (IntKind.i64.wrap (x.2.1 - x.1)) (4:Int))*(2:Int))),IntKind.i64.wrap (x.1+IntKind.i64.wrap (IntKind.i64.wrap (Int.tdiv (IntKind.i64.wrap (x.2.1 - x.1)) (4:Int))*(3:Int))),x.2.2,(0:Int))) fun(v1:Int×Int×Int×List
 (List Int)×Int)=>Option.bind (Lz.f165F (v1.1,v1.2.1,v1.2.2.1,v1.2.2.2.1,v1.2.2.2.2)) fun(v2:Int×List (List Int)×Int)=>some (v2.1,v2.2.1,v2.2.2) else some (IntKind.i64.wrap (x.1+IntKind.i64.wrap (IntKind.i64.wrap
 (Int.tdiv (IntKind.i64.wrap (x.2.1 - x.1)) (4:Int))*(2:Int))),x.2.2,(0:Int))) fun(v1:Int×List (List Int)×Int)=>if(v1.2.2==(0:Int))=true then some (v1.1,(1:Int),v1.2.1) else if(v1.2.2==(12:Int))=true then
 some (v1.1,(2:Int),v1.2.1) else some (v1.1,(0:Int),v1.2.1)
theorem Lz.f154eq: ∀ x,zl Lz.C Lz.f154Γ Lz.f154sig Lz.f154ann Go.Proofs.Tryz.f154 x=Lz.f154F x:=by
 intro x
 kernel_rfl
noncomputable def Lz.f154con:Con:=⟨154,Lz.f154sig,Lz.f154F⟩
theorem Lz.f154ok:Con.Ok Go.Proofs.Tryz.prog Lz.C Lz.f154con:=
 zb (Γ:=Lz.f154Γ) (an:=Lz.f154ann) ⟨Lz.Cok,(List.forall_mem_cons.2 ⟨Lz.f164ok,(List.forall_mem_cons.2 ⟨Lz.f165ok,(List.forall_mem_cons.2 ⟨Lz.f127ok,(fun _ h=>nomatch h)⟩)⟩)⟩),Lz.mixed⟩ Go.Proofs.Tryz.func154 rfl rfl (fun x y h=>(Lz.f154eq x).trans h) (by decide)
def Lz.f155sig:Sig:=⟨⟨[.own 0, .hole (.int .i64), .hole (.int .i64), .fnc 127 0], [.arr 82 (.arr 2 (.int .i64))]⟩,⟨[], [.arr 82 (.arr 2 (.int .i64))]⟩⟩
noncomputable def Lz.f155Γ:List Con:= [Lz.f127con]
def Lz.f155ann:Ann:=(.seq .leaf (.seq .leaf (.block (.loop ⟨.normal, [(8, .hole (.int .i64)),(9, .hole (.int .i64))], [.arr 82 (.arr 2 (.int .i64))]⟩ [⟨(.exit 0), [], [.arr 82 (.arr 2 (.int .i64))]⟩] (.seq (.seq .leaf (.cond .leaf
 .leaf)) (.block (.seq (.eff 1 [] [0,0,0,0,0,0,48,112,0,0,768,1792,4083,8179,16383,32767]) (.seq .leaf .leaf))))))))
noncomputable def Lz.f155F:Int×Int×List (List Int)→Option (List (List Int)):=fun(x:Int×Int×List (List Int))=>Option.bind (iter (fun(s1:Int×Int×List (List Int))=>if decide (s1.1<s1.2.1)=true then if(0:Int)
 ≤s1.2.1∧s1.2.1<(s1.2.2.length:Int) then if(0:Int)≤s1.1∧s1.1<(s1.2.2.length:Int) then if(0:Int)≤s1.1∧s1.1<(s1.2.2.length:Int) then if(0:Int)≤s1.2.1∧s1.2.1<(↑(List.length (List.set s1.2.2 (Int.toNat s1.1)
 (List.getD s1.2.2 (Int.toNat s1.2.1) (List.replicate (2:Nat) (0:Int))))):Int) then some (Sum.inl (IntKind.i64.wrap (s1.1+(1:Int)),IntKind.i64.wrap (s1.2.1 - (1:Int)),List.set (List.set s1.2.2 (Int.toNat s1.1) (List.getD s1.2.2
 (Int.toNat s1.2.1) (List.replicate (2:Nat) (0:Int)))) (Int.toNat s1.2.1) (List.getD s1.2.2 (Int.toNat s1.1) (List.replicate (2:Nat) (0:Int))))) else none else none else none else none else some (Sum.inr s1.2.2)) (x.1,
 IntKind.i64.wrap (x.2.1 - (1:Int)),x.2.2)) fun(v1:List (List Int))=>some v1
theorem Lz.f155eq: ∀ x,zl Lz.C Lz.f155Γ Lz.f155sig Lz.f155ann Go.Proofs.Tryz.f155 x=Lz.f155F x:=by
 intro x
 kernel_rfl
noncomputable def Lz.f155con:Con:=⟨155,Lz.f155sig,Lz.f155F⟩
theorem Lz.f155ok:Con.Ok Go.Proofs.Tryz.prog Lz.C Lz.f155con:=
 zb (Γ:=Lz.f155Γ) (an:=Lz.f155ann) ⟨Lz.Cok,(List.forall_mem_cons.2 ⟨Lz.f127ok,(fun _ h=>nomatch h)⟩),Lz.mixed⟩ Go.Proofs.Tryz.func155 rfl rfl (fun x y h=>(Lz.f155eq x).trans h) (by decide)
def Lz.f156sig:Sig:=⟨⟨[.own 0, .hole (.int .i64), .hole (.int .i64), .fnc 127 0], [.arr 82 (.arr 2 (.int .i64))]⟩,⟨[.hole .bool], [.arr 82 (.arr 2 (.int .i64))]⟩⟩
noncomputable def Lz.f156Γ:List Con:= [Lz.f127con]
def Lz.f156ann:Ann:=(.seq .leaf (.seq .leaf (.seq (.seq .leaf (.block (.loop ⟨.normal, [(9, .hole (.int .i64)),(10, .hole (.int .i64))], [.arr 82 (.arr 2 (.int .i64))]⟩ [⟨(.exit 0), [], [.arr 82 (.arr 2 (.int .i64))]⟩,⟨.ret, [(8,
 .hole .bool)], [.arr 82 (.arr 2 (.int .i64))]⟩] (.seq (.seq .leaf (.cond .leaf .leaf)) (.seq (.block (.seq (.block (.loop ⟨.normal, [(9, .hole (.int .i64))], [.arr 82 (.arr 2 (.int .i64))]⟩ [⟨(.exit 2), [(9, .hole (.int .i64))], [.arr 82
 (.arr 2 (.int .i64))]⟩] (.seq (.seq (.join [⟨.normal, [(36, .hole .bool)], [.arr 82 (.arr 2 (.int .i64))]⟩] .leaf) (.cond .leaf .leaf)) (.block .leaf)))) (.seq (.seq .leaf (.cond (.seq .leaf .leaf) .leaf)) (.seq (.seq .leaf (.cond (.seq
 .leaf .leaf) .leaf)) (.seq (.eff 1 [] [0,0,0,0,8,0,0,64,224,480,0,0,3072,7168,16355,32739,65535,131071]) (.seq (.join [⟨.normal, [], [.arr 82 (.arr 2 (.int .i64))]⟩] (.seq .leaf (.cond (.seq .leaf (.block (.loop ⟨.normal,
 [(11, .hole (.int .i64))], [.arr 82 (.arr 2 (.int .i64))]⟩ [⟨(.exit 4), [], [.arr 82 (.arr 2 (.int .i64))]⟩] (.seq (.seq .leaf (.cond .leaf .leaf)) (.seq (.block (.seq (.seq .leaf (.cond .leaf .leaf)) (.eff 1 [] [0,0,0,0,8,0,0,64,
 224,480,0,0,3072,7168,16355,32739,65535,131071]))) .leaf))))) .leaf))) (.seq .leaf (.cond (.seq .leaf (.block (.loop ⟨.normal, [(12, .hole (.int .i64))], [.arr 82 (.arr 2 (.int .i64))]⟩ [⟨(.exit 6), [], [.arr 82 (.arr 2 (.int
 .i64))]⟩] (.seq (.seq .leaf (.cond .leaf .leaf)) (.seq (.block (.seq (.seq .leaf (.cond .leaf .leaf)) (.eff 1 [] [0,0,0,0,8,0,0,64,224,480,0,0,3072,7168,16355,32739,65535,131071]))) .leaf))))) .leaf)))))))) .leaf))))) (.seq
 .leaf .leaf))))
noncomputable def Lz.f156F:Int×Int×List (List Int)→Option (Bool×List (List Int)):=fun(x:Int×Int×List (List Int))=>Option.bind (iter (fun(s1:Int×Int×List (List Int))=>if decide (s1.2.1<(5:Int))=true then
 Option.bind (iter (fun(s2:Int×List (List Int))=>Option.bind (if decide (s2.1<x.2.1)=true then if(0:Int)≤s2.1∧s2.1<(s2.2.length:Int) then if(0:Int)≤IntKind.i64.wrap (s2.1 - (1:Int))∧IntKind.i64.wrap (s2.1 - (1
 :Int))<(s2.2.length:Int) then Option.bind (Lz.f127F (List.getD s2.2 (Int.toNat s2.1) (List.replicate (2:Nat) (0:Int)),List.getD s2.2 (Int.toNat (IntKind.i64.wrap (s2.1 - (1:Int)))) (List.replicate (2:Nat) (0:Int)))) fun v3
 =>some (!decide (v3<(0:Int)),s2.2) else none else none else some (false,s2.2)) fun(v3:Bool×List (List Int))=>if v3.1=true then some (Sum.inl (IntKind.i64.wrap (s2.1+(1:Int)),v3.2)) else some (Sum.inr (s2.1,v3.2)))
 (s1.1,s1.2.2)) fun(v2:Int×List (List Int))=>if(v2.1==x.2.1)=true then some (Sum.inr (Sum.inr (true,v2.2))) else if decide (IntKind.i64.wrap (x.2.1 - x.1)<(50:Int))=true then some (Sum.inr (Sum.inr (false,v2.2))) else if
 (0:Int)≤IntKind.i64.wrap (v2.1 - (1:Int))∧IntKind.i64.wrap (v2.1 - (1:Int))<(v2.2.length:Int) then if(0:Int)≤v2.1∧v2.1<(v2.2.length:Int) then if(0:Int)≤v2.1∧v2.1<(v2.2.length:Int) then if(0:Int)≤
 IntKind.i64.wrap (v2.1 - (1:Int))∧IntKind.i64.wrap (v2.1 - (1:Int))<(↑(List.length (List.set v2.2 (Int.toNat v2.1) (List.getD v2.2 (Int.toNat (IntKind.i64.wrap (v2.1 - (1:Int)))) (List.replicate (2:Nat) (0:Int))))):Int) then
 Option.bind (if decide (IntKind.i64.wrap (v2.1 - x.1)≥(2:Int))=true then Option.bind (iter (fun(s3:Int×List (List Int))=>if decide (s3.1≥(1:Int))=true then if(0:Int)≤s3.1∧s3.1<(s3.2.length:Int) then if(0:
 Int)≤IntKind.i64.wrap (s3.1 - (1:Int))∧IntKind.i64.wrap (s3.1 - (1:Int))<(s3.2.length:Int) then Option.bind (Lz.f127F (List.getD s3.2 (Int.toNat s3.1) (List.replicate (2:Nat) (0:Int)),List.getD s3.2 (Int.toNat
 (IntKind.i64.wrap (s3.1 - (1:Int)))) (List.replicate (2:Nat) (0:Int)))) fun v4=>if(!decide (v4<(0:Int)))=true then some (Sum.inr s3.2) else if(0:Int)≤IntKind.i64.wrap (s3.1 - (1:Int))∧IntKind.i64.wrap (s3.1 - (1:
 Int))<(s3.2.length:Int) then if(0:Int)≤s3.1∧s3.1<(s3.2.length:Int) then if(0:Int)≤s3.1∧s3.1<(s3.2.length:Int) then if(0:Int)≤IntKind.i64.wrap (s3.1 - (1:Int))∧IntKind.i64.wrap (s3.1 - (1:Int))<
 (↑(List.length (List.set s3.2 (Int.toNat s3.1) (List.getD s3.2 (Int.toNat (IntKind.i64.wrap (s3.1 - (1:Int)))) (List.replicate (2:Nat) (0:Int))))):Int) then some (Sum.inl (IntKind.i64.wrap (s3.1 - (1:Int)),List.set (List.set s3.2
 (Int.toNat s3.1) (List.getD s3.2 (Int.toNat (IntKind.i64.wrap (s3.1 - (1:Int)))) (List.replicate (2:Nat) (0:Int)))) (Int.toNat (IntKind.i64.wrap (s3.1 - (1:Int)))) (List.getD s3.2 (Int.toNat s3.1) (List.replicate (2:Nat) (0:
 Int))))) else none else none else none else none else none else none else some (Sum.inr s3.2)) (IntKind.i64.wrap (v2.1 - (1:Int)),List.set (List.set v2.2 (Int.toNat v2.1) (List.getD v2.2 (Int.toNat (IntKind.i64.wrap (v2.1 - (1:Int))))
 (List.replicate (2:Nat) (0:Int)))) (Int.toNat (IntKind.i64.wrap (v2.1 - (1:Int)))) (List.getD v2.2 (Int.toNat v2.1) (List.replicate (2:Nat) (0:Int))))) fun(v3:List (List Int))=>some v3 else some (List.set (List.set v2.2
 (Int.toNat v2.1) (List.getD v2.2 (Int.toNat (IntKind.i64.wrap (v2.1 - (1:Int)))) (List.replicate (2:Nat) (0:Int)))) (Int.toNat (IntKind.i64.wrap (v2.1 - (1:Int)))) (List.getD v2.2 (Int.toNat v2.1) (List.replicate (2:Nat) (0:
 Int))))) fun(v3:List (List Int))=>if decide (IntKind.i64.wrap (x.2.1 - v2.1)≥(2:Int))=true then Option.bind (iter (fun(s4:Int×List (List Int))=>if decide (s4.1<x.2.1)=true then if(0:Int)≤s4.1∧s4.1<(s4.2.length
 :Int) then if(0:Int)≤IntKind.i64.wrap (s4.1 - (1:Int))∧IntKind.i64.wrap (s4.1 - (1:Int))<(s4.2.length:Int) then Option.bind (Lz.f127F (List.getD s4.2 (Int.toNat s4.1) (List.replicate (2:Nat) (0:Int)),List.getD s4.2
 (Int.toNat (IntKind.i64.wrap (s4.1 - (1:Int)))) (List.replicate (2:Nat) (0:Int)))) fun v5=>if(!decide (v5<(0:Int)))=true then some (Sum.inr s4.2) else if(0:Int)≤IntKind.i64.wrap (s4.1 - (1:Int))∧IntKind.i64.wrap
 (s4.1 - (1:Int))<(s4.2.length:Int) then if(0:Int)≤s4.1∧s4.1<(s4.2.length:Int) then if(0:Int)≤s4.1∧s4.1<(s4.2.length:Int) then if(0:Int)≤IntKind.i64.wrap (s4.1 - (1:Int))∧IntKind.i64.wrap (s4.1 - (1:
 Int))<(↑(List.length (List.set s4.2 (Int.toNat s4.1) (List.getD s4.2 (Int.toNat (IntKind.i64.wrap (s4.1 - (1:Int)))) (List.replicate (2:Nat) (0:Int))))):Int) then some (Sum.inl (IntKind.i64.wrap (s4.1+(1:Int)),List.set
 (List.set s4.2 (Int.toNat s4.1) (List.getD s4.2 (Int.toNat (IntKind.i64.wrap (s4.1 - (1:Int)))) (List.replicate (2:Nat) (0:Int)))) (Int.toNat (IntKind.i64.wrap (s4.1 - (1:Int)))) (List.getD s4.2 (Int.toNat s4.1) (List.replicate (2:
 Nat) (0:Int))))) else none else none else none else none else none else none else some (Sum.inr s4.2)) (IntKind.i64.wrap (v2.1+(1:Int)),v3)) fun(v4:List (List Int))=>some (Sum.inl (v2.1,IntKind.i64.wrap (s1.2.1+(1:Int)),
 v4)) else some (Sum.inl (v2.1,IntKind.i64.wrap (s1.2.1+(1:Int)),v3)) else none else none else none else none else some (Sum.inr (Sum.inl s1.2.2))) (IntKind.i64.wrap (x.1+(1:Int)),(0:Int),x.2.2)) fun(v1:List (List Int) ⊕
 Bool×List (List Int))=>Sum.elim (fun(p2:List (List Int))=>some (false,p2)) (fun(q2:Bool×List (List Int))=>some (q2.1,q2.2)) v1
theorem Lz.f156eq: ∀ x,zl Lz.C Lz.f156Γ Lz.f156sig Lz.f156ann Go.Proofs.Tryz.f156 x=Lz.f156F x:=by
 intro x
 kernel_rfl
noncomputable def Lz.f156con:Con:=⟨156,Lz.f156sig,Lz.f156F⟩
theorem Lz.f156ok:Con.Ok Go.Proofs.Tryz.prog Lz.C Lz.f156con:=
 zb (Γ:=Lz.f156Γ) (an:=Lz.f156ann) ⟨Lz.Cok,(List.forall_mem_cons.2 ⟨Lz.f127ok,(fun _ h=>nomatch h)⟩),Lz.mixed⟩ Go.Proofs.Tryz.func156 rfl rfl (fun x y h=>(Lz.f156eq x).trans h) (by decide)
def Lz.f157sig:Sig:=⟨⟨[.own 0, .hole (.int .i64), .hole (.int .i64), .hole (.int .i64), .fnc 127 0], [.arr 82 (.arr 2 (.int .i64))]⟩,⟨[.hole (.int .i64)], [.arr 82 (.arr 2 (.int .i64))]⟩⟩
noncomputable def Lz.f157Γ:List Con:= [Lz.f127con]
def Lz.f157ann:Ann:=(.seq .leaf (.seq (.eff 1 [] [0,0,0,0,0,0,48,112,0,0,768,1792,4083,8179,16383,32767]) (.seq .leaf (.seq (.block (.loop ⟨.normal, [(11, .hole (.int .i64)),(12, .hole (.int .i64))], [.arr 82 (.arr 2
 (.int .i64))]⟩ [⟨(.exit 0), [(11, .hole (.int .i64))], [.arr 82 (.arr 2 (.int .i64))]⟩] (.block (.seq (.block (.loop ⟨.normal, [(11, .hole (.int .i64))], [.arr 82 (.arr 2 (.int .i64))]⟩ [⟨(.exit 2), [(11, .hole (.int .i64))], [.arr 82 (.arr
 2 (.int .i64))]⟩] (.seq (.seq (.join [⟨.normal, [(47, .hole .bool)], [.arr 82 (.arr 2 (.int .i64))]⟩] .leaf) (.cond .leaf .leaf)) (.block .leaf)))) (.seq (.block (.loop ⟨.normal, [(12, .hole (.int .i64))], [.arr 82 (.arr 2 (.int .i64))]⟩
 [⟨(.exit 4), [(12, .hole (.int .i64))], [.arr 82 (.arr 2 (.int .i64))]⟩] (.seq (.seq (.join [⟨.normal, [(65, .hole .bool)], [.arr 82 (.arr 2 (.int .i64))]⟩] .leaf) (.cond .leaf .leaf)) (.block .leaf)))) (.seq (.seq .leaf (.cond .leaf
 .leaf)) (.seq (.eff 1 [] [0,0,0,0,0,0,48,112,0,0,768,1792,4083,8179,16383,32767]) (.seq .leaf .leaf)))))))) (.seq .leaf .leaf)))))
noncomputable def Lz.f157F:Int×Int×Int×List (List Int)→Option (Int×List (List Int)):=fun(x:Int×Int×Int×List (List Int))=>if(0:Int)≤x.2.2.1∧x.2.2.1<(x.2.2.2.length:Int) then if(0:Int)≤x.1∧x.1<
 (x.2.2.2.length:Int) then if(0:Int)≤x.1∧x.1<(x.2.2.2.length:Int) then if(0:Int)≤x.2.2.1∧x.2.2.1<(↑(List.length (List.set x.2.2.2 (Int.toNat x.1) (List.getD x.2.2.2 (Int.toNat x.2.2.1) (List.replicate (2:Nat) (0:
 Int))))):Int) then Option.bind (iter (fun(s1:Int×Int×List (List Int))=>Option.bind (iter (fun(s2:Int×List (List Int))=>Option.bind (if decide (s2.1≤s1.2.1)=true then if(0:Int)≤x.1∧x.1<(s2.2.length:Int) then
 if(0:Int)≤s2.1∧s2.1<(s2.2.length:Int) then Option.bind (Lz.f127F (List.getD s2.2 (Int.toNat x.1) (List.replicate (2:Nat) (0:Int)),List.getD s2.2 (Int.toNat s2.1) (List.replicate (2:Nat) (0:Int)))) fun v3=>some (!decide
 (v3<(0:Int)),s2.2) else none else none else some (false,s2.2)) fun(v3:Bool×List (List Int))=>if v3.1=true then some (Sum.inl (IntKind.i64.wrap (s2.1+(1:Int)),v3.2)) else some (Sum.inr (s2.1,v3.2))) (s1.1,s1.2.2)) fun
 (v2:Int×List (List Int))=>Option.bind (iter (fun(s3:Int×List (List Int))=>Option.bind (if decide (v2.1≤s3.1)=true then if(0:Int)≤x.1∧x.1<(s3.2.length:Int) then if(0:Int)≤s3.1∧s3.1<(s3.2.length:Int)
 then Option.bind (Lz.f127F (List.getD s3.2 (Int.toNat x.1) (List.replicate (2:Nat) (0:Int)),List.getD s3.2 (Int.toNat s3.1) (List.replicate (2:Nat) (0:Int)))) fun v4=>some (decide (v4<(0:Int)),s3.2) else none else none else
 some (false,s3.2)) fun(v4:Bool×List (List Int))=>if v4.1=true then some (Sum.inl (IntKind.i64.wrap (s3.1 - (1:Int)),v4.2)) else some (Sum.inr (s3.1,v4.2))) (s1.2.1,v2.2)) fun(v3:Int×List (List Int))=>if decide (v2.1 >
 v3.1)=true then some (Sum.inr (v2.1,v3.2)) else if(0:Int)≤v3.1∧v3.1<(v3.2.length:Int) then if(0:Int)≤v2.1∧v2.1<(v3.2.length:Int) then if(0:Int)≤v2.1∧v2.1<(v3.2.length:Int) then if(0:Int)≤v3.1∧v3.1
 <(↑(List.length (List.set v3.2 (Int.toNat v2.1) (List.getD v3.2 (Int.toNat v3.1) (List.replicate (2:Nat) (0:Int))))):Int) then some (Sum.inl (IntKind.i64.wrap (v2.1+(1:Int)),IntKind.i64.wrap (v3.1 - (1:Int)),List.set
 (List.set v3.2 (Int.toNat v2.1) (List.getD v3.2 (Int.toNat v3.1) (List.replicate (2:Nat) (0:Int)))) (Int.toNat v3.1) (List.getD v3.2 (Int.toNat v2.1) (List.replicate (2:Nat) (0:Int))))) else none else none else none else none)
 (IntKind.i64.wrap (x.1+(1:Int)),IntKind.i64.wrap (x.2.1 - (1:Int)),List.set (List.set x.2.2.2 (Int.toNat x.1) (List.getD x.2.2.2 (Int.toNat x.2.2.1) (List.replicate (2:Nat) (0:Int)))) (Int.toNat x.2.2.1) (List.getD x.2.2.2
 (Int.toNat x.1) (List.replicate (2:Nat) (0:Int))))) fun(v1:Int×List (List Int))=>some (v1.1,v1.2) else none else none else none else none
theorem Lz.f157eq: ∀ x,zl Lz.C Lz.f157Γ Lz.f157sig Lz.f157ann Go.Proofs.Tryz.f157 x=Lz.f157F x:=by
 intro x
 kernel_rfl
noncomputable def Lz.f157con:Con:=⟨157,Lz.f157sig,Lz.f157F⟩
theorem Lz.f157ok:Con.Ok Go.Proofs.Tryz.prog Lz.C Lz.f157con:=
 zb (Γ:=Lz.f157Γ) (an:=Lz.f157ann) ⟨Lz.Cok,(List.forall_mem_cons.2 ⟨Lz.f127ok,(fun _ h=>nomatch h)⟩),Lz.mixed⟩ Go.Proofs.Tryz.func157 rfl rfl (fun x y h=>(Lz.f157eq x).trans h) (by decide)
def Lz.f158sig:Sig:=⟨⟨[.own 0, .hole (.int .i64), .hole (.int .i64), .hole (.int .i64), .fnc 127 0], [.arr 82 (.arr 2 (.int .i64))]⟩,⟨[.hole (.int .i64), .hole .bool], [.arr 82 (.arr 2 (.int .i64))]⟩⟩
noncomputable def Lz.f158Γ:List Con:= [Lz.f127con]
def Lz.f158ann:Ann:=(.seq .leaf (.seq (.eff 1 [] [0,0,0,0,0,0,48,112,0,0,768,1792,4083,8179,16383,32767]) (.seq .leaf (.seq (.block (.loop ⟨.normal, [(12, .hole (.int .i64))], [.arr 82 (.arr 2 (.int .i64))]⟩ [⟨(.exit 0),
 [(12, .hole (.int .i64))], [.arr 82 (.arr 2 (.int .i64))]⟩] (.seq (.seq (.join [⟨.normal, [(47, .hole .bool)], [.arr 82 (.arr 2 (.int .i64))]⟩] .leaf) (.cond .leaf .leaf)) (.block .leaf)))) (.seq (.block (.loop ⟨.normal, [(13, .hole (.int
 .i64))], [.arr 82 (.arr 2 (.int .i64))]⟩ [⟨(.exit 2), [(13, .hole (.int .i64))], [.arr 82 (.arr 2 (.int .i64))]⟩] (.seq (.seq (.join [⟨.normal, [(66, .hole .bool)], [.arr 82 (.arr 2 (.int .i64))]⟩] .leaf) (.cond .leaf .leaf)) (.block
 .leaf)))) (.seq (.seq .leaf (.cond (.seq (.eff 1 [] [0,0,0,0,0,0,48,112,0,0,768,1792,4083,8179,16383,32767]) (.seq .leaf .leaf)) .leaf)) (.seq (.eff 1 [] [0,0,0,0,0,0,48,112,0,0,768,1792,4083,8179,16383,32767])
 (.seq .leaf (.seq .leaf (.seq (.block (.loop ⟨.normal, [(12, .hole (.int .i64)),(13, .hole (.int .i64))], [.arr 82 (.arr 2 (.int .i64))]⟩ [⟨(.exit 4), [(13, .hole (.int .i64))], [.arr 82 (.arr 2 (.int .i64))]⟩] (.block (.seq (.block (.loop
 ⟨.normal, [(12, .hole (.int .i64))], [.arr 82 (.arr 2 (.int .i64))]⟩ [⟨(.exit 6), [(12, .hole (.int .i64))], [.arr 82 (.arr 2 (.int .i64))]⟩] (.seq (.seq (.join [⟨.normal, [(120, .hole .bool)], [.arr 82 (.arr 2 (.int .i64))]⟩] .leaf) (.cond
 .leaf .leaf)) (.block .leaf)))) (.seq (.block (.loop ⟨.normal, [(13, .hole (.int .i64))], [.arr 82 (.arr 2 (.int .i64))]⟩ [⟨(.exit 8), [(13, .hole (.int .i64))], [.arr 82 (.arr 2 (.int .i64))]⟩] (.seq (.seq (.join [⟨.normal, [(139, .hole
 .bool)], [.arr 82 (.arr 2 (.int .i64))]⟩] .leaf) (.cond .leaf .leaf)) (.block .leaf)))) (.seq (.seq .leaf (.cond .leaf .leaf)) (.seq (.eff 1 [] [0,0,0,0,0,0,48,112,0,0,768,1792,4083,8179,16383,32767]) (.seq .leaf
 .leaf)))))))) (.seq (.eff 1 [] [0,0,0,0,0,0,48,112,0,0,768,1792,4083,8179,16383,32767]) (.seq .leaf .leaf))))))))))))
noncomputable def Lz.f158F:Int×Int×Int×List (List Int)→Option (Int×Bool×List (List Int)):=fun(x:Int×Int×Int×List (List Int))=>if(0:Int)≤x.2.2.1∧x.2.2.1<(x.2.2.2.length:Int) then if(0:Int)≤x.1∧x.1
 <(x.2.2.2.length:Int) then if(0:Int)≤x.1∧x.1<(x.2.2.2.length:Int) then if(0:Int)≤x.2.2.1∧x.2.2.1<(↑(List.length (List.set x.2.2.2 (Int.toNat x.1) (List.getD x.2.2.2 (Int.toNat x.2.2.1) (List.replicate (2:Nat) (0:
 Int))))):Int) then Option.bind (iter (fun(s1:Int×List (List Int))=>Option.bind (if decide (s1.1≤IntKind.i64.wrap (x.2.1 - (1:Int)))=true then if(0:Int)≤s1.1∧s1.1<(s1.2.length:Int) then if(0:Int)≤x.1∧x.1<
 (s1.2.length:Int) then Option.bind (Lz.f127F (List.getD s1.2 (Int.toNat s1.1) (List.replicate (2:Nat) (0:Int)),List.getD s1.2 (Int.toNat x.1) (List.replicate (2:Nat) (0:Int)))) fun v2=>some (decide (v2<(0:Int)),s1.2) else
 none else none else some (false,s1.2)) fun(v2:Bool×List (List Int))=>if v2.1=true then some (Sum.inl (IntKind.i64.wrap (s1.1+(1:Int)),v2.2)) else some (Sum.inr (s1.1,v2.2))) (IntKind.i64.wrap (x.1+(1:Int)),List.set
 (List.set x.2.2.2 (Int.toNat x.1) (List.getD x.2.2.2 (Int.toNat x.2.2.1) (List.replicate (2:Nat) (0:Int)))) (Int.toNat x.2.2.1) (List.getD x.2.2.2 (Int.toNat x.1) (List.replicate (2:Nat) (0:Int))))) fun(v1:Int×List (List Int))
 =>Option.bind (iter (fun(s2:Int×List (List Int))=>Option.bind (if decide (v1.1≤s2.1)=true then if(0:Int)≤s2.1∧s2.1<(s2.2.length:Int) then if(0:Int)≤x.1∧x.1<(s2.2.length:Int) then Option.bind (Lz.f127F
 (List.getD s2.2 (Int.toNat s2.1) (List.replicate (2:Nat) (0:Int)),List.getD s2.2 (Int.toNat x.1) (List.replicate (2:Nat) (0:Int)))) fun v3=>some (!decide (v3<(0:Int)),s2.2) else none else none else some (false,s2.2)) fun
 (v3:Bool×List (List Int))=>if v3.1=true then some (Sum.inl (IntKind.i64.wrap (s2.1 - (1:Int)),v3.2)) else some (Sum.inr (s2.1,v3.2))) (IntKind.i64.wrap (x.2.1 - (1:Int)),v1.2)) fun(v2:Int×List (List Int))=>if decide
 (v1.1 > v2.1)=true then if(0:Int)≤x.1∧x.1<(v2.2.length:Int) then if(0:Int)≤v2.1∧v2.1<(v2.2.length:Int) then if(0:Int)≤v2.1∧v2.1<(v2.2.length:Int) then if(0:Int)≤x.1∧x.1<(↑(List.length (List.set
 v2.2 (Int.toNat v2.1) (List.getD v2.2 (Int.toNat x.1) (List.replicate (2:Nat) (0:Int))))):Int) then some (v2.1,true,List.set (List.set v2.2 (Int.toNat v2.1) (List.getD v2.2 (Int.toNat x.1) (List.replicate (2:Nat) (0:Int))))
 (Int.toNat x.1) (List.getD v2.2 (Int.toNat v2.1) (List.replicate (2:Nat) (0:Int)))) else none else none else none else none else if(0:Int)≤v2.1∧v2.1<(v2.2.length:Int) then if(0:Int)≤v1.1∧v1.1<(v2.2.length:Int) then
 if(0:Int)≤v1.1∧v1.1<(v2.2.length:Int) then if(0:Int)≤v2.1∧v2.1<(↑(List.length (List.set v2.2 (Int.toNat v1.1) (List.getD v2.2 (Int.toNat v2.1) (List.replicate (2:Nat) (0:Int))))):Int) then Option.bind (iter (fun
 (s3:Int×Int×List (List Int))=>Option.bind (iter (fun(s4:Int×List (List Int))=>Option.bind (if decide (s4.1≤s3.2.1)=true then if(0:Int)≤s4.1∧s4.1<(s4.2.length:Int) then if(0:Int)≤x.1∧x.1<(s4.2.length:
 Int) then Option.bind (Lz.f127F (List.getD s4.2 (Int.toNat s4.1) (List.replicate (2:Nat) (0:Int)),List.getD s4.2 (Int.toNat x.1) (List.replicate (2:Nat) (0:Int)))) fun v5=>some (decide (v5<(0:Int)),s4.2) else none else none
 else some (false,s4.2)) fun(v5:Bool×List (List Int))=>if v5.1=true then some (Sum.inl (IntKind.i64.wrap (s4.1+(1:Int)),v5.2)) else some (Sum.inr (s4.1,v5.2))) (s3.1,s3.2.2)) fun(v4:Int×List (List Int))=>Option.bind
 (iter (fun(s5:Int×List (List Int))=>Option.bind (if decide (v4.1≤s5.1)=true then if(0:Int)≤s5.1∧s5.1<(s5.2.length:Int) then if(0:Int)≤x.1∧x.1<(s5.2.length:Int) then Option.bind (Lz.f127F (List.getD s5.2
 (Int.toNat s5.1) (List.replicate (2:Nat) (0:Int)),List.getD s5.2 (Int.toNat x.1) (List.replicate (2:Nat) (0:Int)))) fun v6=>some (!decide (v6<(0:Int)),s5.2) else none else none else some (false,s5.2)) fun(v6:Bool×List
 (List Int))=>if v6.1=true then some (Sum.inl (IntKind.i64.wrap (s5.1 - (1:Int)),v6.2)) else some (Sum.inr (s5.1,v6.2))) (s3.2.1,v4.2)) fun(v5:Int×List (List Int))=>if decide (v4.1 > v5.1)=true then some (Sum.inr (v5.1,
 v5.2)) else if(0:Int)≤v5.1∧v5.1<(v5.2.length:Int) then if(0:Int)≤v4.1∧v4.1<(v5.2.length:Int) then if(0:Int)≤v4.1∧v4.1<(v5.2.length:Int) then if(0:Int)≤v5.1∧v5.1<(↑(List.length (List.set v5.2
 (Int.toNat v4.1) (List.getD v5.2 (Int.toNat v5.1) (List.replicate (2:Nat) (0:Int))))):Int) then some (Sum.inl (IntKind.i64.wrap (v4.1+(1:Int)),IntKind.i64.wrap (v5.1 - (1:Int)),List.set (List.set v5.2 (Int.toNat v4.1)
 (List.getD v5.2 (Int.toNat v5.1) (List.replicate (2:Nat) (0:Int)))) (Int.toNat v5.1) (List.getD v5.2 (Int.toNat v4.1) (List.replicate (2:Nat) (0:Int))))) else none else none else none else none) (IntKind.i64.wrap (v1.1+(1:Int)),
 IntKind.i64.wrap (v2.1 - (1:Int)),List.set (List.set v2.2 (Int.toNat v1.1) (List.getD v2.2 (Int.toNat v2.1) (List.replicate (2:Nat) (0:Int)))) (Int.toNat v2.1) (List.getD v2.2 (Int.toNat v1.1) (List.replicate (2:Nat) (0:Int)))))
 fun(v3:Int×List (List Int))=>if(0:Int)≤x.1∧x.1<(v3.2.length:Int) then if(0:Int)≤v3.1∧v3.1<(v3.2.length:Int) then if(0:Int)≤v3.1∧v3.1<(v3.2.length:Int) then if(0:Int)≤x.1∧x.1<(↑(List.length
 (List.set v3.2 (Int.toNat v3.1) (List.getD v3.2 (Int.toNat x.1) (List.replicate (2:Nat) (0:Int))))):Int) then some (v3.1,false,List.set (List.set v3.2 (Int.toNat v3.1) (List.getD v3.2 (Int.toNat x.1) (List.replicate (2:Nat) (0:
 Int)))) (Int.toNat x.1) (List.getD v3.2 (Int.toNat v3.1) (List.replicate (2:Nat) (0:Int)))) else none else none else none else none else none else none else none else none else none else none else none else none
theorem Lz.f158eq: ∀ x,zl Lz.C Lz.f158Γ Lz.f158sig Lz.f158ann Go.Proofs.Tryz.f158 x=Lz.f158F x:=by
 intro x
 kernel_rfl
noncomputable def Lz.f158con:Con:=⟨158,Lz.f158sig,Lz.f158F⟩
theorem Lz.f158ok:Con.Ok Go.Proofs.Tryz.prog Lz.C Lz.f158con:=
 zb (Γ:=Lz.f158Γ) (an:=Lz.f158ann) ⟨Lz.Cok,(List.forall_mem_cons.2 ⟨Lz.f127ok,(fun _ h=>nomatch h)⟩),Lz.mixed⟩ Go.Proofs.Tryz.func158 rfl rfl (fun x y h=>(Lz.f158eq x).trans h) (by decide)
def Lz.f149sig:Sig:=⟨⟨[.own 0, .hole (.int .i64), .hole (.int .i64), .hole (.int .i64), .fnc 127 0], [.arr 82 (.arr 2 (.int .i64))]⟩,⟨[], [.arr 82 (.arr 2 (.int .i64))]⟩⟩
noncomputable def Lz.f149Γ (r149:Int×Int×Int×List (List Int)→Option (List (List Int))):List Con:= [Lz.f151con,Lz.f152con,Lz.f153con,Lz.f154con,Lz.f155con,Lz.f156con,Lz.f157con,Lz.f158con,⟨149,Lz.f149sig,r149⟩,
 Lz.f127con]
def Lz.f149ann:Ann:=(.seq .leaf (.seq .leaf (.block (.loop ⟨.normal, [(3, .hole (.int .i64)),(1, .hole (.int .i64)),(11, .hole .bool),(10, .hole .bool),(2, .hole (.int .i64))], [.arr 82 (.arr 2 (.int .i64))]⟩ [⟨.ret, [], [.arr 82
 (.arr 2 (.int .i64))]⟩] (.block (.seq .leaf (.seq (.seq .leaf (.cond (.seq .leaf .leaf) .leaf)) (.seq (.seq .leaf (.cond (.seq .leaf .leaf) .leaf)) (.seq (.join [⟨.normal, [(3, .hole (.int .i64))], [.arr 82 (.arr 2 (.int .i64))]⟩] (.seq
 .leaf (.cond (.seq .leaf .leaf) .leaf))) (.seq .leaf (.seq (.join [⟨.normal, [(13, .hole (.int .i64)),(14, .hole (.int .i64))], [.arr 82 (.arr 2 (.int .i64))]⟩] (.seq .leaf (.cond (.seq .leaf (.seq .leaf .leaf)) .leaf))) (.seq (.join
 [⟨.ret, [], [.arr 82 (.arr 2 (.int .i64))]⟩,⟨.normal, [], [.arr 82 (.arr 2 (.int .i64))]⟩] (.seq (.join [⟨.normal, [(75, .hole .bool)], [.arr 82 (.arr 2 (.int .i64))]⟩] .leaf) (.cond (.seq .leaf (.cond .leaf .leaf)) .leaf))) (.seq (.seq
 (.join [⟨.normal, [(97, .hole .bool)], [.arr 82 (.arr 2 (.int .i64))]⟩] .leaf) (.cond (.seq .leaf (.seq .leaf .leaf)) .leaf)) (.seq .leaf (.seq .leaf (.seq .leaf (.seq .leaf (.seq .leaf (.cond (.seq .leaf (.seq .leaf .leaf)) (.seq .leaf
 (.seq .leaf .leaf)))))))))))))))))))))
noncomputable def Lz.f149S (r149:Int×Int×Int×List (List Int)→Option (List (List Int))):Int×Int×Int×List (List Int)→Option (List (List Int)):=fun(x:Int×Int×Int×List (List Int))=>Option.bind (iter (fun(s1:
 Int×Int×Bool×Bool×Int×List (List Int))=>if decide (IntKind.i64.wrap (s1.2.2.2.2.1 - s1.2.1)≤(12:Int))=true then Option.bind (Lz.f151F (s1.2.1,s1.2.2.2.2.1,s1.2.2.2.2.2)) fun(v2:List (List Int))=>some (Sum.inr v2)
 else if(s1.1==(0:Int))=true then Option.bind (Lz.f152F (s1.2.1,s1.2.2.2.2.1,s1.2.2.2.2.2)) fun(v2:List (List Int))=>some (Sum.inr v2) else Option.bind (if(!s1.2.2.2.1)=true then Option.bind (Lz.f153F (s1.2.1,s1.2.2.2.2.1,
 s1.2.2.2.2.2)) fun(v2:List (List Int))=>some (IntKind.i64.wrap (s1.1 - (1:Int)),v2) else some (s1.1,s1.2.2.2.2.2)) fun(v2:Int×List (List Int))=>Option.bind (Lz.f154F (s1.2.1,s1.2.2.2.2.1,v2.2)) fun(v3:Int×Int×List
 (List Int))=>Option.bind (if(v3.2.1==(2:Int))=true then Option.bind (Lz.f155F (s1.2.1,s1.2.2.2.2.1,v3.2.2)) fun(v4:List (List Int))=>some (IntKind.i64.wrap (IntKind.i64.wrap (s1.2.2.2.2.1 - (1:Int)) - IntKind.i64.wrap
 (v3.1 - s1.2.1)),(1:Int),v4) else some (v3.1,v3.2.1,v3.2.2)) fun(v4:Int×Int×List (List Int))=>Option.bind (Option.bind (if s1.2.2.2.1=true then if s1.2.2.1=true then some (v4.2.1==(1:Int),v4.2.2) else some (false,
 v4.2.2) else some (false,v4.2.2)) fun(v5:Bool×List (List Int))=>if v5.1=true then Option.bind (Lz.f156F (s1.2.1,s1.2.2.2.2.1,v5.2)) fun(v6:Bool×List (List Int))=>if v6.1=true then some (Sum.inl v6.2) else some (Sum.inr
 v6.2) else some (Sum.inr v5.2)) fun(v5:List (List Int) ⊕ List (List Int))=>Sum.elim (fun(p6:List (List Int))=>some (Sum.inr p6)) (fun(q6:List (List Int))=>Option.bind (if decide (s1.2.1 > (0:Int))=true then if(0:Int)≤
 IntKind.i64.wrap (s1.2.1 - (1:Int))∧IntKind.i64.wrap (s1.2.1 - (1:Int))<(q6.length:Int) then if(0:Int)≤v4.1∧v4.1<(q6.length:Int) then Option.bind (Lz.f127F (List.getD q6 (Int.toNat (IntKind.i64.wrap (s1.2.1 - (1:
 Int)))) (List.replicate (2:Nat) (0:Int)),List.getD q6 (Int.toNat v4.1) (List.replicate (2:Nat) (0:Int)))) fun v7=>some (!decide (v7<(0:Int)),q6) else none else none else some (false,q6)) fun(v7:Bool×List (List Int))=>
 if v7.1=true then Option.bind (Lz.f157F (s1.2.1,s1.2.2.2.2.1,v4.1,v7.2)) fun(v8:Int×List (List Int))=>some (Sum.inl (v2.1,v8.1,s1.2.2.1,s1.2.2.2.1,s1.2.2.2.2.1,v8.2)) else Option.bind (Lz.f158F (s1.2.1,s1.2.2.2.2.1,v4.1,
 v7.2)) fun(v8:Int×Bool×List (List Int))=>if decide (IntKind.i64.wrap (v8.1 - s1.2.1)<IntKind.i64.wrap (s1.2.2.2.2.1 - v8.1))=true then Option.bind (r149 (s1.2.1,v8.1,v2.1,v8.2.2)) fun(v9:List (List Int))=>some (Sum.inl
 (v2.1,IntKind.i64.wrap (v8.1+(1:Int)),v8.2.1,decide (IntKind.i64.wrap (v8.1 - s1.2.1)≥IntKind.i64.wrap (Int.tdiv (IntKind.i64.wrap (s1.2.2.2.2.1 - s1.2.1)) (8:Int))),s1.2.2.2.2.1,v9)) else Option.bind (r149 (IntKind.i64.wrap
 (v8.1+(1:Int)),s1.2.2.2.2.1,v2.1,v8.2.2)) fun(v9:List (List Int))=>some (Sum.inl (v2.1,s1.2.1,v8.2.1,decide (IntKind.i64.wrap (s1.2.2.2.2.1 - v8.1)≥IntKind.i64.wrap (Int.tdiv (IntKind.i64.wrap (s1.2.2.2.2.1 - s1.2.1)) (8:
 Int))),v8.1,v9))) v5) (x.2.2.1,x.1,true,true,x.2.1,x.2.2.2)) fun(v1:List (List Int))=>some v1
theorem Lz.f149eq (r149:Int×Int×Int×List (List Int)→Option (List (List Int))): ∀ x,zl Lz.C (Lz.f149Γ r149) Lz.f149sig Lz.f149ann Go.Proofs.Tryz.f149 x=Lz.f149S r149 x:=by
 intro x
 kernel_rfl
noncomputable def Lz.f149N:Nat→(Int×Int×Int×List (List Int)→Option (List (List Int)))
 |0=>fun _=>none
 |n+1=>Lz.f149S ((Lz.f149N n))
noncomputable def Lz.f149F:Int×Int×Int×List (List Int)→Option (List (List Int)):=(Lz.f149N Lz.fuel)
noncomputable def Lz.f149con:Con:=⟨149,Lz.f149sig,Lz.f149F⟩
theorem Lz.f149Nok: ∀ n,Con.Ok Go.Proofs.Tryz.prog Lz.C ⟨149,Lz.f149sig,(Lz.f149N n)⟩
 |0=>zb (Γ:= []) (an:= .leaf) ⟨Lz.Cok,(fun _ h=>nomatch h),Lz.mixed⟩ Go.Proofs.Tryz.func149 rfl rfl (fun x y h=>nomatch h) (by decide)
 |n+1=>have h:=Lz.f149Nok n
  zb (Γ:=Lz.f149Γ ((Lz.f149N n))) (an:=Lz.f149ann) ⟨Lz.Cok,(List.forall_mem_cons.2 ⟨Lz.f151ok,(List.forall_mem_cons.2 ⟨Lz.f152ok,(List.forall_mem_cons.2 ⟨Lz.f153ok,(List.forall_mem_cons.2 ⟨Lz.f154ok,(List.forall_mem_cons.2 ⟨Lz.f155ok,(List.forall_mem_cons.2 ⟨Lz.f156ok,(List.forall_mem_cons.2 ⟨Lz.f157ok,(List.forall_mem_cons.2 ⟨Lz.f158ok,(List.forall_mem_cons.2 ⟨h,(List.forall_mem_cons.2 ⟨Lz.f127ok,(fun _ h=>nomatch h)⟩)⟩)⟩)⟩)⟩)⟩)⟩)⟩)⟩)⟩),Lz.mixed⟩ Go.Proofs.Tryz.func149 rfl rfl (fun x y h=>(Lz.f149eq _ x).trans h) (by decide)
theorem Lz.f149ok:Con.Ok Go.Proofs.Tryz.prog Lz.C Lz.f149con:=(Lz.f149Nok Lz.fuel)
def Lz.f126sig:Sig:=⟨⟨[.own 0, .fnc 127 0], [.arr 82 (.arr 2 (.int .i64))]⟩,⟨[], [.arr 82 (.arr 2 (.int .i64))]⟩⟩
noncomputable def Lz.f126Γ:List Con:= [Lz.f150con,Lz.f149con,Lz.f127con]
def Lz.f126ann:Ann:=(.seq .leaf .leaf)
noncomputable def Lz.f126F:List (List Int)→Option (List (List Int)):=fun(x:List (List Int))=>Option.bind (Lz.f150F (IntKind.wrap IntKind.u64 (x.length:Int))) fun v1=>Option.bind (Lz.f149F ((0:Int),(x.length:Int),v1,x))
 fun(v2:List (List Int))=>some v2
theorem Lz.f126eq: ∀ x,zl Lz.C Lz.f126Γ Lz.f126sig Lz.f126ann Go.Proofs.Tryz.f126 x=Lz.f126F x:=by
 intro x
 kernel_rfl
noncomputable def Lz.f126con:Con:=⟨126,Lz.f126sig,Lz.f126F⟩
theorem Lz.f126ok:Con.Ok Go.Proofs.Tryz.prog Lz.C Lz.f126con:=
 zb (Γ:=Lz.f126Γ) (an:=Lz.f126ann) ⟨Lz.Cok,(List.forall_mem_cons.2 ⟨Lz.f150ok,(List.forall_mem_cons.2 ⟨Lz.f149ok,(List.forall_mem_cons.2 ⟨Lz.f127ok,(fun _ h=>nomatch h)⟩)⟩)⟩),Lz.mixed⟩ Go.Proofs.Tryz.func126 rfl rfl (fun x y h=>(Lz.f126eq x).trans h) (by decide)
def Lz.f83sig:Sig:=⟨⟨[.hole (.sl (.int .i64)), .hole (.sl (.int .i64))], []⟩,⟨[.hole (.sl (.arr 2 (.int .i64)))], []⟩⟩
noncomputable def Lz.f83Γ:List Con:= [Lz.other,Lz.f125con,Lz.f126con,Lz.f127con]
def Lz.f83ann:Ann:=(.seq .leaf (.scope 0 ⟨.normal, [(5, .own 0),(6, .own 1),(7, .hole (.int .i64))], [.arr 82 (.arr 2 (.int .i64)), .arr 123 (.st (.pair (.int .i64) (.int .i64)))]⟩ [⟨.ret, [(4, .own 0)], [.arr 82 (.arr 2 (.int
 .i64))]⟩] (.seq (.seq .leaf (.cond (.seq .leaf .leaf) .leaf)) (.seq .leaf (.seq .leaf (.seq .leaf (.seq .leaf (.seq (.seq .leaf (.cond (.seq .leaf (.seq (.block (.seq (.join [⟨.normal, [(62, .hole .bool)], []⟩] .leaf) (.cond .leaf (.seq
 (.join [⟨.normal, [(72, .hole .bool)], []⟩] .leaf) (.cond .leaf (.seq .leaf (.cond .leaf (.seq .leaf (.seq (.block (.loop ⟨.normal, [(11, .hole (.int .i64))], []⟩ [⟨(.exit 1), [(11, .hole (.int .i64))], []⟩] (.seq (.seq .leaf (.cond .leaf
 .leaf)) .leaf))) (.seq .leaf (.cond (.seq .leaf .leaf) .leaf))))))))))) (.seq .leaf .leaf))) .leaf)) (.seq .leaf (.seq .leaf .leaf)))))))) (.seq .leaf (.seq (.seq .leaf (.cond (.seq .leaf (.seq (.block (.seq (.join [⟨.normal, [(62, .hole
 .bool)], [.arr 82 (.arr 2 (.int .i64)), .arr 123 (.st (.pair (.int .i64) (.int .i64)))]⟩] .leaf) (.cond .leaf (.seq (.join [⟨.normal, [(72, .hole .bool)], [.arr 82 (.arr 2 (.int .i64)), .arr 123 (.st (.pair (.int .i64) (.int .i64)))]⟩]
 .leaf) (.cond .leaf (.seq .leaf (.cond .leaf (.seq .leaf (.seq (.block (.loop ⟨.normal, [(11, .hole (.int .i64))], [.arr 82 (.arr 2 (.int .i64)), .arr 123 (.st (.pair (.int .i64) (.int .i64)))]⟩ [⟨(.exit 1), [(11, .hole (.int .i64))], [.arr
 82 (.arr 2 (.int .i64)), .arr 123 (.st (.pair (.int .i64) (.int .i64)))]⟩] (.seq (.seq (.join [⟨.normal, [(44, .hole .bool)], [.arr 82 (.arr 2 (.int .i64)), .arr 123 (.st (.pair (.int .i64) (.int .i64)))]⟩] .leaf) (.cond .leaf .leaf))
 (.block .leaf)))) (.seq .leaf (.cond (.seq .leaf .leaf) .leaf))))))))))) (.seq .leaf .leaf))) .leaf)) (.seq .leaf (.seq .leaf .leaf))))))
noncomputable def Lz.f83F:List Int×List Int→Option (List (List Int)):=fun(x:List Int×List Int)=>Option.bind (Option.bind (if((x.1.length:Int)!=(x.2.length:Int))=true then some (Sum.inr []) else if decide ((0:Int)<
 (x.1.length:Int))=true then if(0:Int)≤(0:Int)∧(0:Int)<(x.1.length:Int) then Option.bind (Lz.otherF (List.getD x.1 (Int.toNat (0:Int)) (0:Int))) fun v1=>Option.bind (if(!v1.2.2)=true then some true else if(0:
 Int)≤(0:Int)∧(0:Int)<(x.2.length:Int) then some (List.getD x.2 (Int.toNat (0:Int)) (0:Int)!=(13:Int)) else none) fun v2=>if v2=true then some (Sum.inl (IntKind.i64.wrap ((0:Int)+(1:Int)), [], [])) else
 Option.bind (if v1.2.1=true then some ((0:Int)==(63:Int)) else some false) fun v3=>if v3=true then some (Sum.inl (IntKind.i64.wrap ((x.1.length:Int)+(1:Int)), [], [])) else if v1.2.1=true then if(0:Int)≤(0:Int)∧
 (0:Int)<(x.1.length:Int) then if zj (1:Nat) (16:Nat) then some (Sum.inl (IntKind.i64.wrap ((0:Int)+(1:Int)), [], [(List.getD x.1 (Int.toNat (0:Int)) (0:Int),(0:Int))])) else none else none else Option.bind (iter
 (fun(s4:Int)=>if decide (s4≥(0:Int))=true then none else some (Sum.inr s4)) (IntKind.i64.wrap ((0:Int) - (1:Int)))) fun v4=>if decide (v4≥(0:Int))=true then none else some (Sum.inl (IntKind.i64.wrap ((0:Int)+(1:
 Int)), [], [])) else none else Option.bind (Lz.f126F []) fun(v1:List (List Int))=>some (Sum.inr [])) fun(v1:Int×List (List Int)×List (Int×Int) ⊕ List (List Int))=>Sum.elim (fun(p2:Int×List (List Int)×List (Int×Int))
 =>iter (fun(s3:Int×List (List Int)×List (Int×Int))=>if decide (s3.1<(x.1.length:Int))=true then if(0:Int)≤s3.1∧s3.1<(x.1.length:Int) then Option.bind (Lz.otherF (List.getD x.1 (Int.toNat s3.1) (0:Int))) fun v4
 =>Option.bind (if(!v4.2.2)=true then some (true,s3.2.1,s3.2.2) else if(0:Int)≤s3.1∧s3.1<(x.2.length:Int) then some (List.getD x.2 (Int.toNat s3.1) (0:Int)!=(13:Int),s3.2.1,s3.2.2) else none) fun(v5:Bool×List
 (List Int)×List (Int×Int))=>if v5.1=true then some (Sum.inl (IntKind.i64.wrap (s3.1+(1:Int)),v5.2.1,v5.2.2)) else Option.bind (if v4.2.1=true then some ((v5.2.2.length:Int)==(63:Int),v5.2.1,v5.2.2) else some (false,
 v5.2.1,v5.2.2)) fun(v6:Bool×List (List Int)×List (Int×Int))=>if v6.1=true then some (Sum.inl (IntKind.i64.wrap ((x.1.length:Int)+(1:Int)),v6.2.1,v6.2.2)) else if v4.2.1=true then if(0:Int)≤s3.1∧s3.1<
 (x.1.length:Int) then if zj (List.length v6.2.2+(1:Nat)) (16:Nat) then some (Sum.inl (IntKind.i64.wrap (s3.1+(1:Int)),v6.2.1,v6.2.2++ [(List.getD x.1 (Int.toNat s3.1) (0:Int),s3.1)])) else none else none else
 Option.bind (iter (fun(s7:Int×List (List Int)×List (Int×Int))=>Option.bind (if decide (s7.1≥(0:Int))=true then if(0:Int)≤s7.1∧s7.1<(s7.2.2.length:Int) then Option.bind (Lz.f125F ((List.getD s7.2.2 (Int.toNat
 s7.1) ((0:Int),(0:Int))).1,v4.1)) fun v8=>some (!v8,s7.2.1,s7.2.2) else none else some (false,s7.2.1,s7.2.2)) fun(v8:Bool×List (List Int)×List (Int×Int))=>if v8.1=true then some (Sum.inl (IntKind.i64.wrap (s7.1 - (1
 :Int)),v8.2.1,v8.2.2)) else some (Sum.inr (s7.1,v8.2.1,v8.2.2))) (IntKind.i64.wrap ((v6.2.2.length:Int) - (1:Int)),v6.2.1,v6.2.2)) fun(v7:Int×List (List Int)×List (Int×Int))=>if decide (v7.1≥(0:Int))=true then if
 (0:Int)≤v7.1∧v7.1<(v7.2.2.length:Int) then if zj (List.length v7.2.1+(1:Nat)) (16:Nat) then if(0:Int)≤v7.1∧v7.1≤(v7.2.2.length:Int) then some (Sum.inl (IntKind.i64.wrap (s3.1+(1:Int)),v7.2.1++
 [[(List.getD v7.2.2 (Int.toNat v7.1) ((0:Int),(0:Int))).2,s3.1]],List.take (Int.toNat v7.1) v7.2.2)) else none else none else none else some (Sum.inl (IntKind.i64.wrap (s3.1+(1:Int)),v7.2.1,v7.2.2)) else none else Option.bind
 (Lz.f126F s3.2.1) fun(v4:List (List Int))=>some (Sum.inr v4)) p2) (fun(q2:List (List Int))=>some q2) v1) fun(v1:List (List Int))=>some v1
theorem Lz.f83eq: ∀ x,zl Lz.C Lz.f83Γ Lz.f83sig Lz.f83ann Go.Proofs.Tryz.f83 x=Lz.f83F x:=by
 intro x
 kernel_rfl
noncomputable def Lz.f83con:Con:=⟨83,Lz.f83sig,Lz.f83F⟩
theorem Lz.f83ok:Con.Ok Go.Proofs.Tryz.prog Lz.C Lz.f83con:=
 zb (Γ:=Lz.f83Γ) (an:=Lz.f83ann) ⟨Lz.Cok,(List.forall_mem_cons.2 ⟨Lz.otherok,(List.forall_mem_cons.2 ⟨Lz.f125ok,(List.forall_mem_cons.2 ⟨Lz.f126ok,(List.forall_mem_cons.2 ⟨Lz.f127ok,(fun _ h=>nomatch h)⟩)⟩)⟩)⟩),Lz.mixed⟩ Go.Proofs.Tryz.func83 rfl rfl (fun x y h=>(Lz.f83eq x).trans h) (by decide)
def Lz.f131sig:Sig:=⟨⟨[.hole (.int .i64)], []⟩,⟨[.hole (.int .i64)], []⟩⟩
noncomputable def Lz.f131Γ:List Con:= []
def Lz.f131ann:Ann:=(.seq .leaf (.seq (.seq .leaf (.block (.seq .leaf (.cond (.seq .leaf .leaf) (.seq (.join [⟨.normal, [(6, .hole .bool)], []⟩] (.seq .leaf (.cond .leaf (.seq .leaf (.cond .leaf .leaf))))) (.cond (.seq .leaf .leaf)
 .leaf)))))) (.seq .leaf .leaf)))
noncomputable def Lz.f131F:Int→Option (Int):=fun(x:Int)=>if(x==(0:Int))=true then some (0:Int) else Option.bind (if(x==(1:Int))=true then some true else if(x==(3:Int))=true then some true else some (x==(6
 :Int))) fun v1=>if v1=true then some (1:Int) else some (-1:Int)
theorem Lz.f131eq: ∀ x,zl Lz.C Lz.f131Γ Lz.f131sig Lz.f131ann Go.Proofs.Tryz.f131 x=Lz.f131F x:=by
 intro x
 kernel_rfl
noncomputable def Lz.f131con:Con:=⟨131,Lz.f131sig,Lz.f131F⟩
theorem Lz.f131ok:Con.Ok Go.Proofs.Tryz.prog Lz.C Lz.f131con:=
 zb (Γ:=Lz.f131Γ) (an:=Lz.f131ann) ⟨Lz.Cok,(fun _ h=>nomatch h),Lz.mixed⟩ Go.Proofs.Tryz.func131 rfl rfl (fun x y h=>(Lz.f131eq x).trans h) (by decide)
def Lz.f128sig:Sig:=⟨⟨[.own 0, .hole (.int .i64), .hole (.int .i64)], [.arr 3 (.int .i64)]⟩,⟨[.hole .bool, .hole .bool], [.arr 3 (.int .i64)]⟩⟩
noncomputable def Lz.f128Γ:List Con:= [Lz.f131con]
def Lz.f128ann:Ann:=(.seq .leaf (.seq .leaf (.seq (.seq .leaf (.block (.loop ⟨.normal, [(6, .hole .bool),(7, .hole .bool),(8, .hole (.int .i64))], [.arr 3 (.int .i64)]⟩ [⟨(.exit 0), [(6, .hole .bool),(7, .hole .bool)], [.arr 3 (.int
 .i64)]⟩] (.seq (.seq .leaf (.cond .leaf .leaf)) (.seq (.block (.seq .leaf (.block (.seq .leaf (.cond .leaf (.seq .leaf (.cond .leaf .leaf))))))) .leaf))))) (.seq .leaf .leaf))))
noncomputable def Lz.f128F:Int×Int×List Int→Option (Bool×Bool×List Int):=fun(x:Int×Int×List Int)=>Option.bind (iter (fun(s1:Bool×Bool×Int×List Int)=>if decide (s1.2.2.1<zgn x.2.1 (x.2.2.length:Int))=
 true then if(0:Int)≤s1.2.2.1∧s1.2.2.1<(s1.2.2.2.length:Int) then Option.bind (Lz.f131F (List.getD s1.2.2.2 (Int.toNat s1.2.2.1) (0:Int))) fun v2=>if(v2==(0:Int))=true then some (Sum.inl (true,s1.2.1,IntKind.i64.wrap
 (s1.2.2.1+(1:Int)),s1.2.2.2)) else if(v2==(1:Int))=true then some (Sum.inl (s1.1,true,IntKind.i64.wrap (s1.2.2.1+(1:Int)),s1.2.2.2)) else some (Sum.inl (s1.1,s1.2.1,IntKind.i64.wrap (s1.2.2.1+(1:Int)),s1.2.2.2))
 else none else some (Sum.inr (s1.1,s1.2.1,s1.2.2.2))) (false,false,zlr (0:Int) x.1,x.2.2)) fun(v1:Bool×Bool×List Int)=>some (v1.1,v1.2.1,v1.2.2)
theorem Lz.f128eq: ∀ x,zl Lz.C Lz.f128Γ Lz.f128sig Lz.f128ann Go.Proofs.Tryz.f128 x=Lz.f128F x:=by
 intro x
 kernel_rfl
noncomputable def Lz.f128con:Con:=⟨128,Lz.f128sig,Lz.f128F⟩
theorem Lz.f128ok:Con.Ok Go.Proofs.Tryz.prog Lz.C Lz.f128con:=
 zb (Γ:=Lz.f128Γ) (an:=Lz.f128ann) ⟨Lz.Cok,(List.forall_mem_cons.2 ⟨Lz.f131ok,(fun _ h=>nomatch h)⟩),Lz.mixed⟩ Go.Proofs.Tryz.func128 rfl rfl (fun x y h=>(Lz.f128eq x).trans h) (by decide)
def Lz.f129sig:Sig:=⟨⟨[.ro (.st (.pair (.sl (.int .i64)) (.pair (.sl (.int .i64)) (.pair (.int .i64) (.int .i64))))), .hole (.int .i64)], []⟩,⟨[.hole (.int .i64)], []⟩⟩
noncomputable def Lz.f129Γ:List Con:= [Lz.f131con]
def Lz.f129ann:Ann:=(.seq .leaf (.seq (.seq .leaf (.block (.loop ⟨.normal, [(1, .hole (.int .i64))], []⟩ [⟨(.exit 0), [], []⟩,⟨.ret, [(4, .hole (.int .i64))], []⟩] (.seq (.seq .leaf (.cond .leaf .leaf)) (.seq (.block (.seq .leaf (.seq
 .leaf (.cond (.seq .leaf .leaf) .leaf)))) .leaf))))) (.seq .leaf .leaf)))
noncomputable def Lz.f129F:(List Int×List Int×Int×Int)×Int→Option (Int):=fun(x:(List Int×List Int×Int×Int)×Int)=>Option.bind (iter (fun(s1:Int)=>if decide (s1≥(0:Int))=true then if(0:Int)≤s1∧s1<
 (x.1.1.length:Int) then Option.bind (Lz.f131F (List.getD x.1.1 (Int.toNat s1) (0:Int))) fun v2=>if(v2 !=(-1:Int))=true then some (Sum.inr (Sum.inr v2)) else some (Sum.inl (IntKind.i64.wrap (s1 - (1:Int)))) else none else some
 (Sum.inr (Sum.inl ()))) (IntKind.i64.wrap (x.2 - (1:Int)))) fun v1=>Sum.elim (fun(p2:PUnit)=>some x.1.2.2.2) (fun(q2:Int)=>some q2) v1
theorem Lz.f129eq: ∀ x,zl Lz.C Lz.f129Γ Lz.f129sig Lz.f129ann Go.Proofs.Tryz.f129 x=Lz.f129F x:=by
 intro x
 kernel_rfl
noncomputable def Lz.f129con:Con:=⟨129,Lz.f129sig,Lz.f129F⟩
theorem Lz.f129ok:Con.Ok Go.Proofs.Tryz.prog Lz.C Lz.f129con:=
 zb (Γ:=Lz.f129Γ) (an:=Lz.f129ann) ⟨Lz.Cok,(List.forall_mem_cons.2 ⟨Lz.f131ok,(fun _ h=>nomatch h)⟩),Lz.mixed⟩ Go.Proofs.Tryz.func129 rfl rfl (fun x y h=>(Lz.f129eq x).trans h) (by decide)
def Lz.f84sig:Sig:=⟨⟨[.ptr 0 0, .hole (.arr 2 (.int .i64))], [.cells [.own 1, .hole (.sl (.int .i64)), .hole (.int .i64), .hole (.int .i64)], .arr 3 (.int .i64)]⟩,⟨[.hole (.int .i64)], [.cells [.own 2, .hole (.sl (.int .i64)), .hole
 (.int .i64), .hole (.int .i64)], .gone, .arr 3 (.int .i64)]⟩⟩
noncomputable def Lz.f84Γ:List Con:= [Lz.f128con,Lz.f129con]
def Lz.f84ann:Ann:=(.seq .leaf (.seq (.eff 3 [] [0,1,3,7,0,16,48,0,128,511,1023,2047,2047,4095,16383]) (.seq (.block (.seq (.join [⟨.normal, [(20, .hole .bool)], [.cells [.own 1, .hole (.sl (.int .i64)), .hole (.int .i64),
 .hole (.int .i64)], .arr 3 (.int .i64), .cells [.hole (.int .i64), .hole (.int .i64)]]⟩] .leaf) (.cond (.seq .leaf .leaf) (.seq (.join [⟨.normal, [(27, .hole .bool)], [.cells [.own 1, .hole (.sl (.int .i64)), .hole (.int .i64), .hole (.int
 .i64)], .arr 3 (.int .i64), .cells [.hole (.int .i64), .hole (.int .i64)]]⟩] (.seq (.join [⟨.normal, [(27, .hole .bool)], [.cells [.own 1, .hole (.sl (.int .i64)), .hole (.int .i64), .hole (.int .i64)], .arr 3 (.int .i64), .cells [.hole
 (.int .i64), .hole (.int .i64)]]⟩] .leaf) (.cond .leaf .leaf))) (.cond (.seq .leaf .leaf) .leaf))))) (.seq .leaf .leaf))))
noncomputable def Lz.f84F:List Int×List Int×Int×Int×List Int→Option (Int×List Int×Int×Int×List Int):=fun(x:List Int×List Int×Int×Int×List Int)=>if(0:Int)≤(0:Int)∧(0:Int)<(↑(2:Nat):Int)
 then if(0:Int)≤(1:Int)∧(1:Int)<(↑(2:Nat):Int) then Option.bind (Lz.f128F (IntKind.i64.wrap (List.getD x.1 (nat_lit 0) (0:Int)+(1:Int)),List.getD x.1 (nat_lit 1) (0:Int),x.2.2.2.2)) fun(v1:Bool×Bool×List
 Int)=>Option.bind (if(!v1.1)=true then some (!v1.2.1,x.2.1,x.2.2.1,x.2.2.2.1,v1.2.2,List.getD x.1 (nat_lit 0) (0:Int),List.getD x.1 (nat_lit 1) (0:Int)) else some (false,x.2.1,x.2.2.1,x.2.2.2.1,v1.2.2,List.getD x.1
 (nat_lit 0) (0:Int),List.getD x.1 (nat_lit 1) (0:Int))) fun(v2:Bool×List Int×Int×Int×List Int×Int×Int)=>if v2.1=true then some ((-1:Int),v2.2.1,v2.2.2.1,v2.2.2.2.1,v2.2.2.2.2.1) else Option.bind (Option.bind
 (if v1.1=true then some (v2.2.2.1==(0:Int),v2.2.1,v2.2.2.1,v2.2.2.2.1,v2.2.2.2.2.1,v2.2.2.2.2.2.1,v2.2.2.2.2.2.2) else some (false,v2.2.1,v2.2.2.1,v2.2.2.2.1,v2.2.2.2.2.1,v2.2.2.2.2.2.1,v2.2.2.2.2.2.2)) fun(v3:Bool×
 List Int×Int×Int×List Int×Int×Int)=>if v3.1=true then some (true,v3.2.1,v3.2.2.1,v3.2.2.2.1,v3.2.2.2.2.1,v3.2.2.2.2.2.1,v3.2.2.2.2.2.2) else if v1.2.1=true then some (v3.2.2.1==(1:Int),v3.2.1,v3.2.2.1,
 v3.2.2.2.1,v3.2.2.2.2.1,v3.2.2.2.2.2.1,v3.2.2.2.2.2.2) else some (false,v3.2.1,v3.2.2.1,v3.2.2.2.1,v3.2.2.2.2.1,v3.2.2.2.2.2.1,v3.2.2.2.2.2.2)) fun(v3:Bool×List Int×Int×Int×List Int×Int×Int)=>if v3.1=true then
 some (v3.2.2.1,v3.2.1,v3.2.2.1,v3.2.2.2.1,v3.2.2.2.2.1) else if(0:Int)≤(0:Int)∧(0:Int)<(↑(2:Nat):Int) then Option.bind (Lz.f129F ((v3.2.2.2.2.1,v3.2.1,v3.2.2.1,v3.2.2.2.1),v3.2.2.2.2.2.1)) fun v4=>some (v4,
 v3.2.1,v3.2.2.1,v3.2.2.2.1,v3.2.2.2.2.1) else none else none else none
theorem Lz.f84eq: ∀ x,zl Lz.C Lz.f84Γ Lz.f84sig Lz.f84ann Go.Proofs.Tryz.f84 x=Lz.f84F x:=by
 intro x
 kernel_rfl
noncomputable def Lz.f84con:Con:=⟨84,Lz.f84sig,Lz.f84F⟩
theorem Lz.f84ok:Con.Ok Go.Proofs.Tryz.prog Lz.C Lz.f84con:=
 zb (Γ:=Lz.f84Γ) (an:=Lz.f84ann) ⟨Lz.Cok,(List.forall_mem_cons.2 ⟨Lz.f128ok,(List.forall_mem_cons.2 ⟨Lz.f129ok,(fun _ h=>nomatch h)⟩)⟩),Lz.mixed⟩ Go.Proofs.Tryz.func84 rfl rfl (fun x y h=>(Lz.f84eq x).trans h) (by decide)
def Lz.f85sig:Sig:=⟨⟨[.ptr 0 0, .hole (.int .i64), .hole (.int .i64)], [.cells [.own 1, .hole (.sl (.int .i64)), .hole (.int .i64), .hole (.int .i64)], .arr 3 (.int .i64)]⟩,⟨[], [.cells [.own 2, .hole (.sl (.int .i64)), .hole (.int
 .i64), .hole (.int .i64)], .gone, .arr 3 (.int .i64)]⟩⟩
noncomputable def Lz.f85Γ:List Con:= []
def Lz.f85ann:Ann:=(.seq .leaf (.seq .leaf (.block (.loop ⟨.normal, [(1, .hole (.int .i64))], [.cells [.own 1, .hole (.sl (.int .i64)), .hole (.int .i64), .hole (.int .i64)], .arr 3 (.int .i64)]⟩ [⟨(.exit 0), [], [.cells [.own 1, .hole
 (.sl (.int .i64)), .hole (.int .i64), .hole (.int .i64)], .arr 3 (.int .i64)]⟩] (.seq (.seq (.join [⟨.normal, [(31, .hole .bool)], [.cells [.own 1, .hole (.sl (.int .i64)), .hole (.int .i64), .hole (.int .i64)], .arr 3 (.int .i64)]⟩] .leaf)
 (.cond .leaf .leaf)) (.seq (.block .leaf) .leaf))))))
noncomputable def Lz.f85F:Int×Int×List Int×Int×Int×List Int→Option (List Int×Int×Int×List Int):=fun(x:Int×Int×List Int×Int×Int×List Int)=>if(0:Int)≤x.1∧x.1<(x.2.2.2.2.2.length:Int) then
 Option.bind (iter (fun(s1:Int×List Int×Int×Int×List Int)=>Option.bind (if decide (s1.1<(s1.2.2.2.2.length:Int))=true then if(0:Int)≤s1.1∧s1.1<(s1.2.1.length:Int) then some (List.getD s1.2.1 (Int.toNat s1.1) (0
 :Int)==(8:Int),s1.2.1,s1.2.2.1,s1.2.2.2.1,s1.2.2.2.2) else none else some (false,s1.2.1,s1.2.2.1,s1.2.2.2.1,s1.2.2.2.2)) fun(v2:Bool×List Int×Int×Int×List Int)=>if v2.1=true then if(0:Int)≤s1.1∧s1.1<
 (v2.2.2.2.2.length:Int) then some (Sum.inl (IntKind.i64.wrap (s1.1+(1:Int)),v2.2.1,v2.2.2.1,v2.2.2.2.1,List.set v2.2.2.2.2 (Int.toNat s1.1) x.2.1)) else none else some (Sum.inr (v2.2.1,v2.2.2.1,v2.2.2.2.1,v2.2.2.2.2)))
 (IntKind.i64.wrap (x.1+(1:Int)),x.2.2.1,x.2.2.2.1,x.2.2.2.2.1,List.set x.2.2.2.2.2 (Int.toNat x.1) x.2.1)) fun(v1:List Int×Int×Int×List Int)=>some (v1.1,v1.2.1,v1.2.2.1,v1.2.2.2) else none
theorem Lz.f85eq: ∀ x,zl Lz.C Lz.f85Γ Lz.f85sig Lz.f85ann Go.Proofs.Tryz.f85 x=Lz.f85F x:=by
 intro x
 kernel_rfl
noncomputable def Lz.f85con:Con:=⟨85,Lz.f85sig,Lz.f85F⟩
theorem Lz.f85ok:Con.Ok Go.Proofs.Tryz.prog Lz.C Lz.f85con:=
 zb (Γ:=Lz.f85Γ) (an:=Lz.f85ann) ⟨Lz.Cok,(fun _ h=>nomatch h),Lz.mixed⟩ Go.Proofs.Tryz.func85 rfl rfl (fun x y h=>(Lz.f85eq x).trans h) (by decide)
def Lz.f51sig:Sig:=⟨⟨[.hole (.sl (.int .i64)), .hole (.sl (.int .i64)), .hole (.sl (.int .i64)), .hole (.int .i64), .hole (.int .i64)], []⟩,⟨[.hole (.sl (.int .i64))], []⟩⟩
noncomputable def Lz.f51Γ:List Con:= [Lz.f24con,Lz.f79con,Lz.f83con,Lz.f84con,Lz.f85con]
def Lz.f51ann:Ann:=(.seq .leaf (.seq .leaf (.seq (.seq (.join [⟨.normal, [(33, .hole .bool)], [.arr 3 (.int .i64), .cells [.own 0, .hole (.sl (.int .i64)), .hole (.int .i64), .hole (.int .i64)]]⟩] .leaf) (.cond (.seq .leaf .leaf)
 .leaf)) (.seq (.join [⟨.normal, [], [.arr 3 (.int .i64), .cells [.own 0, .hole (.sl (.int .i64)), .hole (.int .i64), .hole (.int .i64)]]⟩] (.seq .leaf (.cond .leaf .leaf))) (.seq (.seq .leaf (.block (.loop ⟨.normal, [(47, .hole (.int
 .i64))], [.gone, .cells [.own 2, .hole (.sl (.int .i64)), .hole (.int .i64), .hole (.int .i64)], .arr 3 (.int .i64)]⟩ [⟨(.exit 0), [], [.gone, .cells [.own 2, .hole (.sl (.int .i64)), .hole (.int .i64), .hole (.int .i64)], .arr 3 (.int
 .i64)]⟩] (.seq .leaf (.seq (.cond .leaf .leaf) (.seq (.block (.seq .leaf (.seq .leaf (.seq .leaf (.cond (.seq .leaf .leaf) .leaf))))) .leaf)))))) (.seq .leaf .leaf))))))
noncomputable def Lz.f51F:List Int×List Int×List Int×Int×Int→Option (List Int):=fun(x:List Int×List Int×List Int×Int×Int)=>Option.bind (Lz.f24F x.2.1) fun(v1:List Int)=>Option.bind (Lz.f79F x.2.2.2.1) fun v2
 =>Option.bind (if((x.1.length:Int)!=(x.2.1.length:Int))=true then some (true,v1,x.2.2.1,v2,(0:Int)) else some ((x.2.2.1.length:Int)!=(x.2.1.length:Int),v1,x.2.2.1,v2,(0:Int))) fun(v3:Bool×List Int×List Int
 ×Int×Int)=>if v3.1=true then some v3.2.1 else Option.bind (if(x.2.2.2.2==(1:Int))=true then some (v3.2.1,v3.2.2.1,v3.2.2.2.1,(1:Int)) else some (v3.2.1,v3.2.2.1,v3.2.2.2.1,v3.2.2.2.2)) fun(v4:List Int×List Int×
 Int×Int)=>Option.bind (Lz.f83F (x.1,x.2.1)) fun(v5:List (List Int))=>Option.bind (iter (fun(s6:Int×List Int×Int×Int×List Int)=>if decide (s6.1<(v5.length:Int))=true then if(0:Int)≤s6.1∧s6.1<(v5.length:
 Int) then Option.bind (Lz.f84F ([List.getD (List.getD v5 (Int.toNat s6.1) (List.replicate (2:Nat) (0:Int))) (nat_lit 0) (0:Int),List.getD (List.getD v5 (Int.toNat s6.1) (List.replicate (2:Nat) (0:Int))) (nat_lit 1) (0:Int)],
 s6.2.1,s6.2.2.1,s6.2.2.2.1,s6.2.2.2.2)) fun(v7:Int×List Int×Int×Int×List Int)=>if(v7.1 !=(-1:Int))=true then if(0:Int)≤(0:Int)∧(0:Int)<(↑(2:Nat):Int) then Option.bind (Lz.f85F (List.getD (List.getD v5
 (Int.toNat s6.1) (List.replicate (2:Nat) (0:Int))) (nat_lit 0) (0:Int),v7.1,v7.2.1,v7.2.2.1,v7.2.2.2.1,v7.2.2.2.2)) fun(v8:List Int×Int×Int×List Int)=>if(0:Int)≤(1:Int)∧(1:Int)<(↑(2:Nat):Int) then
 Option.bind (Lz.f85F (List.getD (List.getD v5 (Int.toNat s6.1) (List.replicate (2:Nat) (0:Int))) (nat_lit 1) (0:Int),v7.1,v8.1,v8.2.1,v8.2.2.1,v8.2.2.2)) fun(v9:List Int×Int×Int×List Int)=>some (Sum.inl
 (IntKind.i64.wrap (s6.1+(1:Int)),v9.1,v9.2.1,v9.2.2.1,v9.2.2.2)) else none else none else some (Sum.inl (IntKind.i64.wrap (s6.1+(1:Int)),v7.2.1,v7.2.2.1,v7.2.2.2.1,v7.2.2.2.2)) else none else some (Sum.inr (s6.2.1,s6.2.2.1,
 s6.2.2.2.1,s6.2.2.2.2))) ((0:Int),v4.2.1,v4.2.2.1,v4.2.2.2,v4.1)) fun(v6:List Int×Int×Int×List Int)=>some v6.2.2.2
theorem Lz.f51eq: ∀ x,zl Lz.C Lz.f51Γ Lz.f51sig Lz.f51ann Go.Proofs.Tryz.f51 x=Lz.f51F x:=by
 intro x
 kernel_rfl
noncomputable def Lz.f51con:Con:=⟨51,Lz.f51sig,Lz.f51F⟩
theorem Lz.f51ok:Con.Ok Go.Proofs.Tryz.prog Lz.C Lz.f51con:=
 zb (Γ:=Lz.f51Γ) (an:=Lz.f51ann) ⟨Lz.Cok,(List.forall_mem_cons.2 ⟨Lz.f24ok,(List.forall_mem_cons.2 ⟨Lz.f79ok,(List.forall_mem_cons.2 ⟨Lz.f83ok,(List.forall_mem_cons.2 ⟨Lz.f84ok,(List.forall_mem_cons.2 ⟨Lz.f85ok,(fun _ h=>nomatch h)⟩)⟩)⟩)⟩)⟩),Lz.mixed⟩ Go.Proofs.Tryz.func51 rfl rfl (fun x y h=>(Lz.f51eq x).trans h) (by decide)
def Lz.f130sig:Sig:=⟨⟨[.hole (.int .i64)], []⟩,⟨[.hole .bool], []⟩⟩
noncomputable def Lz.f130Γ:List Con:= [Lz.f77con,Lz.f76con]
def Lz.f130ann:Ann:=(.seq .leaf (.seq .leaf .leaf))
noncomputable def Lz.f130F:Int→Option (Bool):=fun(x:Int)=>Option.bind (Lz.f77F [(10:Int),(11:Int),(12:Int),(13:Int),(19:Int),(20:Int),(21:Int),(22:Int)]) fun v1=>Option.bind (Lz.f76F (x,v1)) fun v2=>
 some v2
theorem Lz.f130eq: ∀ x,zl Lz.C Lz.f130Γ Lz.f130sig Lz.f130ann Go.Proofs.Tryz.f130 x=Lz.f130F x:=by
 intro x
 kernel_rfl
noncomputable def Lz.f130con:Con:=⟨130,Lz.f130sig,Lz.f130F⟩
theorem Lz.f130ok:Con.Ok Go.Proofs.Tryz.prog Lz.C Lz.f130con:=
 zb (Γ:=Lz.f130Γ) (an:=Lz.f130ann) ⟨Lz.Cok,(List.forall_mem_cons.2 ⟨Lz.f77ok,(List.forall_mem_cons.2 ⟨Lz.f76ok,(fun _ h=>nomatch h)⟩)⟩),Lz.mixed⟩ Go.Proofs.Tryz.func130 rfl rfl (fun x y h=>(Lz.f130eq x).trans h) (by decide)
def Lz.f86sig:Sig:=⟨⟨[.hole (.sl (.int .i64))], []⟩,⟨[.hole (.sl (.arr 2 (.int .i64)))], []⟩⟩
noncomputable def Lz.f86Γ:List Con:= [Lz.f130con]
def Lz.f86ann:Ann:=(.seq .leaf (.seq .leaf (.seq (.seq .leaf (.block (.loop ⟨.normal, [(3, .own 0),(4, .hole (.int .i64))], [.arr 82 (.arr 2 (.int .i64))]⟩ [⟨(.exit 0), [(3, .own 0)], [.arr 82 (.arr 2 (.int .i64))]⟩] (.seq (.seq .leaf
 (.cond .leaf .leaf)) (.seq (.block (.seq .leaf (.seq (.block (.loop ⟨.normal, [(5, .hole (.int .i64))], [.arr 82 (.arr 2 (.int .i64))]⟩ [⟨(.exit 2), [(5, .hole (.int .i64))], [.arr 82 (.arr 2 (.int .i64))]⟩] (.seq (.seq (.join [⟨.normal,
 [(23, .hole .bool)], [.arr 82 (.arr 2 (.int .i64))]⟩] .leaf) (.cond .leaf .leaf)) (.block .leaf)))) (.seq .leaf (.cond (.seq .leaf .leaf) .leaf))))) .leaf))))) (.seq .leaf .leaf))))
noncomputable def Lz.f86F:List Int→Option (List (List Int)):=fun(x:List Int)=>Option.bind (iter (fun(s1:Int×List (List Int))=>if decide (s1.1<(x.length:Int))=true then Option.bind (iter (fun(s2:Int×List (List
 Int))=>Option.bind (if decide (s2.1<(x.length:Int))=true then if(0:Int)≤s2.1∧s2.1<(x.length:Int) then Option.bind (Lz.f130F (List.getD x (Int.toNat s2.1) (0:Int))) fun v3=>some (v3,s2.2) else none else some (false,
 s2.2)) fun(v3:Bool×List (List Int))=>if v3.1=true then some (Sum.inl (IntKind.i64.wrap (s2.1+(1:Int)),v3.2)) else some (Sum.inr (s2.1,v3.2))) (s1.1,s1.2)) fun(v2:Int×List (List Int))=>if decide (v2.1 > s1.1)=true
 then if zj (List.length v2.2+(1:Nat)) (16:Nat) then some (Sum.inl (IntKind.i64.wrap (v2.1+(1:Int)),v2.2++ [[s1.1,v2.1]])) else none else some (Sum.inl (IntKind.i64.wrap (s1.1+(1:Int)),v2.2)) else some (Sum.inr s1.2))
 ((0:Int), [])) fun(v1:List (List Int))=>some v1
theorem Lz.f86eq: ∀ x,zl Lz.C Lz.f86Γ Lz.f86sig Lz.f86ann Go.Proofs.Tryz.f86 x=Lz.f86F x:=by
 intro x
 kernel_rfl
noncomputable def Lz.f86con:Con:=⟨86,Lz.f86sig,Lz.f86F⟩
theorem Lz.f86ok:Con.Ok Go.Proofs.Tryz.prog Lz.C Lz.f86con:=
 zb (Γ:=Lz.f86Γ) (an:=Lz.f86ann) ⟨Lz.Cok,(List.forall_mem_cons.2 ⟨Lz.f130ok,(fun _ h=>nomatch h)⟩),Lz.mixed⟩ Go.Proofs.Tryz.func86 rfl rfl (fun x y h=>(Lz.f86eq x).trans h) (by decide)
def Lz.f87sig:Sig:=⟨⟨[.hole (.sl (.int .i64)), .hole (.int .i64), .hole (.int .i64), .hole (.int .i64)], []⟩,⟨[.hole (.int .i64)], []⟩⟩
noncomputable def Lz.f87Γ:List Con:= [Lz.f131con,Lz.f79con]
def Lz.f87ann:Ann:=(.seq .leaf (.seq (.seq (.join [⟨.normal, [(17, .hole .bool)], []⟩] .leaf) (.cond (.seq (.seq .leaf (.cond (.seq .leaf .leaf) .leaf)) (.seq .leaf .leaf)) .leaf)) (.seq (.seq .leaf (.seq .leaf (.cond (.seq .leaf .leaf)
 .leaf))) (.seq .leaf .leaf))))
noncomputable def Lz.f87F:List Int×Int×Int×Int→Option (Int):=fun(x:List Int×Int×Int×Int)=>Option.bind (if decide (x.2.1<(0:Int))=true then some true else some (decide (x.2.1≥(x.1.length:Int)))) fun v1=>if
 v1=true then if(x.2.2.2==(1:Int))=true then some (1:Int) else some (0:Int) else if(0:Int)≤x.2.1∧x.2.1<(x.1.length:Int) then Option.bind (Lz.f131F (List.getD x.1 (Int.toNat x.2.1) (0:Int))) fun v2=>if decide (v2≥
 (0:Int))=true then some v2 else Option.bind (Lz.f79F x.2.2.1) fun v3=>some v3 else none
theorem Lz.f87eq: ∀ x,zl Lz.C Lz.f87Γ Lz.f87sig Lz.f87ann Go.Proofs.Tryz.f87 x=Lz.f87F x:=by
 intro x
 kernel_rfl
noncomputable def Lz.f87con:Con:=⟨87,Lz.f87sig,Lz.f87F⟩
theorem Lz.f87ok:Con.Ok Go.Proofs.Tryz.prog Lz.C Lz.f87con:=
 zb (Γ:=Lz.f87Γ) (an:=Lz.f87ann) ⟨Lz.Cok,(List.forall_mem_cons.2 ⟨Lz.f131ok,(List.forall_mem_cons.2 ⟨Lz.f79ok,(fun _ h=>nomatch h)⟩)⟩),Lz.mixed⟩ Go.Proofs.Tryz.func87 rfl rfl (fun x y h=>(Lz.f87eq x).trans h) (by decide)
def Lz.f52sig:Sig:=⟨⟨[.hole (.sl (.int .i64)), .hole (.int .i64), .hole (.int .i64), .hole (.int .i64)], []⟩,⟨[.hole (.sl (.int .i64))], []⟩⟩
noncomputable def Lz.f52Γ:List Con:= [Lz.f24con,Lz.f86con,Lz.f79con,Lz.f87con]
def Lz.f52ann:Ann:=(.seq .leaf (.seq .leaf (.seq (.seq .leaf (.block (.loop ⟨.normal, [(20, .hole (.int .i64))], [.arr 3 (.int .i64)]⟩ [⟨(.exit 0), [], [.arr 3 (.int .i64)]⟩] (.seq .leaf (.seq (.cond .leaf .leaf) (.seq (.block (.seq
 .leaf (.seq .leaf (.seq (.join [⟨.normal, [(12, .hole (.int .i64))], [.arr 3 (.int .i64), .cells [.hole (.int .i64), .hole (.int .i64)]]⟩] (.seq .leaf (.seq .leaf (.cond .leaf .leaf)))) (.seq .leaf (.block (.loop ⟨.normal, [(14, .hole (.int
 .i64))], [.arr 3 (.int .i64), .cells [.hole (.int .i64), .hole (.int .i64)]]⟩ [⟨(.exit 2), [], [.arr 3 (.int .i64), .gone]⟩] (.seq (.seq .leaf (.cond .leaf .leaf)) (.seq (.block .leaf) .leaf))))))))) .leaf)))))) (.seq .leaf .leaf))))
noncomputable def Lz.f52F:List Int×Int×Int×Int→Option (List Int):=fun(x:List Int×Int×Int×Int)=>Option.bind (Lz.f24F x.1) fun(v1:List Int)=>Option.bind (Lz.f86F x.1) fun(v2:List (List Int))=>Option.bind (iter
 (fun(s3:Int×List Int)=>if decide (s3.1<(v2.length:Int))=true then if(0:Int)≤s3.1∧s3.1<(v2.length:Int) then Option.bind (Lz.f79F x.2.1) fun v4=>Option.bind (if(0:Int)≤(0:Int)∧(0:Int)<(↑(2:Nat):Int)
 then Option.bind (Lz.f87F (x.1,IntKind.i64.wrap (List.getD (List.getD v2 (Int.toNat s3.1) (List.replicate (2:Nat) (0:Int))) (nat_lit 0) (0:Int) - (1:Int)),x.2.1,x.2.2.1)) fun v5=>if(0:Int)≤(1:Int)∧(1:Int)<(↑(2:
 Nat):Int) then Option.bind (Lz.f87F (x.1,List.getD (List.getD v2 (Int.toNat s3.1) (List.replicate (2:Nat) (0:Int))) (nat_lit 1) (0:Int),x.2.1,x.2.2.2)) fun v6=>if(v5==v6)=true then some (v5,s3.2,List.getD (List.getD v2
 (Int.toNat s3.1) (List.replicate (2:Nat) (0:Int))) (nat_lit 0) (0:Int),List.getD (List.getD v2 (Int.toNat s3.1) (List.replicate (2:Nat) (0:Int))) (nat_lit 1) (0:Int)) else some (v4,s3.2,List.getD (List.getD v2 (Int.toNat
 s3.1) (List.replicate (2:Nat) (0:Int))) (nat_lit 0) (0:Int),List.getD (List.getD v2 (Int.toNat s3.1) (List.replicate (2:Nat) (0:Int))) (nat_lit 1) (0:Int)) else none else none) fun(v5:Int×List Int×Int×Int)=>if(0:
 Int)≤(0:Int)∧(0:Int)<(↑(2:Nat):Int) then Option.bind (iter (fun(s6:Int×List Int×Int×Int)=>if(0:Int)≤(1:Int)∧(1:Int)<(↑(2:Nat):Int) then if decide (s6.1<s6.2.2.2)=true then if(0:Int)≤s6.1∧
 s6.1<(s6.2.1.length:Int) then some (Sum.inl (IntKind.i64.wrap (s6.1+(1:Int)),List.set s6.2.1 (Int.toNat s6.1) v5.1,s6.2.2.1,s6.2.2.2)) else none else some (Sum.inr s6.2.1) else none) (v5.2.2.1,v5.2.1,v5.2.2.1,v5.2.2.2)) fun
 (v6:List Int)=>some (Sum.inl (IntKind.i64.wrap (s3.1+(1:Int)),v6)) else none else none else some (Sum.inr s3.2)) ((0:Int),v1)) fun(v3:List Int)=>some v3
theorem Lz.f52eq: ∀ x,zl Lz.C Lz.f52Γ Lz.f52sig Lz.f52ann Go.Proofs.Tryz.f52 x=Lz.f52F x:=by
 intro x
 kernel_rfl
noncomputable def Lz.f52con:Con:=⟨52,Lz.f52sig,Lz.f52F⟩
theorem Lz.f52ok:Con.Ok Go.Proofs.Tryz.prog Lz.C Lz.f52con:=
 zb (Γ:=Lz.f52Γ) (an:=Lz.f52ann) ⟨Lz.Cok,(List.forall_mem_cons.2 ⟨Lz.f24ok,(List.forall_mem_cons.2 ⟨Lz.f86ok,(List.forall_mem_cons.2 ⟨Lz.f79ok,(List.forall_mem_cons.2 ⟨Lz.f87ok,(fun _ h=>nomatch h)⟩)⟩)⟩)⟩),Lz.mixed⟩ Go.Proofs.Tryz.func52 rfl rfl (fun x y h=>(Lz.f52eq x).trans h) (by decide)
def Lz.f88sig:Sig:=⟨⟨[.hole (.int .i64), .hole (.int .i64)], []⟩,⟨[.hole (.int .i64)], []⟩⟩
noncomputable def Lz.f88Γ:List Con:= []
def Lz.f88ann:Ann:=(.seq .leaf (.seq .leaf (.seq (.seq .leaf (.block (.seq .leaf (.cond (.seq .leaf .leaf) (.seq .leaf (.cond (.seq .leaf .leaf) (.seq (.join [⟨.normal, [(20, .hole .bool)], []⟩] (.seq .leaf (.cond .leaf .leaf))) (.cond
 (.seq .leaf .leaf) .leaf)))))))) (.seq .leaf .leaf))))
noncomputable def Lz.f88F:Int×Int→Option (Int):=fun(x:Int×Int)=>if(x.1==(0:Int))=true then some (IntKind.i64.wrap (x.2+IntKind.i64.wrap (↑(BitVec.toNat (BitVec.ofInt (IntKind.bits IntKind.i64) x.2 &&& BitVec.ofInt
 (IntKind.bits IntKind.i64) (1:Int))):Int))) else if(x.1==(1:Int))=true then some (IntKind.i64.wrap (IntKind.i64.wrap (x.2+(1:Int)) - IntKind.i64.wrap (↑(BitVec.toNat (BitVec.ofInt (IntKind.bits IntKind.i64) x.2 &&&
 BitVec.ofInt (IntKind.bits IntKind.i64) (1:Int))):Int))) else Option.bind (if(x.1==(6:Int))=true then some true else some (x.1==(3:Int))) fun v1=>if v1=true then some (IntKind.i64.wrap (IntKind.i64.wrap (x.2+(2:Int))
 - IntKind.i64.wrap (↑(BitVec.toNat (BitVec.ofInt (IntKind.bits IntKind.i64) x.2 &&& BitVec.ofInt (IntKind.bits IntKind.i64) (1:Int))):Int))) else some x.2
theorem Lz.f88eq: ∀ x,zl Lz.C Lz.f88Γ Lz.f88sig Lz.f88ann Go.Proofs.Tryz.f88 x=Lz.f88F x:=by
 intro x
 kernel_rfl
noncomputable def Lz.f88con:Con:=⟨88,Lz.f88sig,Lz.f88F⟩
theorem Lz.f88ok:Con.Ok Go.Proofs.Tryz.prog Lz.C Lz.f88con:=
 zb (Γ:=Lz.f88Γ) (an:=Lz.f88ann) ⟨Lz.Cok,(fun _ h=>nomatch h),Lz.mixed⟩ Go.Proofs.Tryz.func88 rfl rfl (fun x y h=>(Lz.f88eq x).trans h) (by decide)
def Lz.f53sig:Sig:=⟨⟨[.hole (.sl (.int .i64)), .hole (.int .i64)], []⟩,⟨[.hole (.sl (.int .i64))], []⟩⟩
noncomputable def Lz.f53Γ:List Con:= [Lz.f88con]
def Lz.f53ann:Ann:=(.seq .leaf (.seq .leaf (.seq (.seq .leaf (.block (.loop ⟨.normal, [(5, .own 0),(10, .hole (.int .i64))], [.arr 3 (.int .i64)]⟩ [⟨(.exit 0), [(5, .own 0)], [.arr 3 (.int .i64)]⟩] (.seq .leaf (.seq (.cond .leaf .leaf)
 (.seq (.block (.seq .leaf .leaf)) .leaf)))))) (.seq .leaf .leaf))))
noncomputable def Lz.f53F:List Int×Int→Option (List Int):=fun(x:List Int×Int)=>Option.bind (iter (fun(s1:Int×List Int)=>if decide (s1.1<(x.1.length:Int))=true then if(0:Int)≤s1.1∧s1.1<(x.1.length:Int)
 then Option.bind (Lz.f88F (List.getD x.1 (Int.toNat s1.1) (0:Int),x.2)) fun v2=>if zj (List.length s1.2+(1:Nat)) (8:Nat) then some (Sum.inl (IntKind.i64.wrap (s1.1+(1:Int)),s1.2++ [v2])) else none else none else some
 (Sum.inr s1.2)) ((0:Int), [])) fun(v1:List Int)=>some v1
theorem Lz.f53eq: ∀ x,zl Lz.C Lz.f53Γ Lz.f53sig Lz.f53ann Go.Proofs.Tryz.f53 x=Lz.f53F x:=by
 intro x
 kernel_rfl
noncomputable def Lz.f53con:Con:=⟨53,Lz.f53sig,Lz.f53F⟩
theorem Lz.f53ok:Con.Ok Go.Proofs.Tryz.prog Lz.C Lz.f53con:=
 zb (Γ:=Lz.f53Γ) (an:=Lz.f53ann) ⟨Lz.Cok,(List.forall_mem_cons.2 ⟨Lz.f88ok,(fun _ h=>nomatch h)⟩),Lz.mixed⟩ Go.Proofs.Tryz.func53 rfl rfl (fun x y h=>(Lz.f53eq x).trans h) (by decide)
def Lz.f29sig:Sig:=⟨⟨[.ptr 0 0, .hole (.st (.pair (.sl (.int .i64)) (.pair (.int .i64) (.pair (.int .i64) (.int .i64)))))], [.cells [.hole (.sl (.int .i64)), .hole (.sl (.int .i64)), .own 1, .own 2, .hole (.int .i64)], .arr 3 (.int
 .i64), .arr 3 (.int .i64)]⟩,⟨[], [.cells [.hole (.sl (.int .i64)), .hole (.sl (.int .i64)), .own 3, .own 4, .hole (.int .i64)], .gone, .gone, .arr 3 (.int .i64), .arr 3 (.int .i64)]⟩⟩
noncomputable def Lz.f29Γ:List Con:= [Lz.s1con,Lz.f49con,Lz.f50con,Lz.f51con,Lz.f52con,Lz.f53con]
def Lz.f29ann:Ann:=(.seq .leaf (.seq (.tail 6) (.seq .leaf (.seq (.effl 4 [] [0,1,3,7,0,16,63,0,0,0,512,0,2048,8191]) (.seq .leaf (.seq .leaf (.block (.loop ⟨.normal, [(46, .hole (.int .i64))], [.cells [.hole (.sl (.int
 .i64)), .hole (.sl (.int .i64)), .own 1, .own 2, .hole (.int .i64)], .arr 3 (.int .i64), .arr 3 (.int .i64), .cells [.hole (.sl (.int .i64)), .hole (.int .i64), .hole (.int .i64), .hole (.int .i64)]]⟩ [⟨(.exit 0), [], [.cells [.hole (.sl
 (.int .i64)), .hole (.sl (.int .i64)), .own 1, .own 2, .hole (.int .i64)], .arr 3 (.int .i64), .arr 3 (.int .i64), .gone]⟩] (.seq .leaf (.seq (.cond .leaf .leaf) (.seq (.block (.seq .leaf (.eff 4 [] [0,1,3,7,0,16,0,112,240,0,512,
 1536,3584,0,8192,0,57344,122880,0,0,786432,1835008,0,4194303,12582911,33554431,67108863]))) .leaf)))))))))))
noncomputable def Lz.f29F:(List Int×Int×Int×Int)×List Int×List Int×Int×List Int×List Int→Option (List Int×List Int×Int×List Int×List Int):=fun(x:(List Int×Int×Int×Int)×List Int×List Int×Int×
 List Int×List Int)=>Option.bind (Lz.s1F (x.1.1,x.2.2.2.2.2)) fun(v1:List Int×List Int)=>Option.bind (Lz.f50F (v1.1,x.1.2.2.1)) fun(v2:List Int)=>Option.bind (Lz.f49F (x.2.1,x.1.1)) fun(v3:List Int)=>Option.bind
 (Lz.f51F (v3,v2,v1.1,x.1.2.1,x.1.2.2.1)) fun(v4:List Int)=>Option.bind (Lz.f52F (v4,x.1.2.1,x.1.2.2.1,x.1.2.2.2)) fun(v5:List Int)=>Option.bind (Lz.f53F (v5,x.1.2.1)) fun(v6:List Int)=>Option.bind (iter (fun(s7:Int
 ×List Int×List Int×Int×List Int×List Int×List Int×Int×Int×Int)=>if decide (s7.1<(v6.length:Int))=true then if(0:Int)≤s7.1∧s7.1<(v6.length:Int) then if(0:Int)≤s7.1∧s7.1<(s7.2.2.2.2.2.2.1.length:
 Int) then if(0:Int)≤s7.1∧s7.1<(s7.2.2.2.2.2.2.1.length:Int) then if(0:Int)≤s7.1∧s7.1<(v5.length:Int) then if(0:Int)≤List.getD s7.2.2.2.2.2.2.1 (Int.toNat s7.1) (0:Int)∧List.getD s7.2.2.2.2.2.2.1 (Int.toNat
 s7.1) (0:Int)<(s7.2.2.2.2.2.1.length:Int) then if(0:Int)≤List.getD s7.2.2.2.2.2.2.1 (Int.toNat s7.1) (0:Int)∧List.getD s7.2.2.2.2.2.2.1 (Int.toNat s7.1) (0:Int)<(s7.2.2.2.2.1.length:Int) then some (Sum.inl
 (IntKind.i64.wrap (s7.1+(1:Int)),s7.2.1,s7.2.2.1,s7.2.2.2.1,List.set s7.2.2.2.2.1 (Int.toNat (List.getD s7.2.2.2.2.2.2.1 (Int.toNat s7.1) (0:Int))) (List.getD v6 (Int.toNat s7.1) (0:Int)),List.set s7.2.2.2.2.2.1 (Int.toNat
 (List.getD s7.2.2.2.2.2.2.1 (Int.toNat s7.1) (0:Int))) (List.getD v5 (Int.toNat s7.1) (0:Int)),s7.2.2.2.2.2.2.1,s7.2.2.2.2.2.2.2.1,s7.2.2.2.2.2.2.2.2.1,s7.2.2.2.2.2.2.2.2.2)) else none else none else none else none else none else
 none else some (Sum.inr (s7.2.1,s7.2.2.1,s7.2.2.2.1,s7.2.2.2.2.1,s7.2.2.2.2.2.1))) ((0:Int),x.2.1,x.2.2.1,x.2.2.2.1,x.2.2.2.2.1,v1.2,x.1.1,x.1.2.1,x.1.2.2.1,x.1.2.2.2)) fun(v7:List Int×List Int×Int×List Int×List
 Int)=>some (v7.1,v7.2.1,v7.2.2.1,v7.2.2.2.1,v7.2.2.2.2)
theorem Lz.f29eq: ∀ x,zl Lz.C Lz.f29Γ Lz.f29sig Lz.f29ann Go.Proofs.Tryz.f29 x=Lz.f29F x:=by
 intro x
 kernel_rfl
noncomputable def Lz.f29con:Con:=⟨29,Lz.f29sig,Lz.f29F⟩
theorem Lz.f29ok:Con.Ok Go.Proofs.Tryz.prog Lz.C Lz.f29con:=
 zb (Γ:=Lz.f29Γ) (an:=Lz.f29ann) ⟨Lz.Cok,(List.forall_mem_cons.2 ⟨Lz.s1ok,(List.forall_mem_cons.2 ⟨Lz.f49ok,(List.forall_mem_cons.2 ⟨Lz.f50ok,(List.forall_mem_cons.2 ⟨Lz.f51ok,(List.forall_mem_cons.2 ⟨Lz.f52ok,(List.forall_mem_cons.2 ⟨Lz.f53ok,(fun _ h=>nomatch h)⟩)⟩)⟩)⟩)⟩)⟩),Lz.mixed⟩ Go.Proofs.Tryz.func29 rfl rfl (fun x y h=>(Lz.f29eq x).trans h) (by decide)
def Lz.f30sig:Sig:=⟨⟨[.ptr 0 0], [.cells [.hole (.sl (.int .i64)), .hole (.sl (.int .i64)), .own 1, .own 2, .hole (.int .i64)], .arr 3 (.int .i64), .arr 3 (.int .i64)]⟩,⟨[], [.cells [.hole (.sl (.int .i64)), .hole (.sl (.int .i64)),
 .own 3, .own 4, .hole (.int .i64)], .gone, .gone, .arr 3 (.int .i64), .arr 3 (.int .i64)]⟩⟩
noncomputable def Lz.f30Γ:List Con:= [Lz.f54con]
def Lz.f30ann:Ann:=(.seq .leaf (.seq .leaf (.block (.loop ⟨.normal, [(2, .hole (.int .i64)),(14, .hole (.int .i64))], [.cells [.hole (.sl (.int .i64)), .hole (.sl (.int .i64)), .own 1, .own 2, .hole (.int .i64)], .arr 3 (.int .i64),
 .arr 3 (.int .i64)]⟩ [⟨(.exit 0), [], [.cells [.hole (.sl (.int .i64)), .hole (.sl (.int .i64)), .own 1, .own 2, .hole (.int .i64)], .arr 3 (.int .i64), .arr 3 (.int .i64)]⟩] (.seq .leaf (.seq (.cond .leaf .leaf) (.seq (.block (.seq .leaf
 (.seq (.join [⟨.normal, [], [.cells [.hole (.sl (.int .i64)), .hole (.sl (.int .i64)), .own 1, .own 2, .hole (.int .i64)], .arr 3 (.int .i64), .arr 3 (.int .i64)]⟩] (.seq .leaf (.cond .leaf .leaf))) .leaf))) .leaf)))))))
noncomputable def Lz.f30F:List Int×List Int×Int×List Int×List Int→Option (List Int×List Int×Int×List Int×List Int):=fun(x:List Int×List Int×Int×List Int×List Int)=>Option.bind (iter (fun(s1:Int×Int×
 List Int×List Int×Int×List Int×List Int)=>if decide (s1.2.1<(x.2.1.length:Int))=true then if(0:Int)≤s1.2.1∧s1.2.1<(x.2.1.length:Int) then Option.bind (Option.bind (Lz.f54F (List.getD x.2.1 (Int.toNat s1.2.1) (0:
 Int))) fun v2=>if v2=true then if(0:Int)≤s1.2.1∧s1.2.1<(s1.2.2.2.2.2.1.length:Int) then some (s1.2.2.1,s1.2.2.2.1,s1.2.2.2.2.1,List.set s1.2.2.2.2.2.1 (Int.toNat s1.2.1) s1.1,s1.2.2.2.2.2.2) else none else some (s1.2.2.1,
 s1.2.2.2.1,s1.2.2.2.2.1,s1.2.2.2.2.2.1,s1.2.2.2.2.2.2)) fun(v2:List Int×List Int×Int×List Int×List Int)=>if(0:Int)≤s1.2.1∧s1.2.1<(v2.2.2.2.1.length:Int) then some (Sum.inl (List.getD v2.2.2.2.1 (Int.toNat s1.2.1)
 (0:Int),IntKind.i64.wrap (s1.2.1+(1:Int)),v2.1,v2.2.1,v2.2.2.1,v2.2.2.2.1,v2.2.2.2.2)) else none else none else some (Sum.inr (s1.2.2.1,s1.2.2.2.1,s1.2.2.2.2.1,s1.2.2.2.2.2.1,s1.2.2.2.2.2.2))) (x.2.2.1,(0:Int),x.1,
 x.2.1,x.2.2.1,x.2.2.2.1,x.2.2.2.2)) fun(v1:List Int×List Int×Int×List Int×List Int)=>some (v1.1,v1.2.1,v1.2.2.1,v1.2.2.2.1,v1.2.2.2.2)
theorem Lz.f30eq: ∀ x,zl Lz.C Lz.f30Γ Lz.f30sig Lz.f30ann Go.Proofs.Tryz.f30 x=Lz.f30F x:=by
 intro x
 kernel_rfl
noncomputable def Lz.f30con:Con:=⟨30,Lz.f30sig,Lz.f30F⟩
theorem Lz.f30ok:Con.Ok Go.Proofs.Tryz.prog Lz.C Lz.f30con:=
 zb (Γ:=Lz.f30Γ) (an:=Lz.f30ann) ⟨Lz.Cok,(List.forall_mem_cons.2 ⟨Lz.f54ok,(fun _ h=>nomatch h)⟩),Lz.mixed⟩ Go.Proofs.Tryz.func30 rfl rfl (fun x y h=>(Lz.f30eq x).trans h) (by decide)
def Lz.f19sig:Sig:=⟨⟨[.hole (.sl (.int .i64)), .hole (.int .i64)], []⟩,⟨[.ptr 0 0], [.cells [.hole (.sl (.int .i64)), .hole (.sl (.int .i64)), .own 1, .own 2, .hole (.int .i64)], .arr 3 (.int .i64), .arr 3 (.int .i64)]⟩⟩
noncomputable def Lz.f19Γ:List Con:= [Lz.f25con,Lz.f26con,Lz.f27con,Lz.s0con,Lz.f28con,Lz.f29con,Lz.f30con]
def Lz.f19ann:Ann:=(.seq .leaf (.seq .leaf (.seq .leaf (.seq (.eff 3 [] [0,0,0,4,12,28,0,64,192,448,1020,2044,4092,4092,8189,24573,57341,131071,262143,524287]) (.seq (.seq (.eff 4 [] [0,1,3,7,0,16,48,112,240,
 0,512,1536,3584,8191,16383,0]) (.block (.loop ⟨.normal, [(55, .hole (.int .i64))], [.cells [.hole (.sl (.int .i64)), .hole (.sl (.int .i64)), .own 4, .own 5, .hole (.int .i64)], .gone, .gone, .gone, .arr 3 (.int .i64), .arr 3 (.int
 .i64)]⟩ [⟨(.exit 0), [], [.cells [.hole (.sl (.int .i64)), .hole (.sl (.int .i64)), .own 4, .own 5, .hole (.int .i64)], .gone, .gone, .gone, .arr 3 (.int .i64), .arr 3 (.int .i64)]⟩] (.seq .leaf (.seq (.cond .leaf .leaf) (.seq (.block (.seq
 .leaf .leaf)) .leaf)))))) (.seq .leaf (.seq .leaf .leaf)))))))
noncomputable def Lz.f19F:List Int×Int→Option (List Int×List Int×Int×List Int×List Int):=fun(x:List Int×Int)=>Option.bind (Lz.f25F x.1) fun(v1:List Int)=>Option.bind (Lz.f26F (v1,x.2)) fun v2=>Option.bind
 (Lz.f27F (v1,v2)) fun(v3:List Int×List Int)=>Option.bind (Lz.s0F v3.1) fun(v4:List Int×List Int)=>Option.bind (Lz.f28F (v1,v4.2,v2)) fun(v5:List (List Int×Int×Int×Int))=>Option.bind (iter (fun(s6:Int×List
 Int×List Int×Int×List Int×List Int)=>if decide (s6.1<(v5.length:Int))=true then if(0:Int)≤s6.1∧s6.1<(v5.length:Int) then Option.bind (Lz.f29F (((List.getD v5 (Int.toNat s6.1) ([],(0:Int),(0:Int),(0:
 Int))).1,(List.getD v5 (Int.toNat s6.1) ([],(0:Int),(0:Int),(0:Int))).2.1,(List.getD v5 (Int.toNat s6.1) ([],(0:Int),(0:Int),(0:Int))).2.2.1,(List.getD v5 (Int.toNat s6.1) ([],(0:Int),(0:Int),(0:Int))).2.2.2),
 s6.2.1,s6.2.2.1,s6.2.2.2.1,s6.2.2.2.2.1,s6.2.2.2.2.2)) fun(v7:List Int×List Int×Int×List Int×List Int)=>some (Sum.inl (IntKind.i64.wrap (s6.1+(1:Int)),v7.1,v7.2.1,v7.2.2.1,v7.2.2.2.1,v7.2.2.2.2)) else none else
 some (Sum.inr (s6.2.1,s6.2.2.1,s6.2.2.2.1,s6.2.2.2.2.1,s6.2.2.2.2.2))) ((0:Int),x.1,v1,v2,v4.1,v3.2)) fun(v6:List Int×List Int×Int×List Int×List Int)=>Option.bind (Lz.f30F (v6.1,v6.2.1,v6.2.2.1,v6.2.2.2.1,
 v6.2.2.2.2)) fun(v7:List Int×List Int×Int×List Int×List Int)=>some (v7.1,v7.2.1,v7.2.2.1,v7.2.2.2.1,v7.2.2.2.2)
theorem Lz.f19eq: ∀ x,zl Lz.C Lz.f19Γ Lz.f19sig Lz.f19ann Go.Proofs.Tryz.f19 x=Lz.f19F x:=by
 intro x
 kernel_rfl
noncomputable def Lz.f19con:Con:=⟨19,Lz.f19sig,Lz.f19F⟩
theorem Lz.f19ok:Con.Ok Go.Proofs.Tryz.prog Lz.C Lz.f19con:=
 zb (Γ:=Lz.f19Γ) (an:=Lz.f19ann) ⟨Lz.Cok,(List.forall_mem_cons.2 ⟨Lz.f25ok,(List.forall_mem_cons.2 ⟨Lz.f26ok,(List.forall_mem_cons.2 ⟨Lz.f27ok,(List.forall_mem_cons.2 ⟨Lz.s0ok,(List.forall_mem_cons.2 ⟨Lz.f28ok,(List.forall_mem_cons.2 ⟨Lz.f29ok,(List.forall_mem_cons.2 ⟨Lz.f30ok,(fun _ h=>nomatch h)⟩)⟩)⟩)⟩)⟩)⟩)⟩),Lz.mixed⟩ Go.Proofs.Tryz.func19 rfl rfl (fun x y h=>(Lz.f19eq x).trans h) (by decide)
def Lz.f7sig:Sig:=⟨⟨[.hole (.sl (.int .i64)), .hole (.int .i64)], []⟩,⟨[.hole (.sl (.int .i64)), .hole (.int .i64)], []⟩⟩
noncomputable def Lz.f7Γ:List Con:= [Lz.f19con]
def Lz.f7ann:Ann:=(.seq .leaf (.seq .leaf (.seq .leaf .leaf)))
noncomputable def Lz.f7F:List Int×Int→Option (List Int×Int):=fun(x:List Int×Int)=>Option.bind (Lz.f19F (x.1,x.2)) fun(v1:List Int×List Int×Int×List Int×List Int)=>some (v1.2.2.2.1,v1.2.2.1)
theorem Lz.f7eq: ∀ x,zl Lz.C Lz.f7Γ Lz.f7sig Lz.f7ann Go.Proofs.Tryz.f7 x=Lz.f7F x:=by
 intro x
 kernel_rfl
noncomputable def Lz.f7con:Con:=⟨7,Lz.f7sig,Lz.f7F⟩
theorem Lz.f7ok:Con.Ok Go.Proofs.Tryz.prog Lz.C Lz.f7con:=
 zb (Γ:=Lz.f7Γ) (an:=Lz.f7ann) ⟨Lz.Cok,(List.forall_mem_cons.2 ⟨Lz.f19ok,(fun _ h=>nomatch h)⟩),Lz.mixed⟩ Go.Proofs.Tryz.func7 rfl rfl (fun x y h=>(Lz.f7eq x).trans h) (by decide)
def Lz.f10sig:Sig:=⟨⟨[.hole (.sl (.int .i64)), .hole (.sl (.int .i64))], []⟩,⟨[.hole .bool], []⟩⟩
noncomputable def Lz.f10Γ:List Con:= []
def Lz.f10ann:Ann:=(.seq .leaf (.seq (.seq .leaf (.cond (.seq .leaf .leaf) .leaf)) (.seq (.seq .leaf (.block (.loop ⟨.normal, [(5, .hole (.int .i64))], []⟩ [⟨(.exit 0), [], []⟩,⟨.ret, [(4, .hole .bool)], []⟩] (.seq (.seq .leaf (.cond
 .leaf .leaf)) (.seq (.block (.seq .leaf (.cond (.seq .leaf .leaf) .leaf))) .leaf))))) (.seq .leaf .leaf))))
noncomputable def Lz.f10F:List Int×List Int→Option (Bool):=fun(x:List Int×List Int)=>if((x.1.length:Int)!=(x.2.length:Int))=true then some false else Option.bind (iter (fun(s1:Int)=>if decide (s1<(x.1.length:
 Int))=true then if(0:Int)≤s1∧s1<(x.1.length:Int) then if(0:Int)≤s1∧s1<(x.2.length:Int) then if(List.getD x.1 (Int.toNat s1) (0:Int)!=List.getD x.2 (Int.toNat s1) (0:Int))=true then some (Sum.inr (Sum.inr
 false)) else some (Sum.inl (IntKind.i64.wrap (s1+(1:Int)))) else none else none else some (Sum.inr (Sum.inl ()))) (0:Int)) fun v1=>Sum.elim (fun(p2:PUnit)=>some true) (fun(q2:Bool)=>some q2) v1
theorem Lz.f10eq: ∀ x,zl Lz.C Lz.f10Γ Lz.f10sig Lz.f10ann Go.Proofs.Tryz.f10 x=Lz.f10F x:=by
 intro x
 kernel_rfl
noncomputable def Lz.f10con:Con:=⟨10,Lz.f10sig,Lz.f10F⟩
theorem Lz.f10ok:Con.Ok Go.Proofs.Tryz.prog Lz.C Lz.f10con:=
 zb (Γ:=Lz.f10Γ) (an:=Lz.f10ann) ⟨Lz.Cok,(fun _ h=>nomatch h),Lz.mixed⟩ Go.Proofs.Tryz.func10 rfl rfl (fun x y h=>(Lz.f10eq x).trans h) (by decide)
def Lz.f22sig:Sig:=⟨⟨[.hole (.sl (.int .i64))], []⟩,⟨[.hole (.int .i64)], []⟩⟩
noncomputable def Lz.f22Γ:List Con:= []
def Lz.f22ann:Ann:=(.seq .leaf (.seq (.seq .leaf (.cond .leaf .leaf)) (.seq .leaf (.seq (.seq .leaf (.block (.loop ⟨.normal, [(3, .hole (.int .i64)),(4, .hole (.int .i64))], []⟩ [⟨(.exit 0), [(3, .hole (.int .i64))], []⟩] (.seq (.seq
 .leaf (.cond .leaf .leaf)) (.seq (.block .leaf) .leaf))))) (.seq .leaf .leaf)))))
noncomputable def Lz.f22F:List Int→Option (Int):=fun(x:List Int)=>if decide ((x.length:Int)<(1:Int))=true then none else if(0:Int)≤(0:Int)∧(0:Int)<(x.length:Int) then Option.bind (iter (fun(s1:Int×Int)
 =>if decide (s1.2<(x.length:Int))=true then if(0:Int)≤s1.2∧s1.2<(x.length:Int) then some (Sum.inl (zlr s1.1 (List.getD x (Int.toNat s1.2) (0:Int)),IntKind.i64.wrap (s1.2+(1:Int)))) else none else some (Sum.inr
 s1.1)) (List.getD x (Int.toNat (0:Int)) (0:Int),(1:Int))) fun v1=>some v1 else none
theorem Lz.f22eq: ∀ x,zl Lz.C Lz.f22Γ Lz.f22sig Lz.f22ann Go.Proofs.Tryz.f22 x=Lz.f22F x:=by
 intro x
 kernel_rfl
noncomputable def Lz.f22con:Con:=⟨22,Lz.f22sig,Lz.f22F⟩
theorem Lz.f22ok:Con.Ok Go.Proofs.Tryz.prog Lz.C Lz.f22con:=
 zb (Γ:=Lz.f22Γ) (an:=Lz.f22ann) ⟨Lz.Cok,(fun _ h=>nomatch h),Lz.mixed⟩ Go.Proofs.Tryz.func22 rfl rfl (fun x y h=>(Lz.f22eq x).trans h) (by decide)
def Lz.f13sig:Sig:=⟨⟨[.hole (.sl (.int .i64))], []⟩,⟨[.hole (.int .i64)], []⟩⟩
noncomputable def Lz.f13Γ:List Con:= [Lz.f22con]
def Lz.f13ann:Ann:=(.seq .leaf (.seq (.seq .leaf (.cond (.seq .leaf .leaf) .leaf)) (.seq .leaf .leaf)))
noncomputable def Lz.f13F:List Int→Option (Int):=fun(x:List Int)=>if((x.length:Int)==(0:Int))=true then some (-1:Int) else Option.bind (Lz.f22F x) fun v1=>some v1
theorem Lz.f13eq: ∀ x,zl Lz.C Lz.f13Γ Lz.f13sig Lz.f13ann Go.Proofs.Tryz.f13 x=Lz.f13F x:=by
 intro x
 kernel_rfl
noncomputable def Lz.f13con:Con:=⟨13,Lz.f13sig,Lz.f13F⟩
theorem Lz.f13ok:Con.Ok Go.Proofs.Tryz.prog Lz.C Lz.f13con:=
 zb (Γ:=Lz.f13Γ) (an:=Lz.f13ann) ⟨Lz.Cok,(List.forall_mem_cons.2 ⟨Lz.f22ok,(fun _ h=>nomatch h)⟩),Lz.mixed⟩ Go.Proofs.Tryz.func13 rfl rfl (fun x y h=>(Lz.f13eq x).trans h) (by decide)
def Lz.f23sig:Sig:=⟨⟨[.own 0], [.arr 3 (.int .i64)]⟩,⟨[.own 1], [.gone, .arr 3 (.int .i64)]⟩⟩
noncomputable def Lz.f23Γ:List Con:= []
def Lz.f23ann:Ann:=(.seq .leaf (.seq (.seq .leaf (.cond (.seq .leaf .leaf) .leaf)) (.seq (.seq .leaf (.block (.loop ⟨.normal, [(3, .hole (.int .i64))], [.arr 3 (.int .i64)]⟩ [⟨(.exit 0), [], [.arr 3 (.int .i64)]⟩,⟨.ret, [(2, .own 1)],
 [.gone, .arr 3 (.int .i64)]⟩] (.seq (.seq .leaf (.cond .leaf .leaf)) (.seq (.block (.seq .leaf (.cond (.seq .leaf (.seq (.seq .leaf (.block (.loop ⟨.normal, [(3, .hole (.int .i64)),(5, .hole (.int .i64))], [.arr 3 (.int .i64)]⟩ [⟨(.exit
 2), [(3, .hole (.int .i64))], [.arr 3 (.int .i64)]⟩] (.seq (.seq .leaf (.cond .leaf .leaf)) (.seq (.block (.seq .leaf (.cond (.seq .leaf .leaf) .leaf))) .leaf))))) (.seq .leaf (.seq .leaf .leaf)))) .leaf))) .leaf))))) (.seq .leaf .leaf))))
noncomputable def Lz.f23F:List Int→Option (List Int):=fun(x:List Int)=>if decide ((x.length:Int)<(2:Int))=true then some x else Option.bind (iter (fun(s1:Int×List Int)=>if decide (s1.1<(s1.2.length:Int))=true
 then if(0:Int)≤s1.1∧s1.1<(s1.2.length:Int) then if(0:Int)≤IntKind.i64.wrap (s1.1 - (1:Int))∧IntKind.i64.wrap (s1.1 - (1:Int))<(s1.2.length:Int) then if(List.getD s1.2 (Int.toNat s1.1) (0:Int)==List.getD s1.2
 (Int.toNat (IntKind.i64.wrap (s1.1 - (1:Int)))) (0:Int))=true then if(0:Int)≤s1.1∧s1.1≤(s1.2.length:Int) then Option.bind (iter (fun(s2:Int×Int×List Int)=>if decide (s2.2.1<(↑(List.length s1.2 - Int.toNat s1.1):
 Int))=true then if(0:Int)≤s2.2.1∧s2.2.1<(↑(List.length s1.2 - Int.toNat s1.1):Int) then if(0:Int)≤IntKind.i64.wrap (s2.2.1 - (1:Int))∧IntKind.i64.wrap (s2.2.1 - (1:Int))<(↑(List.length s1.2 - Int.toNat s1.1):Int)
 then if(List.getD s2.2.2 (Int.toNat s1.1+Int.toNat s2.2.1) (0:Int)!=List.getD s2.2.2 (Int.toNat s1.1+Int.toNat (IntKind.i64.wrap (s2.2.1 - (1:Int)))) (0:Int))=true then if(0:Int)≤s2.2.1∧s2.2.1<(↑(List.length s1.2 -
 Int.toNat s1.1):Int) then if(0:Int)≤s2.1∧s2.1<(s2.2.2.length:Int) then some (Sum.inl (IntKind.i64.wrap (s2.1+(1:Int)),IntKind.i64.wrap (s2.2.1+(1:Int)),List.set s2.2.2 (Int.toNat s2.1) (List.getD s2.2.2 (Int.toNat
 s1.1+Int.toNat s2.2.1) (0:Int)))) else none else none else some (Sum.inl (s2.1,IntKind.i64.wrap (s2.2.1+(1:Int)),s2.2.2)) else none else none else some (Sum.inr (s2.1,s2.2.2))) (s1.1,(1:Int),s1.2)) fun(v2:Int×List Int)
 =>if(0:Int)≤v2.1∧v2.1≤(v2.2.length:Int) then if(0:Int)≤v2.1∧v2.1≤(↑(List.length (List.take (Int.toNat v2.1) v2.2++(List.replicate (List.length v2.2 - Int.toNat v2.1) (0:Int)++List.drop (Int.toNat v2.1+
 (List.length v2.2 - Int.toNat v2.1)) v2.2))):Int) then some (Sum.inr (Sum.inr (List.take (Int.toNat v2.1) (List.take (Int.toNat v2.1) v2.2++(List.replicate (List.length v2.2 - Int.toNat v2.1) (0:Int)++List.drop (Int.toNat v2.1+
 (List.length v2.2 - Int.toNat v2.1)) v2.2))))) else none else none else none else some (Sum.inl (IntKind.i64.wrap (s1.1+(1:Int)),s1.2)) else none else none else some (Sum.inr (Sum.inl s1.2))) ((1:Int),x)) fun(v1:List Int ⊕ List
 Int)=>Sum.elim (fun(p2:List Int)=>some p2) (fun(q2:List Int)=>some q2) v1
theorem Lz.f23eq: ∀ x,zl Lz.C Lz.f23Γ Lz.f23sig Lz.f23ann Go.Proofs.Tryz.f23 x=Lz.f23F x:=by
 intro x
 kernel_rfl
noncomputable def Lz.f23con:Con:=⟨23,Lz.f23sig,Lz.f23F⟩
theorem Lz.f23ok:Con.Ok Go.Proofs.Tryz.prog Lz.C Lz.f23con:=
 zb (Γ:=Lz.f23Γ) (an:=Lz.f23ann) ⟨Lz.Cok,(fun _ h=>nomatch h),Lz.mixed⟩ Go.Proofs.Tryz.func23 rfl rfl (fun x y h=>(Lz.f23eq x).trans h) (by decide)
def Lz.f15sig:Sig:=⟨⟨[.hole (.sl (.int .i64)), .hole (.int .i64)], []⟩,⟨[.hole .bool], []⟩⟩
noncomputable def Lz.f15Γ:List Con:= [Lz.f7con,Lz.f24con,Lz.f23con]
def Lz.f15ann:Ann:=(.seq .leaf (.seq .leaf (.seq .leaf .leaf)))
noncomputable def Lz.f15F:List Int×Int→Option (Bool):=fun(x:List Int×Int)=>Option.bind (Lz.f7F (x.1,x.2)) fun(v1:List Int×Int)=>Option.bind (Lz.f24F v1.1) fun(v2:List Int)=>Option.bind (Lz.f23F v2) fun(v3:List
 Int)=>some (decide ((v3.length:Int)≤(1:Int)))
theorem Lz.f15eq: ∀ x,zl Lz.C Lz.f15Γ Lz.f15sig Lz.f15ann Go.Proofs.Tryz.f15 x=Lz.f15F x:=by
 intro x
 kernel_rfl
noncomputable def Lz.f15con:Con:=⟨15,Lz.f15sig,Lz.f15F⟩
theorem Lz.f15ok:Con.Ok Go.Proofs.Tryz.prog Lz.C Lz.f15con:=
 zb (Γ:=Lz.f15Γ) (an:=Lz.f15ann) ⟨Lz.Cok,(List.forall_mem_cons.2 ⟨Lz.f7ok,(List.forall_mem_cons.2 ⟨Lz.f24ok,(List.forall_mem_cons.2 ⟨Lz.f23ok,(fun _ h=>nomatch h)⟩)⟩)⟩),Lz.mixed⟩ Go.Proofs.Tryz.func15 rfl rfl (fun x y h=>(Lz.f15eq x).trans h) (by decide)
def Lz.f6sig:Sig:=⟨⟨[], []⟩,⟨[.hole .bool], []⟩⟩
noncomputable def Lz.f6Γ:List Con:= [Lz.f7con,Lz.f10con,Lz.f13con,Lz.f15con]
def Lz.f6ann:Ann:=(.seq .leaf (.seq .leaf (.seq .leaf (.seq .leaf .leaf))))
noncomputable def Lz.f6F:PUnit→Option (Bool):=fun(x:PUnit)=>Option.bind (Lz.f7F ([(97:Int),(32:Int),(1488:Int),(32:Int),(49:Int),(50:Int),(40:Int),(1489:Int),(41:Int),(8235:Int),(33:Int)],(0:
 Int))) fun(v1:List Int×Int)=>Option.bind (Lz.f7F ([(1488:Int),(40:Int),(97:Int),(41:Int)],(2:Int))) fun(v2:List Int×Int)=>Option.bind (Lz.f10F (v1.1, [(0:Int),(0:Int),(1:Int),(1:Int),(2:Int),(2:
 Int),(1:Int),(1:Int),(1:Int),(1:Int),(1:Int)])) fun v3=>if v3=true then if(v1.2==(0:Int))=true then Option.bind (Lz.f10F (v2.1, [(1:Int),(1:Int),(2:Int),(1:Int)])) fun v4=>if v4=true then if(v2.2==
 (1:Int))=true then Option.bind (Lz.f13F v1.1) fun v5=>if(v5==(2:Int))=true then Option.bind (Lz.f15F ([(97:Int),(98:Int)],(0:Int))) fun v6=>if v6=true then Option.bind (Lz.f15F ([(97:Int),(1488:Int)],(0:
 Int))) fun v7=>some !v7 else some false else some false else some false else some false else some false else some false
theorem Lz.f6eq: ∀ x,zl Lz.C Lz.f6Γ Lz.f6sig Lz.f6ann Go.Proofs.Tryz.f6 x=Lz.f6F x:=by
 intro x
 kernel_rfl
noncomputable def Lz.f6con:Con:=⟨6,Lz.f6sig,Lz.f6F⟩
theorem Lz.f6ok:Con.Ok Go.Proofs.Tryz.prog Lz.C Lz.f6con:=
 zb (Γ:=Lz.f6Γ) (an:=Lz.f6ann) ⟨Lz.Cok,(List.forall_mem_cons.2 ⟨Lz.f7ok,(List.forall_mem_cons.2 ⟨Lz.f10ok,(List.forall_mem_cons.2 ⟨Lz.f13ok,(List.forall_mem_cons.2 ⟨Lz.f15ok,(fun _ h=>nomatch h)⟩)⟩)⟩)⟩),Lz.mixed⟩ Go.Proofs.Tryz.func6 rfl rfl (fun x y h=>(Lz.f6eq x).trans h) (by decide)
def Lz.f17sig:Sig:=⟨⟨[.hole (.int .i64)], []⟩,⟨[.hole (.int .i64)], []⟩⟩
noncomputable def Lz.f17Γ:List Con:= []
def Lz.f17ann:Ann:=(.seq .leaf (.seq (.block (.seq (.join [⟨.normal, [(3, .hole .bool)], []⟩] .leaf) (.cond (.seq .leaf .leaf) (.seq .leaf (.cond (.seq .leaf .leaf) (.seq .leaf (.cond (.seq .leaf .leaf) (.seq .leaf (.cond (.seq .leaf
 .leaf) (.seq .leaf (.cond (.seq .leaf .leaf) (.seq .leaf (.cond (.seq .leaf .leaf) (.seq (.join [⟨.normal, [(25, .hole .bool)], []⟩] .leaf) (.cond (.seq .leaf .leaf) (.seq (.join [⟨.normal, [(32, .hole .bool)], []⟩] .leaf) (.cond (.seq
 .leaf .leaf) (.seq .leaf (.cond (.seq .leaf .leaf) (.seq .leaf (.cond (.seq .leaf .leaf) (.seq (.join [⟨.normal, [(45, .hole .bool)], []⟩] .leaf) (.cond (.seq .leaf .leaf) (.seq (.join [⟨.normal, [(52, .hole .bool)], []⟩] .leaf) (.cond
 (.seq .leaf .leaf) (.seq (.join [⟨.normal, [(59, .hole .bool)], []⟩] .leaf) (.cond (.seq .leaf .leaf) (.seq .leaf (.cond (.seq .leaf .leaf) (.seq .leaf (.cond (.seq .leaf .leaf) (.seq .leaf (.cond (.seq .leaf .leaf) (.seq (.join [⟨.normal,
 [(75, .hole .bool)], []⟩] .leaf) (.cond (.seq .leaf .leaf) (.seq (.join [⟨.normal, [(82, .hole .bool)], []⟩] .leaf) (.cond (.seq .leaf .leaf) (.seq .leaf (.cond (.seq .leaf .leaf) (.seq (.join [⟨.normal, [(92, .hole .bool)], []⟩] .leaf)
 (.cond (.seq .leaf .leaf) (.seq (.join [⟨.normal, [(99, .hole .bool)], []⟩] .leaf) (.cond (.seq .leaf .leaf) (.seq (.join [⟨.normal, [(106, .hole .bool)], []⟩] .leaf) (.cond (.seq .leaf .leaf) (.seq (.join [⟨.normal, [(113, .hole .bool)],
 []⟩] .leaf) (.cond (.seq .leaf .leaf) (.seq .leaf (.cond (.seq .leaf .leaf) (.seq (.join [⟨.normal, [(123, .hole .bool)], []⟩] .leaf) (.cond (.seq .leaf .leaf) (.seq .leaf (.cond (.seq .leaf .leaf) (.seq .leaf (.cond (.seq .leaf .leaf)
 (.seq (.join [⟨.normal, [(136, .hole .bool)], []⟩] .leaf) (.cond (.seq .leaf .leaf) (.seq (.join [⟨.normal, [(143, .hole .bool)], []⟩] .leaf) (.cond (.seq .leaf .leaf) (.seq (.join [⟨.normal, [(150, .hole .bool)], []⟩] .leaf) (.cond (.seq
 .leaf .leaf) (.seq .leaf (.cond (.seq .leaf .leaf) (.seq (.join [⟨.normal, [(160, .hole .bool)], []⟩] .leaf) (.cond (.seq .leaf .leaf) (.seq (.join [⟨.normal, [(167, .hole .bool)], []⟩] .leaf) (.cond (.seq .leaf .leaf) (.seq (.join
 [⟨.normal, [(174, .hole .bool)], []⟩] .leaf) (.cond (.seq .leaf .leaf) (.seq .leaf (.cond (.seq .leaf .leaf) (.seq (.join [⟨.normal, [(184, .hole .bool)], []⟩] .leaf) (.cond (.seq .leaf .leaf) (.seq .leaf (.cond (.seq .leaf .leaf) (.seq
 (.join [⟨.normal, [(194, .hole .bool)], []⟩] .leaf) (.cond (.seq .leaf .leaf) (.seq .leaf (.cond (.seq .leaf .leaf) (.seq .leaf (.cond (.seq .leaf .leaf) (.seq (.join [⟨.normal, [(207, .hole .bool)], []⟩] .leaf) (.cond (.seq .leaf .leaf)
 (.seq (.join [⟨.normal, [(214, .hole .bool)], []⟩] .leaf) (.cond (.seq .leaf .leaf) (.seq .leaf (.cond (.seq .leaf .leaf) (.seq .leaf (.cond (.seq .leaf .leaf) (.seq .leaf (.cond (.seq .leaf .leaf) (.seq (.join [⟨.normal, [(230, .hole
 .bool)], []⟩] .leaf) (.cond (.seq .leaf .leaf) (.seq (.join [⟨.normal, [(237, .hole .bool)], []⟩] .leaf) (.cond (.seq .leaf .leaf) (.seq (.join [⟨.normal, [(244, .hole .bool)], []⟩] .leaf) (.cond (.seq .leaf .leaf) (.seq (.join [⟨.normal,
 [(251, .hole .bool)], []⟩] .leaf) (.cond (.seq .leaf .leaf) (.seq .leaf (.cond (.seq .leaf .leaf) (.seq (.join [⟨.normal, [(261, .hole .bool)], []⟩] .leaf) (.cond (.seq .leaf .leaf) (.seq .leaf (.cond (.seq .leaf .leaf) (.seq .leaf (.cond
 (.seq .leaf .leaf) (.seq .leaf (.cond (.seq .leaf .leaf) (.seq (.join [⟨.normal, [(277, .hole .bool)], []⟩] .leaf) (.cond (.seq .leaf .leaf) (.seq (.join [⟨.normal, [(284, .hole .bool)], []⟩] .leaf) (.cond (.seq .leaf .leaf) (.seq (.join
 [⟨.normal, [(291, .hole .bool)], []⟩] .leaf) (.cond (.seq .leaf .leaf) (.seq (.join [⟨.normal, [(298, .hole .bool)], []⟩] .leaf) (.cond (.seq .leaf .leaf) (.seq .leaf (.cond (.seq .leaf .leaf) (.seq (.join [⟨.normal, [(308, .hole .bool)],
 []⟩] .leaf) (.cond (.seq .leaf .leaf) (.seq (.join [⟨.normal, [(315, .hole .bool)], []⟩] .leaf) (.cond (.seq .leaf .leaf) (.seq .leaf (.cond (.seq .leaf .leaf) (.seq (.join [⟨.normal, [(325, .hole .bool)], []⟩] .leaf) (.cond (.seq .leaf
 .leaf) (.seq (.join [⟨.normal, [(332, .hole .bool)], []⟩] .leaf) (.cond (.seq .leaf .leaf) (.seq .leaf (.cond (.seq .leaf .leaf) (.seq (.join [⟨.normal, [(342, .hole .bool)], []⟩] .leaf) (.cond (.seq .leaf .leaf) (.seq .leaf (.cond (.seq
 .leaf .leaf) (.seq .leaf (.cond (.seq .leaf .leaf) (.seq .leaf (.cond (.seq .leaf .leaf) (.seq .leaf (.cond (.seq .leaf .leaf) (.seq .leaf (.cond (.seq .leaf .leaf) (.seq .leaf (.cond (.seq .leaf .leaf) (.seq .leaf (.cond (.seq .leaf .leaf)
 (.seq .leaf (.cond (.seq .leaf .leaf) (.seq (.join [⟨.normal, [(373, .hole .bool)], []⟩] .leaf) (.cond (.seq .leaf .leaf) (.seq (.join [⟨.normal, [(380, .hole .bool)], []⟩] .leaf) (.cond (.seq .leaf .leaf) (.seq .leaf (.cond (.seq .leaf
 .leaf) (.seq .leaf (.cond (.seq .leaf .leaf) (.seq .leaf (.cond (.seq .leaf .leaf) (.seq .leaf (.cond (.seq .leaf .leaf) (.seq .leaf (.cond (.seq .leaf .leaf) (.seq (.join [⟨.normal, [(402, .hole .bool)], []⟩] .leaf) (.cond (.seq .leaf
 .leaf) (.seq (.join [⟨.normal, [(409, .hole .bool)], []⟩] .leaf) (.cond (.seq .leaf .leaf) (.seq (.join [⟨.normal, [(416, .hole .bool)], []⟩] .leaf) (.cond (.seq .leaf .leaf) (.seq .leaf (.cond (.seq .leaf .leaf) (.seq .leaf (.cond (.seq
 .leaf .leaf) (.seq (.join [⟨.normal, [(429, .hole .bool)], []⟩] .leaf) (.cond (.seq .leaf .leaf) (.seq (.join [⟨.normal, [(436, .hole .bool)], []⟩] .leaf) (.cond (.seq .leaf .leaf) (.seq .leaf (.cond (.seq .leaf .leaf) (.seq (.join
 [⟨.normal, [(446, .hole .bool)], []⟩] .leaf) (.cond (.seq .leaf .leaf)
 .leaf))))))))))))))))))))))))))))))))))))))))))))))))))))))))))))))))))))))))))))))))))))))))))))))))))))))))))))))))))))))))))))))))))))))))))))))))))))))))))))))))))))))))))))))))))))) (.seq .leaf .leaf)))
noncomputable def Lz.f17F:Int→Option (Int):=fun(x:Int)=>Option.bind (if decide (x≥(0:Int))=true then some (decide (x≤(8:Int))) else some false) fun v1=>if v1=true then some (9:Int) else if(x==(9:Int))=true
 then some (11:Int) else if(x==(10:Int))=true then some (10:Int) else if(x==(11:Int))=true then some (11:Int) else if(x==(12:Int))=true then some (12:Int) else if(x==(13:Int))=true then some (10:Int)
 else Option.bind (if decide (x≥(14:Int))=true then some (decide (x≤(27:Int))) else some false) fun v2=>if v2=true then some (9:Int) else Option.bind (if decide (x≥(28:Int))=true then some (decide (x≤(30:Int))) else
 some false) fun v3=>if v3=true then some (10:Int) else if(x==(31:Int))=true then some (11:Int) else if(x==(32:Int))=true then some (12:Int) else Option.bind (if decide (x≥(33:Int))=true then some (decide (x≤
 (34:Int))) else some false) fun v4=>if v4=true then some (13:Int) else Option.bind (if decide (x≥(35:Int))=true then some (decide (x≤(37:Int))) else some false) fun v5=>if v5=true then some (5:Int) else Option.bind
 (if decide (x≥(38:Int))=true then some (decide (x≤(42:Int))) else some false) fun v6=>if v6=true then some (13:Int) else if(x==(43:Int))=true then some (4:Int) else if(x==(44:Int))=true then some (7:Int)
 else if(x==(45:Int))=true then some (4:Int) else Option.bind (if decide (x≥(46:Int))=true then some (decide (x≤(47:Int))) else some false) fun v7=>if v7=true then some (7:Int) else Option.bind (if decide (x≥(48:
 Int))=true then some (decide (x≤(57:Int))) else some false) fun v8=>if v8=true then some (3:Int) else if(x==(58:Int))=true then some (7:Int) else Option.bind (if decide (x≥(59:Int))=true then some (decide (x≤(64
 :Int))) else some false) fun v9=>if v9=true then some (13:Int) else Option.bind (if decide (x≥(91:Int))=true then some (decide (x≤(96:Int))) else some false) fun v10=>if v10=true then some (13:Int) else Option.bind
 (if decide (x≥(123:Int))=true then some (decide (x≤(126:Int))) else some false) fun v11=>if v11=true then some (13:Int) else Option.bind (if decide (x≥(127:Int))=true then some (decide (x≤(132:Int))) else some
 false) fun v12=>if v12=true then some (9:Int) else if(x==(133:Int))=true then some (10:Int) else Option.bind (if decide (x≥(134:Int))=true then some (decide (x≤(159:Int))) else some false) fun v13=>if v13=true
 then some (9:Int) else if(x==(160:Int))=true then some (7:Int) else if(x==(161:Int))=true then some (13:Int) else Option.bind (if decide (x≥(162:Int))=true then some (decide (x≤(165:Int))) else some false) fun
 v14=>if v14=true then some (5:Int) else Option.bind (if decide (x≥(166:Int))=true then some (decide (x≤(169:Int))) else some false) fun v15=>if v15=true then some (13:Int) else Option.bind (if decide (x≥(171:Int))
 =true then some (decide (x≤(172:Int))) else some false) fun v16=>if v16=true then some (13:Int) else if(x==(173:Int))=true then some (9:Int) else Option.bind (if decide (x≥(174:Int))=true then some (decide (x≤
 (175:Int))) else some false) fun v17=>if v17=true then some (13:Int) else Option.bind (if decide (x≥(176:Int))=true then some (decide (x≤(177:Int))) else some false) fun v18=>if v18=true then some (5:Int) else
 Option.bind (if decide (x≥(178:Int))=true then some (decide (x≤(179:Int))) else some false) fun v19=>if v19=true then some (3:Int) else if(x==(180:Int))=true then some (13:Int) else Option.bind (if decide (x≥(182
 :Int))=true then some (decide (x≤(184:Int))) else some false) fun v20=>if v20=true then some (13:Int) else if(x==(185:Int))=true then some (3:Int) else Option.bind (if decide (x≥(187:Int))=true then some (decide
 (x≤(191:Int))) else some false) fun v21=>if v21=true then some (13:Int) else if(x==(215:Int))=true then some (13:Int) else if(x==(247:Int))=true then some (13:Int) else Option.bind (if decide (x≥(768:Int))=
 true then some (decide (x≤(879:Int))) else some false) fun v22=>if v22=true then some (8:Int) else Option.bind (if decide (x≥(1425:Int))=true then some (decide (x≤(1469:Int))) else some false) fun v23=>if v23=true
 then some (8:Int) else if(x==(1470:Int))=true then some (1:Int) else if(x==(1471:Int))=true then some (8:Int) else if(x==(1472:Int))=true then some (1:Int) else Option.bind (if decide (x≥(1473:Int))=true
 then some (decide (x≤(1474:Int))) else some false) fun v24=>if v24=true then some (8:Int) else Option.bind (if decide (x≥(1488:Int))=true then some (decide (x≤(1524:Int))) else some false) fun v25=>if v25=true then
 some (1:Int) else Option.bind (if decide (x≥(1536:Int))=true then some (decide (x≤(1541:Int))) else some false) fun v26=>if v26=true then some (6:Int) else Option.bind (if decide (x≥(1542:Int))=true then some (decide
 (x≤(1543:Int))) else some false) fun v27=>if v27=true then some (13:Int) else if(x==(1544:Int))=true then some (2:Int) else Option.bind (if decide (x≥(1545:Int))=true then some (decide (x≤(1546:Int))) else some
 false) fun v28=>if v28=true then some (5:Int) else if(x==(1547:Int))=true then some (2:Int) else if(x==(1548:Int))=true then some (7:Int) else if(x==(1549:Int))=true then some (2:Int) else Option.bind (if
 decide (x≥(1552:Int))=true then some (decide (x≤(1562:Int))) else some false) fun v29=>if v29=true then some (8:Int) else Option.bind (if decide (x≥(1563:Int))=true then some (decide (x≤(1610:Int))) else some
 false) fun v30=>if v30=true then some (2:Int) else Option.bind (if decide (x≥(1611:Int))=true then some (decide (x≤(1631:Int))) else some false) fun v31=>if v31=true then some (8:Int) else Option.bind (if decide (x≥
 (1632:Int))=true then some (decide (x≤(1641:Int))) else some false) fun v32=>if v32=true then some (6:Int) else if(x==(1642:Int))=true then some (5:Int) else Option.bind (if decide (x≥(1643:Int))=true then some
 (decide (x≤(1644:Int))) else some false) fun v33=>if v33=true then some (6:Int) else Option.bind (if decide (x≥(1645:Int))=true then some (decide (x≤(1647:Int))) else some false) fun v34=>if v34=true then some (2:
 Int) else if(x==(1648:Int))=true then some (8:Int) else Option.bind (if decide (x≥(1649:Int))=true then some (decide (x≤(1749:Int))) else some false) fun v35=>if v35=true then some (2:Int) else Option.bind (if
 decide (x≥(8203:Int))=true then some (decide (x≤(8205:Int))) else some false) fun v36=>if v36=true then some (9:Int) else if(x==(8207:Int))=true then some (1:Int) else Option.bind (if decide (x≥(8208:Int))=
 true then some (decide (x≤(8231:Int))) else some false) fun v37=>if v37=true then some (13:Int) else if(x==(8232:Int))=true then some (12:Int) else if(x==(8233:Int))=true then some (10:Int) else if(x==(8234:
 Int))=true then some (14:Int) else if(x==(8235:Int))=true then some (16:Int) else if(x==(8236:Int))=true then some (18:Int) else if(x==(8237:Int))=true then some (15:Int) else if(x==(8238:Int))=true
 then some (17:Int) else if(x==(8239:Int))=true then some (7:Int) else Option.bind (if decide (x≥(8240:Int))=true then some (decide (x≤(8244:Int))) else some false) fun v38=>if v38=true then some (5:Int) else
 Option.bind (if decide (x≥(8245:Int))=true then some (decide (x≤(8259:Int))) else some false) fun v39=>if v39=true then some (13:Int) else if(x==(8294:Int))=true then some (19:Int) else if(x==(8295:Int))=true
 then some (20:Int) else if(x==(8296:Int))=true then some (21:Int) else if(x==(8297:Int))=true then some (22:Int) else if(x==(8304:Int))=true then some (3:Int) else Option.bind (if decide (x≥(8308:Int))=
 true then some (decide (x≤(8313:Int))) else some false) fun v40=>if v40=true then some (3:Int) else Option.bind (if decide (x≥(8352:Int))=true then some (decide (x≤(8384:Int))) else some false) fun v41=>if v41=true
 then some (5:Int) else Option.bind (if decide (x≥(8592:Int))=true then some (decide (x≤(8721:Int))) else some false) fun v42=>if v42=true then some (13:Int) else if(x==(8722:Int))=true then some (4:Int) else if(x
 ==(8723:Int))=true then some (5:Int) else Option.bind (if decide (x≥(8724:Int))=true then some (decide (x≤(9013:Int))) else some false) fun v43=>if v43=true then some (13:Int) else Option.bind (if decide (x≥(12296:
 Int))=true then some (decide (x≤(12305:Int))) else some false) fun v44=>if v44=true then some (13:Int) else if(x==(65279:Int))=true then some (9:Int) else Option.bind (if decide (x≥(128512:Int))=true then some
 (decide (x≤(128591:Int))) else some false) fun v45=>if v45=true then some (13:Int) else some (0:Int)
theorem Lz.f17eq: ∀ x,zl Lz.C Lz.f17Γ Lz.f17sig Lz.f17ann Go.Proofs.Tryz.f17 x=Lz.f17F x:=by
 intro x
 kernel_rfl
noncomputable def Lz.f17con:Con:=⟨17,Lz.f17sig,Lz.f17F⟩
theorem Lz.f17ok:Con.Ok Go.Proofs.Tryz.prog Lz.C Lz.f17con:=
 zb (Γ:=Lz.f17Γ) (an:=Lz.f17ann) ⟨Lz.Cok,(fun _ h=>nomatch h),Lz.mixed⟩ Go.Proofs.Tryz.func17 rfl rfl (fun x y h=>(Lz.f17eq x).trans h) (by decide)
def Lz.f18sig:Sig:=⟨⟨[.hole (.int .i64)], []⟩,⟨[.hole .bool], []⟩⟩
noncomputable def Lz.f18Γ:List Con:= []
def Lz.f18ann:Ann:=(.seq .leaf (.seq .leaf .leaf))
noncomputable def Lz.f18F:Int→Option (Bool):=fun(x:Int)=>if(x==(9:Int))=true then some true else if(x==(14:Int))=true then some true else if(x==(15:Int))=true then some true else if(x==(16:Int))=true
 then some true else if(x==(17:Int))=true then some true else some (x==(18:Int))
theorem Lz.f18eq: ∀ x,zl Lz.C Lz.f18Γ Lz.f18sig Lz.f18ann Go.Proofs.Tryz.f18 x=Lz.f18F x:=by
 intro x
 kernel_rfl
noncomputable def Lz.f18con:Con:=⟨18,Lz.f18sig,Lz.f18F⟩
theorem Lz.f18ok:Con.Ok Go.Proofs.Tryz.prog Lz.C Lz.f18con:=
 zb (Γ:=Lz.f18Γ) (an:=Lz.f18ann) ⟨Lz.Cok,(fun _ h=>nomatch h),Lz.mixed⟩ Go.Proofs.Tryz.func18 rfl rfl (fun x y h=>(Lz.f18eq x).trans h) (by decide)
end Go.Sx
