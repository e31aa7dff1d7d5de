import Derived.Test.YtlppdabhaipbkaaDoorSxTLa
import Derived.KernelRfl
set_option maxRecDepth 100000
set_option maxHeartbeats 0
set_option linter.unusedVariables false
set_option linter.unusedSimpArgs false
namespace Go.Sx
open Go.Proofs
noncomputable def Ld.f99F:Int×List (List Int)×Int→Option (Int×List (List Int)×Int):=fun(x:Int×List (List Int)×Int)=>Option.bind (Ld.f100F (IntKind.i64.wrap (x.1 - (1:Int)),x.1,IntKind.i64.wrap (x.1+(1:Int)),
 x.2.1,x.2.2)) fun(v1:Int×List (List Int)×Int)=>some (v1.1,v1.2.1,v1.2.2)
theorem Ld.f99eq: ∀ x,zl Ld.C Ld.f99Γ Ld.f99sig Ld.f99ann Go.Proofs.Tryd.f99 x=Ld.f99F x:=by
 intro x
 kernel_rfl
noncomputable def Ld.f99con:Con:=⟨99,Ld.f99sig,Ld.f99F⟩
theorem Ld.f99ok:Con.Ok Go.Proofs.Tryd.prog Ld.C Ld.f99con:=
 zb (Γ:=Ld.f99Γ) (an:=Ld.f99ann) ⟨Ld.Cok,(List.forall_mem_cons.2 ⟨Ld.f100ok,(List.forall_mem_cons.2 ⟨Ld.f71ok,(fun _ h=>nomatch h)⟩)⟩),Ld.mixed⟩ Go.Proofs.Tryd.func99 rfl rfl (fun x y h=>(Ld.f99eq x).trans h) (by decide)
def Ld.f89sig:Sig:=⟨⟨[.own 0, .hole (.int .i64), .hole (.int .i64), .fnc 71 0], [.arr 85 (.arr 2 (.int .i64))]⟩,⟨[.hole (.int .i64), .hole (.int .i64)], [.arr 85 (.arr 2 (.int .i64))]⟩⟩
noncomputable def Ld.f89Γ:List Con:= [Ld.f99con,Ld.f100con,Ld.f71con]
def Ld.f89ann:Ann:=(.seq .leaf (.seq .leaf (.seq .leaf (.seq .leaf (.seq .leaf (.seq .leaf (.seq (.join [⟨.normal, [(13, .hole (.int .i64))], [.arr 85 (.arr 2 (.int .i64)), .cells [.hole (.int .i64)]]⟩] (.seq .leaf (.cond (.seq (.join
 [⟨.normal, [(12, .hole (.int .i64)),(13, .hole (.int .i64)),(14, .hole (.int .i64))], [.arr 85 (.arr 2 (.int .i64)), .cells [.hole (.int .i64)]]⟩] (.seq .leaf (.cond (.seq .leaf (.seq .leaf .leaf)) .leaf))) .leaf) .leaf))) (.seq .leaf
 (.block (.seq .leaf (.cond (.seq .leaf .leaf) (.seq .leaf (.cond (.seq .leaf .leaf) (.seq .leaf .leaf))))))))))))))
noncomputable def Ld.f89F:Int×Int×List (List Int)→Option (Int×Int×List (List Int)):=fun(x:Int×Int×List (List Int))=>Option.bind (if decide (IntKind.i64.wrap (x.2.1 - x.1)≥(8:Int))=true then Option.bind (if
 decide (IntKind.i64.wrap (x.2.1 - x.1)≥(50:Int))=true then Option.bind (Ld.f99F (IntKind.i64.wrap (x.1+IntKind.i64.wrap (IntKind.i64.wrap (Int.tdiv (IntKind.i64.wrap (x.2.1 - x.1)) (4:Int))*(1:Int))),x.2.2,(0:Int))) fun
 (v1:Int×List (List Int)×Int)=>Option.bind (Ld.f99F (IntKind.i64.wrap (x.1+IntKind.i64.wrap (IntKind.i64.wrap (Int.tdiv (IntKind.i64.wrap (x.2.1 - x.1)) (4:Int))*(2:Int))),v1.2.1,v1.2.2)) fun(v2:Int×List (List Int)×
 Int)=>Option.bind (Ld.f99F (IntKind.i64.wrap (x.1+IntKind.i64.wrap (IntKind.i64.wrap (Int.tdiv (IntKind.i64.wrap (x.2.1 - x.1)) (4:Int))*(3:Int))),v2.2.1,v2.2.2)) fun(v3:Int×List (List Int)×Int)=>some (v1.1,v2.1,v3.1,
 v3.2.1,v3.2.2) else some (IntKind.i64.wrap (x.1+IntKind.i64.wrap (IntKind.i64.wrap (Int.tdiv (IntKind.i64.wrap (x.2.1 - x.1)) (4:Int))*(1:Int))),IntKind.i64.wrap (x.1+IntKind.i64.wrap (IntKind.i64.wrap (Int.tdiv
 (IntKind.i64.wrap (x.2.1 - x.1)) (4:Int))*(2:Int))),IntKind.i64.wrap (x.1+IntKind.i64.wrap (IntKind.i64.wrap (Int.tdiv (IntKind.i64.wrap (x.2.1 - x.1)) (4:Int))*(3:Int))),x.2.2,(0:Int))) fun(v1:Int×Int×Int×List
 (List Int)×Int)=>Option.bind (Ld.f100F (v1.1,v1.2.1,v1.2.2.1,v1.2.2.2.1,v1.2.2.2.2)) fun(v2:Int×List (List Int)×Int)=>some (v2.1,v2.2.1,v2.2.2) else some (IntKind.i64.wrap (x.1+IntKind.i64.wrap (IntKind.i64.wrap
 (Int.tdiv (IntKind.i64.wrap (x.2.1 - x.1)) (4:Int))*(2:Int))),x.2.2,(0:Int))) fun(v1:Int×List (List Int)×Int)=>if(v1.2.2==(0:Int))=true then some (v1.1,(1:Int),v1.2.1) else if(v1.2.2==(12:Int))=true then
 some (v1.1,(2:Int),v1.2.1) else some (v1.1,(0:Int),v1.2.1)
theorem Ld.f89eq: ∀ x,zl Ld.C Ld.f89Γ Ld.f89sig Ld.f89ann Go.Proofs.Tryd.f89 x=Ld.f89F x:=by
 intro x
 kernel_rfl
noncomputable def Ld.f89con:Con:=⟨89,Ld.f89sig,Ld.f89F⟩
theorem Ld.f89ok:Con.Ok Go.Proofs.Tryd.prog Ld.C Ld.f89con:=
 zb (Γ:=Ld.f89Γ) (an:=Ld.f89ann) ⟨Ld.Cok,(List.forall_mem_cons.2 ⟨Ld.f99ok,(List.forall_mem_cons.2 ⟨Ld.f100ok,(List.forall_mem_cons.2 ⟨Ld.f71ok,(fun _ h=>nomatch h)⟩)⟩)⟩),Ld.mixed⟩ Go.Proofs.Tryd.func89 rfl rfl (fun x y h=>(Ld.f89eq x).trans h) (by decide)
def Ld.f90sig:Sig:=⟨⟨[.own 0, .hole (.int .i64), .hole (.int .i64), .fnc 71 0], [.arr 85 (.arr 2 (.int .i64))]⟩,⟨[], [.arr 85 (.arr 2 (.int .i64))]⟩⟩
noncomputable def Ld.f90Γ:List Con:= [Ld.f71con]
def Ld.f90ann:Ann:=(.seq .leaf (.seq .leaf (.block (.loop ⟨.normal, [(8, .hole (.int .i64)),(9, .hole (.int .i64))], [.arr 85 (.arr 2 (.int .i64))]⟩ [⟨(.exit 0), [], [.arr 85 (.arr 2 (.int .i64))]⟩] (.seq (.seq .leaf (.cond .leaf
 .leaf)) (.block (.seq (.eff 1 [] [0,0,0,0,0,0,48,112,0,0,768,1792,4083,8179,16383,32767]) (.seq .leaf .leaf))))))))
noncomputable def Ld.f90F:Int×Int×List (List Int)→Option (List (List Int)):=fun(x:Int×Int×List (List Int))=>Option.bind (iter (fun(s1:Int×Int×List (List Int))=>if decide (s1.1<s1.2.1)=true then if(0:Int)≤
 s1.2.1∧s1.2.1<(s1.2.2.length:Int) then if(0:Int)≤s1.1∧s1.1<(s1.2.2.length:Int) then if(0:Int)≤s1.1∧s1.1<(s1.2.2.length:Int) then if(0:Int)≤s1.2.1∧s1.2.1<(↑(List.length (List.set s1.2.2 (Int.toNat s1.1)
 (List.getD s1.2.2 (Int.toNat s1.2.1) (List.replicate (2:Nat) (0:Int))))):Int) then some (Sum.inl (IntKind.i64.wrap (s1.1+(1:Int)),IntKind.i64.wrap (s1.2.1 - (1:Int)),List.set (List.set s1.2.2 (Int.toNat s1.1) (List.getD s1.2.2
 (Int.toNat s1.2.1) (List.replicate (2:Nat) (0:Int)))) (Int.toNat s1.2.1) (List.getD s1.2.2 (Int.toNat s1.1) (List.replicate (2:Nat) (0:Int))))) else none else none else none else none else some (Sum.inr s1.2.2)) (x.1,
 IntKind.i64.wrap (x.2.1 - (1:Int)),x.2.2)) fun(v1:List (List Int))=>some v1
theorem Ld.f90eq: ∀ x,zl Ld.C Ld.f90Γ Ld.f90sig Ld.f90ann Go.Proofs.Tryd.f90 x=Ld.f90F x:=by
 intro x
 kernel_rfl
noncomputable def Ld.f90con:Con:=⟨90,Ld.f90sig,Ld.f90F⟩
theorem Ld.f90ok:Con.Ok Go.Proofs.Tryd.prog Ld.C Ld.f90con:=
 zb (Γ:=Ld.f90Γ) (an:=Ld.f90ann) ⟨Ld.Cok,(List.forall_mem_cons.2 ⟨Ld.f71ok,(fun _ h=>nomatch h)⟩),Ld.mixed⟩ Go.Proofs.Tryd.func90 rfl rfl (fun x y h=>(Ld.f90eq x).trans h) (by decide)
def Ld.f91sig:Sig:=⟨⟨[.own 0, .hole (.int .i64), .hole (.int .i64), .fnc 71 0], [.arr 85 (.arr 2 (.int .i64))]⟩,⟨[.hole .bool], [.arr 85 (.arr 2 (.int .i64))]⟩⟩
noncomputable def Ld.f91Γ:List Con:= [Ld.f71con]
def Ld.f91ann:Ann:=(.seq .leaf (.seq .leaf (.seq (.seq .leaf (.block (.loop ⟨.normal, [(9, .hole (.int .i64)),(10, .hole (.int .i64))], [.arr 85 (.arr 2 (.int .i64))]⟩ [⟨(.exit 0), [], [.arr 85 (.arr 2 (.int .i64))]⟩,⟨.ret, [(8, .hole
 .bool)], [.arr 85 (.arr 2 (.int .i64))]⟩] (.seq (.seq .leaf (.cond .leaf .leaf)) (.seq (.block (.seq (.block (.loop ⟨.normal, [(9, .hole (.int .i64))], [.arr 85 (.arr 2 (.int .i64))]⟩ [⟨(.exit 2), [(9, .hole (.int .i64))], [.arr 85 (.arr 2
 (.int .i64))]⟩] (.seq (.seq (.join [⟨.normal, [(36, .hole .bool)], [.arr 85 (.arr 2 (.int .i64))]⟩] .leaf) (.cond .leaf .leaf)) (.block .leaf)))) (.seq (.seq .leaf (.cond (.seq .leaf .leaf) .leaf)) (.seq (.seq .leaf (.cond (.seq .leaf
 .leaf) .leaf)) (.seq (.eff 1 [] [0,0,0,0,8,0,0,64,224,480,0,0,3072,7168,16355,32739,65535,131071]) (.seq (.join [⟨.normal, [], [.arr 85 (.arr 2 (.int .i64))]⟩] (.seq .leaf (.cond (.seq .leaf (.block (.loop ⟨.normal, [(11,
 .hole (.int .i64))], [.arr 85 (.arr 2 (.int .i64))]⟩ [⟨(.exit 4), [], [.arr 85 (.arr 2 (.int .i64))]⟩] (.seq (.seq .leaf (.cond .leaf .leaf)) (.seq (.block (.seq (.seq .leaf (.cond .leaf .leaf)) (.eff 1 [] [0,0,0,0,8,0,0,64,224,
 480,0,0,3072,7168,16355,32739,65535,131071]))) .leaf))))) .leaf))) (.seq .leaf (.cond (.seq .leaf (.block (.loop ⟨.normal, [(12, .hole (.int .i64))], [.arr 85 (.arr 2 (.int .i64))]⟩ [⟨(.exit 6), [], [.arr 85 (.arr 2 (.int .i64))]⟩]
 (.seq (.seq .leaf (.cond .leaf .leaf)) (.seq (.block (.seq (.seq .leaf (.cond .leaf .leaf)) (.eff 1 [] [0,0,0,0,8,0,0,64,224,480,0,0,3072,7168,16355,32739,65535,131071]))) .leaf))))) .leaf)))))))) .leaf))))) (.seq .leaf
 .leaf))))
noncomputable def Ld.f91F:Int×Int×List (List Int)→Option (Bool×List (List Int)):=fun(x:Int×Int×List (List Int))=>Option.bind (iter (fun(s1:Int×Int×List (List Int))=>if decide (s1.2.1<(5:Int))=true then
 Option.bind (iter (fun(s2:Int×List (List Int))=>Option.bind (if decide (s2.1<x.2.1)=true then if(0:Int)≤s2.1∧s2.1<(s2.2.length:Int) then if(0:Int)≤IntKind.i64.wrap (s2.1 - (1:Int))∧IntKind.i64.wrap (s2.1 - (1
 :Int))<(s2.2.length:Int) then Option.bind (Ld.f71F (List.getD s2.2 (Int.toNat s2.1) (List.replicate (2:Nat) (0:Int)),List.getD s2.2 (Int.toNat (IntKind.i64.wrap (s2.1 - (1:Int)))) (List.replicate (2:Nat) (0:Int)))) fun v3=>
 some (!decide (v3<(0:Int)),s2.2) else none else none else some (false,s2.2)) fun(v3:Bool×List (List Int))=>if v3.1=true then some (Sum.inl (IntKind.i64.wrap (s2.1+(1:Int)),v3.2)) else some (Sum.inr (s2.1,v3.2))) (s1.1,
 s1.2.2)) fun(v2:Int×List (List Int))=>if(v2.1==x.2.1)=true then some (Sum.inr (Sum.inr (true,v2.2))) else if decide (IntKind.i64.wrap (x.2.1 - x.1)<(50:Int))=true then some (Sum.inr (Sum.inr (false,v2.2))) else if(0:
 Int)≤IntKind.i64.wrap (v2.1 - (1:Int))∧IntKind.i64.wrap (v2.1 - (1:Int))<(v2.2.length:Int) then if(0:Int)≤v2.1∧v2.1<(v2.2.length:Int) then if(0:Int)≤v2.1∧v2.1<(v2.2.length:Int) then if(0:Int)≤
 IntKind.i64.wrap (v2.1 - (1:Int))∧IntKind.i64.wrap (v2.1 - (1:Int))<(↑(List.length (List.set v2.2 (Int.toNat v2.1) (List.getD v2.2 (Int.toNat (IntKind.i64.wrap (v2.1 - (1:Int)))) (List.replicate (2:Nat) (0:Int))))):Int) then
 Option.bind (if decide (IntKind.i64.wrap (v2.1 - x.1)≥(2:Int))=true then Option.bind (iter (fun(s3:Int×List (List Int))=>if decide (s3.1≥(1:Int))=true then if(0:Int)≤s3.1∧s3.1<(s3.2.length:Int) then if(0:
 Int)≤IntKind.i64.wrap (s3.1 - (1:Int))∧IntKind.i64.wrap (s3.1 - (1:Int))<(s3.2.length:Int) then Option.bind (Ld.f71F (List.getD s3.2 (Int.toNat s3.1) (List.replicate (2:Nat) (0:Int)),List.getD s3.2 (Int.toNat
 (IntKind.i64.wrap (s3.1 - (1:Int)))) (List.replicate (2:Nat) (0:Int)))) fun v4=>if(!decide (v4<(0:Int)))=true then some (Sum.inr s3.2) else if(0:Int)≤IntKind.i64.wrap (s3.1 - (1:Int))∧IntKind.i64.wrap (s3.1 - (1:
 Int))<(s3.2.length:Int) then if(0:Int)≤s3.1∧s3.1<(s3.2.length:Int) then if(0:Int)≤s3.1∧s3.1<(s3.2.length:Int) then if(0:Int)≤IntKind.i64.wrap (s3.1 - (1:Int))∧IntKind.i64.wrap (s3.1 - (1:Int))<
 (↑(List.length (List.set s3.2 (Int.toNat s3.1) (List.getD s3.2 (Int.toNat (IntKind.i64.wrap (s3.1 - (1:Int)))) (List.replicate (2:Nat) (0:Int))))):Int) then some (Sum.inl (IntKind.i64.wrap (s3.1 - (1:Int)),List.set (List.set s3.2
 (Int.toNat s3.1) (List.getD s3.2 (Int.toNat (IntKind.i64.wrap (s3.1 - (1:Int)))) (List.replicate (2:Nat) (0:Int)))) (Int.toNat (IntKind.i64.wrap (s3.1 - (1:Int)))) (List.getD s3.2 (Int.toNat s3.1) (List.replicate (2:Nat) (0:
 Int))))) else none else none else none else none else none else none else some (Sum.inr s3.2)) (IntKind.i64.wrap (v2.1 - (1:Int)),List.set (List.set v2.2 (Int.toNat v2.1) (List.getD v2.2 (Int.toNat (IntKind.i64.wrap (v2.1 - (1:Int))))
 (List.replicate (2:Nat) (0:Int)))) (Int.toNat (IntKind.i64.wrap (v2.1 - (1:Int)))) (List.getD v2.2 (Int.toNat v2.1) (List.replicate (2:Nat) (0:Int))))) fun(v3:List (List Int))=>some v3 else some (List.set (List.set v2.2
 (Int.toNat v2.1) (List.getD v2.2 (Int.toNat (IntKind.i64.wrap (v2.1 - (1:Int)))) (List.replicate (2:Nat) (0:Int)))) (Int.toNat (IntKind.i64.wrap (v2.1 - (1:Int)))) (List.getD v2.2 (Int.toNat v2.1) (List.replicate (2:Nat) (0:
 Int))))) fun(v3:List (List Int))=>if decide (IntKind.i64.wrap (x.2.1 - v2.1)≥(2:Int))=true then Option.bind (iter (fun(s4:Int×List (List Int))=>if decide (s4.1<x.2.1)=true then if(0:Int)≤s4.1∧s4.1<(s4.2.length
 :Int) then if(0:Int)≤IntKind.i64.wrap (s4.1 - (1:Int))∧IntKind.i64.wrap (s4.1 - (1:Int))<(s4.2.length:Int) then Option.bind (Ld.f71F (List.getD s4.2 (Int.toNat s4.1) (List.replicate (2:Nat) (0:Int)),List.getD s4.2
 (Int.toNat (IntKind.i64.wrap (s4.1 - (1:Int)))) (List.replicate (2:Nat) (0:Int)))) fun v5=>if(!decide (v5<(0:Int)))=true then some (Sum.inr s4.2) else if(0:Int)≤IntKind.i64.wrap (s4.1 - (1:Int))∧IntKind.i64.wrap
 (s4.1 - (1:Int))<(s4.2.length:Int) then if(0:Int)≤s4.1∧s4.1<(s4.2.length:Int) then if(0:Int)≤s4.1∧s4.1<(s4.2.length:Int) then if(0:Int)≤IntKind.i64.wrap (s4.1 - (1:Int))∧IntKind.i64.wrap (s4.1 - (1:
 Int))<(↑(List.length (List.set s4.2 (Int.toNat s4.1) (List.getD s4.2 (Int.toNat (IntKind.i64.wrap (s4.1 - (1:Int)))) (List.replicate (2:Nat) (0:Int))))):Int) then some (Sum.inl (IntKind.i64.wrap (s4.1+(1:Int)),List.set
 (List.set s4.2 (Int.toNat s4.1) (List.getD s4.2 (Int.toNat (IntKind.i64.wrap (s4.1 - (1:Int)))) (List.replicate (2:Nat) (0:Int)))) (Int.toNat (IntKind.i64.wrap (s4.1 - (1:Int)))) (List.getD s4.2 (Int.toNat s4.1) (List.replicate (2:
 Nat) (0:Int))))) else none else none else none else none else none else none else some (Sum.inr s4.2)) (IntKind.i64.wrap (v2.1+(1:Int)),v3)) fun(v4:List (List Int))=>some (Sum.inl (v2.1,IntKind.i64.wrap (s1.2.1+(1:Int)),
 v4)) else some (Sum.inl (v2.1,IntKind.i64.wrap (s1.2.1+(1:Int)),v3)) else none else none else none else none else some (Sum.inr (Sum.inl s1.2.2))) (IntKind.i64.wrap (x.1+(1:Int)),(0:Int),x.2.2)) fun(v1:List (List Int) ⊕
 Bool×List (List Int))=>Sum.elim (fun(p2:List (List Int))=>some (false,p2)) (fun(q2:Bool×List (List Int))=>some (q2.1,q2.2)) v1
theorem Ld.f91eq: ∀ x,zl Ld.C Ld.f91Γ Ld.f91sig Ld.f91ann Go.Proofs.Tryd.f91 x=Ld.f91F x:=by
 intro x
 kernel_rfl
noncomputable def Ld.f91con:Con:=⟨91,Ld.f91sig,Ld.f91F⟩
theorem Ld.f91ok:Con.Ok Go.Proofs.Tryd.prog Ld.C Ld.f91con:=
 zb (Γ:=Ld.f91Γ) (an:=Ld.f91ann) ⟨Ld.Cok,(List.forall_mem_cons.2 ⟨Ld.f71ok,(fun _ h=>nomatch h)⟩),Ld.mixed⟩ Go.Proofs.Tryd.func91 rfl rfl (fun x y h=>(Ld.f91eq x).trans h) (by decide)
def Ld.f92sig:Sig:=⟨⟨[.own 0, .hole (.int .i64), .hole (.int .i64), .hole (.int .i64), .fnc 71 0], [.arr 85 (.arr 2 (.int .i64))]⟩,⟨[.hole (.int .i64)], [.arr 85 (.arr 2 (.int .i64))]⟩⟩
noncomputable def Ld.f92Γ:List Con:= [Ld.f71con]
def Ld.f92ann:Ann:=(.seq .leaf (.seq (.eff 1 [] [0,0,0,0,0,0,48,112,0,0,768,1792,4083,8179,16383,32767]) (.seq .leaf (.seq (.block (.loop ⟨.normal, [(11, .hole (.int .i64)),(12, .hole (.int .i64))], [.arr 85 (.arr 2
 (.int .i64))]⟩ [⟨(.exit 0), [(11, .hole (.int .i64))], [.arr 85 (.arr 2 (.int .i64))]⟩] (.block (.seq (.block (.loop ⟨.normal, [(11, .hole (.int .i64))], [.arr 85 (.arr 2 (.int .i64))]⟩ [⟨(.exit 2), [(11, .hole (.int .i64))], [.arr 85 (.arr
 2 (.int .i64))]⟩] (.seq (.seq (.join [⟨.normal, [(47, .hole .bool)], [.arr 85 (.arr 2 (.int .i64))]⟩] .leaf) (.cond .leaf .leaf)) (.block .leaf)))) (.seq (.block (.loop ⟨.normal, [(12, .hole (.int .i64))], [.arr 85 (.arr 2 (.int .i64))]⟩
 [⟨(.exit 4), [(12, .hole (.int .i64))], [.arr 85 (.arr 2 (.int .i64))]⟩] (.seq (.seq (.join [⟨.normal, [(65, .hole .bool)], [.arr 85 (.arr 2 (.int .i64))]⟩] .leaf) (.cond .leaf .leaf)) (.block .leaf)))) (.seq (.seq .leaf (.cond .leaf
 .leaf)) (.seq (.eff 1 [] [0,0,0,0,0,0,48,112,0,0,768,1792,4083,8179,16383,32767]) (.seq .leaf .leaf)))))))) (.seq .leaf .leaf)))))
noncomputable def Ld.f92F:Int×Int×Int×List (List Int)→Option (Int×List (List Int)):=fun(x:Int×Int×Int×List (List Int))=>if(0:Int)≤x.2.2.1∧x.2.2.1<(x.2.2.2.length:Int) then if(0:Int)≤x.1∧x.1<
 (x.2.2.2.length:Int) then if(0:Int)≤x.1∧x.1<(x.2.2.2.length:Int) then if(0:Int)≤x.2.2.1∧x.2.2.1<(↑(List.length (List.set x.2.2.2 (Int.toNat x.1) (List.getD x.2.2.2 (Int.toNat x.2.2.1) (List.replicate (2:Nat) (0:
 Int))))):Int) then Option.bind (iter (fun(s1:Int×Int×List (List Int))=>Option.bind (iter (fun(s2:Int×List (List Int))=>Option.bind (if decide (s2.1≤s1.2.1)=true then if(0:Int)≤x.1∧x.1<(s2.2.length:Int) then
 if(0:Int)≤s2.1∧s2.1<(s2.2.length:Int) then Option.bind (Ld.f71F (List.getD s2.2 (Int.toNat x.1) (List.replicate (2:Nat) (0:Int)),List.getD s2.2 (Int.toNat s2.1) (List.replicate (2:Nat) (0:Int)))) fun v3=>some (!decide
 (v3<(0:Int)),s2.2) else none else none else some (false,s2.2)) fun(v3:Bool×List (List Int))=>if v3.1=true then some (Sum.inl (IntKind.i64.wrap (s2.1+(1:Int)),v3.2)) else some (Sum.inr (s2.1,v3.2))) (s1.1,s1.2.2)) fun
 (v2:Int×List (List Int))=>Option.bind (iter (fun(s3:Int×List (List Int))=>Option.bind (if decide (v2.1≤s3.1)=true then if(0:Int)≤x.1∧x.1<(s3.2.length:Int) then if(0:Int)≤s3.1∧s3.1<(s3.2.length:Int)
 then Option.bind (Ld.f71F (List.getD s3.2 (Int.toNat x.1) (List.replicate (2:Nat) (0:Int)),List.getD s3.2 (Int.toNat s3.1) (List.replicate (2:Nat) (0:Int)))) fun v4=>some (decide (v4<(0:Int)),s3.2) else none else none else
 some (false,s3.2)) fun(v4:Bool×List (List Int))=>if v4.1=true then some (Sum.inl (IntKind.i64.wrap (s3.1 - (1:Int)),v4.2)) else some (Sum.inr (s3.1,v4.2))) (s1.2.1,v2.2)) fun(v3:Int×List (List Int))=>if decide (v2.1 >
 v3.1)=true then some (Sum.inr (v2.1,v3.2)) else if(0:Int)≤v3.1∧v3.1<(v3.2.length:Int) then if(0:Int)≤v2.1∧v2.1<(v3.2.length:Int) then if(0:Int)≤v2.1∧v2.1<(v3.2.length:Int) then if(0:Int)≤v3.1∧v3.1
 <(↑(List.length (List.set v3.2 (Int.toNat v2.1) (List.getD v3.2 (Int.toNat v3.1) (List.replicate (2:Nat) (0:Int))))):Int) then some (Sum.inl (IntKind.i64.wrap (v2.1+(1:Int)),IntKind.i64.wrap (v3.1 - (1:Int)),List.set
 (List.set v3.2 (Int.toNat v2.1) (List.getD v3.2 (Int.toNat v3.1) (List.replicate (2:Nat) (0:Int)))) (Int.toNat v3.1) (List.getD v3.2 (Int.toNat v2.1) (List.replicate (2:Nat) (0:Int))))) else none else none else none else none)
 (IntKind.i64.wrap (x.1+(1:Int)),IntKind.i64.wrap (x.2.1 - (1:Int)),List.set (List.set x.2.2.2 (Int.toNat x.1) (List.getD x.2.2.2 (Int.toNat x.2.2.1) (List.replicate (2:Nat) (0:Int)))) (Int.toNat x.2.2.1) (List.getD x.2.2.2
 (Int.toNat x.1) (List.replicate (2:Nat) (0:Int))))) fun(v1:Int×List (List Int))=>some (v1.1,v1.2) else none else none else none else none
theorem Ld.f92eq: ∀ x,zl Ld.C Ld.f92Γ Ld.f92sig Ld.f92ann Go.Proofs.Tryd.f92 x=Ld.f92F x:=by
 intro x
 kernel_rfl
noncomputable def Ld.f92con:Con:=⟨92,Ld.f92sig,Ld.f92F⟩
theorem Ld.f92ok:Con.Ok Go.Proofs.Tryd.prog Ld.C Ld.f92con:=
 zb (Γ:=Ld.f92Γ) (an:=Ld.f92ann) ⟨Ld.Cok,(List.forall_mem_cons.2 ⟨Ld.f71ok,(fun _ h=>nomatch h)⟩),Ld.mixed⟩ Go.Proofs.Tryd.func92 rfl rfl (fun x y h=>(Ld.f92eq x).trans h) (by decide)
def Ld.f93sig:Sig:=⟨⟨[.own 0, .hole (.int .i64), .hole (.int .i64), .hole (.int .i64), .fnc 71 0], [.arr 85 (.arr 2 (.int .i64))]⟩,⟨[.hole (.int .i64), .hole .bool], [.arr 85 (.arr 2 (.int .i64))]⟩⟩
noncomputable def Ld.f93Γ:List Con:= [Ld.f71con]
def Ld.f93ann:Ann:=(.seq .leaf (.seq (.eff 1 [] [0,0,0,0,0,0,48,112,0,0,768,1792,4083,8179,16383,32767]) (.seq .leaf (.seq (.block (.loop ⟨.normal, [(12, .hole (.int .i64))], [.arr 85 (.arr 2 (.int .i64))]⟩ [⟨(.exit 0),
 [(12, .hole (.int .i64))], [.arr 85 (.arr 2 (.int .i64))]⟩] (.seq (.seq (.join [⟨.normal, [(47, .hole .bool)], [.arr 85 (.arr 2 (.int .i64))]⟩] .leaf) (.cond .leaf .leaf)) (.block .leaf)))) (.seq (.block (.loop ⟨.normal, [(13, .hole (.int
 .i64))], [.arr 85 (.arr 2 (.int .i64))]⟩ [⟨(.exit 2), [(13, .hole (.int .i64))], [.arr 85 (.arr 2 (.int .i64))]⟩] (.seq (.seq (.join [⟨.normal, [(66, .hole .bool)], [.arr 85 (.arr 2 (.int .i64))]⟩] .leaf) (.cond .leaf .leaf)) (.block
 .leaf)))) (.seq (.seq .leaf (.cond (.seq (.eff 1 [] [0,0,0,0,0,0,48,112,0,0,768,1792,4083,8179,16383,32767]) (.seq .leaf .leaf)) .leaf)) (.seq (.eff 1 [] [0,0,0,0,0,0,48,112,0,0,768,1792,4083,8179,16383,32767])
 (.seq .leaf (.seq .leaf (.seq (.block (.loop ⟨.normal, [(12, .hole (.int .i64)),(13, .hole (.int .i64))], [.arr 85 (.arr 2 (.int .i64))]⟩ [⟨(.exit 4), [(13, .hole (.int .i64))], [.arr 85 (.arr 2 (.int .i64))]⟩] (.block (.seq (.block (.loop
 ⟨.normal, [(12, .hole (.int .i64))], [.arr 85 (.arr 2 (.int .i64))]⟩ [⟨(.exit 6), [(12, .hole (.int .i64))], [.arr 85 (.arr 2 (.int .i64))]⟩] (.seq (.seq (.join [⟨.normal, [(120, .hole .bool)], [.arr 85 (.arr 2 (.int .i64))]⟩] .leaf) (.cond
 .leaf .leaf)) (.block .leaf)))) (.seq (.block (.loop ⟨.normal, [(13, .hole (.int .i64))], [.arr 85 (.arr 2 (.int .i64))]⟩ [⟨(.exit 8), [(13, .hole (.int .i64))], [.arr 85 (.arr 2 (.int .i64))]⟩] (.seq (.seq (.join [⟨.normal, [(139, .hole
 .bool)], [.arr 85 (.arr 2 (.int .i64))]⟩] .leaf) (.cond .leaf .leaf)) (.block .leaf)))) (.seq (.seq .leaf (.cond .leaf .leaf)) (.seq (.eff 1 [] [0,0,0,0,0,0,48,112,0,0,768,1792,4083,8179,16383,32767]) (.seq .leaf
 .leaf)))))))) (.seq (.eff 1 [] [0,0,0,0,0,0,48,112,0,0,768,1792,4083,8179,16383,32767]) (.seq .leaf .leaf))))))))))))
noncomputable def Ld.f93F:Int×Int×Int×List (List Int)→Option (Int×Bool×List (List Int)):=fun(x:Int×Int×Int×List (List Int))=>if(0:Int)≤x.2.2.1∧x.2.2.1<(x.2.2.2.length:Int) then if(0:Int)≤x.1∧x.1
 <(x.2.2.2.length:Int) then if(0:Int)≤x.1∧x.1<(x.2.2.2.length:Int) then if(0:Int)≤x.2.2.1∧x.2.2.1<(↑(List.length (List.set x.2.2.2 (Int.toNat x.1) (List.getD x.2.2.2 (Int.toNat x.2.2.1) (List.replicate (2:Nat) (0:
 Int))))):Int) then Option.bind (iter (fun(s1:Int×List (List Int))=>Option.bind (if decide (s1.1≤IntKind.i64.wrap (x.2.1 - (1:Int)))=true then if(0:Int)≤s1.1∧s1.1<(s1.2.length:Int) then if(0:Int)≤x.1∧x.1<
 (s1.2.length:Int) then Option.bind (Ld.f71F (List.getD s1.2 (Int.toNat s1.1) (List.replicate (2:Nat) (0:Int)),List.getD s1.2 (Int.toNat x.1) (List.replicate (2:Nat) (0:Int)))) fun v2=>some (decide (v2<(0:Int)),s1.2) else
 none else none else some (false,s1.2)) fun(v2:Bool×List (List Int))=>if v2.1=true then some (Sum.inl (IntKind.i64.wrap (s1.1+(1:Int)),v2.2)) else some (Sum.inr (s1.1,v2.2))) (IntKind.i64.wrap (x.1+(1:Int)),List.set
 (List.set x.2.2.2 (Int.toNat x.1) (List.getD x.2.2.2 (Int.toNat x.2.2.1) (List.replicate (2:Nat) (0:Int)))) (Int.toNat x.2.2.1) (List.getD x.2.2.2 (Int.toNat x.1) (List.replicate (2:Nat) (0:Int))))) fun(v1:Int×List (List Int))
 =>Option.bind (iter (fun(s2:Int×List (List Int))=>Option.bind (if decide (v1.1≤s2.1)=true then if(0:Int)≤s2.1∧s2.1<(s2.2.length:Int) then if(0:Int)≤x.1∧x.1<(s2.2.length:Int) then Option.bind (Ld.f71F
 (List.getD s2.2 (Int.toNat s2.1) (List.replicate (2:Nat) (0:Int)),List.getD s2.2 (Int.toNat x.1) (List.replicate (2:Nat) (0:Int)))) fun v3=>some (!decide (v3<(0:Int)),s2.2) else none else none else some (false,s2.2)) fun
 (v3:Bool×List (List Int))=>if v3.1=true then some (Sum.inl (IntKind.i64.wrap (s2.1 - (1:Int)),v3.2)) else some (Sum.inr (s2.1,v3.2))) (IntKind.i64.wrap (x.2.1 - (1:Int)),v1.2)) fun(v2:Int×List (List Int))=>if decide
 (v1.1 > v2.1)=true then if(0:Int)≤x.1∧x.1<(v2.2.length:Int) then if(0:Int)≤v2.1∧v2.1<(v2.2.length:Int) then if(0:Int)≤v2.1∧v2.1<(v2.2.length:Int) then if(0:Int)≤x.1∧x.1<(↑(List.length (List.set
 v2.2 (Int.toNat v2.1) (List.getD v2.2 (Int.toNat x.1) (List.replicate (2:Nat) (0:Int))))):Int) then some (v2.1,true,List.set (List.set v2.2 (Int.toNat v2.1) (List.getD v2.2 (Int.toNat x.1) (List.replicate (2:Nat) (0:Int))))
 (Int.toNat x.1) (List.getD v2.2 (Int.toNat v2.1) (List.replicate (2:Nat) (0:Int)))) else none else none else none else none else if(0:Int)≤v2.1∧v2.1<(v2.2.length:Int) then if(0:Int)≤v1.1∧v1.1<(v2.2.length:Int) then
 if(0:Int)≤v1.1∧v1.1<(v2.2.length:Int) then if(0:Int)≤v2.1∧v2.1<(↑(List.length (List.set v2.2 (Int.toNat v1.1) (List.getD v2.2 (Int.toNat v2.1) (List.replicate (2:Nat) (0:Int))))):Int) then Option.bind (iter (fun
 (s3:Int×Int×List (List Int))=>Option.bind (iter (fun(s4:Int×List (List Int))=>Option.bind (if decide (s4.1≤s3.2.1)=true then if(0:Int)≤s4.1∧s4.1<(s4.2.length:Int) then if(0:Int)≤x.1∧x.1<(s4.2.length:
 Int) then Option.bind (Ld.f71F (List.getD s4.2 (Int.toNat s4.1) (List.replicate (2:Nat) (0:Int)),List.getD s4.2 (Int.toNat x.1) (List.replicate (2:Nat) (0:Int)))) fun v5=>some (decide (v5<(0:Int)),s4.2) else none else none
 else some (false,s4.2)) fun(v5:Bool×List (List Int))=>if v5.1=true then some (Sum.inl (IntKind.i64.wrap (s4.1+(1:Int)),v5.2)) else some (Sum.inr (s4.1,v5.2))) (s3.1,s3.2.2)) fun(v4:Int×List (List Int))=>Option.bind
 (iter (fun(s5:Int×List (List Int))=>Option.bind (if decide (v4.1≤s5.1)=true then if(0:Int)≤s5.1∧s5.1<(s5.2.length:Int) then if(0:Int)≤x.1∧x.1<(s5.2.length:Int) then Option.bind (Ld.f71F (List.getD s5.2
 (Int.toNat s5.1) (List.replicate (2:Nat) (0:Int)),List.getD s5.2 (Int.toNat x.1) (List.replicate (2:Nat) (0:Int)))) fun v6=>some (!decide (v6<(0:Int)),s5.2) else none else none else some (false,s5.2)) fun(v6:Bool×List
 (List Int))=>if v6.1=true then some (Sum.inl (IntKind.i64.wrap (s5.1 - (1:Int)),v6.2)) else some (Sum.inr (s5.1,v6.2))) (s3.2.1,v4.2)) fun(v5:Int×List (List Int))=>if decide (v4.1 > v5.1)=true then some (Sum.inr (v5.1,
 v5.2)) else if(0:Int)≤v5.1∧v5.1<(v5.2.length:Int) then if(0:Int)≤v4.1∧v4.1<(v5.2.length:Int) then if(0:Int)≤v4.1∧v4.1<(v5.2.length:Int) then if(0:Int)≤v5.1∧v5.1<(↑(List.length (List.set v5.2
 (Int.toNat v4.1) (List.getD v5.2 (Int.toNat v5.1) (List.replicate (2:Nat) (0:Int))))):Int) then some (Sum.inl (IntKind.i64.wrap (v4.1+(1:Int)),IntKind.i64.wrap (v5.1 - (1:Int)),List.set (List.set v5.2 (Int.toNat v4.1)
 (List.getD v5.2 (Int.toNat v5.1) (List.replicate (2:Nat) (0:Int)))) (Int.toNat v5.1) (List.getD v5.2 (Int.toNat v4.1) (List.replicate (2:Nat) (0:Int))))) else none else none else none else none) (IntKind.i64.wrap (v1.1+(1:Int)),
 IntKind.i64.wrap (v2.1 - (1:Int)),List.set (List.set v2.2 (Int.toNat v1.1) (List.getD v2.2 (Int.toNat v2.1) (List.replicate (2:Nat) (0:Int)))) (Int.toNat v2.1) (List.getD v2.2 (Int.toNat v1.1) (List.replicate (2:Nat) (0:Int)))))
 fun(v3:Int×List (List Int))=>if(0:Int)≤x.1∧x.1<(v3.2.length:Int) then if(0:Int)≤v3.1∧v3.1<(v3.2.length:Int) then if(0:Int)≤v3.1∧v3.1<(v3.2.length:Int) then if(0:Int)≤x.1∧x.1<(↑(List.length
 (List.set v3.2 (Int.toNat v3.1) (List.getD v3.2 (Int.toNat x.1) (List.replicate (2:Nat) (0:Int))))):Int) then some (v3.1,false,List.set (List.set v3.2 (Int.toNat v3.1) (List.getD v3.2 (Int.toNat x.1) (List.replicate (2:Nat) (0:
 Int)))) (Int.toNat x.1) (List.getD v3.2 (Int.toNat v3.1) (List.replicate (2:Nat) (0:Int)))) else none else none else none else none else none else none else none else none else none else none else none else none
theorem Ld.f93eq: ∀ x,zl Ld.C Ld.f93Γ Ld.f93sig Ld.f93ann Go.Proofs.Tryd.f93 x=Ld.f93F x:=by
 intro x
 kernel_rfl
noncomputable def Ld.f93con:Con:=⟨93,Ld.f93sig,Ld.f93F⟩
theorem Ld.f93ok:Con.Ok Go.Proofs.Tryd.prog Ld.C Ld.f93con:=
 zb (Γ:=Ld.f93Γ) (an:=Ld.f93ann) ⟨Ld.Cok,(List.forall_mem_cons.2 ⟨Ld.f71ok,(fun _ h=>nomatch h)⟩),Ld.mixed⟩ Go.Proofs.Tryd.func93 rfl rfl (fun x y h=>(Ld.f93eq x).trans h) (by decide)
def Ld.f84sig:Sig:=⟨⟨[.own 0, .hole (.int .i64), .hole (.int .i64), .hole (.int .i64), .fnc 71 0], [.arr 85 (.arr 2 (.int .i64))]⟩,⟨[], [.arr 85 (.arr 2 (.int .i64))]⟩⟩
noncomputable def Ld.f84Γ (r84:Int×Int×Int×List (List Int)→Option (List (List Int))):List Con:= [Ld.f86con,Ld.f87con,Ld.f88con,Ld.f89con,Ld.f90con,Ld.f91con,Ld.f92con,Ld.f93con,⟨84,Ld.f84sig,r84⟩,Ld.f71con]
def Ld.f84ann:Ann:=(.seq .leaf (.seq .leaf (.block (.loop ⟨.normal, [(3, .hole (.int .i64)),(1, .hole (.int .i64)),(11, .hole .bool),(10, .hole .bool),(2, .hole (.int .i64))], [.arr 85 (.arr 2 (.int .i64))]⟩ [⟨.ret, [], [.arr 85
 (.arr 2 (.int .i64))]⟩] (.block (.seq .leaf (.seq (.seq .leaf (.cond (.seq .leaf .leaf) .leaf)) (.seq (.seq .leaf (.cond (.seq .leaf .leaf) .leaf)) (.seq (.join [⟨.normal, [(3, .hole (.int .i64))], [.arr 85 (.arr 2 (.int .i64))]⟩] (.seq
 .leaf (.cond (.seq .leaf .leaf) .leaf))) (.seq .leaf (.seq (.join [⟨.normal, [(13, .hole (.int .i64)),(14, .hole (.int .i64))], [.arr 85 (.arr 2 (.int .i64))]⟩] (.seq .leaf (.cond (.seq .leaf (.seq .leaf .leaf)) .leaf))) (.seq (.join
 [⟨.ret, [], [.arr 85 (.arr 2 (.int .i64))]⟩,⟨.normal, [], [.arr 85 (.arr 2 (.int .i64))]⟩] (.seq (.join [⟨.normal, [(75, .hole .bool)], [.arr 85 (.arr 2 (.int .i64))]⟩] .leaf) (.cond (.seq .leaf (.cond .leaf .leaf)) .leaf))) (.seq (.seq
 (.join [⟨.normal, [(97, .hole .bool)], [.arr 85 (.arr 2 (.int .i64))]⟩] .leaf) (.cond (.seq .leaf (.seq .leaf .leaf)) .leaf)) (.seq .leaf (.seq .leaf (.seq .leaf (.seq .leaf (.seq .leaf (.cond (.seq .leaf (.seq .leaf .leaf)) (.seq .leaf
 (.seq .leaf .leaf)))))))))))))))))))))
noncomputable def Ld.f84S (r84:Int×Int×Int×List (List Int)→Option (List (List Int))):Int×Int×Int×List (List Int)→Option (List (List Int)):=fun(x:Int×Int×Int×List (List Int))=>Option.bind (iter (fun(s1:Int
 ×Int×Bool×Bool×Int×List (List Int))=>if decide (IntKind.i64.wrap (s1.2.2.2.2.1 - s1.2.1)≤(12:Int))=true then Option.bind (Ld.f86F (s1.2.1,s1.2.2.2.2.1,s1.2.2.2.2.2)) fun(v2:List (List Int))=>some (Sum.inr v2) else if
 (s1.1==(0:Int))=true then Option.bind (Ld.f87F (s1.2.1,s1.2.2.2.2.1,s1.2.2.2.2.2)) fun(v2:List (List Int))=>some (Sum.inr v2) else Option.bind (if(!s1.2.2.2.1)=true then Option.bind (Ld.f88F (s1.2.1,s1.2.2.2.2.1,
 s1.2.2.2.2.2)) fun(v2:List (List Int))=>some (IntKind.i64.wrap (s1.1 - (1:Int)),v2) else some (s1.1,s1.2.2.2.2.2)) fun(v2:Int×List (List Int))=>Option.bind (Ld.f89F (s1.2.1,s1.2.2.2.2.1,v2.2)) fun(v3:Int×Int×List
 (List Int))=>Option.bind (if(v3.2.1==(2:Int))=true then Option.bind (Ld.f90F (s1.2.1,s1.2.2.2.2.1,v3.2.2)) fun(v4:List (List Int))=>some (IntKind.i64.wrap (IntKind.i64.wrap (s1.2.2.2.2.1 - (1:Int)) - IntKind.i64.wrap (v3.1
 - s1.2.1)),(1:Int),v4) else some (v3.1,v3.2.1,v3.2.2)) fun(v4:Int×Int×List (List Int))=>Option.bind (Option.bind (if s1.2.2.2.1=true then if s1.2.2.1=true then some (v4.2.1==(1:Int),v4.2.2) else some (false,v4.2.2)
 else some (false,v4.2.2)) fun(v5:Bool×List (List Int))=>if v5.1=true then Option.bind (Ld.f91F (s1.2.1,s1.2.2.2.2.1,v5.2)) fun(v6:Bool×List (List Int))=>if v6.1=true then some (Sum.inl v6.2) else some (Sum.inr v6.2)
 else some (Sum.inr v5.2)) fun(v5:List (List Int) ⊕ List (List Int))=>Sum.elim (fun(p6:List (List Int))=>some (Sum.inr p6)) (fun(q6:List (List Int))=>Option.bind (if decide (s1.2.1 > (0:Int))=true then if(0:Int)≤
 IntKind.i64.wrap (s1.2.1 - (1:Int))∧IntKind.i64.wrap (s1.2.1 - (1:Int))<(q6.length:Int) then if(0:Int)≤v4.1∧v4.1<(q6.length:Int) then Option.bind (Ld.f71F (List.getD q6 (Int.toNat (IntKind.i64.wrap (s1.2.1 - (1:
 Int)))) (List.replicate (2:Nat) (0:Int)),List.getD q6 (Int.toNat v4.1) (List.replicate (2:Nat) (0:Int)))) fun v7=>some (!decide (v7<(0:Int)),q6) else none else none else some (false,q6)) fun(v7:Bool×List (List Int))=>
 if v7.1=true then Option.bind (Ld.f92F (s1.2.1,s1.2.2.2.2.1,v4.1,v7.2)) fun(v8:Int×List (List Int))=>some (Sum.inl (v2.1,v8.1,s1.2.2.1,s1.2.2.2.1,s1.2.2.2.2.1,v8.2)) else Option.bind (Ld.f93F (s1.2.1,s1.2.2.2.2.1,v4.1,
 v7.2)) fun(v8:Int×Bool×List (List Int))=>if decide (IntKind.i64.wrap (v8.1 - s1.2.1)<IntKind.i64.wrap (s1.2.2.2.2.1 - v8.1))=true then Option.bind (r84 (s1.2.1,v8.1,v2.1,v8.2.2)) fun(v9:List (List Int))=>some (Sum.inl
 (v2.1,IntKind.i64.wrap (v8.1+(1:Int)),v8.2.1,decide (IntKind.i64.wrap (v8.1 - s1.2.1)≥IntKind.i64.wrap (Int.tdiv (IntKind.i64.wrap (s1.2.2.2.2.1 - s1.2.1)) (8:Int))),s1.2.2.2.2.1,v9)) else Option.bind (r84 (IntKind.i64.wrap
 (v8.1+(1:Int)),s1.2.2.2.2.1,v2.1,v8.2.2)) fun(v9:List (List Int))=>some (Sum.inl (v2.1,s1.2.1,v8.2.1,decide (IntKind.i64.wrap (s1.2.2.2.2.1 - v8.1)≥IntKind.i64.wrap (Int.tdiv (IntKind.i64.wrap (s1.2.2.2.2.1 - s1.2.1)) (8:
 Int))),v8.1,v9))) v5) (x.2.2.1,x.1,true,true,x.2.1,x.2.2.2)) fun(v1:List (List Int))=>some v1
theorem Ld.f84eq (r84:Int×Int×Int×List (List Int)→Option (List (List Int))): ∀ x,zl Ld.C (Ld.f84Γ r84) Ld.f84sig Ld.f84ann Go.Proofs.Tryd.f84 x=Ld.f84S r84 x:=by
 intro x
 kernel_rfl
noncomputable def Ld.f84N:Nat→(Int×Int×Int×List (List Int)→Option (List (List Int)))
 |0=>fun _=>none
 |n+1=>Ld.f84S ((Ld.f84N n))
noncomputable def Ld.f84F:Int×Int×Int×List (List Int)→Option (List (List Int)):=(Ld.f84N Ld.fuel)
noncomputable def Ld.f84con:Con:=⟨84,Ld.f84sig,Ld.f84F⟩
theorem Ld.f84Nok: ∀ n,Con.Ok Go.Proofs.Tryd.prog Ld.C ⟨84,Ld.f84sig,(Ld.f84N n)⟩
 |0=>zb (Γ:= []) (an:= .leaf) ⟨Ld.Cok,(fun _ h=>nomatch h),Ld.mixed⟩ Go.Proofs.Tryd.func84 rfl rfl (fun x y h=>nomatch h) (by decide)
 |n+1=>have h:=Ld.f84Nok n
  zb (Γ:=Ld.f84Γ ((Ld.f84N n))) (an:=Ld.f84ann) ⟨Ld.Cok,(List.forall_mem_cons.2 ⟨Ld.f86ok,(List.forall_mem_cons.2 ⟨Ld.f87ok,(List.forall_mem_cons.2 ⟨Ld.f88ok,(List.forall_mem_cons.2 ⟨Ld.f89ok,(List.forall_mem_cons.2 ⟨Ld.f90ok,(List.forall_mem_cons.2 ⟨Ld.f91ok,(List.forall_mem_cons.2 ⟨Ld.f92ok,(List.forall_mem_cons.2 ⟨Ld.f93ok,(List.forall_mem_cons.2 ⟨h,(List.forall_mem_cons.2 ⟨Ld.f71ok,(fun _ h=>nomatch h)⟩)⟩)⟩)⟩)⟩)⟩)⟩)⟩)⟩)⟩),Ld.mixed⟩ Go.Proofs.Tryd.func84 rfl rfl (fun x y h=>(Ld.f84eq _ x).trans h) (by decide)
theorem Ld.f84ok:Con.Ok Go.Proofs.Tryd.prog Ld.C Ld.f84con:=(Ld.f84Nok Ld.fuel)
def Ld.f70sig:Sig:=⟨⟨[.own 0, .fnc 71 0], [.arr 85 (.arr 2 (.int .i64))]⟩,⟨[], [.arr 85 (.arr 2 (.int .i64))]⟩⟩
noncomputable def Ld.f70Γ:List Con:= [Ld.f85con,Ld.f84con,Ld.f71con]
def Ld.f70ann:Ann:=(.seq .leaf .leaf)
noncomputable def Ld.f70F:List (List Int)→Option (List (List Int)):=fun(x:List (List Int))=>Option.bind (Ld.f85F (IntKind.wrap IntKind.u64 (x.length:Int))) fun v1=>Option.bind (Ld.f84F ((0:Int),(x.length:Int),v1,x))
 fun(v2:List (List Int))=>some v2
theorem Ld.f70eq: ∀ x,zl Ld.C Ld.f70Γ Ld.f70sig Ld.f70ann Go.Proofs.Tryd.f70 x=Ld.f70F x:=by
 intro x
 kernel_rfl
noncomputable def Ld.f70con:Con:=⟨70,Ld.f70sig,Ld.f70F⟩
theorem Ld.f70ok:Con.Ok Go.Proofs.Tryd.prog Ld.C Ld.f70con:=
 zb (Γ:=Ld.f70Γ) (an:=Ld.f70ann) ⟨Ld.Cok,(List.forall_mem_cons.2 ⟨Ld.f85ok,(List.forall_mem_cons.2 ⟨Ld.f84ok,(List.forall_mem_cons.2 ⟨Ld.f71ok,(fun _ h=>nomatch h)⟩)⟩)⟩),Ld.mixed⟩ Go.Proofs.Tryd.func70 rfl rfl (fun x y h=>(Ld.f70eq x).trans h) (by decide)
def Ld.f47sig:Sig:=⟨⟨[.hole (.sl (.int .i64)), .hole (.sl (.int .i64))], []⟩,⟨[.hole (.sl (.arr 2 (.int .i64)))], []⟩⟩
noncomputable def Ld.f47Γ:List Con:= [Ld.other,Ld.f69con,Ld.f70con,Ld.f71con]
def Ld.f47ann:Ann:=(.seq .leaf (.scope 0 ⟨.normal, [(5, .own 0),(6, .own 1),(7, .hole (.int .i64))], [.arr 85 (.arr 2 (.int .i64)), .arr 103 (.st (.pair (.int .i64) (.int .i64)))]⟩ [⟨.ret, [(4, .own 0)], [.arr 85 (.arr 2 (.int
 .i64))]⟩] (.seq (.seq .leaf (.cond (.seq .leaf .leaf) .leaf)) (.seq .leaf (.seq .leaf (.seq .leaf (.seq .leaf (.seq (.seq .leaf (.cond (.seq .leaf (.seq (.block (.seq (.join [⟨.normal, [(62, .hole .bool)], []⟩] .leaf) (.cond .leaf (.seq
 (.join [⟨.normal, [(72, .hole .bool)], []⟩] .leaf) (.cond .leaf (.seq .leaf (.cond .leaf (.seq .leaf (.seq (.block (.loop ⟨.normal, [(11, .hole (.int .i64))], []⟩ [⟨(.exit 1), [(11, .hole (.int .i64))], []⟩] (.seq (.seq .leaf (.cond .leaf
 .leaf)) .leaf))) (.seq .leaf (.cond (.seq .leaf .leaf) .leaf))))))))))) (.seq .leaf .leaf))) .leaf)) (.seq .leaf (.seq .leaf .leaf)))))))) (.seq .leaf (.seq (.seq .leaf (.cond (.seq .leaf (.seq (.block (.seq (.join [⟨.normal, [(62, .hole
 .bool)], [.arr 85 (.arr 2 (.int .i64)), .arr 103 (.st (.pair (.int .i64) (.int .i64)))]⟩] .leaf) (.cond .leaf (.seq (.join [⟨.normal, [(72, .hole .bool)], [.arr 85 (.arr 2 (.int .i64)), .arr 103 (.st (.pair (.int .i64) (.int .i64)))]⟩]
 .leaf) (.cond .leaf (.seq .leaf (.cond .leaf (.seq .leaf (.seq (.block (.loop ⟨.normal, [(11, .hole (.int .i64))], [.arr 85 (.arr 2 (.int .i64)), .arr 103 (.st (.pair (.int .i64) (.int .i64)))]⟩ [⟨(.exit 1), [(11, .hole (.int .i64))], [.arr
 85 (.arr 2 (.int .i64)), .arr 103 (.st (.pair (.int .i64) (.int .i64)))]⟩] (.seq (.seq (.join [⟨.normal, [(44, .hole .bool)], [.arr 85 (.arr 2 (.int .i64)), .arr 103 (.st (.pair (.int .i64) (.int .i64)))]⟩] .leaf) (.cond .leaf .leaf))
 (.block .leaf)))) (.seq .leaf (.cond (.seq .leaf .leaf) .leaf))))))))))) (.seq .leaf .leaf))) .leaf)) (.seq .leaf (.seq .leaf .leaf))))))
noncomputable def Ld.f47F:List Int×List Int→Option (List (List Int)):=fun(x:List Int×List Int)=>Option.bind (Option.bind (if((x.1.length:Int)!=(x.2.length:Int))=true then some (Sum.inr []) else if decide ((0:Int)<
 (x.1.length:Int))=true then if(0:Int)≤(0:Int)∧(0:Int)<(x.1.length:Int) then Option.bind (Ld.otherF (List.getD x.1 (Int.toNat (0:Int)) (0:Int))) fun v1=>Option.bind (if(!v1.2.2)=true then some true else if(0:
 Int)≤(0:Int)∧(0:Int)<(x.2.length:Int) then some (List.getD x.2 (Int.toNat (0:Int)) (0:Int)!=(13:Int)) else none) fun v2=>if v2=true then some (Sum.inl (IntKind.i64.wrap ((0:Int)+(1:Int)), [], [])) else
 Option.bind (if v1.2.1=true then some ((0:Int)==(63:Int)) else some false) fun v3=>if v3=true then some (Sum.inl (IntKind.i64.wrap ((x.1.length:Int)+(1:Int)), [], [])) else if v1.2.1=true then if(0:Int)≤(0:Int)∧
 (0:Int)<(x.1.length:Int) then if zk (1:Nat) (16:Nat) then some (Sum.inl (IntKind.i64.wrap ((0:Int)+(1:Int)), [], [(List.getD x.1 (Int.toNat (0:Int)) (0:Int),(0:Int))])) else none else none else Option.bind (iter
 (fun(s4:Int)=>if decide (s4≥(0:Int))=true then none else some (Sum.inr s4)) (IntKind.i64.wrap ((0:Int) - (1:Int)))) fun v4=>if decide (v4≥(0:Int))=true then none else some (Sum.inl (IntKind.i64.wrap ((0:Int)+(1:
 Int)), [], [])) else none else Option.bind (Ld.f70F []) fun(v1:List (List Int))=>some (Sum.inr [])) fun(v1:Int×List (List Int)×List (Int×Int) ⊕ List (List Int))=>Sum.elim (fun(p2:Int×List (List Int)×List (Int×Int))
 =>iter (fun(s3:Int×List (List Int)×List (Int×Int))=>if decide (s3.1<(x.1.length:Int))=true then if(0:Int)≤s3.1∧s3.1<(x.1.length:Int) then Option.bind (Ld.otherF (List.getD x.1 (Int.toNat s3.1) (0:Int))) fun v4
 =>Option.bind (if(!v4.2.2)=true then some (true,s3.2.1,s3.2.2) else if(0:Int)≤s3.1∧s3.1<(x.2.length:Int) then some (List.getD x.2 (Int.toNat s3.1) (0:Int)!=(13:Int),s3.2.1,s3.2.2) else none) fun(v5:Bool×List
 (List Int)×List (Int×Int))=>if v5.1=true then some (Sum.inl (IntKind.i64.wrap (s3.1+(1:Int)),v5.2.1,v5.2.2)) else Option.bind (if v4.2.1=true then some ((v5.2.2.length:Int)==(63:Int),v5.2.1,v5.2.2) else some (false,
 v5.2.1,v5.2.2)) fun(v6:Bool×List (List Int)×List (Int×Int))=>if v6.1=true then some (Sum.inl (IntKind.i64.wrap ((x.1.length:Int)+(1:Int)),v6.2.1,v6.2.2)) else if v4.2.1=true then if(0:Int)≤s3.1∧s3.1<
 (x.1.length:Int) then if zk (List.length v6.2.2+(1:Nat)) (16:Nat) then some (Sum.inl (IntKind.i64.wrap (s3.1+(1:Int)),v6.2.1,v6.2.2++ [(List.getD x.1 (Int.toNat s3.1) (0:Int),s3.1)])) else none else none else
 Option.bind (iter (fun(s7:Int×List (List Int)×List (Int×Int))=>Option.bind (if decide (s7.1≥(0:Int))=true then if(0:Int)≤s7.1∧s7.1<(s7.2.2.length:Int) then Option.bind (Ld.f69F ((List.getD s7.2.2 (Int.toNat s7.1)
 ((0:Int),(0:Int))).1,v4.1)) fun v8=>some (!v8,s7.2.1,s7.2.2) else none else some (false,s7.2.1,s7.2.2)) fun(v8:Bool×List (List Int)×List (Int×Int))=>if v8.1=true then some (Sum.inl (IntKind.i64.wrap (s7.1 - (1:
 Int)),v8.2.1,v8.2.2)) else some (Sum.inr (s7.1,v8.2.1,v8.2.2))) (IntKind.i64.wrap ((v6.2.2.length:Int) - (1:Int)),v6.2.1,v6.2.2)) fun(v7:Int×List (List Int)×List (Int×Int))=>if decide (v7.1≥(0:Int))=true then if
 (0:Int)≤v7.1∧v7.1<(v7.2.2.length:Int) then if zk (List.length v7.2.1+(1:Nat)) (16:Nat) then if(0:Int)≤v7.1∧v7.1≤(v7.2.2.length:Int) then some (Sum.inl (IntKind.i64.wrap (s3.1+(1:Int)),v7.2.1++
 [[(List.getD v7.2.2 (Int.toNat v7.1) ((0:Int),(0:Int))).2,s3.1]],List.take (Int.toNat v7.1) v7.2.2)) else none else none else none else some (Sum.inl (IntKind.i64.wrap (s3.1+(1:Int)),v7.2.1,v7.2.2)) else none else Option.bind
 (Ld.f70F s3.2.1) fun(v4:List (List Int))=>some (Sum.inr v4)) p2) (fun(q2:List (List Int))=>some q2) v1) fun(v1:List (List Int))=>some v1
theorem Ld.f47eq: ∀ x,zl Ld.C Ld.f47Γ Ld.f47sig Ld.f47ann Go.Proofs.Tryd.f47 x=Ld.f47F x:=by
 intro x
 kernel_rfl
noncomputable def Ld.f47con:Con:=⟨47,Ld.f47sig,Ld.f47F⟩
theorem Ld.f47ok:Con.Ok Go.Proofs.Tryd.prog Ld.C Ld.f47con:=
 zb (Γ:=Ld.f47Γ) (an:=Ld.f47ann) ⟨Ld.Cok,(List.forall_mem_cons.2 ⟨Ld.otherok,(List.forall_mem_cons.2 ⟨Ld.f69ok,(List.forall_mem_cons.2 ⟨Ld.f70ok,(List.forall_mem_cons.2 ⟨Ld.f71ok,(fun _ h=>nomatch h)⟩)⟩)⟩)⟩),Ld.mixed⟩ Go.Proofs.Tryd.func47 rfl rfl (fun x y h=>(Ld.f47eq x).trans h) (by decide)
def Ld.f75sig:Sig:=⟨⟨[.hole (.int .i64)], []⟩,⟨[.hole (.int .i64)], []⟩⟩
noncomputable def Ld.f75Γ:List Con:= []
def Ld.f75ann:Ann:=(.seq .leaf (.seq (.seq .leaf (.block (.seq .leaf (.cond (.seq .leaf .leaf) (.seq (.join [⟨.normal, [(6, .hole .bool)], []⟩] (.seq .leaf (.cond .leaf (.seq .leaf (.cond .leaf .leaf))))) (.cond (.seq .leaf .leaf)
 .leaf)))))) (.seq .leaf .leaf)))
noncomputable def Ld.f75F:Int→Option (Int):=fun(x:Int)=>if(x==(0:Int))=true then some (0:Int) else Option.bind (if(x==(1:Int))=true then some true else if(x==(3:Int))=true then some true else some (x==(6
 :Int))) fun v1=>if v1=true then some (1:Int) else some (-1:Int)
theorem Ld.f75eq: ∀ x,zl Ld.C Ld.f75Γ Ld.f75sig Ld.f75ann Go.Proofs.Tryd.f75 x=Ld.f75F x:=by
 intro x
 kernel_rfl
noncomputable def Ld.f75con:Con:=⟨75,Ld.f75sig,Ld.f75F⟩
theorem Ld.f75ok:Con.Ok Go.Proofs.Tryd.prog Ld.C Ld.f75con:=
 zb (Γ:=Ld.f75Γ) (an:=Ld.f75ann) ⟨Ld.Cok,(fun _ h=>nomatch h),Ld.mixed⟩ Go.Proofs.Tryd.func75 rfl rfl (fun x y h=>(Ld.f75eq x).trans h) (by decide)
def Ld.f72sig:Sig:=⟨⟨[.own 0, .hole (.int .i64), .hole (.int .i64)], [.arr 3 (.int .i64)]⟩,⟨[.hole .bool, .hole .bool], [.arr 3 (.int .i64)]⟩⟩
noncomputable def Ld.f72Γ:List Con:= [Ld.f75con]
def Ld.f72ann:Ann:=(.seq .leaf (.seq .leaf (.seq (.seq .leaf (.block (.loop ⟨.normal, [(6, .hole .bool),(7, .hole .bool),(8, .hole (.int .i64))], [.arr 3 (.int .i64)]⟩ [⟨(.exit 0), [(6, .hole .bool),(7, .hole .bool)], [.arr 3 (.int
 .i64)]⟩] (.seq (.seq .leaf (.cond .leaf .leaf)) (.seq (.block (.seq .leaf (.block (.seq .leaf (.cond .leaf (.seq .leaf (.cond .leaf .leaf))))))) .leaf))))) (.seq .leaf .leaf))))
noncomputable def Ld.f72F:Int×Int×List Int→Option (Bool×Bool×List Int):=fun(x:Int×Int×List Int)=>Option.bind (iter (fun(s1:Bool×Bool×Int×List Int)=>if decide (s1.2.2.1<zgf x.2.1 (x.2.2.length:Int))=
 true then if(0:Int)≤s1.2.2.1∧s1.2.2.1<(s1.2.2.2.length:Int) then Option.bind (Ld.f75F (List.getD s1.2.2.2 (Int.toNat s1.2.2.1) (0:Int))) fun v2=>if(v2==(0:Int))=true then some (Sum.inl (true,s1.2.1,IntKind.i64.wrap
 (s1.2.2.1+(1:Int)),s1.2.2.2)) else if(v2==(1:Int))=true then some (Sum.inl (s1.1,true,IntKind.i64.wrap (s1.2.2.1+(1:Int)),s1.2.2.2)) else some (Sum.inl (s1.1,s1.2.1,IntKind.i64.wrap (s1.2.2.1+(1:Int)),s1.2.2.2))
 else none else some (Sum.inr (s1.1,s1.2.1,s1.2.2.2))) (false,false,zll (0:Int) x.1,x.2.2)) fun(v1:Bool×Bool×List Int)=>some (v1.1,v1.2.1,v1.2.2)
theorem Ld.f72eq: ∀ x,zl Ld.C Ld.f72Γ Ld.f72sig Ld.f72ann Go.Proofs.Tryd.f72 x=Ld.f72F x:=by
 intro x
 kernel_rfl
noncomputable def Ld.f72con:Con:=⟨72,Ld.f72sig,Ld.f72F⟩
theorem Ld.f72ok:Con.Ok Go.Proofs.Tryd.prog Ld.C Ld.f72con:=
 zb (Γ:=Ld.f72Γ) (an:=Ld.f72ann) ⟨Ld.Cok,(List.forall_mem_cons.2 ⟨Ld.f75ok,(fun _ h=>nomatch h)⟩),Ld.mixed⟩ Go.Proofs.Tryd.func72 rfl rfl (fun x y h=>(Ld.f72eq x).trans h) (by decide)
def Ld.f73sig:Sig:=⟨⟨[.ro (.st (.pair (.sl (.int .i64)) (.pair (.sl (.int .i64)) (.pair (.int .i64) (.int .i64))))), .hole (.int .i64)], []⟩,⟨[.hole (.int .i64)], []⟩⟩
noncomputable def Ld.f73Γ:List Con:= [Ld.f75con]
def Ld.f73ann:Ann:=(.seq .leaf (.seq (.seq .leaf (.block (.loop ⟨.normal, [(1, .hole (.int .i64))], []⟩ [⟨(.exit 0), [], []⟩,⟨.ret, [(4, .hole (.int .i64))], []⟩] (.seq (.seq .leaf (.cond .leaf .leaf)) (.seq (.block (.seq .leaf (.seq
 .leaf (.cond (.seq .leaf .leaf) .leaf)))) .leaf))))) (.seq .leaf .leaf)))
noncomputable def Ld.f73F:(List Int×List Int×Int×Int)×Int→Option (Int):=fun(x:(List Int×List Int×Int×Int)×Int)=>Option.bind (iter (fun(s1:Int)=>if decide (s1≥(0:Int))=true then if(0:Int)≤s1∧s1<
 (x.1.1.length:Int) then Option.bind (Ld.f75F (List.getD x.1.1 (Int.toNat s1) (0:Int))) fun v2=>if(v2 !=(-1:Int))=true then some (Sum.inr (Sum.inr v2)) else some (Sum.inl (IntKind.i64.wrap (s1 - (1:Int)))) else none else some
 (Sum.inr (Sum.inl ()))) (IntKind.i64.wrap (x.2 - (1:Int)))) fun v1=>Sum.elim (fun(p2:PUnit)=>some x.1.2.2.2) (fun(q2:Int)=>some q2) v1
theorem Ld.f73eq: ∀ x,zl Ld.C Ld.f73Γ Ld.f73sig Ld.f73ann Go.Proofs.Tryd.f73 x=Ld.f73F x:=by
 intro x
 kernel_rfl
noncomputable def Ld.f73con:Con:=⟨73,Ld.f73sig,Ld.f73F⟩
theorem Ld.f73ok:Con.Ok Go.Proofs.Tryd.prog Ld.C Ld.f73con:=
 zb (Γ:=Ld.f73Γ) (an:=Ld.f73ann) ⟨Ld.Cok,(List.forall_mem_cons.2 ⟨Ld.f75ok,(fun _ h=>nomatch h)⟩),Ld.mixed⟩ Go.Proofs.Tryd.func73 rfl rfl (fun x y h=>(Ld.f73eq x).trans h) (by decide)
def Ld.f48sig:Sig:=⟨⟨[.ptr 0 0, .hole (.arr 2 (.int .i64))], [.cells [.own 1, .hole (.sl (.int .i64)), .hole (.int .i64), .hole (.int .i64)], .arr 3 (.int .i64)]⟩,⟨[.hole (.int .i64)], [.cells [.own 2, .hole (.sl (.int .i64)), .hole
 (.int .i64), .hole (.int .i64)], .gone, .arr 3 (.int .i64)]⟩⟩
noncomputable def Ld.f48Γ:List Con:= [Ld.f72con,Ld.f73con]
def Ld.f48ann:Ann:=(.seq .leaf (.seq (.eff 3 [] [0,1,3,7,0,16,48,0,128,511,1023,2047,2047,4095,16383]) (.seq (.block (.seq (.join [⟨.normal, [(20, .hole .bool)], [.cells [.own 1, .hole (.sl (.int .i64)), .hole (.int .i64),
 .hole (.int .i64)], .arr 3 (.int .i64), .cells [.hole (.int .i64), .hole (.int .i64)]]⟩] .leaf) (.cond (.seq .leaf .leaf) (.seq (.join [⟨.normal, [(27, .hole .bool)], [.cells [.own 1, .hole (.sl (.int .i64)), .hole (.int .i64), .hole (.int
 .i64)], .arr 3 (.int .i64), .cells [.hole (.int .i64), .hole (.int .i64)]]⟩] (.seq (.join [⟨.normal, [(27, .hole .bool)], [.cells [.own 1, .hole (.sl (.int .i64)), .hole (.int .i64), .hole (.int .i64)], .arr 3 (.int .i64), .cells [.hole
 (.int .i64), .hole (.int .i64)]]⟩] .leaf) (.cond .leaf .leaf))) (.cond (.seq .leaf .leaf) .leaf))))) (.seq .leaf .leaf))))
noncomputable def Ld.f48F:List Int×List Int×Int×Int×List Int→Option (Int×List Int×Int×Int×List Int):=fun(x:List Int×List Int×Int×Int×List Int)=>if(0:Int)≤(0:Int)∧(0:Int)<(↑(2:Nat):Int)
 then if(0:Int)≤(1:Int)∧(1:Int)<(↑(2:Nat):Int) then Option.bind (Ld.f72F (IntKind.i64.wrap (List.getD x.1 (nat_lit 0) (0:Int)+(1:Int)),List.getD x.1 (nat_lit 1) (0:Int),x.2.2.2.2)) fun(v1:Bool×Bool×List Int)
 =>Option.bind (if(!v1.1)=true then some (!v1.2.1,x.2.1,x.2.2.1,x.2.2.2.1,v1.2.2,List.getD x.1 (nat_lit 0) (0:Int),List.getD x.1 (nat_lit 1) (0:Int)) else some (false,x.2.1,x.2.2.1,x.2.2.2.1,v1.2.2,List.getD x.1 (nat_lit
 0) (0:Int),List.getD x.1 (nat_lit 1) (0:Int))) fun(v2:Bool×List Int×Int×Int×List Int×Int×Int)=>if v2.1=true then some ((-1:Int),v2.2.1,v2.2.2.1,v2.2.2.2.1,v2.2.2.2.2.1) else Option.bind (Option.bind (if v1.1=
 true then some (v2.2.2.1==(0:Int),v2.2.1,v2.2.2.1,v2.2.2.2.1,v2.2.2.2.2.1,v2.2.2.2.2.2.1,v2.2.2.2.2.2.2) else some (false,v2.2.1,v2.2.2.1,v2.2.2.2.1,v2.2.2.2.2.1,v2.2.2.2.2.2.1,v2.2.2.2.2.2.2)) fun(v3:Bool×List Int×
 Int×Int×List Int×Int×Int)=>if v3.1=true then some (true,v3.2.1,v3.2.2.1,v3.2.2.2.1,v3.2.2.2.2.1,v3.2.2.2.2.2.1,v3.2.2.2.2.2.2) else if v1.2.1=true then some (v3.2.2.1==(1:Int),v3.2.1,v3.2.2.1,v3.2.2.2.1,
 v3.2.2.2.2.1,v3.2.2.2.2.2.1,v3.2.2.2.2.2.2) else some (false,v3.2.1,v3.2.2.1,v3.2.2.2.1,v3.2.2.2.2.1,v3.2.2.2.2.2.1,v3.2.2.2.2.2.2)) fun(v3:Bool×List Int×Int×Int×List Int×Int×Int)=>if v3.1=true then some
 (v3.2.2.1,v3.2.1,v3.2.2.1,v3.2.2.2.1,v3.2.2.2.2.1) else if(0:Int)≤(0:Int)∧(0:Int)<(↑(2:Nat):Int) then Option.bind (Ld.f73F ((v3.2.2.2.2.1,v3.2.1,v3.2.2.1,v3.2.2.2.1),v3.2.2.2.2.2.1)) fun v4=>some (v4,v3.2.1,
 v3.2.2.1,v3.2.2.2.1,v3.2.2.2.2.1) else none else none else none
theorem Ld.f48eq: ∀ x,zl Ld.C Ld.f48Γ Ld.f48sig Ld.f48ann Go.Proofs.Tryd.f48 x=Ld.f48F x:=by
 intro x
 kernel_rfl
noncomputable def Ld.f48con:Con:=⟨48,Ld.f48sig,Ld.f48F⟩
theorem Ld.f48ok:Con.Ok Go.Proofs.Tryd.prog Ld.C Ld.f48con:=
 zb (Γ:=Ld.f48Γ) (an:=Ld.f48ann) ⟨Ld.Cok,(List.forall_mem_cons.2 ⟨Ld.f72ok,(List.forall_mem_cons.2 ⟨Ld.f73ok,(fun _ h=>nomatch h)⟩)⟩),Ld.mixed⟩ Go.Proofs.Tryd.func48 rfl rfl (fun x y h=>(Ld.f48eq x).trans h) (by decide)
def Ld.f49sig:Sig:=⟨⟨[.ptr 0 0, .hole (.int .i64), .hole (.int .i64)], [.cells [.own 1, .hole (.sl (.int .i64)), .hole (.int .i64), .hole (.int .i64)], .arr 3 (.int .i64)]⟩,⟨[], [.cells [.own 2, .hole (.sl (.int .i64)), .hole (.int
 .i64), .hole (.int .i64)], .gone, .arr 3 (.int .i64)]⟩⟩
noncomputable def Ld.f49Γ:List Con:= []
def Ld.f49ann:Ann:=(.seq .leaf (.seq .leaf (.block (.loop ⟨.normal, [(1, .hole (.int .i64))], [.cells [.own 1, .hole (.sl (.int .i64)), .hole (.int .i64), .hole (.int .i64)], .arr 3 (.int .i64)]⟩ [⟨(.exit 0), [], [.cells [.own 1, .hole
 (.sl (.int .i64)), .hole (.int .i64), .hole (.int .i64)], .arr 3 (.int .i64)]⟩] (.seq (.seq (.join [⟨.normal, [(31, .hole .bool)], [.cells [.own 1, .hole (.sl (.int .i64)), .hole (.int .i64), .hole (.int .i64)], .arr 3 (.int .i64)]⟩] .leaf)
 (.cond .leaf .leaf)) (.seq (.block .leaf) .leaf))))))
noncomputable def Ld.f49F:Int×Int×List Int×Int×Int×List Int→Option (List Int×Int×Int×List Int):=fun(x:Int×Int×List Int×Int×Int×List Int)=>if(0:Int)≤x.1∧x.1<(x.2.2.2.2.2.length:Int) then
 Option.bind (iter (fun(s1:Int×List Int×Int×Int×List Int)=>Option.bind (if decide (s1.1<(s1.2.2.2.2.length:Int))=true then if(0:Int)≤s1.1∧s1.1<(s1.2.1.length:Int) then some (List.getD s1.2.1 (Int.toNat s1.1) (0
 :Int)==(8:Int),s1.2.1,s1.2.2.1,s1.2.2.2.1,s1.2.2.2.2) else none else some (false,s1.2.1,s1.2.2.1,s1.2.2.2.1,s1.2.2.2.2)) fun(v2:Bool×List Int×Int×Int×List Int)=>if v2.1=true then if(0:Int)≤s1.1∧s1.1<
 (v2.2.2.2.2.length:Int) then some (Sum.inl (IntKind.i64.wrap (s1.1+(1:Int)),v2.2.1,v2.2.2.1,v2.2.2.2.1,List.set v2.2.2.2.2 (Int.toNat s1.1) x.2.1)) else none else some (Sum.inr (v2.2.1,v2.2.2.1,v2.2.2.2.1,v2.2.2.2.2)))
 (IntKind.i64.wrap (x.1+(1:Int)),x.2.2.1,x.2.2.2.1,x.2.2.2.2.1,List.set x.2.2.2.2.2 (Int.toNat x.1) x.2.1)) fun(v1:List Int×Int×Int×List Int)=>some (v1.1,v1.2.1,v1.2.2.1,v1.2.2.2) else none
theorem Ld.f49eq: ∀ x,zl Ld.C Ld.f49Γ Ld.f49sig Ld.f49ann Go.Proofs.Tryd.f49 x=Ld.f49F x:=by
 intro x
 kernel_rfl
noncomputable def Ld.f49con:Con:=⟨49,Ld.f49sig,Ld.f49F⟩
theorem Ld.f49ok:Con.Ok Go.Proofs.Tryd.prog Ld.C Ld.f49con:=
 zb (Γ:=Ld.f49Γ) (an:=Ld.f49ann) ⟨Ld.Cok,(fun _ h=>nomatch h),Ld.mixed⟩ Go.Proofs.Tryd.func49 rfl rfl (fun x y h=>(Ld.f49eq x).trans h) (by decide)
def Ld.f31sig:Sig:=⟨⟨[.hole (.sl (.int .i64)), .hole (.sl (.int .i64)), .hole (.sl (.int .i64)), .hole (.int .i64), .hole (.int .i64)], []⟩,⟨[.hole (.sl (.int .i64))], []⟩⟩
noncomputable def Ld.f31Γ:List Con:= [Ld.f12con,Ld.f43con,Ld.f47con,Ld.f48con,Ld.f49con]
def Ld.f31ann:Ann:=(.seq .leaf (.seq .leaf (.seq (.seq (.join [⟨.normal, [(33, .hole .bool)], [.arr 3 (.int .i64), .cells [.own 0, .hole (.sl (.int .i64)), .hole (.int .i64), .hole (.int .i64)]]⟩] .leaf) (.cond (.seq .leaf .leaf)
 .leaf)) (.seq (.join [⟨.normal, [], [.arr 3 (.int .i64), .cells [.own 0, .hole (.sl (.int .i64)), .hole (.int .i64), .hole (.int .i64)]]⟩] (.seq .leaf (.cond .leaf .leaf))) (.seq (.seq .leaf (.block (.loop ⟨.normal, [(47, .hole (.int
 .i64))], [.gone, .cells [.own 2, .hole (.sl (.int .i64)), .hole (.int .i64), .hole (.int .i64)], .arr 3 (.int .i64)]⟩ [⟨(.exit 0), [], [.gone, .cells [.own 2, .hole (.sl (.int .i64)), .hole (.int .i64), .hole (.int .i64)], .arr 3 (.int
 .i64)]⟩] (.seq .leaf (.seq (.cond .leaf .leaf) (.seq (.block (.seq .leaf (.seq .leaf (.seq .leaf (.cond (.seq .leaf .leaf) .leaf))))) .leaf)))))) (.seq .leaf .leaf))))))
noncomputable def Ld.f31F:List Int×List Int×List Int×Int×Int→Option (List Int):=fun(x:List Int×List Int×List Int×Int×Int)=>Option.bind (Ld.f12F x.2.1) fun(v1:List Int)=>Option.bind (Ld.f43F x.2.2.2.1) fun v2
 =>Option.bind (if((x.1.length:Int)!=(x.2.1.length:Int))=true then some (true,v1,x.2.2.1,v2,(0:Int)) else some ((x.2.2.1.length:Int)!=(x.2.1.length:Int),v1,x.2.2.1,v2,(0:Int))) fun(v3:Bool×List Int×List Int
 ×Int×Int)=>if v3.1=true then some v3.2.1 else Option.bind (if(x.2.2.2.2==(1:Int))=true then some (v3.2.1,v3.2.2.1,v3.2.2.2.1,(1:Int)) else some (v3.2.1,v3.2.2.1,v3.2.2.2.1,v3.2.2.2.2)) fun(v4:List Int×List Int×
 Int×Int)=>Option.bind (Ld.f47F (x.1,x.2.1)) fun(v5:List (List Int))=>Option.bind (iter (fun(s6:Int×List Int×Int×Int×List Int)=>if decide (s6.1<(v5.length:Int))=true then if(0:Int)≤s6.1∧s6.1<(v5.length:
 Int) then Option.bind (Ld.f48F ([List.getD (List.getD v5 (Int.toNat s6.1) (List.replicate (2:Nat) (0:Int))) (nat_lit 0) (0:Int),List.getD (List.getD v5 (Int.toNat s6.1) (List.replicate (2:Nat) (0:Int))) (nat_lit 1) (0:Int)],
 s6.2.1,s6.2.2.1,s6.2.2.2.1,s6.2.2.2.2)) fun(v7:Int×List Int×Int×Int×List Int)=>if(v7.1 !=(-1:Int))=true then if(0:Int)≤(0:Int)∧(0:Int)<(↑(2:Nat):Int) then Option.bind (Ld.f49F (List.getD (List.getD v5
 (Int.toNat s6.1) (List.replicate (2:Nat) (0:Int))) (nat_lit 0) (0:Int),v7.1,v7.2.1,v7.2.2.1,v7.2.2.2.1,v7.2.2.2.2)) fun(v8:List Int×Int×Int×List Int)=>if(0:Int)≤(1:Int)∧(1:Int)<(↑(2:Nat):Int) then
 Option.bind (Ld.f49F (List.getD (List.getD v5 (Int.toNat s6.1) (List.replicate (2:Nat) (0:Int))) (nat_lit 1) (0:Int),v7.1,v8.1,v8.2.1,v8.2.2.1,v8.2.2.2)) fun(v9:List Int×Int×Int×List Int)=>some (Sum.inl
 (IntKind.i64.wrap (s6.1+(1:Int)),v9.1,v9.2.1,v9.2.2.1,v9.2.2.2)) else none else none else some (Sum.inl (IntKind.i64.wrap (s6.1+(1:Int)),v7.2.1,v7.2.2.1,v7.2.2.2.1,v7.2.2.2.2)) else none else some (Sum.inr (s6.2.1,s6.2.2.1,
 s6.2.2.2.1,s6.2.2.2.2))) ((0:Int),v4.2.1,v4.2.2.1,v4.2.2.2,v4.1)) fun(v6:List Int×Int×Int×List Int)=>some v6.2.2.2
theorem Ld.f31eq: ∀ x,zl Ld.C Ld.f31Γ Ld.f31sig Ld.f31ann Go.Proofs.Tryd.f31 x=Ld.f31F x:=by
 intro x
 kernel_rfl
noncomputable def Ld.f31con:Con:=⟨31,Ld.f31sig,Ld.f31F⟩
theorem Ld.f31ok:Con.Ok Go.Proofs.Tryd.prog Ld.C Ld.f31con:=
 zb (Γ:=Ld.f31Γ) (an:=Ld.f31ann) ⟨Ld.Cok,(List.forall_mem_cons.2 ⟨Ld.f12ok,(List.forall_mem_cons.2 ⟨Ld.f43ok,(List.forall_mem_cons.2 ⟨Ld.f47ok,(List.forall_mem_cons.2 ⟨Ld.f48ok,(List.forall_mem_cons.2 ⟨Ld.f49ok,(fun _ h=>nomatch h)⟩)⟩)⟩)⟩)⟩),Ld.mixed⟩ Go.Proofs.Tryd.func31 rfl rfl (fun x y h=>(Ld.f31eq x).trans h) (by decide)
def Ld.f74sig:Sig:=⟨⟨[.hole (.int .i64)], []⟩,⟨[.hole .bool], []⟩⟩
noncomputable def Ld.f74Γ:List Con:= [Ld.f41con,Ld.f40con]
def Ld.f74ann:Ann:=(.seq .leaf (.seq .leaf .leaf))
noncomputable def Ld.f74F:Int→Option (Bool):=fun(x:Int)=>Option.bind (Ld.f41F [(10:Int),(11:Int),(12:Int),(13:Int),(19:Int),(20:Int),(21:Int),(22:Int)]) fun v1=>Option.bind (Ld.f40F (x,v1)) fun v2=>
 some v2
theorem Ld.f74eq: ∀ x,zl Ld.C Ld.f74Γ Ld.f74sig Ld.f74ann Go.Proofs.Tryd.f74 x=Ld.f74F x:=by
 intro x
 kernel_rfl
noncomputable def Ld.f74con:Con:=⟨74,Ld.f74sig,Ld.f74F⟩
theorem Ld.f74ok:Con.Ok Go.Proofs.Tryd.prog Ld.C Ld.f74con:=
 zb (Γ:=Ld.f74Γ) (an:=Ld.f74ann) ⟨Ld.Cok,(List.forall_mem_cons.2 ⟨Ld.f41ok,(List.forall_mem_cons.2 ⟨Ld.f40ok,(fun _ h=>nomatch h)⟩)⟩),Ld.mixed⟩ Go.Proofs.Tryd.func74 rfl rfl (fun x y h=>(Ld.f74eq x).trans h) (by decide)
def Ld.f50sig:Sig:=⟨⟨[.hole (.sl (.int .i64))], []⟩,⟨[.hole (.sl (.arr 2 (.int .i64)))], []⟩⟩
noncomputable def Ld.f50Γ:List Con:= [Ld.f74con]
def Ld.f50ann:Ann:=(.seq .leaf (.seq .leaf (.seq (.seq .leaf (.block (.loop ⟨.normal, [(3, .own 0),(4, .hole (.int .i64))], [.arr 85 (.arr 2 (.int .i64))]⟩ [⟨(.exit 0), [(3, .own 0)], [.arr 85 (.arr 2 (.int .i64))]⟩] (.seq (.seq .leaf
 (.cond .leaf .leaf)) (.seq (.block (.seq .leaf (.seq (.block (.loop ⟨.normal, [(5, .hole (.int .i64))], [.arr 85 (.arr 2 (.int .i64))]⟩ [⟨(.exit 2), [(5, .hole (.int .i64))], [.arr 85 (.arr 2 (.int .i64))]⟩] (.seq (.seq (.join [⟨.normal,
 [(23, .hole .bool)], [.arr 85 (.arr 2 (.int .i64))]⟩] .leaf) (.cond .leaf .leaf)) (.block .leaf)))) (.seq .leaf (.cond (.seq .leaf .leaf) .leaf))))) .leaf))))) (.seq .leaf .leaf))))
noncomputable def Ld.f50F:List Int→Option (List (List Int)):=fun(x:List Int)=>Option.bind (iter (fun(s1:Int×List (List Int))=>if decide (s1.1<(x.length:Int))=true then Option.bind (iter (fun(s2:Int×List (List
 Int))=>Option.bind (if decide (s2.1<(x.length:Int))=true then if(0:Int)≤s2.1∧s2.1<(x.length:Int) then Option.bind (Ld.f74F (List.getD x (Int.toNat s2.1) (0:Int))) fun v3=>some (v3,s2.2) else none else some (false,
 s2.2)) fun(v3:Bool×List (List Int))=>if v3.1=true then some (Sum.inl (IntKind.i64.wrap (s2.1+(1:Int)),v3.2)) else some (Sum.inr (s2.1,v3.2))) (s1.1,s1.2)) fun(v2:Int×List (List Int))=>if decide (v2.1 > s1.1)=true
 then if zk (List.length v2.2+(1:Nat)) (16:Nat) then some (Sum.inl (IntKind.i64.wrap (v2.1+(1:Int)),v2.2++ [[s1.1,v2.1]])) else none else some (Sum.inl (IntKind.i64.wrap (s1.1+(1:Int)),v2.2)) else some (Sum.inr s1.2))
 ((0:Int), [])) fun(v1:List (List Int))=>some v1
theorem Ld.f50eq: ∀ x,zl Ld.C Ld.f50Γ Ld.f50sig Ld.f50ann Go.Proofs.Tryd.f50 x=Ld.f50F x:=by
 intro x
 kernel_rfl
noncomputable def Ld.f50con:Con:=⟨50,Ld.f50sig,Ld.f50F⟩
theorem Ld.f50ok:Con.Ok Go.Proofs.Tryd.prog Ld.C Ld.f50con:=
 zb (Γ:=Ld.f50Γ) (an:=Ld.f50ann) ⟨Ld.Cok,(List.forall_mem_cons.2 ⟨Ld.f74ok,(fun _ h=>nomatch h)⟩),Ld.mixed⟩ Go.Proofs.Tryd.func50 rfl rfl (fun x y h=>(Ld.f50eq x).trans h) (by decide)
def Ld.f51sig:Sig:=⟨⟨[.hole (.sl (.int .i64)), .hole (.int .i64), .hole (.int .i64), .hole (.int .i64)], []⟩,⟨[.hole (.int .i64)], []⟩⟩
noncomputable def Ld.f51Γ:List Con:= [Ld.f75con,Ld.f43con]
def Ld.f51ann:Ann:=(.seq .leaf (.seq (.seq (.join [⟨.normal, [(17, .hole .bool)], []⟩] .leaf) (.cond (.seq (.seq .leaf (.cond (.seq .leaf .leaf) .leaf)) (.seq .leaf .leaf)) .leaf)) (.seq (.seq .leaf (.seq .leaf (.cond (.seq .leaf .leaf)
 .leaf))) (.seq .leaf .leaf))))
noncomputable def Ld.f51F:List Int×Int×Int×Int→Option (Int):=fun(x:List Int×Int×Int×Int)=>Option.bind (if decide (x.2.1<(0:Int))=true then some true else some (decide (x.2.1≥(x.1.length:Int)))) fun v1=>if
 v1=true then if(x.2.2.2==(1:Int))=true then some (1:Int) else some (0:Int) else if(0:Int)≤x.2.1∧x.2.1<(x.1.length:Int) then Option.bind (Ld.f75F (List.getD x.1 (Int.toNat x.2.1) (0:Int))) fun v2=>if decide (v2≥
 (0:Int))=true then some v2 else Option.bind (Ld.f43F x.2.2.1) fun v3=>some v3 else none
theorem Ld.f51eq: ∀ x,zl Ld.C Ld.f51Γ Ld.f51sig Ld.f51ann Go.Proofs.Tryd.f51 x=Ld.f51F x:=by
 intro x
 kernel_rfl
noncomputable def Ld.f51con:Con:=⟨51,Ld.f51sig,Ld.f51F⟩
theorem Ld.f51ok:Con.Ok Go.Proofs.Tryd.prog Ld.C Ld.f51con:=
 zb (Γ:=Ld.f51Γ) (an:=Ld.f51ann) ⟨Ld.Cok,(List.forall_mem_cons.2 ⟨Ld.f75ok,(List.forall_mem_cons.2 ⟨Ld.f43ok,(fun _ h=>nomatch h)⟩)⟩),Ld.mixed⟩ Go.Proofs.Tryd.func51 rfl rfl (fun x y h=>(Ld.f51eq x).trans h) (by decide)
def Ld.f32sig:Sig:=⟨⟨[.hole (.sl (.int .i64)), .hole (.int .i64), .hole (.int .i64), .hole (.int .i64)], []⟩,⟨[.hole (.sl (.int .i64))], []⟩⟩
noncomputable def Ld.f32Γ:List Con:= [Ld.f12con,Ld.f50con,Ld.f43con,Ld.f51con]
def Ld.f32ann:Ann:=(.seq .leaf (.seq .leaf (.seq (.seq .leaf (.block (.loop ⟨.normal, [(20, .hole (.int .i64))], [.arr 3 (.int .i64)]⟩ [⟨(.exit 0), [], [.arr 3 (.int .i64)]⟩] (.seq .leaf (.seq (.cond .leaf .leaf) (.seq (.block (.seq
 .leaf (.seq .leaf (.seq (.join [⟨.normal, [(12, .hole (.int .i64))], [.arr 3 (.int .i64), .cells [.hole (.int .i64), .hole (.int .i64)]]⟩] (.seq .leaf (.seq .leaf (.cond .leaf .leaf)))) (.seq .leaf (.block (.loop ⟨.normal, [(14, .hole (.int
 .i64))], [.arr 3 (.int .i64), .cells [.hole (.int .i64), .hole (.int .i64)]]⟩ [⟨(.exit 2), [], [.arr 3 (.int .i64), .gone]⟩] (.seq (.seq .leaf (.cond .leaf .leaf)) (.seq (.block .leaf) .leaf))))))))) .leaf)))))) (.seq .leaf .leaf))))
noncomputable def Ld.f32F:List Int×Int×Int×Int→Option (List Int):=fun(x:List Int×Int×Int×Int)=>Option.bind (Ld.f12F x.1) fun(v1:List Int)=>Option.bind (Ld.f50F x.1) fun(v2:List (List Int))=>Option.bind (iter
 (fun(s3:Int×List Int)=>if decide (s3.1<(v2.length:Int))=true then if(0:Int)≤s3.1∧s3.1<(v2.length:Int) then Option.bind (Ld.f43F x.2.1) fun v4=>Option.bind (if(0:Int)≤(0:Int)∧(0:Int)<(↑(2:Nat):Int)
 then Option.bind (Ld.f51F (x.1,IntKind.i64.wrap (List.getD (List.getD v2 (Int.toNat s3.1) (List.replicate (2:Nat) (0:Int))) (nat_lit 0) (0:Int) - (1:Int)),x.2.1,x.2.2.1)) fun v5=>if(0:Int)≤(1:Int)∧(1:Int)<(↑(2:
 Nat):Int) then Option.bind (Ld.f51F (x.1,List.getD (List.getD v2 (Int.toNat s3.1) (List.replicate (2:Nat) (0:Int))) (nat_lit 1) (0:Int),x.2.1,x.2.2.2)) fun v6=>if(v5==v6)=true then some (v5,s3.2,List.getD (List.getD v2
 (Int.toNat s3.1) (List.replicate (2:Nat) (0:Int))) (nat_lit 0) (0:Int),List.getD (List.getD v2 (Int.toNat s3.1) (List.replicate (2:Nat) (0:Int))) (nat_lit 1) (0:Int)) else some (v4,s3.2,List.getD (List.getD v2 (Int.toNat
 s3.1) (List.replicate (2:Nat) (0:Int))) (nat_lit 0) (0:Int),List.getD (List.getD v2 (Int.toNat s3.1) (List.replicate (2:Nat) (0:Int))) (nat_lit 1) (0:Int)) else none else none) fun(v5:Int×List Int×Int×Int)=>if(0:
 Int)≤(0:Int)∧(0:Int)<(↑(2:Nat):Int) then Option.bind (iter (fun(s6:Int×List Int×Int×Int)=>if(0:Int)≤(1:Int)∧(1:Int)<(↑(2:Nat):Int) then if decide (s6.1<s6.2.2.2)=true then if(0:Int)≤s6.1∧
 s6.1<(s6.2.1.length:Int) then some (Sum.inl (IntKind.i64.wrap (s6.1+(1:Int)),List.set s6.2.1 (Int.toNat s6.1) v5.1,s6.2.2.1,s6.2.2.2)) else none else some (Sum.inr s6.2.1) else none) (v5.2.2.1,v5.2.1,v5.2.2.1,v5.2.2.2)) fun
 (v6:List Int)=>some (Sum.inl (IntKind.i64.wrap (s3.1+(1:Int)),v6)) else none else none else some (Sum.inr s3.2)) ((0:Int),v1)) fun(v3:List Int)=>some v3
theorem Ld.f32eq: ∀ x,zl Ld.C Ld.f32Γ Ld.f32sig Ld.f32ann Go.Proofs.Tryd.f32 x=Ld.f32F x:=by
 intro x
 kernel_rfl
noncomputable def Ld.f32con:Con:=⟨32,Ld.f32sig,Ld.f32F⟩
theorem Ld.f32ok:Con.Ok Go.Proofs.Tryd.prog Ld.C Ld.f32con:=
 zb (Γ:=Ld.f32Γ) (an:=Ld.f32ann) ⟨Ld.Cok,(List.forall_mem_cons.2 ⟨Ld.f12ok,(List.forall_mem_cons.2 ⟨Ld.f50ok,(List.forall_mem_cons.2 ⟨Ld.f43ok,(List.forall_mem_cons.2 ⟨Ld.f51ok,(fun _ h=>nomatch h)⟩)⟩)⟩)⟩),Ld.mixed⟩ Go.Proofs.Tryd.func32 rfl rfl (fun x y h=>(Ld.f32eq x).trans h) (by decide)
def Ld.f52sig:Sig:=⟨⟨[.hole (.int .i64), .hole (.int .i64)], []⟩,⟨[.hole (.int .i64)], []⟩⟩
noncomputable def Ld.f52Γ:List Con:= []
def Ld.f52ann:Ann:=(.seq .leaf (.seq .leaf (.seq (.seq .leaf (.block (.seq .leaf (.cond (.seq .leaf .leaf) (.seq .leaf (.cond (.seq .leaf .leaf) (.seq (.join [⟨.normal, [(20, .hole .bool)], []⟩] (.seq .leaf (.cond .leaf .leaf))) (.cond
 (.seq .leaf .leaf) .leaf)))))))) (.seq .leaf .leaf))))
noncomputable def Ld.f52F:Int×Int→Option (Int):=fun(x:Int×Int)=>if(x.1==(0:Int))=true then some (IntKind.i64.wrap (x.2+IntKind.i64.wrap (↑(BitVec.toNat (BitVec.ofInt (IntKind.bits IntKind.i64) x.2 &&& BitVec.ofInt
 (IntKind.bits IntKind.i64) (1:Int))):Int))) else if(x.1==(1:Int))=true then some (IntKind.i64.wrap (IntKind.i64.wrap (x.2+(1:Int)) - IntKind.i64.wrap (↑(BitVec.toNat (BitVec.ofInt (IntKind.bits IntKind.i64) x.2 &&&
 BitVec.ofInt (IntKind.bits IntKind.i64) (1:Int))):Int))) else Option.bind (if(x.1==(6:Int))=true then some true else some (x.1==(3:Int))) fun v1=>if v1=true then some (IntKind.i64.wrap (IntKind.i64.wrap (x.2+(2:Int))
 - IntKind.i64.wrap (↑(BitVec.toNat (BitVec.ofInt (IntKind.bits IntKind.i64) x.2 &&& BitVec.ofInt (IntKind.bits IntKind.i64) (1:Int))):Int))) else some x.2
theorem Ld.f52eq: ∀ x,zl Ld.C Ld.f52Γ Ld.f52sig Ld.f52ann Go.Proofs.Tryd.f52 x=Ld.f52F x:=by
 intro x
 kernel_rfl
noncomputable def Ld.f52con:Con:=⟨52,Ld.f52sig,Ld.f52F⟩
theorem Ld.f52ok:Con.Ok Go.Proofs.Tryd.prog Ld.C Ld.f52con:=
 zb (Γ:=Ld.f52Γ) (an:=Ld.f52ann) ⟨Ld.Cok,(fun _ h=>nomatch h),Ld.mixed⟩ Go.Proofs.Tryd.func52 rfl rfl (fun x y h=>(Ld.f52eq x).trans h) (by decide)
def Ld.f33sig:Sig:=⟨⟨[.hole (.sl (.int .i64)), .hole (.int .i64)], []⟩,⟨[.hole (.sl (.int .i64))], []⟩⟩
noncomputable def Ld.f33Γ:List Con:= [Ld.f52con]
def Ld.f33ann:Ann:=(.seq .leaf (.seq .leaf (.seq (.seq .leaf (.block (.loop ⟨.normal, [(5, .own 0),(10, .hole (.int .i64))], [.arr 3 (.int .i64)]⟩ [⟨(.exit 0), [(5, .own 0)], [.arr 3 (.int .i64)]⟩] (.seq .leaf (.seq (.cond .leaf .leaf)
 (.seq (.block (.seq .leaf .leaf)) .leaf)))))) (.seq .leaf .leaf))))
noncomputable def Ld.f33F:List Int×Int→Option (List Int):=fun(x:List Int×Int)=>Option.bind (iter (fun(s1:Int×List Int)=>if decide (s1.1<(x.1.length:Int))=true then if(0:Int)≤s1.1∧s1.1<(x.1.length:Int)
 then Option.bind (Ld.f52F (List.getD x.1 (Int.toNat s1.1) (0:Int),x.2)) fun v2=>if zk (List.length s1.2+(1:Nat)) (8:Nat) then some (Sum.inl (IntKind.i64.wrap (s1.1+(1:Int)),s1.2++ [v2])) else none else none else some
 (Sum.inr s1.2)) ((0:Int), [])) fun(v1:List Int)=>some v1
theorem Ld.f33eq: ∀ x,zl Ld.C Ld.f33Γ Ld.f33sig Ld.f33ann Go.Proofs.Tryd.f33 x=Ld.f33F x:=by
 intro x
 kernel_rfl
noncomputable def Ld.f33con:Con:=⟨33,Ld.f33sig,Ld.f33F⟩
theorem Ld.f33ok:Con.Ok Go.Proofs.Tryd.prog Ld.C Ld.f33con:=
 zb (Γ:=Ld.f33Γ) (an:=Ld.f33ann) ⟨Ld.Cok,(List.forall_mem_cons.2 ⟨Ld.f52ok,(fun _ h=>nomatch h)⟩),Ld.mixed⟩ Go.Proofs.Tryd.func33 rfl rfl (fun x y h=>(Ld.f33eq x).trans h) (by decide)
def Ld.f18sig:Sig:=⟨⟨[.ptr 0 0, .hole (.st (.pair (.sl (.int .i64)) (.pair (.int .i64) (.pair (.int .i64) (.int .i64)))))], [.cells [.hole (.sl (.int .i64)), .hole (.sl (.int .i64)), .own 1, .own 2, .hole (.int .i64)], .arr 3 (.int
 .i64), .arr 3 (.int .i64)]⟩,⟨[], [.cells [.hole (.sl (.int .i64)), .hole (.sl (.int .i64)), .own 3, .own 4, .hole (.int .i64)], .gone, .gone, .arr 3 (.int .i64), .arr 3 (.int .i64)]⟩⟩
noncomputable def Ld.f18Γ:List Con:= [Ld.s1con,Ld.f29con,Ld.f30con,Ld.f31con,Ld.f32con,Ld.f33con]
def Ld.f18ann:Ann:=(.seq .leaf (.seq (.tail 6) (.seq .leaf (.seq (.effl 4 [] [0,1,3,7,0,16,63,0,0,0,512,0,2048,8191]) (.seq .leaf (.seq .leaf (.block (.loop ⟨.normal, [(46, .hole (.int .i64))], [.cells [.hole (.sl (.int
 .i64)), .hole (.sl (.int .i64)), .own 1, .own 2, .hole (.int .i64)], .arr 3 (.int .i64), .arr 3 (.int .i64), .cells [.hole (.sl (.int .i64)), .hole (.int .i64), .hole (.int .i64), .hole (.int .i64)]]⟩ [⟨(.exit 0), [], [.cells [.hole (.sl
 (.int .i64)), .hole (.sl (.int .i64)), .own 1, .own 2, .hole (.int .i64)], .arr 3 (.int .i64), .arr 3 (.int .i64), .gone]⟩] (.seq .leaf (.seq (.cond .leaf .leaf) (.seq (.block (.seq .leaf (.eff 4 [] [0,1,3,7,0,16,0,112,240,0,512,
 1536,3584,0,8192,0,57344,122880,0,0,786432,1835008,0,4194303,12582911,33554431,67108863]))) .leaf)))))))))))
noncomputable def Ld.f18F:(List Int×Int×Int×Int)×List Int×List Int×Int×List Int×List Int→Option (List Int×List Int×Int×List Int×List Int):=fun(x:(List Int×Int×Int×Int)×List Int×List Int×Int×
 List Int×List Int)=>Option.bind (Ld.s1F (x.1.1,x.2.2.2.2.2)) fun(v1:List Int×List Int)=>Option.bind (Ld.f30F (v1.1,x.1.2.2.1)) fun(v2:List Int)=>Option.bind (Ld.f29F (x.2.1,x.1.1)) fun(v3:List Int)=>Option.bind
 (Ld.f31F (v3,v2,v1.1,x.1.2.1,x.1.2.2.1)) fun(v4:List Int)=>Option.bind (Ld.f32F (v4,x.1.2.1,x.1.2.2.1,x.1.2.2.2)) fun(v5:List Int)=>Option.bind (Ld.f33F (v5,x.1.2.1)) fun(v6:List Int)=>Option.bind (iter (fun(s7:Int
 ×List Int×List Int×Int×List Int×List Int×List Int×Int×Int×Int)=>if decide (s7.1<(v6.length:Int))=true then if(0:Int)≤s7.1∧s7.1<(v6.length:Int) then if(0:Int)≤s7.1∧s7.1<(s7.2.2.2.2.2.2.1.length:
 Int) then if(0:Int)≤s7.1∧s7.1<(s7.2.2.2.2.2.2.1.length:Int) then if(0:Int)≤s7.1∧s7.1<(v5.length:Int) then if(0:Int)≤List.getD s7.2.2.2.2.2.2.1 (Int.toNat s7.1) (0:Int)∧List.getD s7.2.2.2.2.2.2.1 (Int.toNat
 s7.1) (0:Int)<(s7.2.2.2.2.2.1.length:Int) then if(0:Int)≤List.getD s7.2.2.2.2.2.2.1 (Int.toNat s7.1) (0:Int)∧List.getD s7.2.2.2.2.2.2.1 (Int.toNat s7.1) (0:Int)<(s7.2.2.2.2.1.length:Int) then some (Sum.inl
 (IntKind.i64.wrap (s7.1+(1:Int)),s7.2.1,s7.2.2.1,s7.2.2.2.1,List.set s7.2.2.2.2.1 (Int.toNat (List.getD s7.2.2.2.2.2.2.1 (Int.toNat s7.1) (0:Int))) (List.getD v6 (Int.toNat s7.1) (0:Int)),List.set s7.2.2.2.2.2.1 (Int.toNat
 (List.getD s7.2.2.2.2.2.2.1 (Int.toNat s7.1) (0:Int))) (List.getD v5 (Int.toNat s7.1) (0:Int)),s7.2.2.2.2.2.2.1,s7.2.2.2.2.2.2.2.1,s7.2.2.2.2.2.2.2.2.1,s7.2.2.2.2.2.2.2.2.2)) else none else none else none else none else none else
 none else some (Sum.inr (s7.2.1,s7.2.2.1,s7.2.2.2.1,s7.2.2.2.2.1,s7.2.2.2.2.2.1))) ((0:Int),x.2.1,x.2.2.1,x.2.2.2.1,x.2.2.2.2.1,v1.2,x.1.1,x.1.2.1,x.1.2.2.1,x.1.2.2.2)) fun(v7:List Int×List Int×Int×List Int×List
 Int)=>some (v7.1,v7.2.1,v7.2.2.1,v7.2.2.2.1,v7.2.2.2.2)
theorem Ld.f18eq: ∀ x,zl Ld.C Ld.f18Γ Ld.f18sig Ld.f18ann Go.Proofs.Tryd.f18 x=Ld.f18F x:=by
 intro x
 kernel_rfl
noncomputable def Ld.f18con:Con:=⟨18,Ld.f18sig,Ld.f18F⟩
theorem Ld.f18ok:Con.Ok Go.Proofs.Tryd.prog Ld.C Ld.f18con:=
 zb (Γ:=Ld.f18Γ) (an:=Ld.f18ann) ⟨Ld.Cok,(List.forall_mem_cons.2 ⟨Ld.s1ok,(List.forall_mem_cons.2 ⟨Ld.f29ok,(List.forall_mem_cons.2 ⟨Ld.f30ok,(List.forall_mem_cons.2 ⟨Ld.f31ok,(List.forall_mem_cons.2 ⟨Ld.f32ok,(List.forall_mem_cons.2 ⟨Ld.f33ok,(fun _ h=>nomatch h)⟩)⟩)⟩)⟩)⟩)⟩),Ld.mixed⟩ Go.Proofs.Tryd.func18 rfl rfl (fun x y h=>(Ld.f18eq x).trans h) (by decide)
def Ld.f19sig:Sig:=⟨⟨[.ptr 0 0], [.cells [.hole (.sl (.int .i64)), .hole (.sl (.int .i64)), .own 1, .own 2, .hole (.int .i64)], .arr 3 (.int .i64), .arr 3 (.int .i64)]⟩,⟨[], [.cells [.hole (.sl (.int .i64)), .hole (.sl (.int .i64)),
 .own 3, .own 4, .hole (.int .i64)], .gone, .gone, .arr 3 (.int .i64), .arr 3 (.int .i64)]⟩⟩
noncomputable def Ld.f19Γ:List Con:= [Ld.f34con]
def Ld.f19ann:Ann:=(.seq .leaf (.seq .leaf (.block (.loop ⟨.normal, [(2, .hole (.int .i64)),(14, .hole (.int .i64))], [.cells [.hole (.sl (.int .i64)), .hole (.sl (.int .i64)), .own 1, .own 2, .hole (.int .i64)], .arr 3 (.int .i64),
 .arr 3 (.int .i64)]⟩ [⟨(.exit 0), [], [.cells [.hole (.sl (.int .i64)), .hole (.sl (.int .i64)), .own 1, .own 2, .hole (.int .i64)], .arr 3 (.int .i64), .arr 3 (.int .i64)]⟩] (.seq .leaf (.seq (.cond .leaf .leaf) (.seq (.block (.seq .leaf
 (.seq (.join [⟨.normal, [], [.cells [.hole (.sl (.int .i64)), .hole (.sl (.int .i64)), .own 1, .own 2, .hole (.int .i64)], .arr 3 (.int .i64), .arr 3 (.int .i64)]⟩] (.seq .leaf (.cond .leaf .leaf))) .leaf))) .leaf)))))))
noncomputable def Ld.f19F:List Int×List Int×Int×List Int×List Int→Option (List Int×List Int×Int×List Int×List Int):=fun(x:List Int×List Int×Int×List Int×List Int)=>Option.bind (iter (fun(s1:Int×Int×
 List Int×List Int×Int×List Int×List Int)=>if decide (s1.2.1<(x.2.1.length:Int))=true then if(0:Int)≤s1.2.1∧s1.2.1<(x.2.1.length:Int) then Option.bind (Option.bind (Ld.f34F (List.getD x.2.1 (Int.toNat s1.2.1) (0:
 Int))) fun v2=>if v2=true then if(0:Int)≤s1.2.1∧s1.2.1<(s1.2.2.2.2.2.1.length:Int) then some (s1.2.2.1,s1.2.2.2.1,s1.2.2.2.2.1,List.set s1.2.2.2.2.2.1 (Int.toNat s1.2.1) s1.1,s1.2.2.2.2.2.2) else none else some (s1.2.2.1,
 s1.2.2.2.1,s1.2.2.2.2.1,s1.2.2.2.2.2.1,s1.2.2.2.2.2.2)) fun(v2:List Int×List Int×Int×List Int×List Int)=>if(0:Int)≤s1.2.1∧s1.2.1<(v2.2.2.2.1.length:Int) then some (Sum.inl (List.getD v2.2.2.2.1 (Int.toNat s1.2.1)
 (0:Int),IntKind.i64.wrap (s1.2.1+(1:Int)),v2.1,v2.2.1,v2.2.2.1,v2.2.2.2.1,v2.2.2.2.2)) else none else none else some (Sum.inr (s1.2.2.1,s1.2.2.2.1,s1.2.2.2.2.1,s1.2.2.2.2.2.1,s1.2.2.2.2.2.2))) (x.2.2.1,(0:Int),x.1,
 x.2.1,x.2.2.1,x.2.2.2.1,x.2.2.2.2)) fun(v1:List Int×List Int×Int×List Int×List Int)=>some (v1.1,v1.2.1,v1.2.2.1,v1.2.2.2.1,v1.2.2.2.2)
theorem Ld.f19eq: ∀ x,zl Ld.C Ld.f19Γ Ld.f19sig Ld.f19ann Go.Proofs.Tryd.f19 x=Ld.f19F x:=by
 intro x
 kernel_rfl
noncomputable def Ld.f19con:Con:=⟨19,Ld.f19sig,Ld.f19F⟩
theorem Ld.f19ok:Con.Ok Go.Proofs.Tryd.prog Ld.C Ld.f19con:=
 zb (Γ:=Ld.f19Γ) (an:=Ld.f19ann) ⟨Ld.Cok,(List.forall_mem_cons.2 ⟨Ld.f34ok,(fun _ h=>nomatch h)⟩),Ld.mixed⟩ Go.Proofs.Tryd.func19 rfl rfl (fun x y h=>(Ld.f19eq x).trans h) (by decide)
def Ld.f10sig:Sig:=⟨⟨[.hole (.sl (.int .i64)), .hole (.int .i64)], []⟩,⟨[.ptr 0 0], [.cells [.hole (.sl (.int .i64)), .hole (.sl (.int .i64)), .own 1, .own 2, .hole (.int .i64)], .arr 3 (.int .i64), .arr 3 (.int .i64)]⟩⟩
noncomputable def Ld.f10Γ:List Con:= [Ld.f14con,Ld.f15con,Ld.f16con,Ld.s0con,Ld.f17con,Ld.f18con,Ld.f19con]
def Ld.f10ann:Ann:=(.seq .leaf (.seq .leaf (.seq .leaf (.seq (.eff 3 [] [0,0,0,4,12,28,0,64,192,448,1020,2044,4092,4092,8189,24573,57341,131071,262143,524287]) (.seq (.seq (.eff 4 [] [0,1,3,7,0,16,48,112,240,
 0,512,1536,3584,8191,16383,0]) (.block (.loop ⟨.normal, [(55, .hole (.int .i64))], [.cells [.hole (.sl (.int .i64)), .hole (.sl (.int .i64)), .own 4, .own 5, .hole (.int .i64)], .gone, .gone, .gone, .arr 3 (.int .i64), .arr 3 (.int
 .i64)]⟩ [⟨(.exit 0), [], [.cells [.hole (.sl (.int .i64)), .hole (.sl (.int .i64)), .own 4, .own 5, .hole (.int .i64)], .gone, .gone, .gone, .arr 3 (.int .i64), .arr 3 (.int .i64)]⟩] (.seq .leaf (.seq (.cond .leaf .leaf) (.seq (.block (.seq
 .leaf .leaf)) .leaf)))))) (.seq .leaf (.seq .leaf .leaf)))))))
noncomputable def Ld.f10F:List Int×Int→Option (List Int×List Int×Int×List Int×List Int):=fun(x:List Int×Int)=>Option.bind (Ld.f14F x.1) fun(v1:List Int)=>Option.bind (Ld.f15F (v1,x.2)) fun v2=>Option.bind
 (Ld.f16F (v1,v2)) fun(v3:List Int×List Int)=>Option.bind (Ld.s0F v3.1) fun(v4:List Int×List Int)=>Option.bind (Ld.f17F (v1,v4.2,v2)) fun(v5:List (List Int×Int×Int×Int))=>Option.bind (iter (fun(s6:Int×List
 Int×List Int×Int×List Int×List Int)=>if decide (s6.1<(v5.length:Int))=true then if(0:Int)≤s6.1∧s6.1<(v5.length:Int) then Option.bind (Ld.f18F (((List.getD v5 (Int.toNat s6.1) ([],(0:Int),(0:Int),(0:
 Int))).1,(List.getD v5 (Int.toNat s6.1) ([],(0:Int),(0:Int),(0:Int))).2.1,(List.getD v5 (Int.toNat s6.1) ([],(0:Int),(0:Int),(0:Int))).2.2.1,(List.getD v5 (Int.toNat s6.1) ([],(0:Int),(0:Int),(0:Int))).2.2.2),
 s6.2.1,s6.2.2.1,s6.2.2.2.1,s6.2.2.2.2.1,s6.2.2.2.2.2)) fun(v7:List Int×List Int×Int×List Int×List Int)=>some (Sum.inl (IntKind.i64.wrap (s6.1+(1:Int)),v7.1,v7.2.1,v7.2.2.1,v7.2.2.2.1,v7.2.2.2.2)) else none else
 some (Sum.inr (s6.2.1,s6.2.2.1,s6.2.2.2.1,s6.2.2.2.2.1,s6.2.2.2.2.2))) ((0:Int),x.1,v1,v2,v4.1,v3.2)) fun(v6:List Int×List Int×Int×List Int×List Int)=>Option.bind (Ld.f19F (v6.1,v6.2.1,v6.2.2.1,v6.2.2.2.1,
 v6.2.2.2.2)) fun(v7:List Int×List Int×Int×List Int×List Int)=>some (v7.1,v7.2.1,v7.2.2.1,v7.2.2.2.1,v7.2.2.2.2)
theorem Ld.f10eq: ∀ x,zl Ld.C Ld.f10Γ Ld.f10sig Ld.f10ann Go.Proofs.Tryd.f10 x=Ld.f10F x:=by
 intro x
 kernel_rfl
noncomputable def Ld.f10con:Con:=⟨10,Ld.f10sig,Ld.f10F⟩
theorem Ld.f10ok:Con.Ok Go.Proofs.Tryd.prog Ld.C Ld.f10con:=
 zb (Γ:=Ld.f10Γ) (an:=Ld.f10ann) ⟨Ld.Cok,(List.forall_mem_cons.2 ⟨Ld.f14ok,(List.forall_mem_cons.2 ⟨Ld.f15ok,(List.forall_mem_cons.2 ⟨Ld.f16ok,(List.forall_mem_cons.2 ⟨Ld.s0ok,(List.forall_mem_cons.2 ⟨Ld.f17ok,(List.forall_mem_cons.2 ⟨Ld.f18ok,(List.forall_mem_cons.2 ⟨Ld.f19ok,(fun _ h=>nomatch h)⟩)⟩)⟩)⟩)⟩)⟩)⟩),Ld.mixed⟩ Go.Proofs.Tryd.func10 rfl rfl (fun x y h=>(Ld.f10eq x).trans h) (by decide)
def Ld.f6sig:Sig:=⟨⟨[.hole (.sl (.int .i64)), .hole (.int .i64)], []⟩,⟨[.hole (.sl (.int .i64)), .hole (.int .i64)], []⟩⟩
noncomputable def Ld.f6Γ:List Con:= [Ld.f10con]
def Ld.f6ann:Ann:=(.seq .leaf (.seq .leaf (.seq .leaf .leaf)))
noncomputable def Ld.f6F:List Int×Int→Option (List Int×Int):=fun(x:List Int×Int)=>Option.bind (Ld.f10F (x.1,x.2)) fun(v1:List Int×List Int×Int×List Int×List Int)=>some (v1.2.2.2.1,v1.2.2.1)
theorem Ld.f6eq: ∀ x,zl Ld.C Ld.f6Γ Ld.f6sig Ld.f6ann Go.Proofs.Tryd.f6 x=Ld.f6F x:=by
 intro x
 kernel_rfl
noncomputable def Ld.f6con:Con:=⟨6,Ld.f6sig,Ld.f6F⟩
theorem Ld.f6ok:Con.Ok Go.Proofs.Tryd.prog Ld.C Ld.f6con:=
 zb (Γ:=Ld.f6Γ) (an:=Ld.f6ann) ⟨Ld.Cok,(List.forall_mem_cons.2 ⟨Ld.f10ok,(fun _ h=>nomatch h)⟩),Ld.mixed⟩ Go.Proofs.Tryd.func6 rfl rfl (fun x y h=>(Ld.f6eq x).trans h) (by decide)
def Ld.f9sig:Sig:=⟨⟨[.hole (.sl (.int .i64)), .hole (.sl (.int .i64))], []⟩,⟨[.hole .bool], []⟩⟩
noncomputable def Ld.f9Γ:List Con:= []
def Ld.f9ann:Ann:=(.seq .leaf (.seq (.seq .leaf (.cond (.seq .leaf .leaf) .leaf)) (.seq (.seq .leaf (.block (.loop ⟨.normal, [(5, .hole (.int .i64))], []⟩ [⟨(.exit 0), [], []⟩,⟨.ret, [(4, .hole .bool)], []⟩] (.seq (.seq .leaf (.cond
 .leaf .leaf)) (.seq (.block (.seq .leaf (.cond (.seq .leaf .leaf) .leaf))) .leaf))))) (.seq .leaf .leaf))))
noncomputable def Ld.f9F:List Int×List Int→Option (Bool):=fun(x:List Int×List Int)=>if((x.1.length:Int)!=(x.2.length:Int))=true then some false else Option.bind (iter (fun(s1:Int)=>if decide (s1<(x.1.length:
 Int))=true then if(0:Int)≤s1∧s1<(x.1.length:Int) then if(0:Int)≤s1∧s1<(x.2.length:Int) then if(List.getD x.1 (Int.toNat s1) (0:Int)!=List.getD x.2 (Int.toNat s1) (0:Int))=true then some (Sum.inr (Sum.inr
 false)) else some (Sum.inl (IntKind.i64.wrap (s1+(1:Int)))) else none else none else some (Sum.inr (Sum.inl ()))) (0:Int)) fun v1=>Sum.elim (fun(p2:PUnit)=>some true) (fun(q2:Bool)=>some q2) v1
theorem Ld.f9eq: ∀ x,zl Ld.C Ld.f9Γ Ld.f9sig Ld.f9ann Go.Proofs.Tryd.f9 x=Ld.f9F x:=by
 intro x
 kernel_rfl
noncomputable def Ld.f9con:Con:=⟨9,Ld.f9sig,Ld.f9F⟩
theorem Ld.f9ok:Con.Ok Go.Proofs.Tryd.prog Ld.C Ld.f9con:=
 zb (Γ:=Ld.f9Γ) (an:=Ld.f9ann) ⟨Ld.Cok,(fun _ h=>nomatch h),Ld.mixed⟩ Go.Proofs.Tryd.func9 rfl rfl (fun x y h=>(Ld.f9eq x).trans h) (by decide)
def Ld.f13sig:Sig:=⟨⟨[.hole (.sl (.int .i64))], []⟩,⟨[.hole (.int .i64)], []⟩⟩
noncomputable def Ld.f13Γ:List Con:= []
def Ld.f13ann:Ann:=(.seq .leaf (.seq (.seq .leaf (.cond .leaf .leaf)) (.seq .leaf (.seq (.seq .leaf (.block (.loop ⟨.normal, [(3, .hole (.int .i64)),(4, .hole (.int .i64))], []⟩ [⟨(.exit 0), [(3, .hole (.int .i64))], []⟩] (.seq (.seq
 .leaf (.cond .leaf .leaf)) (.seq (.block .leaf) .leaf))))) (.seq .leaf .leaf)))))
noncomputable def Ld.f13F:List Int→Option (Int):=fun(x:List Int)=>if decide ((x.length:Int)<(1:Int))=true then none else if(0:Int)≤(0:Int)∧(0:Int)<(x.length:Int) then Option.bind (iter (fun(s1:Int×Int)
 =>if decide (s1.2<(x.length:Int))=true then if(0:Int)≤s1.2∧s1.2<(x.length:Int) then some (Sum.inl (zll s1.1 (List.getD x (Int.toNat s1.2) (0:Int)),IntKind.i64.wrap (s1.2+(1:Int)))) else none else some (Sum.inr
 s1.1)) (List.getD x (Int.toNat (0:Int)) (0:Int),(1:Int))) fun v1=>some v1 else none
theorem Ld.f13eq: ∀ x,zl Ld.C Ld.f13Γ Ld.f13sig Ld.f13ann Go.Proofs.Tryd.f13 x=Ld.f13F x:=by
 intro x
 kernel_rfl
noncomputable def Ld.f13con:Con:=⟨13,Ld.f13sig,Ld.f13F⟩
theorem Ld.f13ok:Con.Ok Go.Proofs.Tryd.prog Ld.C Ld.f13con:=
 zb (Γ:=Ld.f13Γ) (an:=Ld.f13ann) ⟨Ld.Cok,(fun _ h=>nomatch h),Ld.mixed⟩ Go.Proofs.Tryd.func13 rfl rfl (fun x y h=>(Ld.f13eq x).trans h) (by decide)
def Ld.f8sig:Sig:=⟨⟨[.hole (.sl (.int .i64))], []⟩,⟨[.hole (.int .i64)], []⟩⟩
noncomputable def Ld.f8Γ:List Con:= [Ld.f13con]
def Ld.f8ann:Ann:=(.seq .leaf (.seq (.seq .leaf (.cond (.seq .leaf .leaf) .leaf)) (.seq .leaf .leaf)))
noncomputable def Ld.f8F:List Int→Option (Int):=fun(x:List Int)=>if((x.length:Int)==(0:Int))=true then some (-1:Int) else Option.bind (Ld.f13F x) fun v1=>some v1
theorem Ld.f8eq: ∀ x,zl Ld.C Ld.f8Γ Ld.f8sig Ld.f8ann Go.Proofs.Tryd.f8 x=Ld.f8F x:=by
 intro x
 kernel_rfl
noncomputable def Ld.f8con:Con:=⟨8,Ld.f8sig,Ld.f8F⟩
theorem Ld.f8ok:Con.Ok Go.Proofs.Tryd.prog Ld.C Ld.f8con:=
 zb (Γ:=Ld.f8Γ) (an:=Ld.f8ann) ⟨Ld.Cok,(List.forall_mem_cons.2 ⟨Ld.f13ok,(fun _ h=>nomatch h)⟩),Ld.mixed⟩ Go.Proofs.Tryd.func8 rfl rfl (fun x y h=>(Ld.f8eq x).trans h) (by decide)
def Ld.f11sig:Sig:=⟨⟨[.own 0], [.arr 3 (.int .i64)]⟩,⟨[.own 1], [.gone, .arr 3 (.int .i64)]⟩⟩
noncomputable def Ld.f11Γ:List Con:= []
def Ld.f11ann:Ann:=(.seq .leaf (.seq (.seq .leaf (.cond (.seq .leaf .leaf) .leaf)) (.seq (.seq .leaf (.block (.loop ⟨.normal, [(3, .hole (.int .i64))], [.arr 3 (.int .i64)]⟩ [⟨(.exit 0), [], [.arr 3 (.int .i64)]⟩,⟨.ret, [(2, .own 1)],
 [.gone, .arr 3 (.int .i64)]⟩] (.seq (.seq .leaf (.cond .leaf .leaf)) (.seq (.block (.seq .leaf (.cond (.seq .leaf (.seq (.seq .leaf (.block (.loop ⟨.normal, [(3, .hole (.int .i64)),(5, .hole (.int .i64))], [.arr 3 (.int .i64)]⟩ [⟨(.exit
 2), [(3, .hole (.int .i64))], [.arr 3 (.int .i64)]⟩] (.seq (.seq .leaf (.cond .leaf .leaf)) (.seq (.block (.seq .leaf (.cond (.seq .leaf .leaf) .leaf))) .leaf))))) (.seq .leaf (.seq .leaf .leaf)))) .leaf))) .leaf))))) (.seq .leaf .leaf))))
noncomputable def Ld.f11F:List Int→Option (List Int):=fun(x:List Int)=>if decide ((x.length:Int)<(2:Int))=true then some x else Option.bind (iter (fun(s1:Int×List Int)=>if decide (s1.1<(s1.2.length:Int))=true
 then if(0:Int)≤s1.1∧s1.1<(s1.2.length:Int) then if(0:Int)≤IntKind.i64.wrap (s1.1 - (1:Int))∧IntKind.i64.wrap (s1.1 - (1:Int))<(s1.2.length:Int) then if(List.getD s1.2 (Int.toNat s1.1) (0:Int)==List.getD s1.2
 (Int.toNat (IntKind.i64.wrap (s1.1 - (1:Int)))) (0:Int))=true then if(0:Int)≤s1.1∧s1.1≤(s1.2.length:Int) then Option.bind (iter (fun(s2:Int×Int×List Int)=>if decide (s2.2.1<(↑(List.length s1.2 - Int.toNat s1.1):
 Int))=true then if(0:Int)≤s2.2.1∧s2.2.1<(↑(List.length s1.2 - Int.toNat s1.1):Int) then if(0:Int)≤IntKind.i64.wrap (s2.2.1 - (1:Int))∧IntKind.i64.wrap (s2.2.1 - (1:Int))<(↑(List.length s1.2 - Int.toNat s1.1):Int)
 then if(List.getD s2.2.2 (Int.toNat s1.1+Int.toNat s2.2.1) (0:Int)!=List.getD s2.2.2 (Int.toNat s1.1+Int.toNat (IntKind.i64.wrap (s2.2.1 - (1:Int)))) (0:Int))=true then if(0:Int)≤s2.2.1∧s2.2.1<(↑(List.length s1.2 -
 Int.toNat s1.1):Int) then if(0:Int)≤s2.1∧s2.1<(s2.2.2.length:Int) then some (Sum.inl (IntKind.i64.wrap (s2.1+(1:Int)),IntKind.i64.wrap (s2.2.1+(1:Int)),List.set s2.2.2 (Int.toNat s2.1) (List.getD s2.2.2 (Int.toNat
 s1.1+Int.toNat s2.2.1) (0:Int)))) else none else none else some (Sum.inl (s2.1,IntKind.i64.wrap (s2.2.1+(1:Int)),s2.2.2)) else none else none else some (Sum.inr (s2.1,s2.2.2))) (s1.1,(1:Int),s1.2)) fun(v2:Int×List Int)
 =>if(0:Int)≤v2.1∧v2.1≤(v2.2.length:Int) then if(0:Int)≤v2.1∧v2.1≤(↑(List.length (List.take (Int.toNat v2.1) v2.2++(List.replicate (List.length v2.2 - Int.toNat v2.1) (0:Int)++List.drop (Int.toNat v2.1+
 (List.length v2.2 - Int.toNat v2.1)) v2.2))):Int) then some (Sum.inr (Sum.inr (List.take (Int.toNat v2.1) (List.take (Int.toNat v2.1) v2.2++(List.replicate (List.length v2.2 - Int.toNat v2.1) (0:Int)++List.drop (Int.toNat v2.1+
 (List.length v2.2 - Int.toNat v2.1)) v2.2))))) else none else none else none else some (Sum.inl (IntKind.i64.wrap (s1.1+(1:Int)),s1.2)) else none else none else some (Sum.inr (Sum.inl s1.2))) ((1:Int),x)) fun(v1:List Int ⊕ List
 Int)=>Sum.elim (fun(p2:List Int)=>some p2) (fun(q2:List Int)=>some q2) v1
theorem Ld.f11eq: ∀ x,zl Ld.C Ld.f11Γ Ld.f11sig Ld.f11ann Go.Proofs.Tryd.f11 x=Ld.f11F x:=by
 intro x
 kernel_rfl
noncomputable def Ld.f11con:Con:=⟨11,Ld.f11sig,Ld.f11F⟩
theorem Ld.f11ok:Con.Ok Go.Proofs.Tryd.prog Ld.C Ld.f11con:=
 zb (Γ:=Ld.f11Γ) (an:=Ld.f11ann) ⟨Ld.Cok,(fun _ h=>nomatch h),Ld.mixed⟩ Go.Proofs.Tryd.func11 rfl rfl (fun x y h=>(Ld.f11eq x).trans h) (by decide)
def Ld.f7sig:Sig:=⟨⟨[.hole (.sl (.int .i64)), .hole (.int .i64)], []⟩,⟨[.hole .bool], []⟩⟩
noncomputable def Ld.f7Γ:List Con:= [Ld.f6con,Ld.f12con,Ld.f11con]
def Ld.f7ann:Ann:=(.seq .leaf (.seq .leaf (.seq .leaf .leaf)))
noncomputable def Ld.f7F:List Int×Int→Option (Bool):=fun(x:List Int×Int)=>Option.bind (Ld.f6F (x.1,x.2)) fun(v1:List Int×Int)=>Option.bind (Ld.f12F v1.1) fun(v2:List Int)=>Option.bind (Ld.f11F v2) fun(v3:List
 Int)=>some (decide ((v3.length:Int)≤(1:Int)))
theorem Ld.f7eq: ∀ x,zl Ld.C Ld.f7Γ Ld.f7sig Ld.f7ann Go.Proofs.Tryd.f7 x=Ld.f7F x:=by
 intro x
 kernel_rfl
noncomputable def Ld.f7con:Con:=⟨7,Ld.f7sig,Ld.f7F⟩
theorem Ld.f7ok:Con.Ok Go.Proofs.Tryd.prog Ld.C Ld.f7con:=
 zb (Γ:=Ld.f7Γ) (an:=Ld.f7ann) ⟨Ld.Cok,(List.forall_mem_cons.2 ⟨Ld.f6ok,(List.forall_mem_cons.2 ⟨Ld.f12ok,(List.forall_mem_cons.2 ⟨Ld.f11ok,(fun _ h=>nomatch h)⟩)⟩)⟩),Ld.mixed⟩ Go.Proofs.Tryd.func7 rfl rfl (fun x y h=>(Ld.f7eq x).trans h) (by decide)
def Ld.f5sig:Sig:=⟨⟨[], []⟩,⟨[.hole .bool], []⟩⟩
noncomputable def Ld.f5Γ:List Con:= [Ld.f6con,Ld.f9con,Ld.f8con,Ld.f7con]
def Ld.f5ann:Ann:=(.seq .leaf (.seq .leaf (.seq .leaf (.seq .leaf .leaf))))
noncomputable def Ld.f5F:PUnit→Option (Bool):=fun(x:PUnit)=>Option.bind (Ld.f6F ([(97:Int),(32:Int),(1488:Int),(32:Int),(49:Int),(50:Int),(40:Int),(1489:Int),(41:Int),(8235:Int),(33:Int)],(0:
 Int))) fun(v1:List Int×Int)=>Option.bind (Ld.f6F ([(1488:Int),(40:Int),(97:Int),(41:Int)],(2:Int))) fun(v2:List Int×Int)=>Option.bind (Ld.f9F (v1.1, [(0:Int),(0:Int),(1:Int),(1:Int),(2:Int),(2:
 Int),(1:Int),(1:Int),(1:Int),(1:Int),(1:Int)])) fun v3=>if v3=true then if(v1.2==(0:Int))=true then Option.bind (Ld.f9F (v2.1, [(1:Int),(1:Int),(2:Int),(1:Int)])) fun v4=>if v4=true then if(v2.2==
 (1:Int))=true then Option.bind (Ld.f8F v1.1) fun v5=>if(v5==(2:Int))=true then Option.bind (Ld.f7F ([(97:Int),(98:Int)],(0:Int))) fun v6=>if v6=true then Option.bind (Ld.f7F ([(97:Int),(1488:Int)],(0:Int)))
 fun v7=>some !v7 else some false else some false else some false else some false else some false else some false
theorem Ld.f5eq: ∀ x,zl Ld.C Ld.f5Γ Ld.f5sig Ld.f5ann Go.Proofs.Tryd.f5 x=Ld.f5F x:=by
 intro x
 kernel_rfl
noncomputable def Ld.f5con:Con:=⟨5,Ld.f5sig,Ld.f5F⟩
theorem Ld.f5ok:Con.Ok Go.Proofs.Tryd.prog Ld.C Ld.f5con:=
 zb (Γ:=Ld.f5Γ) (an:=Ld.f5ann) ⟨Ld.Cok,(List.forall_mem_cons.2 ⟨Ld.f6ok,(List.forall_mem_cons.2 ⟨Ld.f9ok,(List.forall_mem_cons.2 ⟨Ld.f8ok,(List.forall_mem_cons.2 ⟨Ld.f7ok,(fun _ h=>nomatch h)⟩)⟩)⟩)⟩),Ld.mixed⟩ Go.Proofs.Tryd.func5 rfl rfl (fun x y h=>(Ld.f5eq x).trans h) (by decide)
def Ld.f3sig:Sig:=⟨⟨[.hole (.sl (.int .u8)), .hole (.int .i64), .hole .bool], []⟩,⟨[.hole .bool], []⟩⟩
noncomputable def Ld.f3Γ:List Con:= [Ld.f5con,Ld.f6con,Ld.f7con]
def Ld.f3ann:Ann:=(.seq .leaf (.seq (.seq .leaf (.cond (.seq .leaf .leaf) .leaf)) (.seq (.seq .leaf (.cond (.seq .leaf .leaf) .leaf)) (.seq .leaf (.seq (.seq .leaf (.block (.loop ⟨.normal, [(7, .own 0),(8, .hole (.int .i64))], [.arr 3
 (.int .i64)]⟩ [⟨(.exit 0), [(7, .own 0)], [.arr 3 (.int .i64)]⟩] (.seq (.seq .leaf (.cond .leaf .leaf)) (.seq (.block (.seq .leaf (.seq (.seq .leaf (.cond .leaf .leaf)) .leaf))) .leaf))))) (.seq .leaf (.seq .leaf (.seq (.join [⟨.normal,
 [(12, .hole (.int .i64))], [.gone]⟩] (.seq .leaf (.cond .leaf .leaf))) (.seq .leaf (.seq (.join [⟨.normal, [(13, .hole (.int .i64))], [.gone]⟩] (.seq (.join [⟨.normal, [(63, .hole .bool)], [.gone]⟩] .leaf) (.cond (.seq .leaf (.seq .leaf
 (.cond .leaf .leaf))) .leaf))) (.seq (.seq .leaf (.block (.loop ⟨.normal, [(14, .hole (.int .i64))], [.gone]⟩ [⟨(.exit 2), [], [.gone]⟩,⟨.ret, [(6, .hole .bool)], [.gone]⟩] (.seq (.seq .leaf (.cond .leaf .leaf)) (.seq (.block (.seq (.join
 [⟨.normal, [(95, .hole .bool)], [.gone]⟩] .leaf) (.cond (.seq .leaf .leaf) .leaf))) .leaf))))) (.seq .leaf .leaf))))))))))))
noncomputable def Ld.f3F:List Int×Int×Bool→Option (Bool):=fun(x:List Int×Int×Bool)=>Option.bind (Ld.f5F ()) fun v1=>if(!v1)=true then some false else if decide ((x.1.length:Int) > (200:Int))=true then some true
 else Option.bind (iter (fun(s2:Int×List Int)=>if decide (s2.1<(x.1.length:Int))=true then if(0:Int)≤s2.1∧s2.1<(x.1.length:Int) then if x.2.2=true then if(0:Int)≤s2.1∧s2.1<(x.1.length:Int) then if zk
 (List.length s2.2+(1:Nat)) (8:Nat) then some (Sum.inl (IntKind.i64.wrap (s2.1+(1:Int)),s2.2++ [IntKind.i64.wrap ((1488:Int)+Int.tmod (IntKind.i64.wrap (List.getD x.1 (Int.toNat s2.1) (0:Int))) (27:Int))])) else none else
 none else if zk (List.length s2.2+(1:Nat)) (8:Nat) then some (Sum.inl (IntKind.i64.wrap (s2.1+(1:Int)),s2.2++ [IntKind.i64.wrap ((97:Int)+Int.tmod (IntKind.i64.wrap (List.getD x.1 (Int.toNat s2.1) (0:Int))) (26:
 Int))])) else none else none else some (Sum.inr s2.2)) ((0:Int), [])) fun(v2:List Int)=>Option.bind (Ld.f6F (v2,x.2.1)) fun(v3:List Int×Int)=>Option.bind (if x.2.2=true then some (1:Int) else some (0:Int)) fun v4=>
 Option.bind (Option.bind (if(x.2.1==(1:Int))=true then some true else if(x.2.1==(2:Int))=true then some true else some ((x.1.length:Int)==(0:Int))) fun v5=>if v5=true then if(x.2.1==(2:Int))=true then some (1
 :Int) else some (0:Int) else some v4) fun v5=>Option.bind (iter (fun(s6:Int)=>if decide (s6<(v3.1.length:Int))=true then Option.bind (if(0:Int)≤s6∧s6<(v3.1.length:Int) then if(Int.tmod (List.getD v3.1 (Int.toNat
 s6) (0:Int)) (2:Int)!=v4)=true then some true else if(0:Int)≤s6∧s6<(v3.1.length:Int) then if decide (List.getD v3.1 (Int.toNat s6) (0:Int)<v3.2)=true then some true else if(0:Int)≤s6∧s6<(v3.1.length:Int)
 then some (decide (List.getD v3.1 (Int.toNat s6) (0:Int) > IntKind.i64.wrap (v3.2+(1:Int)))) else none else none else none) fun v7=>if v7=true then some (Sum.inr (Sum.inr false)) else some (Sum.inl (IntKind.i64.wrap (s6+(1:
 Int)))) else some (Sum.inr (Sum.inl ()))) (0:Int)) fun v6=>Sum.elim (fun(p7:PUnit)=>if((v3.1.length:Int)==(x.1.length:Int))=true then if(v3.2==v5)=true then Option.bind (Ld.f7F (v2,x.2.1)) fun v8=>some v8 else some
 false else some false) (fun(q7:Bool)=>some q7) v6
theorem Ld.f3eq: ∀ x,zl Ld.C Ld.f3Γ Ld.f3sig Ld.f3ann Go.Proofs.Tryd.f3 x=Ld.f3F x:=by
 intro x
 kernel_rfl
noncomputable def Ld.f3con:Con:=⟨3,Ld.f3sig,Ld.f3F⟩
theorem Ld.f3ok:Con.Ok Go.Proofs.Tryd.prog Ld.C Ld.f3con:=
 zb (Γ:=Ld.f3Γ) (an:=Ld.f3ann) ⟨Ld.Cok,(List.forall_mem_cons.2 ⟨Ld.f5ok,(List.forall_mem_cons.2 ⟨Ld.f6ok,(List.forall_mem_cons.2 ⟨Ld.f7ok,(fun _ h=>nomatch h)⟩)⟩)⟩),Ld.mixed⟩ Go.Proofs.Tryd.func3 rfl rfl (fun x y h=>(Ld.f3eq x).trans h) (by decide)
end Go.Sx
