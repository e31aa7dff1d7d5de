import Derived.Test.YtpmbmobjnknnhaaGreatDoorSxTAa
import Derived.KernelRfl
set_option maxRecDepth 100000
set_option maxHeartbeats 0
set_option linter.unusedVariables false
set_option linter.unusedSimpArgs false
namespace Go.Sx
open Go.Proofs
noncomputable def R.f190F:Int×Int×List (List Int)×Int→Option (Int×Int×List (List Int)×Int):=fun(x:Int×Int×List (List Int)×Int)=>if(0:Int)≤x.2.1∧x.2.1<(x.2.2.1.length:Int) then if(0:Int)≤x.1∧x.1
 <(x.2.2.1.length:Int) then Option.bind (R.f151F (List.getD x.2.2.1 (Int.toNat x.2.1) (List.replicate (2:Nat) (0:Int)),List.getD x.2.2.1 (Int.toNat x.1) (List.replicate (2:Nat) (0:Int)))) fun v1=>if decide (v1<(0:Int))=
 true then some (x.2.1,x.1,x.2.2.1,IntKind.i64.wrap (x.2.2.2+(1:Int))) else some (x.1,x.2.1,x.2.2.1,x.2.2.2) else none else none
theorem R.f190eq: ∀ x,zk R.C R.f190Γ R.f190sig R.f190ann Go.Proofs.Tryz.f190 x=R.f190F x:=by
 intro x
 kernel_rfl
noncomputable def R.f190con:Con:=⟨190,R.f190sig,R.f190F⟩
theorem R.f190ok:Con.Ok Go.Proofs.Tryz.prog R.C R.f190con:=
 zb (Γ:=R.f190Γ) (an:=R.f190ann) ⟨R.Cok,(List.forall_mem_cons.2 ⟨R.f151ok,(fun _ h=>nomatch h)⟩),R.mixed⟩ Go.Proofs.Tryz.func190 rfl rfl (fun x y h=>(R.f190eq x).trans h) (by decide)
def R.f189sig:Sig:=⟨⟨[.own 0, .hole (.int .i64), .hole (.int .i64), .hole (.int .i64), .ptr 1 0, .fnc 151 0], [.arr 118 (.arr 2 (.int .i64)), .cells [.hole (.int .i64)]]⟩,⟨[.hole (.int .i64)], [.arr 118 (.arr 2 (.int .i64)), .cells
 [.hole (.int .i64)]]⟩⟩
noncomputable def R.f189Γ:List Con:= [R.f190con,R.f151con]
def R.f189ann:Ann:=(.seq .leaf (.seq .leaf (.seq .leaf (.seq .leaf (.seq .leaf .leaf)))))
noncomputable def R.f189F:Int×Int×Int×List (List Int)×Int→Option (Int×List (List Int)×Int):=fun(x:Int×Int×Int×List (List Int)×Int)=>Option.bind (R.f190F (x.1,x.2.1,x.2.2.2.1,x.2.2.2.2)) fun(v1:Int×Int
 ×List (List Int)×Int)=>Option.bind (R.f190F (v1.2.1,x.2.2.1,v1.2.2.1,v1.2.2.2)) fun(v2:Int×Int×List (List Int)×Int)=>Option.bind (R.f190F (v1.1,v2.1,v2.2.2.1,v2.2.2.2)) fun(v3:Int×Int×List (List Int)×Int)=>
 some (v3.2.1,v3.2.2.1,v3.2.2.2)
theorem R.f189eq: ∀ x,zk R.C R.f189Γ R.f189sig R.f189ann Go.Proofs.Tryz.f189 x=R.f189F x:=by
 intro x
 kernel_rfl
noncomputable def R.f189con:Con:=⟨189,R.f189sig,R.f189F⟩
theorem R.f189ok:Con.Ok Go.Proofs.Tryz.prog R.C R.f189con:=
 zb (Γ:=R.f189Γ) (an:=R.f189ann) ⟨R.Cok,(List.forall_mem_cons.2 ⟨R.f190ok,(List.forall_mem_cons.2 ⟨R.f151ok,(fun _ h=>nomatch h)⟩)⟩),R.mixed⟩ Go.Proofs.Tryz.func189 rfl rfl (fun x y h=>(R.f189eq x).trans h) (by decide)
def R.f188sig:Sig:=⟨⟨[.own 0, .hole (.int .i64), .ptr 1 0, .fnc 151 0], [.arr 118 (.arr 2 (.int .i64)), .cells [.hole (.int .i64)]]⟩,⟨[.hole (.int .i64)], [.arr 118 (.arr 2 (.int .i64)), .cells [.hole (.int .i64)]]⟩⟩
noncomputable def R.f188Γ:List Con:= [R.f189con,R.f151con]
def R.f188ann:Ann:=(.seq .leaf (.seq .leaf .leaf))
noncomputable def R.f188F:Int×List (List Int)×Int→Option (Int×List (List Int)×Int):=fun(x:Int×List (List Int)×Int)=>Option.bind (R.f189F (IntKind.i64.wrap (x.1 - (1:Int)),x.1,IntKind.i64.wrap (x.1+(1:Int)),
 x.2.1,x.2.2)) fun(v1:Int×List (List Int)×Int)=>some (v1.1,v1.2.1,v1.2.2)
theorem R.f188eq: ∀ x,zk R.C R.f188Γ R.f188sig R.f188ann Go.Proofs.Tryz.f188 x=R.f188F x:=by
 intro x
 kernel_rfl
noncomputable def R.f188con:Con:=⟨188,R.f188sig,R.f188F⟩
theorem R.f188ok:Con.Ok Go.Proofs.Tryz.prog R.C R.f188con:=
 zb (Γ:=R.f188Γ) (an:=R.f188ann) ⟨R.Cok,(List.forall_mem_cons.2 ⟨R.f189ok,(List.forall_mem_cons.2 ⟨R.f151ok,(fun _ h=>nomatch h)⟩)⟩),R.mixed⟩ Go.Proofs.Tryz.func188 rfl rfl (fun x y h=>(R.f188eq x).trans h) (by decide)
def R.f178sig:Sig:=⟨⟨[.own 0, .hole (.int .i64), .hole (.int .i64), .fnc 151 0], [.arr 118 (.arr 2 (.int .i64))]⟩,⟨[.hole (.int .i64), .hole (.int .i64)], [.arr 118 (.arr 2 (.int .i64))]⟩⟩
noncomputable def R.f178Γ:List Con:= [R.f188con,R.f189con,R.f151con]
def R.f178ann:Ann:=(.seq .leaf (.seq .leaf (.seq .leaf (.seq .leaf (.seq .leaf (.seq .leaf (.seq (.join [⟨.normal, [(13, .hole (.int .i64))], [.arr 118 (.arr 2 (.int .i64)), .cells [.hole (.int .i64)]]⟩] (.seq .leaf (.cond (.seq (.join
 [⟨.normal, [(12, .hole (.int .i64)),(13, .hole (.int .i64)),(14, .hole (.int .i64))], [.arr 118 (.arr 2 (.int .i64)), .cells [.hole (.int .i64)]]⟩] (.seq .leaf (.cond (.seq .leaf (.seq .leaf .leaf)) .leaf))) .leaf) .leaf))) (.seq .leaf
 (.block (.seq .leaf (.cond (.seq .leaf .leaf) (.seq .leaf (.cond (.seq .leaf .leaf) (.seq .leaf .leaf))))))))))))))
noncomputable def R.f178F:Int×Int×List (List Int)→Option (Int×Int×List (List Int)):=fun(x:Int×Int×List (List Int))=>Option.bind (if decide (IntKind.i64.wrap (x.2.1 - x.1)≥(8:Int))=true then Option.bind (if
 decide (IntKind.i64.wrap (x.2.1 - x.1)≥(50:Int))=true then Option.bind (R.f188F (IntKind.i64.wrap (x.1+IntKind.i64.wrap (IntKind.i64.wrap (Int.tdiv (IntKind.i64.wrap (x.2.1 - x.1)) (4:Int))*(1:Int))),x.2.2,(0:Int))) fun
 (v1:Int×List (List Int)×Int)=>Option.bind (R.f188F (IntKind.i64.wrap (x.1+IntKind.i64.wrap (IntKind.i64.wrap (Int.tdiv (IntKind.i64.wrap (x.2.1 - x.1)) (4:Int))*(2:Int))),v1.2.1,v1.2.2)) fun(v2:Int×List (List Int)×
 Int)=>Option.bind (R.f188F (IntKind.i64.wrap (x.1+IntKind.i64.wrap (IntKind.i64.wrap (Int.tdiv (IntKind.i64.wrap (x.2.1 - x.1)) (4:Int))*(3:Int))),v2.2.1,v2.2.2)) fun(v3:Int×List (List Int)×Int)=>some (v1.1,v2.1,v3.1,
 v3.2.1,v3.2.2) else some (IntKind.i64.wrap (x.1+IntKind.i64.wrap (IntKind.i64.wrap (Int.tdiv (IntKind.i64.wrap (x.2.1 - x.1)) (4:Int))*(1:Int))),IntKind.i64.wrap (x.1+IntKind.i64.wrap (IntKind.i64.wrap (Int.tdiv
 (IntKind.i64.wrap (x.2.1 - x.1)) (4:Int))*(2:Int))),IntKind.i64.wrap (x.1+IntKind.i64.wrap (IntKind.i64.wrap (Int.tdiv (IntKind.i64.wrap (x.2.1 - x.1)) (4:Int))*(3:Int))),x.2.2,(0:Int))) fun(v1:Int×Int×Int×List
 (List Int)×Int)=>Option.bind (R.f189F (v1.1,v1.2.1,v1.2.2.1,v1.2.2.2.1,v1.2.2.2.2)) fun(v2:Int×List (List Int)×Int)=>some (v2.1,v2.2.1,v2.2.2) else some (IntKind.i64.wrap (x.1+IntKind.i64.wrap (IntKind.i64.wrap
 (Int.tdiv (IntKind.i64.wrap (x.2.1 - x.1)) (4:Int))*(2:Int))),x.2.2,(0:Int))) fun(v1:Int×List (List Int)×Int)=>if(v1.2.2==(0:Int))=true then some (v1.1,(1:Int),v1.2.1) else if(v1.2.2==(12:Int))=true then
 some (v1.1,(2:Int),v1.2.1) else some (v1.1,(0:Int),v1.2.1)
theorem R.f178eq: ∀ x,zk R.C R.f178Γ R.f178sig R.f178ann Go.Proofs.Tryz.f178 x=R.f178F x:=by
 intro x
 kernel_rfl
noncomputable def R.f178con:Con:=⟨178,R.f178sig,R.f178F⟩
theorem R.f178ok:Con.Ok Go.Proofs.Tryz.prog R.C R.f178con:=
 zb (Γ:=R.f178Γ) (an:=R.f178ann) ⟨R.Cok,(List.forall_mem_cons.2 ⟨R.f188ok,(List.forall_mem_cons.2 ⟨R.f189ok,(List.forall_mem_cons.2 ⟨R.f151ok,(fun _ h=>nomatch h)⟩)⟩)⟩),R.mixed⟩ Go.Proofs.Tryz.func178 rfl rfl (fun x y h=>(R.f178eq x).trans h) (by decide)
def R.f179sig:Sig:=⟨⟨[.own 0, .hole (.int .i64), .hole (.int .i64), .fnc 151 0], [.arr 118 (.arr 2 (.int .i64))]⟩,⟨[], [.arr 118 (.arr 2 (.int .i64))]⟩⟩
noncomputable def R.f179Γ:List Con:= [R.f151con]
def R.f179ann:Ann:=(.seq .leaf (.seq .leaf (.block (.loop ⟨.normal, [(8, .hole (.int .i64)),(9, .hole (.int .i64))], [.arr 118 (.arr 2 (.int .i64))]⟩ [⟨(.exit 0), [], [.arr 118 (.arr 2 (.int .i64))]⟩] (.seq (.seq .leaf (.cond .leaf
 .leaf)) (.block (.seq (.eff 1 [] [0,0,0,0,0,0,48,112,0,0,768,1792,4083,8179,16383,32767]) (.seq .leaf .leaf))))))))
noncomputable def R.f179F:Int×Int×List (List Int)→Option (List (List Int)):=fun(x:Int×Int×List (List Int))=>Option.bind (iter (fun(s1:Int×Int×List (List Int))=>if decide (s1.1<s1.2.1)=true then if(0:Int)≤
 s1.2.1∧s1.2.1<(s1.2.2.length:Int) then if(0:Int)≤s1.1∧s1.1<(s1.2.2.length:Int) then if(0:Int)≤s1.1∧s1.1<(s1.2.2.length:Int) then if(0:Int)≤s1.2.1∧s1.2.1<(↑(List.length (List.set s1.2.2 (Int.toNat s1.1)
 (List.getD s1.2.2 (Int.toNat s1.2.1) (List.replicate (2:Nat) (0:Int))))):Int) then some (Sum.inl (IntKind.i64.wrap (s1.1+(1:Int)),IntKind.i64.wrap (s1.2.1 - (1:Int)),List.set (List.set s1.2.2 (Int.toNat s1.1) (List.getD s1.2.2
 (Int.toNat s1.2.1) (List.replicate (2:Nat) (0:Int)))) (Int.toNat s1.2.1) (List.getD s1.2.2 (Int.toNat s1.1) (List.replicate (2:Nat) (0:Int))))) else none else none else none else none else some (Sum.inr s1.2.2)) (x.1,
 IntKind.i64.wrap (x.2.1 - (1:Int)),x.2.2)) fun(v1:List (List Int))=>some v1
theorem R.f179eq: ∀ x,zk R.C R.f179Γ R.f179sig R.f179ann Go.Proofs.Tryz.f179 x=R.f179F x:=by
 intro x
 kernel_rfl
noncomputable def R.f179con:Con:=⟨179,R.f179sig,R.f179F⟩
theorem R.f179ok:Con.Ok Go.Proofs.Tryz.prog R.C R.f179con:=
 zb (Γ:=R.f179Γ) (an:=R.f179ann) ⟨R.Cok,(List.forall_mem_cons.2 ⟨R.f151ok,(fun _ h=>nomatch h)⟩),R.mixed⟩ Go.Proofs.Tryz.func179 rfl rfl (fun x y h=>(R.f179eq x).trans h) (by decide)
def R.f180sig:Sig:=⟨⟨[.own 0, .hole (.int .i64), .hole (.int .i64), .fnc 151 0], [.arr 118 (.arr 2 (.int .i64))]⟩,⟨[.hole .bool], [.arr 118 (.arr 2 (.int .i64))]⟩⟩
noncomputable def R.f180Γ:List Con:= [R.f151con]
def R.f180ann:Ann:=(.seq .leaf (.seq .leaf (.seq (.seq .leaf (.block (.loop ⟨.normal, [(9, .hole (.int .i64)),(10, .hole (.int .i64))], [.arr 118 (.arr 2 (.int .i64))]⟩ [⟨(.exit 0), [], [.arr 118 (.arr 2 (.int .i64))]⟩,⟨.ret, [(8,
 .hole .bool)], [.arr 118 (.arr 2 (.int .i64))]⟩] (.seq (.seq .leaf (.cond .leaf .leaf)) (.seq (.block (.seq (.block (.loop ⟨.normal, [(9, .hole (.int .i64))], [.arr 118 (.arr 2 (.int .i64))]⟩ [⟨(.exit 2), [(9, .hole (.int .i64))], [.arr 118
 (.arr 2 (.int .i64))]⟩] (.seq (.seq (.join [⟨.normal, [(36, .hole .bool)], [.arr 118 (.arr 2 (.int .i64))]⟩] .leaf) (.cond .leaf .leaf)) (.block .leaf)))) (.seq (.seq .leaf (.cond (.seq .leaf .leaf) .leaf)) (.seq (.seq .leaf (.cond (.seq
 .leaf .leaf) .leaf)) (.seq (.eff 1 [] [0,0,0,0,8,0,0,64,224,480,0,0,3072,7168,16355,32739,65535,131071]) (.seq (.join [⟨.normal, [], [.arr 118 (.arr 2 (.int .i64))]⟩] (.seq .leaf (.cond (.seq .leaf (.block (.loop ⟨.normal,
 [(11, .hole (.int .i64))], [.arr 118 (.arr 2 (.int .i64))]⟩ [⟨(.exit 4), [], [.arr 118 (.arr 2 (.int .i64))]⟩] (.seq (.seq .leaf (.cond .leaf .leaf)) (.seq (.block (.seq (.seq .leaf (.cond .leaf .leaf)) (.eff 1 [] [0,0,0,0,8,0,0,64,
 224,480,0,0,3072,7168,16355,32739,65535,131071]))) .leaf))))) .leaf))) (.seq .leaf (.cond (.seq .leaf (.block (.loop ⟨.normal, [(12, .hole (.int .i64))], [.arr 118 (.arr 2 (.int .i64))]⟩ [⟨(.exit 6), [], [.arr 118 (.arr 2 (.int
 .i64))]⟩] (.seq (.seq .leaf (.cond .leaf .leaf)) (.seq (.block (.seq (.seq .leaf (.cond .leaf .leaf)) (.eff 1 [] [0,0,0,0,8,0,0,64,224,480,0,0,3072,7168,16355,32739,65535,131071]))) .leaf))))) .leaf)))))))) .leaf))))) (.seq
 .leaf .leaf))))
noncomputable def R.f180F:Int×Int×List (List Int)→Option (Bool×List (List Int)):=fun(x:Int×Int×List (List Int))=>Option.bind (iter (fun(s1:Int×Int×List (List Int))=>if decide (s1.2.1<(5:Int))=true then
 Option.bind (iter (fun(s2:Int×List (List Int))=>Option.bind (if decide (s2.1<x.2.1)=true then if(0:Int)≤s2.1∧s2.1<(s2.2.length:Int) then if(0:Int)≤IntKind.i64.wrap (s2.1 - (1:Int))∧IntKind.i64.wrap (s2.1 - (1
 :Int))<(s2.2.length:Int) then Option.bind (R.f151F (List.getD s2.2 (Int.toNat s2.1) (List.replicate (2:Nat) (0:Int)),List.getD s2.2 (Int.toNat (IntKind.i64.wrap (s2.1 - (1:Int)))) (List.replicate (2:Nat) (0:Int)))) fun v3=>
 some (!decide (v3<(0:Int)),s2.2) else none else none else some (false,s2.2)) fun(v3:Bool×List (List Int))=>if v3.1=true then some (Sum.inl (IntKind.i64.wrap (s2.1+(1:Int)),v3.2)) else some (Sum.inr (s2.1,v3.2))) (s1.1,
 s1.2.2)) fun(v2:Int×List (List Int))=>if(v2.1==x.2.1)=true then some (Sum.inr (Sum.inr (true,v2.2))) else if decide (IntKind.i64.wrap (x.2.1 - x.1)<(50:Int))=true then some (Sum.inr (Sum.inr (false,v2.2))) else if(0:
 Int)≤IntKind.i64.wrap (v2.1 - (1:Int))∧IntKind.i64.wrap (v2.1 - (1:Int))<(v2.2.length:Int) then if(0:Int)≤v2.1∧v2.1<(v2.2.length:Int) then if(0:Int)≤v2.1∧v2.1<(v2.2.length:Int) then if(0:Int)≤
 IntKind.i64.wrap (v2.1 - (1:Int))∧IntKind.i64.wrap (v2.1 - (1:Int))<(↑(List.length (List.set v2.2 (Int.toNat v2.1) (List.getD v2.2 (Int.toNat (IntKind.i64.wrap (v2.1 - (1:Int)))) (List.replicate (2:Nat) (0:Int))))):Int) then
 Option.bind (if decide (IntKind.i64.wrap (v2.1 - x.1)≥(2:Int))=true then Option.bind (iter (fun(s3:Int×List (List Int))=>if decide (s3.1≥(1:Int))=true then if(0:Int)≤s3.1∧s3.1<(s3.2.length:Int) then if(0:
 Int)≤IntKind.i64.wrap (s3.1 - (1:Int))∧IntKind.i64.wrap (s3.1 - (1:Int))<(s3.2.length:Int) then Option.bind (R.f151F (List.getD s3.2 (Int.toNat s3.1) (List.replicate (2:Nat) (0:Int)),List.getD s3.2 (Int.toNat
 (IntKind.i64.wrap (s3.1 - (1:Int)))) (List.replicate (2:Nat) (0:Int)))) fun v4=>if(!decide (v4<(0:Int)))=true then some (Sum.inr s3.2) else if(0:Int)≤IntKind.i64.wrap (s3.1 - (1:Int))∧IntKind.i64.wrap (s3.1 - (1:
 Int))<(s3.2.length:Int) then if(0:Int)≤s3.1∧s3.1<(s3.2.length:Int) then if(0:Int)≤s3.1∧s3.1<(s3.2.length:Int) then if(0:Int)≤IntKind.i64.wrap (s3.1 - (1:Int))∧IntKind.i64.wrap (s3.1 - (1:Int))<
 (↑(List.length (List.set s3.2 (Int.toNat s3.1) (List.getD s3.2 (Int.toNat (IntKind.i64.wrap (s3.1 - (1:Int)))) (List.replicate (2:Nat) (0:Int))))):Int) then some (Sum.inl (IntKind.i64.wrap (s3.1 - (1:Int)),List.set (List.set s3.2
 (Int.toNat s3.1) (List.getD s3.2 (Int.toNat (IntKind.i64.wrap (s3.1 - (1:Int)))) (List.replicate (2:Nat) (0:Int)))) (Int.toNat (IntKind.i64.wrap (s3.1 - (1:Int)))) (List.getD s3.2 (Int.toNat s3.1) (List.replicate (2:Nat) (0:
 Int))))) else none else none else none else none else none else none else some (Sum.inr s3.2)) (IntKind.i64.wrap (v2.1 - (1:Int)),List.set (List.set v2.2 (Int.toNat v2.1) (List.getD v2.2 (Int.toNat (IntKind.i64.wrap (v2.1 - (1:Int))))
 (List.replicate (2:Nat) (0:Int)))) (Int.toNat (IntKind.i64.wrap (v2.1 - (1:Int)))) (List.getD v2.2 (Int.toNat v2.1) (List.replicate (2:Nat) (0:Int))))) fun(v3:List (List Int))=>some v3 else some (List.set (List.set v2.2
 (Int.toNat v2.1) (List.getD v2.2 (Int.toNat (IntKind.i64.wrap (v2.1 - (1:Int)))) (List.replicate (2:Nat) (0:Int)))) (Int.toNat (IntKind.i64.wrap (v2.1 - (1:Int)))) (List.getD v2.2 (Int.toNat v2.1) (List.replicate (2:Nat) (0:
 Int))))) fun(v3:List (List Int))=>if decide (IntKind.i64.wrap (x.2.1 - v2.1)≥(2:Int))=true then Option.bind (iter (fun(s4:Int×List (List Int))=>if decide (s4.1<x.2.1)=true then if(0:Int)≤s4.1∧s4.1<(s4.2.length
 :Int) then if(0:Int)≤IntKind.i64.wrap (s4.1 - (1:Int))∧IntKind.i64.wrap (s4.1 - (1:Int))<(s4.2.length:Int) then Option.bind (R.f151F (List.getD s4.2 (Int.toNat s4.1) (List.replicate (2:Nat) (0:Int)),List.getD s4.2
 (Int.toNat (IntKind.i64.wrap (s4.1 - (1:Int)))) (List.replicate (2:Nat) (0:Int)))) fun v5=>if(!decide (v5<(0:Int)))=true then some (Sum.inr s4.2) else if(0:Int)≤IntKind.i64.wrap (s4.1 - (1:Int))∧IntKind.i64.wrap
 (s4.1 - (1:Int))<(s4.2.length:Int) then if(0:Int)≤s4.1∧s4.1<(s4.2.length:Int) then if(0:Int)≤s4.1∧s4.1<(s4.2.length:Int) then if(0:Int)≤IntKind.i64.wrap (s4.1 - (1:Int))∧IntKind.i64.wrap (s4.1 - (1:
 Int))<(↑(List.length (List.set s4.2 (Int.toNat s4.1) (List.getD s4.2 (Int.toNat (IntKind.i64.wrap (s4.1 - (1:Int)))) (List.replicate (2:Nat) (0:Int))))):Int) then some (Sum.inl (IntKind.i64.wrap (s4.1+(1:Int)),List.set
 (List.set s4.2 (Int.toNat s4.1) (List.getD s4.2 (Int.toNat (IntKind.i64.wrap (s4.1 - (1:Int)))) (List.replicate (2:Nat) (0:Int)))) (Int.toNat (IntKind.i64.wrap (s4.1 - (1:Int)))) (List.getD s4.2 (Int.toNat s4.1) (List.replicate (2:
 Nat) (0:Int))))) else none else none else none else none else none else none else some (Sum.inr s4.2)) (IntKind.i64.wrap (v2.1+(1:Int)),v3)) fun(v4:List (List Int))=>some (Sum.inl (v2.1,IntKind.i64.wrap (s1.2.1+(1:Int)),
 v4)) else some (Sum.inl (v2.1,IntKind.i64.wrap (s1.2.1+(1:Int)),v3)) else none else none else none else none else some (Sum.inr (Sum.inl s1.2.2))) (IntKind.i64.wrap (x.1+(1:Int)),(0:Int),x.2.2)) fun(v1:List (List Int) ⊕
 Bool×List (List Int))=>Sum.elim (fun(p2:List (List Int))=>some (false,p2)) (fun(q2:Bool×List (List Int))=>some (q2.1,q2.2)) v1
theorem R.f180eq: ∀ x,zk R.C R.f180Γ R.f180sig R.f180ann Go.Proofs.Tryz.f180 x=R.f180F x:=by
 intro x
 kernel_rfl
noncomputable def R.f180con:Con:=⟨180,R.f180sig,R.f180F⟩
theorem R.f180ok:Con.Ok Go.Proofs.Tryz.prog R.C R.f180con:=
 zb (Γ:=R.f180Γ) (an:=R.f180ann) ⟨R.Cok,(List.forall_mem_cons.2 ⟨R.f151ok,(fun _ h=>nomatch h)⟩),R.mixed⟩ Go.Proofs.Tryz.func180 rfl rfl (fun x y h=>(R.f180eq x).trans h) (by decide)
def R.f181sig:Sig:=⟨⟨[.own 0, .hole (.int .i64), .hole (.int .i64), .hole (.int .i64), .fnc 151 0], [.arr 118 (.arr 2 (.int .i64))]⟩,⟨[.hole (.int .i64)], [.arr 118 (.arr 2 (.int .i64))]⟩⟩
noncomputable def R.f181Γ:List Con:= [R.f151con]
def R.f181ann:Ann:=(.seq .leaf (.seq (.eff 1 [] [0,0,0,0,0,0,48,112,0,0,768,1792,4083,8179,16383,32767]) (.seq .leaf (.seq (.block (.loop ⟨.normal, [(11, .hole (.int .i64)),(12, .hole (.int .i64))], [.arr 118 (.arr 2
 (.int .i64))]⟩ [⟨(.exit 0), [(11, .hole (.int .i64))], [.arr 118 (.arr 2 (.int .i64))]⟩] (.block (.seq (.block (.loop ⟨.normal, [(11, .hole (.int .i64))], [.arr 118 (.arr 2 (.int .i64))]⟩ [⟨(.exit 2), [(11, .hole (.int .i64))], [.arr 118
 (.arr 2 (.int .i64))]⟩] (.seq (.seq (.join [⟨.normal, [(47, .hole .bool)], [.arr 118 (.arr 2 (.int .i64))]⟩] .leaf) (.cond .leaf .leaf)) (.block .leaf)))) (.seq (.block (.loop ⟨.normal, [(12, .hole (.int .i64))], [.arr 118 (.arr 2 (.int
 .i64))]⟩ [⟨(.exit 4), [(12, .hole (.int .i64))], [.arr 118 (.arr 2 (.int .i64))]⟩] (.seq (.seq (.join [⟨.normal, [(65, .hole .bool)], [.arr 118 (.arr 2 (.int .i64))]⟩] .leaf) (.cond .leaf .leaf)) (.block .leaf)))) (.seq (.seq .leaf (.cond
 .leaf .leaf)) (.seq (.eff 1 [] [0,0,0,0,0,0,48,112,0,0,768,1792,4083,8179,16383,32767]) (.seq .leaf .leaf)))))))) (.seq .leaf .leaf)))))
noncomputable def R.f181F:Int×Int×Int×List (List Int)→Option (Int×List (List Int)):=fun(x:Int×Int×Int×List (List Int))=>if(0:Int)≤x.2.2.1∧x.2.2.1<(x.2.2.2.length:Int) then if(0:Int)≤x.1∧x.1<
 (x.2.2.2.length:Int) then if(0:Int)≤x.1∧x.1<(x.2.2.2.length:Int) then if(0:Int)≤x.2.2.1∧x.2.2.1<(↑(List.length (List.set x.2.2.2 (Int.toNat x.1) (List.getD x.2.2.2 (Int.toNat x.2.2.1) (List.replicate (2:Nat) (0:
 Int))))):Int) then Option.bind (iter (fun(s1:Int×Int×List (List Int))=>Option.bind (iter (fun(s2:Int×List (List Int))=>Option.bind (if decide (s2.1≤s1.2.1)=true then if(0:Int)≤x.1∧x.1<(s2.2.length:Int) then
 if(0:Int)≤s2.1∧s2.1<(s2.2.length:Int) then Option.bind (R.f151F (List.getD s2.2 (Int.toNat x.1) (List.replicate (2:Nat) (0:Int)),List.getD s2.2 (Int.toNat s2.1) (List.replicate (2:Nat) (0:Int)))) fun v3=>some (!decide
 (v3<(0:Int)),s2.2) else none else none else some (false,s2.2)) fun(v3:Bool×List (List Int))=>if v3.1=true then some (Sum.inl (IntKind.i64.wrap (s2.1+(1:Int)),v3.2)) else some (Sum.inr (s2.1,v3.2))) (s1.1,s1.2.2)) fun
 (v2:Int×List (List Int))=>Option.bind (iter (fun(s3:Int×List (List Int))=>Option.bind (if decide (v2.1≤s3.1)=true then if(0:Int)≤x.1∧x.1<(s3.2.length:Int) then if(0:Int)≤s3.1∧s3.1<(s3.2.length:Int)
 then Option.bind (R.f151F (List.getD s3.2 (Int.toNat x.1) (List.replicate (2:Nat) (0:Int)),List.getD s3.2 (Int.toNat s3.1) (List.replicate (2:Nat) (0:Int)))) fun v4=>some (decide (v4<(0:Int)),s3.2) else none else none else
 some (false,s3.2)) fun(v4:Bool×List (List Int))=>if v4.1=true then some (Sum.inl (IntKind.i64.wrap (s3.1 - (1:Int)),v4.2)) else some (Sum.inr (s3.1,v4.2))) (s1.2.1,v2.2)) fun(v3:Int×List (List Int))=>if decide (v2.1 >
 v3.1)=true then some (Sum.inr (v2.1,v3.2)) else if(0:Int)≤v3.1∧v3.1<(v3.2.length:Int) then if(0:Int)≤v2.1∧v2.1<(v3.2.length:Int) then if(0:Int)≤v2.1∧v2.1<(v3.2.length:Int) then if(0:Int)≤v3.1∧v3.1
 <(↑(List.length (List.set v3.2 (Int.toNat v2.1) (List.getD v3.2 (Int.toNat v3.1) (List.replicate (2:Nat) (0:Int))))):Int) then some (Sum.inl (IntKind.i64.wrap (v2.1+(1:Int)),IntKind.i64.wrap (v3.1 - (1:Int)),List.set
 (List.set v3.2 (Int.toNat v2.1) (List.getD v3.2 (Int.toNat v3.1) (List.replicate (2:Nat) (0:Int)))) (Int.toNat v3.1) (List.getD v3.2 (Int.toNat v2.1) (List.replicate (2:Nat) (0:Int))))) else none else none else none else none)
 (IntKind.i64.wrap (x.1+(1:Int)),IntKind.i64.wrap (x.2.1 - (1:Int)),List.set (List.set x.2.2.2 (Int.toNat x.1) (List.getD x.2.2.2 (Int.toNat x.2.2.1) (List.replicate (2:Nat) (0:Int)))) (Int.toNat x.2.2.1) (List.getD x.2.2.2
 (Int.toNat x.1) (List.replicate (2:Nat) (0:Int))))) fun(v1:Int×List (List Int))=>some (v1.1,v1.2) else none else none else none else none
theorem R.f181eq: ∀ x,zk R.C R.f181Γ R.f181sig R.f181ann Go.Proofs.Tryz.f181 x=R.f181F x:=by
 intro x
 kernel_rfl
noncomputable def R.f181con:Con:=⟨181,R.f181sig,R.f181F⟩
theorem R.f181ok:Con.Ok Go.Proofs.Tryz.prog R.C R.f181con:=
 zb (Γ:=R.f181Γ) (an:=R.f181ann) ⟨R.Cok,(List.forall_mem_cons.2 ⟨R.f151ok,(fun _ h=>nomatch h)⟩),R.mixed⟩ Go.Proofs.Tryz.func181 rfl rfl (fun x y h=>(R.f181eq x).trans h) (by decide)
def R.f182sig:Sig:=⟨⟨[.own 0, .hole (.int .i64), .hole (.int .i64), .hole (.int .i64), .fnc 151 0], [.arr 118 (.arr 2 (.int .i64))]⟩,⟨[.hole (.int .i64), .hole .bool], [.arr 118 (.arr 2 (.int .i64))]⟩⟩
noncomputable def R.f182Γ:List Con:= [R.f151con]
def R.f182ann:Ann:=(.seq .leaf (.seq (.eff 1 [] [0,0,0,0,0,0,48,112,0,0,768,1792,4083,8179,16383,32767]) (.seq .leaf (.seq (.block (.loop ⟨.normal, [(12, .hole (.int .i64))], [.arr 118 (.arr 2 (.int .i64))]⟩ [⟨(.exit 0),
 [(12, .hole (.int .i64))], [.arr 118 (.arr 2 (.int .i64))]⟩] (.seq (.seq (.join [⟨.normal, [(47, .hole .bool)], [.arr 118 (.arr 2 (.int .i64))]⟩] .leaf) (.cond .leaf .leaf)) (.block .leaf)))) (.seq (.block (.loop ⟨.normal, [(13, .hole (.int
 .i64))], [.arr 118 (.arr 2 (.int .i64))]⟩ [⟨(.exit 2), [(13, .hole (.int .i64))], [.arr 118 (.arr 2 (.int .i64))]⟩] (.seq (.seq (.join [⟨.normal, [(66, .hole .bool)], [.arr 118 (.arr 2 (.int .i64))]⟩] .leaf) (.cond .leaf .leaf)) (.block
 .leaf)))) (.seq (.seq .leaf (.cond (.seq (.eff 1 [] [0,0,0,0,0,0,48,112,0,0,768,1792,4083,8179,16383,32767]) (.seq .leaf .leaf)) .leaf)) (.seq (.eff 1 [] [0,0,0,0,0,0,48,112,0,0,768,1792,4083,8179,16383,32767])
 (.seq .leaf (.seq .leaf (.seq (.block (.loop ⟨.normal, [(12, .hole (.int .i64)),(13, .hole (.int .i64))], [.arr 118 (.arr 2 (.int .i64))]⟩ [⟨(.exit 4), [(13, .hole (.int .i64))], [.arr 118 (.arr 2 (.int .i64))]⟩] (.block (.seq (.block
 (.loop ⟨.normal, [(12, .hole (.int .i64))], [.arr 118 (.arr 2 (.int .i64))]⟩ [⟨(.exit 6), [(12, .hole (.int .i64))], [.arr 118 (.arr 2 (.int .i64))]⟩] (.seq (.seq (.join [⟨.normal, [(120, .hole .bool)], [.arr 118 (.arr 2 (.int .i64))]⟩]
 .leaf) (.cond .leaf .leaf)) (.block .leaf)))) (.seq (.block (.loop ⟨.normal, [(13, .hole (.int .i64))], [.arr 118 (.arr 2 (.int .i64))]⟩ [⟨(.exit 8), [(13, .hole (.int .i64))], [.arr 118 (.arr 2 (.int .i64))]⟩] (.seq (.seq (.join [⟨.normal,
 [(139, .hole .bool)], [.arr 118 (.arr 2 (.int .i64))]⟩] .leaf) (.cond .leaf .leaf)) (.block .leaf)))) (.seq (.seq .leaf (.cond .leaf .leaf)) (.seq (.eff 1 [] [0,0,0,0,0,0,48,112,0,0,768,1792,4083,8179,16383,32767]) (.seq
 .leaf .leaf)))))))) (.seq (.eff 1 [] [0,0,0,0,0,0,48,112,0,0,768,1792,4083,8179,16383,32767]) (.seq .leaf .leaf))))))))))))
noncomputable def R.f182F:Int×Int×Int×List (List Int)→Option (Int×Bool×List (List Int)):=fun(x:Int×Int×Int×List (List Int))=>if(0:Int)≤x.2.2.1∧x.2.2.1<(x.2.2.2.length:Int) then if(0:Int)≤x.1∧x.1
 <(x.2.2.2.length:Int) then if(0:Int)≤x.1∧x.1<(x.2.2.2.length:Int) then if(0:Int)≤x.2.2.1∧x.2.2.1<(↑(List.length (List.set x.2.2.2 (Int.toNat x.1) (List.getD x.2.2.2 (Int.toNat x.2.2.1) (List.replicate (2:Nat) (0:
 Int))))):Int) then Option.bind (iter (fun(s1:Int×List (List Int))=>Option.bind (if decide (s1.1≤IntKind.i64.wrap (x.2.1 - (1:Int)))=true then if(0:Int)≤s1.1∧s1.1<(s1.2.length:Int) then if(0:Int)≤x.1∧x.1<
 (s1.2.length:Int) then Option.bind (R.f151F (List.getD s1.2 (Int.toNat s1.1) (List.replicate (2:Nat) (0:Int)),List.getD s1.2 (Int.toNat x.1) (List.replicate (2:Nat) (0:Int)))) fun v2=>some (decide (v2<(0:Int)),s1.2) else
 none else none else some (false,s1.2)) fun(v2:Bool×List (List Int))=>if v2.1=true then some (Sum.inl (IntKind.i64.wrap (s1.1+(1:Int)),v2.2)) else some (Sum.inr (s1.1,v2.2))) (IntKind.i64.wrap (x.1+(1:Int)),List.set
 (List.set x.2.2.2 (Int.toNat x.1) (List.getD x.2.2.2 (Int.toNat x.2.2.1) (List.replicate (2:Nat) (0:Int)))) (Int.toNat x.2.2.1) (List.getD x.2.2.2 (Int.toNat x.1) (List.replicate (2:Nat) (0:Int))))) fun(v1:Int×List (List Int))
 =>Option.bind (iter (fun(s2:Int×List (List Int))=>Option.bind (if decide (v1.1≤s2.1)=true then if(0:Int)≤s2.1∧s2.1<(s2.2.length:Int) then if(0:Int)≤x.1∧x.1<(s2.2.length:Int) then Option.bind (R.f151F
 (List.getD s2.2 (Int.toNat s2.1) (List.replicate (2:Nat) (0:Int)),List.getD s2.2 (Int.toNat x.1) (List.replicate (2:Nat) (0:Int)))) fun v3=>some (!decide (v3<(0:Int)),s2.2) else none else none else some (false,s2.2)) fun
 (v3:Bool×List (List Int))=>if v3.1=true then some (Sum.inl (IntKind.i64.wrap (s2.1 - (1:Int)),v3.2)) else some (Sum.inr (s2.1,v3.2))) (IntKind.i64.wrap (x.2.1 - (1:Int)),v1.2)) fun(v2:Int×List (List Int))=>if decide
 (v1.1 > v2.1)=true then if(0:Int)≤x.1∧x.1<(v2.2.length:Int) then if(0:Int)≤v2.1∧v2.1<(v2.2.length:Int) then if(0:Int)≤v2.1∧v2.1<(v2.2.length:Int) then if(0:Int)≤x.1∧x.1<(↑(List.length (List.set
 v2.2 (Int.toNat v2.1) (List.getD v2.2 (Int.toNat x.1) (List.replicate (2:Nat) (0:Int))))):Int) then some (v2.1,true,List.set (List.set v2.2 (Int.toNat v2.1) (List.getD v2.2 (Int.toNat x.1) (List.replicate (2:Nat) (0:Int))))
 (Int.toNat x.1) (List.getD v2.2 (Int.toNat v2.1) (List.replicate (2:Nat) (0:Int)))) else none else none else none else none else if(0:Int)≤v2.1∧v2.1<(v2.2.length:Int) then if(0:Int)≤v1.1∧v1.1<(v2.2.length:Int) then
 if(0:Int)≤v1.1∧v1.1<(v2.2.length:Int) then if(0:Int)≤v2.1∧v2.1<(↑(List.length (List.set v2.2 (Int.toNat v1.1) (List.getD v2.2 (Int.toNat v2.1) (List.replicate (2:Nat) (0:Int))))):Int) then Option.bind (iter (fun
 (s3:Int×Int×List (List Int))=>Option.bind (iter (fun(s4:Int×List (List Int))=>Option.bind (if decide (s4.1≤s3.2.1)=true then if(0:Int)≤s4.1∧s4.1<(s4.2.length:Int) then if(0:Int)≤x.1∧x.1<(s4.2.length:
 Int) then Option.bind (R.f151F (List.getD s4.2 (Int.toNat s4.1) (List.replicate (2:Nat) (0:Int)),List.getD s4.2 (Int.toNat x.1) (List.replicate (2:Nat) (0:Int)))) fun v5=>some (decide (v5<(0:Int)),s4.2) else none else none
 else some (false,s4.2)) fun(v5:Bool×List (List Int))=>if v5.1=true then some (Sum.inl (IntKind.i64.wrap (s4.1+(1:Int)),v5.2)) else some (Sum.inr (s4.1,v5.2))) (s3.1,s3.2.2)) fun(v4:Int×List (List Int))=>Option.bind
 (iter (fun(s5:Int×List (List Int))=>Option.bind (if decide (v4.1≤s5.1)=true then if(0:Int)≤s5.1∧s5.1<(s5.2.length:Int) then if(0:Int)≤x.1∧x.1<(s5.2.length:Int) then Option.bind (R.f151F (List.getD s5.2
 (Int.toNat s5.1) (List.replicate (2:Nat) (0:Int)),List.getD s5.2 (Int.toNat x.1) (List.replicate (2:Nat) (0:Int)))) fun v6=>some (!decide (v6<(0:Int)),s5.2) else none else none else some (false,s5.2)) fun(v6:Bool×List
 (List Int))=>if v6.1=true then some (Sum.inl (IntKind.i64.wrap (s5.1 - (1:Int)),v6.2)) else some (Sum.inr (s5.1,v6.2))) (s3.2.1,v4.2)) fun(v5:Int×List (List Int))=>if decide (v4.1 > v5.1)=true then some (Sum.inr (v5.1,
 v5.2)) else if(0:Int)≤v5.1∧v5.1<(v5.2.length:Int) then if(0:Int)≤v4.1∧v4.1<(v5.2.length:Int) then if(0:Int)≤v4.1∧v4.1<(v5.2.length:Int) then if(0:Int)≤v5.1∧v5.1<(↑(List.length (List.set v5.2
 (Int.toNat v4.1) (List.getD v5.2 (Int.toNat v5.1) (List.replicate (2:Nat) (0:Int))))):Int) then some (Sum.inl (IntKind.i64.wrap (v4.1+(1:Int)),IntKind.i64.wrap (v5.1 - (1:Int)),List.set (List.set v5.2 (Int.toNat v4.1)
 (List.getD v5.2 (Int.toNat v5.1) (List.replicate (2:Nat) (0:Int)))) (Int.toNat v5.1) (List.getD v5.2 (Int.toNat v4.1) (List.replicate (2:Nat) (0:Int))))) else none else none else none else none) (IntKind.i64.wrap (v1.1+(1:Int)),
 IntKind.i64.wrap (v2.1 - (1:Int)),List.set (List.set v2.2 (Int.toNat v1.1) (List.getD v2.2 (Int.toNat v2.1) (List.replicate (2:Nat) (0:Int)))) (Int.toNat v2.1) (List.getD v2.2 (Int.toNat v1.1) (List.replicate (2:Nat) (0:Int)))))
 fun(v3:Int×List (List Int))=>if(0:Int)≤x.1∧x.1<(v3.2.length:Int) then if(0:Int)≤v3.1∧v3.1<(v3.2.length:Int) then if(0:Int)≤v3.1∧v3.1<(v3.2.length:Int) then if(0:Int)≤x.1∧x.1<(↑(List.length
 (List.set v3.2 (Int.toNat v3.1) (List.getD v3.2 (Int.toNat x.1) (List.replicate (2:Nat) (0:Int))))):Int) then some (v3.1,false,List.set (List.set v3.2 (Int.toNat v3.1) (List.getD v3.2 (Int.toNat x.1) (List.replicate (2:Nat) (0:
 Int)))) (Int.toNat x.1) (List.getD v3.2 (Int.toNat v3.1) (List.replicate (2:Nat) (0:Int)))) else none else none else none else none else none else none else none else none else none else none else none else none
theorem R.f182eq: ∀ x,zk R.C R.f182Γ R.f182sig R.f182ann Go.Proofs.Tryz.f182 x=R.f182F x:=by
 intro x
 kernel_rfl
noncomputable def R.f182con:Con:=⟨182,R.f182sig,R.f182F⟩
theorem R.f182ok:Con.Ok Go.Proofs.Tryz.prog R.C R.f182con:=
 zb (Γ:=R.f182Γ) (an:=R.f182ann) ⟨R.Cok,(List.forall_mem_cons.2 ⟨R.f151ok,(fun _ h=>nomatch h)⟩),R.mixed⟩ Go.Proofs.Tryz.func182 rfl rfl (fun x y h=>(R.f182eq x).trans h) (by decide)
def R.f173sig:Sig:=⟨⟨[.own 0, .hole (.int .i64), .hole (.int .i64), .hole (.int .i64), .fnc 151 0], [.arr 118 (.arr 2 (.int .i64))]⟩,⟨[], [.arr 118 (.arr 2 (.int .i64))]⟩⟩
noncomputable def R.f173Γ (r173:Int×Int×Int×List (List Int)→Option (List (List Int))):List Con:= [R.f175con,R.f176con,R.f177con,R.f178con,R.f179con,R.f180con,R.f181con,R.f182con,⟨173,R.f173sig,r173⟩,R.f151con]
def R.f173ann:Ann:=(.seq .leaf (.seq .leaf (.block (.loop ⟨.normal, [(3, .hole (.int .i64)),(1, .hole (.int .i64)),(11, .hole .bool),(10, .hole .bool),(2, .hole (.int .i64))], [.arr 118 (.arr 2 (.int .i64))]⟩ [⟨.ret, [], [.arr 118
 (.arr 2 (.int .i64))]⟩] (.block (.seq .leaf (.seq (.seq .leaf (.cond (.seq .leaf .leaf) .leaf)) (.seq (.seq .leaf (.cond (.seq .leaf .leaf) .leaf)) (.seq (.join [⟨.normal, [(3, .hole (.int .i64))], [.arr 118 (.arr 2 (.int .i64))]⟩] (.seq
 .leaf (.cond (.seq .leaf .leaf) .leaf))) (.seq .leaf (.seq (.join [⟨.normal, [(13, .hole (.int .i64)),(14, .hole (.int .i64))], [.arr 118 (.arr 2 (.int .i64))]⟩] (.seq .leaf (.cond (.seq .leaf (.seq .leaf .leaf)) .leaf))) (.seq (.join
 [⟨.ret, [], [.arr 118 (.arr 2 (.int .i64))]⟩,⟨.normal, [], [.arr 118 (.arr 2 (.int .i64))]⟩] (.seq (.join [⟨.normal, [(75, .hole .bool)], [.arr 118 (.arr 2 (.int .i64))]⟩] .leaf) (.cond (.seq .leaf (.cond .leaf .leaf)) .leaf))) (.seq (.seq
 (.join [⟨.normal, [(97, .hole .bool)], [.arr 118 (.arr 2 (.int .i64))]⟩] .leaf) (.cond (.seq .leaf (.seq .leaf .leaf)) .leaf)) (.seq .leaf (.seq .leaf (.seq .leaf (.seq .leaf (.seq .leaf (.cond (.seq .leaf (.seq .leaf .leaf)) (.seq .leaf
 (.seq .leaf .leaf)))))))))))))))))))))
noncomputable def R.f173S (r173:Int×Int×Int×List (List Int)→Option (List (List Int))):Int×Int×Int×List (List Int)→Option (List (List Int)):=fun(x:Int×Int×Int×List (List Int))=>Option.bind (iter (fun(s1:
 Int×Int×Bool×Bool×Int×List (List Int))=>if decide (IntKind.i64.wrap (s1.2.2.2.2.1 - s1.2.1)≤(12:Int))=true then Option.bind (R.f175F (s1.2.1,s1.2.2.2.2.1,s1.2.2.2.2.2)) fun(v2:List (List Int))=>some (Sum.inr v2)
 else if(s1.1==(0:Int))=true then Option.bind (R.f176F (s1.2.1,s1.2.2.2.2.1,s1.2.2.2.2.2)) fun(v2:List (List Int))=>some (Sum.inr v2) else Option.bind (if(!s1.2.2.2.1)=true then Option.bind (R.f177F (s1.2.1,s1.2.2.2.2.1,
 s1.2.2.2.2.2)) fun(v2:List (List Int))=>some (IntKind.i64.wrap (s1.1 - (1:Int)),v2) else some (s1.1,s1.2.2.2.2.2)) fun(v2:Int×List (List Int))=>Option.bind (R.f178F (s1.2.1,s1.2.2.2.2.1,v2.2)) fun(v3:Int×Int×List
 (List Int))=>Option.bind (if(v3.2.1==(2:Int))=true then Option.bind (R.f179F (s1.2.1,s1.2.2.2.2.1,v3.2.2)) fun(v4:List (List Int))=>some (IntKind.i64.wrap (IntKind.i64.wrap (s1.2.2.2.2.1 - (1:Int)) - IntKind.i64.wrap (v3.1
 - s1.2.1)),(1:Int),v4) else some (v3.1,v3.2.1,v3.2.2)) fun(v4:Int×Int×List (List Int))=>Option.bind (Option.bind (if s1.2.2.2.1=true then if s1.2.2.1=true then some (v4.2.1==(1:Int),v4.2.2) else some (false,v4.2.2)
 else some (false,v4.2.2)) fun(v5:Bool×List (List Int))=>if v5.1=true then Option.bind (R.f180F (s1.2.1,s1.2.2.2.2.1,v5.2)) fun(v6:Bool×List (List Int))=>if v6.1=true then some (Sum.inl v6.2) else some (Sum.inr v6.2)
 else some (Sum.inr v5.2)) fun(v5:List (List Int) ⊕ List (List Int))=>Sum.elim (fun(p6:List (List Int))=>some (Sum.inr p6)) (fun(q6:List (List Int))=>Option.bind (if decide (s1.2.1 > (0:Int))=true then if(0:Int)≤
 IntKind.i64.wrap (s1.2.1 - (1:Int))∧IntKind.i64.wrap (s1.2.1 - (1:Int))<(q6.length:Int) then if(0:Int)≤v4.1∧v4.1<(q6.length:Int) then Option.bind (R.f151F (List.getD q6 (Int.toNat (IntKind.i64.wrap (s1.2.1 - (1:
 Int)))) (List.replicate (2:Nat) (0:Int)),List.getD q6 (Int.toNat v4.1) (List.replicate (2:Nat) (0:Int)))) fun v7=>some (!decide (v7<(0:Int)),q6) else none else none else some (false,q6)) fun(v7:Bool×List (List Int))=>
 if v7.1=true then Option.bind (R.f181F (s1.2.1,s1.2.2.2.2.1,v4.1,v7.2)) fun(v8:Int×List (List Int))=>some (Sum.inl (v2.1,v8.1,s1.2.2.1,s1.2.2.2.1,s1.2.2.2.2.1,v8.2)) else Option.bind (R.f182F (s1.2.1,s1.2.2.2.2.1,v4.1,
 v7.2)) fun(v8:Int×Bool×List (List Int))=>if decide (IntKind.i64.wrap (v8.1 - s1.2.1)<IntKind.i64.wrap (s1.2.2.2.2.1 - v8.1))=true then Option.bind (r173 (s1.2.1,v8.1,v2.1,v8.2.2)) fun(v9:List (List Int))=>some (Sum.inl
 (v2.1,IntKind.i64.wrap (v8.1+(1:Int)),v8.2.1,decide (IntKind.i64.wrap (v8.1 - s1.2.1)≥IntKind.i64.wrap (Int.tdiv (IntKind.i64.wrap (s1.2.2.2.2.1 - s1.2.1)) (8:Int))),s1.2.2.2.2.1,v9)) else Option.bind (r173 (IntKind.i64.wrap
 (v8.1+(1:Int)),s1.2.2.2.2.1,v2.1,v8.2.2)) fun(v9:List (List Int))=>some (Sum.inl (v2.1,s1.2.1,v8.2.1,decide (IntKind.i64.wrap (s1.2.2.2.2.1 - v8.1)≥IntKind.i64.wrap (Int.tdiv (IntKind.i64.wrap (s1.2.2.2.2.1 - s1.2.1)) (8:
 Int))),v8.1,v9))) v5) (x.2.2.1,x.1,true,true,x.2.1,x.2.2.2)) fun(v1:List (List Int))=>some v1
theorem R.f173eq (r173:Int×Int×Int×List (List Int)→Option (List (List Int))): ∀ x,zk R.C (R.f173Γ r173) R.f173sig R.f173ann Go.Proofs.Tryz.f173 x=R.f173S r173 x:=by
 intro x
 kernel_rfl
noncomputable def R.f173N:Nat→(Int×Int×Int×List (List Int)→Option (List (List Int)))
 |0=>fun _=>none
 |n+1=>R.f173S ((R.f173N n))
noncomputable def R.f173F:Int×Int×Int×List (List Int)→Option (List (List Int)):=(R.f173N R.fuel)
noncomputable def R.f173con:Con:=⟨173,R.f173sig,R.f173F⟩
theorem R.f173Nok: ∀ n,Con.Ok Go.Proofs.Tryz.prog R.C ⟨173,R.f173sig,(R.f173N n)⟩
 |0=>zb (Γ:= []) (an:= .leaf) ⟨R.Cok,(fun _ h=>nomatch h),R.mixed⟩ Go.Proofs.Tryz.func173 rfl rfl (fun x y h=>nomatch h) (by decide)
 |n+1=>have h:=R.f173Nok n
  zb (Γ:=R.f173Γ ((R.f173N n))) (an:=R.f173ann) ⟨R.Cok,(List.forall_mem_cons.2 ⟨R.f175ok,(List.forall_mem_cons.2 ⟨R.f176ok,(List.forall_mem_cons.2 ⟨R.f177ok,(List.forall_mem_cons.2 ⟨R.f178ok,(List.forall_mem_cons.2 ⟨R.f179ok,(List.forall_mem_cons.2 ⟨R.f180ok,(List.forall_mem_cons.2 ⟨R.f181ok,(List.forall_mem_cons.2 ⟨R.f182ok,(List.forall_mem_cons.2 ⟨h,(List.forall_mem_cons.2 ⟨R.f151ok,(fun _ h=>nomatch h)⟩)⟩)⟩)⟩)⟩)⟩)⟩)⟩)⟩)⟩),R.mixed⟩ Go.Proofs.Tryz.func173 rfl rfl (fun x y h=>(R.f173eq _ x).trans h) (by decide)
theorem R.f173ok:Con.Ok Go.Proofs.Tryz.prog R.C R.f173con:=(R.f173Nok R.fuel)
def R.f150sig:Sig:=⟨⟨[.own 0, .fnc 151 0], [.arr 118 (.arr 2 (.int .i64))]⟩,⟨[], [.arr 118 (.arr 2 (.int .i64))]⟩⟩
noncomputable def R.f150Γ:List Con:= [R.f174con,R.f173con,R.f151con]
def R.f150ann:Ann:=(.seq .leaf .leaf)
noncomputable def R.f150F:List (List Int)→Option (List (List Int)):=fun(x:List (List Int))=>Option.bind (R.f174F (IntKind.wrap IntKind.u64 (x.length:Int))) fun v1=>Option.bind (R.f173F ((0:Int),(x.length:Int),v1,x))
 fun(v2:List (List Int))=>some v2
theorem R.f150eq: ∀ x,zk R.C R.f150Γ R.f150sig R.f150ann Go.Proofs.Tryz.f150 x=R.f150F x:=by
 intro x
 kernel_rfl
noncomputable def R.f150con:Con:=⟨150,R.f150sig,R.f150F⟩
theorem R.f150ok:Con.Ok Go.Proofs.Tryz.prog R.C R.f150con:=
 zb (Γ:=R.f150Γ) (an:=R.f150ann) ⟨R.Cok,(List.forall_mem_cons.2 ⟨R.f174ok,(List.forall_mem_cons.2 ⟨R.f173ok,(List.forall_mem_cons.2 ⟨R.f151ok,(fun _ h=>nomatch h)⟩)⟩)⟩),R.mixed⟩ Go.Proofs.Tryz.func150 rfl rfl (fun x y h=>(R.f150eq x).trans h) (by decide)
def R.f108sig:Sig:=⟨⟨[.hole (.sl (.int .i64)), .hole (.sl (.int .i64))], []⟩,⟨[.hole (.sl (.arr 2 (.int .i64)))], []⟩⟩
noncomputable def R.f108Γ:List Con:= [R.other,R.f149con,R.f150con,R.f151con]
def R.f108ann:Ann:=(.seq .leaf (.scope 0 ⟨.normal, [(5, .own 0),(6, .own 1),(7, .hole (.int .i64))], [.arr 118 (.arr 2 (.int .i64)), .arr 154 (.st (.pair (.int .i64) (.int .i64)))]⟩ [⟨.ret, [(4, .own 0)], [.arr 118 (.arr 2 (.int
 .i64))]⟩] (.seq (.seq .leaf (.cond (.seq .leaf .leaf) .leaf)) (.seq .leaf (.seq .leaf (.seq .leaf (.seq .leaf (.seq (.seq .leaf (.cond (.seq .leaf (.seq (.block (.seq (.join [⟨.normal, [(62, .hole .bool)], []⟩] .leaf) (.cond .leaf (.seq
 (.join [⟨.normal, [(72, .hole .bool)], []⟩] .leaf) (.cond .leaf (.seq .leaf (.cond .leaf (.seq .leaf (.seq (.block (.loop ⟨.normal, [(11, .hole (.int .i64))], []⟩ [⟨(.exit 1), [(11, .hole (.int .i64))], []⟩] (.seq (.seq .leaf (.cond .leaf
 .leaf)) .leaf))) (.seq .leaf (.cond (.seq .leaf .leaf) .leaf))))))))))) (.seq .leaf .leaf))) .leaf)) (.seq .leaf (.seq .leaf .leaf)))))))) (.seq .leaf (.seq (.seq .leaf (.cond (.seq .leaf (.seq (.block (.seq (.join [⟨.normal, [(62, .hole
 .bool)], [.arr 118 (.arr 2 (.int .i64)), .arr 154 (.st (.pair (.int .i64) (.int .i64)))]⟩] .leaf) (.cond .leaf (.seq (.join [⟨.normal, [(72, .hole .bool)], [.arr 118 (.arr 2 (.int .i64)), .arr 154 (.st (.pair (.int .i64) (.int .i64)))]⟩]
 .leaf) (.cond .leaf (.seq .leaf (.cond .leaf (.seq .leaf (.seq (.block (.loop ⟨.normal, [(11, .hole (.int .i64))], [.arr 118 (.arr 2 (.int .i64)), .arr 154 (.st (.pair (.int .i64) (.int .i64)))]⟩ [⟨(.exit 1), [(11, .hole (.int .i64))],
 [.arr 118 (.arr 2 (.int .i64)), .arr 154 (.st (.pair (.int .i64) (.int .i64)))]⟩] (.seq (.seq (.join [⟨.normal, [(44, .hole .bool)], [.arr 118 (.arr 2 (.int .i64)), .arr 154 (.st (.pair (.int .i64) (.int .i64)))]⟩] .leaf) (.cond .leaf
 .leaf)) (.block .leaf)))) (.seq .leaf (.cond (.seq .leaf .leaf) .leaf))))))))))) (.seq .leaf .leaf))) .leaf)) (.seq .leaf (.seq .leaf .leaf))))))
noncomputable def R.f108F:List Int×List Int→Option (List (List Int)):=fun(x:List Int×List Int)=>Option.bind (Option.bind (if((x.1.length:Int)!=(x.2.length:Int))=true then some (Sum.inr []) else if decide ((0:Int)<
 (x.1.length:Int))=true then if(0:Int)≤(0:Int)∧(0:Int)<(x.1.length:Int) then Option.bind (R.otherF (List.getD x.1 (Int.toNat (0:Int)) (0:Int))) fun v1=>Option.bind (if(!v1.2.2)=true then some true else if(0:
 Int)≤(0:Int)∧(0:Int)<(x.2.length:Int) then some (List.getD x.2 (Int.toNat (0:Int)) (0:Int)!=(13:Int)) else none) fun v2=>if v2=true then some (Sum.inl (IntKind.i64.wrap ((0:Int)+(1:Int)), [], [])) else
 Option.bind (if v1.2.1=true then some ((0:Int)==(63:Int)) else some false) fun v3=>if v3=true then some (Sum.inl (IntKind.i64.wrap ((x.1.length:Int)+(1:Int)), [], [])) else if v1.2.1=true then if(0:Int)≤(0:Int)∧
 (0:Int)<(x.1.length:Int) then if zi (1:Nat) (16:Nat) then some (Sum.inl (IntKind.i64.wrap ((0:Int)+(1:Int)), [], [(List.getD x.1 (Int.toNat (0:Int)) (0:Int),(0:Int))])) else none else none else Option.bind (iter
 (fun(s4:Int)=>if decide (s4≥(0:Int))=true then none else some (Sum.inr s4)) (IntKind.i64.wrap ((0:Int) - (1:Int)))) fun v4=>if decide (v4≥(0:Int))=true then none else some (Sum.inl (IntKind.i64.wrap ((0:Int)+(1:
 Int)), [], [])) else none else Option.bind (R.f150F []) fun(v1:List (List Int))=>some (Sum.inr [])) fun(v1:Int×List (List Int)×List (Int×Int) ⊕ List (List Int))=>Sum.elim (fun(p2:Int×List (List Int)×List (Int×Int))
 =>iter (fun(s3:Int×List (List Int)×List (Int×Int))=>if decide (s3.1<(x.1.length:Int))=true then if(0:Int)≤s3.1∧s3.1<(x.1.length:Int) then Option.bind (R.otherF (List.getD x.1 (Int.toNat s3.1) (0:Int))) fun v4
 =>Option.bind (if(!v4.2.2)=true then some (true,s3.2.1,s3.2.2) else if(0:Int)≤s3.1∧s3.1<(x.2.length:Int) then some (List.getD x.2 (Int.toNat s3.1) (0:Int)!=(13:Int),s3.2.1,s3.2.2) else none) fun(v5:Bool×List
 (List Int)×List (Int×Int))=>if v5.1=true then some (Sum.inl (IntKind.i64.wrap (s3.1+(1:Int)),v5.2.1,v5.2.2)) else Option.bind (if v4.2.1=true then some ((v5.2.2.length:Int)==(63:Int),v5.2.1,v5.2.2) else some (false,
 v5.2.1,v5.2.2)) fun(v6:Bool×List (List Int)×List (Int×Int))=>if v6.1=true then some (Sum.inl (IntKind.i64.wrap ((x.1.length:Int)+(1:Int)),v6.2.1,v6.2.2)) else if v4.2.1=true then if(0:Int)≤s3.1∧s3.1<
 (x.1.length:Int) then if zi (List.length v6.2.2+(1:Nat)) (16:Nat) then some (Sum.inl (IntKind.i64.wrap (s3.1+(1:Int)),v6.2.1,v6.2.2++ [(List.getD x.1 (Int.toNat s3.1) (0:Int),s3.1)])) else none else none else
 Option.bind (iter (fun(s7:Int×List (List Int)×List (Int×Int))=>Option.bind (if decide (s7.1≥(0:Int))=true then if(0:Int)≤s7.1∧s7.1<(s7.2.2.length:Int) then Option.bind (R.f149F ((List.getD s7.2.2 (Int.toNat s7.1)
 ((0:Int),(0:Int))).1,v4.1)) fun v8=>some (!v8,s7.2.1,s7.2.2) else none else some (false,s7.2.1,s7.2.2)) fun(v8:Bool×List (List Int)×List (Int×Int))=>if v8.1=true then some (Sum.inl (IntKind.i64.wrap (s7.1 - (1:
 Int)),v8.2.1,v8.2.2)) else some (Sum.inr (s7.1,v8.2.1,v8.2.2))) (IntKind.i64.wrap ((v6.2.2.length:Int) - (1:Int)),v6.2.1,v6.2.2)) fun(v7:Int×List (List Int)×List (Int×Int))=>if decide (v7.1≥(0:Int))=true then if
 (0:Int)≤v7.1∧v7.1<(v7.2.2.length:Int) then if zi (List.length v7.2.1+(1:Nat)) (16:Nat) then if(0:Int)≤v7.1∧v7.1≤(v7.2.2.length:Int) then some (Sum.inl (IntKind.i64.wrap (s3.1+(1:Int)),v7.2.1++
 [[(List.getD v7.2.2 (Int.toNat v7.1) ((0:Int),(0:Int))).2,s3.1]],List.take (Int.toNat v7.1) v7.2.2)) else none else none else none else some (Sum.inl (IntKind.i64.wrap (s3.1+(1:Int)),v7.2.1,v7.2.2)) else none else Option.bind
 (R.f150F s3.2.1) fun(v4:List (List Int))=>some (Sum.inr v4)) p2) (fun(q2:List (List Int))=>some q2) v1) fun(v1:List (List Int))=>some v1
theorem R.f108eq: ∀ x,zk R.C R.f108Γ R.f108sig R.f108ann Go.Proofs.Tryz.f108 x=R.f108F x:=by
 intro x
 kernel_rfl
noncomputable def R.f108con:Con:=⟨108,R.f108sig,R.f108F⟩
theorem R.f108ok:Con.Ok Go.Proofs.Tryz.prog R.C R.f108con:=
 zb (Γ:=R.f108Γ) (an:=R.f108ann) ⟨R.Cok,(List.forall_mem_cons.2 ⟨R.otherok,(List.forall_mem_cons.2 ⟨R.f149ok,(List.forall_mem_cons.2 ⟨R.f150ok,(List.forall_mem_cons.2 ⟨R.f151ok,(fun _ h=>nomatch h)⟩)⟩)⟩)⟩),R.mixed⟩ Go.Proofs.Tryz.func108 rfl rfl (fun x y h=>(R.f108eq x).trans h) (by decide)
def R.f155sig:Sig:=⟨⟨[.hole (.int .i64)], []⟩,⟨[.hole (.int .i64)], []⟩⟩
noncomputable def R.f155Γ:List Con:= []
def R.f155ann:Ann:=(.seq .leaf (.seq (.seq .leaf (.block (.seq .leaf (.cond (.seq .leaf .leaf) (.seq (.join [⟨.normal, [(6, .hole .bool)], []⟩] (.seq .leaf (.cond .leaf (.seq .leaf (.cond .leaf .leaf))))) (.cond (.seq .leaf .leaf)
 .leaf)))))) (.seq .leaf .leaf)))
noncomputable def R.f155F:Int→Option (Int):=fun(x:Int)=>if(x==(0:Int))=true then some (0:Int) else Option.bind (if(x==(1:Int))=true then some true else if(x==(3:Int))=true then some true else some (x==(6
 :Int))) fun v1=>if v1=true then some (1:Int) else some (-1:Int)
theorem R.f155eq: ∀ x,zk R.C R.f155Γ R.f155sig R.f155ann Go.Proofs.Tryz.f155 x=R.f155F x:=by
 intro x
 kernel_rfl
noncomputable def R.f155con:Con:=⟨155,R.f155sig,R.f155F⟩
theorem R.f155ok:Con.Ok Go.Proofs.Tryz.prog R.C R.f155con:=
 zb (Γ:=R.f155Γ) (an:=R.f155ann) ⟨R.Cok,(fun _ h=>nomatch h),R.mixed⟩ Go.Proofs.Tryz.func155 rfl rfl (fun x y h=>(R.f155eq x).trans h) (by decide)
def R.f152sig:Sig:=⟨⟨[.own 0, .hole (.int .i64), .hole (.int .i64)], [.arr 3 (.int .i64)]⟩,⟨[.hole .bool, .hole .bool], [.arr 3 (.int .i64)]⟩⟩
noncomputable def R.f152Γ:List Con:= [R.f155con]
def R.f152ann:Ann:=(.seq .leaf (.seq .leaf (.seq (.seq .leaf (.block (.loop ⟨.normal, [(6, .hole .bool),(7, .hole .bool),(8, .hole (.int .i64))], [.arr 3 (.int .i64)]⟩ [⟨(.exit 0), [(6, .hole .bool),(7, .hole .bool)], [.arr 3 (.int
 .i64)]⟩] (.seq (.seq .leaf (.cond .leaf .leaf)) (.seq (.block (.seq .leaf (.block (.seq .leaf (.cond .leaf (.seq .leaf (.cond .leaf .leaf))))))) .leaf))))) (.seq .leaf .leaf))))
noncomputable def R.f152F:Int×Int×List Int→Option (Bool×Bool×List Int):=fun(x:Int×Int×List Int)=>Option.bind (iter (fun(s1:Bool×Bool×Int×List Int)=>if decide (s1.2.2.1<zen x.2.1 (x.2.2.length:Int))=
 true then if(0:Int)≤s1.2.2.1∧s1.2.2.1<(s1.2.2.2.length:Int) then Option.bind (R.f155F (List.getD s1.2.2.2 (Int.toNat s1.2.2.1) (0:Int))) fun v2=>if(v2==(0:Int))=true then some (Sum.inl (true,s1.2.1,IntKind.i64.wrap
 (s1.2.2.1+(1:Int)),s1.2.2.2)) else if(v2==(1:Int))=true then some (Sum.inl (s1.1,true,IntKind.i64.wrap (s1.2.2.1+(1:Int)),s1.2.2.2)) else some (Sum.inl (s1.1,s1.2.1,IntKind.i64.wrap (s1.2.2.1+(1:Int)),s1.2.2.2))
 else none else some (Sum.inr (s1.1,s1.2.1,s1.2.2.2))) (false,false,zif (0:Int) x.1,x.2.2)) fun(v1:Bool×Bool×List Int)=>some (v1.1,v1.2.1,v1.2.2)
theorem R.f152eq: ∀ x,zk R.C R.f152Γ R.f152sig R.f152ann Go.Proofs.Tryz.f152 x=R.f152F x:=by
 intro x
 kernel_rfl
noncomputable def R.f152con:Con:=⟨152,R.f152sig,R.f152F⟩
theorem R.f152ok:Con.Ok Go.Proofs.Tryz.prog R.C R.f152con:=
 zb (Γ:=R.f152Γ) (an:=R.f152ann) ⟨R.Cok,(List.forall_mem_cons.2 ⟨R.f155ok,(fun _ h=>nomatch h)⟩),R.mixed⟩ Go.Proofs.Tryz.func152 rfl rfl (fun x y h=>(R.f152eq x).trans h) (by decide)
def R.f153sig:Sig:=⟨⟨[.ro (.st (.pair (.sl (.int .i64)) (.pair (.sl (.int .i64)) (.pair (.int .i64) (.int .i64))))), .hole (.int .i64)], []⟩,⟨[.hole (.int .i64)], []⟩⟩
noncomputable def R.f153Γ:List Con:= [R.f155con]
def R.f153ann:Ann:=(.seq .leaf (.seq (.seq .leaf (.block (.loop ⟨.normal, [(1, .hole (.int .i64))], []⟩ [⟨(.exit 0), [], []⟩,⟨.ret, [(4, .hole (.int .i64))], []⟩] (.seq (.seq .leaf (.cond .leaf .leaf)) (.seq (.block (.seq .leaf (.seq
 .leaf (.cond (.seq .leaf .leaf) .leaf)))) .leaf))))) (.seq .leaf .leaf)))
noncomputable def R.f153F:(List Int×List Int×Int×Int)×Int→Option (Int):=fun(x:(List Int×List Int×Int×Int)×Int)=>Option.bind (iter (fun(s1:Int)=>if decide (s1≥(0:Int))=true then if(0:Int)≤s1∧s1<
 (x.1.1.length:Int) then Option.bind (R.f155F (List.getD x.1.1 (Int.toNat s1) (0:Int))) fun v2=>if(v2 !=(-1:Int))=true then some (Sum.inr (Sum.inr v2)) else some (Sum.inl (IntKind.i64.wrap (s1 - (1:Int)))) else none else some
 (Sum.inr (Sum.inl ()))) (IntKind.i64.wrap (x.2 - (1:Int)))) fun v1=>Sum.elim (fun(p2:PUnit)=>some x.1.2.2.2) (fun(q2:Int)=>some q2) v1
theorem R.f153eq: ∀ x,zk R.C R.f153Γ R.f153sig R.f153ann Go.Proofs.Tryz.f153 x=R.f153F x:=by
 intro x
 kernel_rfl
noncomputable def R.f153con:Con:=⟨153,R.f153sig,R.f153F⟩
theorem R.f153ok:Con.Ok Go.Proofs.Tryz.prog R.C R.f153con:=
 zb (Γ:=R.f153Γ) (an:=R.f153ann) ⟨R.Cok,(List.forall_mem_cons.2 ⟨R.f155ok,(fun _ h=>nomatch h)⟩),R.mixed⟩ Go.Proofs.Tryz.func153 rfl rfl (fun x y h=>(R.f153eq x).trans h) (by decide)
def R.f109sig:Sig:=⟨⟨[.ptr 0 0, .hole (.arr 2 (.int .i64))], [.cells [.own 1, .hole (.sl (.int .i64)), .hole (.int .i64), .hole (.int .i64)], .arr 3 (.int .i64)]⟩,⟨[.hole (.int .i64)], [.cells [.own 2, .hole (.sl (.int .i64)), .hole
 (.int .i64), .hole (.int .i64)], .gone, .arr 3 (.int .i64)]⟩⟩
noncomputable def R.f109Γ:List Con:= [R.f152con,R.f153con]
def R.f109ann:Ann:=(.seq .leaf (.seq (.eff 3 [] [0,1,3,7,0,16,48,0,128,511,1023,2047,2047,4095,16383]) (.seq (.block (.seq (.join [⟨.normal, [(20, .hole .bool)], [.cells [.own 1, .hole (.sl (.int .i64)), .hole (.int .i64),
 .hole (.int .i64)], .arr 3 (.int .i64), .cells [.hole (.int .i64), .hole (.int .i64)]]⟩] .leaf) (.cond (.seq .leaf .leaf) (.seq (.join [⟨.normal, [(27, .hole .bool)], [.cells [.own 1, .hole (.sl (.int .i64)), .hole (.int .i64), .hole (.int
 .i64)], .arr 3 (.int .i64), .cells [.hole (.int .i64), .hole (.int .i64)]]⟩] (.seq (.join [⟨.normal, [(27, .hole .bool)], [.cells [.own 1, .hole (.sl (.int .i64)), .hole (.int .i64), .hole (.int .i64)], .arr 3 (.int .i64), .cells [.hole
 (.int .i64), .hole (.int .i64)]]⟩] .leaf) (.cond .leaf .leaf))) (.cond (.seq .leaf .leaf) .leaf))))) (.seq .leaf .leaf))))
noncomputable def R.f109F:List Int×List Int×Int×Int×List Int→Option (Int×List Int×Int×Int×List Int):=fun(x:List Int×List Int×Int×Int×List Int)=>if(0:Int)≤(0:Int)∧(0:Int)<(↑(2:Nat):Int)
 then if(0:Int)≤(1:Int)∧(1:Int)<(↑(2:Nat):Int) then Option.bind (R.f152F (IntKind.i64.wrap (List.getD x.1 (nat_lit 0) (0:Int)+(1:Int)),List.getD x.1 (nat_lit 1) (0:Int),x.2.2.2.2)) fun(v1:Bool×Bool×List Int)
 =>Option.bind (if(!v1.1)=true then some (!v1.2.1,x.2.1,x.2.2.1,x.2.2.2.1,v1.2.2,List.getD x.1 (nat_lit 0) (0:Int),List.getD x.1 (nat_lit 1) (0:Int)) else some (false,x.2.1,x.2.2.1,x.2.2.2.1,v1.2.2,List.getD x.1 (nat_lit
 0) (0:Int),List.getD x.1 (nat_lit 1) (0:Int))) fun(v2:Bool×List Int×Int×Int×List Int×Int×Int)=>if v2.1=true then some ((-1:Int),v2.2.1,v2.2.2.1,v2.2.2.2.1,v2.2.2.2.2.1) else Option.bind (Option.bind (if v1.1=
 true then some (v2.2.2.1==(0:Int),v2.2.1,v2.2.2.1,v2.2.2.2.1,v2.2.2.2.2.1,v2.2.2.2.2.2.1,v2.2.2.2.2.2.2) else some (false,v2.2.1,v2.2.2.1,v2.2.2.2.1,v2.2.2.2.2.1,v2.2.2.2.2.2.1,v2.2.2.2.2.2.2)) fun(v3:Bool×List Int×
 Int×Int×List Int×Int×Int)=>if v3.1=true then some (true,v3.2.1,v3.2.2.1,v3.2.2.2.1,v3.2.2.2.2.1,v3.2.2.2.2.2.1,v3.2.2.2.2.2.2) else if v1.2.1=true then some (v3.2.2.1==(1:Int),v3.2.1,v3.2.2.1,v3.2.2.2.1,
 v3.2.2.2.2.1,v3.2.2.2.2.2.1,v3.2.2.2.2.2.2) else some (false,v3.2.1,v3.2.2.1,v3.2.2.2.1,v3.2.2.2.2.1,v3.2.2.2.2.2.1,v3.2.2.2.2.2.2)) fun(v3:Bool×List Int×Int×Int×List Int×Int×Int)=>if v3.1=true then some
 (v3.2.2.1,v3.2.1,v3.2.2.1,v3.2.2.2.1,v3.2.2.2.2.1) else if(0:Int)≤(0:Int)∧(0:Int)<(↑(2:Nat):Int) then Option.bind (R.f153F ((v3.2.2.2.2.1,v3.2.1,v3.2.2.1,v3.2.2.2.1),v3.2.2.2.2.2.1)) fun v4=>some (v4,v3.2.1,
 v3.2.2.1,v3.2.2.2.1,v3.2.2.2.2.1) else none else none else none
theorem R.f109eq: ∀ x,zk R.C R.f109Γ R.f109sig R.f109ann Go.Proofs.Tryz.f109 x=R.f109F x:=by
 intro x
 kernel_rfl
noncomputable def R.f109con:Con:=⟨109,R.f109sig,R.f109F⟩
theorem R.f109ok:Con.Ok Go.Proofs.Tryz.prog R.C R.f109con:=
 zb (Γ:=R.f109Γ) (an:=R.f109ann) ⟨R.Cok,(List.forall_mem_cons.2 ⟨R.f152ok,(List.forall_mem_cons.2 ⟨R.f153ok,(fun _ h=>nomatch h)⟩)⟩),R.mixed⟩ Go.Proofs.Tryz.func109 rfl rfl (fun x y h=>(R.f109eq x).trans h) (by decide)
def R.f110sig:Sig:=⟨⟨[.ptr 0 0, .hole (.int .i64), .hole (.int .i64)], [.cells [.own 1, .hole (.sl (.int .i64)), .hole (.int .i64), .hole (.int .i64)], .arr 3 (.int .i64)]⟩,⟨[], [.cells [.own 2, .hole (.sl (.int .i64)), .hole (.int
 .i64), .hole (.int .i64)], .gone, .arr 3 (.int .i64)]⟩⟩
noncomputable def R.f110Γ:List Con:= []
def R.f110ann:Ann:=(.seq .leaf (.seq .leaf (.block (.loop ⟨.normal, [(1, .hole (.int .i64))], [.cells [.own 1, .hole (.sl (.int .i64)), .hole (.int .i64), .hole (.int .i64)], .arr 3 (.int .i64)]⟩ [⟨(.exit 0), [], [.cells [.own 1, .hole
 (.sl (.int .i64)), .hole (.int .i64), .hole (.int .i64)], .arr 3 (.int .i64)]⟩] (.seq (.seq (.join [⟨.normal, [(31, .hole .bool)], [.cells [.own 1, .hole (.sl (.int .i64)), .hole (.int .i64), .hole (.int .i64)], .arr 3 (.int .i64)]⟩] .leaf)
 (.cond .leaf .leaf)) (.seq (.block .leaf) .leaf))))))
noncomputable def R.f110F:Int×Int×List Int×Int×Int×List Int→Option (List Int×Int×Int×List Int):=fun(x:Int×Int×List Int×Int×Int×List Int)=>if(0:Int)≤x.1∧x.1<(x.2.2.2.2.2.length:Int) then
 Option.bind (iter (fun(s1:Int×List Int×Int×Int×List Int)=>Option.bind (if decide (s1.1<(s1.2.2.2.2.length:Int))=true then if(0:Int)≤s1.1∧s1.1<(s1.2.1.length:Int) then some (List.getD s1.2.1 (Int.toNat s1.1) (0
 :Int)==(8:Int),s1.2.1,s1.2.2.1,s1.2.2.2.1,s1.2.2.2.2) else none else some (false,s1.2.1,s1.2.2.1,s1.2.2.2.1,s1.2.2.2.2)) fun(v2:Bool×List Int×Int×Int×List Int)=>if v2.1=true then if(0:Int)≤s1.1∧s1.1<
 (v2.2.2.2.2.length:Int) then some (Sum.inl (IntKind.i64.wrap (s1.1+(1:Int)),v2.2.1,v2.2.2.1,v2.2.2.2.1,List.set v2.2.2.2.2 (Int.toNat s1.1) x.2.1)) else none else some (Sum.inr (v2.2.1,v2.2.2.1,v2.2.2.2.1,v2.2.2.2.2)))
 (IntKind.i64.wrap (x.1+(1:Int)),x.2.2.1,x.2.2.2.1,x.2.2.2.2.1,List.set x.2.2.2.2.2 (Int.toNat x.1) x.2.1)) fun(v1:List Int×Int×Int×List Int)=>some (v1.1,v1.2.1,v1.2.2.1,v1.2.2.2) else none
theorem R.f110eq: ∀ x,zk R.C R.f110Γ R.f110sig R.f110ann Go.Proofs.Tryz.f110 x=R.f110F x:=by
 intro x
 kernel_rfl
noncomputable def R.f110con:Con:=⟨110,R.f110sig,R.f110F⟩
theorem R.f110ok:Con.Ok Go.Proofs.Tryz.prog R.C R.f110con:=
 zb (Γ:=R.f110Γ) (an:=R.f110ann) ⟨R.Cok,(fun _ h=>nomatch h),R.mixed⟩ Go.Proofs.Tryz.func110 rfl rfl (fun x y h=>(R.f110eq x).trans h) (by decide)
def R.f76sig:Sig:=⟨⟨[.hole (.sl (.int .i64)), .hole (.sl (.int .i64)), .hole (.sl (.int .i64)), .hole (.int .i64), .hole (.int .i64)], []⟩,⟨[.hole (.sl (.int .i64))], []⟩⟩
noncomputable def R.f76Γ:List Con:= [R.f49con,R.f104con,R.f108con,R.f109con,R.f110con]
def R.f76ann:Ann:=(.seq .leaf (.seq .leaf (.seq (.seq (.join [⟨.normal, [(33, .hole .bool)], [.arr 3 (.int .i64), .cells [.own 0, .hole (.sl (.int .i64)), .hole (.int .i64), .hole (.int .i64)]]⟩] .leaf) (.cond (.seq .leaf .leaf) .leaf))
 (.seq (.join [⟨.normal, [], [.arr 3 (.int .i64), .cells [.own 0, .hole (.sl (.int .i64)), .hole (.int .i64), .hole (.int .i64)]]⟩] (.seq .leaf (.cond .leaf .leaf))) (.seq (.seq .leaf (.block (.loop ⟨.normal, [(47, .hole (.int .i64))],
 [.gone, .cells [.own 2, .hole (.sl (.int .i64)), .hole (.int .i64), .hole (.int .i64)], .arr 3 (.int .i64)]⟩ [⟨(.exit 0), [], [.gone, .cells [.own 2, .hole (.sl (.int .i64)), .hole (.int .i64), .hole (.int .i64)], .arr 3 (.int .i64)]⟩]
 (.seq .leaf (.seq (.cond .leaf .leaf) (.seq (.block (.seq .leaf (.seq .leaf (.seq .leaf (.cond (.seq .leaf .leaf) .leaf))))) .leaf)))))) (.seq .leaf .leaf))))))
noncomputable def R.f76F:List Int×List Int×List Int×Int×Int→Option (List Int):=fun(x:List Int×List Int×List Int×Int×Int)=>Option.bind (R.f49F x.2.1) fun(v1:List Int)=>Option.bind (R.f104F x.2.2.2.1) fun v2=>
 Option.bind (if((x.1.length:Int)!=(x.2.1.length:Int))=true then some (true,v1,x.2.2.1,v2,(0:Int)) else some ((x.2.2.1.length:Int)!=(x.2.1.length:Int),v1,x.2.2.1,v2,(0:Int))) fun(v3:Bool×List Int×List Int×
 Int×Int)=>if v3.1=true then some v3.2.1 else Option.bind (if(x.2.2.2.2==(1:Int))=true then some (v3.2.1,v3.2.2.1,v3.2.2.2.1,(1:Int)) else some (v3.2.1,v3.2.2.1,v3.2.2.2.1,v3.2.2.2.2)) fun(v4:List Int×List Int×Int
 ×Int)=>Option.bind (R.f108F (x.1,x.2.1)) fun(v5:List (List Int))=>Option.bind (iter (fun(s6:Int×List Int×Int×Int×List Int)=>if decide (s6.1<(v5.length:Int))=true then if(0:Int)≤s6.1∧s6.1<(v5.length:
 Int) then Option.bind (R.f109F ([List.getD (List.getD v5 (Int.toNat s6.1) (List.replicate (2:Nat) (0:Int))) (nat_lit 0) (0:Int),List.getD (List.getD v5 (Int.toNat s6.1) (List.replicate (2:Nat) (0:Int))) (nat_lit 1) (0:Int)],
 s6.2.1,s6.2.2.1,s6.2.2.2.1,s6.2.2.2.2)) fun(v7:Int×List Int×Int×Int×List Int)=>if(v7.1 !=(-1:Int))=true then if(0:Int)≤(0:Int)∧(0:Int)<(↑(2:Nat):Int) then Option.bind (R.f110F (List.getD (List.getD v5
 (Int.toNat s6.1) (List.replicate (2:Nat) (0:Int))) (nat_lit 0) (0:Int),v7.1,v7.2.1,v7.2.2.1,v7.2.2.2.1,v7.2.2.2.2)) fun(v8:List Int×Int×Int×List Int)=>if(0:Int)≤(1:Int)∧(1:Int)<(↑(2:Nat):Int) then
 Option.bind (R.f110F (List.getD (List.getD v5 (Int.toNat s6.1) (List.replicate (2:Nat) (0:Int))) (nat_lit 1) (0:Int),v7.1,v8.1,v8.2.1,v8.2.2.1,v8.2.2.2)) fun(v9:List Int×Int×Int×List Int)=>some (Sum.inl
 (IntKind.i64.wrap (s6.1+(1:Int)),v9.1,v9.2.1,v9.2.2.1,v9.2.2.2)) else none else none else some (Sum.inl (IntKind.i64.wrap (s6.1+(1:Int)),v7.2.1,v7.2.2.1,v7.2.2.2.1,v7.2.2.2.2)) else none else some (Sum.inr (s6.2.1,s6.2.2.1,
 s6.2.2.2.1,s6.2.2.2.2))) ((0:Int),v4.2.1,v4.2.2.1,v4.2.2.2,v4.1)) fun(v6:List Int×Int×Int×List Int)=>some v6.2.2.2
theorem R.f76eq: ∀ x,zk R.C R.f76Γ R.f76sig R.f76ann Go.Proofs.Tryz.f76 x=R.f76F x:=by
 intro x
 kernel_rfl
noncomputable def R.f76con:Con:=⟨76,R.f76sig,R.f76F⟩
theorem R.f76ok:Con.Ok Go.Proofs.Tryz.prog R.C R.f76con:=
 zb (Γ:=R.f76Γ) (an:=R.f76ann) ⟨R.Cok,(List.forall_mem_cons.2 ⟨R.f49ok,(List.forall_mem_cons.2 ⟨R.f104ok,(List.forall_mem_cons.2 ⟨R.f108ok,(List.forall_mem_cons.2 ⟨R.f109ok,(List.forall_mem_cons.2 ⟨R.f110ok,(fun _ h=>nomatch h)⟩)⟩)⟩)⟩)⟩),R.mixed⟩ Go.Proofs.Tryz.func76 rfl rfl (fun x y h=>(R.f76eq x).trans h) (by decide)
def R.f154sig:Sig:=⟨⟨[.hole (.int .i64)], []⟩,⟨[.hole .bool], []⟩⟩
noncomputable def R.f154Γ:List Con:= [R.f80con,R.f79con]
def R.f154ann:Ann:=(.seq .leaf (.seq .leaf .leaf))
noncomputable def R.f154F:Int→Option (Bool):=fun(x:Int)=>Option.bind (R.f80F [(10:Int),(11:Int),(12:Int),(13:Int),(19:Int),(20:Int),(21:Int),(22:Int)]) fun v1=>Option.bind (R.f79F (x,v1)) fun v2=>some
 v2
theorem R.f154eq: ∀ x,zk R.C R.f154Γ R.f154sig R.f154ann Go.Proofs.Tryz.f154 x=R.f154F x:=by
 intro x
 kernel_rfl
noncomputable def R.f154con:Con:=⟨154,R.f154sig,R.f154F⟩
theorem R.f154ok:Con.Ok Go.Proofs.Tryz.prog R.C R.f154con:=
 zb (Γ:=R.f154Γ) (an:=R.f154ann) ⟨R.Cok,(List.forall_mem_cons.2 ⟨R.f80ok,(List.forall_mem_cons.2 ⟨R.f79ok,(fun _ h=>nomatch h)⟩)⟩),R.mixed⟩ Go.Proofs.Tryz.func154 rfl rfl (fun x y h=>(R.f154eq x).trans h) (by decide)
def R.f111sig:Sig:=⟨⟨[.hole (.sl (.int .i64))], []⟩,⟨[.hole (.sl (.arr 2 (.int .i64)))], []⟩⟩
noncomputable def R.f111Γ:List Con:= [R.f154con]
def R.f111ann:Ann:=(.seq .leaf (.seq .leaf (.seq (.seq .leaf (.block (.loop ⟨.normal, [(3, .own 0),(4, .hole (.int .i64))], [.arr 118 (.arr 2 (.int .i64))]⟩ [⟨(.exit 0), [(3, .own 0)], [.arr 118 (.arr 2 (.int .i64))]⟩] (.seq (.seq
 .leaf (.cond .leaf .leaf)) (.seq (.block (.seq .leaf (.seq (.block (.loop ⟨.normal, [(5, .hole (.int .i64))], [.arr 118 (.arr 2 (.int .i64))]⟩ [⟨(.exit 2), [(5, .hole (.int .i64))], [.arr 118 (.arr 2 (.int .i64))]⟩] (.seq (.seq (.join
 [⟨.normal, [(23, .hole .bool)], [.arr 118 (.arr 2 (.int .i64))]⟩] .leaf) (.cond .leaf .leaf)) (.block .leaf)))) (.seq .leaf (.cond (.seq .leaf .leaf) .leaf))))) .leaf))))) (.seq .leaf .leaf))))
noncomputable def R.f111F:List Int→Option (List (List Int)):=fun(x:List Int)=>Option.bind (iter (fun(s1:Int×List (List Int))=>if decide (s1.1<(x.length:Int))=true then Option.bind (iter (fun(s2:Int×List (List
 Int))=>Option.bind (if decide (s2.1<(x.length:Int))=true then if(0:Int)≤s2.1∧s2.1<(x.length:Int) then Option.bind (R.f154F (List.getD x (Int.toNat s2.1) (0:Int))) fun v3=>some (v3,s2.2) else none else some (false,
 s2.2)) fun(v3:Bool×List (List Int))=>if v3.1=true then some (Sum.inl (IntKind.i64.wrap (s2.1+(1:Int)),v3.2)) else some (Sum.inr (s2.1,v3.2))) (s1.1,s1.2)) fun(v2:Int×List (List Int))=>if decide (v2.1 > s1.1)=true
 then if zi (List.length v2.2+(1:Nat)) (16:Nat) then some (Sum.inl (IntKind.i64.wrap (v2.1+(1:Int)),v2.2++ [[s1.1,v2.1]])) else none else some (Sum.inl (IntKind.i64.wrap (s1.1+(1:Int)),v2.2)) else some (Sum.inr s1.2))
 ((0:Int), [])) fun(v1:List (List Int))=>some v1
theorem R.f111eq: ∀ x,zk R.C R.f111Γ R.f111sig R.f111ann Go.Proofs.Tryz.f111 x=R.f111F x:=by
 intro x
 kernel_rfl
noncomputable def R.f111con:Con:=⟨111,R.f111sig,R.f111F⟩
theorem R.f111ok:Con.Ok Go.Proofs.Tryz.prog R.C R.f111con:=
 zb (Γ:=R.f111Γ) (an:=R.f111ann) ⟨R.Cok,(List.forall_mem_cons.2 ⟨R.f154ok,(fun _ h=>nomatch h)⟩),R.mixed⟩ Go.Proofs.Tryz.func111 rfl rfl (fun x y h=>(R.f111eq x).trans h) (by decide)
def R.f112sig:Sig:=⟨⟨[.hole (.sl (.int .i64)), .hole (.int .i64), .hole (.int .i64), .hole (.int .i64)], []⟩,⟨[.hole (.int .i64)], []⟩⟩
noncomputable def R.f112Γ:List Con:= [R.f155con,R.f104con]
def R.f112ann:Ann:=(.seq .leaf (.seq (.seq (.join [⟨.normal, [(17, .hole .bool)], []⟩] .leaf) (.cond (.seq (.seq .leaf (.cond (.seq .leaf .leaf) .leaf)) (.seq .leaf .leaf)) .leaf)) (.seq (.seq .leaf (.seq .leaf (.cond (.seq .leaf .leaf)
 .leaf))) (.seq .leaf .leaf))))
noncomputable def R.f112F:List Int×Int×Int×Int→Option (Int):=fun(x:List Int×Int×Int×Int)=>Option.bind (if decide (x.2.1<(0:Int))=true then some true else some (decide (x.2.1≥(x.1.length:Int)))) fun v1=>if
 v1=true then if(x.2.2.2==(1:Int))=true then some (1:Int) else some (0:Int) else if(0:Int)≤x.2.1∧x.2.1<(x.1.length:Int) then Option.bind (R.f155F (List.getD x.1 (Int.toNat x.2.1) (0:Int))) fun v2=>if decide (v2≥
 (0:Int))=true then some v2 else Option.bind (R.f104F x.2.2.1) fun v3=>some v3 else none
theorem R.f112eq: ∀ x,zk R.C R.f112Γ R.f112sig R.f112ann Go.Proofs.Tryz.f112 x=R.f112F x:=by
 intro x
 kernel_rfl
noncomputable def R.f112con:Con:=⟨112,R.f112sig,R.f112F⟩
theorem R.f112ok:Con.Ok Go.Proofs.Tryz.prog R.C R.f112con:=
 zb (Γ:=R.f112Γ) (an:=R.f112ann) ⟨R.Cok,(List.forall_mem_cons.2 ⟨R.f155ok,(List.forall_mem_cons.2 ⟨R.f104ok,(fun _ h=>nomatch h)⟩)⟩),R.mixed⟩ Go.Proofs.Tryz.func112 rfl rfl (fun x y h=>(R.f112eq x).trans h) (by decide)
def R.f77sig:Sig:=⟨⟨[.hole (.sl (.int .i64)), .hole (.int .i64), .hole (.int .i64), .hole (.int .i64)], []⟩,⟨[.hole (.sl (.int .i64))], []⟩⟩
noncomputable def R.f77Γ:List Con:= [R.f49con,R.f111con,R.f104con,R.f112con]
def R.f77ann:Ann:=(.seq .leaf (.seq .leaf (.seq (.seq .leaf (.block (.loop ⟨.normal, [(20, .hole (.int .i64))], [.arr 3 (.int .i64)]⟩ [⟨(.exit 0), [], [.arr 3 (.int .i64)]⟩] (.seq .leaf (.seq (.cond .leaf .leaf) (.seq (.block (.seq
 .leaf (.seq .leaf (.seq (.join [⟨.normal, [(12, .hole (.int .i64))], [.arr 3 (.int .i64), .cells [.hole (.int .i64), .hole (.int .i64)]]⟩] (.seq .leaf (.seq .leaf (.cond .leaf .leaf)))) (.seq .leaf (.block (.loop ⟨.normal, [(14, .hole (.int
 .i64))], [.arr 3 (.int .i64), .cells [.hole (.int .i64), .hole (.int .i64)]]⟩ [⟨(.exit 2), [], [.arr 3 (.int .i64), .gone]⟩] (.seq (.seq .leaf (.cond .leaf .leaf)) (.seq (.block .leaf) .leaf))))))))) .leaf)))))) (.seq .leaf .leaf))))
noncomputable def R.f77F:List Int×Int×Int×Int→Option (List Int):=fun(x:List Int×Int×Int×Int)=>Option.bind (R.f49F x.1) fun(v1:List Int)=>Option.bind (R.f111F x.1) fun(v2:List (List Int))=>Option.bind (iter
 (fun(s3:Int×List Int)=>if decide (s3.1<(v2.length:Int))=true then if(0:Int)≤s3.1∧s3.1<(v2.length:Int) then Option.bind (R.f104F x.2.1) fun v4=>Option.bind (if(0:Int)≤(0:Int)∧(0:Int)<(↑(2:Nat):Int)
 then Option.bind (R.f112F (x.1,IntKind.i64.wrap (List.getD (List.getD v2 (Int.toNat s3.1) (List.replicate (2:Nat) (0:Int))) (nat_lit 0) (0:Int) - (1:Int)),x.2.1,x.2.2.1)) fun v5=>if(0:Int)≤(1:Int)∧(1:Int)<(↑(2:
 Nat):Int) then Option.bind (R.f112F (x.1,List.getD (List.getD v2 (Int.toNat s3.1) (List.replicate (2:Nat) (0:Int))) (nat_lit 1) (0:Int),x.2.1,x.2.2.2)) fun v6=>if(v5==v6)=true then some (v5,s3.2,List.getD (List.getD v2
 (Int.toNat s3.1) (List.replicate (2:Nat) (0:Int))) (nat_lit 0) (0:Int),List.getD (List.getD v2 (Int.toNat s3.1) (List.replicate (2:Nat) (0:Int))) (nat_lit 1) (0:Int)) else some (v4,s3.2,List.getD (List.getD v2 (Int.toNat
 s3.1) (List.replicate (2:Nat) (0:Int))) (nat_lit 0) (0:Int),List.getD (List.getD v2 (Int.toNat s3.1) (List.replicate (2:Nat) (0:Int))) (nat_lit 1) (0:Int)) else none else none) fun(v5:Int×List Int×Int×Int)=>if(0:
 Int)≤(0:Int)∧(0:Int)<(↑(2:Nat):Int) then Option.bind (iter (fun(s6:Int×List Int×Int×Int)=>if(0:Int)≤(1:Int)∧(1:Int)<(↑(2:Nat):Int) then if decide (s6.1<s6.2.2.2)=true then if(0:Int)≤s6.1∧
 s6.1<(s6.2.1.length:Int) then some (Sum.inl (IntKind.i64.wrap (s6.1+(1:Int)),List.set s6.2.1 (Int.toNat s6.1) v5.1,s6.2.2.1,s6.2.2.2)) else none else some (Sum.inr s6.2.1) else none) (v5.2.2.1,v5.2.1,v5.2.2.1,v5.2.2.2)) fun
 (v6:List Int)=>some (Sum.inl (IntKind.i64.wrap (s3.1+(1:Int)),v6)) else none else none else some (Sum.inr s3.2)) ((0:Int),v1)) fun(v3:List Int)=>some v3
theorem R.f77eq: ∀ x,zk R.C R.f77Γ R.f77sig R.f77ann Go.Proofs.Tryz.f77 x=R.f77F x:=by
 intro x
 kernel_rfl
noncomputable def R.f77con:Con:=⟨77,R.f77sig,R.f77F⟩
theorem R.f77ok:Con.Ok Go.Proofs.Tryz.prog R.C R.f77con:=
 zb (Γ:=R.f77Γ) (an:=R.f77ann) ⟨R.Cok,(List.forall_mem_cons.2 ⟨R.f49ok,(List.forall_mem_cons.2 ⟨R.f111ok,(List.forall_mem_cons.2 ⟨R.f104ok,(List.forall_mem_cons.2 ⟨R.f112ok,(fun _ h=>nomatch h)⟩)⟩)⟩)⟩),R.mixed⟩ Go.Proofs.Tryz.func77 rfl rfl (fun x y h=>(R.f77eq x).trans h) (by decide)
def R.f113sig:Sig:=⟨⟨[.hole (.int .i64), .hole (.int .i64)], []⟩,⟨[.hole (.int .i64)], []⟩⟩
noncomputable def R.f113Γ:List Con:= []
def R.f113ann:Ann:=(.seq .leaf (.seq .leaf (.seq (.seq .leaf (.block (.seq .leaf (.cond (.seq .leaf .leaf) (.seq .leaf (.cond (.seq .leaf .leaf) (.seq (.join [⟨.normal, [(20, .hole .bool)], []⟩] (.seq .leaf (.cond .leaf .leaf))) (.cond
 (.seq .leaf .leaf) .leaf)))))))) (.seq .leaf .leaf))))
noncomputable def R.f113F:Int×Int→Option (Int):=fun(x:Int×Int)=>if(x.1==(0:Int))=true then some (IntKind.i64.wrap (x.2+IntKind.i64.wrap (↑(BitVec.toNat (BitVec.ofInt (IntKind.bits IntKind.i64) x.2 &&& BitVec.ofInt
 (IntKind.bits IntKind.i64) (1:Int))):Int))) else if(x.1==(1:Int))=true then some (IntKind.i64.wrap (IntKind.i64.wrap (x.2+(1:Int)) - IntKind.i64.wrap (↑(BitVec.toNat (BitVec.ofInt (IntKind.bits IntKind.i64) x.2 &&&
 BitVec.ofInt (IntKind.bits IntKind.i64) (1:Int))):Int))) else Option.bind (if(x.1==(6:Int))=true then some true else some (x.1==(3:Int))) fun v1=>if v1=true then some (IntKind.i64.wrap (IntKind.i64.wrap (x.2+(2:Int))
 - IntKind.i64.wrap (↑(BitVec.toNat (BitVec.ofInt (IntKind.bits IntKind.i64) x.2 &&& BitVec.ofInt (IntKind.bits IntKind.i64) (1:Int))):Int))) else some x.2
theorem R.f113eq: ∀ x,zk R.C R.f113Γ R.f113sig R.f113ann Go.Proofs.Tryz.f113 x=R.f113F x:=by
 intro x
 kernel_rfl
noncomputable def R.f113con:Con:=⟨113,R.f113sig,R.f113F⟩
theorem R.f113ok:Con.Ok Go.Proofs.Tryz.prog R.C R.f113con:=
 zb (Γ:=R.f113Γ) (an:=R.f113ann) ⟨R.Cok,(fun _ h=>nomatch h),R.mixed⟩ Go.Proofs.Tryz.func113 rfl rfl (fun x y h=>(R.f113eq x).trans h) (by decide)
def R.f78sig:Sig:=⟨⟨[.hole (.sl (.int .i64)), .hole (.int .i64)], []⟩,⟨[.hole (.sl (.int .i64))], []⟩⟩
noncomputable def R.f78Γ:List Con:= [R.f113con]
def R.f78ann:Ann:=(.seq .leaf (.seq .leaf (.seq (.seq .leaf (.block (.loop ⟨.normal, [(5, .own 0),(10, .hole (.int .i64))], [.arr 3 (.int .i64)]⟩ [⟨(.exit 0), [(5, .own 0)], [.arr 3 (.int .i64)]⟩] (.seq .leaf (.seq (.cond .leaf .leaf)
 (.seq (.block (.seq .leaf .leaf)) .leaf)))))) (.seq .leaf .leaf))))
noncomputable def R.f78F:List Int×Int→Option (List Int):=fun(x:List Int×Int)=>Option.bind (iter (fun(s1:Int×List Int)=>if decide (s1.1<(x.1.length:Int))=true then if(0:Int)≤s1.1∧s1.1<(x.1.length:Int)
 then Option.bind (R.f113F (List.getD x.1 (Int.toNat s1.1) (0:Int),x.2)) fun v2=>if zi (List.length s1.2+(1:Nat)) (8:Nat) then some (Sum.inl (IntKind.i64.wrap (s1.1+(1:Int)),s1.2++ [v2])) else none else none else some
 (Sum.inr s1.2)) ((0:Int), [])) fun(v1:List Int)=>some v1
theorem R.f78eq: ∀ x,zk R.C R.f78Γ R.f78sig R.f78ann Go.Proofs.Tryz.f78 x=R.f78F x:=by
 intro x
 kernel_rfl
noncomputable def R.f78con:Con:=⟨78,R.f78sig,R.f78F⟩
theorem R.f78ok:Con.Ok Go.Proofs.Tryz.prog R.C R.f78con:=
 zb (Γ:=R.f78Γ) (an:=R.f78ann) ⟨R.Cok,(List.forall_mem_cons.2 ⟨R.f113ok,(fun _ h=>nomatch h)⟩),R.mixed⟩ Go.Proofs.Tryz.func78 rfl rfl (fun x y h=>(R.f78eq x).trans h) (by decide)
def R.f50sig:Sig:=⟨⟨[.ptr 0 0, .hole (.st (.pair (.sl (.int .i64)) (.pair (.int .i64) (.pair (.int .i64) (.int .i64)))))], [.cells [.hole (.sl (.int .i64)), .hole (.sl (.int .i64)), .own 1, .own 2, .hole (.int .i64)], .arr 3 (.int
 .i64), .arr 3 (.int .i64)]⟩,⟨[], [.cells [.hole (.sl (.int .i64)), .hole (.sl (.int .i64)), .own 3, .own 4, .hole (.int .i64)], .gone, .gone, .arr 3 (.int .i64), .arr 3 (.int .i64)]⟩⟩
noncomputable def R.f50Γ:List Con:= [R.s1con,R.f74con,R.f75con,R.f76con,R.f77con,R.f78con]
def R.f50ann:Ann:=(.seq .leaf (.seq (.tail 6) (.seq .leaf (.seq (.effl 4 [] [0,1,3,7,0,16,63,0,0,0,512,0,2048,8191]) (.seq .leaf (.seq .leaf (.block (.loop ⟨.normal, [(46, .hole (.int .i64))], [.cells [.hole (.sl (.int
 .i64)), .hole (.sl (.int .i64)), .own 1, .own 2, .hole (.int .i64)], .arr 3 (.int .i64), .arr 3 (.int .i64), .cells [.hole (.sl (.int .i64)), .hole (.int .i64), .hole (.int .i64), .hole (.int .i64)]]⟩ [⟨(.exit 0), [], [.cells [.hole (.sl
 (.int .i64)), .hole (.sl (.int .i64)), .own 1, .own 2, .hole (.int .i64)], .arr 3 (.int .i64), .arr 3 (.int .i64), .gone]⟩] (.seq .leaf (.seq (.cond .leaf .leaf) (.seq (.block (.seq .leaf (.eff 4 [] [0,1,3,7,0,16,0,112,240,0,512,
 1536,3584,0,8192,0,57344,122880,0,0,786432,1835008,0,4194303,12582911,33554431,67108863]))) .leaf)))))))))))
noncomputable def R.f50F:(List Int×Int×Int×Int)×List Int×List Int×Int×List Int×List Int→Option (List Int×List Int×Int×List Int×List Int):=fun(x:(List Int×Int×Int×Int)×List Int×List Int×Int×List
 Int×List Int)=>Option.bind (R.s1F (x.1.1,x.2.2.2.2.2)) fun(v1:List Int×List Int)=>Option.bind (R.f75F (v1.1,x.1.2.2.1)) fun(v2:List Int)=>Option.bind (R.f74F (x.2.1,x.1.1)) fun(v3:List Int)=>Option.bind (R.f76F (v3,
 v2,v1.1,x.1.2.1,x.1.2.2.1)) fun(v4:List Int)=>Option.bind (R.f77F (v4,x.1.2.1,x.1.2.2.1,x.1.2.2.2)) fun(v5:List Int)=>Option.bind (R.f78F (v5,x.1.2.1)) fun(v6:List Int)=>Option.bind (iter (fun(s7:Int×List Int×
 List Int×Int×List Int×List Int×List Int×Int×Int×Int)=>if decide (s7.1<(v6.length:Int))=true then if(0:Int)≤s7.1∧s7.1<(v6.length:Int) then if(0:Int)≤s7.1∧s7.1<(s7.2.2.2.2.2.2.1.length:Int) then if
 (0:Int)≤s7.1∧s7.1<(s7.2.2.2.2.2.2.1.length:Int) then if(0:Int)≤s7.1∧s7.1<(v5.length:Int) then if(0:Int)≤List.getD s7.2.2.2.2.2.2.1 (Int.toNat s7.1) (0:Int)∧List.getD s7.2.2.2.2.2.2.1 (Int.toNat s7.1) (0:Int)
 <(s7.2.2.2.2.2.1.length:Int) then if(0:Int)≤List.getD s7.2.2.2.2.2.2.1 (Int.toNat s7.1) (0:Int)∧List.getD s7.2.2.2.2.2.2.1 (Int.toNat s7.1) (0:Int)<(s7.2.2.2.2.1.length:Int) then some (Sum.inl (IntKind.i64.wrap (s7.1+(1
 :Int)),s7.2.1,s7.2.2.1,s7.2.2.2.1,List.set s7.2.2.2.2.1 (Int.toNat (List.getD s7.2.2.2.2.2.2.1 (Int.toNat s7.1) (0:Int))) (List.getD v6 (Int.toNat s7.1) (0:Int)),List.set s7.2.2.2.2.2.1 (Int.toNat (List.getD s7.2.2.2.2.2.2.1
 (Int.toNat s7.1) (0:Int))) (List.getD v5 (Int.toNat s7.1) (0:Int)),s7.2.2.2.2.2.2.1,s7.2.2.2.2.2.2.2.1,s7.2.2.2.2.2.2.2.2.1,s7.2.2.2.2.2.2.2.2.2)) else none else none else none else none else none else none else some (Sum.inr
 (s7.2.1,s7.2.2.1,s7.2.2.2.1,s7.2.2.2.2.1,s7.2.2.2.2.2.1))) ((0:Int),x.2.1,x.2.2.1,x.2.2.2.1,x.2.2.2.2.1,v1.2,x.1.1,x.1.2.1,x.1.2.2.1,x.1.2.2.2)) fun(v7:List Int×List Int×Int×List Int×List Int)=>some (v7.1,
 v7.2.1,v7.2.2.1,v7.2.2.2.1,v7.2.2.2.2)
theorem R.f50eq: ∀ x,zk R.C R.f50Γ R.f50sig R.f50ann Go.Proofs.Tryz.f50 x=R.f50F x:=by
 intro x
 kernel_rfl
noncomputable def R.f50con:Con:=⟨50,R.f50sig,R.f50F⟩
theorem R.f50ok:Con.Ok Go.Proofs.Tryz.prog R.C R.f50con:=
 zb (Γ:=R.f50Γ) (an:=R.f50ann) ⟨R.Cok,(List.forall_mem_cons.2 ⟨R.s1ok,(List.forall_mem_cons.2 ⟨R.f74ok,(List.forall_mem_cons.2 ⟨R.f75ok,(List.forall_mem_cons.2 ⟨R.f76ok,(List.forall_mem_cons.2 ⟨R.f77ok,(List.forall_mem_cons.2 ⟨R.f78ok,(fun _ h=>nomatch h)⟩)⟩)⟩)⟩)⟩)⟩),R.mixed⟩ Go.Proofs.Tryz.func50 rfl rfl (fun x y h=>(R.f50eq x).trans h) (by decide)
def R.f51sig:Sig:=⟨⟨[.ptr 0 0], [.cells [.hole (.sl (.int .i64)), .hole (.sl (.int .i64)), .own 1, .own 2, .hole (.int .i64)], .arr 3 (.int .i64), .arr 3 (.int .i64)]⟩,⟨[], [.cells [.hole (.sl (.int .i64)), .hole (.sl (.int .i64)),
 .own 3, .own 4, .hole (.int .i64)], .gone, .gone, .arr 3 (.int .i64), .arr 3 (.int .i64)]⟩⟩
noncomputable def R.f51Γ:List Con:= [R.f54con]
def R.f51ann:Ann:=(.seq .leaf (.seq .leaf (.block (.loop ⟨.normal, [(2, .hole (.int .i64)),(14, .hole (.int .i64))], [.cells [.hole (.sl (.int .i64)), .hole (.sl (.int .i64)), .own 1, .own 2, .hole (.int .i64)], .arr 3 (.int .i64),
 .arr 3 (.int .i64)]⟩ [⟨(.exit 0), [], [.cells [.hole (.sl (.int .i64)), .hole (.sl (.int .i64)), .own 1, .own 2, .hole (.int .i64)], .arr 3 (.int .i64), .arr 3 (.int .i64)]⟩] (.seq .leaf (.seq (.cond .leaf .leaf) (.seq (.block (.seq .leaf
 (.seq (.join [⟨.normal, [], [.cells [.hole (.sl (.int .i64)), .hole (.sl (.int .i64)), .own 1, .own 2, .hole (.int .i64)], .arr 3 (.int .i64), .arr 3 (.int .i64)]⟩] (.seq .leaf (.cond .leaf .leaf))) .leaf))) .leaf)))))))
noncomputable def R.f51F:List Int×List Int×Int×List Int×List Int→Option (List Int×List Int×Int×List Int×List Int):=fun(x:List Int×List Int×Int×List Int×List Int)=>Option.bind (iter (fun(s1:Int×Int×
 List Int×List Int×Int×List Int×List Int)=>if decide (s1.2.1<(x.2.1.length:Int))=true then if(0:Int)≤s1.2.1∧s1.2.1<(x.2.1.length:Int) then Option.bind (Option.bind (R.f54F (List.getD x.2.1 (Int.toNat s1.2.1) (0:
 Int))) fun v2=>if v2=true then if(0:Int)≤s1.2.1∧s1.2.1<(s1.2.2.2.2.2.1.length:Int) then some (s1.2.2.1,s1.2.2.2.1,s1.2.2.2.2.1,List.set s1.2.2.2.2.2.1 (Int.toNat s1.2.1) s1.1,s1.2.2.2.2.2.2) else none else some (s1.2.2.1,
 s1.2.2.2.1,s1.2.2.2.2.1,s1.2.2.2.2.2.1,s1.2.2.2.2.2.2)) fun(v2:List Int×List Int×Int×List Int×List Int)=>if(0:Int)≤s1.2.1∧s1.2.1<(v2.2.2.2.1.length:Int) then some (Sum.inl (List.getD v2.2.2.2.1 (Int.toNat s1.2.1)
 (0:Int),IntKind.i64.wrap (s1.2.1+(1:Int)),v2.1,v2.2.1,v2.2.2.1,v2.2.2.2.1,v2.2.2.2.2)) else none else none else some (Sum.inr (s1.2.2.1,s1.2.2.2.1,s1.2.2.2.2.1,s1.2.2.2.2.2.1,s1.2.2.2.2.2.2))) (x.2.2.1,(0:Int),x.1,
 x.2.1,x.2.2.1,x.2.2.2.1,x.2.2.2.2)) fun(v1:List Int×List Int×Int×List Int×List Int)=>some (v1.1,v1.2.1,v1.2.2.1,v1.2.2.2.1,v1.2.2.2.2)
theorem R.f51eq: ∀ x,zk R.C R.f51Γ R.f51sig R.f51ann Go.Proofs.Tryz.f51 x=R.f51F x:=by
 intro x
 kernel_rfl
noncomputable def R.f51con:Con:=⟨51,R.f51sig,R.f51F⟩
theorem R.f51ok:Con.Ok Go.Proofs.Tryz.prog R.C R.f51con:=
 zb (Γ:=R.f51Γ) (an:=R.f51ann) ⟨R.Cok,(List.forall_mem_cons.2 ⟨R.f54ok,(fun _ h=>nomatch h)⟩),R.mixed⟩ Go.Proofs.Tryz.func51 rfl rfl (fun x y h=>(R.f51eq x).trans h) (by decide)
def R.f36sig:Sig:=⟨⟨[.hole (.sl (.int .i64)), .hole (.int .i64)], []⟩,⟨[.ptr 0 0], [.cells [.hole (.sl (.int .i64)), .hole (.sl (.int .i64)), .own 1, .own 2, .hole (.int .i64)], .arr 3 (.int .i64), .arr 3 (.int .i64)]⟩⟩
noncomputable def R.f36Γ:List Con:= [R.f45con,R.f46con,R.f47con,R.s0con,R.f48con,R.f50con,R.f51con]
def R.f36ann:Ann:=(.seq .leaf (.seq .leaf (.seq .leaf (.seq (.eff 3 [] [0,0,0,4,12,28,0,64,192,448,1020,2044,4092,4092,8189,24573,57341,131071,262143,524287]) (.seq (.seq (.eff 4 [] [0,1,3,7,0,16,48,112,240,
 0,512,1536,3584,8191,16383,0]) (.block (.loop ⟨.normal, [(55, .hole (.int .i64))], [.cells [.hole (.sl (.int .i64)), .hole (.sl (.int .i64)), .own 4, .own 5, .hole (.int .i64)], .gone, .gone, .gone, .arr 3 (.int .i64), .arr 3 (.int
 .i64)]⟩ [⟨(.exit 0), [], [.cells [.hole (.sl (.int .i64)), .hole (.sl (.int .i64)), .own 4, .own 5, .hole (.int .i64)], .gone, .gone, .gone, .arr 3 (.int .i64), .arr 3 (.int .i64)]⟩] (.seq .leaf (.seq (.cond .leaf .leaf) (.seq (.block (.seq
 .leaf .leaf)) .leaf)))))) (.seq .leaf (.seq .leaf .leaf)))))))
noncomputable def R.f36F:List Int×Int→Option (List Int×List Int×Int×List Int×List Int):=fun(x:List Int×Int)=>Option.bind (R.f45F x.1) fun(v1:List Int)=>Option.bind (R.f46F (v1,x.2)) fun v2=>Option.bind (R.f47F
 (v1,v2)) fun(v3:List Int×List Int)=>Option.bind (R.s0F v3.1) fun(v4:List Int×List Int)=>Option.bind (R.f48F (v1,v4.2,v2)) fun(v5:List (List Int×Int×Int×Int))=>Option.bind (iter (fun(s6:Int×List Int×List
 Int×Int×List Int×List Int)=>if decide (s6.1<(v5.length:Int))=true then if(0:Int)≤s6.1∧s6.1<(v5.length:Int) then Option.bind (R.f50F (((List.getD v5 (Int.toNat s6.1) ([],(0:Int),(0:Int),(0:Int))).1,
 (List.getD v5 (Int.toNat s6.1) ([],(0:Int),(0:Int),(0:Int))).2.1,(List.getD v5 (Int.toNat s6.1) ([],(0:Int),(0:Int),(0:Int))).2.2.1,(List.getD v5 (Int.toNat s6.1) ([],(0:Int),(0:Int),(0:Int))).2.2.2),s6.2.1,
 s6.2.2.1,s6.2.2.2.1,s6.2.2.2.2.1,s6.2.2.2.2.2)) fun(v7:List Int×List Int×Int×List Int×List Int)=>some (Sum.inl (IntKind.i64.wrap (s6.1+(1:Int)),v7.1,v7.2.1,v7.2.2.1,v7.2.2.2.1,v7.2.2.2.2)) else none else some
 (Sum.inr (s6.2.1,s6.2.2.1,s6.2.2.2.1,s6.2.2.2.2.1,s6.2.2.2.2.2))) ((0:Int),x.1,v1,v2,v4.1,v3.2)) fun(v6:List Int×List Int×Int×List Int×List Int)=>Option.bind (R.f51F (v6.1,v6.2.1,v6.2.2.1,v6.2.2.2.1,v6.2.2.2.2))
 fun(v7:List Int×List Int×Int×List Int×List Int)=>some (v7.1,v7.2.1,v7.2.2.1,v7.2.2.2.1,v7.2.2.2.2)
theorem R.f36eq: ∀ x,zk R.C R.f36Γ R.f36sig R.f36ann Go.Proofs.Tryz.f36 x=R.f36F x:=by
 intro x
 kernel_rfl
noncomputable def R.f36con:Con:=⟨36,R.f36sig,R.f36F⟩
theorem R.f36ok:Con.Ok Go.Proofs.Tryz.prog R.C R.f36con:=
 zb (Γ:=R.f36Γ) (an:=R.f36ann) ⟨R.Cok,(List.forall_mem_cons.2 ⟨R.f45ok,(List.forall_mem_cons.2 ⟨R.f46ok,(List.forall_mem_cons.2 ⟨R.f47ok,(List.forall_mem_cons.2 ⟨R.s0ok,(List.forall_mem_cons.2 ⟨R.f48ok,(List.forall_mem_cons.2 ⟨R.f50ok,(List.forall_mem_cons.2 ⟨R.f51ok,(fun _ h=>nomatch h)⟩)⟩)⟩)⟩)⟩)⟩)⟩),R.mixed⟩ Go.Proofs.Tryz.func36 rfl rfl (fun x y h=>(R.f36eq x).trans h) (by decide)
def R.f25sig:Sig:=⟨⟨[.hole (.sl (.int .i64)), .hole (.int .i64)], []⟩,⟨[.hole (.sl (.int .i64)), .hole (.int .i64)], []⟩⟩
noncomputable def R.f25Γ:List Con:= [R.f36con]
def R.f25ann:Ann:=(.seq .leaf (.seq .leaf (.seq .leaf .leaf)))
noncomputable def R.f25F:List Int×Int→Option (List Int×Int):=fun(x:List Int×Int)=>Option.bind (R.f36F (x.1,x.2)) fun(v1:List Int×List Int×Int×List Int×List Int)=>some (v1.2.2.2.1,v1.2.2.1)
theorem R.f25eq: ∀ x,zk R.C R.f25Γ R.f25sig R.f25ann Go.Proofs.Tryz.f25 x=R.f25F x:=by
 intro x
 kernel_rfl
noncomputable def R.f25con:Con:=⟨25,R.f25sig,R.f25F⟩
theorem R.f25ok:Con.Ok Go.Proofs.Tryz.prog R.C R.f25con:=
 zb (Γ:=R.f25Γ) (an:=R.f25ann) ⟨R.Cok,(List.forall_mem_cons.2 ⟨R.f36ok,(fun _ h=>nomatch h)⟩),R.mixed⟩ Go.Proofs.Tryz.func25 rfl rfl (fun x y h=>(R.f25eq x).trans h) (by decide)
def R.f52sig:Sig:=⟨⟨[.hole (.int .i64)], []⟩,⟨[.hole (.int .i64)], []⟩⟩
noncomputable def R.f52Γ:List Con:= [R.f66con,R.f67con]
def R.f52ann:Ann:=(.seq .leaf (.seq .leaf .leaf))
noncomputable def R.f52F:Int→Option (Int):=fun(x:Int)=>Option.bind (R.f66F ()) fun(v1:List (Int×Int×Int))=>Option.bind (R.f67F (v1,x)) fun v2=>some v2
theorem R.f52eq: ∀ x,zk R.C R.f52Γ R.f52sig R.f52ann Go.Proofs.Tryz.f52 x=R.f52F x:=by
 intro x
 kernel_rfl
noncomputable def R.f52con:Con:=⟨52,R.f52sig,R.f52F⟩
theorem R.f52ok:Con.Ok Go.Proofs.Tryz.prog R.C R.f52con:=
 zb (Γ:=R.f52Γ) (an:=R.f52ann) ⟨R.Cok,(List.forall_mem_cons.2 ⟨R.f66ok,(List.forall_mem_cons.2 ⟨R.f67ok,(fun _ h=>nomatch h)⟩)⟩),R.mixed⟩ Go.Proofs.Tryz.func52 rfl rfl (fun x y h=>(R.f52eq x).trans h) (by decide)
def R.f37sig:Sig:=⟨⟨[.hole (.int .i64)], []⟩,⟨[.hole .bool], []⟩⟩
noncomputable def R.f37Γ:List Con:= [R.f52con,R.f53con,R.f54con]
def R.f37ann:Ann:=(.seq .leaf (.seq .leaf (.seq .leaf .leaf)))
noncomputable def R.f37F:Int→Option (Bool):=fun(x:Int)=>Option.bind (R.f52F x) fun v1=>if(v1==(22:Int))=true then some true else Option.bind (R.f53F v1) fun v2=>if v2=true then some true else Option.bind (R.f54F v1)
 fun v3=>some v3
theorem R.f37eq: ∀ x,zk R.C R.f37Γ R.f37sig R.f37ann Go.Proofs.Tryz.f37 x=R.f37F x:=by
 intro x
 kernel_rfl
noncomputable def R.f37con:Con:=⟨37,R.f37sig,R.f37F⟩
theorem R.f37ok:Con.Ok Go.Proofs.Tryz.prog R.C R.f37con:=
 zb (Γ:=R.f37Γ) (an:=R.f37ann) ⟨R.Cok,(List.forall_mem_cons.2 ⟨R.f52ok,(List.forall_mem_cons.2 ⟨R.f53ok,(List.forall_mem_cons.2 ⟨R.f54ok,(fun _ h=>nomatch h)⟩)⟩)⟩),R.mixed⟩ Go.Proofs.Tryz.func37 rfl rfl (fun x y h=>(R.f37eq x).trans h) (by decide)
def R.f56sig:Sig:=⟨⟨[.hole (.int .i64)], []⟩,⟨[.hole .bool], []⟩⟩
noncomputable def R.f56Γ:List Con:= [R.f53con,R.f54con]
def R.f56ann:Ann:=(.seq .leaf (.seq .leaf .leaf))
noncomputable def R.f56F:Int→Option (Bool):=fun(x:Int)=>if(x==(12:Int))=true then some true else if(x==(22:Int))=true then some true else Option.bind (R.f53F x) fun v1=>if v1=true then some true else Option.bind
 (R.f54F x) fun v2=>some v2
theorem R.f56eq: ∀ x,zk R.C R.f56Γ R.f56sig R.f56ann Go.Proofs.Tryz.f56 x=R.f56F x:=by
 intro x
 kernel_rfl
noncomputable def R.f56con:Con:=⟨56,R.f56sig,R.f56F⟩
theorem R.f56ok:Con.Ok Go.Proofs.Tryz.prog R.C R.f56con:=
 zb (Γ:=R.f56Γ) (an:=R.f56ann) ⟨R.Cok,(List.forall_mem_cons.2 ⟨R.f53ok,(List.forall_mem_cons.2 ⟨R.f54ok,(fun _ h=>nomatch h)⟩)⟩),R.mixed⟩ Go.Proofs.Tryz.func56 rfl rfl (fun x y h=>(R.f56eq x).trans h) (by decide)
def R.f40sig:Sig:=⟨⟨[.hole (.sl (.int .i64)), .hole (.sl (.int .i64)), .hole (.int .i64), .hole (.st (.pair (.int .i64) (.int .i64)))], []⟩,⟨[.hole (.sl (.int .i64))], []⟩⟩
noncomputable def R.f40Γ:List Con:= [R.f49con,R.f52con,R.f56con]
def R.f40ann:Ann:=(.seq .leaf (.seq (.seq (.join [⟨.normal, [(36, .hole .bool)], [.cells [.hole (.int .i64), .hole (.int .i64)]]⟩] .leaf) (.cond (.seq .leaf .leaf) .leaf)) (.seq .leaf (.seq .leaf (.seq (.seq .leaf (.block (.loop
 ⟨.normal, [(10, .hole .bool),(11, .hole (.int .i64))], [.cells [.hole (.int .i64), .hole (.int .i64)], .arr 3 (.int .i64)]⟩ [⟨(.exit 0), [], [.gone, .arr 3 (.int .i64)]⟩] (.seq (.seq .leaf (.cond .leaf .leaf)) (.seq (.block (.seq (.join
 [⟨.normal, [(10, .hole .bool)], [.cells [.hole (.int .i64), .hole (.int .i64)], .arr 3 (.int .i64)]⟩] (.seq .leaf (.block (.seq (.join [⟨.normal, [(59, .hole .bool)], [.cells [.hole (.int .i64), .hole (.int .i64)], .arr 3 (.int .i64)]⟩]
 .leaf) (.cond .leaf (.seq .leaf (.cond .leaf .leaf))))))) (.seq .leaf (.cond .leaf .leaf)))) .leaf))))) (.seq .leaf .leaf))))))
noncomputable def R.f40F:List Int×List Int×Int×Int×Int→Option (List Int):=fun(x:List Int×List Int×Int×Int×Int)=>Option.bind (if((x.1.length:Int)!=(x.2.1.length:Int))=true then some (true,x.2.2.2.1,
 x.2.2.2.2) else if decide (x.2.2.2.1<(0:Int))=true then some (true,x.2.2.2.1,x.2.2.2.2) else if decide (x.2.2.2.1 > x.2.2.2.2)=true then some (true,x.2.2.2.1,x.2.2.2.2) else some (decide (x.2.2.2.2 > (x.1.length:Int)),
 x.2.2.2.1,x.2.2.2.2)) fun v1=>if v1.1=true then some [] else if(0:Int)≤v1.2.2∧v1.2.2≤(x.2.1.length:Int) then if(0:Int)≤v1.2.1∧v1.2.1≤v1.2.2 then Option.bind (R.f49F (List.drop (Int.toNat v1.2.1) (List.take
 (Int.toNat v1.2.2) x.2.1))) fun(v2:List Int)=>Option.bind (iter (fun(s3:Bool×Int×Int×Int×List Int)=>if decide (s3.2.1≥(0:Int))=true then Option.bind (if(0:Int)≤IntKind.i64.wrap (s3.2.2.1+s3.2.1)∧
 IntKind.i64.wrap (s3.2.2.1+s3.2.1)<(x.1.length:Int) then Option.bind (R.f52F (List.getD x.1 (Int.toNat (IntKind.i64.wrap (s3.2.2.1+s3.2.1))) (0:Int))) fun v4=>Option.bind (if(v4==(11:Int))=true then some (true,s3.2.2.1,
 s3.2.2.2.1,s3.2.2.2.2) else some (v4==(10:Int),s3.2.2.1,s3.2.2.2.1,s3.2.2.2.2)) fun(v5:Bool×Int×Int×List Int)=>if v5.1=true then some (true,v5.2.1,v5.2.2.1,v5.2.2.2) else Option.bind (R.f56F v4) fun v6=>if(!v6)=
 true then some (false,v5.2.1,v5.2.2.1,v5.2.2.2) else some (s3.1,v5.2.1,v5.2.2.1,v5.2.2.2) else none) fun(v4:Bool×Int×Int×List Int)=>if v4.1=true then if(0:Int)≤s3.2.1∧s3.2.1<(v4.2.2.2.length:Int) then some
 (Sum.inl (v4.1,IntKind.i64.wrap (s3.2.1 - (1:Int)),v4.2.1,v4.2.2.1,List.set v4.2.2.2 (Int.toNat s3.2.1) x.2.2.1)) else none else some (Sum.inl (v4.1,IntKind.i64.wrap (s3.2.1 - (1:Int)),v4.2.1,v4.2.2.1,v4.2.2.2)) else some
 (Sum.inr s3.2.2.2.2)) (true,IntKind.i64.wrap ((v2.length:Int) - (1:Int)),v1.2.1,v1.2.2,v2)) fun(v3:List Int)=>some v3 else none else none
theorem R.f40eq: ∀ x,zk R.C R.f40Γ R.f40sig R.f40ann Go.Proofs.Tryz.f40 x=R.f40F x:=by
 intro x
 kernel_rfl
noncomputable def R.f40con:Con:=⟨40,R.f40sig,R.f40F⟩
theorem R.f40ok:Con.Ok Go.Proofs.Tryz.prog R.C R.f40con:=
 zb (Γ:=R.f40Γ) (an:=R.f40ann) ⟨R.Cok,(List.forall_mem_cons.2 ⟨R.f49ok,(List.forall_mem_cons.2 ⟨R.f52ok,(List.forall_mem_cons.2 ⟨R.f56ok,(fun _ h=>nomatch h)⟩)⟩)⟩),R.mixed⟩ Go.Proofs.Tryz.func40 rfl rfl (fun x y h=>(R.f40eq x).trans h) (by decide)
def R.f81sig:Sig:=⟨⟨[.own 0], [.arr 3 (.int .i64)]⟩,⟨[], [.arr 3 (.int .i64)]⟩⟩
noncomputable def R.f81Γ:List Con:= []
def R.f81ann:Ann:=(.seq .leaf (.block (.loop ⟨.normal, [(2, .hole (.int .i64)),(3, .hole (.int .i64))], [.arr 3 (.int .i64)]⟩ [⟨(.exit 0), [], [.arr 3 (.int .i64)]⟩] (.seq (.seq .leaf (.cond .leaf .leaf)) (.seq (.block (.eff 1 [] [0,
 0,0,0,0,0,48,112,0,0,768,1792,4083,8179,16383,32767])) .leaf)))))
noncomputable def R.f81F:List Int→Option (List Int):=fun(x:List Int)=>Option.bind (iter (fun(s1:Int×Int×List Int)=>if decide (s1.1<s1.2.1)=true then if(0:Int)≤s1.2.1∧s1.2.1<(s1.2.2.length:Int) then if(0:
 Int)≤s1.1∧s1.1<(s1.2.2.length:Int) then if(0:Int)≤s1.1∧s1.1<(s1.2.2.length:Int) then if(0:Int)≤s1.2.1∧s1.2.1<(↑(List.length (List.set s1.2.2 (Int.toNat s1.1) (List.getD s1.2.2 (Int.toNat s1.2.1) (0:Int)))):
 Int) then some (Sum.inl (IntKind.i64.wrap (s1.1+(1:Int)),IntKind.i64.wrap (s1.2.1 - (1:Int)),List.set (List.set s1.2.2 (Int.toNat s1.1) (List.getD s1.2.2 (Int.toNat s1.2.1) (0:Int))) (Int.toNat s1.2.1) (List.getD s1.2.2 (Int.toNat
 s1.1) (0:Int)))) else none else none else none else none else some (Sum.inr s1.2.2)) ((0:Int),IntKind.i64.wrap ((x.length:Int) - (1:Int)),x)) fun(v1:List Int)=>some v1
theorem R.f81eq: ∀ x,zk R.C R.f81Γ R.f81sig R.f81ann Go.Proofs.Tryz.f81 x=R.f81F x:=by
 intro x
 kernel_rfl
noncomputable def R.f81con:Con:=⟨81,R.f81sig,R.f81F⟩
theorem R.f81ok:Con.Ok Go.Proofs.Tryz.prog R.C R.f81con:=
 zb (Γ:=R.f81Γ) (an:=R.f81ann) ⟨R.Cok,(fun _ h=>nomatch h),R.mixed⟩ Go.Proofs.Tryz.func81 rfl rfl (fun x y h=>(R.f81eq x).trans h) (by decide)
def R.f55sig:Sig:=⟨⟨[.hole (.sl (.int .i64)), .hole (.sl (.int .i64)), .hole (.int .i64)], []⟩,⟨[.own 0], [.arr 3 (.int .i64)]⟩⟩
noncomputable def R.f55Γ (r55:List Int×List Int×Int→Option (List Int)):List Con:= [⟨55,R.f55sig,r55⟩,R.f81con]
def R.f55ann:Ann:=(.seq .leaf (.seq .leaf (.seq (.seq .leaf (.block (.loop ⟨.normal, [(7, .own 0),(8, .hole (.int .i64))], [.arr 3 (.int .i64)]⟩ [⟨(.exit 0), [(7, .own 0)], [.arr 3 (.int .i64)]⟩] (.seq (.seq .leaf (.cond .leaf .leaf))
 (.block (.seq (.seq .leaf (.cond (.seq .leaf (.seq .leaf .leaf)) .leaf)) (.seq .leaf (.seq (.block (.loop ⟨.normal, [(9, .hole (.int .i64))], [.arr 3 (.int .i64)]⟩ [⟨(.exit 2), [(9, .hole (.int .i64))], [.arr 3 (.int .i64)]⟩] (.seq (.seq
 (.join [⟨.normal, [(48, .hole .bool)], [.arr 3 (.int .i64)]⟩] .leaf) (.cond .leaf .leaf)) (.block .leaf)))) (.seq .leaf (.seq .leaf (.seq .leaf .leaf))))))))))) (.seq .leaf .leaf))))
noncomputable def R.f55S (r55:List Int×List Int×Int→Option (List Int)):List Int×List Int×Int→Option (List Int):=fun(x:List Int×List Int×Int)=>Option.bind (iter (fun(s1:Int×List Int)=>if decide (s1.1<
 (x.2.1.length:Int))=true then if(0:Int)≤s1.1∧s1.1<(x.2.1.length:Int) then if(0:Int)≤List.getD x.2.1 (Int.toNat s1.1) (0:Int)∧List.getD x.2.1 (Int.toNat s1.1) (0:Int)<(x.1.length:Int) then if decide (List.getD
 x.1 (Int.toNat (List.getD x.2.1 (Int.toNat s1.1) (0:Int))) (0:Int)≤x.2.2)=true then if(0:Int)≤s1.1∧s1.1<(x.2.1.length:Int) then if zi (List.length s1.2+(1:Nat)) (8:Nat) then some (Sum.inl (IntKind.i64.wrap (s1.1
 +(1:Int)),s1.2++ [List.getD x.2.1 (Int.toNat s1.1) (0:Int)])) else none else none else Option.bind (iter (fun(s2:Int×List Int)=>Option.bind (if decide (s2.1<(x.2.1.length:Int))=true then if(0:Int)≤s2.1∧s2.1<
 (x.2.1.length:Int) then if(0:Int)≤List.getD x.2.1 (Int.toNat s2.1) (0:Int)∧List.getD x.2.1 (Int.toNat s2.1) (0:Int)<(x.1.length:Int) then some (decide (List.getD x.1 (Int.toNat (List.getD x.2.1 (Int.toNat s2.1) (0:Int)))
 (0:Int) > x.2.2),s2.2) else none else none else some (false,s2.2)) fun(v3:Bool×List Int)=>if v3.1=true then some (Sum.inl (IntKind.i64.wrap (s2.1+(1:Int)),v3.2)) else some (Sum.inr (s2.1,v3.2))) (s1.1,s1.2)) fun(v2:
 Int×List Int)=>if(0:Int)≤v2.1∧v2.1≤(x.2.1.length:Int) then if(0:Int)≤s1.1∧s1.1≤v2.1 then Option.bind (r55 (x.1,List.drop (Int.toNat s1.1) (List.take (Int.toNat v2.1) x.2.1),IntKind.i64.wrap (x.2.2+(1:Int))))
 fun(v3:List Int)=>Option.bind (R.f81F v3) fun(v4:List Int)=>if zi (List.length v2.2+List.length v4) (8:Nat) then some (Sum.inl (v2.1,v2.2++v4)) else none else none else none else none else none else some (Sum.inr s1.2))
 ((0:Int), [])) fun(v1:List Int)=>some v1
theorem R.f55eq (r55:List Int×List Int×Int→Option (List Int)): ∀ x,zk R.C (R.f55Γ r55) R.f55sig R.f55ann Go.Proofs.Tryz.f55 x=R.f55S r55 x:=by
 intro x
 kernel_rfl
noncomputable def R.f55N:Nat→(List Int×List Int×Int→Option (List Int))
 |0=>fun _=>none
 |n+1=>R.f55S ((R.f55N n))
noncomputable def R.f55F:List Int×List Int×Int→Option (List Int):=(R.f55N R.fuel)
noncomputable def R.f55con:Con:=⟨55,R.f55sig,R.f55F⟩
theorem R.f55Nok: ∀ n,Con.Ok Go.Proofs.Tryz.prog R.C ⟨55,R.f55sig,(R.f55N n)⟩
 |0=>zb (Γ:= []) (an:= .leaf) ⟨R.Cok,(fun _ h=>nomatch h),R.mixed⟩ Go.Proofs.Tryz.func55 rfl rfl (fun x y h=>nomatch h) (by decide)
 |n+1=>have h:=R.f55Nok n
  zb (Γ:=R.f55Γ ((R.f55N n))) (an:=R.f55ann) ⟨R.Cok,(List.forall_mem_cons.2 ⟨h,(List.forall_mem_cons.2 ⟨R.f81ok,(fun _ h=>nomatch h)⟩)⟩),R.mixed⟩ Go.Proofs.Tryz.func55 rfl rfl (fun x y h=>(R.f55eq _ x).trans h) (by decide)
theorem R.f55ok:Con.Ok Go.Proofs.Tryz.prog R.C R.f55con:=(R.f55Nok R.fuel)
end Go.Sx
