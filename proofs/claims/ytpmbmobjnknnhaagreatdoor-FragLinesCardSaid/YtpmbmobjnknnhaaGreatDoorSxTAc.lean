import Derived.Test.YtpmbmobjnknnhaaGreatDoorSxTAb
set_option maxRecDepth 100000
set_option maxHeartbeats 0
set_option linter.unusedVariables false
set_option linter.unusedSimpArgs false
namespace Go.Sx
open Go.Proofs
def R.f39sig:Sig:=⟨⟨[.hole (.sl (.int .i64))], []⟩,⟨[.hole (.sl (.int .i64))], []⟩⟩
noncomputable def R.f39Γ:List Con:= [R.f55con]
def R.f39ann:Ann:=(.seq .leaf (.seq (.join [⟨.normal, [(3, .own 0),(4, .own 1)], [.arr 3 (.int .i64), .arr 3 (.int .i64)]⟩] (.eff2 2 5 2 [0,1,3,0,8,31,7,127] [0,1,0,4,12,31,63,127] [0,1,3,4,5,2,6,7] [0,1,5,2,3,
 4,6,7])) (.seq (.seq .leaf (.block (.loop ⟨.normal, [(15, .hole (.int .i64))], [.arr 3 (.int .i64), .arr 3 (.int .i64)]⟩ [⟨(.exit 0), [], [.arr 3 (.int .i64), .arr 3 (.int .i64)]⟩] (.seq .leaf (.seq (.cond .leaf .leaf) (.seq (.block (.seq
 .leaf .leaf)) .leaf)))))) (.seq .leaf .leaf))))
noncomputable def R.f39F:List Int→Option (List Int):=fun(x:List Int)=>Option.bind (agree (if(0:Int)≤(x.length:Int)∧(x.length:Int)≤(x.length:Int)∧zi (Int.toNat (x.length:Int)) (8:Nat) then if(0:Int)≤
 (x.length:Int)∧(x.length:Int)≤(x.length:Int)∧zi (Int.toNat (x.length:Int)) (8:Nat) then some (List.replicate (Int.toNat (x.length:Int)) (0:Int),List.replicate (Int.toNat (x.length:Int)) (0:Int)) else none else
 none) (if(0:Int)≤(x.length:Int)∧(x.length:Int)≤(x.length:Int)∧zi (Int.toNat (x.length:Int)) (8:Nat) then if(0:Int)≤(x.length:Int)∧(x.length:Int)≤(x.length:Int)∧zi (Int.toNat (x.length:Int)) (8
 :Nat) then some (List.replicate (Int.toNat (x.length:Int)) (0:Int),List.replicate (Int.toNat (x.length:Int)) (0:Int)) else none else none)) fun(v1:List Int×List Int)=>Option.bind (iter (fun(s2:Int×List Int×List Int)
 =>if decide (s2.1<(x.length:Int))=true then if(0:Int)≤s2.1∧s2.1<(x.length:Int) then if(0:Int)≤s2.1∧s2.1<(s2.2.1.length:Int) then if(0:Int)≤s2.1∧s2.1<(s2.2.2.length:Int) then some (Sum.inl
 (IntKind.i64.wrap (s2.1+(1:Int)),List.set s2.2.1 (Int.toNat s2.1) s2.1,List.set s2.2.2 (Int.toNat s2.1) (zen (127:Int) (zif (0:Int) (List.getD x (Int.toNat s2.1) (0:Int)))))) else none else none else none else some (Sum.inr
 (s2.2.1,s2.2.2))) ((0:Int),v1.1,v1.2)) fun(v2:List Int×List Int)=>Option.bind (R.f55F (v2.2,v2.1,(0:Int))) fun(v3:List Int)=>some v3
theorem R.f39eq: ∀ x,zk R.C R.f39Γ R.f39sig R.f39ann Go.Proofs.Tryz.f39 x=R.f39F x:=by
 intro x
 kernel_rfl
noncomputable def R.f39con:Con:=⟨39,R.f39sig,R.f39F⟩
theorem R.f39ok:Con.Ok Go.Proofs.Tryz.prog R.C R.f39con:=
 zb (Γ:=R.f39Γ) (an:=R.f39ann) ⟨R.Cok,(List.forall_mem_cons.2 ⟨R.f55ok,(fun _ h=>nomatch h)⟩),R.mixed⟩ Go.Proofs.Tryz.func39 rfl rfl (fun x y h=>(R.f39eq x).trans h) (by decide)
def R.f38sig:Sig:=⟨⟨[.hole (.sl (.int .i64)), .hole (.sl .bool)], []⟩,⟨[.hole (.sl (.int .i64))], []⟩⟩
noncomputable def R.f38Γ:List Con:= []
def R.f38ann:Ann:=(.seq .leaf (.seq .leaf (.seq (.seq .leaf (.block (.loop ⟨.normal, [(5, .own 0),(10, .hole (.int .i64))], [.arr 3 (.int .i64)]⟩ [⟨(.exit 0), [(5, .own 0)], [.arr 3 (.int .i64)]⟩] (.seq .leaf (.seq (.cond .leaf .leaf)
 (.seq (.block (.seq .leaf (.seq (.join [⟨.normal, [(27, .hole .bool)], [.arr 3 (.int .i64)]⟩] .leaf) (.cond .leaf .leaf)))) .leaf)))))) (.seq .leaf .leaf))))
noncomputable def R.f38F:List Int×List Bool→Option (List Int):=fun(x:List Int×List Bool)=>Option.bind (iter (fun(s1:Int×List Int)=>if decide (s1.1<(x.1.length:Int))=true then if(0:Int)≤s1.1∧s1.1<
 (x.1.length:Int) then Option.bind (if decide (List.getD x.1 (Int.toNat s1.1) (0:Int)≥(0:Int))=true then if decide (List.getD x.1 (Int.toNat s1.1) (0:Int)<(x.2.length:Int))=true then if(0:Int)≤List.getD x.1 (Int.toNat
 s1.1) (0:Int)∧List.getD x.1 (Int.toNat s1.1) (0:Int)<(x.2.length:Int) then some (List.getD x.2 (Int.toNat (List.getD x.1 (Int.toNat s1.1) (0:Int))) false,s1.2) else none else some (false,s1.2) else some (false,s1.2)) fun(v2
 :Bool×List Int)=>if v2.1=true then if zi (List.length v2.2+(1:Nat)) (8:Nat) then some (Sum.inl (IntKind.i64.wrap (s1.1+(1:Int)),v2.2++ [List.getD x.1 (Int.toNat s1.1) (0:Int)])) else none else some (Sum.inl
 (IntKind.i64.wrap (s1.1+(1:Int)),v2.2)) else none else some (Sum.inr s1.2)) ((0:Int), [])) fun(v1:List Int)=>some v1
theorem R.f38eq: ∀ x,zk R.C R.f38Γ R.f38sig R.f38ann Go.Proofs.Tryz.f38 x=R.f38F x:=by
 intro x
 kernel_rfl
noncomputable def R.f38con:Con:=⟨38,R.f38sig,R.f38F⟩
theorem R.f38ok:Con.Ok Go.Proofs.Tryz.prog R.C R.f38con:=
 zb (Γ:=R.f38Γ) (an:=R.f38ann) ⟨R.Cok,(fun _ h=>nomatch h),R.mixed⟩ Go.Proofs.Tryz.func38 rfl rfl (fun x y h=>(R.f38eq x).trans h) (by decide)
def R.f26sig:Sig:=⟨⟨[.hole (.sl (.int .i64)), .hole (.sl (.int .i64)), .hole (.int .i64), .hole (.st (.pair (.int .i64) (.int .i64)))], []⟩,⟨[.hole (.st (.pair (.int .i64) (.pair (.int .i64) (.sl (.int .i64)))))], []⟩⟩
noncomputable def R.f26Γ:List Con:= [R.f37con,R.f40con,R.f39con,R.f38con]
def R.f26ann:Ann:=(.seq .leaf (.seq .leaf (.seq .leaf (.seq (.seq .leaf (.block (.loop ⟨.normal, [(27, .hole (.int .i64))], [.cells [.hole (.int .i64), .hole (.int .i64)], .cells [.hole (.int .i64), .hole (.int .i64), .own 4], .cells
 [.hole (.int .i64), .hole (.int .i64), .own 5], .arr 4 .bool, .arr 3 (.int .i64), .arr 3 (.int .i64)]⟩ [⟨(.exit 0), [], [.cells [.hole (.int .i64), .hole (.int .i64)], .cells [.hole (.int .i64), .hole (.int .i64), .own 4], .cells [.hole
 (.int .i64), .hole (.int .i64), .own 5], .arr 4 .bool, .arr 3 (.int .i64), .arr 3 (.int .i64)]⟩] (.seq .leaf (.seq (.cond .leaf .leaf) (.seq (.block (.seq .leaf .leaf)) .leaf)))))) (.seq (.seq .leaf (.block (.loop ⟨.normal, [(52, .hole
 (.int .i64))], [.cells [.hole (.int .i64), .hole (.int .i64)], .cells [.hole (.int .i64), .hole (.int .i64), .own 4], .cells [.hole (.int .i64), .hole (.int .i64), .own 6], .gone, .arr 3 (.int .i64), .gone, .arr 3 (.int .i64)]⟩ [⟨(.exit 2),
 [], [.gone, .cells [.hole (.int .i64), .hole (.int .i64), .own 4], .cells [.hole (.int .i64), .hole (.int .i64), .own 6], .gone, .arr 3 (.int .i64), .gone, .arr 3 (.int .i64)]⟩] (.seq .leaf (.seq (.cond .leaf .leaf) (.seq (.block (.seq
 .leaf .leaf)) .leaf)))))) (.seq .leaf .leaf))))))
noncomputable def R.f26F:List Int×List Int×Int×Int×Int→Option (Int×Int×List Int):=fun(x:List Int×List Int×Int×Int×Int)=>if(0:Int)≤IntKind.i64.wrap (x.2.2.2.2 - x.2.2.2.1)∧IntKind.i64.wrap (x.2.2.2.2 -
 x.2.2.2.1)≤IntKind.i64.wrap (x.2.2.2.2 - x.2.2.2.1)∧zi (Int.toNat (IntKind.i64.wrap (x.2.2.2.2 - x.2.2.2.1))) (1:Nat) then Option.bind (iter (fun(s1:Int×Int×Int×Int×Int×Int×Int×List Bool×List Int×List Int)=>
 if decide (s1.1<(↑(List.length (List.replicate (Int.toNat (IntKind.i64.wrap (x.2.2.2.2 - x.2.2.2.1))) false)):Int))=true then if(0:Int)≤IntKind.i64.wrap (s1.2.1+s1.1)∧IntKind.i64.wrap (s1.2.1+s1.1)<(x.1.length:Int) then
 Option.bind (R.f37F (List.getD x.1 (Int.toNat (IntKind.i64.wrap (s1.2.1+s1.1))) (0:Int))) fun v2=>if(0:Int)≤s1.1∧s1.1<(s1.2.2.2.2.2.2.2.1.length:Int) then some (Sum.inl (IntKind.i64.wrap (s1.1+(1:Int)),s1.2.1,
 s1.2.2.1,s1.2.2.2.1,s1.2.2.2.2.1,s1.2.2.2.2.2.1,s1.2.2.2.2.2.2.1,List.set s1.2.2.2.2.2.2.2.1 (Int.toNat s1.1) !v2,s1.2.2.2.2.2.2.2.2.1,s1.2.2.2.2.2.2.2.2.2)) else none else none else some (Sum.inr (s1.2.1,s1.2.2.1,s1.2.2.2.1,
 s1.2.2.2.2.1,s1.2.2.2.2.2.1,s1.2.2.2.2.2.2.1,s1.2.2.2.2.2.2.2.1,s1.2.2.2.2.2.2.2.2.1,s1.2.2.2.2.2.2.2.2.2))) ((0:Int),x.2.2.2.1,x.2.2.2.2,(0:Int),(0:Int),x.2.2.2.1,x.2.2.2.2,List.replicate (Int.toNat (IntKind.i64.wrap
 (x.2.2.2.2 - x.2.2.2.1))) false, [], [])) fun(v1:Int×Int×Int×Int×Int×Int×List Bool×List Int×List Int)=>Option.bind (R.f40F (x.1,x.2.1,x.2.2.1,v1.1,v1.2.1)) fun(v2:List Int)=>Option.bind (R.f39F v2) fun(v3:
 List Int)=>Option.bind (R.f38F (v3,v1.2.2.2.2.2.2.1)) fun(v4:List Int)=>Option.bind (iter (fun(s5:Int×Int×Int×Int×Int×Int×Int×List Int×List Int)=>if decide (s5.1<(v4.length:Int))=true then if(0:Int)≤
 s5.1∧s5.1<(v4.length:Int) then if zi (List.length s5.2.2.2.2.2.2.2.2+(1:Nat)) (8:Nat) then some (Sum.inl (IntKind.i64.wrap (s5.1+(1:Int)),s5.2.1,s5.2.2.1,s5.2.2.2.1,s5.2.2.2.2.1,s5.2.2.2.2.2.1,s5.2.2.2.2.2.2.1,
 s5.2.2.2.2.2.2.2.1,s5.2.2.2.2.2.2.2.2++ [IntKind.i64.wrap (s5.2.1+List.getD v4 (Int.toNat s5.1) (0:Int))])) else none else none else some (Sum.inr (s5.2.2.2.1,s5.2.2.2.2.1,s5.2.2.2.2.2.1,s5.2.2.2.2.2.2.1,s5.2.2.2.2.2.2.2.1,
 s5.2.2.2.2.2.2.2.2))) ((0:Int),v1.1,v1.2.1,v1.2.2.1,v1.2.2.2.1,v1.2.2.2.2.1,v1.2.2.2.2.2.1,v1.2.2.2.2.2.2.2.1,v1.2.2.2.2.2.2.2.2)) fun(v5:Int×Int×Int×Int×List Int×List Int)=>some (v5.2.2.1,v5.2.2.2.1,v5.2.2.2.2.2)
 else none
theorem R.f26eq: ∀ x,zk R.C R.f26Γ R.f26sig R.f26ann Go.Proofs.Tryz.f26 x=R.f26F x:=by
 intro x
 kernel_rfl
noncomputable def R.f26con:Con:=⟨26,R.f26sig,R.f26F⟩
theorem R.f26ok:Con.Ok Go.Proofs.Tryz.prog R.C R.f26con:=
 zb (Γ:=R.f26Γ) (an:=R.f26ann) ⟨R.Cok,(List.forall_mem_cons.2 ⟨R.f37ok,(List.forall_mem_cons.2 ⟨R.f40ok,(List.forall_mem_cons.2 ⟨R.f39ok,(List.forall_mem_cons.2 ⟨R.f38ok,(fun _ h=>nomatch h)⟩)⟩)⟩)⟩),R.mixed⟩ Go.Proofs.Tryz.func26 rfl rfl (fun x y h=>(R.f26eq x).trans h) (by decide)
def R.f10sig:Sig:=⟨⟨[.hole (.sl (.int .i64)), .hole (.int .i64), .hole (.sl (.int .i64))], []⟩,⟨[.hole (.sl (.st (.pair (.int .i64) (.pair (.int .i64) (.sl (.int .i64)))))), .hole (.int .i64)], []⟩⟩
noncomputable def R.f10Γ:List Con:= [R.f24con,R.f25con,R.f26con]
def R.f10ann:Ann:=(.seq .leaf (.seq (.seq .leaf (.cond (.seq .leaf .leaf) .leaf)) (.seq .leaf (.seq (.seq .leaf (.cond (.seq .leaf .leaf) .leaf)) (.seq .leaf (.seq .leaf (.seq (.seq .leaf (.block (.loop ⟨.normal, [(12, .own 0),(36,
 .hole (.int .i64))], [.arr 46 (.st (.pair (.int .i64) (.pair (.int .i64) (.sl (.int .i64)))))]⟩ [⟨(.exit 0), [(12, .own 0)], [.arr 46 (.st (.pair (.int .i64) (.pair (.int .i64) (.sl (.int .i64)))))]⟩] (.seq .leaf (.seq (.cond .leaf .leaf)
 (.seq (.block (.seq .leaf .leaf)) .leaf)))))) (.seq .leaf .leaf))))))))
noncomputable def R.f10F:List Int×Int×List Int→Option (List (Int×Int×List Int)×Int):=fun(x:List Int×Int×List Int)=>if decide ((x.1.length:Int) > (4000:Int))=true then some ([],(2:Int)) else Option.bind
 (R.f24F (x.2.2,(x.1.length:Int))) fun(v1:List (Int×Int)×Int)=>if(v1.2 !=(0:Int))=true then some ([],v1.2) else Option.bind (R.f25F (x.1,x.2.1)) fun(v2:List Int×Int)=>Option.bind (iter (fun(s3:Int×List (Int×
 Int×List Int))=>if decide (s3.1<(v1.1.length:Int))=true then if(0:Int)≤s3.1∧s3.1<(v1.1.length:Int) then Option.bind (R.f26F (x.1,v2.1,v2.2,(List.getD v1.1 (Int.toNat s3.1) ((0:Int),(0:Int))).1,(List.getD v1.1
 (Int.toNat s3.1) ((0:Int),(0:Int))).2)) fun(v4:Int×Int×List Int)=>if zi (List.length s3.2+(1:Nat)) (40:Nat) then some (Sum.inl (IntKind.i64.wrap (s3.1+(1:Int)),s3.2++ [v4])) else none else none else some
 (Sum.inr s3.2)) ((0:Int), [])) fun(v3:List (Int×Int×List Int))=>some (v3,(0:Int))
theorem R.f10eq: ∀ x,zk R.C R.f10Γ R.f10sig R.f10ann Go.Proofs.Tryz.f10 x=R.f10F x:=by
 intro x
 kernel_rfl
noncomputable def R.f10con:Con:=⟨10,R.f10sig,R.f10F⟩
theorem R.f10ok:Con.Ok Go.Proofs.Tryz.prog R.C R.f10con:=
 zb (Γ:=R.f10Γ) (an:=R.f10ann) ⟨R.Cok,(List.forall_mem_cons.2 ⟨R.f24ok,(List.forall_mem_cons.2 ⟨R.f25ok,(List.forall_mem_cons.2 ⟨R.f26ok,(fun _ h=>nomatch h)⟩)⟩)⟩),R.mixed⟩ Go.Proofs.Tryz.func10 rfl rfl (fun x y h=>(R.f10eq x).trans h) (by decide)
def R.f31sig:Sig:=⟨⟨[.hole (.int .i64), .ptr 0 0], [.cells [.hole (.int .i64), .hole (.int .i64)]]⟩,⟨[.hole .bool], [.cells [.hole (.int .i64), .hole (.int .i64)]]⟩⟩
noncomputable def R.f31Γ:List Con:= []
def R.f31ann:Ann:=(.seq .leaf (.seq .leaf .leaf))
noncomputable def R.f31F:Int×Int×Int→Option (Bool×Int×Int):=fun(x:Int×Int×Int)=>if decide (x.1≥x.2.1)=true then some (decide (x.1<x.2.2),x.2.1,x.2.2) else some (false,x.2.1,x.2.2)
theorem R.f31eq: ∀ x,zk R.C R.f31Γ R.f31sig R.f31ann Go.Proofs.Tryz.f31 x=R.f31F x:=by
 intro x
 kernel_rfl
noncomputable def R.f31con:Con:=⟨31,R.f31sig,R.f31F⟩
theorem R.f31ok:Con.Ok Go.Proofs.Tryz.prog R.C R.f31con:=
 zb (Γ:=R.f31Γ) (an:=R.f31ann) ⟨R.Cok,(fun _ h=>nomatch h),R.mixed⟩ Go.Proofs.Tryz.func31 rfl rfl (fun x y h=>(R.f31eq x).trans h) (by decide)
def R.f14sig:Sig:=⟨⟨[.hole (.sl (.st (.pair (.int .i64) (.pair (.int .i64) (.sl (.int .i64)))))), .hole (.st (.pair (.int .i64) (.int .i64)))], []⟩,⟨[.hole (.sl (.st (.pair (.int .i64) (.pair (.int .i64) (.int .i64)))))], []⟩⟩
noncomputable def R.f14Γ:List Con:= [R.f31con]
def R.f14ann:Ann:=(.seq .leaf (.seq .leaf (.seq .leaf (.seq (.seq .leaf (.block (.loop ⟨.normal, [(5, .own 1),(14, .hole (.int .i64))], [.cells [.hole (.int .i64), .hole (.int .i64)], .arr 44 (.st (.pair (.int .i64) (.pair (.int .i64)
 (.int .i64))))]⟩ [⟨(.exit 0), [(5, .own 1)], [.gone, .arr 44 (.st (.pair (.int .i64) (.pair (.int .i64) (.int .i64))))]⟩] (.seq .leaf (.seq (.cond .leaf .leaf) (.seq (.block (.seq .leaf (.seq .leaf (.block (.loop ⟨.normal, [(5, .own 3),(9,
 .hole (.int .i64))], [.cells [.hole (.int .i64), .hole (.int .i64)], .gone, .cells [.hole (.int .i64), .hole (.int .i64), .hole (.sl (.int .i64))], .arr 44 (.st (.pair (.int .i64) (.pair (.int .i64) (.int .i64))))]⟩ [⟨(.exit 2), [(5, .own
 3)], [.cells [.hole (.int .i64), .hole (.int .i64)], .gone, .gone, .arr 44 (.st (.pair (.int .i64) (.pair (.int .i64) (.int .i64))))]⟩] (.seq (.seq .leaf (.cond .leaf .leaf)) (.seq (.block (.seq .leaf (.seq (.block (.loop ⟨.normal, [(10,
 .hole (.int .i64))], [.cells [.hole (.int .i64), .hole (.int .i64)], .gone, .cells [.hole (.int .i64), .hole (.int .i64), .hole (.sl (.int .i64))], .arr 44 (.st (.pair (.int .i64) (.pair (.int .i64) (.int .i64))))]⟩ [⟨(.exit 4), [(10, .hole
 (.int .i64))], [.cells [.hole (.int .i64), .hole (.int .i64)], .gone, .cells [.hole (.int .i64), .hole (.int .i64), .hole (.sl (.int .i64))], .arr 44 (.st (.pair (.int .i64) (.pair (.int .i64) (.int .i64))))]⟩] (.seq (.seq (.join [⟨.normal,
 [(40, .hole .bool)], [.cells [.hole (.int .i64), .hole (.int .i64)], .gone, .cells [.hole (.int .i64), .hole (.int .i64), .hole (.sl (.int .i64))], .arr 44 (.st (.pair (.int .i64) (.pair (.int .i64) (.int .i64))))]⟩] .leaf) (.cond .leaf
 .leaf)) (.block .leaf)))) (.seq .leaf (.cond (.seq .leaf .leaf) .leaf))))) .leaf))))))) .leaf)))))) (.seq .leaf .leaf)))))
noncomputable def R.f14F:List (Int×Int×List Int)×Int×Int→Option (List (Int×Int×Int)):=fun(x:List (Int×Int×List Int)×Int×Int)=>Option.bind (iter (fun(s1:Int×Int×Int×List (Int×Int×Int))=>if decide
 (s1.1<(x.1.length:Int))=true then if(0:Int)≤s1.1∧s1.1<(x.1.length:Int) then Option.bind (iter (fun(s2:Int×Int×Int×Int×Int×List Int×List (Int×Int×Int))=>if decide (s2.1<(s2.2.2.2.2.2.1.length:Int))=
 true then Option.bind (iter (fun(s3:Int×Int×Int×Int×Int×List Int×List (Int×Int×Int))=>Option.bind (if decide (s3.1<(s3.2.2.2.2.2.1.length:Int))=true then if(0:Int)≤s3.1∧s3.1<(s3.2.2.2.2.2.1.length:Int)
 then Option.bind (R.f31F (List.getD s3.2.2.2.2.2.1 (Int.toNat s3.1) (0:Int),s3.2.1,s3.2.2.1)) fun v4=>some (v4.1,v4.2.1,v4.2.2,s3.2.2.2.1,s3.2.2.2.2.1,s3.2.2.2.2.2.1,s3.2.2.2.2.2.2) else none else some (false,s3.2.1,s3.2.2.1,
 s3.2.2.2.1,s3.2.2.2.2.1,s3.2.2.2.2.2.1,s3.2.2.2.2.2.2)) fun(v4:Bool×Int×Int×Int×Int×List Int×List (Int×Int×Int))=>if v4.1=true then some (Sum.inl (IntKind.i64.wrap (s3.1+(1:Int)),v4.2.1,v4.2.2.1,v4.2.2.2.1,
 v4.2.2.2.2.1,v4.2.2.2.2.2.1,v4.2.2.2.2.2.2)) else some (Sum.inr (s3.1,v4.2.1,v4.2.2.1,v4.2.2.2.1,v4.2.2.2.2.1,v4.2.2.2.2.2.1,v4.2.2.2.2.2.2))) (s2.1,s2.2.1,s2.2.2.1,s2.2.2.2.1,s2.2.2.2.2.1,s2.2.2.2.2.2.1,s2.2.2.2.2.2.2)) fun
 (v3:Int×Int×Int×Int×Int×List Int×List (Int×Int×Int))=>if decide (v3.1 > s2.1)=true then if zi (List.length v3.2.2.2.2.2.2+(1:Nat)) (24:Nat) then some (Sum.inl (IntKind.i64.wrap (v3.1+(1:Int)),v3.2.1,
 v3.2.2.1,v3.2.2.2.1,v3.2.2.2.2.1,v3.2.2.2.2.2.1,v3.2.2.2.2.2.2++ [(s1.1,s2.1,v3.1)])) else none else some (Sum.inl (IntKind.i64.wrap (s2.1+(1:Int)),v3.2.1,v3.2.2.1,v3.2.2.2.1,v3.2.2.2.2.1,v3.2.2.2.2.2.1,v3.2.2.2.2.2.2))
 else some (Sum.inr (s2.2.1,s2.2.2.1,s2.2.2.2.2.2.2))) ((0:Int),s1.2.1,s1.2.2.1,(List.getD x.1 (Int.toNat s1.1) ((0:Int),(0:Int), [])).1,(List.getD x.1 (Int.toNat s1.1) ((0:Int),(0:Int), [])).2.1,(List.getD x.1 (Int.toNat
 s1.1) ((0:Int),(0:Int), [])).2.2,s1.2.2.2)) fun(v2:Int×Int×List (Int×Int×Int))=>some (Sum.inl (IntKind.i64.wrap (s1.1+(1:Int)),v2.1,v2.2.1,v2.2.2)) else none else some (Sum.inr s1.2.2.2)) ((0:Int),x.2.1,x.2.2,
 [])) fun(v1:List (Int×Int×Int))=>some v1
theorem R.f14eq: ∀ x,zk R.C R.f14Γ R.f14sig R.f14ann Go.Proofs.Tryz.f14 x=R.f14F x:=by
 intro x
 kernel_rfl
noncomputable def R.f14con:Con:=⟨14,R.f14sig,R.f14F⟩
theorem R.f14ok:Con.Ok Go.Proofs.Tryz.prog R.C R.f14con:=
 zb (Γ:=R.f14Γ) (an:=R.f14ann) ⟨R.Cok,(List.forall_mem_cons.2 ⟨R.f31ok,(fun _ h=>nomatch h)⟩),R.mixed⟩ Go.Proofs.Tryz.func14 rfl rfl (fun x y h=>(R.f14eq x).trans h) (by decide)
def R.f32sig:Sig:=⟨⟨[.hole (.sl (.int .i64)), .hole (.int .i64)], []⟩,⟨[.hole (.int .i64)], []⟩⟩
noncomputable def R.f32Γ:List Con:= []
def R.f32ann:Ann:=(.seq .leaf (.seq (.seq .leaf (.block (.loop ⟨.normal, [(8, .hole (.int .i64))], []⟩ [⟨(.exit 0), [], []⟩,⟨.ret, [(4, .hole (.int .i64))], []⟩] (.seq .leaf (.seq (.cond .leaf .leaf) (.seq (.block (.seq .leaf (.seq
 .leaf (.cond (.seq .leaf .leaf) .leaf)))) .leaf)))))) (.seq .leaf .leaf)))
noncomputable def R.f32F:List Int×Int→Option (Int):=fun(x:List Int×Int)=>Option.bind (iter (fun(s1:Int)=>if decide (s1<(x.1.length:Int))=true then if(0:Int)≤s1∧s1<(x.1.length:Int) then if(x.2==
 List.getD x.1 (Int.toNat s1) (0:Int))=true then some (Sum.inr (Sum.inr s1)) else some (Sum.inl (IntKind.i64.wrap (s1+(1:Int)))) else none else some (Sum.inr (Sum.inl ()))) (0:Int)) fun v1=>Sum.elim (fun(p2:PUnit)=>some (-1
 :Int)) (fun(q2:Int)=>some q2) v1
theorem R.f32eq: ∀ x,zk R.C R.f32Γ R.f32sig R.f32ann Go.Proofs.Tryz.f32 x=R.f32F x:=by
 intro x
 kernel_rfl
noncomputable def R.f32con:Con:=⟨32,R.f32sig,R.f32F⟩
theorem R.f32ok:Con.Ok Go.Proofs.Tryz.prog R.C R.f32con:=
 zb (Γ:=R.f32Γ) (an:=R.f32ann) ⟨R.Cok,(fun _ h=>nomatch h),R.mixed⟩ Go.Proofs.Tryz.func32 rfl rfl (fun x y h=>(R.f32eq x).trans h) (by decide)
def R.f16sig:Sig:=⟨⟨[.hole (.sl (.st (.pair (.int .i64) (.pair (.int .i64) (.sl (.int .i64)))))), .hole (.int .i64)], []⟩,⟨[.hole (.int .i64), .hole (.int .i64)], []⟩⟩
noncomputable def R.f16Γ:List Con:= [R.f32con]
def R.f16ann:Ann:=(.seq .leaf (.seq (.seq .leaf (.block (.loop ⟨.normal, [(11, .hole (.int .i64))], []⟩ [⟨(.exit 0), [], []⟩,⟨.ret, [(4, .hole (.int .i64)),(5, .hole (.int .i64))], []⟩] (.seq .leaf (.seq (.cond .leaf .leaf) (.seq
 (.block (.seq .leaf (.seq .leaf (.seq .leaf (.cond (.seq .leaf .leaf) .leaf))))) .leaf)))))) (.seq .leaf .leaf)))
noncomputable def R.f16F:List (Int×Int×List Int)×Int→Option (Int×Int):=fun(x:List (Int×Int×List Int)×Int)=>Option.bind (iter (fun(s1:Int)=>if decide (s1<(x.1.length:Int))=true then if(0:Int)≤s1∧s1
 <(x.1.length:Int) then Option.bind (R.f32F ((List.getD x.1 (Int.toNat s1) ((0:Int),(0:Int), [])).2.2,x.2)) fun v2=>if decide (v2≥(0:Int))=true then some (Sum.inr (Sum.inr (s1,v2))) else some (Sum.inl (IntKind.i64.wrap (s1
 +(1:Int)))) else none else some (Sum.inr (Sum.inl ()))) (0:Int)) fun v1=>Sum.elim (fun(p2:PUnit)=>some ((-1:Int),(-1:Int))) (fun(q2:Int×Int)=>some (q2.1,q2.2)) v1
theorem R.f16eq: ∀ x,zk R.C R.f16Γ R.f16sig R.f16ann Go.Proofs.Tryz.f16 x=R.f16F x:=by
 intro x
 kernel_rfl
noncomputable def R.f16con:Con:=⟨16,R.f16sig,R.f16F⟩
theorem R.f16ok:Con.Ok Go.Proofs.Tryz.prog R.C R.f16con:=
 zb (Γ:=R.f16Γ) (an:=R.f16ann) ⟨R.Cok,(List.forall_mem_cons.2 ⟨R.f32ok,(fun _ h=>nomatch h)⟩),R.mixed⟩ Go.Proofs.Tryz.func16 rfl rfl (fun x y h=>(R.f16eq x).trans h) (by decide)
def R.f23sig:Sig:=⟨⟨[.hole (.sl (.int .i64)), .hole (.sl (.int .i64))], []⟩,⟨[.hole .bool], []⟩⟩
noncomputable def R.f23Γ:List Con:= []
def R.f23ann:Ann:=(.seq .leaf (.seq (.seq .leaf (.cond (.seq .leaf .leaf) .leaf)) (.seq (.seq .leaf (.block (.loop ⟨.normal, [(5, .hole (.int .i64))], []⟩ [⟨(.exit 0), [], []⟩,⟨.ret, [(4, .hole .bool)], []⟩] (.seq (.seq .leaf (.cond
 .leaf .leaf)) (.seq (.block (.seq .leaf (.cond (.seq .leaf .leaf) .leaf))) .leaf))))) (.seq .leaf .leaf))))
noncomputable def R.f23F:List Int×List Int→Option (Bool):=fun(x:List Int×List Int)=>if((x.1.length:Int)!=(x.2.length:Int))=true then some false else Option.bind (iter (fun(s1:Int)=>if decide (s1<(x.1.length:
 Int))=true then if(0:Int)≤s1∧s1<(x.1.length:Int) then if(0:Int)≤s1∧s1<(x.2.length:Int) then if(List.getD x.1 (Int.toNat s1) (0:Int)!=List.getD x.2 (Int.toNat s1) (0:Int))=true then some (Sum.inr (Sum.inr
 false)) else some (Sum.inl (IntKind.i64.wrap (s1+(1:Int)))) else none else none else some (Sum.inr (Sum.inl ()))) (0:Int)) fun v1=>Sum.elim (fun(p2:PUnit)=>some true) (fun(q2:Bool)=>some q2) v1
theorem R.f23eq: ∀ x,zk R.C R.f23Γ R.f23sig R.f23ann Go.Proofs.Tryz.f23 x=R.f23F x:=by
 intro x
 kernel_rfl
noncomputable def R.f23con:Con:=⟨23,R.f23sig,R.f23F⟩
theorem R.f23ok:Con.Ok Go.Proofs.Tryz.prog R.C R.f23con:=
 zb (Γ:=R.f23Γ) (an:=R.f23ann) ⟨R.Cok,(fun _ h=>nomatch h),R.mixed⟩ Go.Proofs.Tryz.func23 rfl rfl (fun x y h=>(R.f23eq x).trans h) (by decide)
def R.f19sig:Sig:=⟨⟨[.hole (.sl (.st (.pair (.int .i64) (.pair (.int .i64) (.int .i64)))))], []⟩,⟨[.hole (.int .i64)], []⟩⟩
noncomputable def R.f19Γ:List Con:= []
def R.f19ann:Ann:=(.seq .leaf (.seq .leaf (.seq (.seq .leaf (.block (.loop ⟨.normal, [(3, .hole (.int .i64)),(8, .hole (.int .i64))], []⟩ [⟨(.exit 0), [(3, .hole (.int .i64))], []⟩] (.seq .leaf (.seq (.cond .leaf .leaf) (.seq (.block
 (.seq .leaf .leaf)) .leaf)))))) (.seq .leaf .leaf))))
noncomputable def R.f19F:List (Int×Int×Int)→Option (Int):=fun(x:List (Int×Int×Int))=>Option.bind (iter (fun(s1:Int×Int)=>if decide (s1.2<(x.length:Int))=true then if(0:Int)≤s1.2∧s1.2<(x.length:Int)
 then some (Sum.inl (IntKind.i64.wrap (s1.1+zif (0:Int) (IntKind.i64.wrap ((List.getD x (Int.toNat s1.2) ((0:Int),(0:Int),(0:Int))).2.2 - (List.getD x (Int.toNat s1.2) ((0:Int),(0:Int),(0:Int))).2.1))),IntKind.i64.wrap
 (s1.2+(1:Int)))) else none else some (Sum.inr s1.1)) ((0:Int),(0:Int))) fun v1=>some v1
theorem R.f19eq: ∀ x,zk R.C R.f19Γ R.f19sig R.f19ann Go.Proofs.Tryz.f19 x=R.f19F x:=by
 intro x
 kernel_rfl
noncomputable def R.f19con:Con:=⟨19,R.f19sig,R.f19F⟩
theorem R.f19ok:Con.Ok Go.Proofs.Tryz.prog R.C R.f19con:=
 zb (Γ:=R.f19Γ) (an:=R.f19ann) ⟨R.Cok,(fun _ h=>nomatch h),R.mixed⟩ Go.Proofs.Tryz.func19 rfl rfl (fun x y h=>(R.f19eq x).trans h) (by decide)
def R.f9sig:Sig:=⟨⟨[], []⟩,⟨[.hole .bool], []⟩⟩
noncomputable def R.f9Γ:List Con:= [R.f10con,R.f14con,R.f16con,R.f23con,R.f19con]
def R.f9ann:Ann:=(.seq .leaf (.seq .leaf (.seq .leaf (.seq (.seq (.join [⟨.normal, [(29, .hole .bool)], [.gone, .gone, .gone]⟩] .leaf) (.cond (.seq .leaf .leaf) .leaf)) (.seq .leaf (.seq .leaf (.seq .leaf .leaf)))))))
noncomputable def R.f9F:PUnit→Option (Bool):=fun(x:PUnit)=>Option.bind (R.f10F ([(97:Int),(1488:Int),(8295:Int),(1489:Int),(98:Int)],(1:Int), [(4:Int),(5:Int)])) fun(v1:List (Int×Int×List Int)×Int)
 =>Option.bind (R.f10F ([(97:Int)],(0:Int), [])) fun(v2:List (Int×Int×List Int)×Int)=>Option.bind (if(v1.2 !=(0:Int))=true then some true else if(v2.2 !=(3:Int))=true then some true else some ((v1.1.length:Int)
 !=(2:Int))) fun v3=>if v3=true then some false else Option.bind (R.f14F (v1.1,(1:Int),(5:Int))) fun(v4:List (Int×Int×Int))=>Option.bind (R.f16F (v1.1,(4:Int))) fun v5=>if(0:Int)≤(0:Int)∧(0:Int)<
 (v1.1.length:Int) then Option.bind (R.f23F ((List.getD v1.1 (Int.toNat (0:Int)) ((0:Int),(0:Int), [])).2.2, [(0:Int),(1:Int),(3:Int)])) fun v6=>if v6=true then if((v4.length:Int)==(2:Int))=true then if(0:
 Int)≤(0:Int)∧(0:Int)<(v4.length:Int) then if Ty.eqb (Ty.st (Ty.pair (Ty.int IntKind.i64) (Ty.pair (Ty.int IntKind.i64) (Ty.int IntKind.i64)))) (List.getD v4 (Int.toNat (0:Int)) ((0:Int),(0:Int),(0:Int))) ((0:Int),(1
 :Int),(3:Int))=true then if(0:Int)≤(1:Int)∧(1:Int)<(v4.length:Int) then if Ty.eqb (Ty.st (Ty.pair (Ty.int IntKind.i64) (Ty.pair (Ty.int IntKind.i64) (Ty.int IntKind.i64)))) (List.getD v4 (Int.toNat (1:Int)) ((0:
 Int),(0:Int),(0:Int))) ((1:Int),(0:Int),(1:Int))=true then if(v5.1==(1:Int))=true then if(v5.2==(0:Int))=true then Option.bind (R.f19F v4) fun v7=>some (v7==(3:Int)) else some false else some false else
 some false else none else some false else none else some false else some false else none
theorem R.f9eq: ∀ x,zk R.C R.f9Γ R.f9sig R.f9ann Go.Proofs.Tryz.f9 x=R.f9F x:=by
 intro x
 kernel_rfl
noncomputable def R.f9con:Con:=⟨9,R.f9sig,R.f9F⟩
theorem R.f9ok:Con.Ok Go.Proofs.Tryz.prog R.C R.f9con:=
 zb (Γ:=R.f9Γ) (an:=R.f9ann) ⟨R.Cok,(List.forall_mem_cons.2 ⟨R.f10ok,(List.forall_mem_cons.2 ⟨R.f14ok,(List.forall_mem_cons.2 ⟨R.f16ok,(List.forall_mem_cons.2 ⟨R.f23ok,(List.forall_mem_cons.2 ⟨R.f19ok,(fun _ h=>nomatch h)⟩)⟩)⟩)⟩)⟩),R.mixed⟩ Go.Proofs.Tryz.func9 rfl rfl (fun x y h=>(R.f9eq x).trans h) (by decide)
end Go.Sx
