/- The symbolic evaluator, part V1: what goes on behind an evaluation does not turn it. -/
import Derived.Test.YtpmbmobjnknnhaaGreatDoorSxC
set_option linter.unusedVariables false
set_option linter.unusedSimpArgs false
namespace Go.Sx
open Go.RowKit
def CN {A:Type} (m:(R:Type)→(A→Option R)→Option R):Prop:= ∀ (R:Type) (k:A→Option R),m R k=(m A some).bind k
theorem CN.pure {A:Type} (a:A):CN fun R (k:A→Option R)=>k a:=fun _ _=>rfl
theorem CN.none {A:Type}:CN fun R (_:A→Option R)=>(Option.none:Option R):=fun _ _=>rfl
theorem CN.bind {A B:Type} {m:(R:Type)→(A→Option R)→Option R} {f:A→(R:Type)→(B→Option R)→Option R} (hm:CN m) (hf: ∀ a,CN (f a)):CN fun R k=>m R fun a=>f a R k:=by
 intro R k
 show m R (fun a=>f a R k)=(m B fun a=>f a B some).bind k
 rw[hm,hm B]
 cases m A some with
 |none=>rfl
 |some a=>exact hf a R k
theorem CN.cond {A:Type} {b:Bool} {m n:(R:Type)→(A→Option R)→Option R} (hm:CN m) (hn:CN n):CN fun R k=>bif b then m R k else n R k:=by
 intro R k
 cases b
 ·exact hn R k
 ·exact hm R k
theorem qO {A:Type}: ∀ (l:List A) (n:Nat),CN fun R=>qz (R:=R) l n
 | [],n=>by intro R k;cases n<;>rfl
 |x::l,0=>fun _ _=>rfl
 |x::l,n+1=>fun R k=>qO l n R k
theorem xl: ∀ (l:List (TypeId×TI)) (T:TypeId),CN fun R=>zu (R:=R) l T
 | [],T=>fun _ _=>rfl
 |(t,i)::l,T=>by
  intro R k
  show zu ((t,i)::l) T k=(zu ((t,i)::l) T some).bind k
  unfold zu
  cases Nat.beq t T
  ·exact xl l T R k
  ·rfl
theorem zuj: ∀ (l:List (Nat×DV)) (g:Nat),CN fun R=>zmc (R:=R) l g
 | [],T=>fun _ _=>rfl
 |(t,i)::l,T=>by
  intro R k
  show zmc ((t,i)::l) T k=(zmc ((t,i)::l) T some).bind k
  unfold zmc
  cases Nat.beq t T
  ·exact zuj l T R k
  ·rfl
theorem zf6 (v:Value):CN fun R=>j3 (R:=R) v:=by
 intro R k
 unfold j3
 split<;>rfl
theorem zd2: ∀ (l:List Value),CN fun R=>j4 (R:=R) l
 | []=>fun _ _=>rfl
 |v::l=>(zf6 v).bind fun s=>(zd2 l).bind fun l'=>CN.pure _
theorem zsl (v:Value):CN fun R=>zhl (R:=R) v:=by
 intro R k
 unfold zhl
 split
 ·exact((zd2 _).bind fun l=>CN.pure _) R k
 ·exact zf6 _ R k
theorem zd3 (C:Ctx) (fr:List SV) (x:Operand):CN fun R=>opd (R:=R) C fr x:=by
 intro R k
 unfold opd
 split
 ·exact qO _ _ R k
 ·exact zsl _ R k
 ·exact zuj _ _ R k
 ·rfl
theorem zlx (C:Ctx) (fr:List SV): ∀ (l:List Operand),CN fun R=>zo8 (R:=R) C fr l
 | []=>fun _ _=>rfl
 |x::l=>(zd3 C fr x).bind fun s=>(zlx C fr l).bind fun l'=>CN.pure _
theorem znn (s:SV):CN fun R=>asB (R:=R) s:=by
 intro R k
 unfold asB
 split<;>rfl
theorem zke (s:SV):CN fun R=>asI (R:=R) s:=by
 intro R k
 unfold asI
 split<;>rfl
theorem zxb (op:BinOp) (i:IntKind) (a b:Int) (lit:Bool):CN fun R=>zs0 (R:=R) op i a b lit:=by
 intro R k
 unfold zs0
 cases op<;>first|rfl|(cases lit<;>first|rfl|(dsimp only[cond_false,cond_true];split<;>rfl))
theorem zsp (op:BinOp) (i:IntKind) (a b:Int) (lit:Bool):CN fun R=>zdh (R:=R) op i a b lit:=by
 intro R k
 unfold zdh
 cases op<;>first|rfl|(cases lit<;>first|rfl|(dsimp only[cond_false,cond_true];split<;>rfl))
theorem zfb (C:Ctx) (T:TypeId) (op:BinOp) (t:Ty) (x y:t.den):CN fun R=>ztz (R:=R) C T op t x y:=by
 intro R k
 unfold ztz
 cases zd0 C 8 T _ with
 |true=>dsimp only[cond_true];split<;>rfl
 |false=>rfl
theorem zg {A B R:Type} {m:(R:Type)→(A→Option R)→Option R} (hm:CN m) {f:A→Option R} {g:A→Option B} {k:B→Option R} (h: ∀ a,f a=(g a).bind k):m R f=(m B g).bind k:=by
 rw[hm R f,hm B g]
 cases m A some with
 |none=>rfl
 |some a=>exact h a
theorem zlw (i:IntKind): ∀ (n:Nat) (l:List SV),CN fun R=>zfi (R:=R) i n l
 |0, []=>fun _ _=>rfl
 |n+1,s::l=>by
  intro R k
  cases s with
  |val t x=>cases t with
   |int j=>
    show(if _h:j=i then zfi i n l fun xs=>k (x::xs) else none)=(if _h:j=i then zfi i n l fun xs=>some (x::xs) else none).bind k
    split
    ·exact zg (m:=fun R=>zfi (R:=R) i n l) (zlw i n l) fun xs=>rfl
    ·rfl
   |_=>rfl
  |_=>rfl
 |0,_::_=>fun _ _=>rfl
 |_+1, []=>fun _ _=>rfl
theorem zdc: ∀ (t:Ty) (l:List SV),CN fun R=>ze6 (R:=R) t l
 | .int i,l=>by
  intro R k
  cases l with
  |nil=>rfl
  |cons s l=>cases s with
   |val t x=>cases t with
    |int j=>
     show(if _h:j=i then k (x,l) else none)=(if _h:j=i then some (x,l) else none).bind k
     split<;>rfl
    |_=>rfl
   |_=>rfl
 | .bool,l=>by
  cases l with
  |nil=>intro R k;rfl
  |cons s l=>exact(znn s).bind fun b=>CN.pure (b,l)
 | .pair a b,l=>(zdc a l).bind fun p=>(zdc b p.2).bind fun q=>CN.pure ((p.1,q.1),q.2)
 | .st f,l=>(zdc f l).bind fun p=>CN.pure (p.1,p.2)
 | .str,_=>fun _ _=>rfl
 | .flt,_=>fun _ _=>rfl
 | .cplx,_=>fun _ _=>rfl
 | .unit,_=>fun _ _=>rfl
 | .sl _,_=>fun _ _=>rfl
 | .osl _,_=>fun _ _=>rfl
 | .arr _ _,_=>fun _ _=>rfl
theorem zw8 (C:Ctx) (T:TypeId) (op:BinOp) (x y:SV) (lit:Bool):CN fun R=>zuu (R:=R) C T op x y lit:=by
 intro R k
 unfold zuu
 split
 ·cases hs:xQ op with
  |true=>exact zsp _ _ _ _ _ R k
  |false=>
   dsimp only[cond_false]
   split
   ·exact zxb _ _ _ _ _ R k
   ·rfl
 ·split<;>rfl
 ·split
  ·unfold ztz
   cases zd0 C 8 T _ with
   |true=>dsimp only[cond_true];split<;>rfl
   |false=>rfl
  ·rfl
 ·exact zg (m:=fun R=>zfi (R:=R) _ _ _) (zlw _ _ _) fun b=>zfb _ _ _ _ _ _ _ k
 ·exact zg (m:=fun R=>zfi (R:=R) _ _ _) (zlw _ _ _) fun b=>zfb _ _ _ _ _ _ _ k
 ·split
  ·exact zfb _ _ _ _ _ _ R k
  ·rfl
 ·exact zg (m:=fun R=>ze6 (R:=R) _ _) (zdc _ _) fun p=>by
   split
   ·exact zfb _ _ _ _ _ _ _ k
   ·rfl
 ·exact zg (m:=fun R=>ze6 (R:=R) _ _) (zdc _ _) fun p=>by
   split
   ·exact zfb _ _ _ _ _ _ _ k
   ·rfl
 ·exact zg (m:=fun R=>zu (R:=R) C.TT T) (xl C.TT T) fun i=>by
   split
   ·exact zg (m:=fun R=>ze6 (R:=R) _ _) (zdc _ _) fun p=>zg (m:=fun R=>ze6 (R:=R) _ _) (zdc _ _) fun q=>by
     split
     ·exact zfb _ _ _ _ _ _ _ k
     ·rfl
   ·rfl
 ·rename_i xs
  exact((xl C.TT T).bind (f:=fun i R (k:SV→Option R)=>match i.kind,op with
   | .slice _, .eql=>k (.ub true (Nat.beq xs.length 0))
   | .slice _, .neq=>k (.ub false (Nat.beq xs.length 0))
   |_,_=>Option.none) fun i=>by intro R k;dsimp only;split<;>rfl) R k
 ·exact((xl C.TT T).bind (f:=fun i R (k:SV→Option R)=>match i.kind,op with
   | .ptr _, .eql=>k (.bit true)
   | .ptr _, .neq=>k (.bit false)
   |_,_=>Option.none) fun i=>by intro R k;dsimp only;split<;>rfl) R k
 ·exact((xl C.TT T).bind (f:=fun i R (k:SV→Option R)=>match i.kind,op with
   | .ptr _, .eql=>k (.bit false)
   | .ptr _, .neq=>k (.bit true)
   |_,_=>Option.none) fun i=>by intro R k;dsimp only;split<;>rfl) R k
 ·exact((xl C.TT T).bind (f:=fun i R (k:SV→Option R)=>asB x fun a=>asB y fun b=>match i.kind,op with
   | .bool, .eql=>k (.val .bool (a==b))
   | .bool, .neq=>k (.val .bool (!(a==b)))
   |_,_=>Option.none) fun i=>(znn x).bind fun a=>(znn y).bind fun b=>by intro R k;dsimp only;split<;>rfl) R k
theorem zze (op:UnOp) (x:SV):CN fun R=>z0t (R:=R) op x:=by
 intro R k
 unfold z0t
 split<;>rfl
theorem zxd (c a b:SV):CN fun R=>ztk (R:=R) c a b:=by
 intro R k
 unfold ztk
 split
 ·rfl
 ·rfl
 ·split
  ·split<;>rfl
  ·exact((znn a).bind fun x=>(znn b).bind fun y=>CN.pure _) R k
 ·rfl
theorem zhj (i:TI) (hp:List HO) (x:SV):CN fun R=>xI (R:=R) i hp x:=by
 intro R k
 unfold xI
 split
 ·cases fits i _<;>rfl
 ·rename_i id off
  exact((qO hp id).bind (f:=fun o R (k:SV→Option R)=>match o with
   | .cells l=>bif i.kind.isAgg then(bif Nat.ble (off+i.size) l.length then k (.agg ((l.drop off).take i.size)) else Option.none) else(bif Nat.beq i.size 1 then qz l off k else Option.none)
   |_=>Option.none) fun o=>by
    intro R k
    dsimp only
    split
    ·cases i.kind.isAgg
     ·cases Nat.beq i.size 1
      ·rfl
      ·exact qO _ _ R k
     ·rename_i l
      cases Nat.ble (off+i.size) l.length<;>rfl
    ·rfl) R k
 ·rename_i id t j p
  exact((qO hp id).bind (f:=fun o R (k:SV→Option R)=>match o with
   | .arr _ t' xs=>if h:t'=t then(match zc5 p t ((h▸xs:List t.den).getD j t.dflt) with
    |some d=>bif fits i d.t then(bif d.t.noOwn then k (.val d.t d.x) else k (.val d.t.er (d.t.erD d.x))) else Option.none
    |Option.none=>Option.none) else Option.none
   |_=>Option.none) fun o=>by
    intro R k
    dsimp only
    split
    ·split
     ·split
      ·rename_i d _
       cases fits i d.t<;>cases d.t.noOwn<;>rfl
      ·rfl
     ·rfl
    ·rfl) R k
 ·rfl
theorem zuk (C:Ctx) (fr:List SV) (x:Option Operand) (d:Int):CN fun R=>zwy (R:=R) C fr x d:=by
 intro R k
 unfold zwy
 cases x with
 |none=>rfl
 |some x=>exact((zd3 C fr x).bind fun s=>zke s) R k
theorem zM {B R:Type} {c:Prop} [Decidable c] {a b:Option R} {a' b':Option B} {k:B→Option R} (h1:a=a'.bind k) (h2:b=b'.bind k):(if c then a else b)=(if c then a' else b').bind k:=by
 by_cases h:c
 ·simp only[if_pos h,h1]
 ·simp only[if_neg h,h2]
theorem zf {B R:Type} {c:Bool} {a b:Option R} {a' b':Option B} {k:B→Option R} (h1:a=a'.bind k) (h2:b=b'.bind k):(bif c then a else b)=(bif c then a' else b').bind k:=by
 cases c
 ·exact h2
 ·exact h1
theorem x6 {B R:Type} (C:Ctx) (fr:List SV) (y:Operand) {f:Int→Option R} {g:Int→Option B} {k:B→Option R} (h: ∀ a,f a=(g a).bind k):
  (opd C fr y fun s=>asI s f)=(opd C fr y fun s=>asI s g).bind k:=
 zg (m:=fun R=>opd (R:=R) C fr y) (zd3 C fr y) fun s=>zg (m:=fun R=>asI (R:=R) s) (zke s) h
theorem zsq (C:Ctx) (fr:List SV) (hp:List HO) (i:TI) (x:SV) (lo hi mx:Option Operand):CN fun R=>zb1 (R:=R) C fr hp i x lo hi mx:=by
 intro R k
 show zb1 C fr hp i x lo hi mx k=(zb1 C fr hp i x lo hi mx some).bind k
 unfold zb1
 split
 ·refine zg (m:=fun R=>zu (R:=R) C.TT _) (xl C.TT _) fun ei=> ?_
  split
  ·refine zf ?_ rfl
   split
   ·split
    ·rfl
    ·rfl
   ·cases hi with
    |none=>
     cases lo with
     |none=>rfl
     |some y=>exact x6 C fr y fun n=>zM rfl rfl
    |some h=>
     refine x6 C fr h fun n=>zM ?_ rfl
     cases lo with
     |none=>rfl
     |some y=>exact x6 C fr y fun n=>zM rfl rfl
   ·rename_i m _
    refine x6 C fr m fun n=>zM ?_ rfl
    cases hi with
    |none=>rfl
    |some h=>exact x6 C fr h fun n=>zM (zg (m:=fun R=>zwy (R:=R) C fr lo 0) (zuk C fr lo 0) fun l=>zM rfl rfl) rfl
  ·cases mx with
   |some m=>rfl
   |none=>
    cases lo with
    |some y=>
     refine zg (m:=fun R=>qz (R:=R) hp _) (qO hp _) fun o=> ?_
     split
     ·refine zf ?_ rfl
      cases hi with
      |none=>exact x6 C fr y fun n=>zM rfl rfl
      |some h=>exact x6 C fr h fun n=>zM (x6 C fr y fun m=>zM rfl rfl) rfl
     ·rfl
    |none=>
     refine zg (m:=fun R=>qz (R:=R) hp _) (qO hp _) fun o=> ?_
     split
     ·cases hi with
      |none=>rfl
      |some h=>exact x6 C fr h fun n=>zM rfl rfl
     ·rfl
  ·rfl
 ·rfl
theorem zjn (C:Ctx) (hp:List HO) (i:TI) (x ix:SV):CN fun R=>qy (R:=R) C hp i x ix:=by
 intro R k
 show qy C hp i x ix k=(qy C hp i x ix some).bind k
 unfold qy
 refine zg (m:=fun R=>asI (R:=R) ix) (zke ix) fun n=> ?_
 split
 ·refine zg (m:=fun R=>zu (R:=R) C.TT _) (xl C.TT _) fun ei=> ?_
  split
  ·exact zf (zM rfl rfl) rfl
  ·refine zg (m:=fun R=>qz (R:=R) hp _) (qO hp _) fun o=> ?_
   split
   ·exact zf (zM rfl rfl) rfl
   ·rfl
  ·exact zf (zM rfl rfl) rfl
  ·rfl
 ·refine zg (m:=fun R=>zu (R:=R) C.TT _) (xl C.TT _) fun ei=> ?_
  split
  ·exact zf (zM rfl rfl) rfl
  ·exact zM rfl rfl
  ·rfl
 ·rfl
theorem zso (C:Ctx) (i:TI) (x ix:SV):CN fun R=>zdf (R:=R) C i x ix:=by
 intro R k
 show zdf C i x ix k=(zdf C i x ix some).bind k
 unfold zdf
 refine zg (m:=fun R=>asI (R:=R) ix) (zke ix) fun n=> ?_
 split
 ·refine zg (m:=fun R=>zu (R:=R) C.TT _) (xl C.TT _) fun ei=> ?_
  split
  ·exact zf (zM rfl rfl) rfl
  ·rfl
 ·split
  ·exact zM rfl rfl
  ·rfl
 ·rfl
theorem zsn (i:TI) (x:SV) (f:Nat):CN fun R=>zde (R:=R) i x f:=by
 intro R k
 show zde i x f k=(zde i x f some).bind k
 unfold zde
 split
 ·rename_i fs _
  refine zg (m:=fun R=>qz (R:=R) fs f) (qO fs f) fun p=> ?_
  obtain⟨T,off,size,agg⟩:=p
  dsimp only
  split
  ·exact zf (zf rfl rfl) (qO _ _ R k)
  ·split
   ·exact zf rfl rfl
   ·rfl
  ·rfl
 ·rfl
theorem zjm (i:TI) (x:SV) (f:Nat):CN fun R=>qW (R:=R) i x f:=by
 intro R k
 show qW i x f k=(qW i x f some).bind k
 unfold qW
 split
 ·rename_i fs _
  refine zg (m:=fun R=>qz (R:=R) fs f) (qO fs f) fun p=> ?_
  obtain⟨T,off,size,agg⟩:=p
  dsimp only
  refine zf rfl ?_
  split
  ·rfl
  ·split
   ·exact zf rfl rfl
   ·rfl
  ·split
   ·exact zf rfl rfl
   ·rfl
  ·rfl
 ·rfl
theorem zxc (i:TI) (hp:List HO) (x:SV):CN fun R=>zny (R:=R) i hp x:=by
 intro R k
 show zny i hp x k=(zny i hp x some).bind k
 unfold zny
 split
 ·rfl
 ·rfl
 ·rfl
 ·refine zg (m:=fun R=>qz (R:=R) hp _) (qO hp _) fun o=> ?_
  split
  ·rfl
  ·rfl
  ·rfl
 ·rfl
 ·rfl
 ·rfl
 ·rfl
theorem zlu (f:Int→Int→Int): ∀ (l:List SV) (x:SV),CN fun R=>zas (R:=R) f x l
 | [],x=>fun _ _=>rfl
 |y::l,x=>by
  intro R k
  show zas f x (y::l) k=(zas f x (y::l) some).bind k
  cases x with
  |val t a=>
   cases t with
   |int i=>
    cases y with
    |val t' b=>
     cases t' with
     |int j=>exact zlu f l _ R k
     |_=>simp[zas]
    |_=>simp[zas]
   |_=>simp[zas]
  |_=>simp[zas]
theorem zno (s:SV):CN fun R=>s.cellsK (R:=R):=by
 intro R k
 unfold SV.cellsK
 split
 ·exact CN.cond (CN.pure _) CN.none R k
 all_goals rfl
theorem zlv (fs:List (TypeId×Nat×Nat×Bool)): ∀ (l:List (Nat×SV)) (cs:List SV),CN fun R=>zff (R:=R) fs l cs
 | [],cs=>fun _ _=>rfl
 |(i,s)::l,cs=>by
  intro R k
  show zff fs ((i,s)::l) cs k=(zff fs ((i,s)::l) cs some).bind k
  unfold zff
  exact zg (m:=fun R=>qz (R:=R) fs i) (qO fs i) fun p=>zg (m:=fun R=>s.cellsK (R:=R)) (zno s) fun l'=>zf (zlv fs l _ R k) rfl
theorem zns (C:Ctx) (fr:List SV): ∀ (l:List (Nat×Operand)),CN fun R=>zb9 (R:=R) C fr l
 | []=>fun _ _=>rfl
 |(i,x)::l=>by
  intro R k
  show zb9 C fr ((i,x)::l) k=(zb9 C fr ((i,x)::l) some).bind k
  unfold zb9
  exact zg (m:=fun R=>opd (R:=R) C fr x) (zd3 C fr x) fun s=>zg (m:=fun R=>zb9 (R:=R) C fr l) (zns C fr l) fun l'=>rfl
section
variable {B R:Type} {C:Ctx} {fr:List SV} {k:B→Option R}
theorem zn (x:Operand) {f:SV→Option R} {g:SV→Option B} (h: ∀ a,f a=(g a).bind k):opd C fr x f=(opd C fr x g).bind k:=zg (m:=fun R=>opd (R:=R) C fr x) (zd3 C fr x) h
theorem zb8 (x:List Operand) {f:List SV→Option R} {g:List SV→Option B} (h: ∀ a,f a=(g a).bind k):zo8 C fr x f=(zo8 C fr x g).bind k:=zg (m:=fun R=>zo8 (R:=R) C fr x) (zlx C fr x) h
theorem zH (T:TypeId) {f:TI→Option R} {g:TI→Option B} (h: ∀ a,f a=(g a).bind k):zu C.TT T f=(zu C.TT T g).bind k:=zg (m:=fun R=>zu (R:=R) C.TT T) (xl C.TT T) h
end
theorem zpm (C:Ctx) (i:TI) (hp:List HO) (x y:SV) (ok:Bool):CN fun R=>jJ (R:=R) C i hp x y ok:=by
 intro R k
 show jJ C i hp x y ok k=(jJ C i hp x y ok some).bind k
 unfold jJ
 split
 ·refine zH _ fun ki=>zH _ fun vi=>zg (m:=fun R=>qz (R:=R) hp _) (qO hp _) fun o=> ?_
  split
  ·refine zf ?_ rfl
   split
   ·exact zf rfl rfl
   ·rfl
  ·rfl
 ·rfl
theorem zue (C:Ctx) (hp:List HO) (T:TypeId) (op:BinOp) (x y:SV) (lit:Bool):CN fun R=>zhs (R:=R) C hp T op x y lit:=by
 intro R k
 show zhs C hp T op x y lit k=(zhs C hp T op x y lit some).bind k
 unfold zhs
 split
 ·unfold zl8
  refine zH _ fun i=>zg (m:=fun R=>qz (R:=R) hp _) (qO hp _) fun o=> ?_
  split<;>rfl
 ·unfold zxj
  split<;>rfl
 ·unfold zra
  split
  ·rfl
  ·rfl
  ·split<;>rfl
  ·rfl
 ·exact zw8 C T op x y lit R k
theorem zhk (C:Ctx) (fr:List SV) (hp:List HO) (op:Op):CN fun R=>j7 (R:=R) C fr hp op:=by
 intro R k
 show j7 C fr hp op k=(j7 C fr hp op some).bind k
 unfold j7
 split
 ·exact zd3 _ _ _ R k
 ·exact zd3 _ _ _ R k
 ·exact zn _ fun c=>zn _ fun a=>zn _ fun b=>zxd c a b R k
 ·exact zH _ fun i=>zn _ fun x=>zhj i hp x R k
 ·refine zn _ fun x=> ?_
  split<;>rfl
 ·exact zn _ fun a=>zn _ fun b=>zue C hp _ _ a b _ R k
 ·exact zn _ fun x=>zze _ x R k
 ·refine zH _ fun _=>zH _ fun i=>zn _ fun x=> ?_
  split<;>rfl
 ·exact zH _ fun i=>zn _ fun x=>zsq C fr hp i x _ _ _ R k
 ·exact zH _ fun i=>zn _ fun x=>zjm i x _ R k
 ·exact zH _ fun i=>zn _ fun x=>zsn i x _ R k
 ·exact zH _ fun i=>zn _ fun x=>zn _ fun n=>zjn C hp i x n R k
 ·exact zH _ fun i=>zn _ fun x=>zn _ fun n=>zso C i x n R k
 ·exact zH _ fun i=>zn _ fun x=>zn _ fun n=>zpm C i hp x n _ R k
 ·refine zn _ fun x=> ?_
  split
  ·exact qO _ _ R k
  ·rfl
 ·refine zH _ fun i=>zg (m:=fun R=>zb9 (R:=R) C fr _) (zns C fr _) fun ps=> ?_
  split
  ·exact zg (m:=fun R=>zff (R:=R) _ _ _) (zlv _ _ _) fun l=>rfl
  ·exact zH _ fun ei=>zg (m:=fun R=>zff (R:=R) _ _ _) (zlv _ _ _) fun l=>rfl
  ·rfl
 ·split
  ·exact zH _ fun i=>zn _ fun x=>zxc i hp x R k
  ·exact zn _ fun x=>zb8 _ fun l=>zlu _ l x R k
  ·exact zn _ fun x=>zb8 _ fun l=>zlu _ l x R k
  ·refine zn _ fun x=> ?_
   split<;>rfl
  ·refine zn _ fun x=> ?_
   split<;>rfl
  ·refine zn _ fun x=>zn _ fun y=> ?_
   split<;>rfl
  ·rfl
 ·split
  ·exact zb8 _ fun l=>rfl
  ·rfl
 ·rfl
end Go.Sx
