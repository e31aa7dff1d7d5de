/- The symbolic evaluator, part V1: what goes on behind an evaluation does not turn it. -/
import Derived.Test.YtpmbmobjnknnhaaGreatDoorSxC
set_option linter.unusedVariables false
set_option linter.unusedSimpArgs false
namespace Go.Sx
open Go.RowKit
def CN {A:Type} (m:(R:Type)→(A→Option R)→Option R):Prop:= ∀ (R:Type) (k:A→Option R),m R k=(m A some).bind k
theorem CN.pure {A:Type} (a:A):CN fun R (k:A→Option R)=>k a:=fun _ _=>rfl
theorem CN.none {A:Type}:CN fun R (_:A→Option R)=>(Option.none:Option R):=fun _ _=>rfl
theorem CN.bind {A B:Type} {m:(R:Type)→(A→Option R)→Option R} {f:A→(R:Type)→(B→Option R)→Option R} (hm:CN m) (hf: ∀ a,CN (f a)):CN fun R k=>m R fun a=>f a R k:=by
 intro R k
 show m R (fun a=>f a R k)=(m B fun a=>f a B some).bind k
 rw[hm,hm B]
 cases m A some with
 |none=>rfl
 |some a=>exact hf a R k
theorem CN.cond {A:Type} {b:Bool} {m n:(R:Type)→(A→Option R)→Option R} (hm:CN m) (hn:CN n):CN fun R k=>bif b then m R k else n R k:=by
 intro R k
 cases b
 ·exact hn R k
 ·exact hm R k
theorem qK {A:Type}: ∀ (l:List A) (n:Nat),CN fun R=>qr (R:=R) l n
 | [],n=>by intro R k;cases n<;>rfl
 |x::l,0=>fun _ _=>rfl
 |x::l,n+1=>fun R k=>qK l n R k
theorem xg: ∀ (l:List (TypeId×TI)) (T:TypeId),CN fun R=>zt (R:=R) l T
 | [],T=>fun _ _=>rfl
 |(t,i)::l,T=>by
  intro R k
  show zt ((t,i)::l) T k=(zt ((t,i)::l) T some).bind k
  unfold zt
  cases Nat.beq t T
  ·exact xg l T R k
  ·rfl
theorem zub: ∀ (l:List (Nat×DV)) (g:Nat),CN fun R=>zkz (R:=R) l g
 | [],T=>fun _ _=>rfl
 |(t,i)::l,T=>by
  intro R k
  show zkz ((t,i)::l) T k=(zkz ((t,i)::l) T some).bind k
  unfold zkz
  cases Nat.beq t T
  ·exact zub l T R k
  ·rfl
theorem zfy (v:Value):CN fun R=>jN (R:=R) v:=by
 intro R k
 unfold jN
 split<;>rfl
theorem zd2: ∀ (l:List Value),CN fun R=>jO (R:=R) l
 | []=>fun _ _=>rfl
 |v::l=>(zfy v).bind fun s=>(zd2 l).bind fun l'=>CN.pure _
theorem zsm (v:Value):CN fun R=>zgz (R:=R) v:=by
 intro R k
 unfold zgz
 split
 ·exact((zd2 _).bind fun l=>CN.pure _) R k
 ·exact zfy _ R k
theorem zd3 (C:Ctx) (fr:List SV) (x:Operand):CN fun R=>opd (R:=R) C fr x:=by
 intro R k
 unfold opd
 split
 ·exact qK _ _ R k
 ·exact zsm _ R k
 ·exact zub _ _ R k
 ·rfl
theorem zlh (C:Ctx) (fr:List SV): ∀ (l:List Operand),CN fun R=>zou (R:=R) C fr l
 | []=>fun _ _=>rfl
 |x::l=>(zd3 C fr x).bind fun s=>(zlh C fr l).bind fun l'=>CN.pure _
theorem znd (s:SV):CN fun R=>asB (R:=R) s:=by
 intro R k
 unfold asB
 split<;>rfl
theorem zjy (s:SV):CN fun R=>asI (R:=R) s:=by
 intro R k
 unfold asI
 split<;>rfl
theorem zw2 (op:BinOp) (i:IntKind) (a b:Int) (lit:Bool):CN fun R=>zr1 (R:=R) op i a b lit:=by
 intro R k
 unfold zr1
 cases op<;>first|rfl|(cases lit<;>first|rfl|(dsimp only[cond_false,cond_true];split<;>rfl))
theorem zsn (op:BinOp) (i:IntKind) (a b:Int) (lit:Bool):CN fun R=>zc6 (R:=R) op i a b lit:=by
 intro R k
 unfold zc6
 cases op<;>first|rfl|(cases lit<;>first|rfl|(dsimp only[cond_false,cond_true];split<;>rfl))
theorem zfe (C:Ctx) (T:TypeId) (op:BinOp) (t:Ty) (x y:t.den):CN fun R=>ztk (R:=R) C T op t x y:=by
 intro R k
 unfold ztk
 cases zdo C 8 T _ with
 |true=>dsimp only[cond_true];split<;>rfl
 |false=>rfl
theorem zg {A B R:Type} {m:(R:Type)→(A→Option R)→Option R} (hm:CN m) {f:A→Option R} {g:A→Option B} {k:B→Option R} (h: ∀ a,f a=(g a).bind k):m R f=(m B g).bind k:=by
 rw[hm R f,hm B g]
 cases m A some with
 |none=>rfl
 |some a=>exact h a
theorem zli (i:IntKind): ∀ (n:Nat) (l:List SV),CN fun R=>zey (R:=R) i n l
 |0, []=>fun _ _=>rfl
 |n+1,s::l=>by
  intro R k
  cases s with
  |val t x=>cases t with
   |int j=>
    show(if _h:j=i then zey i n l fun xs=>k (x::xs) else none)=(if _h:j=i then zey i n l fun xs=>some (x::xs) else none).bind k
    split
    ·exact zg (m:=fun R=>zey (R:=R) i n l) (zli i n l) fun xs=>rfl
    ·rfl
   |_=>rfl
  |_=>rfl
 |0,_::_=>fun _ _=>rfl
 |_+1, []=>fun _ _=>rfl
theorem zdh: ∀ (t:Ty) (l:List SV),CN fun R=>zev (R:=R) t l
 | .int i,l=>by
  intro R k
  cases l with
  |nil=>rfl
  |cons s l=>cases s with
   |val t x=>cases t with
    |int j=>
     show(if _h:j=i then k (x,l) else none)=(if _h:j=i then some (x,l) else none).bind k
     split<;>rfl
    |_=>rfl
   |_=>rfl
 | .bool,l=>by
  cases l with
  |nil=>intro R k;rfl
  |cons s l=>exact(znd s).bind fun b=>CN.pure (b,l)
 | .pair a b,l=>(zdh a l).bind fun p=>(zdh b p.2).bind fun q=>CN.pure ((p.1,q.1),q.2)
 | .st f,l=>(zdh f l).bind fun p=>CN.pure (p.1,p.2)
 | .str,_=>fun _ _=>rfl
 | .flt,_=>fun _ _=>rfl
 | .cplx,_=>fun _ _=>rfl
 | .unit,_=>fun _ _=>rfl
 | .sl _,_=>fun _ _=>rfl
 | .osl _,_=>fun _ _=>rfl
 | .arr _ _,_=>fun _ _=>rfl
theorem zw3 (C:Ctx) (T:TypeId) (op:BinOp) (x y:SV) (lit:Bool):CN fun R=>ztr (R:=R) C T op x y lit:=by
 intro R k
 unfold ztr
 split
 ·cases hs:xM op with
  |true=>exact zsn _ _ _ _ _ R k
  |false=>
   dsimp only[cond_false]
   split
   ·exact zw2 _ _ _ _ _ R k
   ·rfl
 ·split<;>rfl
 ·split
  ·unfold ztk
   cases zdo C 8 T _ with
   |true=>dsimp only[cond_true];split<;>rfl
   |false=>rfl
  ·rfl
 ·exact zg (m:=fun R=>zey (R:=R) _ _ _) (zli _ _ _) fun b=>zfe _ _ _ _ _ _ _ k
 ·exact zg (m:=fun R=>zey (R:=R) _ _ _) (zli _ _ _) fun b=>zfe _ _ _ _ _ _ _ k
 ·split
  ·exact zfe _ _ _ _ _ _ R k
  ·rfl
 ·exact zg (m:=fun R=>zev (R:=R) _ _) (zdh _ _) fun p=>by
   split
   ·exact zfe _ _ _ _ _ _ _ k
   ·rfl
 ·exact zg (m:=fun R=>zev (R:=R) _ _) (zdh _ _) fun p=>by
   split
   ·exact zfe _ _ _ _ _ _ _ k
   ·rfl
 ·exact zg (m:=fun R=>zt (R:=R) C.TT T) (xg C.TT T) fun i=>by
   split
   ·exact zg (m:=fun R=>zev (R:=R) _ _) (zdh _ _) fun p=>zg (m:=fun R=>zev (R:=R) _ _) (zdh _ _) fun q=>by
     split
     ·exact zfe _ _ _ _ _ _ _ k
     ·rfl
   ·rfl
 ·rename_i xs
  exact((xg C.TT T).bind (f:=fun i R (k:SV→Option R)=>match i.kind,op with
   | .slice _, .eql=>k (.ub true (Nat.beq xs.length 0))
   | .slice _, .neq=>k (.ub false (Nat.beq xs.length 0))
   |_,_=>Option.none) fun i=>by intro R k;dsimp only;split<;>rfl) R k
 ·exact((xg C.TT T).bind (f:=fun i R (k:SV→Option R)=>match i.kind,op with
   | .ptr _, .eql=>k (.bit true)
   | .ptr _, .neq=>k (.bit false)
   |_,_=>Option.none) fun i=>by intro R k;dsimp only;split<;>rfl) R k
 ·exact((xg C.TT T).bind (f:=fun i R (k:SV→Option R)=>match i.kind,op with
   | .ptr _, .eql=>k (.bit false)
   | .ptr _, .neq=>k (.bit true)
   |_,_=>Option.none) fun i=>by intro R k;dsimp only;split<;>rfl) R k
 ·exact((xg C.TT T).bind (f:=fun i R (k:SV→Option R)=>asB x fun a=>asB y fun b=>match i.kind,op with
   | .bool, .eql=>k (.val .bool (a==b))
   | .bool, .neq=>k (.val .bool (!(a==b)))
   |_,_=>Option.none) fun i=>(znd x).bind fun a=>(znd y).bind fun b=>by intro R k;dsimp only;split<;>rfl) R k
theorem zyx (op:UnOp) (x:SV):CN fun R=>z0f (R:=R) op x:=by
 intro R k
 unfold z0f
 split<;>rfl
theorem zw4 (c a b:SV):CN fun R=>zr3 (R:=R) c a b:=by
 intro R k
 unfold zr3
 split
 ·rfl
 ·rfl
 ·split
  ·split<;>rfl
  ·exact((znd a).bind fun x=>(znd b).bind fun y=>CN.pure _) R k
 ·rfl
theorem zhp (i:TI) (hp:List HO) (x:SV):CN fun R=>xD (R:=R) i hp x:=by
 intro R k
 unfold xD
 split
 ·cases fits i _<;>rfl
 ·rename_i id off
  exact((qK hp id).bind (f:=fun o R (k:SV→Option R)=>match o with
   | .cells l=>bif i.kind.isAgg then(bif Nat.ble (off+i.size) l.length then k (.agg ((l.drop off).take i.size)) else Option.none) else(bif Nat.beq i.size 1 then qr l off k else Option.none)
   |_=>Option.none) fun o=>by
    intro R k
    dsimp only
    split
    ·cases i.kind.isAgg
     ·cases Nat.beq i.size 1
      ·rfl
      ·exact qK _ _ R k
     ·rename_i l
      cases Nat.ble (off+i.size) l.length<;>rfl
    ·rfl) R k
 ·rename_i id t j p
  exact((qK hp id).bind (f:=fun o R (k:SV→Option R)=>match o with
   | .arr _ t' xs=>if h:t'=t then(match zcs p t ((h▸xs:List t.den).getD j t.dflt) with
    |some d=>bif fits i d.t then(bif d.t.noOwn then k (.val d.t d.x) else k (.val d.t.er (d.t.erD d.x))) else Option.none
    |Option.none=>Option.none) else Option.none
   |_=>Option.none) fun o=>by
    intro R k
    dsimp only
    split
    ·split
     ·split
      ·rename_i d _
       cases fits i d.t<;>cases d.t.noOwn<;>rfl
      ·rfl
     ·rfl
    ·rfl) R k
 ·rfl
theorem zuc (C:Ctx) (fr:List SV) (x:Option Operand) (d:Int):CN fun R=>zwk (R:=R) C fr x d:=by
 intro R k
 unfold zwk
 cases x with
 |none=>rfl
 |some x=>exact((zd3 C fr x).bind fun s=>zjy s) R k
theorem zM {B R:Type} {c:Prop} [Decidable c] {a b:Option R} {a' b':Option B} {k:B→Option R} (h1:a=a'.bind k) (h2:b=b'.bind k):(if c then a else b)=(if c then a' else b').bind k:=by
 by_cases h:c
 ·simp only[if_pos h,h1]
 ·simp only[if_neg h,h2]
theorem zf {B R:Type} {c:Bool} {a b:Option R} {a' b':Option B} {k:B→Option R} (h1:a=a'.bind k) (h2:b=b'.bind k):(bif c then a else b)=(bif c then a' else b').bind k:=by
 cases c
 ·exact h2
 ·exact h1
theorem xU {B R:Type} (C:Ctx) (fr:List SV) (y:Operand) {f:Int→Option R} {g:Int→Option B} {k:B→Option R} (h: ∀ a,f a=(g a).bind k):
  (opd C fr y fun s=>asI s f)=(opd C fr y fun s=>asI s g).bind k:=
 zg (m:=fun R=>opd (R:=R) C fr y) (zd3 C fr y) fun s=>zg (m:=fun R=>asI (R:=R) s) (zjy s) h
theorem zso (C:Ctx) (fr:List SV) (hp:List HO) (i:TI) (x:SV) (lo hi mx:Option Operand):CN fun R=>zbc (R:=R) C fr hp i x lo hi mx:=by
 intro R k
 show zbc C fr hp i x lo hi mx k=(zbc C fr hp i x lo hi mx some).bind k
 unfold zbc
 split
 ·refine zg (m:=fun R=>zt (R:=R) C.TT _) (xg C.TT _) fun ei=> ?_
  split
  ·refine zf ?_ rfl
   split
   ·split
    ·rfl
    ·rfl
   ·cases hi with
    |none=>
     cases lo with
     |none=>rfl
     |some y=>exact xU C fr y fun n=>zM rfl rfl
    |some h=>
     refine xU C fr h fun n=>zM ?_ rfl
     cases lo with
     |none=>rfl
     |some y=>exact xU C fr y fun n=>zM rfl rfl
   ·rename_i m _
    refine xU C fr m fun n=>zM ?_ rfl
    cases hi with
    |none=>rfl
    |some h=>exact xU C fr h fun n=>zM (zg (m:=fun R=>zwk (R:=R) C fr lo 0) (zuc C fr lo 0) fun l=>zM rfl rfl) rfl
  ·cases mx with
   |some m=>rfl
   |none=>
    cases lo with
    |some y=>
     refine zg (m:=fun R=>qr (R:=R) hp _) (qK hp _) fun o=> ?_
     split
     ·refine zf ?_ rfl
      cases hi with
      |none=>exact xU C fr y fun n=>zM rfl rfl
      |some h=>exact xU C fr h fun n=>zM (xU C fr y fun m=>zM rfl rfl) rfl
     ·rfl
    |none=>
     refine zg (m:=fun R=>qr (R:=R) hp _) (qK hp _) fun o=> ?_
     split
     ·cases hi with
      |none=>rfl
      |some h=>exact xU C fr h fun n=>zM rfl rfl
     ·rfl
  ·rfl
 ·rfl
theorem zi1 (C:Ctx) (hp:List HO) (i:TI) (x ix:SV):CN fun R=>qs (R:=R) C hp i x ix:=by
 intro R k
 show qs C hp i x ix k=(qs C hp i x ix some).bind k
 unfold qs
 refine zg (m:=fun R=>asI (R:=R) ix) (zjy ix) fun n=> ?_
 split
 ·refine zg (m:=fun R=>zt (R:=R) C.TT _) (xg C.TT _) fun ei=> ?_
  split
  ·exact zf (zM rfl rfl) rfl
  ·refine zg (m:=fun R=>qr (R:=R) hp _) (qK hp _) fun o=> ?_
   split
   ·exact zf (zM rfl rfl) rfl
   ·rfl
  ·exact zf (zM rfl rfl) rfl
  ·rfl
 ·refine zg (m:=fun R=>zt (R:=R) C.TT _) (xg C.TT _) fun ei=> ?_
  split
  ·exact zf (zM rfl rfl) rfl
  ·exact zM rfl rfl
  ·rfl
 ·rfl
theorem zsp (C:Ctx) (i:TI) (x ix:SV):CN fun R=>zc7 (R:=R) C i x ix:=by
 intro R k
 show zc7 C i x ix k=(zc7 C i x ix some).bind k
 unfold zc7
 refine zg (m:=fun R=>asI (R:=R) ix) (zjy ix) fun n=> ?_
 split
 ·refine zg (m:=fun R=>zt (R:=R) C.TT _) (xg C.TT _) fun ei=> ?_
  split
  ·exact zf (zM rfl rfl) rfl
  ·rfl
 ·split
  ·exact zM rfl rfl
  ·rfl
 ·rfl
theorem zsq (i:TI) (x:SV) (f:Nat):CN fun R=>zc8 (R:=R) i x f:=by
 intro R k
 show zc8 i x f k=(zc8 i x f some).bind k
 unfold zc8
 split
 ·rename_i fs _
  refine zg (m:=fun R=>qr (R:=R) fs f) (qK fs f) fun p=> ?_
  obtain⟨T,off,size,agg⟩:=p
  dsimp only
  split
  ·exact zf (zf rfl rfl) (qK _ _ R k)
  ·split
   ·exact zf rfl rfl
   ·rfl
  ·rfl
 ·rfl
theorem zi2 (i:TI) (x:SV) (f:Nat):CN fun R=>qQ (R:=R) i x f:=by
 intro R k
 show qQ i x f k=(qQ i x f some).bind k
 unfold qQ
 split
 ·rename_i fs _
  refine zg (m:=fun R=>qr (R:=R) fs f) (qK fs f) fun p=> ?_
  obtain⟨T,off,size,agg⟩:=p
  dsimp only
  refine zf rfl ?_
  split
  ·rfl
  ·split
   ·exact zf rfl rfl
   ·rfl
  ·split
   ·exact zf rfl rfl
   ·rfl
  ·rfl
 ·rfl
theorem zw5 (i:TI) (hp:List HO) (x:SV):CN fun R=>zmp (R:=R) i hp x:=by
 intro R k
 show zmp i hp x k=(zmp i hp x some).bind k
 unfold zmp
 split
 ·rfl
 ·rfl
 ·rfl
 ·refine zg (m:=fun R=>qr (R:=R) hp _) (qK hp _) fun o=> ?_
  split
  ·rfl
  ·rfl
  ·rfl
 ·rfl
 ·rfl
 ·rfl
 ·rfl
theorem zlj (f:Int→Int→Int): ∀ (l:List SV) (x:SV),CN fun R=>zae (R:=R) f x l
 | [],x=>fun _ _=>rfl
 |y::l,x=>by
  intro R k
  show zae f x (y::l) k=(zae f x (y::l) some).bind k
  cases x with
  |val t a=>
   cases t with
   |int i=>
    cases y with
    |val t' b=>
     cases t' with
     |int j=>exact zlj f l _ R k
     |_=>simp[zae]
    |_=>simp[zae]
   |_=>simp[zae]
  |_=>simp[zae]
theorem zne (s:SV):CN fun R=>s.cellsK (R:=R):=by
 intro R k
 unfold SV.cellsK
 split
 ·exact CN.cond (CN.pure _) CN.none R k
 all_goals rfl
theorem zlk (fs:List (TypeId×Nat×Nat×Bool)): ∀ (l:List (Nat×SV)) (cs:List SV),CN fun R=>zez (R:=R) fs l cs
 | [],cs=>fun _ _=>rfl
 |(i,s)::l,cs=>by
  intro R k
  show zez fs ((i,s)::l) cs k=(zez fs ((i,s)::l) cs some).bind k
  unfold zez
  exact zg (m:=fun R=>qr (R:=R) fs i) (qK fs i) fun p=>zg (m:=fun R=>s.cellsK (R:=R)) (zne s) fun l'=>zf (zlk fs l _ R k) rfl
theorem znf (C:Ctx) (fr:List SV): ∀ (l:List (Nat×Operand)),CN fun R=>zbd (R:=R) C fr l
 | []=>fun _ _=>rfl
 |(i,x)::l=>by
  intro R k
  show zbd C fr ((i,x)::l) k=(zbd C fr ((i,x)::l) some).bind k
  unfold zbd
  exact zg (m:=fun R=>opd (R:=R) C fr x) (zd3 C fr x) fun s=>zg (m:=fun R=>zbd (R:=R) C fr l) (znf C fr l) fun l'=>rfl
section
variable {B R:Type} {C:Ctx} {fr:List SV} {k:B→Option R}
theorem zm (x:Operand) {f:SV→Option R} {g:SV→Option B} (h: ∀ a,f a=(g a).bind k):opd C fr x f=(opd C fr x g).bind k:=zg (m:=fun R=>opd (R:=R) C fr x) (zd3 C fr x) h
theorem zby (x:List Operand) {f:List SV→Option R} {g:List SV→Option B} (h: ∀ a,f a=(g a).bind k):zou C fr x f=(zou C fr x g).bind k:=zg (m:=fun R=>zou (R:=R) C fr x) (zlh C fr x) h
theorem zH (T:TypeId) {f:TI→Option R} {g:TI→Option B} (h: ∀ a,f a=(g a).bind k):zt C.TT T f=(zt C.TT T g).bind k:=zg (m:=fun R=>zt (R:=R) C.TT T) (xg C.TT T) h
end
theorem zpo (C:Ctx) (i:TI) (hp:List HO) (x y:SV) (ok:Bool):CN fun R=>jy (R:=R) C i hp x y ok:=by
 intro R k
 show jy C i hp x y ok k=(jy C i hp x y ok some).bind k
 unfold jy
 split
 ·refine zH _ fun ki=>zH _ fun vi=>zg (m:=fun R=>qr (R:=R) hp _) (qK hp _) fun o=> ?_
  split
  ·refine zf ?_ rfl
   split
   ·exact zf rfl rfl
   ·rfl
  ·rfl
 ·rfl
theorem zud (C:Ctx) (hp:List HO) (T:TypeId) (op:BinOp) (x y:SV) (lit:Bool):CN fun R=>zg0 (R:=R) C hp T op x y lit:=by
 intro R k
 show zg0 C hp T op x y lit k=(zg0 C hp T op x y lit some).bind k
 unfold zg0
 split
 ·unfold zk0
  refine zH _ fun i=>zg (m:=fun R=>qr (R:=R) hp _) (qK hp _) fun o=> ?_
  split<;>rfl
 ·unfold zwq
  split<;>rfl
 ·unfold zqh
  split
  ·rfl
  ·rfl
  ·split<;>rfl
  ·rfl
 ·exact zw3 C T op x y lit R k
theorem zhq (C:Ctx) (fr:List SV) (hp:List HO) (op:Op):CN fun R=>jP (R:=R) C fr hp op:=by
 intro R k
 show jP C fr hp op k=(jP C fr hp op some).bind k
 unfold jP
 split
 ·exact zd3 _ _ _ R k
 ·exact zd3 _ _ _ R k
 ·exact zm _ fun c=>zm _ fun a=>zm _ fun b=>zw4 c a b R k
 ·exact zH _ fun i=>zm _ fun x=>zhp i hp x R k
 ·refine zm _ fun x=> ?_
  split<;>rfl
 ·exact zm _ fun a=>zm _ fun b=>zud C hp _ _ a b _ R k
 ·exact zm _ fun x=>zyx _ x R k
 ·refine zH _ fun _=>zH _ fun i=>zm _ fun x=> ?_
  split<;>rfl
 ·exact zH _ fun i=>zm _ fun x=>zso C fr hp i x _ _ _ R k
 ·exact zH _ fun i=>zm _ fun x=>zi2 i x _ R k
 ·exact zH _ fun i=>zm _ fun x=>zsq i x _ R k
 ·exact zH _ fun i=>zm _ fun x=>zm _ fun n=>zi1 C hp i x n R k
 ·exact zH _ fun i=>zm _ fun x=>zm _ fun n=>zsp C i x n R k
 ·exact zH _ fun i=>zm _ fun x=>zm _ fun n=>zpo C i hp x n _ R k
 ·refine zm _ fun x=> ?_
  split
  ·exact qK _ _ R k
  ·rfl
 ·refine zH _ fun i=>zg (m:=fun R=>zbd (R:=R) C fr _) (znf C fr _) fun ps=> ?_
  split
  ·exact zg (m:=fun R=>zez (R:=R) _ _ _) (zlk _ _ _) fun l=>rfl
  ·exact zH _ fun ei=>zg (m:=fun R=>zez (R:=R) _ _ _) (zlk _ _ _) fun l=>rfl
  ·rfl
 ·split
  ·exact zH _ fun i=>zm _ fun x=>zw5 i hp x R k
  ·exact zm _ fun x=>zby _ fun l=>zlj _ l x R k
  ·exact zm _ fun x=>zby _ fun l=>zlj _ l x R k
  ·refine zm _ fun x=> ?_
   split<;>rfl
  ·refine zm _ fun x=> ?_
   split<;>rfl
  ·refine zm _ fun x=>zm _ fun y=> ?_
   split<;>rfl
  ·rfl
 ·split
  ·exact zby _ fun l=>rfl
  ·rfl
 ·rfl
end Go.Sx
