/- The symbolic evaluator, part V1: what goes on behind an evaluation does not turn it. -/
import Derived.Test.YtlppdabhaipbkaaDoorSxC
set_option linter.unusedVariables false
set_option linter.unusedSimpArgs false
namespace Go.Sx
open Go.RowKit
def CN {A:Type} (m:(R:Type)→(A→Option R)→Option R):Prop:= ∀ (R:Type) (k:A→Option R),m R k=(m A some).bind k
theorem CN.pure {A:Type} (a:A):CN fun R (k:A→Option R)=>k a:=fun _ _=>rfl
theorem CN.none {A:Type}:CN fun R (_:A→Option R)=>(Option.none:Option R):=fun _ _=>rfl
theorem CN.bind {A B:Type} {m:(R:Type)→(A→Option R)→Option R} {f:A→(R:Type)→(B→Option R)→Option R} (hm:CN m) (hf: ∀ a,CN (f a)):CN fun R k=>m R fun a=>f a R k:=by
 intro R k
 show m R (fun a=>f a R k)=(m B fun a=>f a B some).bind k
 rw[hm,hm B]
 cases m A some with
 |none=>rfl
 |some a=>exact hf a R k
theorem CN.cond {A:Type} {b:Bool} {m n:(R:Type)→(A→Option R)→Option R} (hm:CN m) (hn:CN n):CN fun R k=>bif b then m R k else n R k:=by
 intro R k
 cases b
 ·exact hn R k
 ·exact hm R k
theorem qK {A:Type}: ∀ (l:List A) (n:Nat),CN fun R=>qt (R:=R) l n
 | [],n=>by intro R k;cases n<;>rfl
 |x::l,0=>fun _ _=>rfl
 |x::l,n+1=>fun R k=>qK l n R k
theorem xc: ∀ (l:List (TypeId×TI)) (T:TypeId),CN fun R=>zq (R:=R) l T
 | [],T=>fun _ _=>rfl
 |(t,i)::l,T=>by
  intro R k
  show zq ((t,i)::l) T k=(zq ((t,i)::l) T some).bind k
  unfold zq
  cases Nat.beq t T
  ·exact xc l T R k
  ·rfl
theorem zsp: ∀ (l:List (Nat×DV)) (g:Nat),CN fun R=>zkw (R:=R) l g
 | [],T=>fun _ _=>rfl
 |(t,i)::l,T=>by
  intro R k
  show zkw ((t,i)::l) T k=(zkw ((t,i)::l) T some).bind k
  unfold zkw
  cases Nat.beq t T
  ·exact zsp l T R k
  ·rfl
theorem zfc (v:Value):CN fun R=>jQ (R:=R) v:=by
 intro R k
 unfold jQ
 split<;>rfl
theorem zdm: ∀ (l:List Value),CN fun R=>jR (R:=R) l
 | []=>fun _ _=>rfl
 |v::l=>(zfc v).bind fun s=>(zdm l).bind fun l'=>CN.pure _
theorem zqq (v:Value):CN fun R=>zgm (R:=R) v:=by
 intro R k
 unfold zgm
 split
 ·exact((zdm _).bind fun l=>CN.pure _) R k
 ·exact zfc _ R k
theorem zdn (C:Ctx) (fr:List SV) (x:Operand):CN fun R=>opd (R:=R) C fr x:=by
 intro R k
 unfold opd
 split
 ·exact qK _ _ R k
 ·exact zqq _ R k
 ·exact zsp _ _ R k
 ·rfl
theorem zkh (C:Ctx) (fr:List SV): ∀ (l:List Operand),CN fun R=>znp (R:=R) C fr l
 | []=>fun _ _=>rfl
 |x::l=>(zdn C fr x).bind fun s=>(zkh C fr l).bind fun l'=>CN.pure _
theorem zl8 (s:SV):CN fun R=>asB (R:=R) s:=by
 intro R k
 unfold asB
 split<;>rfl
theorem zi3 (s:SV):CN fun R=>asI (R:=R) s:=by
 intro R k
 unfold asI
 split<;>rfl
theorem zu1 (op:BinOp) (i:IntKind) (a b:Int) (lit:Bool):CN fun R=>zq5 (R:=R) op i a b lit:=by
 intro R k
 unfold zq5
 cases op<;>first|rfl|(cases lit<;>first|rfl|(dsimp only[cond_false,cond_true];split<;>rfl))
theorem zqu (op:BinOp) (i:IntKind) (a b:Int) (lit:Bool):CN fun R=>zc4 (R:=R) op i a b lit:=by
 intro R k
 unfold zc4
 cases op<;>first|rfl|(cases lit<;>first|rfl|(dsimp only[cond_false,cond_true];split<;>rfl))
theorem zem (C:Ctx) (T:TypeId) (op:BinOp) (t:Ty) (x y:t.den):CN fun R=>zr5 (R:=R) C T op t x y:=by
 intro R k
 unfold zr5
 cases zdk C 8 T _ with
 |true=>dsimp only[cond_true];split<;>rfl
 |false=>rfl
theorem zg {A B R:Type} {m:(R:Type)→(A→Option R)→Option R} (hm:CN m) {f:A→Option R} {g:A→Option B} {k:B→Option R} (h: ∀ a,f a=(g a).bind k):m R f=(m B g).bind k:=by
 rw[hm R f,hm B g]
 cases m A some with
 |none=>rfl
 |some a=>exact h a
theorem zkg (i:IntKind): ∀ (n:Nat) (l:List SV),CN fun R=>zes (R:=R) i n l
 |0, []=>fun _ _=>rfl
 |n+1,s::l=>by
  intro R k
  cases s with
  |val t x=>cases t with
   |int j=>
    show(if _h:j=i then zes i n l fun xs=>k (x::xs) else none)=(if _h:j=i then zes i n l fun xs=>some (x::xs) else none).bind k
    split
    ·exact zg (m:=fun R=>zes (R:=R) i n l) (zkg i n l) fun xs=>rfl
    ·rfl
   |_=>rfl
  |_=>rfl
 |0,_::_=>fun _ _=>rfl
 |_+1, []=>fun _ _=>rfl
theorem zcz: ∀ (t:Ty) (l:List SV),CN fun R=>zeh (R:=R) t l
 | .int i,l=>by
  intro R k
  cases l with
  |nil=>rfl
  |cons s l=>cases s with
   |val t x=>cases t with
    |int j=>
     show(if _h:j=i then k (x,l) else none)=(if _h:j=i then some (x,l) else none).bind k
     split<;>rfl
    |_=>rfl
   |_=>rfl
 | .bool,l=>by
  cases l with
  |nil=>intro R k;rfl
  |cons s l=>exact(zl8 s).bind fun b=>CN.pure (b,l)
 | .pair a b,l=>(zcz a l).bind fun p=>(zcz b p.2).bind fun q=>CN.pure ((p.1,q.1),q.2)
 | .st f,l=>(zcz f l).bind fun p=>CN.pure (p.1,p.2)
 | .str,_=>fun _ _=>rfl
 | .flt,_=>fun _ _=>rfl
 | .cplx,_=>fun _ _=>rfl
 | .unit,_=>fun _ _=>rfl
 | .sl _,_=>fun _ _=>rfl
 | .osl _,_=>fun _ _=>rfl
 | .arr _ _,_=>fun _ _=>rfl
theorem zuy (C:Ctx) (T:TypeId) (op:BinOp) (x y:SV) (lit:Bool):CN fun R=>zsz (R:=R) C T op x y lit:=by
 intro R k
 unfold zsz
 split
 ·cases hs:xK op with
  |true=>exact zqu _ _ _ _ _ R k
  |false=>
   dsimp only[cond_false]
   split
   ·exact zu1 _ _ _ _ _ R k
   ·rfl
 ·split<;>rfl
 ·split
  ·unfold zr5
   cases zdk C 8 T _ with
   |true=>dsimp only[cond_true];split<;>rfl
   |false=>rfl
  ·rfl
 ·exact zg (m:=fun R=>zes (R:=R) _ _ _) (zkg _ _ _) fun b=>zem _ _ _ _ _ _ _ k
 ·exact zg (m:=fun R=>zes (R:=R) _ _ _) (zkg _ _ _) fun b=>zem _ _ _ _ _ _ _ k
 ·split
  ·exact zem _ _ _ _ _ _ R k
  ·rfl
 ·exact zg (m:=fun R=>zeh (R:=R) _ _) (zcz _ _) fun p=>by
   split
   ·exact zem _ _ _ _ _ _ _ k
   ·rfl
 ·exact zg (m:=fun R=>zeh (R:=R) _ _) (zcz _ _) fun p=>by
   split
   ·exact zem _ _ _ _ _ _ _ k
   ·rfl
 ·exact zg (m:=fun R=>zq (R:=R) C.TT T) (xc C.TT T) fun i=>by
   split
   ·exact zg (m:=fun R=>zeh (R:=R) _ _) (zcz _ _) fun p=>zg (m:=fun R=>zeh (R:=R) _ _) (zcz _ _) fun q=>by
     split
     ·exact zem _ _ _ _ _ _ _ k
     ·rfl
   ·rfl
 ·rename_i xs
  exact((xc C.TT T).bind (f:=fun i R (k:SV→Option R)=>match i.kind,op with
   | .slice _, .eql=>k (.ub true (Nat.beq xs.length 0))
   | .slice _, .neq=>k (.ub false (Nat.beq xs.length 0))
   |_,_=>Option.none) fun i=>by intro R k;dsimp only;split<;>rfl) R k
 ·exact((xc C.TT T).bind (f:=fun i R (k:SV→Option R)=>match i.kind,op with
   | .ptr _, .eql=>k (.bit true)
   | .ptr _, .neq=>k (.bit false)
   |_,_=>Option.none) fun i=>by intro R k;dsimp only;split<;>rfl) R k
 ·exact((xc C.TT T).bind (f:=fun i R (k:SV→Option R)=>match i.kind,op with
   | .ptr _, .eql=>k (.bit false)
   | .ptr _, .neq=>k (.bit true)
   |_,_=>Option.none) fun i=>by intro R k;dsimp only;split<;>rfl) R k
 ·exact((xc C.TT T).bind (f:=fun i R (k:SV→Option R)=>asB x fun a=>asB y fun b=>match i.kind,op with
   | .bool, .eql=>k (.val .bool (a==b))
   | .bool, .neq=>k (.val .bool (!(a==b)))
   |_,_=>Option.none) fun i=>(zl8 x).bind fun a=>(zl8 y).bind fun b=>by intro R k;dsimp only;split<;>rfl) R k
theorem zwy (op:UnOp) (x:SV):CN fun R=>zx0 (R:=R) op x:=by
 intro R k
 unfold zx0
 split<;>rfl
theorem zu3 (c a b:SV):CN fun R=>zro (R:=R) c a b:=by
 intro R k
 unfold zro
 split
 ·rfl
 ·rfl
 ·split
  ·split<;>rfl
  ·exact((zl8 a).bind fun x=>(zl8 b).bind fun y=>CN.pure _) R k
 ·rfl
theorem zgk (i:TI) (hp:List HO) (x:SV):CN fun R=>xC (R:=R) i hp x:=by
 intro R k
 unfold xC
 split
 ·cases fits i _<;>rfl
 ·rename_i id off
  exact((qK hp id).bind (f:=fun o R (k:SV→Option R)=>match o with
   | .cells l=>bif i.kind.isAgg then(bif Nat.ble (off+i.size) l.length then k (.agg ((l.drop off).take i.size)) else Option.none) else(bif Nat.beq i.size 1 then qt l off k else Option.none)
   |_=>Option.none) fun o=>by
    intro R k
    dsimp only
    split
    ·cases i.kind.isAgg
     ·cases Nat.beq i.size 1
      ·rfl
      ·exact qK _ _ R k
     ·rename_i l
      cases Nat.ble (off+i.size) l.length<;>rfl
    ·rfl) R k
 ·rename_i id t j p
  exact((qK hp id).bind (f:=fun o R (k:SV→Option R)=>match o with
   | .arr _ t' xs=>if h:t'=t then(match zcs p t ((h▸xs:List t.den).getD j t.dflt) with
    |some d=>bif fits i d.t then(bif d.t.noOwn then k (.val d.t d.x) else k (.val d.t.er (d.t.erD d.x))) else Option.none
    |Option.none=>Option.none) else Option.none
   |_=>Option.none) fun o=>by
    intro R k
    dsimp only
    split
    ·split
     ·split
      ·rename_i d _
       cases fits i d.t<;>cases d.t.noOwn<;>rfl
      ·rfl
     ·rfl
    ·rfl) R k
 ·rfl
theorem zsq (C:Ctx) (fr:List SV) (x:Option Operand) (d:Int):CN fun R=>zuo (R:=R) C fr x d:=by
 intro R k
 unfold zuo
 cases x with
 |none=>rfl
 |some x=>exact((zdn C fr x).bind fun s=>zi3 s) R k
theorem zM {B R:Type} {c:Prop} [Decidable c] {a b:Option R} {a' b':Option B} {k:B→Option R} (h1:a=a'.bind k) (h2:b=b'.bind k):(if c then a else b)=(if c then a' else b').bind k:=by
 by_cases h:c
 ·simp only[if_pos h,h1]
 ·simp only[if_neg h,h2]
theorem zf {B R:Type} {c:Bool} {a b:Option R} {a' b':Option B} {k:B→Option R} (h1:a=a'.bind k) (h2:b=b'.bind k):(bif c then a else b)=(bif c then a' else b').bind k:=by
 cases c
 ·exact h2
 ·exact h1
theorem xS {B R:Type} (C:Ctx) (fr:List SV) (y:Operand) {f:Int→Option R} {g:Int→Option B} {k:B→Option R} (h: ∀ a,f a=(g a).bind k):
  (opd C fr y fun s=>asI s f)=(opd C fr y fun s=>asI s g).bind k:=
 zg (m:=fun R=>opd (R:=R) C fr y) (zdn C fr y) fun s=>zg (m:=fun R=>asI (R:=R) s) (zi3 s) h
theorem zqv (C:Ctx) (fr:List SV) (hp:List HO) (i:TI) (x:SV) (lo hi mx:Option Operand):CN fun R=>zbn (R:=R) C fr hp i x lo hi mx:=by
 intro R k
 show zbn C fr hp i x lo hi mx k=(zbn C fr hp i x lo hi mx some).bind k
 unfold zbn
 split
 ·refine zg (m:=fun R=>zq (R:=R) C.TT _) (xc C.TT _) fun ei=> ?_
  split
  ·refine zf ?_ rfl
   split
   ·split
    ·rfl
    ·rfl
   ·cases hi with
    |none=>
     cases lo with
     |none=>rfl
     |some y=>exact xS C fr y fun n=>zM rfl rfl
    |some h=>
     refine xS C fr h fun n=>zM ?_ rfl
     cases lo with
     |none=>rfl
     |some y=>exact xS C fr y fun n=>zM rfl rfl
   ·rename_i m _
    refine xS C fr m fun n=>zM ?_ rfl
    cases hi with
    |none=>rfl
    |some h=>exact xS C fr h fun n=>zM (zg (m:=fun R=>zuo (R:=R) C fr lo 0) (zsq C fr lo 0) fun l=>zM rfl rfl) rfl
  ·cases mx with
   |some m=>rfl
   |none=>
    cases lo with
    |some y=>
     refine zg (m:=fun R=>qt (R:=R) hp _) (qK hp _) fun o=> ?_
     split
     ·refine zf ?_ rfl
      cases hi with
      |none=>exact xS C fr y fun n=>zM rfl rfl
      |some h=>exact xS C fr h fun n=>zM (xS C fr y fun m=>zM rfl rfl) rfl
     ·rfl
    |none=>
     refine zg (m:=fun R=>qt (R:=R) hp _) (qK hp _) fun o=> ?_
     split
     ·cases hi with
      |none=>rfl
      |some h=>exact xS C fr h fun n=>zM rfl rfl
     ·rfl
  ·rfl
 ·rfl
theorem zif (C:Ctx) (hp:List HO) (i:TI) (x ix:SV):CN fun R=>qs (R:=R) C hp i x ix:=by
 intro R k
 show qs C hp i x ix k=(qs C hp i x ix some).bind k
 unfold qs
 refine zg (m:=fun R=>asI (R:=R) ix) (zi3 ix) fun n=> ?_
 split
 ·refine zg (m:=fun R=>zq (R:=R) C.TT _) (xc C.TT _) fun ei=> ?_
  split
  ·exact zf (zM rfl rfl) rfl
  ·refine zg (m:=fun R=>qt (R:=R) hp _) (qK hp _) fun o=> ?_
   split
   ·exact zf (zM rfl rfl) rfl
   ·rfl
  ·exact zf (zM rfl rfl) rfl
  ·rfl
 ·refine zg (m:=fun R=>zq (R:=R) C.TT _) (xc C.TT _) fun ei=> ?_
  split
  ·exact zf (zM rfl rfl) rfl
  ·exact zM rfl rfl
  ·rfl
 ·rfl
theorem zqt (C:Ctx) (i:TI) (x ix:SV):CN fun R=>zc2 (R:=R) C i x ix:=by
 intro R k
 show zc2 C i x ix k=(zc2 C i x ix some).bind k
 unfold zc2
 refine zg (m:=fun R=>asI (R:=R) ix) (zi3 ix) fun n=> ?_
 split
 ·refine zg (m:=fun R=>zq (R:=R) C.TT _) (xc C.TT _) fun ei=> ?_
  split
  ·exact zf (zM rfl rfl) rfl
  ·rfl
 ·split
  ·exact zM rfl rfl
  ·rfl
 ·rfl
theorem zqs (i:TI) (x:SV) (f:Nat):CN fun R=>zc1 (R:=R) i x f:=by
 intro R k
 show zc1 i x f k=(zc1 i x f some).bind k
 unfold zc1
 split
 ·rename_i fs _
  refine zg (m:=fun R=>qt (R:=R) fs f) (qK fs f) fun p=> ?_
  obtain⟨T,off,size,agg⟩:=p
  dsimp only
  split
  ·exact zf (zf rfl rfl) (qK _ _ R k)
  ·split
   ·exact zf rfl rfl
   ·rfl
  ·rfl
 ·rfl
theorem zie (i:TI) (x:SV) (f:Nat):CN fun R=>qP (R:=R) i x f:=by
 intro R k
 show qP i x f k=(qP i x f some).bind k
 unfold qP
 split
 ·rename_i fs _
  refine zg (m:=fun R=>qt (R:=R) fs f) (qK fs f) fun p=> ?_
  obtain⟨T,off,size,agg⟩:=p
  dsimp only
  refine zf rfl ?_
  split
  ·rfl
  ·split
   ·exact zf rfl rfl
   ·rfl
  ·split
   ·exact zf rfl rfl
   ·rfl
  ·rfl
 ·rfl
theorem zu2 (i:TI) (hp:List HO) (x:SV):CN fun R=>zmj (R:=R) i hp x:=by
 intro R k
 show zmj i hp x k=(zmj i hp x some).bind k
 unfold zmj
 split
 ·rfl
 ·rfl
 ·rfl
 ·refine zg (m:=fun R=>qt (R:=R) hp _) (qK hp _) fun o=> ?_
  split
  ·rfl
  ·rfl
  ·rfl
 ·rfl
 ·rfl
 ·rfl
 ·rfl
theorem zke (f:Int→Int→Int): ∀ (l:List SV) (x:SV),CN fun R=>zae (R:=R) f x l
 | [],x=>fun _ _=>rfl
 |y::l,x=>by
  intro R k
  show zae f x (y::l) k=(zae f x (y::l) some).bind k
  cases x with
  |val t a=>
   cases t with
   |int i=>
    cases y with
    |val t' b=>
     cases t' with
     |int j=>exact zke f l _ R k
     |_=>simp[zae]
    |_=>simp[zae]
   |_=>simp[zae]
  |_=>simp[zae]
theorem zl9 (s:SV):CN fun R=>s.cellsK (R:=R):=by
 intro R k
 unfold SV.cellsK
 split
 ·exact CN.cond (CN.pure _) CN.none R k
 all_goals rfl
theorem zkf (fs:List (TypeId×Nat×Nat×Bool)): ∀ (l:List (Nat×SV)) (cs:List SV),CN fun R=>zep (R:=R) fs l cs
 | [],cs=>fun _ _=>rfl
 |(i,s)::l,cs=>by
  intro R k
  show zep fs ((i,s)::l) cs k=(zep fs ((i,s)::l) cs some).bind k
  unfold zep
  exact zg (m:=fun R=>qt (R:=R) fs i) (qK fs i) fun p=>zg (m:=fun R=>s.cellsK (R:=R)) (zl9 s) fun l'=>zf (zkf fs l _ R k) rfl
theorem zmd (C:Ctx) (fr:List SV): ∀ (l:List (Nat×Operand)),CN fun R=>zbv (R:=R) C fr l
 | []=>fun _ _=>rfl
 |(i,x)::l=>by
  intro R k
  show zbv C fr ((i,x)::l) k=(zbv C fr ((i,x)::l) some).bind k
  unfold zbv
  exact zg (m:=fun R=>opd (R:=R) C fr x) (zdn C fr x) fun s=>zg (m:=fun R=>zbv (R:=R) C fr l) (zmd C fr l) fun l'=>rfl
section
variable {B R:Type} {C:Ctx} {fr:List SV} {k:B→Option R}
theorem zj (x:Operand) {f:SV→Option R} {g:SV→Option B} (h: ∀ a,f a=(g a).bind k):opd C fr x f=(opd C fr x g).bind k:=zg (m:=fun R=>opd (R:=R) C fr x) (zdn C fr x) h
theorem zbu (x:List Operand) {f:List SV→Option R} {g:List SV→Option B} (h: ∀ a,f a=(g a).bind k):znp C fr x f=(znp C fr x g).bind k:=zg (m:=fun R=>znp (R:=R) C fr x) (zkh C fr x) h
theorem zG (T:TypeId) {f:TI→Option R} {g:TI→Option B} (h: ∀ a,f a=(g a).bind k):zq C.TT T f=(zq C.TT T g).bind k:=zg (m:=fun R=>zq (R:=R) C.TT T) (xc C.TT T) h
end
theorem zn4 (C:Ctx) (i:TI) (hp:List HO) (x y:SV) (ok:Bool):CN fun R=>jB (R:=R) C i hp x y ok:=by
 intro R k
 show jB C i hp x y ok k=(jB C i hp x y ok some).bind k
 unfold jB
 split
 ·refine zG _ fun ki=>zG _ fun vi=>zg (m:=fun R=>qt (R:=R) hp _) (qK hp _) fun o=> ?_
  split
  ·refine zf ?_ rfl
   split
   ·exact zf rfl rfl
   ·rfl
  ·rfl
 ·rfl
theorem zsk (C:Ctx) (hp:List HO) (T:TypeId) (op:BinOp) (x y:SV) (lit:Bool):CN fun R=>zgt (R:=R) C hp T op x y lit:=by
 intro R k
 show zgt C hp T op x y lit k=(zgt C hp T op x y lit some).bind k
 unfold zgt
 split
 ·unfold zks
  refine zG _ fun i=>zg (m:=fun R=>qt (R:=R) hp _) (qK hp _) fun o=> ?_
  split<;>rfl
 ·unfold zu8
  split<;>rfl
 ·unfold zpm
  split
  ·rfl
  ·rfl
  ·split<;>rfl
  ·rfl
 ·exact zuy C T op x y lit R k
theorem zgl (C:Ctx) (fr:List SV) (hp:List HO) (op:Op):CN fun R=>jU (R:=R) C fr hp op:=by
 intro R k
 show jU C fr hp op k=(jU C fr hp op some).bind k
 unfold jU
 split
 ·exact zdn _ _ _ R k
 ·exact zdn _ _ _ R k
 ·exact zj _ fun c=>zj _ fun a=>zj _ fun b=>zu3 c a b R k
 ·exact zG _ fun i=>zj _ fun x=>zgk i hp x R k
 ·refine zj _ fun x=> ?_
  split<;>rfl
 ·exact zj _ fun a=>zj _ fun b=>zsk C hp _ _ a b _ R k
 ·exact zj _ fun x=>zwy _ x R k
 ·refine zG _ fun _=>zG _ fun i=>zj _ fun x=> ?_
  split<;>rfl
 ·exact zG _ fun i=>zj _ fun x=>zqv C fr hp i x _ _ _ R k
 ·exact zG _ fun i=>zj _ fun x=>zie i x _ R k
 ·exact zG _ fun i=>zj _ fun x=>zqs i x _ R k
 ·exact zG _ fun i=>zj _ fun x=>zj _ fun n=>zif C hp i x n R k
 ·exact zG _ fun i=>zj _ fun x=>zj _ fun n=>zqt C i x n R k
 ·exact zG _ fun i=>zj _ fun x=>zj _ fun n=>zn4 C i hp x n _ R k
 ·refine zj _ fun x=> ?_
  split
  ·exact qK _ _ R k
  ·rfl
 ·refine zG _ fun i=>zg (m:=fun R=>zbv (R:=R) C fr _) (zmd C fr _) fun ps=> ?_
  split
  ·exact zg (m:=fun R=>zep (R:=R) _ _ _) (zkf _ _ _) fun l=>rfl
  ·exact zG _ fun ei=>zg (m:=fun R=>zep (R:=R) _ _ _) (zkf _ _ _) fun l=>rfl
  ·rfl
 ·split
  ·exact zG _ fun i=>zj _ fun x=>zu2 i hp x R k
  ·exact zj _ fun x=>zbu _ fun l=>zke _ l x R k
  ·exact zj _ fun x=>zbu _ fun l=>zke _ l x R k
  ·refine zj _ fun x=> ?_
   split<;>rfl
  ·refine zj _ fun x=> ?_
   split<;>rfl
  ·refine zj _ fun x=>zj _ fun y=> ?_
   split<;>rfl
  ·rfl
 ·split
  ·exact zbu _ fun l=>rfl
  ·rfl
 ·rfl
end Go.Sx
