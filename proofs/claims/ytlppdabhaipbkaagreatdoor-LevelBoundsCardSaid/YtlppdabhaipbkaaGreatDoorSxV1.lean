/- The symbolic evaluator, part V1: what goes on behind an evaluation does not turn it. -/
import Derived.Test.YtlppdabhaipbkaaGreatDoorSxC
set_option linter.unusedVariables false
set_option linter.unusedSimpArgs false
namespace Go.Sx
open Go.RowKit
def CN {A:Type} (m:(R:Type)→(A→Option R)→Option R):Prop:= ∀ (R:Type) (k:A→Option R),m R k=(m A some).bind k
theorem CN.pure {A:Type} (a:A):CN fun R (k:A→Option R)=>k a:=fun _ _=>rfl
theorem CN.none {A:Type}:CN fun R (_:A→Option R)=>(Option.none:Option R):=fun _ _=>rfl
theorem CN.bind {A B:Type} {m:(R:Type)→(A→Option R)→Option R} {f:A→(R:Type)→(B→Option R)→Option R} (hm:CN m) (hf: ∀ a,CN (f a)):CN fun R k=>m R fun a=>f a R k:=by
 intro R k
 show m R (fun a=>f a R k)=(m B fun a=>f a B some).bind k
 rw[hm,hm B]
 cases m A some with
 |none=>rfl
 |some a=>exact hf a R k
theorem CN.cond {A:Type} {b:Bool} {m n:(R:Type)→(A→Option R)→Option R} (hm:CN m) (hn:CN n):CN fun R k=>bif b then m R k else n R k:=by
 intro R k
 cases b
 ·exact hn R k
 ·exact hm R k
theorem qN {A:Type}: ∀ (l:List A) (n:Nat),CN fun R=>qx (R:=R) l n
 | [],n=>by intro R k;cases n<;>rfl
 |x::l,0=>fun _ _=>rfl
 |x::l,n+1=>fun R k=>qN l n R k
theorem xi: ∀ (l:List (TypeId×TI)) (T:TypeId),CN fun R=>zr (R:=R) l T
 | [],T=>fun _ _=>rfl
 |(t,i)::l,T=>by
  intro R k
  show zr ((t,i)::l) T k=(zr ((t,i)::l) T some).bind k
  unfold zr
  cases Nat.beq t T
  ·exact xi l T R k
  ·rfl
theorem ztd: ∀ (l:List (Nat×DV)) (g:Nat),CN fun R=>zlj (R:=R) l g
 | [],T=>fun _ _=>rfl
 |(t,i)::l,T=>by
  intro R k
  show zlj ((t,i)::l) T k=(zlj ((t,i)::l) T some).bind k
  unfold zlj
  cases Nat.beq t T
  ·exact ztd l T R k
  ·rfl
theorem zfw (v:Value):CN fun R=>jW (R:=R) v:=by
 intro R k
 unfold jW
 split<;>rfl
theorem zdv: ∀ (l:List Value),CN fun R=>jX (R:=R) l
 | []=>fun _ _=>rfl
 |v::l=>(zfw v).bind fun s=>(zdv l).bind fun l'=>CN.pure _
theorem zrf (v:Value):CN fun R=>zhd (R:=R) v:=by
 intro R k
 unfold zhd
 split
 ·exact((zdv _).bind fun l=>CN.pure _) R k
 ·exact zfw _ R k
theorem zdw (C:Ctx) (fr:List SV) (x:Operand):CN fun R=>opd (R:=R) C fr x:=by
 intro R k
 unfold opd
 split
 ·exact qN _ _ R k
 ·exact zrf _ R k
 ·exact ztd _ _ R k
 ·rfl
theorem zk4 (C:Ctx) (fr:List SV): ∀ (l:List Operand),CN fun R=>zn9 (R:=R) C fr l
 | []=>fun _ _=>rfl
 |x::l=>(zdw C fr x).bind fun s=>(zk4 C fr l).bind fun l'=>CN.pure _
theorem zms (s:SV):CN fun R=>asB (R:=R) s:=by
 intro R k
 unfold asB
 split<;>rfl
theorem zjo (s:SV):CN fun R=>asI (R:=R) s:=by
 intro R k
 unfold asI
 split<;>rfl
theorem zv7 (op:BinOp) (i:IntKind) (a b:Int) (lit:Bool):CN fun R=>zrt (R:=R) op i a b lit:=by
 intro R k
 unfold zrt
 cases op<;>first|rfl|(cases lit<;>first|rfl|(dsimp only[cond_false,cond_true];split<;>rfl))
theorem zrj (op:BinOp) (i:IntKind) (a b:Int) (lit:Bool):CN fun R=>zdc (R:=R) op i a b lit:=by
 intro R k
 unfold zdc
 cases op<;>first|rfl|(cases lit<;>first|rfl|(dsimp only[cond_false,cond_true];split<;>rfl))
theorem zey (C:Ctx) (T:TypeId) (op:BinOp) (t:Ty) (x y:t.den):CN fun R=>zsr (R:=R) C T op t x y:=by
 intro R k
 unfold zsr
 cases zdt C 8 T _ with
 |true=>dsimp only[cond_true];split<;>rfl
 |false=>rfl
theorem zg {A B R:Type} {m:(R:Type)→(A→Option R)→Option R} (hm:CN m) {f:A→Option R} {g:A→Option B} {k:B→Option R} (h: ∀ a,f a=(g a).bind k):m R f=(m B g).bind k:=by
 rw[hm R f,hm B g]
 cases m A some with
 |none=>rfl
 |some a=>exact h a
theorem zk3 (i:IntKind): ∀ (n:Nat) (l:List SV),CN fun R=>ze6 (R:=R) i n l
 |0, []=>fun _ _=>rfl
 |n+1,s::l=>by
  intro R k
  cases s with
  |val t x=>cases t with
   |int j=>
    show(if _h:j=i then ze6 i n l fun xs=>k (x::xs) else none)=(if _h:j=i then ze6 i n l fun xs=>some (x::xs) else none).bind k
    split
    ·exact zg (m:=fun R=>ze6 (R:=R) i n l) (zk3 i n l) fun xs=>rfl
    ·rfl
   |_=>rfl
  |_=>rfl
 |0,_::_=>fun _ _=>rfl
 |_+1, []=>fun _ _=>rfl
theorem zc7: ∀ (t:Ty) (l:List SV),CN fun R=>zes (R:=R) t l
 | .int i,l=>by
  intro R k
  cases l with
  |nil=>rfl
  |cons s l=>cases s with
   |val t x=>cases t with
    |int j=>
     show(if _h:j=i then k (x,l) else none)=(if _h:j=i then some (x,l) else none).bind k
     split<;>rfl
    |_=>rfl
   |_=>rfl
 | .bool,l=>by
  cases l with
  |nil=>intro R k;rfl
  |cons s l=>exact(zms s).bind fun b=>CN.pure (b,l)
 | .pair a b,l=>(zc7 a l).bind fun p=>(zc7 b p.2).bind fun q=>CN.pure ((p.1,q.1),q.2)
 | .st f,l=>(zc7 f l).bind fun p=>CN.pure (p.1,p.2)
 | .str,_=>fun _ _=>rfl
 | .flt,_=>fun _ _=>rfl
 | .cplx,_=>fun _ _=>rfl
 | .unit,_=>fun _ _=>rfl
 | .sl _,_=>fun _ _=>rfl
 | .osl _,_=>fun _ _=>rfl
 | .arr _ _,_=>fun _ _=>rfl
theorem zv4 (C:Ctx) (T:TypeId) (op:BinOp) (x y:SV) (lit:Bool):CN fun R=>ztm (R:=R) C T op x y lit:=by
 intro R k
 unfold ztm
 split
 ·cases hs:xO op with
  |true=>exact zrj _ _ _ _ _ R k
  |false=>
   dsimp only[cond_false]
   split
   ·exact zv7 _ _ _ _ _ R k
   ·rfl
 ·split<;>rfl
 ·split
  ·unfold zsr
   cases zdt C 8 T _ with
   |true=>dsimp only[cond_true];split<;>rfl
   |false=>rfl
  ·rfl
 ·exact zg (m:=fun R=>ze6 (R:=R) _ _ _) (zk3 _ _ _) fun b=>zey _ _ _ _ _ _ _ k
 ·exact zg (m:=fun R=>ze6 (R:=R) _ _ _) (zk3 _ _ _) fun b=>zey _ _ _ _ _ _ _ k
 ·split
  ·exact zey _ _ _ _ _ _ R k
  ·rfl
 ·exact zg (m:=fun R=>zes (R:=R) _ _) (zc7 _ _) fun p=>by
   split
   ·exact zey _ _ _ _ _ _ _ k
   ·rfl
 ·exact zg (m:=fun R=>zes (R:=R) _ _) (zc7 _ _) fun p=>by
   split
   ·exact zey _ _ _ _ _ _ _ k
   ·rfl
 ·exact zg (m:=fun R=>zr (R:=R) C.TT T) (xi C.TT T) fun i=>by
   split
   ·exact zg (m:=fun R=>zes (R:=R) _ _) (zc7 _ _) fun p=>zg (m:=fun R=>zes (R:=R) _ _) (zc7 _ _) fun q=>by
     split
     ·exact zey _ _ _ _ _ _ _ k
     ·rfl
   ·rfl
 ·rename_i xs
  exact((xi C.TT T).bind (f:=fun i R (k:SV→Option R)=>match i.kind,op with
   | .slice _, .eql=>k (.ub true (Nat.beq xs.length 0))
   | .slice _, .neq=>k (.ub false (Nat.beq xs.length 0))
   |_,_=>Option.none) fun i=>by intro R k;dsimp only;split<;>rfl) R k
 ·exact((xi C.TT T).bind (f:=fun i R (k:SV→Option R)=>match i.kind,op with
   | .ptr _, .eql=>k (.bit true)
   | .ptr _, .neq=>k (.bit false)
   |_,_=>Option.none) fun i=>by intro R k;dsimp only;split<;>rfl) R k
 ·exact((xi C.TT T).bind (f:=fun i R (k:SV→Option R)=>match i.kind,op with
   | .ptr _, .eql=>k (.bit false)
   | .ptr _, .neq=>k (.bit true)
   |_,_=>Option.none) fun i=>by intro R k;dsimp only;split<;>rfl) R k
 ·exact((xi C.TT T).bind (f:=fun i R (k:SV→Option R)=>asB x fun a=>asB y fun b=>match i.kind,op with
   | .bool, .eql=>k (.val .bool (a==b))
   | .bool, .neq=>k (.val .bool (!(a==b)))
   |_,_=>Option.none) fun i=>(zms x).bind fun a=>(zms y).bind fun b=>by intro R k;dsimp only;split<;>rfl) R k
theorem zx0 (op:UnOp) (x:SV):CN fun R=>zza (R:=R) op x:=by
 intro R k
 unfold zza
 split<;>rfl
theorem zv9 (c a b:SV):CN fun R=>zsc (R:=R) c a b:=by
 intro R k
 unfold zsc
 split
 ·rfl
 ·rfl
 ·split
  ·split<;>rfl
  ·exact((zms a).bind fun x=>(zms b).bind fun y=>CN.pure _) R k
 ·rfl
theorem zhb (i:TI) (hp:List HO) (x:SV):CN fun R=>xE (R:=R) i hp x:=by
 intro R k
 unfold xE
 split
 ·cases fits i _<;>rfl
 ·rename_i id off
  exact((qN hp id).bind (f:=fun o R (k:SV→Option R)=>match o with
   | .cells l=>bif i.kind.isAgg then(bif Nat.ble (off+i.size) l.length then k (.agg ((l.drop off).take i.size)) else Option.none) else(bif Nat.beq i.size 1 then qx l off k else Option.none)
   |_=>Option.none) fun o=>by
    intro R k
    dsimp only
    split
    ·cases i.kind.isAgg
     ·cases Nat.beq i.size 1
      ·rfl
      ·exact qN _ _ R k
     ·rename_i l
      cases Nat.ble (off+i.size) l.length<;>rfl
    ·rfl) R k
 ·rename_i id t j p
  exact((qN hp id).bind (f:=fun o R (k:SV→Option R)=>match o with
   | .arr _ t' xs=>if h:t'=t then(match zc0 p t ((h▸xs:List t.den).getD j t.dflt) with
    |some d=>bif fits i d.t then(bif d.t.noOwn then k (.val d.t d.x) else k (.val d.t.er (d.t.erD d.x))) else Option.none
    |Option.none=>Option.none) else Option.none
   |_=>Option.none) fun o=>by
    intro R k
    dsimp only
    split
    ·split
     ·split
      ·rename_i d _
       cases fits i d.t<;>cases d.t.noOwn<;>rfl
      ·rfl
     ·rfl
    ·rfl) R k
 ·rfl
theorem zte (C:Ctx) (fr:List SV) (x:Option Operand) (d:Int):CN fun R=>zvt (R:=R) C fr x d:=by
 intro R k
 unfold zvt
 cases x with
 |none=>rfl
 |some x=>exact((zdw C fr x).bind fun s=>zjo s) R k
theorem zM {B R:Type} {c:Prop} [Decidable c] {a b:Option R} {a' b':Option B} {k:B→Option R} (h1:a=a'.bind k) (h2:b=b'.bind k):(if c then a else b)=(if c then a' else b').bind k:=by
 by_cases h:c
 ·simp only[if_pos h,h1]
 ·simp only[if_neg h,h2]
theorem zf {B R:Type} {c:Bool} {a b:Option R} {a' b':Option B} {k:B→Option R} (h1:a=a'.bind k) (h2:b=b'.bind k):(bif c then a else b)=(bif c then a' else b').bind k:=by
 cases c
 ·exact h2
 ·exact h1
theorem xX {B R:Type} (C:Ctx) (fr:List SV) (y:Operand) {f:Int→Option R} {g:Int→Option B} {k:B→Option R} (h: ∀ a,f a=(g a).bind k):
  (opd C fr y fun s=>asI s f)=(opd C fr y fun s=>asI s g).bind k:=
 zg (m:=fun R=>opd (R:=R) C fr y) (zdw C fr y) fun s=>zg (m:=fun R=>asI (R:=R) s) (zjo s) h
theorem zrk (C:Ctx) (fr:List SV) (hp:List HO) (i:TI) (x:SV) (lo hi mx:Option Operand):CN fun R=>zbx (R:=R) C fr hp i x lo hi mx:=by
 intro R k
 show zbx C fr hp i x lo hi mx k=(zbx C fr hp i x lo hi mx some).bind k
 unfold zbx
 split
 ·refine zg (m:=fun R=>zr (R:=R) C.TT _) (xi C.TT _) fun ei=> ?_
  split
  ·refine zf ?_ rfl
   split
   ·split
    ·rfl
    ·rfl
   ·cases hi with
    |none=>
     cases lo with
     |none=>rfl
     |some y=>exact xX C fr y fun n=>zM rfl rfl
    |some h=>
     refine xX C fr h fun n=>zM ?_ rfl
     cases lo with
     |none=>rfl
     |some y=>exact xX C fr y fun n=>zM rfl rfl
   ·rename_i m _
    refine xX C fr m fun n=>zM ?_ rfl
    cases hi with
    |none=>rfl
    |some h=>exact xX C fr h fun n=>zM (zg (m:=fun R=>zvt (R:=R) C fr lo 0) (zte C fr lo 0) fun l=>zM rfl rfl) rfl
  ·cases mx with
   |some m=>rfl
   |none=>
    cases lo with
    |some y=>
     refine zg (m:=fun R=>qx (R:=R) hp _) (qN hp _) fun o=> ?_
     split
     ·refine zf ?_ rfl
      cases hi with
      |none=>exact xX C fr y fun n=>zM rfl rfl
      |some h=>exact xX C fr h fun n=>zM (xX C fr y fun m=>zM rfl rfl) rfl
     ·rfl
    |none=>
     refine zg (m:=fun R=>qx (R:=R) hp _) (qN hp _) fun o=> ?_
     split
     ·cases hi with
      |none=>rfl
      |some h=>exact xX C fr h fun n=>zM rfl rfl
     ·rfl
  ·rfl
 ·rfl
theorem zi3 (C:Ctx) (hp:List HO) (i:TI) (x ix:SV):CN fun R=>qw (R:=R) C hp i x ix:=by
 intro R k
 show qw C hp i x ix k=(qw C hp i x ix some).bind k
 unfold qw
 refine zg (m:=fun R=>asI (R:=R) ix) (zjo ix) fun n=> ?_
 split
 ·refine zg (m:=fun R=>zr (R:=R) C.TT _) (xi C.TT _) fun ei=> ?_
  split
  ·exact zf (zM rfl rfl) rfl
  ·refine zg (m:=fun R=>qx (R:=R) hp _) (qN hp _) fun o=> ?_
   split
   ·exact zf (zM rfl rfl) rfl
   ·rfl
  ·exact zf (zM rfl rfl) rfl
  ·rfl
 ·refine zg (m:=fun R=>zr (R:=R) C.TT _) (xi C.TT _) fun ei=> ?_
  split
  ·exact zf (zM rfl rfl) rfl
  ·exact zM rfl rfl
  ·rfl
 ·rfl
theorem zri (C:Ctx) (i:TI) (x ix:SV):CN fun R=>zda (R:=R) C i x ix:=by
 intro R k
 show zda C i x ix k=(zda C i x ix some).bind k
 unfold zda
 refine zg (m:=fun R=>asI (R:=R) ix) (zjo ix) fun n=> ?_
 split
 ·refine zg (m:=fun R=>zr (R:=R) C.TT _) (xi C.TT _) fun ei=> ?_
  split
  ·exact zf (zM rfl rfl) rfl
  ·rfl
 ·split
  ·exact zM rfl rfl
  ·rfl
 ·rfl
theorem zrh (i:TI) (x:SV) (f:Nat):CN fun R=>zc9 (R:=R) i x f:=by
 intro R k
 show zc9 i x f k=(zc9 i x f some).bind k
 unfold zc9
 split
 ·rename_i fs _
  refine zg (m:=fun R=>qx (R:=R) fs f) (qN fs f) fun p=> ?_
  obtain⟨T,off,size,agg⟩:=p
  dsimp only
  split
  ·exact zf (zf rfl rfl) (qN _ _ R k)
  ·split
   ·exact zf rfl rfl
   ·rfl
  ·rfl
 ·rfl
theorem zi2 (i:TI) (x:SV) (f:Nat):CN fun R=>qU (R:=R) i x f:=by
 intro R k
 show qU i x f k=(qU i x f some).bind k
 unfold qU
 split
 ·rename_i fs _
  refine zg (m:=fun R=>qx (R:=R) fs f) (qN fs f) fun p=> ?_
  obtain⟨T,off,size,agg⟩:=p
  dsimp only
  refine zf rfl ?_
  split
  ·rfl
  ·split
   ·exact zf rfl rfl
   ·rfl
  ·split
   ·exact zf rfl rfl
   ·rfl
  ·rfl
 ·rfl
theorem zv8 (i:TI) (hp:List HO) (x:SV):CN fun R=>zm3 (R:=R) i hp x:=by
 intro R k
 show zm3 i hp x k=(zm3 i hp x some).bind k
 unfold zm3
 split
 ·rfl
 ·rfl
 ·rfl
 ·refine zg (m:=fun R=>qx (R:=R) hp _) (qN hp _) fun o=> ?_
  split
  ·rfl
  ·rfl
  ·rfl
 ·rfl
 ·rfl
 ·rfl
 ·rfl
theorem zk1 (f:Int→Int→Int): ∀ (l:List SV) (x:SV),CN fun R=>zan (R:=R) f x l
 | [],x=>fun _ _=>rfl
 |y::l,x=>by
  intro R k
  show zan f x (y::l) k=(zan f x (y::l) some).bind k
  cases x with
  |val t a=>
   cases t with
   |int i=>
    cases y with
    |val t' b=>
     cases t' with
     |int j=>exact zk1 f l _ R k
     |_=>simp[zan]
    |_=>simp[zan]
   |_=>simp[zan]
  |_=>simp[zan]
theorem zmt (s:SV):CN fun R=>s.cellsK (R:=R):=by
 intro R k
 unfold SV.cellsK
 split
 ·exact CN.cond (CN.pure _) CN.none R k
 all_goals rfl
theorem zk2 (fs:List (TypeId×Nat×Nat×Bool)): ∀ (l:List (Nat×SV)) (cs:List SV),CN fun R=>ze3 (R:=R) fs l cs
 | [],cs=>fun _ _=>rfl
 |(i,s)::l,cs=>by
  intro R k
  show ze3 fs ((i,s)::l) cs k=(ze3 fs ((i,s)::l) cs some).bind k
  unfold ze3
  exact zg (m:=fun R=>qx (R:=R) fs i) (qN fs i) fun p=>zg (m:=fun R=>s.cellsK (R:=R)) (zmt s) fun l'=>zf (zk2 fs l _ R k) rfl
theorem zmx (C:Ctx) (fr:List SV): ∀ (l:List (Nat×Operand)),CN fun R=>zb5 (R:=R) C fr l
 | []=>fun _ _=>rfl
 |(i,x)::l=>by
  intro R k
  show zb5 C fr ((i,x)::l) k=(zb5 C fr ((i,x)::l) some).bind k
  unfold zb5
  exact zg (m:=fun R=>opd (R:=R) C fr x) (zdw C fr x) fun s=>zg (m:=fun R=>zb5 (R:=R) C fr l) (zmx C fr l) fun l'=>rfl
section
variable {B R:Type} {C:Ctx} {fr:List SV} {k:B→Option R}
theorem zj (x:Operand) {f:SV→Option R} {g:SV→Option B} (h: ∀ a,f a=(g a).bind k):opd C fr x f=(opd C fr x g).bind k:=zg (m:=fun R=>opd (R:=R) C fr x) (zdw C fr x) h
theorem zb4 (x:List Operand) {f:List SV→Option R} {g:List SV→Option B} (h: ∀ a,f a=(g a).bind k):zn9 C fr x f=(zn9 C fr x g).bind k:=zg (m:=fun R=>zn9 (R:=R) C fr x) (zk4 C fr x) h
theorem zH (T:TypeId) {f:TI→Option R} {g:TI→Option B} (h: ∀ a,f a=(g a).bind k):zr C.TT T f=(zr C.TT T g).bind k:=zg (m:=fun R=>zr (R:=R) C.TT T) (xi C.TT T) h
end
theorem zoo (C:Ctx) (i:TI) (hp:List HO) (x y:SV) (ok:Bool):CN fun R=>jG (R:=R) C i hp x y ok:=by
 intro R k
 show jG C i hp x y ok k=(jG C i hp x y ok some).bind k
 unfold jG
 split
 ·refine zH _ fun ki=>zH _ fun vi=>zg (m:=fun R=>qx (R:=R) hp _) (qN hp _) fun o=> ?_
  split
  ·refine zf ?_ rfl
   split
   ·exact zf rfl rfl
   ·rfl
  ·rfl
 ·rfl
theorem zs8 (C:Ctx) (hp:List HO) (T:TypeId) (op:BinOp) (x y:SV) (lit:Bool):CN fun R=>zhk (R:=R) C hp T op x y lit:=by
 intro R k
 show zhk C hp T op x y lit k=(zhk C hp T op x y lit some).bind k
 unfold zhk
 split
 ·unfold zlf
  refine zH _ fun i=>zg (m:=fun R=>qx (R:=R) hp _) (qN hp _) fun o=> ?_
  split<;>rfl
 ·unfold zwe
  split<;>rfl
 ·unfold zp9
  split
  ·rfl
  ·rfl
  ·split<;>rfl
  ·rfl
 ·exact zv4 C T op x y lit R k
theorem zhc (C:Ctx) (fr:List SV) (hp:List HO) (op:Op):CN fun R=>j3 (R:=R) C fr hp op:=by
 intro R k
 show j3 C fr hp op k=(j3 C fr hp op some).bind k
 unfold j3
 split
 ·exact zdw _ _ _ R k
 ·exact zdw _ _ _ R k
 ·exact zj _ fun c=>zj _ fun a=>zj _ fun b=>zv9 c a b R k
 ·exact zH _ fun i=>zj _ fun x=>zhb i hp x R k
 ·refine zj _ fun x=> ?_
  split<;>rfl
 ·exact zj _ fun a=>zj _ fun b=>zs8 C hp _ _ a b _ R k
 ·exact zj _ fun x=>zx0 _ x R k
 ·refine zH _ fun _=>zH _ fun i=>zj _ fun x=> ?_
  split<;>rfl
 ·exact zH _ fun i=>zj _ fun x=>zrk C fr hp i x _ _ _ R k
 ·exact zH _ fun i=>zj _ fun x=>zi2 i x _ R k
 ·exact zH _ fun i=>zj _ fun x=>zrh i x _ R k
 ·exact zH _ fun i=>zj _ fun x=>zj _ fun n=>zi3 C hp i x n R k
 ·exact zH _ fun i=>zj _ fun x=>zj _ fun n=>zri C i x n R k
 ·exact zH _ fun i=>zj _ fun x=>zj _ fun n=>zoo C i hp x n _ R k
 ·refine zj _ fun x=> ?_
  split
  ·exact qN _ _ R k
  ·rfl
 ·refine zH _ fun i=>zg (m:=fun R=>zb5 (R:=R) C fr _) (zmx C fr _) fun ps=> ?_
  split
  ·exact zg (m:=fun R=>ze3 (R:=R) _ _ _) (zk2 _ _ _) fun l=>rfl
  ·exact zH _ fun ei=>zg (m:=fun R=>ze3 (R:=R) _ _ _) (zk2 _ _ _) fun l=>rfl
  ·rfl
 ·split
  ·exact zH _ fun i=>zj _ fun x=>zv8 i hp x R k
  ·exact zj _ fun x=>zb4 _ fun l=>zk1 _ l x R k
  ·exact zj _ fun x=>zb4 _ fun l=>zk1 _ l x R k
  ·refine zj _ fun x=> ?_
   split<;>rfl
  ·refine zj _ fun x=> ?_
   split<;>rfl
  ·refine zj _ fun x=>zj _ fun y=> ?_
   split<;>rfl
  ·rfl
 ·split
  ·exact zb4 _ fun l=>rfl
  ·rfl
 ·rfl
end Go.Sx
