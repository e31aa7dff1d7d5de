/- The symbolic evaluator, part V1: what goes on behind an evaluation does not turn it. -/
import Derived.Test.YtlppdabhaipbkaaDoorSxC
set_option linter.unusedVariables false
set_option linter.unusedSimpArgs false
namespace Go.Sx
open Go.RowKit
def CN {A:Type} (m:(R:Type)→(A→Option R)→Option R):Prop:= ∀ (R:Type) (k:A→Option R),m R k=(m A some).bind k
theorem CN.pure {A:Type} (a:A):CN fun R (k:A→Option R)=>k a:=fun _ _=>rfl
theorem CN.none {A:Type}:CN fun R (_:A→Option R)=>(Option.none:Option R):=fun _ _=>rfl
theorem CN.bind {A B:Type} {m:(R:Type)→(A→Option R)→Option R} {f:A→(R:Type)→(B→Option R)→Option R} (hm:CN m) (hf: ∀ a,CN (f a)):CN fun R k=>m R fun a=>f a R k:=by
 intro R k
 show m R (fun a=>f a R k)=(m B fun a=>f a B some).bind k
 rw[hm,hm B]
 cases m A some with
 |none=>rfl
 |some a=>exact hf a R k
theorem CN.cond {A:Type} {b:Bool} {m n:(R:Type)→(A→Option R)→Option R} (hm:CN m) (hn:CN n):CN fun R k=>bif b then m R k else n R k:=by
 intro R k
 cases b
 ·exact hn R k
 ·exact hm R k
theorem qM {A:Type}: ∀ (l:List A) (n:Nat),CN fun R=>qw (R:=R) l n
 | [],n=>by intro R k;cases n<;>rfl
 |x::l,0=>fun _ _=>rfl
 |x::l,n+1=>fun R k=>qM l n R k
theorem xi: ∀ (l:List (TypeId×TI)) (T:TypeId),CN fun R=>zq (R:=R) l T
 | [],T=>fun _ _=>rfl
 |(t,i)::l,T=>by
  intro R k
  show zq ((t,i)::l) T k=(zq ((t,i)::l) T some).bind k
  unfold zq
  cases Nat.beq t T
  ·exact xi l T R k
  ·rfl
theorem zs1: ∀ (l:List (Nat×DV)) (g:Nat),CN fun R=>zlc (R:=R) l g
 | [],T=>fun _ _=>rfl
 |(t,i)::l,T=>by
  intro R k
  show zlc ((t,i)::l) T k=(zlc ((t,i)::l) T some).bind k
  unfold zlc
  cases Nat.beq t T
  ·exact zs1 l T R k
  ·rfl
theorem zfk (v:Value):CN fun R=>jT (R:=R) v:=by
 intro R k
 unfold jT
 split<;>rfl
theorem zdq: ∀ (l:List Value),CN fun R=>jU (R:=R) l
 | []=>fun _ _=>rfl
 |v::l=>(zfk v).bind fun s=>(zdq l).bind fun l'=>CN.pure _
theorem zq6 (v:Value):CN fun R=>zgw (R:=R) v:=by
 intro R k
 unfold zgw
 split
 ·exact((zdq _).bind fun l=>CN.pure _) R k
 ·exact zfk _ R k
theorem zdr (C:Ctx) (fr:List SV) (x:Operand):CN fun R=>opd (R:=R) C fr x:=by
 intro R k
 unfold opd
 split
 ·exact qM _ _ R k
 ·exact zq6 _ R k
 ·exact zs1 _ _ R k
 ·rfl
theorem zkw (C:Ctx) (fr:List SV): ∀ (l:List Operand),CN fun R=>zn4 (R:=R) C fr l
 | []=>fun _ _=>rfl
 |x::l=>(zdr C fr x).bind fun s=>(zkw C fr l).bind fun l'=>CN.pure _
theorem zmn (s:SV):CN fun R=>asB (R:=R) s:=by
 intro R k
 unfold asB
 split<;>rfl
theorem zje (s:SV):CN fun R=>asI (R:=R) s:=by
 intro R k
 unfold asI
 split<;>rfl
theorem zvj (op:BinOp) (i:IntKind) (a b:Int) (lit:Bool):CN fun R=>zrl (R:=R) op i a b lit:=by
 intro R k
 unfold zrl
 cases op<;>first|rfl|(cases lit<;>first|rfl|(dsimp only[cond_false,cond_true];split<;>rfl))
theorem zra (op:BinOp) (i:IntKind) (a b:Int) (lit:Bool):CN fun R=>zc8 (R:=R) op i a b lit:=by
 intro R k
 unfold zc8
 cases op<;>first|rfl|(cases lit<;>first|rfl|(dsimp only[cond_false,cond_true];split<;>rfl))
theorem zer (C:Ctx) (T:TypeId) (op:BinOp) (t:Ty) (x y:t.den):CN fun R=>zsh (R:=R) C T op t x y:=by
 intro R k
 unfold zsh
 cases zdo C 8 T _ with
 |true=>dsimp only[cond_true];split<;>rfl
 |false=>rfl
theorem zg {A B R:Type} {m:(R:Type)→(A→Option R)→Option R} (hm:CN m) {f:A→Option R} {g:A→Option B} {k:B→Option R} (h: ∀ a,f a=(g a).bind k):m R f=(m B g).bind k:=by
 rw[hm R f,hm B g]
 cases m A some with
 |none=>rfl
 |some a=>exact h a
theorem zkv (i:IntKind): ∀ (n:Nat) (l:List SV),CN fun R=>zex (R:=R) i n l
 |0, []=>fun _ _=>rfl
 |n+1,s::l=>by
  intro R k
  cases s with
  |val t x=>cases t with
   |int j=>
    show(if _h:j=i then zex i n l fun xs=>k (x::xs) else none)=(if _h:j=i then zex i n l fun xs=>some (x::xs) else none).bind k
    split
    ·exact zg (m:=fun R=>zex (R:=R) i n l) (zkv i n l) fun xs=>rfl
    ·rfl
   |_=>rfl
  |_=>rfl
 |0,_::_=>fun _ _=>rfl
 |_+1, []=>fun _ _=>rfl
theorem zc3: ∀ (t:Ty) (l:List SV),CN fun R=>zem (R:=R) t l
 | .int i,l=>by
  intro R k
  cases l with
  |nil=>rfl
  |cons s l=>cases s with
   |val t x=>cases t with
    |int j=>
     show(if _h:j=i then k (x,l) else none)=(if _h:j=i then some (x,l) else none).bind k
     split<;>rfl
    |_=>rfl
   |_=>rfl
 | .bool,l=>by
  cases l with
  |nil=>intro R k;rfl
  |cons s l=>exact(zmn s).bind fun b=>CN.pure (b,l)
 | .pair a b,l=>(zc3 a l).bind fun p=>(zc3 b p.2).bind fun q=>CN.pure ((p.1,q.1),q.2)
 | .st f,l=>(zc3 f l).bind fun p=>CN.pure (p.1,p.2)
 | .str,_=>fun _ _=>rfl
 | .flt,_=>fun _ _=>rfl
 | .cplx,_=>fun _ _=>rfl
 | .unit,_=>fun _ _=>rfl
 | .sl _,_=>fun _ _=>rfl
 | .osl _,_=>fun _ _=>rfl
 | .arr _ _,_=>fun _ _=>rfl
theorem zvg (C:Ctx) (T:TypeId) (op:BinOp) (x y:SV) (lit:Bool):CN fun R=>ztb (R:=R) C T op x y lit:=by
 intro R k
 unfold ztb
 split
 ·cases hs:xM op with
  |true=>exact zra _ _ _ _ _ R k
  |false=>
   dsimp only[cond_false]
   split
   ·exact zvj _ _ _ _ _ R k
   ·rfl
 ·split<;>rfl
 ·split
  ·unfold zsh
   cases zdo C 8 T _ with
   |true=>dsimp only[cond_true];split<;>rfl
   |false=>rfl
  ·rfl
 ·exact zg (m:=fun R=>zex (R:=R) _ _ _) (zkv _ _ _) fun b=>zer _ _ _ _ _ _ _ k
 ·exact zg (m:=fun R=>zex (R:=R) _ _ _) (zkv _ _ _) fun b=>zer _ _ _ _ _ _ _ k
 ·split
  ·exact zer _ _ _ _ _ _ R k
  ·rfl
 ·exact zg (m:=fun R=>zem (R:=R) _ _) (zc3 _ _) fun p=>by
   split
   ·exact zer _ _ _ _ _ _ _ k
   ·rfl
 ·exact zg (m:=fun R=>zem (R:=R) _ _) (zc3 _ _) fun p=>by
   split
   ·exact zer _ _ _ _ _ _ _ k
   ·rfl
 ·exact zg (m:=fun R=>zq (R:=R) C.TT T) (xi C.TT T) fun i=>by
   split
   ·exact zg (m:=fun R=>zem (R:=R) _ _) (zc3 _ _) fun p=>zg (m:=fun R=>zem (R:=R) _ _) (zc3 _ _) fun q=>by
     split
     ·exact zer _ _ _ _ _ _ _ k
     ·rfl
   ·rfl
 ·rename_i xs
  exact((xi C.TT T).bind (f:=fun i R (k:SV→Option R)=>match i.kind,op with
   | .slice _, .eql=>k (.ub true (Nat.beq xs.length 0))
   | .slice _, .neq=>k (.ub false (Nat.beq xs.length 0))
   |_,_=>Option.none) fun i=>by intro R k;dsimp only;split<;>rfl) R k
 ·exact((xi C.TT T).bind (f:=fun i R (k:SV→Option R)=>match i.kind,op with
   | .ptr _, .eql=>k (.bit true)
   | .ptr _, .neq=>k (.bit false)
   |_,_=>Option.none) fun i=>by intro R k;dsimp only;split<;>rfl) R k
 ·exact((xi C.TT T).bind (f:=fun i R (k:SV→Option R)=>match i.kind,op with
   | .ptr _, .eql=>k (.bit false)
   | .ptr _, .neq=>k (.bit true)
   |_,_=>Option.none) fun i=>by intro R k;dsimp only;split<;>rfl) R k
 ·exact((xi C.TT T).bind (f:=fun i R (k:SV→Option R)=>asB x fun a=>asB y fun b=>match i.kind,op with
   | .bool, .eql=>k (.val .bool (a==b))
   | .bool, .neq=>k (.val .bool (!(a==b)))
   |_,_=>Option.none) fun i=>(zmn x).bind fun a=>(zmn y).bind fun b=>by intro R k;dsimp only;split<;>rfl) R k
theorem zxm (op:UnOp) (x:SV):CN fun R=>zyn (R:=R) op x:=by
 intro R k
 unfold zyn
 split<;>rfl
theorem zvl (c a b:SV):CN fun R=>zr3 (R:=R) c a b:=by
 intro R k
 unfold zr3
 split
 ·rfl
 ·rfl
 ·split
  ·split<;>rfl
  ·exact((zmn a).bind fun x=>(zmn b).bind fun y=>CN.pure _) R k
 ·rfl
theorem zgu (i:TI) (hp:List HO) (x:SV):CN fun R=>xF (R:=R) i hp x:=by
 intro R k
 unfold xF
 split
 ·cases fits i _<;>rfl
 ·rename_i id off
  exact((qM hp id).bind (f:=fun o R (k:SV→Option R)=>match o with
   | .cells l=>bif i.kind.isAgg then(bif Nat.ble (off+i.size) l.length then k (.agg ((l.drop off).take i.size)) else Option.none) else(bif Nat.beq i.size 1 then qw l off k else Option.none)
   |_=>Option.none) fun o=>by
    intro R k
    dsimp only
    split
    ·cases i.kind.isAgg
     ·cases Nat.beq i.size 1
      ·rfl
      ·exact qM _ _ R k
     ·rename_i l
      cases Nat.ble (off+i.size) l.length<;>rfl
    ·rfl) R k
 ·rename_i id t j p
  exact((qM hp id).bind (f:=fun o R (k:SV→Option R)=>match o with
   | .arr _ t' xs=>if h:t'=t then(match zcw p t ((h▸xs:List t.den).getD j t.dflt) with
    |some d=>bif fits i d.t then(bif d.t.noOwn then k (.val d.t d.x) else k (.val d.t.er (d.t.erD d.x))) else Option.none
    |Option.none=>Option.none) else Option.none
   |_=>Option.none) fun o=>by
    intro R k
    dsimp only
    split
    ·split
     ·split
      ·rename_i d _
       cases fits i d.t<;>cases d.t.noOwn<;>rfl
      ·rfl
     ·rfl
    ·rfl) R k
 ·rfl
theorem zs2 (C:Ctx) (fr:List SV) (x:Option Operand) (d:Int):CN fun R=>zu5 (R:=R) C fr x d:=by
 intro R k
 unfold zu5
 cases x with
 |none=>rfl
 |some x=>exact((zdr C fr x).bind fun s=>zje s) R k
theorem zM {B R:Type} {c:Prop} [Decidable c] {a b:Option R} {a' b':Option B} {k:B→Option R} (h1:a=a'.bind k) (h2:b=b'.bind k):(if c then a else b)=(if c then a' else b').bind k:=by
 by_cases h:c
 ·simp only[if_pos h,h1]
 ·simp only[if_neg h,h2]
theorem zf {B R:Type} {c:Bool} {a b:Option R} {a' b':Option B} {k:B→Option R} (h1:a=a'.bind k) (h2:b=b'.bind k):(bif c then a else b)=(bif c then a' else b').bind k:=by
 cases c
 ·exact h2
 ·exact h1
theorem xW {B R:Type} (C:Ctx) (fr:List SV) (y:Operand) {f:Int→Option R} {g:Int→Option B} {k:B→Option R} (h: ∀ a,f a=(g a).bind k):
  (opd C fr y fun s=>asI s f)=(opd C fr y fun s=>asI s g).bind k:=
 zg (m:=fun R=>opd (R:=R) C fr y) (zdr C fr y) fun s=>zg (m:=fun R=>asI (R:=R) s) (zje s) h
theorem zrb (C:Ctx) (fr:List SV) (hp:List HO) (i:TI) (x:SV) (lo hi mx:Option Operand):CN fun R=>zbs (R:=R) C fr hp i x lo hi mx:=by
 intro R k
 show zbs C fr hp i x lo hi mx k=(zbs C fr hp i x lo hi mx some).bind k
 unfold zbs
 split
 ·refine zg (m:=fun R=>zq (R:=R) C.TT _) (xi C.TT _) fun ei=> ?_
  split
  ·refine zf ?_ rfl
   split
   ·split
    ·rfl
    ·rfl
   ·cases hi with
    |none=>
     cases lo with
     |none=>rfl
     |some y=>exact xW C fr y fun n=>zM rfl rfl
    |some h=>
     refine xW C fr h fun n=>zM ?_ rfl
     cases lo with
     |none=>rfl
     |some y=>exact xW C fr y fun n=>zM rfl rfl
   ·rename_i m _
    refine xW C fr m fun n=>zM ?_ rfl
    cases hi with
    |none=>rfl
    |some h=>exact xW C fr h fun n=>zM (zg (m:=fun R=>zu5 (R:=R) C fr lo 0) (zs2 C fr lo 0) fun l=>zM rfl rfl) rfl
  ·cases mx with
   |some m=>rfl
   |none=>
    cases lo with
    |some y=>
     refine zg (m:=fun R=>qw (R:=R) hp _) (qM hp _) fun o=> ?_
     split
     ·refine zf ?_ rfl
      cases hi with
      |none=>exact xW C fr y fun n=>zM rfl rfl
      |some h=>exact xW C fr h fun n=>zM (xW C fr y fun m=>zM rfl rfl) rfl
     ·rfl
    |none=>
     refine zg (m:=fun R=>qw (R:=R) hp _) (qM hp _) fun o=> ?_
     split
     ·cases hi with
      |none=>rfl
      |some h=>exact xW C fr h fun n=>zM rfl rfl
     ·rfl
  ·rfl
 ·rfl
theorem zio (C:Ctx) (hp:List HO) (i:TI) (x ix:SV):CN fun R=>qv (R:=R) C hp i x ix:=by
 intro R k
 show qv C hp i x ix k=(qv C hp i x ix some).bind k
 unfold qv
 refine zg (m:=fun R=>asI (R:=R) ix) (zje ix) fun n=> ?_
 split
 ·refine zg (m:=fun R=>zq (R:=R) C.TT _) (xi C.TT _) fun ei=> ?_
  split
  ·exact zf (zM rfl rfl) rfl
  ·refine zg (m:=fun R=>qw (R:=R) hp _) (qM hp _) fun o=> ?_
   split
   ·exact zf (zM rfl rfl) rfl
   ·rfl
  ·exact zf (zM rfl rfl) rfl
  ·rfl
 ·refine zg (m:=fun R=>zq (R:=R) C.TT _) (xi C.TT _) fun ei=> ?_
  split
  ·exact zf (zM rfl rfl) rfl
  ·exact zM rfl rfl
  ·rfl
 ·rfl
theorem zq9 (C:Ctx) (i:TI) (x ix:SV):CN fun R=>zc6 (R:=R) C i x ix:=by
 intro R k
 show zc6 C i x ix k=(zc6 C i x ix some).bind k
 unfold zc6
 refine zg (m:=fun R=>asI (R:=R) ix) (zje ix) fun n=> ?_
 split
 ·refine zg (m:=fun R=>zq (R:=R) C.TT _) (xi C.TT _) fun ei=> ?_
  split
  ·exact zf (zM rfl rfl) rfl
  ·rfl
 ·split
  ·exact zM rfl rfl
  ·rfl
 ·rfl
theorem zq8 (i:TI) (x:SV) (f:Nat):CN fun R=>zc5 (R:=R) i x f:=by
 intro R k
 show zc5 i x f k=(zc5 i x f some).bind k
 unfold zc5
 split
 ·rename_i fs _
  refine zg (m:=fun R=>qw (R:=R) fs f) (qM fs f) fun p=> ?_
  obtain⟨T,off,size,agg⟩:=p
  dsimp only
  split
  ·exact zf (zf rfl rfl) (qM _ _ R k)
  ·split
   ·exact zf rfl rfl
   ·rfl
  ·rfl
 ·rfl
theorem zin (i:TI) (x:SV) (f:Nat):CN fun R=>qT (R:=R) i x f:=by
 intro R k
 show qT i x f k=(qT i x f some).bind k
 unfold qT
 split
 ·rename_i fs _
  refine zg (m:=fun R=>qw (R:=R) fs f) (qM fs f) fun p=> ?_
  obtain⟨T,off,size,agg⟩:=p
  dsimp only
  refine zf rfl ?_
  split
  ·rfl
  ·split
   ·exact zf rfl rfl
   ·rfl
  ·split
   ·exact zf rfl rfl
   ·rfl
  ·rfl
 ·rfl
theorem zvk (i:TI) (hp:List HO) (x:SV):CN fun R=>zmy (R:=R) i hp x:=by
 intro R k
 show zmy i hp x k=(zmy i hp x some).bind k
 unfold zmy
 split
 ·rfl
 ·rfl
 ·rfl
 ·refine zg (m:=fun R=>qw (R:=R) hp _) (qM hp _) fun o=> ?_
  split
  ·rfl
  ·rfl
  ·rfl
 ·rfl
 ·rfl
 ·rfl
 ·rfl
theorem zkt (f:Int→Int→Int): ∀ (l:List SV) (x:SV),CN fun R=>zaj (R:=R) f x l
 | [],x=>fun _ _=>rfl
 |y::l,x=>by
  intro R k
  show zaj f x (y::l) k=(zaj f x (y::l) some).bind k
  cases x with
  |val t a=>
   cases t with
   |int i=>
    cases y with
    |val t' b=>
     cases t' with
     |int j=>exact zkt f l _ R k
     |_=>simp[zaj]
    |_=>simp[zaj]
   |_=>simp[zaj]
  |_=>simp[zaj]
theorem zmo (s:SV):CN fun R=>s.cellsK (R:=R):=by
 intro R k
 unfold SV.cellsK
 split
 ·exact CN.cond (CN.pure _) CN.none R k
 all_goals rfl
theorem zku (fs:List (TypeId×Nat×Nat×Bool)): ∀ (l:List (Nat×SV)) (cs:List SV),CN fun R=>zeu (R:=R) fs l cs
 | [],cs=>fun _ _=>rfl
 |(i,s)::l,cs=>by
  intro R k
  show zeu fs ((i,s)::l) cs k=(zeu fs ((i,s)::l) cs some).bind k
  unfold zeu
  exact zg (m:=fun R=>qw (R:=R) fs i) (qM fs i) fun p=>zg (m:=fun R=>s.cellsK (R:=R)) (zmo s) fun l'=>zf (zku fs l _ R k) rfl
theorem zms (C:Ctx) (fr:List SV): ∀ (l:List (Nat×Operand)),CN fun R=>zb0 (R:=R) C fr l
 | []=>fun _ _=>rfl
 |(i,x)::l=>by
  intro R k
  show zb0 C fr ((i,x)::l) k=(zb0 C fr ((i,x)::l) some).bind k
  unfold zb0
  exact zg (m:=fun R=>opd (R:=R) C fr x) (zdr C fr x) fun s=>zg (m:=fun R=>zb0 (R:=R) C fr l) (zms C fr l) fun l'=>rfl
section
variable {B R:Type} {C:Ctx} {fr:List SV} {k:B→Option R}
theorem zj (x:Operand) {f:SV→Option R} {g:SV→Option B} (h: ∀ a,f a=(g a).bind k):opd C fr x f=(opd C fr x g).bind k:=zg (m:=fun R=>opd (R:=R) C fr x) (zdr C fr x) h
theorem zbz (x:List Operand) {f:List SV→Option R} {g:List SV→Option B} (h: ∀ a,f a=(g a).bind k):zn4 C fr x f=(zn4 C fr x g).bind k:=zg (m:=fun R=>zn4 (R:=R) C fr x) (zkw C fr x) h
theorem zH (T:TypeId) {f:TI→Option R} {g:TI→Option B} (h: ∀ a,f a=(g a).bind k):zq C.TT T f=(zq C.TT T g).bind k:=zg (m:=fun R=>zq (R:=R) C.TT T) (xi C.TT T) h
end
theorem zoi (C:Ctx) (i:TI) (hp:List HO) (x y:SV) (ok:Bool):CN fun R=>jE (R:=R) C i hp x y ok:=by
 intro R k
 show jE C i hp x y ok k=(jE C i hp x y ok some).bind k
 unfold jE
 split
 ·refine zH _ fun ki=>zH _ fun vi=>zg (m:=fun R=>qw (R:=R) hp _) (qM hp _) fun o=> ?_
  split
  ·refine zf ?_ rfl
   split
   ·exact zf rfl rfl
   ·rfl
  ·rfl
 ·rfl
theorem zsw (C:Ctx) (hp:List HO) (T:TypeId) (op:BinOp) (x y:SV) (lit:Bool):CN fun R=>zg3 (R:=R) C hp T op x y lit:=by
 intro R k
 show zg3 C hp T op x y lit k=(zg3 C hp T op x y lit some).bind k
 unfold zg3
 split
 ·unfold zk7
  refine zH _ fun i=>zg (m:=fun R=>qw (R:=R) hp _) (qM hp _) fun o=> ?_
  split<;>rfl
 ·unfold zvq
  split<;>rfl
 ·unfold zp2
  split
  ·rfl
  ·rfl
  ·split<;>rfl
  ·rfl
 ·exact zvg C T op x y lit R k
theorem zgv (C:Ctx) (fr:List SV) (hp:List HO) (op:Op):CN fun R=>jX (R:=R) C fr hp op:=by
 intro R k
 show jX C fr hp op k=(jX C fr hp op some).bind k
 unfold jX
 split
 ·exact zdr _ _ _ R k
 ·exact zdr _ _ _ R k
 ·exact zj _ fun c=>zj _ fun a=>zj _ fun b=>zvl c a b R k
 ·exact zH _ fun i=>zj _ fun x=>zgu i hp x R k
 ·refine zj _ fun x=> ?_
  split<;>rfl
 ·exact zj _ fun a=>zj _ fun b=>zsw C hp _ _ a b _ R k
 ·exact zj _ fun x=>zxm _ x R k
 ·refine zH _ fun _=>zH _ fun i=>zj _ fun x=> ?_
  split<;>rfl
 ·exact zH _ fun i=>zj _ fun x=>zrb C fr hp i x _ _ _ R k
 ·exact zH _ fun i=>zj _ fun x=>zin i x _ R k
 ·exact zH _ fun i=>zj _ fun x=>zq8 i x _ R k
 ·exact zH _ fun i=>zj _ fun x=>zj _ fun n=>zio C hp i x n R k
 ·exact zH _ fun i=>zj _ fun x=>zj _ fun n=>zq9 C i x n R k
 ·exact zH _ fun i=>zj _ fun x=>zj _ fun n=>zoi C i hp x n _ R k
 ·refine zj _ fun x=> ?_
  split
  ·exact qM _ _ R k
  ·rfl
 ·refine zH _ fun i=>zg (m:=fun R=>zb0 (R:=R) C fr _) (zms C fr _) fun ps=> ?_
  split
  ·exact zg (m:=fun R=>zeu (R:=R) _ _ _) (zku _ _ _) fun l=>rfl
  ·exact zH _ fun ei=>zg (m:=fun R=>zeu (R:=R) _ _ _) (zku _ _ _) fun l=>rfl
  ·rfl
 ·split
  ·exact zH _ fun i=>zj _ fun x=>zvk i hp x R k
  ·exact zj _ fun x=>zbz _ fun l=>zkt _ l x R k
  ·exact zj _ fun x=>zbz _ fun l=>zkt _ l x R k
  ·refine zj _ fun x=> ?_
   split<;>rfl
  ·refine zj _ fun x=> ?_
   split<;>rfl
  ·refine zj _ fun x=>zj _ fun y=> ?_
   split<;>rfl
  ·rfl
 ·split
  ·exact zbz _ fun l=>rfl
  ·rfl
 ·rfl
end Go.Sx
