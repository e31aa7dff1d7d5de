/- The symbolic evaluator, part V1: what goes on behind an evaluation does not turn it. -/
import Derived.Test.YtpmbmobjnknnhaaGreatDoorSxC
set_option linter.unusedVariables false
set_option linter.unusedSimpArgs false
namespace Go.Sx
open Go.RowKit
def CN {A:Type} (m:(R:Type)→(A→Option R)→Option R):Prop:= ∀ (R:Type) (k:A→Option R),m R k=(m A some).bind k
theorem CN.pure {A:Type} (a:A):CN fun R (k:A→Option R)=>k a:=fun _ _=>rfl
theorem CN.none {A:Type}:CN fun R (_:A→Option R)=>(Option.none:Option R):=fun _ _=>rfl
theorem CN.bind {A B:Type} {m:(R:Type)→(A→Option R)→Option R} {f:A→(R:Type)→(B→Option R)→Option R} (hm:CN m) (hf: ∀ a,CN (f a)):CN fun R k=>m R fun a=>f a R k:=by
 intro R k
 show m R (fun a=>f a R k)=(m B fun a=>f a B some).bind k
 rw[hm,hm B]
 cases m A some with
 |none=>rfl
 |some a=>exact hf a R k
theorem CN.cond {A:Type} {b:Bool} {m n:(R:Type)→(A→Option R)→Option R} (hm:CN m) (hn:CN n):CN fun R k=>bif b then m R k else n R k:=by
 intro R k
 cases b
 ·exact hn R k
 ·exact hm R k
theorem qK {A:Type}: ∀ (l:List A) (n:Nat),CN fun R=>qv (R:=R) l n
 | [],n=>by intro R k;cases n<;>rfl
 |x::l,0=>fun _ _=>rfl
 |x::l,n+1=>fun R k=>qK l n R k
theorem xf: ∀ (l:List (TypeId×TI)) (T:TypeId),CN fun R=>zt (R:=R) l T
 | [],T=>fun _ _=>rfl
 |(t,i)::l,T=>by
  intro R k
  show zt ((t,i)::l) T k=(zt ((t,i)::l) T some).bind k
  unfold zt
  cases Nat.beq t T
  ·exact xf l T R k
  ·rfl
theorem zt9: ∀ (l:List (Nat×DV)) (g:Nat),CN fun R=>zlv (R:=R) l g
 | [],T=>fun _ _=>rfl
 |(t,i)::l,T=>by
  intro R k
  show zlv ((t,i)::l) T k=(zlv ((t,i)::l) T some).bind k
  unfold zlv
  cases Nat.beq t T
  ·exact zt9 l T R k
  ·rfl
theorem zfv (v:Value):CN fun R=>jV (R:=R) v:=by
 intro R k
 unfold jV
 split<;>rfl
theorem zdx: ∀ (l:List Value),CN fun R=>jW (R:=R) l
 | []=>fun _ _=>rfl
 |v::l=>(zfv v).bind fun s=>(zdx l).bind fun l'=>CN.pure _
theorem zr8 (v:Value):CN fun R=>zhb (R:=R) v:=by
 intro R k
 unfold zhb
 split
 ·exact((zdx _).bind fun l=>CN.pure _) R k
 ·exact zfv _ R k
theorem zdy (C:Ctx) (fr:List SV) (x:Operand):CN fun R=>opd (R:=R) C fr x:=by
 intro R k
 unfold opd
 split
 ·exact qK _ _ R k
 ·exact zr8 _ R k
 ·exact zt9 _ _ R k
 ·rfl
theorem zld (C:Ctx) (fr:List SV): ∀ (l:List Operand),CN fun R=>zoy (R:=R) C fr l
 | []=>fun _ _=>rfl
 |x::l=>(zdy C fr x).bind fun s=>(zld C fr l).bind fun l'=>CN.pure _
theorem zm6 (s:SV):CN fun R=>asB (R:=R) s:=by
 intro R k
 unfold asB
 split<;>rfl
theorem zjv (s:SV):CN fun R=>asI (R:=R) s:=by
 intro R k
 unfold asI
 split<;>rfl
theorem zwz (op:BinOp) (i:IntKind) (a b:Int) (lit:Bool):CN fun R=>zso (R:=R) op i a b lit:=by
 intro R k
 unfold zso
 cases op<;>first|rfl|(cases lit<;>first|rfl|(dsimp only[cond_false,cond_true];split<;>rfl))
theorem zsc (op:BinOp) (i:IntKind) (a b:Int) (lit:Bool):CN fun R=>zde (R:=R) op i a b lit:=by
 intro R k
 unfold zde
 cases op<;>first|rfl|(cases lit<;>first|rfl|(dsimp only[cond_false,cond_true];split<;>rfl))
theorem ze3 (C:Ctx) (T:TypeId) (op:BinOp) (t:Ty) (x y:t.den):CN fun R=>zto (R:=R) C T op t x y:=by
 intro R k
 unfold zto
 cases zdv C 8 T _ with
 |true=>dsimp only[cond_true];split<;>rfl
 |false=>rfl
theorem zg {A B R:Type} {m:(R:Type)→(A→Option R)→Option R} (hm:CN m) {f:A→Option R} {g:A→Option B} {k:B→Option R} (h: ∀ a,f a=(g a).bind k):m R f=(m B g).bind k:=by
 rw[hm R f,hm B g]
 cases m A some with
 |none=>rfl
 |some a=>exact h a
theorem zlc (i:IntKind): ∀ (n:Nat) (l:List SV),CN fun R=>zfa (R:=R) i n l
 |0, []=>fun _ _=>rfl
 |n+1,s::l=>by
  intro R k
  cases s with
  |val t x=>cases t with
   |int j=>
    show(if _h:j=i then zfa i n l fun xs=>k (x::xs) else none)=(if _h:j=i then zfa i n l fun xs=>some (x::xs) else none).bind k
    split
    ·exact zg (m:=fun R=>zfa (R:=R) i n l) (zlc i n l) fun xs=>rfl
    ·rfl
   |_=>rfl
  |_=>rfl
 |0,_::_=>fun _ _=>rfl
 |_+1, []=>fun _ _=>rfl
theorem zc9: ∀ (t:Ty) (l:List SV),CN fun R=>zey (R:=R) t l
 | .int i,l=>by
  intro R k
  cases l with
  |nil=>rfl
  |cons s l=>cases s with
   |val t x=>cases t with
    |int j=>
     show(if _h:j=i then k (x,l) else none)=(if _h:j=i then some (x,l) else none).bind k
     split<;>rfl
    |_=>rfl
   |_=>rfl
 | .bool,l=>by
  cases l with
  |nil=>intro R k;rfl
  |cons s l=>exact(zm6 s).bind fun b=>CN.pure (b,l)
 | .pair a b,l=>(zc9 a l).bind fun p=>(zc9 b p.2).bind fun q=>CN.pure ((p.1,q.1),q.2)
 | .st f,l=>(zc9 f l).bind fun p=>CN.pure (p.1,p.2)
 | .str,_=>fun _ _=>rfl
 | .flt,_=>fun _ _=>rfl
 | .cplx,_=>fun _ _=>rfl
 | .unit,_=>fun _ _=>rfl
 | .sl _,_=>fun _ _=>rfl
 | .osl _,_=>fun _ _=>rfl
 | .arr _ _,_=>fun _ _=>rfl
theorem zww (C:Ctx) (T:TypeId) (op:BinOp) (x y:SV) (lit:Bool):CN fun R=>zuk (R:=R) C T op x y lit:=by
 intro R k
 unfold zuk
 split
 ·cases hs:xN op with
  |true=>exact zsc _ _ _ _ _ R k
  |false=>
   dsimp only[cond_false]
   split
   ·exact zwz _ _ _ _ _ R k
   ·rfl
 ·split<;>rfl
 ·split
  ·unfold zto
   cases zdv C 8 T _ with
   |true=>dsimp only[cond_true];split<;>rfl
   |false=>rfl
  ·rfl
 ·exact zg (m:=fun R=>zfa (R:=R) _ _ _) (zlc _ _ _) fun b=>ze3 _ _ _ _ _ _ _ k
 ·exact zg (m:=fun R=>zfa (R:=R) _ _ _) (zlc _ _ _) fun b=>ze3 _ _ _ _ _ _ _ k
 ·split
  ·exact ze3 _ _ _ _ _ _ R k
  ·rfl
 ·exact zg (m:=fun R=>zey (R:=R) _ _) (zc9 _ _) fun p=>by
   split
   ·exact ze3 _ _ _ _ _ _ _ k
   ·rfl
 ·exact zg (m:=fun R=>zey (R:=R) _ _) (zc9 _ _) fun p=>by
   split
   ·exact ze3 _ _ _ _ _ _ _ k
   ·rfl
 ·exact zg (m:=fun R=>zt (R:=R) C.TT T) (xf C.TT T) fun i=>by
   split
   ·exact zg (m:=fun R=>zey (R:=R) _ _) (zc9 _ _) fun p=>zg (m:=fun R=>zey (R:=R) _ _) (zc9 _ _) fun q=>by
     split
     ·exact ze3 _ _ _ _ _ _ _ k
     ·rfl
   ·rfl
 ·rename_i xs
  exact((xf C.TT T).bind (f:=fun i R (k:SV→Option R)=>match i.kind,op with
   | .slice _, .eql=>k (.ub true (Nat.beq xs.length 0))
   | .slice _, .neq=>k (.ub false (Nat.beq xs.length 0))
   |_,_=>Option.none) fun i=>by intro R k;dsimp only;split<;>rfl) R k
 ·exact((xf C.TT T).bind (f:=fun i R (k:SV→Option R)=>match i.kind,op with
   | .ptr _, .eql=>k (.bit true)
   | .ptr _, .neq=>k (.bit false)
   |_,_=>Option.none) fun i=>by intro R k;dsimp only;split<;>rfl) R k
 ·exact((xf C.TT T).bind (f:=fun i R (k:SV→Option R)=>match i.kind,op with
   | .ptr _, .eql=>k (.bit false)
   | .ptr _, .neq=>k (.bit true)
   |_,_=>Option.none) fun i=>by intro R k;dsimp only;split<;>rfl) R k
 ·exact((xf C.TT T).bind (f:=fun i R (k:SV→Option R)=>asB x fun a=>asB y fun b=>match i.kind,op with
   | .bool, .eql=>k (.val .bool (a==b))
   | .bool, .neq=>k (.val .bool (!(a==b)))
   |_,_=>Option.none) fun i=>(zm6 x).bind fun a=>(zm6 y).bind fun b=>by intro R k;dsimp only;split<;>rfl) R k
theorem zyz (op:UnOp) (x:SV):CN fun R=>z0k (R:=R) op x:=by
 intro R k
 unfold z0k
 split<;>rfl
theorem zw1 (c a b:SV):CN fun R=>zs6 (R:=R) c a b:=by
 intro R k
 unfold zs6
 split
 ·rfl
 ·rfl
 ·split
  ·split<;>rfl
  ·exact((zm6 a).bind fun x=>(zm6 b).bind fun y=>CN.pure _) R k
 ·rfl
theorem zg7 (i:TI) (hp:List HO) (x:SV):CN fun R=>xF (R:=R) i hp x:=by
 intro R k
 unfold xF
 split
 ·cases fits i _<;>rfl
 ·rename_i id off
  exact((qK hp id).bind (f:=fun o R (k:SV→Option R)=>match o with
   | .cells l=>bif i.kind.isAgg then(bif Nat.ble (off+i.size) l.length then k (.agg ((l.drop off).take i.size)) else Option.none) else(bif Nat.beq i.size 1 then qv l off k else Option.none)
   |_=>Option.none) fun o=>by
    intro R k
    dsimp only
    split
    ·cases i.kind.isAgg
     ·cases Nat.beq i.size 1
      ·rfl
      ·exact qK _ _ R k
     ·rename_i l
      cases Nat.ble (off+i.size) l.length<;>rfl
    ·rfl) R k
 ·rename_i id t j p
  exact((qK hp id).bind (f:=fun o R (k:SV→Option R)=>match o with
   | .arr _ t' xs=>if h:t'=t then(match zc2 p t ((h▸xs:List t.den).getD j t.dflt) with
    |some d=>bif fits i d.t then(bif d.t.noOwn then k (.val d.t d.x) else k (.val d.t.er (d.t.erD d.x))) else Option.none
    |Option.none=>Option.none) else Option.none
   |_=>Option.none) fun o=>by
    intro R k
    dsimp only
    split
    ·split
     ·split
      ·rename_i d _
       cases fits i d.t<;>cases d.t.noOwn<;>rfl
      ·rfl
     ·rfl
    ·rfl) R k
 ·rfl
theorem zua (C:Ctx) (fr:List SV) (x:Option Operand) (d:Int):CN fun R=>zwm (R:=R) C fr x d:=by
 intro R k
 unfold zwm
 cases x with
 |none=>rfl
 |some x=>exact((zdy C fr x).bind fun s=>zjv s) R k
theorem zM {B R:Type} {c:Prop} [Decidable c] {a b:Option R} {a' b':Option B} {k:B→Option R} (h1:a=a'.bind k) (h2:b=b'.bind k):(if c then a else b)=(if c then a' else b').bind k:=by
 by_cases h:c
 ·simp only[if_pos h,h1]
 ·simp only[if_neg h,h2]
theorem zf {B R:Type} {c:Bool} {a b:Option R} {a' b':Option B} {k:B→Option R} (h1:a=a'.bind k) (h2:b=b'.bind k):(bif c then a else b)=(bif c then a' else b').bind k:=by
 cases c
 ·exact h2
 ·exact h1
theorem xW {B R:Type} (C:Ctx) (fr:List SV) (y:Operand) {f:Int→Option R} {g:Int→Option B} {k:B→Option R} (h: ∀ a,f a=(g a).bind k):
  (opd C fr y fun s=>asI s f)=(opd C fr y fun s=>asI s g).bind k:=
 zg (m:=fun R=>opd (R:=R) C fr y) (zdy C fr y) fun s=>zg (m:=fun R=>asI (R:=R) s) (zjv s) h
theorem zsd (C:Ctx) (fr:List SV) (hp:List HO) (i:TI) (x:SV) (lo hi mx:Option Operand):CN fun R=>zbv (R:=R) C fr hp i x lo hi mx:=by
 intro R k
 show zbv C fr hp i x lo hi mx k=(zbv C fr hp i x lo hi mx some).bind k
 unfold zbv
 split
 ·refine zg (m:=fun R=>zt (R:=R) C.TT _) (xf C.TT _) fun ei=> ?_
  split
  ·refine zf ?_ rfl
   split
   ·split
    ·rfl
    ·rfl
   ·cases hi with
    |none=>
     cases lo with
     |none=>rfl
     |some y=>exact xW C fr y fun n=>zM rfl rfl
    |some h=>
     refine xW C fr h fun n=>zM ?_ rfl
     cases lo with
     |none=>rfl
     |some y=>exact xW C fr y fun n=>zM rfl rfl
   ·rename_i m _
    refine xW C fr m fun n=>zM ?_ rfl
    cases hi with
    |none=>rfl
    |some h=>exact xW C fr h fun n=>zM (zg (m:=fun R=>zwm (R:=R) C fr lo 0) (zua C fr lo 0) fun l=>zM rfl rfl) rfl
  ·cases mx with
   |some m=>rfl
   |none=>
    cases lo with
    |some y=>
     refine zg (m:=fun R=>qv (R:=R) hp _) (qK hp _) fun o=> ?_
     split
     ·refine zf ?_ rfl
      cases hi with
      |none=>exact xW C fr y fun n=>zM rfl rfl
      |some h=>exact xW C fr h fun n=>zM (xW C fr y fun m=>zM rfl rfl) rfl
     ·rfl
    |none=>
     refine zg (m:=fun R=>qv (R:=R) hp _) (qK hp _) fun o=> ?_
     split
     ·cases hi with
      |none=>rfl
      |some h=>exact xW C fr h fun n=>zM rfl rfl
     ·rfl
  ·rfl
 ·rfl
theorem zi6 (C:Ctx) (hp:List HO) (i:TI) (x ix:SV):CN fun R=>qu (R:=R) C hp i x ix:=by
 intro R k
 show qu C hp i x ix k=(qu C hp i x ix some).bind k
 unfold qu
 refine zg (m:=fun R=>asI (R:=R) ix) (zjv ix) fun n=> ?_
 split
 ·refine zg (m:=fun R=>zt (R:=R) C.TT _) (xf C.TT _) fun ei=> ?_
  split
  ·exact zf (zM rfl rfl) rfl
  ·refine zg (m:=fun R=>qv (R:=R) hp _) (qK hp _) fun o=> ?_
   split
   ·exact zf (zM rfl rfl) rfl
   ·rfl
  ·exact zf (zM rfl rfl) rfl
  ·rfl
 ·refine zg (m:=fun R=>zt (R:=R) C.TT _) (xf C.TT _) fun ei=> ?_
  split
  ·exact zf (zM rfl rfl) rfl
  ·exact zM rfl rfl
  ·rfl
 ·rfl
theorem zsb (C:Ctx) (i:TI) (x ix:SV):CN fun R=>zdc (R:=R) C i x ix:=by
 intro R k
 show zdc C i x ix k=(zdc C i x ix some).bind k
 unfold zdc
 refine zg (m:=fun R=>asI (R:=R) ix) (zjv ix) fun n=> ?_
 split
 ·refine zg (m:=fun R=>zt (R:=R) C.TT _) (xf C.TT _) fun ei=> ?_
  split
  ·exact zf (zM rfl rfl) rfl
  ·rfl
 ·split
  ·exact zM rfl rfl
  ·rfl
 ·rfl
theorem zsa (i:TI) (x:SV) (f:Nat):CN fun R=>zdb (R:=R) i x f:=by
 intro R k
 show zdb i x f k=(zdb i x f some).bind k
 unfold zdb
 split
 ·rename_i fs _
  refine zg (m:=fun R=>qv (R:=R) fs f) (qK fs f) fun p=> ?_
  obtain⟨T,off,size,agg⟩:=p
  dsimp only
  split
  ·exact zf (zf rfl rfl) (qK _ _ R k)
  ·split
   ·exact zf rfl rfl
   ·rfl
  ·rfl
 ·rfl
theorem zi5 (i:TI) (x:SV) (f:Nat):CN fun R=>qQ (R:=R) i x f:=by
 intro R k
 show qQ i x f k=(qQ i x f some).bind k
 unfold qQ
 split
 ·rename_i fs _
  refine zg (m:=fun R=>qv (R:=R) fs f) (qK fs f) fun p=> ?_
  obtain⟨T,off,size,agg⟩:=p
  dsimp only
  refine zf rfl ?_
  split
  ·rfl
  ·split
   ·exact zf rfl rfl
   ·rfl
  ·split
   ·exact zf rfl rfl
   ·rfl
  ·rfl
 ·rfl
theorem zw0 (i:TI) (hp:List HO) (x:SV):CN fun R=>znk (R:=R) i hp x:=by
 intro R k
 show znk i hp x k=(znk i hp x some).bind k
 unfold znk
 split
 ·rfl
 ·rfl
 ·rfl
 ·refine zg (m:=fun R=>qv (R:=R) hp _) (qK hp _) fun o=> ?_
  split
  ·rfl
  ·rfl
  ·rfl
 ·rfl
 ·rfl
 ·rfl
 ·rfl
theorem zla (f:Int→Int→Int): ∀ (l:List SV) (x:SV),CN fun R=>zak (R:=R) f x l
 | [],x=>fun _ _=>rfl
 |y::l,x=>by
  intro R k
  show zak f x (y::l) k=(zak f x (y::l) some).bind k
  cases x with
  |val t a=>
   cases t with
   |int i=>
    cases y with
    |val t' b=>
     cases t' with
     |int j=>exact zla f l _ R k
     |_=>simp[zak]
    |_=>simp[zak]
   |_=>simp[zak]
  |_=>simp[zak]
theorem zm7 (s:SV):CN fun R=>s.cellsK (R:=R):=by
 intro R k
 unfold SV.cellsK
 split
 ·exact CN.cond (CN.pure _) CN.none R k
 all_goals rfl
theorem zlb (fs:List (TypeId×Nat×Nat×Bool)): ∀ (l:List (Nat×SV)) (cs:List SV),CN fun R=>ze7 (R:=R) fs l cs
 | [],cs=>fun _ _=>rfl
 |(i,s)::l,cs=>by
  intro R k
  show ze7 fs ((i,s)::l) cs k=(ze7 fs ((i,s)::l) cs some).bind k
  unfold ze7
  exact zg (m:=fun R=>qv (R:=R) fs i) (qK fs i) fun p=>zg (m:=fun R=>s.cellsK (R:=R)) (zm7 s) fun l'=>zf (zlb fs l _ R k) rfl
theorem znb (C:Ctx) (fr:List SV): ∀ (l:List (Nat×Operand)),CN fun R=>zb3 (R:=R) C fr l
 | []=>fun _ _=>rfl
 |(i,x)::l=>by
  intro R k
  show zb3 C fr ((i,x)::l) k=(zb3 C fr ((i,x)::l) some).bind k
  unfold zb3
  exact zg (m:=fun R=>opd (R:=R) C fr x) (zdy C fr x) fun s=>zg (m:=fun R=>zb3 (R:=R) C fr l) (znb C fr l) fun l'=>rfl
section
variable {B R:Type} {C:Ctx} {fr:List SV} {k:B→Option R}
theorem zm (x:Operand) {f:SV→Option R} {g:SV→Option B} (h: ∀ a,f a=(g a).bind k):opd C fr x f=(opd C fr x g).bind k:=zg (m:=fun R=>opd (R:=R) C fr x) (zdy C fr x) h
theorem zb2 (x:List Operand) {f:List SV→Option R} {g:List SV→Option B} (h: ∀ a,f a=(g a).bind k):zoy C fr x f=(zoy C fr x g).bind k:=zg (m:=fun R=>zoy (R:=R) C fr x) (zld C fr x) h
theorem zH (T:TypeId) {f:TI→Option R} {g:TI→Option B} (h: ∀ a,f a=(g a).bind k):zt C.TT T f=(zt C.TT T g).bind k:=zg (m:=fun R=>zt (R:=R) C.TT T) (xf C.TT T) h
end
theorem zpd (C:Ctx) (i:TI) (hp:List HO) (x y:SV) (ok:Bool):CN fun R=>jF (R:=R) C i hp x y ok:=by
 intro R k
 show jF C i hp x y ok k=(jF C i hp x y ok some).bind k
 unfold jF
 split
 ·refine zH _ fun ki=>zH _ fun vi=>zg (m:=fun R=>qv (R:=R) hp _) (qK hp _) fun o=> ?_
  split
  ·refine zf ?_ rfl
   split
   ·exact zf rfl rfl
   ·rfl
  ·rfl
 ·rfl
theorem zt4 (C:Ctx) (hp:List HO) (T:TypeId) (op:BinOp) (x y:SV) (lit:Bool):CN fun R=>zhi (R:=R) C hp T op x y lit:=by
 intro R k
 show zhi C hp T op x y lit k=(zhi C hp T op x y lit some).bind k
 unfold zhi
 split
 ·unfold zlp
  refine zH _ fun i=>zg (m:=fun R=>qv (R:=R) hp _) (qK hp _) fun o=> ?_
  split<;>rfl
 ·unfold zw8
  split<;>rfl
 ·unfold zqw
  split
  ·rfl
  ·rfl
  ·split<;>rfl
  ·rfl
 ·exact zww C T op x y lit R k
theorem zg8 (C:Ctx) (fr:List SV) (hp:List HO) (op:Op):CN fun R=>jZ (R:=R) C fr hp op:=by
 intro R k
 show jZ C fr hp op k=(jZ C fr hp op some).bind k
 unfold jZ
 split
 ·exact zdy _ _ _ R k
 ·exact zdy _ _ _ R k
 ·exact zm _ fun c=>zm _ fun a=>zm _ fun b=>zw1 c a b R k
 ·exact zH _ fun i=>zm _ fun x=>zg7 i hp x R k
 ·refine zm _ fun x=> ?_
  split<;>rfl
 ·exact zm _ fun a=>zm _ fun b=>zt4 C hp _ _ a b _ R k
 ·exact zm _ fun x=>zyz _ x R k
 ·refine zH _ fun _=>zH _ fun i=>zm _ fun x=> ?_
  split<;>rfl
 ·exact zH _ fun i=>zm _ fun x=>zsd C fr hp i x _ _ _ R k
 ·exact zH _ fun i=>zm _ fun x=>zi5 i x _ R k
 ·exact zH _ fun i=>zm _ fun x=>zsa i x _ R k
 ·exact zH _ fun i=>zm _ fun x=>zm _ fun n=>zi6 C hp i x n R k
 ·exact zH _ fun i=>zm _ fun x=>zm _ fun n=>zsb C i x n R k
 ·exact zH _ fun i=>zm _ fun x=>zm _ fun n=>zpd C i hp x n _ R k
 ·refine zm _ fun x=> ?_
  split
  ·exact qK _ _ R k
  ·rfl
 ·refine zH _ fun i=>zg (m:=fun R=>zb3 (R:=R) C fr _) (znb C fr _) fun ps=> ?_
  split
  ·exact zg (m:=fun R=>ze7 (R:=R) _ _ _) (zlb _ _ _) fun l=>rfl
  ·exact zH _ fun ei=>zg (m:=fun R=>ze7 (R:=R) _ _ _) (zlb _ _ _) fun l=>rfl
  ·rfl
 ·split
  ·exact zH _ fun i=>zm _ fun x=>zw0 i hp x R k
  ·exact zm _ fun x=>zb2 _ fun l=>zla _ l x R k
  ·exact zm _ fun x=>zb2 _ fun l=>zla _ l x R k
  ·refine zm _ fun x=> ?_
   split<;>rfl
  ·refine zm _ fun x=> ?_
   split<;>rfl
  ·refine zm _ fun x=>zm _ fun y=> ?_
   split<;>rfl
  ·rfl
 ·split
  ·exact zb2 _ fun l=>rfl
  ·rfl
 ·rfl
end Go.Sx
