/- The symbolic evaluator, part V1: what goes on behind an evaluation does not turn it. -/
import Derived.Test.YtlppdabhaipbkaaGreatDoorSxC
set_option linter.unusedVariables false
set_option linter.unusedSimpArgs false
namespace Go.Sx
open Go.RowKit
def CN {A:Type} (m:(R:Type)→(A→Option R)→Option R):Prop:= ∀ (R:Type) (k:A→Option R),m R k=(m A some).bind k
theorem CN.pure {A:Type} (a:A):CN fun R (k:A→Option R)=>k a:=fun _ _=>rfl
theorem CN.none {A:Type}:CN fun R (_:A→Option R)=>(Option.none:Option R):=fun _ _=>rfl
theorem CN.bind {A B:Type} {m:(R:Type)→(A→Option R)→Option R} {f:A→(R:Type)→(B→Option R)→Option R} (hm:CN m) (hf: ∀ a,CN (f a)):CN fun R k=>m R fun a=>f a R k:=by
 intro R k
 show m R (fun a=>f a R k)=(m B fun a=>f a B some).bind k
 rw[hm,hm B]
 cases m A some with
 |none=>rfl
 |some a=>exact hf a R k
theorem CN.cond {A:Type} {b:Bool} {m n:(R:Type)→(A→Option R)→Option R} (hm:CN m) (hn:CN n):CN fun R k=>bif b then m R k else n R k:=by
 intro R k
 cases b
 ·exact hn R k
 ·exact hm R k
theorem qM {A:Type}: ∀ (l:List A) (n:Nat),CN fun R=>qv (R:=R) l n
 | [],n=>by intro R k;cases n<;>rfl
 |x::l,0=>fun _ _=>rfl
 |x::l,n+1=>fun R k=>qM l n R k
theorem xi: ∀ (l:List (TypeId×TI)) (T:TypeId),CN fun R=>zq (R:=R) l T
 | [],T=>fun _ _=>rfl
 |(t,i)::l,T=>by
  intro R k
  show zq ((t,i)::l) T k=(zq ((t,i)::l) T some).bind k
  unfold zq
  cases Nat.beq t T
  ·exact xi l T R k
  ·rfl
theorem ztg: ∀ (l:List (Nat×DV)) (g:Nat),CN fun R=>zlj (R:=R) l g
 | [],T=>fun _ _=>rfl
 |(t,i)::l,T=>by
  intro R k
  show zlj ((t,i)::l) T k=(zlj ((t,i)::l) T some).bind k
  unfold zlj
  cases Nat.beq t T
  ·exact ztg l T R k
  ·rfl
theorem zfr (v:Value):CN fun R=>jV (R:=R) v:=by
 intro R k
 unfold jV
 split<;>rfl
theorem zdz: ∀ (l:List Value),CN fun R=>jW (R:=R) l
 | []=>fun _ _=>rfl
 |v::l=>(zfr v).bind fun s=>(zdz l).bind fun l'=>CN.pure _
theorem zre (v:Value):CN fun R=>zg8 (R:=R) v:=by
 intro R k
 unfold zg8
 split
 ·exact((zdz _).bind fun l=>CN.pure _) R k
 ·exact zfr _ R k
theorem zd0 (C:Ctx) (fr:List SV) (x:Operand):CN fun R=>opd (R:=R) C fr x:=by
 intro R k
 unfold opd
 split
 ·exact qM _ _ R k
 ·exact zre _ R k
 ·exact ztg _ _ R k
 ·rfl
theorem zk4 (C:Ctx) (fr:List SV): ∀ (l:List Operand),CN fun R=>zob (R:=R) C fr l
 | []=>fun _ _=>rfl
 |x::l=>(zd0 C fr x).bind fun s=>(zk4 C fr l).bind fun l'=>CN.pure _
theorem zmu (s:SV):CN fun R=>asB (R:=R) s:=by
 intro R k
 unfold asB
 split<;>rfl
theorem zjs (s:SV):CN fun R=>asI (R:=R) s:=by
 intro R k
 unfold asI
 split<;>rfl
theorem zv1 (op:BinOp) (i:IntKind) (a b:Int) (lit:Bool):CN fun R=>zru (R:=R) op i a b lit:=by
 intro R k
 unfold zru
 cases op<;>first|rfl|(cases lit<;>first|rfl|(dsimp only[cond_false,cond_true];split<;>rfl))
theorem zri (op:BinOp) (i:IntKind) (a b:Int) (lit:Bool):CN fun R=>zdg (R:=R) op i a b lit:=by
 intro R k
 unfold zdg
 cases op<;>first|rfl|(cases lit<;>first|rfl|(dsimp only[cond_false,cond_true];split<;>rfl))
theorem zey (C:Ctx) (T:TypeId) (op:BinOp) (t:Ty) (x y:t.den):CN fun R=>zsv (R:=R) C T op t x y:=by
 intro R k
 unfold zsv
 cases zdx C 8 T _ with
 |true=>dsimp only[cond_true];split<;>rfl
 |false=>rfl
theorem zg {A B R:Type} {m:(R:Type)→(A→Option R)→Option R} (hm:CN m) {f:A→Option R} {g:A→Option B} {k:B→Option R} (h: ∀ a,f a=(g a).bind k):m R f=(m B g).bind k:=by
 rw[hm R f,hm B g]
 cases m A some with
 |none=>rfl
 |some a=>exact h a
theorem zk3 (i:IntKind): ∀ (n:Nat) (l:List SV),CN fun R=>ze6 (R:=R) i n l
 |0, []=>fun _ _=>rfl
 |n+1,s::l=>by
  intro R k
  cases s with
  |val t x=>cases t with
   |int j=>
    show(if _h:j=i then ze6 i n l fun xs=>k (x::xs) else none)=(if _h:j=i then ze6 i n l fun xs=>some (x::xs) else none).bind k
    split
    ·exact zg (m:=fun R=>ze6 (R:=R) i n l) (zk3 i n l) fun xs=>rfl
    ·rfl
   |_=>rfl
  |_=>rfl
 |0,_::_=>fun _ _=>rfl
 |_+1, []=>fun _ _=>rfl
theorem zdb: ∀ (t:Ty) (l:List SV),CN fun R=>zet (R:=R) t l
 | .int i,l=>by
  intro R k
  cases l with
  |nil=>rfl
  |cons s l=>cases s with
   |val t x=>cases t with
    |int j=>
     show(if _h:j=i then k (x,l) else none)=(if _h:j=i then some (x,l) else none).bind k
     split<;>rfl
    |_=>rfl
   |_=>rfl
 | .bool,l=>by
  cases l with
  |nil=>intro R k;rfl
  |cons s l=>exact(zmu s).bind fun b=>CN.pure (b,l)
 | .pair a b,l=>(zdb a l).bind fun p=>(zdb b p.2).bind fun q=>CN.pure ((p.1,q.1),q.2)
 | .st f,l=>(zdb f l).bind fun p=>CN.pure (p.1,p.2)
 | .str,_=>fun _ _=>rfl
 | .flt,_=>fun _ _=>rfl
 | .cplx,_=>fun _ _=>rfl
 | .unit,_=>fun _ _=>rfl
 | .sl _,_=>fun _ _=>rfl
 | .osl _,_=>fun _ _=>rfl
 | .arr _ _,_=>fun _ _=>rfl
theorem zvy (C:Ctx) (T:TypeId) (op:BinOp) (x y:SV) (lit:Bool):CN fun R=>ztp (R:=R) C T op x y lit:=by
 intro R k
 unfold ztp
 split
 ·cases hs:xO op with
  |true=>exact zri _ _ _ _ _ R k
  |false=>
   dsimp only[cond_false]
   split
   ·exact zv1 _ _ _ _ _ R k
   ·rfl
 ·split<;>rfl
 ·split
  ·unfold zsv
   cases zdx C 8 T _ with
   |true=>dsimp only[cond_true];split<;>rfl
   |false=>rfl
  ·rfl
 ·exact zg (m:=fun R=>ze6 (R:=R) _ _ _) (zk3 _ _ _) fun b=>zey _ _ _ _ _ _ _ k
 ·exact zg (m:=fun R=>ze6 (R:=R) _ _ _) (zk3 _ _ _) fun b=>zey _ _ _ _ _ _ _ k
 ·split
  ·exact zey _ _ _ _ _ _ R k
  ·rfl
 ·exact zg (m:=fun R=>zet (R:=R) _ _) (zdb _ _) fun p=>by
   split
   ·exact zey _ _ _ _ _ _ _ k
   ·rfl
 ·exact zg (m:=fun R=>zet (R:=R) _ _) (zdb _ _) fun p=>by
   split
   ·exact zey _ _ _ _ _ _ _ k
   ·rfl
 ·exact zg (m:=fun R=>zq (R:=R) C.TT T) (xi C.TT T) fun i=>by
   split
   ·exact zg (m:=fun R=>zet (R:=R) _ _) (zdb _ _) fun p=>zg (m:=fun R=>zet (R:=R) _ _) (zdb _ _) fun q=>by
     split
     ·exact zey _ _ _ _ _ _ _ k
     ·rfl
   ·rfl
 ·rename_i xs
  exact((xi C.TT T).bind (f:=fun i R (k:SV→Option R)=>match i.kind,op with
   | .slice _, .eql=>k (.ub true (Nat.beq xs.length 0))
   | .slice _, .neq=>k (.ub false (Nat.beq xs.length 0))
   |_,_=>Option.none) fun i=>by intro R k;dsimp only;split<;>rfl) R k
 ·exact((xi C.TT T).bind (f:=fun i R (k:SV→Option R)=>match i.kind,op with
   | .ptr _, .eql=>k (.bit true)
   | .ptr _, .neq=>k (.bit false)
   |_,_=>Option.none) fun i=>by intro R k;dsimp only;split<;>rfl) R k
 ·exact((xi C.TT T).bind (f:=fun i R (k:SV→Option R)=>match i.kind,op with
   | .ptr _, .eql=>k (.bit false)
   | .ptr _, .neq=>k (.bit true)
   |_,_=>Option.none) fun i=>by intro R k;dsimp only;split<;>rfl) R k
 ·exact((xi C.TT T).bind (f:=fun i R (k:SV→Option R)=>asB x fun a=>asB y fun b=>match i.kind,op with
   | .bool, .eql=>k (.val .bool (a==b))
   | .bool, .neq=>k (.val .bool (!(a==b)))
   |_,_=>Option.none) fun i=>(zmu x).bind fun a=>(zmu y).bind fun b=>by intro R k;dsimp only;split<;>rfl) R k
theorem zx0 (op:UnOp) (x:SV):CN fun R=>zzf (R:=R) op x:=by
 intro R k
 unfold zzf
 split<;>rfl
theorem zv3 (c a b:SV):CN fun R=>zsd (R:=R) c a b:=by
 intro R k
 unfold zsd
 split
 ·rfl
 ·rfl
 ·split
  ·split<;>rfl
  ·exact((zmu a).bind fun x=>(zmu b).bind fun y=>CN.pure _) R k
 ·rfl
theorem zg6 (i:TI) (hp:List HO) (x:SV):CN fun R=>xG (R:=R) i hp x:=by
 intro R k
 unfold xG
 split
 ·cases fits i _<;>rfl
 ·rename_i id off
  exact((qM hp id).bind (f:=fun o R (k:SV→Option R)=>match o with
   | .cells l=>bif i.kind.isAgg then(bif Nat.ble (off+i.size) l.length then k (.agg ((l.drop off).take i.size)) else Option.none) else(bif Nat.beq i.size 1 then qv l off k else Option.none)
   |_=>Option.none) fun o=>by
    intro R k
    dsimp only
    split
    ·cases i.kind.isAgg
     ·cases Nat.beq i.size 1
      ·rfl
      ·exact qM _ _ R k
     ·rename_i l
      cases Nat.ble (off+i.size) l.length<;>rfl
    ·rfl) R k
 ·rename_i id t j p
  exact((qM hp id).bind (f:=fun o R (k:SV→Option R)=>match o with
   | .arr _ t' xs=>if h:t'=t then(match zc3 p t ((h▸xs:List t.den).getD j t.dflt) with
    |some d=>bif fits i d.t then(bif d.t.noOwn then k (.val d.t d.x) else k (.val d.t.er (d.t.erD d.x))) else Option.none
    |Option.none=>Option.none) else Option.none
   |_=>Option.none) fun o=>by
    intro R k
    dsimp only
    split
    ·split
     ·split
      ·rename_i d _
       cases fits i d.t<;>cases d.t.noOwn<;>rfl
      ·rfl
     ·rfl
    ·rfl) R k
 ·rfl
theorem zth (C:Ctx) (fr:List SV) (x:Option Operand) (d:Int):CN fun R=>zvn (R:=R) C fr x d:=by
 intro R k
 unfold zvn
 cases x with
 |none=>rfl
 |some x=>exact((zd0 C fr x).bind fun s=>zjs s) R k
theorem zN {B R:Type} {c:Prop} [Decidable c] {a b:Option R} {a' b':Option B} {k:B→Option R} (h1:a=a'.bind k) (h2:b=b'.bind k):(if c then a else b)=(if c then a' else b').bind k:=by
 by_cases h:c
 ·simp only[if_pos h,h1]
 ·simp only[if_neg h,h2]
theorem zf {B R:Type} {c:Bool} {a b:Option R} {a' b':Option B} {k:B→Option R} (h1:a=a'.bind k) (h2:b=b'.bind k):(bif c then a else b)=(bif c then a' else b').bind k:=by
 cases c
 ·exact h2
 ·exact h1
theorem xX {B R:Type} (C:Ctx) (fr:List SV) (y:Operand) {f:Int→Option R} {g:Int→Option B} {k:B→Option R} (h: ∀ a,f a=(g a).bind k):
  (opd C fr y fun s=>asI s f)=(opd C fr y fun s=>asI s g).bind k:=
 zg (m:=fun R=>opd (R:=R) C fr y) (zd0 C fr y) fun s=>zg (m:=fun R=>asI (R:=R) s) (zjs s) h
theorem zrj (C:Ctx) (fr:List SV) (hp:List HO) (i:TI) (x:SV) (lo hi mx:Option Operand):CN fun R=>zb0 (R:=R) C fr hp i x lo hi mx:=by
 intro R k
 show zb0 C fr hp i x lo hi mx k=(zb0 C fr hp i x lo hi mx some).bind k
 unfold zb0
 split
 ·refine zg (m:=fun R=>zq (R:=R) C.TT _) (xi C.TT _) fun ei=> ?_
  split
  ·refine zf ?_ rfl
   split
   ·split
    ·rfl
    ·rfl
   ·cases hi with
    |none=>
     cases lo with
     |none=>rfl
     |some y=>exact xX C fr y fun n=>zN rfl rfl
    |some h=>
     refine xX C fr h fun n=>zN ?_ rfl
     cases lo with
     |none=>rfl
     |some y=>exact xX C fr y fun n=>zN rfl rfl
   ·rename_i m _
    refine xX C fr m fun n=>zN ?_ rfl
    cases hi with
    |none=>rfl
    |some h=>exact xX C fr h fun n=>zN (zg (m:=fun R=>zvn (R:=R) C fr lo 0) (zth C fr lo 0) fun l=>zN rfl rfl) rfl
  ·cases mx with
   |some m=>rfl
   |none=>
    cases lo with
    |some y=>
     refine zg (m:=fun R=>qv (R:=R) hp _) (qM hp _) fun o=> ?_
     split
     ·refine zf ?_ rfl
      cases hi with
      |none=>exact xX C fr y fun n=>zN rfl rfl
      |some h=>exact xX C fr h fun n=>zN (xX C fr y fun m=>zN rfl rfl) rfl
     ·rfl
    |none=>
     refine zg (m:=fun R=>qv (R:=R) hp _) (qM hp _) fun o=> ?_
     split
     ·cases hi with
      |none=>rfl
      |some h=>exact xX C fr h fun n=>zN rfl rfl
     ·rfl
  ·rfl
 ·rfl
theorem zi7 (C:Ctx) (hp:List HO) (i:TI) (x ix:SV):CN fun R=>qx (R:=R) C hp i x ix:=by
 intro R k
 show qx C hp i x ix k=(qx C hp i x ix some).bind k
 unfold qx
 refine zg (m:=fun R=>asI (R:=R) ix) (zjs ix) fun n=> ?_
 split
 ·refine zg (m:=fun R=>zq (R:=R) C.TT _) (xi C.TT _) fun ei=> ?_
  split
  ·exact zf (zN rfl rfl) rfl
  ·refine zg (m:=fun R=>qv (R:=R) hp _) (qM hp _) fun o=> ?_
   split
   ·exact zf (zN rfl rfl) rfl
   ·rfl
  ·exact zf (zN rfl rfl) rfl
  ·rfl
 ·refine zg (m:=fun R=>zq (R:=R) C.TT _) (xi C.TT _) fun ei=> ?_
  split
  ·exact zf (zN rfl rfl) rfl
  ·exact zN rfl rfl
  ·rfl
 ·rfl
theorem zrh (C:Ctx) (i:TI) (x ix:SV):CN fun R=>zde (R:=R) C i x ix:=by
 intro R k
 show zde C i x ix k=(zde C i x ix some).bind k
 unfold zde
 refine zg (m:=fun R=>asI (R:=R) ix) (zjs ix) fun n=> ?_
 split
 ·refine zg (m:=fun R=>zq (R:=R) C.TT _) (xi C.TT _) fun ei=> ?_
  split
  ·exact zf (zN rfl rfl) rfl
  ·rfl
 ·split
  ·exact zN rfl rfl
  ·rfl
 ·rfl
theorem zrg (i:TI) (x:SV) (f:Nat):CN fun R=>zdd (R:=R) i x f:=by
 intro R k
 show zdd i x f k=(zdd i x f some).bind k
 unfold zdd
 split
 ·rename_i fs _
  refine zg (m:=fun R=>qv (R:=R) fs f) (qM fs f) fun p=> ?_
  obtain⟨T,off,size,agg⟩:=p
  dsimp only
  split
  ·exact zf (zf rfl rfl) (qM _ _ R k)
  ·split
   ·exact zf rfl rfl
   ·rfl
  ·rfl
 ·rfl
theorem zi6 (i:TI) (x:SV) (f:Nat):CN fun R=>qT (R:=R) i x f:=by
 intro R k
 show qT i x f k=(qT i x f some).bind k
 unfold qT
 split
 ·rename_i fs _
  refine zg (m:=fun R=>qv (R:=R) fs f) (qM fs f) fun p=> ?_
  obtain⟨T,off,size,agg⟩:=p
  dsimp only
  refine zf rfl ?_
  split
  ·rfl
  ·split
   ·exact zf rfl rfl
   ·rfl
  ·split
   ·exact zf rfl rfl
   ·rfl
  ·rfl
 ·rfl
theorem zv2 (i:TI) (hp:List HO) (x:SV):CN fun R=>zm6 (R:=R) i hp x:=by
 intro R k
 show zm6 i hp x k=(zm6 i hp x some).bind k
 unfold zm6
 split
 ·rfl
 ·rfl
 ·rfl
 ·refine zg (m:=fun R=>qv (R:=R) hp _) (qM hp _) fun o=> ?_
  split
  ·rfl
  ·rfl
  ·rfl
 ·rfl
 ·rfl
 ·rfl
 ·rfl
theorem zk1 (f:Int→Int→Int): ∀ (l:List SV) (x:SV),CN fun R=>zam (R:=R) f x l
 | [],x=>fun _ _=>rfl
 |y::l,x=>by
  intro R k
  show zam f x (y::l) k=(zam f x (y::l) some).bind k
  cases x with
  |val t a=>
   cases t with
   |int i=>
    cases y with
    |val t' b=>
     cases t' with
     |int j=>exact zk1 f l _ R k
     |_=>simp[zam]
    |_=>simp[zam]
   |_=>simp[zam]
  |_=>simp[zam]
theorem zmv (s:SV):CN fun R=>s.cellsK (R:=R):=by
 intro R k
 unfold SV.cellsK
 split
 ·exact CN.cond (CN.pure _) CN.none R k
 all_goals rfl
theorem zk2 (fs:List (TypeId×Nat×Nat×Bool)): ∀ (l:List (Nat×SV)) (cs:List SV),CN fun R=>ze2 (R:=R) fs l cs
 | [],cs=>fun _ _=>rfl
 |(i,s)::l,cs=>by
  intro R k
  show ze2 fs ((i,s)::l) cs k=(ze2 fs ((i,s)::l) cs some).bind k
  unfold ze2
  exact zg (m:=fun R=>qv (R:=R) fs i) (qM fs i) fun p=>zg (m:=fun R=>s.cellsK (R:=R)) (zmv s) fun l'=>zf (zk2 fs l _ R k) rfl
theorem zmz (C:Ctx) (fr:List SV): ∀ (l:List (Nat×Operand)),CN fun R=>zb7 (R:=R) C fr l
 | []=>fun _ _=>rfl
 |(i,x)::l=>by
  intro R k
  show zb7 C fr ((i,x)::l) k=(zb7 C fr ((i,x)::l) some).bind k
  unfold zb7
  exact zg (m:=fun R=>opd (R:=R) C fr x) (zd0 C fr x) fun s=>zg (m:=fun R=>zb7 (R:=R) C fr l) (zmz C fr l) fun l'=>rfl
section
variable {B R:Type} {C:Ctx} {fr:List SV} {k:B→Option R}
theorem zk (x:Operand) {f:SV→Option R} {g:SV→Option B} (h: ∀ a,f a=(g a).bind k):opd C fr x f=(opd C fr x g).bind k:=zg (m:=fun R=>opd (R:=R) C fr x) (zd0 C fr x) h
theorem zb6 (x:List Operand) {f:List SV→Option R} {g:List SV→Option B} (h: ∀ a,f a=(g a).bind k):zob C fr x f=(zob C fr x g).bind k:=zg (m:=fun R=>zob (R:=R) C fr x) (zk4 C fr x) h
theorem zJ (T:TypeId) {f:TI→Option R} {g:TI→Option B} (h: ∀ a,f a=(g a).bind k):zq C.TT T f=(zq C.TT T g).bind k:=zg (m:=fun R=>zq (R:=R) C.TT T) (xi C.TT T) h
end
theorem zoq (C:Ctx) (i:TI) (hp:List HO) (x y:SV) (ok:Bool):CN fun R=>jF (R:=R) C i hp x y ok:=by
 intro R k
 show jF C i hp x y ok k=(jF C i hp x y ok some).bind k
 unfold jF
 split
 ·refine zJ _ fun ki=>zJ _ fun vi=>zg (m:=fun R=>qv (R:=R) hp _) (qM hp _) fun o=> ?_
  split
  ·refine zf ?_ rfl
   split
   ·exact zf rfl rfl
   ·rfl
  ·rfl
 ·rfl
theorem ztb (C:Ctx) (hp:List HO) (T:TypeId) (op:BinOp) (x y:SV) (lit:Bool):CN fun R=>zhg (R:=R) C hp T op x y lit:=by
 intro R k
 show zhg C hp T op x y lit k=(zhg C hp T op x y lit some).bind k
 unfold zhg
 split
 ·unfold zlf
  refine zJ _ fun i=>zg (m:=fun R=>qv (R:=R) hp _) (qM hp _) fun o=> ?_
  split<;>rfl
 ·unfold zv9
  split<;>rfl
 ·unfold zp9
  split
  ·rfl
  ·rfl
  ·split<;>rfl
  ·rfl
 ·exact zvy C T op x y lit R k
theorem zg7 (C:Ctx) (fr:List SV) (hp:List HO) (op:Op):CN fun R=>jZ (R:=R) C fr hp op:=by
 intro R k
 show jZ C fr hp op k=(jZ C fr hp op some).bind k
 unfold jZ
 split
 ·exact zd0 _ _ _ R k
 ·exact zd0 _ _ _ R k
 ·exact zk _ fun c=>zk _ fun a=>zk _ fun b=>zv3 c a b R k
 ·exact zJ _ fun i=>zk _ fun x=>zg6 i hp x R k
 ·refine zk _ fun x=> ?_
  split<;>rfl
 ·exact zk _ fun a=>zk _ fun b=>ztb C hp _ _ a b _ R k
 ·exact zk _ fun x=>zx0 _ x R k
 ·refine zJ _ fun _=>zJ _ fun i=>zk _ fun x=> ?_
  split<;>rfl
 ·exact zJ _ fun i=>zk _ fun x=>zrj C fr hp i x _ _ _ R k
 ·exact zJ _ fun i=>zk _ fun x=>zi6 i x _ R k
 ·exact zJ _ fun i=>zk _ fun x=>zrg i x _ R k
 ·exact zJ _ fun i=>zk _ fun x=>zk _ fun n=>zi7 C hp i x n R k
 ·exact zJ _ fun i=>zk _ fun x=>zk _ fun n=>zrh C i x n R k
 ·exact zJ _ fun i=>zk _ fun x=>zk _ fun n=>zoq C i hp x n _ R k
 ·refine zk _ fun x=> ?_
  split
  ·exact qM _ _ R k
  ·rfl
 ·refine zJ _ fun i=>zg (m:=fun R=>zb7 (R:=R) C fr _) (zmz C fr _) fun ps=> ?_
  split
  ·exact zg (m:=fun R=>ze2 (R:=R) _ _ _) (zk2 _ _ _) fun l=>rfl
  ·exact zJ _ fun ei=>zg (m:=fun R=>ze2 (R:=R) _ _ _) (zk2 _ _ _) fun l=>rfl
  ·rfl
 ·split
  ·exact zJ _ fun i=>zk _ fun x=>zv2 i hp x R k
  ·exact zk _ fun x=>zb6 _ fun l=>zk1 _ l x R k
  ·exact zk _ fun x=>zb6 _ fun l=>zk1 _ l x R k
  ·refine zk _ fun x=> ?_
   split<;>rfl
  ·refine zk _ fun x=> ?_
   split<;>rfl
  ·refine zk _ fun x=>zk _ fun y=> ?_
   split<;>rfl
  ·rfl
 ·split
  ·exact zb6 _ fun l=>rfl
  ·rfl
 ·rfl
end Go.Sx
