/- The symbolic evaluator, part B: the evaluator itself (definitions alone). -/
import Derived.Test.YtlppdabhaipbkaaGreatDoorSxA
set_option linter.unusedVariables false
set_option linter.unusedSimpArgs false
namespace Go.Sx
open Go.RowKit
structure DV where
 t:Ty
 x:t.den
inductive TK where
 |other
 |bool
 |str
 |int (k:IntKind)
 |ptr (E:TypeId)
 |slice (E:TypeId)
 |struct (fs:List (TypeId×Nat×Nat×Bool))
 |array (n:Nat) (E:TypeId)
 |map (K V:TypeId)
 |flt
structure TI where
 kind:TK
 size:Nat
 bytes:Nat
 ty:Option Ty
 zero:List SV
def TK.isAgg:TK→Bool
 | .struct _| .array _ _=>true
 |_=>false
inductive HO where
 |gone
 |cells (l:List SV)
 |arr (T:TypeId) (t:Ty) (xs:List t.den)
 |fro (t:Ty) (xs:List t.den)
 |frs (t:Ty) (x:t.den)
 |map (K V:Ty) (es:List (K.den×V.den))
 |tk (T:TypeId) (t:Ty) (xs:List t.den)
def HO.live:HO→Bool
 | .gone=>false
 | .fro _ _=>false
 | .frs _ _=>false
 | .tk _ _ _=>false
 |_=>true
section
variable {R:Type}
def jy {α:Type}:List α→Nat→α→(List α→Option R)→Option R
 | [],_,_,k=>k []
 |_::l,0,v,k=>k (v::l)
 |x::l,n+1,v,k=>jy l n v fun l'=>k (x::l')
def jr {α:Type}:List α→α→(List α→Option R)→Option R
 | [],v,k=>k [v]
 |x::l,v,k=>jr l v fun l'=>k (x::l')
def zL {α:Type} (xs:List α):Option Nat→List α
 |none=>xs
 |some n=>xs.take n
def zdk {α:Type} (xs:List α):Option Nat→Nat
 |none=>xs.length
 |some n=>n
def zq:List (TypeId×TI)→TypeId→(TI→Option R)→Option R
 | [],_,_=>none
 |(t,i)::l,u,k=>bif Nat.beq t u then k i else zq l u k
def qv {α:Type}:List α→Nat→(α→Option R)→Option R
 | [],_,_=>none
 |x::_,0,k=>k x
 |_::l,n+1,k=>qv l n k
def zlv (t:Ty) (s:SV) (hp:List HO) (k:t.den→List HO→Option R):Option R:=
 match s with
 | .val t' x=>bif t.noOwn then(if h:t'=t then k (h▸x) hp else none) else(if h:t'=t.er then k (t.lift (h▸x)) hp else none)
 | .bit b=>match t,k with
  | .bool,k=>k b hp
  |_,_=>none
 | .nils=>match t,k with
  | .sl _,k=>k [] hp
  | .osl _,k=>k (true, []) hp
  |_,_=>none
 | .nil0=>match t,k with
  | .sl _,k=>k [] hp
  | .osl _,k=>k (true, []) hp
  |_,_=>none
 | .own id len=>match t,k with
  | .sl e,k=>qv hp id fun o=>match o with
   | .arr _ e' xs=>if h:e'=e then jy hp id (.fro e' xs) fun hp'=>k (zL (h▸xs) len) hp' else
     if h:e'.er=e then jy hp id (.fro e (h▸(xs.map e'.erD))) fun hp'=>k (zL (h▸(xs.map e'.erD)) len) hp' else none
   | .fro e' xs=>if h:e'=e then k (zL (h▸xs) len) hp else none
   | .tk _ e' xs=>if h:e'=e then k (zL (h▸xs) len) hp else none
   |_=>none
  | .osl e,k=>bif len.isNone then qv hp id fun o=>(match o with
   | .arr _ e' xs=>if h:e'=e then jy hp id .gone fun hp'=>k (true,(h▸xs:List e.den)) hp' else none
   | .tk _ e' xs=>if h:e'=e then jy hp id .gone fun hp'=>k (true,(h▸xs:List e.den)) hp' else none
   | .fro e' xs=>if h:e'=e then k (false,(h▸xs:List e.den)) hp else none
   |_=>none) else none
  |_,_=>none
 |_=>none
def zjp {α:Type} (step:List SV→List HO→(α→List SV→List HO→Option R)→Option R):Nat→List SV→List HO→(List α→List SV→List HO→Option R)→Option R
 |0,l,hp,k=>k [] l hp
 |n+1,l,hp,k=>step l hp fun x l hp=>zjp step n l hp fun xs l hp=>k (x::xs) l hp
def qg:(t:Ty)→List SV→List HO→(t.den→List SV→List HO→Option R)→Option R
 | .pair a b,l,hp,k=>qg a l hp fun x l hp=>qg b l hp fun y l hp=>k (x,y) l hp
 | .unit,l,hp,k=>k () l hp
 | .st f,l,hp,k=>qg f l hp k
 | .arr n e,l,hp,k=>zjp (qg e) n l hp k
 | .int i,s::l,hp,k=>zlv (.int i) s hp fun x hp=>k x l hp
 | .bool,s::l,hp,k=>zlv .bool s hp fun x hp=>k x l hp
 | .str,s::l,hp,k=>zlv .str s hp fun x hp=>k x l hp
 | .flt,s::l,hp,k=>zlv .flt s hp fun x hp=>k x l hp
 | .cplx,s::l,hp,k=>zlv .cplx s hp fun x hp=>k x l hp
 | .sl e,s::l,hp,k=>zlv (.sl e) s hp fun x hp=>k x l hp
 | .osl e,s::l,hp,k=>zlv (.osl e) s hp fun x hp=>k x l hp
 |_, [],_,_=>none
def zdc (t:Ty) (s:SV) (hp:List HO) (k:t.den→List HO→Option R):Option R:=
 match s with
 | .agg l=>bif t.isAgg then qg t l hp fun x l hp=>(match l with| []=>k x hp|_::_=>none) else none
 |_=>zlv t s hp k
def roF (t:Ty) (s:SV) (hp:List HO) (k:t.den→List HO→Option R):Option R:=
 match s with
 | .ro t' x=>if h:t'=t then k (h▸x) hp else none
 | .ptr id off=>bif Nat.beq off 0 then qv hp id fun o=>(match o with
  | .cells l=>qg t l hp fun x l' hp=>(match l' with
   | []=>qv hp id fun o=>(match o with
    | .cells _=>jy hp id (.frs t x) fun hp=>k x hp
    |_=>none)
   |_::_=>none)
  | .frs t' x=>if h:t'=t then k (h▸x) hp else none
  |_=>none) else none
 |_=>none
def qU:(t:Ty)→t.den→List SV
 | .pair a b,x=>qU a x.1++qU b x.2
 | .unit,_=> []
 | .st f,x=>qU f x
 | .arr n e,xs=>(List.range n).flatMap fun i=>qU e (xs.getD i e.dflt)
 | .int i,x=> [.val (.int i) x]
 | .bool,x=> [.val .bool x]
 | .str,x=> [.val .str x]
 | .flt,x=> [.val .flt x]
 | .cplx,x=> [.val .cplx x]
 | .sl e,x=> [.val (.sl e) x]
 | .osl e,x=> [.val (.sl e) x.2]
def SV.isOne:SV→Bool
 | .val t _=>t.one
 | .bit _| .nils| .nil0| .own _ _| .nilp| .ptr _ _| .elt _ _ _ _| .vw _ _ _ _| .mp _| .ro _ _| .fn _ _=>true
 |_=>false
def zmn:List SV→Bool
 | []=>true
 |s::l=>s.isOne&&zmn l
def SV.cellsK (s:SV) (k:List SV→Option R):Option R:=
 match s with
 | .val t x=>bif t.isAgg||Nat.beq t.size 1 then k (qU t x) else none
 | .agg l=>k l
 | .und| .skip| .tup _=>none
 |s=>k [s]
def z06:List HO→Nat→Nat→Option Nat→(SV→Option R)→Option R
 | .fro e xs::_,0,_,len,k=>k (.val (.sl e) (zL xs len))
 |_::_,0,id,len,k=>k (.own id len)
 |_::l,n+1,id,len,k=>z06 l n id len k
 | [],_,id,len,k=>k (.own id len)
def zz9:List HO→Nat→Nat→Nat→(SV→Option R)→Option R
 | .frs t x::_,0,id,off,k=>bif Nat.beq off 0 then k (.ro t x) else k (.ptr id off)
 |_::_,0,id,off,k=>k (.ptr id off)
 |_::l,n+1,id,off,k=>zz9 l n id off k
 | [],_,id,off,k=>k (.ptr id off)
def zsp (hp:List HO) (s:SV) (k:SV→Option R):Option R:=
 match s with
 | .own id len=>z06 hp id id len k
 | .ptr id off=>zz9 hp id id off k
 |s=>k s
def zso (hp:List HO):List SV→(List SV→Option R)→Option R
 | [],k=>k []
 |s::l,k=>zsp hp s fun s'=>zso hp l fun l'=>k (s'::l')
def zt8:List HO→Bool
 | []=>false
 | .fro _ _::_=>true
 | .frs _ _::_=>true
 |_::l=>zt8 l
def za7 (hp:List HO) (fr:List SV) (k:List SV→Option R):Option R:=bif zt8 hp then zso hp fr k else k fr
def jV (v:Value) (k:SV→Option R):Option R:=
 match v with
 | .int i n=>k (.val (.int i) n)
 | .bool b=>k (.bit b)
 | .string s=>k (.val .str s)
 | .float .f64 n=>k (.val .flt n)
 | .complex .f64 a b=>k (.val .cplx (a,b))
 | .slice none 0 0=>k .nils
 | .pointer none=>k .nilp
 | .map none=>k .und
 |_=>none
def jW:List Value→(List SV→Option R)→Option R
 | [],k=>k []
 |v::l,k=>jV v fun s=>jW l fun l'=>k (s::l')
def zg8 (v:Value) (k:SV→Option R):Option R:=
 match v with
 | .agg cs=>jW cs.toList fun l=>k (.agg l)
 |v=>jV v k
structure Ctx where
 TT:List (TypeId×TI)
 globs:List (Nat×DV)
 own:List (TypeId×Ty):= []
 mv:List TypeId:= []
 cmp:List TypeId:= []
def z0y:List (TypeId×Ty)→TypeId→Option Ty
 | [],_=>none
 |(t,u)::l,T=>bif Nat.beq t T then some u else z0y l T
def Ctx.el (C:Ctx) (E:TypeId) (ei:TI):Option Ty:=match z0y C.own E with
 |none=>ei.ty
 |some t=>bif decide (ei.ty=some t.er) then some t else none
def zlj:List (Nat×DV)→Nat→(SV→Option R)→Option R
 | [],_,_=>none
 |(g,d)::l,h,k=>bif Nat.beq g h then k (.ro d.t d.x) else zlj l h k
def opd (C:Ctx) (fr:List SV) (x:Operand) (k:SV→Option R):Option R:=
 match x with
 | .tmp t=>qv fr t k
 | .const v=>zg8 v k
 | .global g=>zlj C.globs g k
 | .func f=>k (.fn f [])
def zob (C:Ctx) (fr:List SV):List Operand→(List SV→Option R)→Option R
 | [],k=>k []
 |x::l,k=>opd C fr x fun s=>zob C fr l fun l'=>k (s::l')
def asB (s:SV) (k:Bool→Option R):Option R:=
 match s with
 | .bit b=>k b
 | .val .bool b=>k b
 |_=>none
def asI (s:SV) (k:Int→Option R):Option R:=
 match s with
 | .val (.int _) n=>k n
 |_=>none
def zru (op:BinOp) (i:IntKind) (a b:Int) (lit:Bool) (k:SV→Option R):Option R:=
 match op with
 | .add=>k (.val (.int i) (i.wrap (a+b)))
 | .sub=>k (.val (.int i) (i.wrap (a - b)))
 | .mul=>k (.val (.int i) (i.wrap (a*b)))
 | .quo=>bif lit then k (.val (.int i) (i.wrap (a.tdiv b))) else if b=0 then none else k (.val (.int i) (i.wrap (a.tdiv b)))
 | .rem=>bif lit then k (.val (.int i) (a.tmod b)) else if b=0 then none else k (.val (.int i) (a.tmod b))
 | .and=>k (.val (.int i) (i.wrap (BitVec.ofInt i.bits a &&& BitVec.ofInt i.bits b).toNat))
 | .or=>k (.val (.int i) (i.wrap (BitVec.ofInt i.bits a ||| BitVec.ofInt i.bits b).toNat))
 | .xor=>k (.val (.int i) (i.wrap (BitVec.ofInt i.bits a ^^^ BitVec.ofInt i.bits b).toNat))
 | .andNot=>k (.val (.int i) (i.wrap (BitVec.ofInt i.bits a &&& ~~~ BitVec.ofInt i.bits b).toNat))
 | .eql=>k (.val .bool (a==b))
 | .neq=>k (.val .bool (a !=b))
 | .lss=>k (.val .bool (decide (a<b)))
 | .leq=>k (.val .bool (decide (a≤b)))
 | .gtr=>k (.val .bool (decide (a > b)))
 | .geq=>k (.val .bool (decide (a≥b)))
 |_=>none
def zdg (op:BinOp) (i:IntKind) (a b:Int) (lit:Bool) (k:SV→Option R):Option R:=
 match op with
 | .shl=>bif lit then k (.val (.int i) (i.wrap (a*2 ^ min b.toNat i.bits))) else if b<0 then none else k (.val (.int i) (i.wrap (a*2 ^ min b.toNat i.bits)))
 | .shr=>bif lit then k (.val (.int i) (a.fdiv (2 ^ min b.toNat i.bits))) else if b<0 then none else k (.val (.int i) (a.fdiv (2 ^ min b.toNat i.bits)))
 |_=>none
def xO:BinOp→Bool
 | .shl| .shr=>true
 |_=>false
def zr3 (op:BinOp) (y:Operand):Bool:=
 match y with
 | .const (.int _ n)=>match op with
  | .shl| .shr=>decide (0≤n)
  |_=>decide (n≠0)
 |_=>false
def Ty.eqb:(t:Ty)→t.den→t.den→Bool
 | .int _,a,b=>a==b
 | .bool,a,b=>a==b
 | .str,a,b=>a.toList==b.toList
 | .pair a b,x,y=>a.eqb x.1 y.1&&b.eqb x.2 y.2
 | .unit,_,_=>true
 | .st f,x,y=>f.eqb x y
 | .arr _ e,x,y=>x.length==y.length&&(x.zip y).all fun p=>e.eqb p.1 p.2
 |_,_,_=>false
def zo7 (i:TI):Option Ty:=
 match i.kind with
 | .int k=>some (.int k)
 |_=>none
def zef {K V:Ty}:List (K.den×V.den)→K.den→Option V.den
 | [],_=>none
 |p::l,k=>bif K.eqb k p.1 then some p.2 else zef l k
def zpd {K V:Ty}:List (K.den×V.den)→K.den→V.den→List (K.den×V.den)
 | [],k,v=> [(k,v)]
 |p::l,k,v=>bif K.eqb k p.1 then(p.1,v)::l else p::zpd l k v
def zpb (K V:Ty) (l:List (K.den×V.den)) (k:K.den):Option V.den:=zef l k
def z0x (K V:Ty) (l:List (K.den×V.den)) (k:K.den) (v:V.den):List (K.den×V.den):=zpd l k v
def jF (C:Ctx) (i:TI) (hp:List HO) (x y:SV) (ok:Bool) (k:SV→Option R):Option R:=
 match i.kind,x,y with
 | .map Kt Vt, .mp id, .val t y=>zq C.TT Kt fun ki=>zq C.TT Vt fun vi=>qv hp id fun o=>(match o with
  | .map K V es=>bif decide (zo7 ki=some K)&&(decide (vi.ty=some V)&&(V.one&& !vi.kind.isAgg)) then(if h:t=K then
    (bif ok then k (.tup [.val V ((zpb K V es (h▸y:K.den)).getD V.dflt), .val .bool (zpb K V es (h▸y:K.den)).isSome]) else k (.val V ((zpb K V es (h▸y:K.den)).getD V.dflt))) else none) else none
  |_=>none)
 |_,_,_=>none
def zex (ck:TypeId→Ty→Bool):Nat→List (TypeId×Nat×Nat×Bool)→Ty→Bool
 |o, [(T,off,size,agg)],t=>Nat.beq off o&&(ck T t&&(Nat.beq size t.size&&((agg==t.isAgg)&&(agg||Nat.beq size 1))))
 |o,(T,off,size,agg)::fs, .pair a b=>Nat.beq off o&&(ck T a&&(Nat.beq size a.size&&((agg==a.isAgg)&&((agg||Nat.beq size 1)&&zex ck (o+size) fs b))))
 |_,_,_=>false
def zdx (C:Ctx):Nat→TypeId→Ty→Bool
 |0,_,_=>false
 |d+1,T,t=>((zq C.TT T fun i=>some (match i.kind,t with
  | .int _, .int _=>true
  | .bool, .bool=>true
  | .str, .str=>true
  | .array n E, .arr m e=>Nat.beq n m&&(((zq C.TT E fun ei=>some (Nat.beq ei.size e.size&&((ei.kind.isAgg==e.isAgg)&&(ei.kind.isAgg||Nat.beq ei.size 1)))).getD false)&&zdx C d E e)
  | .struct fs, .st f=>C.cmp.any (fun U=>Nat.beq U T)&&zex (zdx C d) 0 fs f
  |_,_=>false)).getD false)
def zsv (C:Ctx) (T:TypeId) (op:BinOp) (t:Ty) (x y:t.den) (k:SV→Option R):Option R:=
 bif zdx C 8 T t then(match op with
  | .eql=>k (.val .bool (t.eqb x y))
  | .neq=>k (.val .bool (!(t.eqb x y)))
  |_=>none) else none
def ze6 (i:IntKind):Nat→List SV→(List Int→Option R)→Option R
 |0, [],k=>k []
 |n+1, .val (.int j) x::l,k=>if _h:j=i then ze6 i n l fun xs=>k (x::xs) else none
 |_,_,_=>none
def zet:(t:Ty)→List SV→(t.den×List SV→Option R)→Option R
 | .int i, .val (.int j) x::l,k=>if _h:j=i then k (x,l) else none
 | .bool,s::l,k=>asB s fun b=>k (b,l)
 | .pair a b,l,k=>zet a l fun p=>zet b p.2 fun q=>k ((p.1,q.1),q.2)
 | .st f,l,k=>zet f l fun p=>k (p.1,p.2)
 |_,_,_=>none
def ztp (C:Ctx) (T:TypeId) (op:BinOp) (x y:SV) (lit:Bool) (k:SV→Option R):Option R:=
 match x,y with
 | .val (.int i) a, .val (.int j) b=>bif xO op then zdg op i a b lit k else(if _h:i=j then zru op i a b lit k else none)
 | .val .str a, .val .str b=>match op with
  | .eql=>k (.val .bool (a.toList==b.toList))
  | .neq=>k (.val .bool (!(a.toList==b.toList)))
  |_=>none
 | .val (.arr n e) a, .val (.arr n' e') b=>if h:Ty.arr n' e'=Ty.arr n e then zsv C T op (.arr n e) a (h▸b) k else none
 | .val (.arr n (.int i)) a, .agg l=>ze6 i n l fun b=>zsv C T op (.arr n (.int i)) a b k
 | .agg l, .val (.arr n (.int i)) b=>ze6 i n l fun a=>zsv C T op (.arr n (.int i)) a b k
 | .val (.st f) a, .val (.st f') b=>if h:Ty.st f'=Ty.st f then zsv C T op (.st f) a (h▸b) k else none
 | .val (.st f) a, .agg l=>zet (.st f) l fun p=>(match p.2 with
  | []=>zsv C T op (.st f) a p.1 k
  |_=>none)
 | .agg l, .val (.st f) b=>zet (.st f) l fun p=>(match p.2 with
  | []=>zsv C T op (.st f) p.1 b k
  |_=>none)
 | .agg l, .agg m=>zq C.TT T fun i=>(match i.ty with
  |some (.st f)=>zet (.st f) l fun p=>zet (.st f) m fun q=>(match p.2,q.2 with
   | [], []=>zsv C T op (.st f) p.1 q.1 k
   |_,_=>none)
  |_=>none)
 | .val (.sl _) xs, .nils=>zq C.TT T fun i=>(match i.kind,op with
  | .slice _, .eql=>k (.ub true (Nat.beq xs.length 0))
  | .slice _, .neq=>k (.ub false (Nat.beq xs.length 0))
  |_,_=>none)
 | .nilp, .nilp=>zq C.TT T fun i=>(match i.kind,op with
  | .ptr _, .eql=>k (.bit true)
  | .ptr _, .neq=>k (.bit false)
  |_,_=>none)
 | .ptr _ _, .nilp=>zq C.TT T fun i=>(match i.kind,op with
  | .ptr _, .eql=>k (.bit false)
  | .ptr _, .neq=>k (.bit true)
  |_,_=>none)
 |x,y=>zq C.TT T fun i=>asB x fun a=>asB y fun b=>(match i.kind,op with
  | .bool, .eql=>k (.val .bool (a==b))
  | .bool, .neq=>k (.val .bool (!(a==b)))
  |_,_=>none)
def zlf (C:Ctx) (hp:List HO) (T:TypeId) (op:BinOp) (id:Nat) (len:Option Nat) (k:SV→Option R):Option R:=
 zq C.TT T fun i=>qv hp id fun o=>(match i.kind,op,o with
  | .slice _, .eql, .arr _ _ xs=>k (.ub true (Nat.beq (zdk xs len) 0))
  | .slice _, .neq, .arr _ _ xs=>k (.ub false (Nat.beq (zdk xs len) 0))
  |_,_,_=>none)
def zo0 (a b:Nat) (o:Ordering):Bool:=Ieee.double.order a b==some o
def zwb (a b:Nat):Nat:=(Ieee.double.sub a b).getD 0
def fOk (a b:Nat):Prop:=(Ieee.double.sub a b).isSome=true
instance (a b:Nat):Decidable (fOk a b):=inferInstanceAs (Decidable (_=_))
def zt2 (n:Int):Nat:=FloatKind.f64.nearest n
def zv9 (op:BinOp) (a b:Nat) (k:SV→Option R):Option R:=
 match op with
 | .eql=>k (.val .bool (zo0 a b .eq))
 | .neq=>k (.val .bool (!zo0 a b .eq))
 | .lss=>k (.val .bool (zo0 a b .lt))
 | .leq=>k (.val .bool (zo0 a b .lt||zo0 a b .eq))
 | .gtr=>k (.val .bool (zo0 a b .gt))
 | .geq=>k (.val .bool (zo0 a b .gt||zo0 a b .eq))
 |_=>none
def zp9 (op:BinOp) (a b:Nat×Nat) (k:SV→Option R):Option R:=
 match op with
 | .eql=>k (.val .bool (zo0 a.1 b.1 .eq&&zo0 a.2 b.2 .eq))
 | .neq=>k (.val .bool (!(zo0 a.1 b.1 .eq&&zo0 a.2 b.2 .eq)))
 | .sub=>if fOk a.1 b.1∧fOk a.2 b.2 then k (.val .cplx (zwb a.1 b.1,zwb a.2 b.2)) else none
 |_=>none
def zhg (C:Ctx) (hp:List HO) (T:TypeId) (op:BinOp) (x y:SV) (lit:Bool) (k:SV→Option R):Option R:=
 match x,y with
 | .own id len, .nils=>zlf C hp T op id len k
 | .val .flt a, .val .flt b=>zv9 op a b k
 | .val .cplx a, .val .cplx b=>zp9 op a b k
 |x,y=>ztp C T op x y lit k
def zzf (op:UnOp) (x:SV) (k:SV→Option R):Option R:=
 match op,x with
 | .not, .bit b=>k (.bit (!b))
 | .not, .val .bool b=>k (.val .bool (!b))
 | .neg, .val (.int i) n=>k (.val (.int i) (i.wrap (0 - n)))
 |_,_=>none
def zhm:(f:Ty)→Nat→f.den→Option DV
 | .pair a _,0,x=>some ⟨a,x.1⟩
 | .pair _ b,i+1,x=>zhm b i x.2
 |t,0,x=>some ⟨t,x⟩
 |_,_+1,_=>none
def zc3:List Nat→(t:Ty)→t.den→Option DV
 | [],t,x=>some ⟨t,x⟩
 |i::p, .st f,x=>match zhm f i x with
  |some d=>zc3 p d.t d.x
  |none=>none
 |_::_,_,_=>none
def fits (i:TI) (t:Ty):Bool:=Nat.beq i.size t.size&&((i.kind.isAgg==t.isAgg)&&(i.kind.isAgg||Nat.beq t.size 1))
def xG (i:TI) (hp:List HO) (x:SV) (k:SV→Option R):Option R:=
 match x with
 | .ro t x=>bif fits i t then k (.val t x) else none
 | .ptr id off=>qv hp id fun o=>match o with
  | .cells l=>bif i.kind.isAgg then(bif Nat.ble (off+i.size) l.length then k (.agg ((l.drop off).take i.size)) else none) else(bif Nat.beq i.size 1 then qv l off k else none)
  |_=>none
 | .elt id t j p=>qv hp id fun o=>match o with
  | .arr _ t' xs=>if h:t'=t then(match zc3 p t ((h▸xs:List t.den).getD j t.dflt) with
   |some d=>bif fits i d.t then(bif d.t.noOwn then k (.val d.t d.x) else k (.val d.t.er (d.t.erD d.x))) else none
   |none=>none) else none
  |_=>none
 |_=>none
def zvn (C:Ctx) (fr:List SV) (x:Option Operand) (dflt:Int) (k:Int→Option R):Option R:=
 match x with
 |none=>k dflt
 |some x=>opd C fr x fun s=>asI s k
def zb0 (C:Ctx) (fr:List SV) (hp:List HO) (i:TI) (x:SV) (lo hi mx:Option Operand) (k:SV→Option R):Option R:=
 match i.kind with
 | .slice E=>zq C.TT E fun ei=>match x with
  | .val (.sl e) xs=>bif Nat.beq ei.size e.size then(match mx with
   |some (.const (.int _ 0))=>(match hi,lo with
    |some (.const (.int _ 0)),none=>k .nil0
    |_,_=>none)
   |none=>(match hi with
    |none=>(match lo with
     |none=>k (.val (.sl e) xs)
     |some l=>opd C fr l fun l=>asI l fun l=>if 0≤l∧l≤xs.length then k (.val (.sl e) (xs.drop l.toNat)) else none)
    |some h=>opd C fr h fun h=>asI h fun h=>if 0≤h∧h≤xs.length then(match lo with
     |none=>k (.val (.sl e) (xs.take h.toNat))
     |some l=>opd C fr l fun l=>asI l fun l=>if 0≤l∧l≤h then k (.val (.sl e) ((xs.take h.toNat).drop l.toNat)) else none) else none)
   |some m=>opd C fr m fun m=>asI m fun m=>if 0≤m∧m≤xs.length then(match hi with
    |none=>none
    |some h=>opd C fr h fun h=>asI h fun h=>if 0≤h∧h≤m then zvn C fr lo 0 fun l=>(if 0≤l∧l≤h then k (.val (.sl e) ((xs.take h.toNat).drop l.toNat)) else none) else none) else none)
   else none
  | .own id len=>(match mx,lo with
   |none,none=>qv hp id fun o=>(match o with
    | .arr _ _ xs=>(match hi with
     |none=>k (.own id len)
     |some h=>opd C fr h fun h=>asI h fun h=>if 0≤h∧h≤(zdk xs len:Nat) then k (.own id (some h.toNat)) else none)
    |_=>none)
   |none,some l=>qv hp id fun o=>(match o with
    | .arr _ t xs=>bif Nat.beq ei.size t.size then(match hi with
     |none=>opd C fr l fun l=>asI l fun l=>if 0≤l∧l≤(zdk xs len:Nat) then k (.vw id t l.toNat (zdk xs len - l.toNat)) else none
     |some h=>opd C fr h fun h=>asI h fun h=>if 0≤h∧h≤(zdk xs len:Nat) then(opd C fr l fun l=>asI l fun l=>if 0≤l∧l≤h then k (.vw id t l.toNat (h.toNat - l.toNat)) else none) else none) else none
    |_=>none)
   |_,_=>none)
  |_=>none
 |_=>none
def qx (C:Ctx) (hp:List HO) (i:TI) (x ix:SV) (k:SV→Option R):Option R:=
 asI ix fun n=>match i.kind with
 | .slice E=>zq C.TT E fun ei=>(match x with
  | .val (.sl e) xs=>bif Nat.beq ei.size e.size then(if 0≤n∧n<xs.length then k (.ro e (xs.getD n.toNat e.dflt)) else none) else none
  | .own id len=>qv hp id fun o=>(match o with
   | .arr _ e xs=>bif Nat.beq ei.size e.size then(if 0≤n∧n<(zdk xs len:Nat) then k (.elt id e n.toNat []) else none) else none
   |_=>none)
  | .vw id e off len=>bif Nat.beq ei.size e.size then(if 0≤n∧n<(len:Nat) then k (.elt id e (off+n.toNat) []) else none) else none
  |_=>none)
 | .array m E=>zq C.TT E fun ei=>(match x with
  | .ro (.arr m' e) xs=>bif Nat.beq ei.size e.size&&Nat.beq m m' then(if 0≤n∧n<m then k (.ro e (xs.getD n.toNat e.dflt)) else none) else none
  | .ptr id off=>if 0≤n∧n<m then k (.ptr id (off+n.toNat*ei.size)) else none
  |_=>none)
 |_=>none
def zde (C:Ctx) (i:TI) (x ix:SV) (k:SV→Option R):Option R:=
 asI ix fun n=>match i.kind with
 | .array m E=>zq C.TT E fun ei=>(match x with
  | .val (.arr m' e) xs=>bif fits ei e&&Nat.beq m m' then(if 0≤n∧n<m then k (.val e (xs.getD n.toNat e.dflt)) else none) else none
  |_=>none)
 | .str=>(match x with
  | .val .str s=>if 0≤n∧n<s.size then k (.val (.int .u8) (s.data.toList.getD n.toNat 0).toNat) else none
  |_=>none)
 |_=>none
def zdd (i:TI) (x:SV) (f:Nat) (k:SV→Option R):Option R:=
 match i.kind with
 | .struct fs=>qv fs f fun(_,off,size,agg)=>(match x with
  | .agg l=>bif agg then(bif Nat.ble (off+size) l.length then k (.agg ((l.drop off).take size)) else none) else qv l off k
  | .val (.st ft) x=>(match zhm ft f x with
   |some d=>bif Nat.beq (ft.fieldOff f) off&&(Nat.beq d.t.size size&&((d.t.isAgg==agg)&&(agg||Nat.beq size 1))) then k (.val d.t d.x) else none
   |none=>none)
  |_=>none)
 |_=>none
def qI:List Nat→Ty→Option Ty
 | [],t=>some t
 |i::p, .st f=>match f.fieldTy i with
  |some t=>qI p t
  |none=>none
 |_::_,_=>none
def qT (i:TI) (x:SV) (f:Nat) (k:SV→Option R):Option R:=
 match i.kind with
 | .struct fs=>qv fs f fun(_,off,size,_)=>bif Nat.beq size 0 then none else(match x with
  | .ptr id o=>k (.ptr id (o+off))
  | .elt id t j p=>(match qI p t with
   |some (.st ft)=>bif Nat.beq (ft.fieldOff f) off then k (.elt id t j (p++ [f])) else none
   |_=>none)
  | .ro (.st ft) x=>(match zhm ft f x with
   |some d=>bif Nat.beq (ft.fieldOff f) off&&Nat.beq d.t.size size then k (.ro d.t d.x) else none
   |none=>none)
  |_=>none)
 |_=>none
def zm6 (i:TI) (hp:List HO) (x:SV) (k:SV→Option R):Option R:=
 match i.kind,x with
 | .slice _, .val (.sl _) xs=>k (.val (.int .i64) xs.length)
 | .slice _, .nils=>k (.val (.int .i64) (0:Int))
 | .slice _, .nil0=>k (.val (.int .i64) (0:Int))
 | .slice _, .own id len=>qv hp id fun o=>(match o with
  | .arr _ _ xs=>k (.val (.int .i64) (zdk xs len:Nat))
  | .tk _ _ xs=>k (.val (.int .i64) (zdk xs len:Nat))
  |_=>none)
 | .slice _, .vw _ _ _ len=>k (.val (.int .i64) (len:Nat))
 | .str, .val .str s=>k (.val (.int .i64) s.size)
 | .array n _,_=>k (.val (.int .i64) n)
 |_,_=>none
def zgn (x y:Int):Int:=if y<x then y else x
def zlr (x y:Int):Int:=if y > x then y else x
def zam (f:Int→Int→Int):SV→List SV→(SV→Option R)→Option R
 |x, [],k=>k x
 | .val (.int i) a, .val (.int _) b::l,k=>zam f (.val (.int i) (f a b)) l k
 |_,_,_=>none
def ze2 (fs:List (TypeId×Nat×Nat×Bool)):List (Nat×SV)→List SV→(List SV→Option R)→Option R
 | [],cs,k=>k cs
 |(i,s)::l,cs,k=>qv fs i fun(_,off,size,_)=>s.cellsK fun l'=>
   bif Nat.beq l'.length size&&Nat.ble (off+size) cs.length then ze2 fs l (cs.take off++(l'++cs.drop (off+size))) k else none
def zb7 (C:Ctx) (fr:List SV):List (Nat×Operand)→(List (Nat×SV)→Option R)→Option R
 | [],k=>k []
 |(i,x)::l,k=>opd C fr x fun s=>zb7 C fr l fun l'=>k ((i,s)::l')
def zsd (c a b:SV) (k:SV→Option R):Option R:=
 match c with
 | .bit true=>k a
 | .bit false=>k b
 | .val .bool c=>(match a,b with
  | .val t x, .val t' y=>if h:t'=t then k (.val t (if c=true then x else h▸y)) else none
  |_,_=>asB a fun x=>asB b fun y=>k (.val .bool (if c=true then x else y)))
 |_=>none
def zxg:Nat→Nat→Nat→List (TypeId×Nat×Nat×Bool)
 |0,_,_=> []
 |n+1,off,sz=>(0,off,sz,false)::zxg n (off+sz) sz
def jZ (C:Ctx) (fr:List SV) (hp:List HO) (op:Op) (k:SV→Option R):Option R:=
 match op with
 | .move x=>opd C fr x k
 | .assign x=>opd C fr x k
 | .pick c a b=>opd C fr c fun c=>opd C fr a fun a=>opd C fr b fun b=>zsd c a b k
 | .load T x=>zq C.TT T fun i=>opd C fr x fun x=>xG i hp x k
 | .nilCheck x=>opd C fr x fun x=>(match x with
  | .ptr id off=>k (.ptr id off)
  | .elt id t i p=>k (.elt id t i p)
  | .ro t x=>k (.ro t x)
  | .fn f l=>k (.fn f l)
  |_=>none)
 | .binOp op T x y _=>opd C fr x fun a=>opd C fr y fun b=>zhg C hp T op a b (zr3 op y) k
 | .unOp op _ x=>opd C fr x fun x=>zzf op x k
 | .convert src dst x=>zq C.TT src fun _=>zq C.TT dst fun i=>opd C fr x fun x=>(match i.kind,x with
  | .int j, .val (.int _) n=>k (.val (.int j) (j.wrap n))
  | .flt, .val (.int _) n=>k (.val .flt (zt2 n))
  |_,_=>none)
 | .slice T x lo hi mx=>zq C.TT T fun i=>opd C fr x fun x=>zb0 C fr hp i x lo hi mx k
 | .fieldAddr T x f=>zq C.TT T fun i=>opd C fr x fun x=>qT i x f k
 | .field T x f=>zq C.TT T fun i=>opd C fr x fun x=>zdd i x f k
 | .indexAddr T x n=>zq C.TT T fun i=>opd C fr x fun x=>opd C fr n fun n=>qx C hp i x n k
 | .index T x n=>zq C.TT T fun i=>opd C fr x fun x=>opd C fr n fun n=>zde C i x n k
 | .lookup T x y ok=>zq C.TT T fun i=>opd C fr x fun x=>opd C fr y fun y=>jF C i hp x y ok k
 | .extract x n=>opd C fr x fun x=>(match x with
  | .tup l=>qv l n k
  |_=>none)
 | .build T parts=>zq C.TT T fun i=>zb7 C fr parts.toList fun ps=>(match i.kind with
  | .struct fs=>ze2 fs ps i.zero fun l=>k (.agg l)
  | .array n T2=>zq C.TT T2 fun ei=>ze2 (zxg n 0 ei.size) ps i.zero fun l=>k (.agg l)
  |_=>none)
 | .call { callee:= .builtin b,args,argTypes}=>(match b,args.toList,argTypes.toList with
  | .len, [x], [T]=>zq C.TT T fun i=>opd C fr x fun x=>zm6 i hp x k
  | .min,x::l,_=>opd C fr x fun x=>zob C fr l fun l=>zam zgn x l k
  | .max,x::l,_=>opd C fr x fun x=>zob C fr l fun l=>zam zlr x l k
  | .real, [x],_=>opd C fr x fun x=>(match x with
   | .val .cplx z=>k (.val .flt z.1)
   |_=>none)
  | .imag, [x],_=>opd C fr x fun x=>(match x with
   | .val .cplx z=>k (.val .flt z.2)
   |_=>none)
  | .complex, [x,y],_=>opd C fr x fun x=>opd C fr y fun y=>(match x,y with
   | .val .flt a, .val .flt b=>k (.val .cplx (a,b))
   |_,_=>none)
  |_,_,_=>none)
 | .makeFunc (.func f) first captured=>(match first.toList with
  | []=>zob C fr captured.toList fun l=>k (.fn f l)
  |_=>none)
 |_=>none
end
end Go.Sx
