/- The symbolic evaluator, part C: shapes, contracts, effects, regions, code (definitions alone). -/
import Derived.Test.YtpmbmobjnknnhaaGreatDoorSxB
set_option linter.unusedVariables false
set_option linter.unusedSimpArgs false
namespace Go.Sx
open Go.RowKit
inductive Sh where
 |hole (t:Ty)
 |own (j:Nat)
 |ptr (j off:Nat)
 |nilp
 |und
 |ro (t:Ty)
 |fnc (f:FuncId) (n:Nat)
 |mp (j:Nat)
 |agn (n:Nat)
inductive OSh where
 |gone
 |cells (l:List Sh)
 |arr (T:TypeId) (t:Ty)
 |map (K V:Ty)
def z9:List Sh→List Ty
 | []=> []
 | .hole t::l=>t::z9 l
 | .own _::l=>z9 l
 | .ptr _ _::l=>z9 l
 | .nilp::l=>z9 l
 | .und::l=>z9 l
 | .ro t::l=>t::z9 l
 | .fnc _ _::l=>z9 l
 | .agn _::l=>z9 l
 | .mp _::l=>z9 l
def znm:List Ty→List Ty→List Ty
 | [],m=>m
 |t::l,m=>t::znm l m
def qb:List OSh→List Ty
 | []=> []
 | .gone::l=>qb l
 | .cells s::l=>znm (z9 s) (qb l)
 | .arr _ t::l=> .sl t::qb l
 | .map K V::l=> .sl (.pair K V)::qb l
structure Skel where
 slots:List Sh
 objs:List OSh
def Skel.tys (s:Skel):List Ty:=znm (z9 s.slots) (qb s.objs)
@[reducible] def Tup:List Ty→Type
 | []=>Unit
 | [t]=>t.den
 |t::u::l=>t.den×Tup (u::l)
def qF:(ts:List Ty)→Tup ts→List DV
 | [],_=> []
 | [t],x=> [⟨t,x⟩]
 |t::u::l,x=>⟨t,x.1⟩::qF (u::l) x.2
inductive PM where
 |none
 |nil
 |id (i:Nat) (len:Option Nat)
section
variable {R:Type}
def zbj:(ts:List Ty)→List DV→(Tup ts→Option R)→Option R
 | [], [],k=>k ()
 | [t], [d],k=>if h:d.t=t then k (h▸d.x) else none
 |t::u::l,d::ds,k=>if h:d.t=t then zbj (u::l) ds fun y=>k (h▸d.x,y) else none
 |_,_,_=>none
def PM.same:PM→PM→Bool
 | .nil, .nil=>true
 | .id i Option.none, .id j Option.none=>Nat.beq i j
 |_,_=>false
def jE (mp:List PM) (j:Nat) (p:PM) (k:List PM→Option R):Option R:=
 qz mp j fun q=>match q with
  | .none=>jB mp j p k
  |q=>bif q.same p then k mp else none
def zS:List Sh→List SV→List PM→List HO→(List PM→List DV→List HO→Option R)→Option R
 | [], [],mp,hp,k=>k mp [] hp
 | .hole t::ss,v::vs,mp,hp,k=>zdd t v hp fun x hp=>zS ss vs mp hp fun mp ds hp=>k mp (⟨t,x⟩::ds) hp
 | .own j::ss,v::vs,mp,hp,k=>(match v with
  | .own id len=>jE mp j (.id id len) fun mp=>zS ss vs mp hp k
  | .nils=>jE mp j .nil fun mp=>zS ss vs mp hp k
  |_=>none)
 | .ptr j off::ss,v::vs,mp,hp,k=>(match v with
  | .ptr id o=>bif Nat.beq o off then jE mp j (.id id none) fun mp=>zS ss vs mp hp k else none
  |_=>none)
 | .nilp::ss,v::vs,mp,hp,k=>(match v with
  | .nilp=>zS ss vs mp hp k
  |_=>none)
 | .mp j::ss,v::vs,mp,hp,k=>(match v with
  | .mp id=>jE mp j (.id id none) fun mp=>zS ss vs mp hp k
  |_=>none)
 | .und::ss,_::vs,mp,hp,k=>zS ss vs mp hp k
 | .fnc f n::ss,v::vs,mp,hp,k=>(match v with
  | .fn g l=>bif Nat.beq g f&&Nat.beq l.length n then zS ss (l++vs) mp hp k else none
  |_=>none)
 | .agn n::ss,v::vs,mp,hp,k=>(match v with
  | .agg l=>bif Nat.beq l.length n then zS ss (l++vs) mp hp k else none
  |_=>none)
 | .ro t::ss,v::vs,mp,hp,k=>roF t v hp fun x hp=>zS ss vs mp hp fun mp ds hp=>k mp (⟨t,x⟩::ds) hp
 |_,_,_,_,_=>none
def zsi:List DV→List DV→List DV
 | [],m=>m
 |d::l,m=>d::zsi l m
def xM:Nat→List OSh→List PM→List HO→(List PM→List DV→List HO→Option R)→Option R
 |_, [],mp,hp,k=>k mp [] hp
 |j, .gone::os,mp,hp,k=>xM (j+1) os mp hp k
 |j, .cells sl::os,mp,hp,k=>qz mp j fun p=>(match p with
  | .id i none=>qz hp i fun o=>(match o with
   | .cells l=>zS sl l mp hp fun mp ds hp=>xM (j+1) os mp hp fun mp ds' hp=>k mp (zsi ds ds') hp
   |_=>none)
  |_=>none)
 |j, .arr T t::os,mp,hp,k=>qz mp j fun p=>(match p with
  | .nil=>xM (j+1) os mp hp fun mp ds hp=>k mp (⟨.sl t, []⟩::ds) hp
  | .id i len=>qz hp i fun o=>(match o with
   | .arr T' t' xs=>bif Nat.beq T' T then(if h:t'=t then xM (j+1) os mp hp fun mp ds hp=>k mp (⟨.sl t,zJ (h▸xs) len⟩::ds) hp else none) else none
   |_=>none)
  | .none=>none)
 |j, .map K V::os,mp,hp,k=>qz mp j fun p=>(match p with
  | .id i none=>qz hp i fun o=>(match o with
   | .map K' V' es=>if h:K'=K∧V'=V then xM (j+1) os mp hp fun mp ds hp=>k mp (⟨.sl (.pair K V),h.1▸h.2▸es⟩::ds) hp else none
   |_=>none)
  |_=>none)
def zA:List OSh→List PM→List Nat
 | .gone::os,_::mp=>zA os mp
 |_::os, .id i _::mp=>i::zA os mp
 |_::os,_::mp=>zA os mp
 |_,_=> []
def zx1 (n:Nat):List Nat→Bool
 | []=>true
 |m::l=>bif Nat.beq n m then false else zx1 n l
def zom:List Nat→Bool
 | []=>true
 |n::l=>zx1 n l&&zom l
def qY:Nat→Nat→List OSh→List PM
 |_,_, []=> []
 |0,j,_::os=> .none::qY 0 j os
 |n+1,j,_::os=> .id j none::qY n (j+1) os
def zs8:List Nat→List HO→Option R→Option R
 | [],_,x=>x
 |i::l,hp,x=>qz hp i fun o=>bif o.live then zs8 l hp x else none
def zrw (n0:Nat) (sk:Skel) (vs:List SV) (hp:List HO) (k:List DV→List PM→List HO→Option R):Option R:=
 zS sk.slots vs (qY n0 0 sk.objs) hp fun mp ds hp=>xM 0 sk.objs mp hp fun mp ds' hp=>
  bif zom (zA sk.objs mp) then zs8 (zA sk.objs mp) hp (k (zsi ds ds') mp hp) else none
def qI:List Nat→Nat→Nat
 | [],_=>0
 |x::_,0=>x
 |_::l,n+1=>qI l n
def zv (ρ:List Nat):List Sh→List DV→(List SV→List DV→Option R)→Option R
 | [],ds,k=>k [] ds
 | .hole _::ss,d::ds,k=>zv ρ ss ds fun vs ds=>k (.val d.t d.x::vs) ds
 | .own j::ss,ds,k=>zv ρ ss ds fun vs ds=>k (.own (qI ρ j) none::vs) ds
 | .ptr j off::ss,ds,k=>zv ρ ss ds fun vs ds=>k (.ptr (qI ρ j) off::vs) ds
 | .nilp::ss,ds,k=>zv ρ ss ds fun vs ds=>k (.nilp::vs) ds
 | .mp j::ss,ds,k=>zv ρ ss ds fun vs ds=>k (.mp (qI ρ j)::vs) ds
 | .und::ss,ds,k=>zv ρ ss ds fun vs ds=>k (.und::vs) ds
 | .hole _::_, [],_=>none
 | .fnc f n::ss,ds,k=>zv ρ ss ds fun vs ds=>k (.fn f (vs.take n)::vs.drop n) ds
 | .agn n::ss,ds,k=>zv ρ ss ds fun vs ds=>k (.agg (vs.take n)::vs.drop n) ds
 | .ro _::ss,d::ds,k=>zv ρ ss ds fun vs ds=>k (.ro d.t d.x::vs) ds
 | .ro _::_, [],_=>none
def z5 (ρ:List Nat):List OSh→List DV→(List HO→Option R)→Option R
 | [],_,k=>k []
 | .gone::os,ds,k=>z5 ρ os ds fun hs=>k (.gone::hs)
 | .cells sl::os,ds,k=>zv ρ sl ds fun vs ds=>z5 ρ os ds fun hs=>k (.cells vs::hs)
 | .arr T _::os,d::ds,k=>(match d with
  |⟨.sl e,xs⟩=>z5 ρ os ds fun hs=>k (.arr T e xs::hs)
  |_=>none)
 | .arr _ _::_, [],_=>none
 | .map _ _::os,d::ds,k=>(match d with
  |⟨.sl (.pair K V),es⟩=>z5 ρ os ds fun hs=>k (.map K V es::hs)
  |_=>none)
 | .map _ _::_, [],_=>none
def build (ρ:List Nat) (sk:Skel) (ds:List DV) (k:List SV→List HO→Option R):Option R:=
 zv ρ sk.slots ds fun vs ds=>z5 ρ sk.objs ds fun hs=>k vs hs
structure Sig where
 ins:Skel
 outs:Skel
def xK:List Sh→Bool
 | []=>true
 | .hole t::l=>t.flat&&xK l
 | .ro _::_=>false
 | .fnc _ _::_=>false
 | .agn _::_=>false
 |_::l=>xK l
def zau:List OSh→Bool
 | []=>true
 | .gone::l=>zau l
 | .cells s::l=>xK s&&zau l
 | .arr _ t::l=>t.flat&&zau l
 | .map K V::l=>K.flat&&(V.flat&&zau l)
def Skel.flat (s:Skel):Bool:=xK s.slots&&zau s.objs
structure Con where
 f:FuncId
 sig:Sig
 F:Tup sig.ins.tys→Option (Tup sig.outs.tys)
def zs3:List Sh→List SV→Bool
 | .fnc g _::ss,v::vs=>(match v with
  | .fn h l=>Nat.beq g h&&zs3 ss (l++vs)
  |_=>false)
 | .agn _::ss,v::vs=>(match v with
  | .agg l=>zs3 ss (l++vs)
  |_=>false)
 | .own _::ss,v::vs=>(match v with
  | .val _ _=>false
  |_=>zs3 ss vs)
 |_::ss,_::vs=>zs3 ss vs
 |_,_=>true
def zss:List Con→FuncId→List SV→(Con→Option R)→Option R
 | [],_,_,_=>none
 |c::l,f,vs,k=>bif Nat.beq c.f f&&zs3 c.sig.ins.slots vs then k c else zss l f vs k
def zbo (C:Ctx) (Γ:List Con) (fr:List SV) (x:Operand) (args:List Operand) (k:Con→List SV→Option R):Option R:=
 match x with
 | .func f=>zo8 C fr args fun vs=>zss Γ f vs fun c=>k c vs
 |x=>opd C fr x fun s=>(match s with
  | .fn f l=>zo8 C fr args fun vs=>zss Γ f (vs++l) fun c=>k c (vs++l)
  |_=>none)
def rho:Nat→List PM→List OSh→List Nat
 |_,_, []=> []
 |b, .id i none::mp,_::os=>i::rho b mp os
 |b,_::mp,_::os=>b::rho (b+1) mp os
 |b, [],_::os=>b::rho (b+1) [] os
def zar:List PM→List HO→(List HO→Option R)→Option R
 | [],hp,k=>k hp
 | .id i _::mp,hp,k=>jB hp i .gone fun hp=>zar mp hp k
 |_::mp,hp,k=>zar mp hp k
def zfh:List PM→List OSh→List HO→(List HO→Option R)→Option R
 |_, [],hp,k=>k hp
 | .id _ none::mp,_::os,hp,k=>zfh mp os hp k
 |_::mp,_::os,hp,k=>jv hp .gone fun hp=>zfh mp os hp k
 | [],_::os,hp,k=>jv hp .gone fun hp=>zfh [] os hp k
def zet:List Nat→List HO→List HO→(List HO→Option R)→Option R
 |i::ρ,o::os,hp,k=>jB hp i o fun hp=>zet ρ os hp k
 |_,_,hp,k=>k hp
def jt:List OSh→Bool
 | []=>true
 | .arr _ t::l=>t.noOwn&&jt l
 |_::l=>jt l
def zga:List OSh→Bool
 | []=>true
 | .gone::_=>false
 |_::l=>zga l
def znc (n:Nat):List Sh→Bool
 | []=>true
 | .own j::l=>Nat.ble (j+1) n&&znc n l
 | .ptr j _::l=>Nat.ble (j+1) n&&znc n l
 | .mp j::l=>Nat.ble (j+1) n&&znc n l
 |_::l=>znc n l
def wfO (n:Nat):List OSh→Bool
 | []=>true
 | .cells s::l=>znc n s&&wfO n l
 |_::l=>wfO n l
def zqh:List SV→SV
 | [s]=>s
 |l=> .tup l
def znx (c:Con) (args:List SV) (hp:List HO) (k:SV→List HO→Option R):Option R:=
 bif zga c.sig.ins.objs&&(Nat.ble c.sig.ins.objs.length c.sig.outs.objs.length&&(znc c.sig.outs.objs.length c.sig.outs.slots&&wfO c.sig.outs.objs.length c.sig.outs.objs)) then
 zrw 0 c.sig.ins args hp fun ds mp hp1=>zbj c.sig.ins.tys ds fun x=>
  (c.F x).bind fun r=>
   build (rho hp.length mp c.sig.outs.objs) c.sig.outs (qF _ r) fun vs hos=>
    zar mp (bif c.sig.outs.flat&&jt c.sig.ins.objs then hp else hp1) fun hp2=>zfh mp c.sig.outs.objs hp2 fun hp3=>zet (rho hp.length mp c.sig.outs.objs) hos hp3 fun hp4=>k (zqh vs) hp4
 else none
set_option linter.unusedVariables false in
def zbx (C:Ctx) (fr:List SV) (t:Ty):List (Nat×Operand)→List t.den→List HO→(List t.den→List HO→Option R)→Option R
 | [],xs,hp,k=>k xs hp
 |(i,x)::l,xs,hp,k=>bif Nat.ble (i+1) xs.length then(opd C fr x fun s=>zdd t s hp fun y hp=>jB xs i y fun xs=>zbx C fr t l xs hp k) else none
def zx9 {α:Type} (x:α):Nat→(List α→Option R)→Option R
 |0,k=>k []
 |n+1,k=>zx9 x n fun l=>k (x::l)
def zt2 (t:Ty) (s:SV) (hp:List HO) (k:List t.den→Option R):Option R:=
 match s with
 | .val (.sl e) xs=>if h:e=t then k (h▸xs) else none
 | .nils=>k []
 | .nil0=>k []
 | .own id len=>qz hp id fun o=>(match o with
  | .arr _ e xs=>if h:e=t then k (zJ (h▸xs) len) else none
  | .tk _ e xs=>if h:e=t then k (zJ (h▸xs) len) else none
  |_=>none)
 |_=>none
def zw0 (t:Ty) (s:SV) (hp:List HO) (k:List t.den→List HO→Option R):Option R:=
 match s with
 | .val (.sl e) xs=>if h:e=t.er then k ((h▸xs:List t.er.den).map t.lift) hp else none
 | .nils=>k [] hp
 | .nil0=>k [] hp
 | .own id len=>qz hp id fun o=>(match o with
  | .arr _ e xs=>if h:e=t then jB hp id .gone fun hp=>k (zJ (h▸xs) len) hp else none
  |_=>none)
 |_=>none
def zi (n bytes:Nat):Prop:=n*bytes≤140737488355328
instance (n bytes:Nat):Decidable (zi n bytes):=inferInstanceAs (Decidable (_≤_))
def zos:List Nat→(t:Ty)→t.den→(t':Ty)→t'.den→(t.den→Option R)→Option R
 | [],t,_,t',y,k=>if h:t'=t then k (h▸y) else none
 |i::p, .st f,x,t',y,k=>fsetAux i f x (fun u z k=>zos p u z t' y k) k
 |_::_,_,_,_,_,_=>none
where fsetAux:Nat→(f:Ty)→f.den→((u:Ty)→u.den→(u.den→Option R)→Option R)→(f.den→Option R)→Option R
 |0, .pair a _,x,g,k=>g a x.1 fun y=>k (y,x.2)
 |i+1, .pair _ b,x,g,k=>fsetAux i b x.2 g fun y=>k (x.1,y)
 |0,t,x,g,k=>g t x k
 |_+1,_,_,_,_=>none
def qH (ei:TI) (t:Ty):Bool:=Nat.beq ei.size t.size&&(Nat.ble 1 ei.size&&(Nat.ble 1 ei.bytes&&(t.isAgg||Nat.beq t.size 1)))
def zb2 (i:TI) (x v:SV) (hp:List HO) (k:SV→List HO→Option R):Option R:=
 match x with
 | .ptr id off=>v.cellsK fun l'=>bif Nat.beq l'.length i.size&&znh l' then(qz hp id fun o=>(match o with
  | .cells l=>bif Nat.ble (off+i.size) l.length then jB hp id (.cells (l.take off++(l'++l.drop (off+i.size)))) fun hp=>k .skip hp else none
  |_=>none)) else none
 | .elt id t j p=>(match qJ p t with
  |some u=>bif fits i u then zdd u v hp fun y hp=>qz hp id fun o=>(match o with
   | .arr T t' xs=>if h:t'=t then zos p t ((h▸xs:List t.den).getD j t.dflt) u y fun z=>jB hp id (.arr T t ((h▸xs:List t.den).set j z)) fun hp=>k .skip hp else none
   |_=>none) else none
  |none=>none)
 |_=>none
def xH (C:Ctx) (E:TypeId) (ei:TI) (x:SV) (hp:List HO) (k:SV→List HO→Option R):Option R:=
 match C.el E ei with
 |some t=>bif qH ei t then(bif t.noOwn then zt2 t x hp fun ys=>(if zi ys.length ei.bytes then jv hp (.arr E t ys) fun hp'=>k (.own hp.length none) hp' else none)
   else zw0 t x hp fun ys hp=>if zi ys.length ei.bytes then jv hp (.arr E t ys) fun hp'=>k (.own hp.length none) hp' else none) else none
 |none=>none
set_option linter.unusedVariables false in
def jI (C:Ctx) (E:TypeId) (ei:TI) (s x:SV) (hp:List HO) (k:SV→List HO→Option R):Option R:=
 match s with
 | .nils=>xH C E ei x hp k
 | .nil0=>xH C E ei x hp k
 | .own id len=>qz hp id fun o=>(match o with
  | .arr E' t xs=>bif Nat.beq E' E&&qH ei t then(bif t.noOwn then zt2 t x hp fun ys=>
    (if zi (zdm xs len+ys.length) ei.bytes then jB hp id .gone fun hp1=>jv hp1 (.arr E t (zJ xs len++ys)) fun hp'=>k (.own hp.length none) hp' else none)
   else jB hp id .gone fun hp1=>zw0 t x hp1 fun ys hp2=>if zi (zdm xs len+ys.length) ei.bytes then jv hp2 (.arr E t (zJ xs len++ys)) fun hp'=>k (.own hp2.length none) hp' else none) else none
  | .tk E' t xs=>bif Nat.beq E' E&&(qH ei t&&(len.isNone&&t.noOwn)) then zt2 t x hp fun ys=>
    (if zi (xs.length+ys.length) ei.bytes then jB hp id (.fro t xs) fun hp1=>jv hp1 (.tk E t (xs++ys)) fun hp'=>k (.own hp.length none) hp' else none) else none
  |_=>none)
 |_=>none
def zby (C:Ctx) (E:TypeId) (ei:TI) (x:SV) (hp:List HO) (k:SV→List HO→Option R):Option R:=
 match x with
 | .nils=>k (.tup []) hp
 | .own id len=>qz hp id fun o=>(match o with
  | .arr T t xs=>(match C.el E ei with
   |some u=>bif qH ei t then(if _h:u=t then jB hp id (.arr T t (List.replicate (zdm xs len) t.dflt++xs.drop (zdm xs len))) fun hp=>k (.tup []) hp else none) else none
   |none=>none)
  |_=>none)
 | .vw id u off len=>qz hp id fun o=>(match o with
  | .arr T t xs=>(match C.el E ei with
   |some u'=>bif qH ei t then(if _h:u'=t∧u=t then jB hp id (.arr T t (xs.take off++(List.replicate len t.dflt++xs.drop (off+len)))) fun hp=>k (.tup []) hp else none) else none
   |none=>none)
  |_=>none)
 |_=>none
def zv2 (b:Bool):Prop:=b=true
instance (b:Bool):Decidable (zv2 b):=inferInstanceAs (Decidable (_=_))
def zbz (i:TI) (hp:List HO) (x:SV) (k:SV→List HO→Option R):Option R:=
 match i.kind,x with
 | .slice E, .elt id t j p=>qz hp id fun o=>(match o with
  | .arr T t' xs=>if h:t'=t then(match zc5 p t ((h▸xs:List t.den).getD j t.dflt) with
   |some d=>(match d with
    |⟨.osl e,y⟩=>bif fits i (.osl e)&&decide (qJ p t=some (.osl e)) then(if zv2 y.1 then zos p t ((h▸xs:List t.den).getD j t.dflt) (.osl e) (false,y.2) fun z=>
      jB hp id (.arr T t ((h▸xs:List t.den).set j z)) fun hp1=>jv hp1 (.tk E e y.2) fun hp2=>k (.own hp.length none) hp2 else none) else none
    |_=>xI i hp x fun s=>k s hp)
   |none=>none) else none
  |_=>none)
 |_,_=>xI i hp x fun s=>k s hp
def jk (C:Ctx) (fr:List SV) (i:TI) (n:Option Operand) (hp:List HO) (k:SV→List HO→Option R):Option R:=
 match i.kind with
 | .map Kt Vt=>zu C.TT Kt fun ki=>zu C.TT Vt fun vi=>(match zp5 ki,vi.ty with
  |some K,some V=>zwy C fr n 0 fun _=>jv hp (.map K V []) fun hp'=>k (.mp hp.length) hp'
  |_,_=>none)
 |_=>none
def qm (C:Ctx) (i:TI) (m y v:SV) (hp:List HO) (k:SV→List HO→Option R):Option R:=
 match i.kind,m,y with
 | .map Kt Vt, .mp id, .val t y=>zu C.TT Kt fun ki=>zu C.TT Vt fun vi=>(match vi.ty with
  |some V=>zdd V v hp fun x hp=>qz hp id fun o=>(match o with
   | .map K V' es=>bif decide (zp5 ki=some K) then(if h:t=K∧V'=V then jB hp id (.map K V (z2b K V (h.2▸es) (h.1▸y:K.den) x)) fun hp=>k .skip hp else none) else none
   |_=>none)
  |none=>none)
 |_,_,_=>none
def zfk:Op→Bool
 | .alloc _| .box _ _| .buildSlice _ _ _| .makeSlice _ _ _| .store _ _ _=>true
 | .call { callee:= .builtin .append, .. }=>true
 | .call { callee:= .builtin .clear, .. }=>true
 | .makeMap _ _| .mapUpdate _ _ _ _| .insert _ _ _ _=>true
 | .call { callee:= .value _, .. }=>true
 |_=>false
def z0r:List Oper→Nat→Bool
 | [],_=>false
 |o::l,t=>(match o.op with
  | .call { callee:= .builtin .append,args, .. }=>(match args.toList with
   | .tmp u::_=>Nat.beq u t
   |_=>false)
  |_=>false)||z0r l t
def z2x (n:Nat):List Nat→Bool
 | []=>false
 |m::l=>Nat.beq n m||z2x n l
def z1l:List Oper→Nat→Bool
 | [],_=>false
 |o::l,t=>(match o.op,o.dst with
  | .fieldAddr _ _ _,some d=>Nat.beq d t
  |_,_=>false)||z1l l t
def z2q (C:Ctx) (all:List Oper) (o:Oper):Bool:=
 match C.mv with
 | []=>false
 |m::l=>(match o.op,o.dst with
  | .load T (.tmp t),some d=>z2x T (m::l)&&(z0r all d&& !z1l all t)
  |_,_=>false)
def isEffX (C:Ctx) (all:List Oper) (o:Oper):Bool:=zfk o.op||z2q C all o
def zht (C:Ctx) (Γ:List Con) (fr:List SV) (hp:List HO) (op:Op) (k:SV→List HO→Option R):Option R:=
 match op with
 | .alloc T=>zu C.TT T fun i=>jv hp (.cells i.zero) fun hp'=>k (.ptr hp.length 0) hp'
 | .box _ x=>opd C fr x fun s=>s.cellsK fun l=>jv hp (.cells l) fun hp'=>k (.ptr hp.length 0) hp'
 | .buildSlice T n parts=>zu C.TT T fun i=>(match i.kind with
  | .slice E=>zu C.TT E fun ei=>(match C.el E ei with
   |some t=>bif qH ei t&&Nat.ble (n*ei.size) 16777216 then
     (zx9 t.dflt n fun xs=>zbx C fr t parts.toList xs hp fun xs hp=>jv hp (.arr E t xs) fun hp'=>k (.own hp.length none) hp') else none
   |none=>none)
  |_=>none)
 | .makeSlice T l c=>zu C.TT T fun i=>(match i.kind with
  | .slice E=>zu C.TT E fun ei=>(match C.el E ei with
   |some t=>bif qH ei t then(opd C fr l fun l=>asI l fun l=>opd C fr c fun c=>asI c fun c=>
     if 0≤l∧l≤c∧zi c.toNat ei.bytes then jv hp (.arr E t (List.replicate l.toNat t.dflt)) fun hp'=>k (.own hp.length none) hp' else none) else none
   |none=>none)
  |_=>none)
 | .store T x v=>zu C.TT T fun i=>opd C fr x fun x=>opd C fr v fun v=>zb2 i x v hp k
 | .call { callee:= .builtin .append,args,argTypes}=>(match args.toList,argTypes.toList with
  | [s,x], [T,T']=>bif Nat.beq T T' then zu C.TT T fun i=>(match i.kind with
   | .slice E=>zu C.TT E fun ei=>opd C fr s fun s=>opd C fr x fun x=>jI C E ei s x hp k
   |_=>none) else none
  |_,_=>none)
 | .call { callee:= .builtin .clear,args,argTypes}=>(match args.toList,argTypes.toList with
  | [x], [T]=>zu C.TT T fun i=>(match i.kind with
   | .slice E=>zu C.TT E fun ei=>opd C fr x fun x=>zby C E ei x hp k
   |_=>none)
  |_,_=>none)
 | .makeMap T n=>zu C.TT T fun i=>jk C fr i n hp k
 | .mapUpdate T m y v=>zu C.TT T fun i=>opd C fr m fun m=>opd C fr y fun y=>opd C fr v fun v=>qm C i m y v hp k
 | .insert T m y v=>zu C.TT T fun i=>opd C fr m fun m=>opd C fr y fun y=>opd C fr v fun v=>qm C i m y v hp k
 | .load T x=>zu C.TT T fun i=>opd C fr x fun x=>zbz i hp x k
 | .call { callee:= .value x,args, .. }=>zbo C Γ fr x args.toList fun c vs=>znx c vs hp k
 |_=>none
def zcs (fr:List SV) (d:Option Tmp) (s:SV) (k:List SV→Option R):Option R:=
 match d with
 |some t=>jB fr t s k
 |none=>k fr
def zfc:List Oper→Nat→Option Tmp
 | [],_=>none
 |o::_,0=>o.dst
 |_::l,n+1=>zfc l n
def zjq (C:Ctx) (Γ:List Con) (all:List Oper) (fr:List SV) (hp:List HO) (o:Oper) (k:List SV→List HO→Option R):Option R:=
 bif isEffX C all o then zht C Γ fr hp o.op fun s hp=>zcs fr o.dst s fun fr=>za7 hp fr fun fr=>k fr hp
 else j7 C fr hp o.op fun s=>ztv hp s fun s=>zcs fr o.dst s fun fr=>k fr hp
def zd5 (C:Ctx) (Γ:List Con) (all:List Oper):List Oper→List SV→List HO→(List SV→List HO→Option R)→Option R
 | [],fr,hp,k=>k fr hp
 |o::os,fr,hp,k=>match o.guard with
  |none=>zjq C Γ all fr hp o fun fr hp=>zd5 C Γ all os fr hp k
  |some (j,want)=>(match zfc all j with
   |none=>none
   |some d=>qz fr d fun s=>(match s with
    | .bit b=>bif b==want then zjq C Γ all fr hp o fun fr hp=>zd5 C Γ all os fr hp k else zcs fr o.dst .skip fun fr=>zd5 C Γ all os fr hp k
    | .skip=>zcs fr o.dst .skip fun fr=>zd5 C Γ all os fr hp k
    | .val .bool c=>(if c=true
     then jB fr d (.bit true) fun fr=>(bif want then zjq C Γ all fr hp o fun fr hp=>zd5 C Γ all os fr hp k else zcs fr o.dst .skip fun fr=>zd5 C Γ all os fr hp k)
     else jB fr d (.bit false) fun fr=>(bif want then zcs fr o.dst .skip fun fr=>zd5 C Γ all os fr hp k else zjq C Γ all fr hp o fun fr hp=>zd5 C Γ all os fr hp k))
    |_=>none))
def Ty.plain:Ty→Bool
 | .sl _| .osl _| .arr _ _=>false
 | .pair a b=>a.plain&&b.plain
 | .st f=>f.plain
 |_=>true
def za1:List Sh→Bool
 | []=>true
 | .hole t::l=>t.plain&&(t.isAgg||Nat.beq t.size 1)&&za1 l
 |_::_=>false
def zmv (c:Con):Bool:=(match c.sig.ins.objs,c.sig.outs.objs with| [], []=>true|_,_=>false)&&za1 c.sig.outs.slots
def zux (c:Con) (args:List SV) (hp:List HO) (k:SV→Option R):Option R:=
 bif zmv c then zrw 0 c.sig.ins args hp fun ds _ _=>zbj c.sig.ins.tys ds fun x=>
  (c.F x).bind fun r=>zv [] c.sig.outs.slots (qF _ r) fun vs _=>k (zqh vs)
 else none
def zat (C:Ctx) (Γ:List Con) (fr:List SV) (hp:List HO) (o:Oper) (k:List SV→Option R):Option R:=
 match o.op with
 | .call { callee:= .value x,args, .. }=>zbo C Γ fr x args.toList fun c vs=>zux c vs hp fun s=>zcs fr o.dst s k
 |op=>bif zfk op then none else j7 C fr hp op fun s=>zcs fr o.dst s k
def xu (C:Ctx) (Γ:List Con) (all:List Oper):List Oper→List SV→List HO→(List SV→Option R)→Option R
 | [],fr,_,k=>k fr
 |o::os,fr,hp,k=>match o.guard with
  |none=>zat C Γ fr hp o fun fr=>xu C Γ all os fr hp k
  |some (j,want)=>(match zfc all j with
   |none=>none
   |some d=>qz fr d fun s=>(match s with
    | .bit b=>bif b==want then zat C Γ fr hp o fun fr=>xu C Γ all os fr hp k else zcs fr o.dst .skip fun fr=>xu C Γ all os fr hp k
    | .skip=>zcs fr o.dst .skip fun fr=>xu C Γ all os fr hp k
    | .val .bool c=>(if c=true
     then jB fr d (.bit true) fun fr=>(bif want then zat C Γ fr hp o fun fr=>xu C Γ all os fr hp k else zcs fr o.dst .skip fun fr=>xu C Γ all os fr hp k)
     else jB fr d (.bit false) fun fr=>(bif want then zcs fr o.dst .skip fun fr=>xu C Γ all os fr hp k else zat C Γ fr hp o fun fr=>xu C Γ all os fr hp k))
    |_=>none))
mutual
def SV.isD:SV→Bool
 | .val _ _| .bit _| .ub _ _| .nils| .nil0| .nilp| .und| .skip| .ro _ _=>true
 | .agg l=>zty l
 | .tup l=>zty l
 | .fn _ l=>zty l
 |_=>false
def zty:List SV→Bool
 | []=>true
 |s::l=>s.isD&&zty l
end
def z2l (s:SV) (hp:List HO) (k:SV→List HO→Option R):Option R:=
 match s with
 | .own id len=>qz hp id fun o=>(match o with
  | .arr _ t xs=>bif t.noOwn then jB hp id (.fro t xs) fun hp=>k (.val (.sl t) (zJ xs len)) hp else jB hp id (.fro t.er (xs.map t.erD)) fun hp=>k (.val (.sl t.er) (zJ (xs.map t.erD) len)) hp
  | .fro t xs=>k (.val (.sl t) (zJ xs len)) hp
  |_=>none)
 |s=>k s hp
def z2k:List SV→List HO→(List SV→List HO→Option R)→Option R
 | [],hp,k=>k [] hp
 |s::l,hp,k=>z2l s hp fun s hp=>z2k l hp fun l hp=>k (s::l) hp
def z1n (s:SV) (hp:List HO) (k:SV→List HO→Option R):Option R:=
 match s with
 | .tup l=>z2k l hp fun l hp=>k (.tup l) hp
 |s=>z2l s hp k
def ze5 {α:Type} (x:Option α) (k:α→Option R):Option R:=
 match x with
 |some x=>k x
 |none=>none
def zN:Nat→Nat→List Nat
 |0,_=> []
 |n+1,i=>i::zN n (i+1)
def z2t (c:Con) (args:List SV):Option (Tup c.sig.ins.tys):=zrw (R:=Tup c.sig.ins.tys) 0 c.sig.ins args [] fun ds _ _=>zbj c.sig.ins.tys ds some
def zvw (c:Con):Bool:=match c.sig.ins.objs with
 | []=>true
 |_=>false
def zq9 (c:Con) (args:List SV) (k:SV→Option R):Option R:=
 bif zvw c&&zty args then ze5 (z2t c args) fun x=>(c.F x).bind fun y=>build (zN c.sig.outs.objs.length 0) c.sig.outs (qF _ y) fun vs hos=>
  ze5 (z1n (zqh vs) hos fun s _=>some s) fun s=>bif s.isD then k s else none
 else none
def z2o (C:Ctx) (Γ:List Con) (fr:List SV) (hp:List HO) (o:Oper) (k:SV→Option R):Option R:=
 match o.op with
 | .call { callee:= .value x,args, .. }=>zbo C Γ fr x args.toList fun c vs=>zq9 c vs k
 |op=>bif zfk op then(bif zty fr then ze5 (zht C Γ fr [] op fun s hp'=>z1n s hp' fun s _=>some s) fun s=>bif s.isD then k s else none else none)
  else j7 C fr hp op k
def qS:List Operand→List Tmp
 | []=> []
 | .tmp t::l=>t::qS l
 |_::l=>qS l
def zi3 (fr:List SV):List SV→List Tmp→(List SV→Option R)→Option R
 |u, [],k=>k u
 |u,t::ts,k=>qz fr t fun s=>jB u t s fun u=>zi3 fr u ts k
def zzc:List SV→List SV
 | []=> []
 |_::l=> .und::zzc l
def evD (C:Ctx) (Γ:List Con) (fr:List SV) (hp:List HO) (o:Oper) (k:SV→Option R):Option R:=
 zi3 fr (zzc fr) (qS o.op.operands.toList) fun fr'=>z2o C Γ fr' hp o k
def zaw:List Oper→Nat→Bool
 | [],_=>false
 |o::l,i=>(match o.guard with
  |some (j,_)=>Nat.beq j i
  |none=>false)||zaw l i
def zgh (g:Bool) (s:SV) (k:SV→Option R):Option R:=
 match g,s with
 |true, .val .bool c=>if c=true then k (.bit true) else k (.bit false)
 |_,s=>k s
def zb0 (C:Ctx) (Γ:List Con) (all:List Oper):Nat→List Oper→List SV→List HO→(List SV→Option R)→Option R
 |_, [],fr,_,k=>k fr
 |i,o::os,fr,hp,k=>match o.guard with
  |none=>evD C Γ fr hp o fun s=>zgh (zaw all i) s fun s=>zcs fr o.dst s fun fr=>zb0 C Γ all (i+1) os fr hp k
  |some (j,want)=>(match zfc all j with
   |none=>none
   |some d=>qz fr d fun s=>(match s with
    | .bit b=>bif b==want then evD C Γ fr hp o fun s=>zgh (zaw all i) s fun s=>zcs fr o.dst s fun fr=>zb0 C Γ all (i+1) os fr hp k
     else zcs fr o.dst .skip fun fr=>zb0 C Γ all (i+1) os fr hp k
    | .skip=>zcs fr o.dst .skip fun fr=>zb0 C Γ all (i+1) os fr hp k
    |_=>none))
def jz:List Oper→Nat→Tmp→Option Nat
 | [],_,_=>none
 |o::l,i,t=>match o.dst with
  |some d=>bif Nat.beq d t then some i else jz l (i+1) t
  |none=>jz l (i+1) t
def zt (all:List Oper) (o:Oper):List Tmp:=
 match o.guard with
 |none=>qS o.op.operands.toList
 |some (j,_)=>match zfc all j with
  |some d=>d::qS o.op.operands.toList
  |none=>qS o.op.operands.toList
def zqt (i:Nat):List Edge→Bool
 | []=>false
 |e::l=>(Region.binds .any e&&Nat.beq e.on i)||zqt i l
def zjf (all:List Oper) (o:Oper) (j:Nat):List Tmp→Bool
 | []=>true
 |t::l=>(match jz all 0 t with
  |none=>true
  |some i=>Nat.ble (i+1) j&&zqt i o.after.toList)&&zjf all o j l
def zbv (j:Nat):List Edge→Bool
 | []=>true
 |e::l=>(!Region.binds .any e||Nat.ble (e.on+1) j)&&zbv j l
def zQ (all:List Oper):Nat→List Oper→Bool
 |_, []=>true
 |j,o::os=>(match o.dst with
   |some d=>(match jz all 0 d with
    |some i=>Nat.beq i j
    |none=>false)
   |none=>true)&&(zbv j o.after.toList&&(zjf all o j (zt all o)&&zQ all (j+1) os))
def zl1 (ops:Array Oper):Bool:=zQ ops.toList 0 ops.toList
def z0m:List Nat→List HO→(List HO→Option R)→Option R
 | [],hp,k=>k hp
 |i::l,hp,k=>bif Nat.ble 1000000 i then qz hp (i - 1000000) fun o=>(match o with
  | .arr T t xs=>bif t.noOwn then jB hp (i - 1000000) (.tk T t xs) fun hp=>z0m l hp k else none
  |_=>none) else qz hp i fun o=>(match o with
  | .arr _ t xs=>bif t.noOwn then jB hp i (.fro t xs) fun hp=>z0m l hp k else jB hp i (.fro t.er (xs.map t.erD)) fun hp=>z0m l hp k
  |_=>none)
def zjj:List Nat→List Nat→List Nat
 | [],m=>m
 |t::l,m=>t::zjj l m
mutual
def SV.ids:SV→List Nat
 | .own i _=> [i]
 | .ptr i _=> [i]
 | .elt i _ _ _=> [i]
 | .vw i _ _ _=> [i]
 | .mp i=> [i]
 | .agg l=>zc3 l
 | .tup l=>zc3 l
 | .fn _ l=>zc3 l
 |_=> []
def zc3:List SV→List Nat
 | []=> []
 |s::l=>zjj s.ids (zc3 l)
end
def memN (n:Nat):List Nat→Bool
 | []=>false
 |m::l=>bif Nat.beq n m then true else memN n l
def zgf (hp:List HO):Nat→List Nat→List Nat→(List Nat→Option R)→Option R
 |0,_,seen,k=>k seen
 |_+1, [],seen,k=>k seen
 |n+1,i::todo,seen,k=>bif memN i seen then zgf hp n todo seen k else(match hp[i]? with
  |some (.cells l)=>zgf hp n (zjj (zc3 l) todo) (i::seen) k
  |_=>zgf hp n todo (i::seen) k)
def zp8 (T:List Nat):Nat→List HO→(List HO→Option R)→Option R
 |_, [],k=>k []
 |i,o::l,k=>bif memN i T then zp8 T (i+1) l fun l=>k (o::l) else zp8 T (i+1) l fun l=>k (.gone::l)
def Ty.weak:(t:Ty)→t.den→t.den
 | .osl _,x=>(false,x.2)
 | .arr _ e,xs=>xs.map e.weak
 | .pair a b,x=>(a.weak x.1,b.weak x.2)
 | .st f,x=>f.weak x
 | .int _,x=>x
 | .bool,x=>x
 | .str,x=>x
 | .flt,x=>x
 | .cplx,x=>x
 | .unit,x=>x
 | .sl _,x=>x
def HO.weak:HO→HO
 | .arr T t xs=>bif t.noOwn then .arr T t xs else .arr T t (xs.map (Ty.weak t))
 |o=>o
def zww:List HO→(List HO→Option R)→Option R
 | [],k=>k []
 |o::l,k=>zww l fun l=>k (o.weak::l)
def zqs (mv:Bool) (T new:List Nat):List Nat:=bif mv then new else zjj T new
def zks (T:List Nat):Nat→List HO→List HO→(List HO→Option R)→Option R
 |_, [],l',k=>k l'
 |i,o::l,o'::l',k=>bif memN i T then zks T (i+1) l l' fun l=>k (o'::l) else zks T (i+1) l l' fun l=>k (o::l)
 |_,_::_, [],_=>none
def zx4:Nat→List HO→(List HO→Option R)→Option R
 |0,l,k=>k l
 |n+1, [],k=>zx4 n [] fun l=>k (.gone::l)
 |n+1,o::l,k=>zx4 n l fun l=>k (o::l)
def bitN (b i:Nat):Bool:=Nat.beq (Nat.land (Nat.shiftRight b i) 1) 1
def apartN:List Nat→List Nat→Bool
 | [],_=>true
 |i::l,m=>bif memN i m then false else apartN l m
def okC (anc:Nat) (T:List Nat):List (Nat×List Nat)→Bool
 | []=>true
 |(m,U)::l=>(bitN anc m||apartN T U)&&okC anc T l
def zy8:Op→Bool
 | .load _ _| .slice _ _ _ _ _| .indexAddr _ _ _| .lookup _ _ _ _=>true
 | .call _=>true
 |_=>false
def xF:Nat→Nat→List Nat
 |_,0=> []
 |i,n+1=>i::xF (i+1) n
def nthN:List Nat→Nat→Nat
 | [],_=>0
 |x::_,0=>x
 |_::l,n+1=>nthN l n
structure Acc where
 hp:List HO
 cs:List (Nat×List Nat)
 ps:List (Nat×List Nat)
def zpr (C:Ctx) (Γ:List Con) (fr:List SV) (op:Op) (k:SV→Option R):Option R:=
 match op with
 | .call { callee:= .value x,args, .. }=>zbo C Γ fr x args.toList fun c vs=>zq9 c vs k
 |op=>bif zty fr then ze5 (zht C Γ fr [] op fun s hp'=>z1n s hp' fun s _=>some s) fun s=>bif s.isD then k s else none else none
def zyl:List Nat→List Nat→Bool
 | [],_=>true
 |i::l,m=>bif memN i m then zyl l m else false
def zbc:List HO→List Nat
 | []=> []
 | .cells l::os=>zjj (zc3 l) (zbc os)
 |_::os=>zbc os
def zr3 (c:Con):Bool:=zvw c&&((match c.sig.outs.objs with| []=>true|_=>false)&&(xK c.sig.outs.slots&&znc 0 c.sig.outs.slots))
def zoc (C:Ctx) (Γ:List Con) (fr:List SV) (op:Op):Bool:=
 match op with
 | .call { callee:= .value x,args, .. }=>(match zbo C Γ fr x args.toList fun c _=>some (zr3 c) with
  |some b=>b
  |none=>false)
 |_=>false
def zuw (c:Con) (args:List SV) (hp:List HO) (k:SV→Option R):Option R:=
 bif zr3 c then zrw 0 c.sig.ins args hp fun ds _ _=>zbj c.sig.ins.tys ds fun x=>(c.F x).bind fun y=>zv [] c.sig.outs.slots (qF _ y) fun vs _=>k (zqh vs) else none
def zuv (C:Ctx) (Γ:List Con) (fr:List SV) (hp:List HO) (op:Op) (k:SV→Option R):Option R:=
 match op with
 | .call { callee:= .value x,args, .. }=>zbo C Γ fr x args.toList fun c vs=>zuw c vs hp k
 |_=>none
def z2n (hp:List HO) (fr:List SV) (op:Op) (k:List Nat→Option R):Option R:=
 match op with
 | .store _ (.tmp a) _=>(match fr[a]? with
  |some (.ptr id _)=>k [id]
  |_=>zgf hp 1000 (zc3 fr) [] k)
 |_=>zgf hp 1000 (zc3 fr) [] k
def evE (C:Ctx) (Γ:List Con) (all:List Oper) (N:Nat) (fl:List Nat) (a i:Nat) (fr:List SV) (h:Acc) (o:Oper) (k:SV→Acc→Option R):Option R:=
 zi3 fr (zzc fr) (qS o.op.operands.toList) fun fr'=>
  bif isEffX C all o then
   (bif zoc C Γ fr' o.op then zgf h.hp 1000 (zc3 fr') [] fun T=>bif okC a T h.cs then zp8 T 0 h.hp fun hm=>zx4 N hm fun hm=>zww hm fun hm=>za7 hm fr' fun fr2=>zuv C Γ fr2 hm o.op fun s=>
    bif zyl s.ids [] then k s { h with ps:=(i,T)::h.ps} else none else none
   else bif memN i fl then zpr C Γ fr' o.op fun s=>k s h
   else z2n h.hp fr' o.op fun T=>zp8 T 0 h.hp fun hm=>za7 hm fr' fun fr'=>zht C Γ fr' hm o.op fun s hp'=>
    bif Nat.ble h.hp.length hp'.length&&(Nat.ble hp'.length N&&okC a (zqs (!zfk o.op) T (xF h.hp.length (hp'.length - h.hp.length))) h.ps) then
     zks T 0 h.hp hp' fun hp2=>k s { h with hp:=hp2,cs:=(i,zqs (!zfk o.op) T (xF h.hp.length (hp'.length - h.hp.length)))::h.cs} else none)
  else bif zy8 o.op then
   (bif okC a (zc3 fr') h.cs then zp8 (zc3 fr') 0 h.hp fun hm=>zx4 N hm fun hm=>zww hm fun hm=>za7 hm fr' fun fr2=>j7 C fr2 hm o.op fun s=>
    bif zyl s.ids (zjj (zc3 fr') (zbc hm)) then k s { h with ps:=(i,zc3 fr')::h.ps} else none else none)
  else zx4 N [] fun hm=>j7 C fr' hm o.op fun s=>bif zyl s.ids (zc3 fr') then k s h else none
def xt (C:Ctx) (Γ:List Con) (all:List Oper) (N:Nat) (fl anc:List Nat):Nat→List Oper→List SV→Acc→(List SV→List HO→Option R)→Option R
 |_, [],fr,h,k=>za7 h.hp fr fun fr=>k fr h.hp
 |i,o::os,fr,h,k=>match o.guard with
  |none=>evE C Γ all N fl (nthN anc i) i fr h o fun s h=>zgh (zaw all i) s fun s=>zcs fr o.dst s fun fr=>xt C Γ all N fl anc (i+1) os fr h k
  |some (j,want)=>(match zfc all j with
   |none=>none
   |some d=>qz fr d fun s=>(match s with
    | .bit b=>bif b==want then evE C Γ all N fl (nthN anc i) i fr h o fun s h=>zgh (zaw all i) s fun s=>zcs fr o.dst s fun fr=>xt C Γ all N fl anc (i+1) os fr h k
     else zcs fr o.dst .skip fun fr=>xt C Γ all N fl anc (i+1) os fr h k
    | .skip=>zcs fr o.dst .skip fun fr=>xt C Γ all N fl anc (i+1) os fr h k
    |_=>none))
def zni (anc:List Nat):List Edge→Nat
 | []=>0
 |e::l=>bif Region.binds .any e then Nat.lor (Nat.lor (Nat.shiftLeft 1 e.on) (nthN anc e.on)) (zni anc l) else zni anc l
def zsg (anc:List Nat):Nat→List Oper→Bool
 |_, []=>true
 |j,o::os=>Nat.beq (nthN anc j) (zni anc o.after.toList)&&zsg anc (j+1) os
def ze9 (C:Ctx) (all:List Oper) (fl anc:List Nat):Nat→Option Nat→List Oper→Bool
 |_,_, []=>true
 |j,p,o::os=>bif isEffX C all o&& !memN j fl then(match p with
   |none=>true
   |some i=>bitN (nthN anc j) i)&&ze9 C all fl anc (j+1) (some j) os
  else ze9 C all fl anc (j+1) p os
def zo6 (C:Ctx) (fl anc:List Nat) (ops:Array Oper):Bool:=zl1 ops&&(zsg anc 0 ops.toList&&ze9 C ops.toList fl anc 0 none ops.toList)
def zbk (f:Nat):Nat→List Oper→List Oper
 |_, []=> []
 |0,o::l=>{ o with after:=(o.after.toList++ [(Edge.mk f Ground.data)]).toArray}::l
 |n+1,o::l=>o::zbk f n l
def z2y (inv:List Nat) (e:Edge):Edge:=Edge.mk (nthN inv e.on) e.ground
def renO (inv:List Nat) (o:Oper):Oper:={ o with after:=(o.after.toList.map (z2y inv)).toArray,guard:=o.guard.map fun p=>(nthN inv p.1,p.2)}
def zdn (inv:List Nat) (l:List Oper) (perm:List Nat):List Oper:=perm.map fun i=>renO inv (l.getD i default)
def zti (n:Nat) (perm inv:List Nat):Bool:=
 Nat.beq perm.length n&&((List.range n).all fun i=>Nat.ble (nthN inv i+1) n&&(Nat.beq (nthN perm (nthN inv i)) i&&(Nat.ble (nthN perm i+1) n&&Nat.beq (nthN inv (nthN perm i)) i)))
def zho (n:Nat) (l:List Oper):Bool:=l.all fun o=>(o.after.toList.all fun e=> !Region.binds .any e||Nat.ble (e.on+1) n)&&(match o.guard with
 |none=>true
 |some (j,_)=>Nat.ble (j+1) n)
def zhg (o:Oper):Bool:=
 match o.op with
 | .move _=>true
 | .assign _=>true
 | .makeSlice _ _ _=>true
 | .call { callee:= .builtin .len, .. }=>true
 |_=>false
def zpg (f g:Nat):Nat→List Oper→Bool
 |_, []=>true
 |j,o::l=>(Nat.beq j f||Nat.beq j g||zhg o)&&zpg f g (j+1) l
def zof:List Oper→Option (List Oper×Oper)
 | []=>none
 | [o]=>some ([],o)
 |o::p::l=>match zof (p::l) with
  |some (b,q)=>some (o::b,q)
  |none=>none
def zwm:Nat→Oper→Bool
 |0,_=>true
 |m+1,o=>zqt m o.after.toList&&zwm m o
def zee (n:Nat):List Oper→Bool
 | []=>true
 |o::l=>(match o.guard with
  |some (j,_)=>Nat.ble (j+1) n
  |none=>true)&&zee n l
def zzi (C:Ctx) (fl anc:List Nat) (b:List Oper) (o:Oper):Bool:=zo6 C fl anc b.toArray&&(zwm b.length o&&(o.guard.isNone&&(zee b.length b&&zbv b.length o.after.toList)))
inductive Lv where
 |normal
 |exit (id:Nat)
 |ret
 |goto (l:Nat)
def Lv.same:Lv→Lv→Bool
 | .normal, .normal=>true
 | .exit i, .exit j=>Nat.beq i j
 | .ret, .ret=>true
 | .goto i, .goto j=>Nat.beq i j
 |_,_=>false
structure Jn where
 lv:Lv
 tmps:List (Nat×Sh)
 objs:List OSh
def Jn.skel (j:Jn):Skel:={ slots:=j.tmps.map (·.2),objs:=j.objs}
@[reducible] def zna:List Jn→Type
 | []=>Empty
 | [j]=>Tup j.skel.tys
 |j::i::l=>Tup j.skel.tys ⊕ zna (i::l)
inductive Ann where
 |leaf
 |tail (n:Nat)
 |seq (a b:Ann)
 |cond (a b:Ann)
 |block (a:Ann)
 |loop (hd:Jn) (js:List Jn) (a:Ann)
 |join (js:List Jn) (a:Ann)
 |draw
 |fro (ids:List Nat) (a:Ann)
 |eff (N:Nat) (fl anc:List Nat)
 |effl (N:Nat) (fl anc:List Nat)
 |eff2 (f g N:Nat) (an1 an2 perm inv:List Nat)
 |scope (l:Nat) (hd:Jn) (js:List Jn) (a b:Ann)
def zxn (fr:List SV):List (Nat×Sh)→(List SV→Option R)→Option R
 | [],k=>k []
 |(t,_)::l,k=>qz fr t fun s=>zxn fr l fun ss=>k (s::ss)
def lay (fr:List SV):List (Nat×Sh)→List SV→(List SV→Option R)→Option R
 | [],_,k=>k fr
 |(t,_)::l,s::ss,k=>jB fr t s fun fr=>lay fr l ss k
 |_::_, [],_=>none
def zkl (fr:List SV):List Tmp→(List SV→Option R)→Option R
 | [],k=>k fr
 |t::l,k=>jB fr t .und fun fr=>zkl fr l k
def opsDst:List Oper→List Tmp
 | []=> []
 |o::l=>match o.dst with
  |some t=>t::opsDst l
  |none=>opsDst l
def asg:Code→List Tmp
 | .region _ ops _=>opsDst ops.toList
 | .seq a b=>zjj (asg a) (asg b)
 | .cond (.tmp t) a b=>t::zjj (asg a) (asg b)
 | .cond _ a b=>zjj (asg a) (asg b)
 | .block _ c=>asg c
 | .loop c=>asg c
 | .scope c=>asg c
 | .rangeFunc _ ps a c=>zjj ps.toList (zjj (asg a) (asg c))
 |_=> []
def zeq (n0:Nat) (j:Jn) (fr:List SV) (hp:List HO) (k:Tup j.skel.tys→Option R):Option R:=
 bif Nat.ble n0 j.objs.length then zxn fr j.tmps fun vs=>zrw n0 j.skel vs hp fun ds _ _=>zbj j.skel.tys ds k else none
def zmo (j:Jn) (fr:List SV) (x:Tup j.skel.tys) (k:List SV→List HO→Option R):Option R:=
 build (zN j.objs.length 0) j.skel (qF _ x) fun vs hos=>lay fr j.tmps vs fun fr=>k fr hos
def z0 (n0:Nat):(js:List Jn)→Lv→List SV→List HO→(zna js→Option R)→Option R
 | [],_,_,_,_=>none
 | [j],lv,fr,hp,k=>bif j.lv.same lv then ze5 (zeq n0 j fr hp some) k else none
 |j::i::l,lv,fr,hp,k=>bif j.lv.same lv then ze5 (zeq n0 j fr hp some) fun x=>k (.inl x) else z0 n0 (i::l) lv fr hp fun x=>k (.inr x)
structure Ks (R:Type) where
 n:List SV→List HO→Option R
 e:Nat→List SV→List HO→Option R
 r:List SV→List HO→Option R
 g:Nat→List SV→List HO→Option R:=fun _ _ _=>none
def Ks.at (K:Ks R):Lv→List SV→List HO→Option R
 | .normal=>K.n
 | .exit i=>K.e i
 | .ret=>K.r
 | .goto l=>K.g l
def z1o (K:Ks R) (fr:List SV):(js:List Jn)→zna js→Option R
 | [],_=>none
 | [j],x=>zmo j fr x (K.at j.lv)
 |j::i::l,x=>Sum.elim (fun x=>zmo j fr x (K.at j.lv)) (fun x=>z1o K fr (i::l) x) x
def xj {S E:Type} (f:S→Option (S ⊕ E)):Nat→S→Option E
 |0,_=>none
 |n+1,s=>match f s with
  |none=>none
  |some (.inl s')=>xj f n s'
  |some (.inr e)=>some e
open Classical in
noncomputable def iter {S E:Type} (f:S→Option (S ⊕ E)) (s:S):Option E:=
 if h: ∃ n e,xj f n s=some e then xj f h.choose s else none
open Classical in
noncomputable def agree {R:Type} (x y:Option R):Option R:=if x=y then x else none
theorem jW {R:Type} {x y:Option R} {r:R} (h:agree x y=some r):x=some r∧y=some r:=by
 unfold agree at h
 split at h
 case isTrue e=>exact⟨h,e▸h⟩
 case isFalse=>cases h
noncomputable def run (C:Ctx) (Γ:List Con):Ann→{R:Type}→Code→List SV→List HO→Ks R→Option R
 | .leaf,_, .skip,fr,hp,K=>K.n fr hp
 | .leaf,_, .exit i,fr,hp,K=>K.e i fr hp
 | .leaf,_, .ret,fr,hp,K=>K.r fr hp
 | .leaf,_, .label _,fr,hp,K=>K.n fr hp
 | .leaf,_, .goto l,fr,hp,K=>K.g l fr hp
 | .leaf,_, .region _ ops false,fr,hp,K=>zd5 C Γ ops.toList ops.toList fr hp K.n
 | .leaf,_, .region _ ops true,fr,hp,K=>bif Region.lexB .any ops then xu C Γ ops.toList ops.toList fr hp fun fr=>K.n fr hp else none
 | .tail n,_, .region _ ops true,fr,hp,K=>bif Region.lexTailB .any ops n then xu C [] ops.toList (ops.toList.take n) fr hp fun fr=>zd5 C Γ ops.toList (ops.toList.drop n) fr hp K.n else none
 | .draw,_, .region _ ops true,fr,hp,K=>bif zl1 ops then zb0 C Γ ops.toList 0 ops.toList fr hp fun fr=>K.n fr hp else none
 | .eff N fl anc,_, .region _ ops true,fr,hp,K=>bif zo6 C fl anc ops&&Nat.ble hp.length N then xt C Γ ops.toList N fl anc 0 ops.toList fr ⟨hp, [], []⟩ K.n else none
 | .eff2 f g N an1 an2 perm inv,_, .region _ ops true,fr,hp,K=>bif !Nat.beq f g&&(zpg f g 0 ops.toList&&(zti ops.size perm inv&&(zho ops.size (zbk g f ops.toList)&&(zo6 C [] an1 (zbk f g ops.toList).toArray&&(zo6 C [] an2 (zdn inv (zbk g f ops.toList) perm).toArray&&Nat.ble hp.length N))))) then
   agree (xt C Γ (zbk f g ops.toList) N [] an1 0 (zbk f g ops.toList) fr ⟨hp, [], []⟩ K.n) (xt C Γ (zdn inv (zbk g f ops.toList) perm) N [] an2 0 (zdn inv (zbk g f ops.toList) perm) fr ⟨hp, [], []⟩ K.n) else none
 | .effl N fl anc,_, .region _ ops true,fr,hp,K=>(match zof ops.toList with
  |some (b,o)=>bif zzi C fl anc b o&&Nat.ble hp.length N then(xt C Γ b N fl anc 0 b fr ⟨hp, [], []⟩ fun fr hp=>zjq C Γ ops.toList fr hp o K.n) else none
  |none=>none)
 | .fro ids a,_,x,fr,hp,K=>z0m ids hp fun hp=>za7 hp fr fun fr=>run C Γ a x fr hp K
 | .seq a b,_, .seq x y,fr,hp,K=>run C Γ a x fr hp { K with n:=fun fr hp=>run C Γ b y fr hp K}
 | .cond a b,_, .cond c x y,fr,hp,K=>(match c with
  | .tmp t=>qz fr t fun s=>(match s with
   | .bit true=>run C Γ a x fr hp K
   | .bit false=>run C Γ b y fr hp K
   | .val .bool c=>if c=true then jB fr t (.bit true) fun fr=>run C Γ a x fr hp K else jB fr t (.bit false) fun fr=>run C Γ b y fr hp K
   | .ub true c=>if c=true then agree (jB fr t (.bit true) fun fr=>run C Γ a x fr hp K) (jB fr t (.bit false) fun fr=>run C Γ b y fr hp K) else jB fr t (.bit false) fun fr=>run C Γ b y fr hp K
   | .ub false c=>if c=true then agree (jB fr t (.bit true) fun fr=>run C Γ a x fr hp K) (jB fr t (.bit false) fun fr=>run C Γ b y fr hp K) else jB fr t (.bit true) fun fr=>run C Γ a x fr hp K
   |_=>none)
  | .const (.bool true)=>run C Γ a x fr hp K
  | .const (.bool false)=>run C Γ b y fr hp K
  |_=>none)
 | .block a,_, .block i x,fr,hp,K=>run C Γ a x fr hp { K with e:=fun j fr hp=>bif Nat.beq j i then K.n fr hp else K.e j fr hp}
 | .block a,_, .scope x,fr,hp,K=>run C Γ a x fr hp { K with g:=fun _ _ _=>none}
 | .join js a,_,x,fr,hp,K=>zkl fr (asg x) fun fr0=>
   (run C Γ a (R:=zna js) x fr hp
    {n:=fun fr hp'=>z0 hp.length js .normal fr hp' some,e:=fun i fr hp'=>z0 hp.length js (.exit i) fr hp' some,r:=fun fr hp'=>z0 hp.length js .ret fr hp' some,g:=fun i fr hp'=>z0 hp.length js (.goto i) fr hp' some}).bind (z1o K fr0 js)
 | .loop hd js a,_, .loop x,fr,hp,K=>zkl fr (asg x) fun fr0=>ze5 (zeq hp.length hd fr hp some) fun s0=>
   (iter (fun s:Tup hd.skel.tys=>zmo hd fr0 s fun fr hp1=>run C Γ a (R:=Tup hd.skel.tys ⊕ zna js) x fr hp1
    {n:=fun fr hp'=>ze5 (zeq hp.length hd fr hp' some) fun s=>some (.inl s)
     e:=fun i fr hp'=>z0 hp.length js (.exit i) fr hp' fun e=>some (.inr e)
     r:=fun fr hp'=>z0 hp.length js .ret fr hp' fun e=>some (.inr e)
     g:=fun i fr hp'=>z0 hp.length js (.goto i) fr hp' fun e=>some (.inr e)}) s0).bind (z1o K fr0 js)
 | .scope l hd js a b,_, .scope x,fr,hp,K=>(match findLabel x l with
  |none=>none
  |some rest=>zkl fr (asg x) fun fr0=>
   ((run C Γ a (R:=Tup hd.skel.tys ⊕ zna js) x fr hp
     {n:=fun fr hp'=>z0 hp.length js .normal fr hp' fun e=>some (.inr e)
      e:=fun i fr hp'=>z0 hp.length js (.exit i) fr hp' fun e=>some (.inr e)
      r:=fun fr hp'=>z0 hp.length js .ret fr hp' fun e=>some (.inr e)
      g:=fun i fr hp'=>bif Nat.beq i l then ze5 (zeq hp.length hd fr hp' some) fun s=>some (.inl s) else none}).bind
     (Sum.elim (fun s0=>iter (fun s:Tup hd.skel.tys=>zmo hd fr0 s fun fr hp1=>run C Γ b (R:=Tup hd.skel.tys ⊕ zna js) rest fr hp1
      {n:=fun fr hp'=>z0 hp.length js .normal fr hp' fun e=>some (.inr e)
       e:=fun i fr hp'=>z0 hp.length js (.exit i) fr hp' fun e=>some (.inr e)
       r:=fun fr hp'=>z0 hp.length js .ret fr hp' fun e=>some (.inr e)
       g:=fun i fr hp'=>bif Nat.beq i l then ze5 (zeq hp.length hd fr hp' some) fun s=>some (.inl s) else none}) s0) some)).bind (z1o K fr0 js))
 |_,_,_,_,_,_=>none
def zdo (C:Ctx) (hp:List HO) (fr:List SV):List ResultVar→(List SV→Option R)→Option R
 | [],k=>k []
 | .tmp t::l,k=>qz fr t fun s=>zdo C hp fr l fun ss=>k (s::ss)
 | .cell a T::l,k=>qz fr a fun s=>zu C.TT T fun i=>xI i hp s fun s=>zdo C hp fr l fun ss=>k (s::ss)
noncomputable def zk (C:Ctx) (Γ:List Con) (sg:Sig) (a:Ann) (fn:Func) (x:Tup sg.ins.tys):Option (Tup sg.outs.tys):=
 match fn.body with
 |none=>none
 |some c=>build (zN sg.ins.objs.length 0) sg.ins (qF _ x) fun vs hos=>
   let ret:=fun(fr:List SV) (hp:List HO)=>zdo C hp fr fn.results.toList fun rs=>zrw sg.ins.objs.length sg.outs rs hp fun ds _ _=>zbj sg.outs.tys ds some
   zx9 SV.skip (fn.ntmps - vs.length) fun sk=>run C Γ a c (vs++sk) hos { n:=ret,e:=fun _ _ _=>none,r:=ret}
end
end Go.Sx
