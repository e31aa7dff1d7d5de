/- The symbolic evaluator, part C: shapes, contracts, effects, regions, code (definitions alone). -/
import Derived.Test.YtpmbmobjnknnhaaGreatDoorSxB
set_option linter.unusedVariables false
set_option linter.unusedSimpArgs false
namespace Go.Sx
open Go.RowKit
inductive Sh where
 |hole (t:Ty)
 |own (j:Nat)
 |ptr (j off:Nat)
 |nilp
 |und
 |ro (t:Ty)
 |fnc (f:FuncId) (n:Nat)
 |mp (j:Nat)
 |agn (n:Nat)
inductive OSh where
 |gone
 |cells (l:List Sh)
 |arr (T:TypeId) (t:Ty)
 |map (K V:Ty)
def z5:List Sh→List Ty
 | []=> []
 | .hole t::l=>t::z5 l
 | .own _::l=>z5 l
 | .ptr _ _::l=>z5 l
 | .nilp::l=>z5 l
 | .und::l=>z5 l
 | .ro t::l=>t::z5 l
 | .fnc _ _::l=>z5 l
 | .agn _::l=>z5 l
 | .mp _::l=>z5 l
def zm4:List Ty→List Ty→List Ty
 | [],m=>m
 |t::l,m=>t::zm4 l m
def z8:List OSh→List Ty
 | []=> []
 | .gone::l=>z8 l
 | .cells s::l=>zm4 (z5 s) (z8 l)
 | .arr _ t::l=> .sl t::z8 l
 | .map K V::l=> .sl (.pair K V)::z8 l
structure Skel where
 slots:List Sh
 objs:List OSh
def Skel.tys (s:Skel):List Ty:=zm4 (z5 s.slots) (z8 s.objs)
@[reducible] def Tup:List Ty→Type
 | []=>Unit
 | [t]=>t.den
 |t::u::l=>t.den×Tup (u::l)
def qB:(ts:List Ty)→Tup ts→List DV
 | [],_=> []
 | [t],x=> [⟨t,x⟩]
 |t::u::l,x=>⟨t,x.1⟩::qB (u::l) x.2
inductive PM where
 |none
 |nil
 |id (i:Nat) (len:Option Nat)
section
variable {R:Type}
def zbd:(ts:List Ty)→List DV→(Tup ts→Option R)→Option R
 | [], [],k=>k ()
 | [t], [d],k=>if h:d.t=t then k (h▸d.x) else none
 |t::u::l,d::ds,k=>if h:d.t=t then zbd (u::l) ds fun y=>k (h▸d.x,y) else none
 |_,_,_=>none
def PM.same:PM→PM→Bool
 | .nil, .nil=>true
 | .id i Option.none, .id j Option.none=>Nat.beq i j
 |_,_=>false
def jA (mp:List PM) (j:Nat) (p:PM) (k:List PM→Option R):Option R:=
 qv mp j fun q=>match q with
  | .none=>jx mp j p k
  |q=>bif q.same p then k mp else none
def zR:List Sh→List SV→List PM→List HO→(List PM→List DV→List HO→Option R)→Option R
 | [], [],mp,hp,k=>k mp [] hp
 | .hole t::ss,v::vs,mp,hp,k=>zda t v hp fun x hp=>zR ss vs mp hp fun mp ds hp=>k mp (⟨t,x⟩::ds) hp
 | .own j::ss,v::vs,mp,hp,k=>(match v with
  | .own id len=>jA mp j (.id id len) fun mp=>zR ss vs mp hp k
  | .nils=>jA mp j .nil fun mp=>zR ss vs mp hp k
  |_=>none)
 | .ptr j off::ss,v::vs,mp,hp,k=>(match v with
  | .ptr id o=>bif Nat.beq o off then jA mp j (.id id none) fun mp=>zR ss vs mp hp k else none
  |_=>none)
 | .nilp::ss,v::vs,mp,hp,k=>(match v with
  | .nilp=>zR ss vs mp hp k
  |_=>none)
 | .mp j::ss,v::vs,mp,hp,k=>(match v with
  | .mp id=>jA mp j (.id id none) fun mp=>zR ss vs mp hp k
  |_=>none)
 | .und::ss,_::vs,mp,hp,k=>zR ss vs mp hp k
 | .fnc f n::ss,v::vs,mp,hp,k=>(match v with
  | .fn g l=>bif Nat.beq g f&&Nat.beq l.length n then zR ss (l++vs) mp hp k else none
  |_=>none)
 | .agn n::ss,v::vs,mp,hp,k=>(match v with
  | .agg l=>bif Nat.beq l.length n then zR ss (l++vs) mp hp k else none
  |_=>none)
 | .ro t::ss,v::vs,mp,hp,k=>roF t v hp fun x hp=>zR ss vs mp hp fun mp ds hp=>k mp (⟨t,x⟩::ds) hp
 |_,_,_,_,_=>none
def zr5:List DV→List DV→List DV
 | [],m=>m
 |d::l,m=>d::zr5 l m
def xI:Nat→List OSh→List PM→List HO→(List PM→List DV→List HO→Option R)→Option R
 |_, [],mp,hp,k=>k mp [] hp
 |j, .gone::os,mp,hp,k=>xI (j+1) os mp hp k
 |j, .cells sl::os,mp,hp,k=>qv mp j fun p=>(match p with
  | .id i none=>qv hp i fun o=>(match o with
   | .cells l=>zR sl l mp hp fun mp ds hp=>xI (j+1) os mp hp fun mp ds' hp=>k mp (zr5 ds ds') hp
   |_=>none)
  |_=>none)
 |j, .arr T t::os,mp,hp,k=>qv mp j fun p=>(match p with
  | .nil=>xI (j+1) os mp hp fun mp ds hp=>k mp (⟨.sl t, []⟩::ds) hp
  | .id i len=>qv hp i fun o=>(match o with
   | .arr T' t' xs=>bif Nat.beq T' T then(if h:t'=t then xI (j+1) os mp hp fun mp ds hp=>k mp (⟨.sl t,zJ (h▸xs) len⟩::ds) hp else none) else none
   |_=>none)
  | .none=>none)
 |j, .map K V::os,mp,hp,k=>qv mp j fun p=>(match p with
  | .id i none=>qv hp i fun o=>(match o with
   | .map K' V' es=>if h:K'=K∧V'=V then xI (j+1) os mp hp fun mp ds hp=>k mp (⟨.sl (.pair K V),h.1▸h.2▸es⟩::ds) hp else none
   |_=>none)
  |_=>none)
def zA:List OSh→List PM→List Nat
 | .gone::os,_::mp=>zA os mp
 |_::os, .id i _::mp=>i::zA os mp
 |_::os,_::mp=>zA os mp
 |_,_=> []
def zxp (n:Nat):List Nat→Bool
 | []=>true
 |m::l=>bif Nat.beq n m then false else zxp n l
def zob:List Nat→Bool
 | []=>true
 |n::l=>zxp n l&&zob l
def qS:Nat→Nat→List OSh→List PM
 |_,_, []=> []
 |0,j,_::os=> .none::qS 0 j os
 |n+1,j,_::os=> .id j none::qS n (j+1) os
def zsw:List Nat→List HO→Option R→Option R
 | [],_,x=>x
 |i::l,hp,x=>qv hp i fun o=>bif o.live then zsw l hp x else none
def zrl (n0:Nat) (sk:Skel) (vs:List SV) (hp:List HO) (k:List DV→List PM→List HO→Option R):Option R:=
 zR sk.slots vs (qS n0 0 sk.objs) hp fun mp ds hp=>xI 0 sk.objs mp hp fun mp ds' hp=>
  bif zob (zA sk.objs mp) then zsw (zA sk.objs mp) hp (k (zr5 ds ds') mp hp) else none
def qF:List Nat→Nat→Nat
 | [],_=>0
 |x::_,0=>x
 |_::l,n+1=>qF l n
def zu (ρ:List Nat):List Sh→List DV→(List SV→List DV→Option R)→Option R
 | [],ds,k=>k [] ds
 | .hole _::ss,d::ds,k=>zu ρ ss ds fun vs ds=>k (.val d.t d.x::vs) ds
 | .own j::ss,ds,k=>zu ρ ss ds fun vs ds=>k (.own (qF ρ j) none::vs) ds
 | .ptr j off::ss,ds,k=>zu ρ ss ds fun vs ds=>k (.ptr (qF ρ j) off::vs) ds
 | .nilp::ss,ds,k=>zu ρ ss ds fun vs ds=>k (.nilp::vs) ds
 | .mp j::ss,ds,k=>zu ρ ss ds fun vs ds=>k (.mp (qF ρ j)::vs) ds
 | .und::ss,ds,k=>zu ρ ss ds fun vs ds=>k (.und::vs) ds
 | .hole _::_, [],_=>none
 | .fnc f n::ss,ds,k=>zu ρ ss ds fun vs ds=>k (.fn f (vs.take n)::vs.drop n) ds
 | .agn n::ss,ds,k=>zu ρ ss ds fun vs ds=>k (.agg (vs.take n)::vs.drop n) ds
 | .ro _::ss,d::ds,k=>zu ρ ss ds fun vs ds=>k (.ro d.t d.x::vs) ds
 | .ro _::_, [],_=>none
def z0 (ρ:List Nat):List OSh→List DV→(List HO→Option R)→Option R
 | [],_,k=>k []
 | .gone::os,ds,k=>z0 ρ os ds fun hs=>k (.gone::hs)
 | .cells sl::os,ds,k=>zu ρ sl ds fun vs ds=>z0 ρ os ds fun hs=>k (.cells vs::hs)
 | .arr T _::os,d::ds,k=>(match d with
  |⟨.sl e,xs⟩=>z0 ρ os ds fun hs=>k (.arr T e xs::hs)
  |_=>none)
 | .arr _ _::_, [],_=>none
 | .map _ _::os,d::ds,k=>(match d with
  |⟨.sl (.pair K V),es⟩=>z0 ρ os ds fun hs=>k (.map K V es::hs)
  |_=>none)
 | .map _ _::_, [],_=>none
def build (ρ:List Nat) (sk:Skel) (ds:List DV) (k:List SV→List HO→Option R):Option R:=
 zu ρ sk.slots ds fun vs ds=>z0 ρ sk.objs ds fun hs=>k vs hs
structure Sig where
 ins:Skel
 outs:Skel
def xG:List Sh→Bool
 | []=>true
 | .hole t::l=>t.flat&&xG l
 | .ro _::_=>false
 | .fnc _ _::_=>false
 | .agn _::_=>false
 |_::l=>xG l
def zam:List OSh→Bool
 | []=>true
 | .gone::l=>zam l
 | .cells s::l=>xG s&&zam l
 | .arr _ t::l=>t.flat&&zam l
 | .map K V::l=>K.flat&&(V.flat&&zam l)
def Skel.flat (s:Skel):Bool:=xG s.slots&&zam s.objs
structure Con where
 f:FuncId
 sig:Sig
 F:Tup sig.ins.tys→Option (Tup sig.outs.tys)
def zsr:List Sh→List SV→Bool
 | .fnc g _::ss,v::vs=>(match v with
  | .fn h l=>Nat.beq g h&&zsr ss (l++vs)
  |_=>false)
 | .agn _::ss,v::vs=>(match v with
  | .agg l=>zsr ss (l++vs)
  |_=>false)
 | .own _::ss,v::vs=>(match v with
  | .val _ _=>false
  |_=>zsr ss vs)
 |_::ss,_::vs=>zsr ss vs
 |_,_=>true
def zsg:List Con→FuncId→List SV→(Con→Option R)→Option R
 | [],_,_,_=>none
 |c::l,f,vs,k=>bif Nat.beq c.f f&&zsr c.sig.ins.slots vs then k c else zsg l f vs k
def zbi (C:Ctx) (Γ:List Con) (fr:List SV) (x:Operand) (args:List Operand) (k:Con→List SV→Option R):Option R:=
 match x with
 | .func f=>zoy C fr args fun vs=>zsg Γ f vs fun c=>k c vs
 |x=>opd C fr x fun s=>(match s with
  | .fn f l=>zoy C fr args fun vs=>zsg Γ f (vs++l) fun c=>k c (vs++l)
  |_=>none)
def rho:Nat→List PM→List OSh→List Nat
 |_,_, []=> []
 |b, .id i none::mp,_::os=>i::rho b mp os
 |b,_::mp,_::os=>b::rho (b+1) mp os
 |b, [],_::os=>b::rho (b+1) [] os
def zaj:List PM→List HO→(List HO→Option R)→Option R
 | [],hp,k=>k hp
 | .id i _::mp,hp,k=>jx hp i .gone fun hp=>zaj mp hp k
 |_::mp,hp,k=>zaj mp hp k
def ze9:List PM→List OSh→List HO→(List HO→Option R)→Option R
 |_, [],hp,k=>k hp
 | .id _ none::mp,_::os,hp,k=>ze9 mp os hp k
 |_::mp,_::os,hp,k=>jq hp .gone fun hp=>ze9 mp os hp k
 | [],_::os,hp,k=>jq hp .gone fun hp=>ze9 [] os hp k
def zel:List Nat→List HO→List HO→(List HO→Option R)→Option R
 |i::ρ,o::os,hp,k=>jx hp i o fun hp=>zel ρ os hp k
 |_,_,hp,k=>k hp
def jn:List OSh→Bool
 | []=>true
 | .arr _ t::l=>t.noOwn&&jn l
 |_::l=>jn l
def zfz:List OSh→Bool
 | []=>true
 | .gone::_=>false
 |_::l=>zfz l
def zms (n:Nat):List Sh→Bool
 | []=>true
 | .own j::l=>Nat.ble (j+1) n&&zms n l
 | .ptr j _::l=>Nat.ble (j+1) n&&zms n l
 | .mp j::l=>Nat.ble (j+1) n&&zms n l
 |_::l=>zms n l
def wfO (n:Nat):List OSh→Bool
 | []=>true
 | .cells s::l=>zms n s&&wfO n l
 |_::l=>wfO n l
def zp5:List SV→SV
 | [s]=>s
 |l=> .tup l
def znj (c:Con) (args:List SV) (hp:List HO) (k:SV→List HO→Option R):Option R:=
 bif zfz c.sig.ins.objs&&(Nat.ble c.sig.ins.objs.length c.sig.outs.objs.length&&(zms c.sig.outs.objs.length c.sig.outs.slots&&wfO c.sig.outs.objs.length c.sig.outs.objs)) then
 zrl 0 c.sig.ins args hp fun ds mp hp1=>zbd c.sig.ins.tys ds fun x=>
  (c.F x).bind fun r=>
   build (rho hp.length mp c.sig.outs.objs) c.sig.outs (qB _ r) fun vs hos=>
    zaj mp (bif c.sig.outs.flat&&jn c.sig.ins.objs then hp else hp1) fun hp2=>ze9 mp c.sig.outs.objs hp2 fun hp3=>zel (rho hp.length mp c.sig.outs.objs) hos hp3 fun hp4=>k (zp5 vs) hp4
 else none
set_option linter.unusedVariables false in
def zbr (C:Ctx) (fr:List SV) (t:Ty):List (Nat×Operand)→List t.den→List HO→(List t.den→List HO→Option R)→Option R
 | [],xs,hp,k=>k xs hp
 |(i,x)::l,xs,hp,k=>bif Nat.ble (i+1) xs.length then(opd C fr x fun s=>zda t s hp fun y hp=>jx xs i y fun xs=>zbr C fr t l xs hp k) else none
def zxx {α:Type} (x:α):Nat→(List α→Option R)→Option R
 |0,k=>k []
 |n+1,k=>zxx x n fun l=>k (x::l)
def ztq (t:Ty) (s:SV) (hp:List HO) (k:List t.den→Option R):Option R:=
 match s with
 | .val (.sl e) xs=>if h:e=t then k (h▸xs) else none
 | .nils=>k []
 | .nil0=>k []
 | .own id len=>qv hp id fun o=>(match o with
  | .arr _ e xs=>if h:e=t then k (zJ (h▸xs) len) else none
  | .tk _ e xs=>if h:e=t then k (zJ (h▸xs) len) else none
  |_=>none)
 |_=>none
def zwo (t:Ty) (s:SV) (hp:List HO) (k:List t.den→List HO→Option R):Option R:=
 match s with
 | .val (.sl e) xs=>if h:e=t.er then k ((h▸xs:List t.er.den).map t.lift) hp else none
 | .nils=>k [] hp
 | .nil0=>k [] hp
 | .own id len=>qv hp id fun o=>(match o with
  | .arr _ e xs=>if h:e=t then jx hp id .gone fun hp=>k (zJ (h▸xs) len) hp else none
  |_=>none)
 |_=>none
def zi (n bytes:Nat):Prop:=n*bytes≤140737488355328
instance (n bytes:Nat):Decidable (zi n bytes):=inferInstanceAs (Decidable (_≤_))
def zoh:List Nat→(t:Ty)→t.den→(t':Ty)→t'.den→(t.den→Option R)→Option R
 | [],t,_,t',y,k=>if h:t'=t then k (h▸y) else none
 |i::p, .st f,x,t',y,k=>fsetAux i f x (fun u z k=>zoh p u z t' y k) k
 |_::_,_,_,_,_,_=>none
where fsetAux:Nat→(f:Ty)→f.den→((u:Ty)→u.den→(u.den→Option R)→Option R)→(f.den→Option R)→Option R
 |0, .pair a _,x,g,k=>g a x.1 fun y=>k (y,x.2)
 |i+1, .pair _ b,x,g,k=>fsetAux i b x.2 g fun y=>k (x.1,y)
 |0,t,x,g,k=>g t x k
 |_+1,_,_,_,_=>none
def qE (ei:TI) (t:Ty):Bool:=Nat.beq ei.size t.size&&(Nat.ble 1 ei.size&&(Nat.ble 1 ei.bytes&&(t.isAgg||Nat.beq t.size 1)))
def zbw (i:TI) (x v:SV) (hp:List HO) (k:SV→List HO→Option R):Option R:=
 match x with
 | .ptr id off=>v.cellsK fun l'=>bif Nat.beq l'.length i.size&&zmx l' then(qv hp id fun o=>(match o with
  | .cells l=>bif Nat.ble (off+i.size) l.length then jx hp id (.cells (l.take off++(l'++l.drop (off+i.size)))) fun hp=>k .skip hp else none
  |_=>none)) else none
 | .elt id t j p=>(match qG p t with
  |some u=>bif fits i u then zda u v hp fun y hp=>qv hp id fun o=>(match o with
   | .arr T t' xs=>if h:t'=t then zoh p t ((h▸xs:List t.den).getD j t.dflt) u y fun z=>jx hp id (.arr T t ((h▸xs:List t.den).set j z)) fun hp=>k .skip hp else none
   |_=>none) else none
  |none=>none)
 |_=>none
def xE (C:Ctx) (E:TypeId) (ei:TI) (x:SV) (hp:List HO) (k:SV→List HO→Option R):Option R:=
 match C.el E ei with
 |some t=>bif qE ei t then(bif t.noOwn then ztq t x hp fun ys=>(if zi ys.length ei.bytes then jq hp (.arr E t ys) fun hp'=>k (.own hp.length none) hp' else none)
   else zwo t x hp fun ys hp=>if zi ys.length ei.bytes then jq hp (.arr E t ys) fun hp'=>k (.own hp.length none) hp' else none) else none
 |none=>none
set_option linter.unusedVariables false in
def jE (C:Ctx) (E:TypeId) (ei:TI) (s x:SV) (hp:List HO) (k:SV→List HO→Option R):Option R:=
 match s with
 | .nils=>xE C E ei x hp k
 | .nil0=>xE C E ei x hp k
 | .own id len=>qv hp id fun o=>(match o with
  | .arr E' t xs=>bif Nat.beq E' E&&qE ei t then(bif t.noOwn then ztq t x hp fun ys=>
    (if zi (zdi xs len+ys.length) ei.bytes then jx hp id .gone fun hp1=>jq hp1 (.arr E t (zJ xs len++ys)) fun hp'=>k (.own hp.length none) hp' else none)
   else jx hp id .gone fun hp1=>zwo t x hp1 fun ys hp2=>if zi (zdi xs len+ys.length) ei.bytes then jq hp2 (.arr E t (zJ xs len++ys)) fun hp'=>k (.own hp2.length none) hp' else none) else none
  | .tk E' t xs=>bif Nat.beq E' E&&(qE ei t&&(len.isNone&&t.noOwn)) then ztq t x hp fun ys=>
    (if zi (xs.length+ys.length) ei.bytes then jx hp id (.fro t xs) fun hp1=>jq hp1 (.tk E t (xs++ys)) fun hp'=>k (.own hp.length none) hp' else none) else none
  |_=>none)
 |_=>none
def zbs (C:Ctx) (E:TypeId) (ei:TI) (x:SV) (hp:List HO) (k:SV→List HO→Option R):Option R:=
 match x with
 | .nils=>k (.tup []) hp
 | .own id len=>qv hp id fun o=>(match o with
  | .arr T t xs=>(match C.el E ei with
   |some u=>bif qE ei t then(if _h:u=t then jx hp id (.arr T t (List.replicate (zdi xs len) t.dflt++xs.drop (zdi xs len))) fun hp=>k (.tup []) hp else none) else none
   |none=>none)
  |_=>none)
 | .vw id u off len=>qv hp id fun o=>(match o with
  | .arr T t xs=>(match C.el E ei with
   |some u'=>bif qE ei t then(if _h:u'=t∧u=t then jx hp id (.arr T t (xs.take off++(List.replicate len t.dflt++xs.drop (off+len)))) fun hp=>k (.tup []) hp else none) else none
   |none=>none)
  |_=>none)
 |_=>none
def zvq (b:Bool):Prop:=b=true
instance (b:Bool):Decidable (zvq b):=inferInstanceAs (Decidable (_=_))
def zbt (i:TI) (hp:List HO) (x:SV) (k:SV→List HO→Option R):Option R:=
 match i.kind,x with
 | .slice E, .elt id t j p=>qv hp id fun o=>(match o with
  | .arr T t' xs=>if h:t'=t then(match zc2 p t ((h▸xs:List t.den).getD j t.dflt) with
   |some d=>(match d with
    |⟨.osl e,y⟩=>bif fits i (.osl e)&&decide (qG p t=some (.osl e)) then(if zvq y.1 then zoh p t ((h▸xs:List t.den).getD j t.dflt) (.osl e) (false,y.2) fun z=>
      jx hp id (.arr T t ((h▸xs:List t.den).set j z)) fun hp1=>jq hp1 (.tk E e y.2) fun hp2=>k (.own hp.length none) hp2 else none) else none
    |_=>xF i hp x fun s=>k s hp)
   |none=>none) else none
  |_=>none)
 |_,_=>xF i hp x fun s=>k s hp
def je (C:Ctx) (fr:List SV) (i:TI) (n:Option Operand) (hp:List HO) (k:SV→List HO→Option R):Option R:=
 match i.kind with
 | .map Kt Vt=>zt C.TT Kt fun ki=>zt C.TT Vt fun vi=>(match zpv ki,vi.ty with
  |some K,some V=>zwm C fr n 0 fun _=>jq hp (.map K V []) fun hp'=>k (.mp hp.length) hp'
  |_,_=>none)
 |_=>none
def qh (C:Ctx) (i:TI) (m y v:SV) (hp:List HO) (k:SV→List HO→Option R):Option R:=
 match i.kind,m,y with
 | .map Kt Vt, .mp id, .val t y=>zt C.TT Kt fun ki=>zt C.TT Vt fun vi=>(match vi.ty with
  |some V=>zda V v hp fun x hp=>qv hp id fun o=>(match o with
   | .map K V' es=>bif decide (zpv ki=some K) then(if h:t=K∧V'=V then jx hp id (.map K V (z14 K V (h.2▸es) (h.1▸y:K.den) x)) fun hp=>k .skip hp else none) else none
   |_=>none)
  |none=>none)
 |_,_,_=>none
def zfc:Op→Bool
 | .alloc _| .box _ _| .buildSlice _ _ _| .makeSlice _ _ _| .store _ _ _=>true
 | .call { callee:= .builtin .append, .. }=>true
 | .call { callee:= .builtin .clear, .. }=>true
 | .makeMap _ _| .mapUpdate _ _ _ _| .insert _ _ _ _=>true
 | .call { callee:= .value _, .. }=>true
 |_=>false
def z0g:List Oper→Nat→Bool
 | [],_=>false
 |o::l,t=>(match o.op with
  | .call { callee:= .builtin .append,args, .. }=>(match args.toList with
   | .tmp u::_=>Nat.beq u t
   |_=>false)
  |_=>false)||z0g l t
def z2v (n:Nat):List Nat→Bool
 | []=>false
 |m::l=>Nat.beq n m||z2v n l
def z1d:List Oper→Nat→Bool
 | [],_=>false
 |o::l,t=>(match o.op,o.dst with
  | .fieldAddr _ _ _,some d=>Nat.beq d t
  |_,_=>false)||z1d l t
def z2o (C:Ctx) (all:List Oper) (o:Oper):Bool:=
 match C.mv with
 | []=>false
 |m::l=>(match o.op,o.dst with
  | .load T (.tmp t),some d=>z2v T (m::l)&&(z0g all d&& !z1d all t)
  |_,_=>false)
def isEffX (C:Ctx) (all:List Oper) (o:Oper):Bool:=zfc o.op||z2o C all o
def zhj (C:Ctx) (Γ:List Con) (fr:List SV) (hp:List HO) (op:Op) (k:SV→List HO→Option R):Option R:=
 match op with
 | .alloc T=>zt C.TT T fun i=>jq hp (.cells i.zero) fun hp'=>k (.ptr hp.length 0) hp'
 | .box _ x=>opd C fr x fun s=>s.cellsK fun l=>jq hp (.cells l) fun hp'=>k (.ptr hp.length 0) hp'
 | .buildSlice T n parts=>zt C.TT T fun i=>(match i.kind with
  | .slice E=>zt C.TT E fun ei=>(match C.el E ei with
   |some t=>bif qE ei t&&Nat.ble (n*ei.size) 16777216 then
     (zxx t.dflt n fun xs=>zbr C fr t parts.toList xs hp fun xs hp=>jq hp (.arr E t xs) fun hp'=>k (.own hp.length none) hp') else none
   |none=>none)
  |_=>none)
 | .makeSlice T l c=>zt C.TT T fun i=>(match i.kind with
  | .slice E=>zt C.TT E fun ei=>(match C.el E ei with
   |some t=>bif qE ei t then(opd C fr l fun l=>asI l fun l=>opd C fr c fun c=>asI c fun c=>
     if 0≤l∧l≤c∧zi c.toNat ei.bytes then jq hp (.arr E t (List.replicate l.toNat t.dflt)) fun hp'=>k (.own hp.length none) hp' else none) else none
   |none=>none)
  |_=>none)
 | .store T x v=>zt C.TT T fun i=>opd C fr x fun x=>opd C fr v fun v=>zbw i x v hp k
 | .call { callee:= .builtin .append,args,argTypes}=>(match args.toList,argTypes.toList with
  | [s,x], [T,T']=>bif Nat.beq T T' then zt C.TT T fun i=>(match i.kind with
   | .slice E=>zt C.TT E fun ei=>opd C fr s fun s=>opd C fr x fun x=>jE C E ei s x hp k
   |_=>none) else none
  |_,_=>none)
 | .call { callee:= .builtin .clear,args,argTypes}=>(match args.toList,argTypes.toList with
  | [x], [T]=>zt C.TT T fun i=>(match i.kind with
   | .slice E=>zt C.TT E fun ei=>opd C fr x fun x=>zbs C E ei x hp k
   |_=>none)
  |_,_=>none)
 | .makeMap T n=>zt C.TT T fun i=>je C fr i n hp k
 | .mapUpdate T m y v=>zt C.TT T fun i=>opd C fr m fun m=>opd C fr y fun y=>opd C fr v fun v=>qh C i m y v hp k
 | .insert T m y v=>zt C.TT T fun i=>opd C fr m fun m=>opd C fr y fun y=>opd C fr v fun v=>qh C i m y v hp k
 | .load T x=>zt C.TT T fun i=>opd C fr x fun x=>zbt i hp x k
 | .call { callee:= .value x,args, .. }=>zbi C Γ fr x args.toList fun c vs=>znj c vs hp k
 |_=>none
def zcn (fr:List SV) (d:Option Tmp) (s:SV) (k:List SV→Option R):Option R:=
 match d with
 |some t=>jx fr t s k
 |none=>k fr
def ze4:List Oper→Nat→Option Tmp
 | [],_=>none
 |o::_,0=>o.dst
 |_::l,n+1=>ze4 l n
def zi9 (C:Ctx) (Γ:List Con) (all:List Oper) (fr:List SV) (hp:List HO) (o:Oper) (k:List SV→List HO→Option R):Option R:=
 bif isEffX C all o then zhj C Γ fr hp o.op fun s hp=>zcn fr o.dst s fun fr=>za2 hp fr fun fr=>k fr hp
 else jZ C fr hp o.op fun s=>zth hp s fun s=>zcn fr o.dst s fun fr=>k fr hp
def zd0 (C:Ctx) (Γ:List Con) (all:List Oper):List Oper→List SV→List HO→(List SV→List HO→Option R)→Option R
 | [],fr,hp,k=>k fr hp
 |o::os,fr,hp,k=>match o.guard with
  |none=>zi9 C Γ all fr hp o fun fr hp=>zd0 C Γ all os fr hp k
  |some (j,want)=>(match ze4 all j with
   |none=>none
   |some d=>qv fr d fun s=>(match s with
    | .bit b=>bif b==want then zi9 C Γ all fr hp o fun fr hp=>zd0 C Γ all os fr hp k else zcn fr o.dst .skip fun fr=>zd0 C Γ all os fr hp k
    | .skip=>zcn fr o.dst .skip fun fr=>zd0 C Γ all os fr hp k
    | .val .bool c=>(if c=true
     then jx fr d (.bit true) fun fr=>(bif want then zi9 C Γ all fr hp o fun fr hp=>zd0 C Γ all os fr hp k else zcn fr o.dst .skip fun fr=>zd0 C Γ all os fr hp k)
     else jx fr d (.bit false) fun fr=>(bif want then zcn fr o.dst .skip fun fr=>zd0 C Γ all os fr hp k else zi9 C Γ all fr hp o fun fr hp=>zd0 C Γ all os fr hp k))
    |_=>none))
def Ty.plain:Ty→Bool
 | .sl _| .osl _| .arr _ _=>false
 | .pair a b=>a.plain&&b.plain
 | .st f=>f.plain
 |_=>true
def zav:List Sh→Bool
 | []=>true
 | .hole t::l=>t.plain&&(t.isAgg||Nat.beq t.size 1)&&zav l
 |_::_=>false
def zmb (c:Con):Bool:=(match c.sig.ins.objs,c.sig.outs.objs with| [], []=>true|_,_=>false)&&zav c.sig.outs.slots
def zun (c:Con) (args:List SV) (hp:List HO) (k:SV→Option R):Option R:=
 bif zmb c then zrl 0 c.sig.ins args hp fun ds _ _=>zbd c.sig.ins.tys ds fun x=>
  (c.F x).bind fun r=>zu [] c.sig.outs.slots (qB _ r) fun vs _=>k (zp5 vs)
 else none
def zal (C:Ctx) (Γ:List Con) (fr:List SV) (hp:List HO) (o:Oper) (k:List SV→Option R):Option R:=
 match o.op with
 | .call { callee:= .value x,args, .. }=>zbi C Γ fr x args.toList fun c vs=>zun c vs hp fun s=>zcn fr o.dst s k
 |op=>bif zfc op then none else jZ C fr hp op fun s=>zcn fr o.dst s k
def xq (C:Ctx) (Γ:List Con) (all:List Oper):List Oper→List SV→List HO→(List SV→Option R)→Option R
 | [],fr,_,k=>k fr
 |o::os,fr,hp,k=>match o.guard with
  |none=>zal C Γ fr hp o fun fr=>xq C Γ all os fr hp k
  |some (j,want)=>(match ze4 all j with
   |none=>none
   |some d=>qv fr d fun s=>(match s with
    | .bit b=>bif b==want then zal C Γ fr hp o fun fr=>xq C Γ all os fr hp k else zcn fr o.dst .skip fun fr=>xq C Γ all os fr hp k
    | .skip=>zcn fr o.dst .skip fun fr=>xq C Γ all os fr hp k
    | .val .bool c=>(if c=true
     then jx fr d (.bit true) fun fr=>(bif want then zal C Γ fr hp o fun fr=>xq C Γ all os fr hp k else zcn fr o.dst .skip fun fr=>xq C Γ all os fr hp k)
     else jx fr d (.bit false) fun fr=>(bif want then zcn fr o.dst .skip fun fr=>xq C Γ all os fr hp k else zal C Γ fr hp o fun fr=>xq C Γ all os fr hp k))
    |_=>none))
mutual
def SV.isD:SV→Bool
 | .val _ _| .bit _| .ub _ _| .nils| .nil0| .nilp| .und| .skip| .ro _ _=>true
 | .agg l=>ztn l
 | .tup l=>ztn l
 | .fn _ l=>ztn l
 |_=>false
def ztn:List SV→Bool
 | []=>true
 |s::l=>s.isD&&ztn l
end
def z2i (s:SV) (hp:List HO) (k:SV→List HO→Option R):Option R:=
 match s with
 | .own id len=>qv hp id fun o=>(match o with
  | .arr _ t xs=>bif t.noOwn then jx hp id (.fro t xs) fun hp=>k (.val (.sl t) (zJ xs len)) hp else jx hp id (.fro t.er (xs.map t.erD)) fun hp=>k (.val (.sl t.er) (zJ (xs.map t.erD) len)) hp
  | .fro t xs=>k (.val (.sl t) (zJ xs len)) hp
  |_=>none)
 |s=>k s hp
def z2h:List SV→List HO→(List SV→List HO→Option R)→Option R
 | [],hp,k=>k [] hp
 |s::l,hp,k=>z2i s hp fun s hp=>z2h l hp fun l hp=>k (s::l) hp
def z1f (s:SV) (hp:List HO) (k:SV→List HO→Option R):Option R:=
 match s with
 | .tup l=>z2h l hp fun l hp=>k (.tup l) hp
 |s=>z2i s hp k
def zex {α:Type} (x:Option α) (k:α→Option R):Option R:=
 match x with
 |some x=>k x
 |none=>none
def zN:Nat→Nat→List Nat
 |0,_=> []
 |n+1,i=>i::zN n (i+1)
def z2r (c:Con) (args:List SV):Option (Tup c.sig.ins.tys):=zrl (R:=Tup c.sig.ins.tys) 0 c.sig.ins args [] fun ds _ _=>zbd c.sig.ins.tys ds some
def zvk (c:Con):Bool:=match c.sig.ins.objs with
 | []=>true
 |_=>false
def zqv (c:Con) (args:List SV) (k:SV→Option R):Option R:=
 bif zvk c&&ztn args then zex (z2r c args) fun x=>(c.F x).bind fun y=>build (zN c.sig.outs.objs.length 0) c.sig.outs (qB _ y) fun vs hos=>
  zex (z1f (zp5 vs) hos fun s _=>some s) fun s=>bif s.isD then k s else none
 else none
def z2l (C:Ctx) (Γ:List Con) (fr:List SV) (hp:List HO) (o:Oper) (k:SV→Option R):Option R:=
 match o.op with
 | .call { callee:= .value x,args, .. }=>zbi C Γ fr x args.toList fun c vs=>zqv c vs k
 |op=>bif zfc op then(bif ztn fr then zex (zhj C Γ fr [] op fun s hp'=>z1f s hp' fun s _=>some s) fun s=>bif s.isD then k s else none else none)
  else jZ C fr hp op k
def qN:List Operand→List Tmp
 | []=> []
 | .tmp t::l=>t::qN l
 |_::l=>qN l
def zim (fr:List SV):List SV→List Tmp→(List SV→Option R)→Option R
 |u, [],k=>k u
 |u,t::ts,k=>qv fr t fun s=>jx u t s fun u=>zim fr u ts k
def zyw:List SV→List SV
 | []=> []
 |_::l=> .und::zyw l
def evD (C:Ctx) (Γ:List Con) (fr:List SV) (hp:List HO) (o:Oper) (k:SV→Option R):Option R:=
 zim fr (zyw fr) (qN o.op.operands.toList) fun fr'=>z2l C Γ fr' hp o k
def zao:List Oper→Nat→Bool
 | [],_=>false
 |o::l,i=>(match o.guard with
  |some (j,_)=>Nat.beq j i
  |none=>false)||zao l i
def zf5 (g:Bool) (s:SV) (k:SV→Option R):Option R:=
 match g,s with
 |true, .val .bool c=>if c=true then k (.bit true) else k (.bit false)
 |_,s=>k s
def zbu (C:Ctx) (Γ:List Con) (all:List Oper):Nat→List Oper→List SV→List HO→(List SV→Option R)→Option R
 |_, [],fr,_,k=>k fr
 |i,o::os,fr,hp,k=>match o.guard with
  |none=>evD C Γ fr hp o fun s=>zf5 (zao all i) s fun s=>zcn fr o.dst s fun fr=>zbu C Γ all (i+1) os fr hp k
  |some (j,want)=>(match ze4 all j with
   |none=>none
   |some d=>qv fr d fun s=>(match s with
    | .bit b=>bif b==want then evD C Γ fr hp o fun s=>zf5 (zao all i) s fun s=>zcn fr o.dst s fun fr=>zbu C Γ all (i+1) os fr hp k
     else zcn fr o.dst .skip fun fr=>zbu C Γ all (i+1) os fr hp k
    | .skip=>zcn fr o.dst .skip fun fr=>zbu C Γ all (i+1) os fr hp k
    |_=>none))
def jv:List Oper→Nat→Tmp→Option Nat
 | [],_,_=>none
 |o::l,i,t=>match o.dst with
  |some d=>bif Nat.beq d t then some i else jv l (i+1) t
  |none=>jv l (i+1) t
def zr (all:List Oper) (o:Oper):List Tmp:=
 match o.guard with
 |none=>qN o.op.operands.toList
 |some (j,_)=>match ze4 all j with
  |some d=>d::qN o.op.operands.toList
  |none=>qN o.op.operands.toList
def zqg (i:Nat):List Edge→Bool
 | []=>false
 |e::l=>(Region.binds .any e&&Nat.beq e.on i)||zqg i l
def ziy (all:List Oper) (o:Oper) (j:Nat):List Tmp→Bool
 | []=>true
 |t::l=>(match jv all 0 t with
  |none=>true
  |some i=>Nat.ble (i+1) j&&zqg i o.after.toList)&&ziy all o j l
def zbp (j:Nat):List Edge→Bool
 | []=>true
 |e::l=>(!Region.binds .any e||Nat.ble (e.on+1) j)&&zbp j l
def zP (all:List Oper):Nat→List Oper→Bool
 |_, []=>true
 |j,o::os=>(match o.dst with
   |some d=>(match jv all 0 d with
    |some i=>Nat.beq i j
    |none=>false)
   |none=>true)&&(zbp j o.after.toList&&(ziy all o j (zr all o)&&zP all (j+1) os))
def zlh (ops:Array Oper):Bool:=zP ops.toList 0 ops.toList
def zz9:List Nat→List HO→(List HO→Option R)→Option R
 | [],hp,k=>k hp
 |i::l,hp,k=>bif Nat.ble 1000000 i then qv hp (i - 1000000) fun o=>(match o with
  | .arr T t xs=>bif t.noOwn then jx hp (i - 1000000) (.tk T t xs) fun hp=>zz9 l hp k else none
  |_=>none) else qv hp i fun o=>(match o with
  | .arr _ t xs=>bif t.noOwn then jx hp i (.fro t xs) fun hp=>zz9 l hp k else jx hp i (.fro t.er (xs.map t.erD)) fun hp=>zz9 l hp k
  |_=>none)
def zi2:List Nat→List Nat→List Nat
 | [],m=>m
 |t::l,m=>t::zi2 l m
mutual
def SV.ids:SV→List Nat
 | .own i _=> [i]
 | .ptr i _=> [i]
 | .elt i _ _ _=> [i]
 | .vw i _ _ _=> [i]
 | .mp i=> [i]
 | .agg l=>zc0 l
 | .tup l=>zc0 l
 | .fn _ l=>zc0 l
 |_=> []
def zc0:List SV→List Nat
 | []=> []
 |s::l=>zi2 s.ids (zc0 l)
end
def memN (n:Nat):List Nat→Bool
 | []=>false
 |m::l=>bif Nat.beq n m then true else memN n l
def zf3 (hp:List HO):Nat→List Nat→List Nat→(List Nat→Option R)→Option R
 |0,_,seen,k=>k seen
 |_+1, [],seen,k=>k seen
 |n+1,i::todo,seen,k=>bif memN i seen then zf3 hp n todo seen k else(match hp[i]? with
  |some (.cells l)=>zf3 hp n (zi2 (zc0 l) todo) (i::seen) k
  |_=>zf3 hp n todo (i::seen) k)
def zpy (T:List Nat):Nat→List HO→(List HO→Option R)→Option R
 |_, [],k=>k []
 |i,o::l,k=>bif memN i T then zpy T (i+1) l fun l=>k (o::l) else zpy T (i+1) l fun l=>k (.gone::l)
def Ty.weak:(t:Ty)→t.den→t.den
 | .osl _,x=>(false,x.2)
 | .arr _ e,xs=>xs.map e.weak
 | .pair a b,x=>(a.weak x.1,b.weak x.2)
 | .st f,x=>f.weak x
 | .int _,x=>x
 | .bool,x=>x
 | .str,x=>x
 | .flt,x=>x
 | .cplx,x=>x
 | .unit,x=>x
 | .sl _,x=>x
def HO.weak:HO→HO
 | .arr T t xs=>bif t.noOwn then .arr T t xs else .arr T t (xs.map (Ty.weak t))
 |o=>o
def zwi:List HO→(List HO→Option R)→Option R
 | [],k=>k []
 |o::l,k=>zwi l fun l=>k (o.weak::l)
def zqf (mv:Bool) (T new:List Nat):List Nat:=bif mv then new else zi2 T new
def zkb (T:List Nat):Nat→List HO→List HO→(List HO→Option R)→Option R
 |_, [],l',k=>k l'
 |i,o::l,o'::l',k=>bif memN i T then zkb T (i+1) l l' fun l=>k (o'::l) else zkb T (i+1) l l' fun l=>k (o::l)
 |_,_::_, [],_=>none
def zxs:Nat→List HO→(List HO→Option R)→Option R
 |0,l,k=>k l
 |n+1, [],k=>zxs n [] fun l=>k (.gone::l)
 |n+1,o::l,k=>zxs n l fun l=>k (o::l)
def bitN (b i:Nat):Bool:=Nat.beq (Nat.land (Nat.shiftRight b i) 1) 1
def apartN:List Nat→List Nat→Bool
 | [],_=>true
 |i::l,m=>bif memN i m then false else apartN l m
def okC (anc:Nat) (T:List Nat):List (Nat×List Nat)→Bool
 | []=>true
 |(m,U)::l=>(bitN anc m||apartN T U)&&okC anc T l
def zyt:Op→Bool
 | .load _ _| .slice _ _ _ _ _| .indexAddr _ _ _| .lookup _ _ _ _=>true
 | .call _=>true
 |_=>false
def xC:Nat→Nat→List Nat
 |_,0=> []
 |i,n+1=>i::xC (i+1) n
def nthN:List Nat→Nat→Nat
 | [],_=>0
 |x::_,0=>x
 |_::l,n+1=>nthN l n
structure Acc where
 hp:List HO
 cs:List (Nat×List Nat)
 ps:List (Nat×List Nat)
def zpi (C:Ctx) (Γ:List Con) (fr:List SV) (op:Op) (k:SV→Option R):Option R:=
 match op with
 | .call { callee:= .value x,args, .. }=>zbi C Γ fr x args.toList fun c vs=>zqv c vs k
 |op=>bif ztn fr then zex (zhj C Γ fr [] op fun s hp'=>z1f s hp' fun s _=>some s) fun s=>bif s.isD then k s else none else none
def zx8:List Nat→List Nat→Bool
 | [],_=>true
 |i::l,m=>bif memN i m then zx8 l m else false
def za7:List HO→List Nat
 | []=> []
 | .cells l::os=>zi2 (zc0 l) (za7 os)
 |_::os=>za7 os
def zrs (c:Con):Bool:=zvk c&&((match c.sig.outs.objs with| []=>true|_=>false)&&(xG c.sig.outs.slots&&zms 0 c.sig.outs.slots))
def znw (C:Ctx) (Γ:List Con) (fr:List SV) (op:Op):Bool:=
 match op with
 | .call { callee:= .value x,args, .. }=>(match zbi C Γ fr x args.toList fun c _=>some (zrs c) with
  |some b=>b
  |none=>false)
 |_=>false
def zum (c:Con) (args:List SV) (hp:List HO) (k:SV→Option R):Option R:=
 bif zrs c then zrl 0 c.sig.ins args hp fun ds _ _=>zbd c.sig.ins.tys ds fun x=>(c.F x).bind fun y=>zu [] c.sig.outs.slots (qB _ y) fun vs _=>k (zp5 vs) else none
def zul (C:Ctx) (Γ:List Con) (fr:List SV) (hp:List HO) (op:Op) (k:SV→Option R):Option R:=
 match op with
 | .call { callee:= .value x,args, .. }=>zbi C Γ fr x args.toList fun c vs=>zum c vs hp k
 |_=>none
def z2k (hp:List HO) (fr:List SV) (op:Op) (k:List Nat→Option R):Option R:=
 match op with
 | .store _ (.tmp a) _=>(match fr[a]? with
  |some (.ptr id _)=>k [id]
  |_=>zf3 hp 1000 (zc0 fr) [] k)
 |_=>zf3 hp 1000 (zc0 fr) [] k
def evE (C:Ctx) (Γ:List Con) (all:List Oper) (N:Nat) (fl:List Nat) (a i:Nat) (fr:List SV) (h:Acc) (o:Oper) (k:SV→Acc→Option R):Option R:=
 zim fr (zyw fr) (qN o.op.operands.toList) fun fr'=>
  bif isEffX C all o then
   (bif znw C Γ fr' o.op then zf3 h.hp 1000 (zc0 fr') [] fun T=>bif okC a T h.cs then zpy T 0 h.hp fun hm=>zxs N hm fun hm=>zwi hm fun hm=>za2 hm fr' fun fr2=>zul C Γ fr2 hm o.op fun s=>
    bif zx8 s.ids [] then k s { h with ps:=(i,T)::h.ps} else none else none
   else bif memN i fl then zpi C Γ fr' o.op fun s=>k s h
   else z2k h.hp fr' o.op fun T=>zpy T 0 h.hp fun hm=>za2 hm fr' fun fr'=>zhj C Γ fr' hm o.op fun s hp'=>
    bif Nat.ble h.hp.length hp'.length&&(Nat.ble hp'.length N&&okC a (zqf (!zfc o.op) T (xC h.hp.length (hp'.length - h.hp.length))) h.ps) then
     zkb T 0 h.hp hp' fun hp2=>k s { h with hp:=hp2,cs:=(i,zqf (!zfc o.op) T (xC h.hp.length (hp'.length - h.hp.length)))::h.cs} else none)
  else bif zyt o.op then
   (bif okC a (zc0 fr') h.cs then zpy (zc0 fr') 0 h.hp fun hm=>zxs N hm fun hm=>zwi hm fun hm=>za2 hm fr' fun fr2=>jZ C fr2 hm o.op fun s=>
    bif zx8 s.ids (zi2 (zc0 fr') (za7 hm)) then k s { h with ps:=(i,zc0 fr')::h.ps} else none else none)
  else zxs N [] fun hm=>jZ C fr' hm o.op fun s=>bif zx8 s.ids (zc0 fr') then k s h else none
def xp (C:Ctx) (Γ:List Con) (all:List Oper) (N:Nat) (fl anc:List Nat):Nat→List Oper→List SV→Acc→(List SV→List HO→Option R)→Option R
 |_, [],fr,h,k=>za2 h.hp fr fun fr=>k fr h.hp
 |i,o::os,fr,h,k=>match o.guard with
  |none=>evE C Γ all N fl (nthN anc i) i fr h o fun s h=>zf5 (zao all i) s fun s=>zcn fr o.dst s fun fr=>xp C Γ all N fl anc (i+1) os fr h k
  |some (j,want)=>(match ze4 all j with
   |none=>none
   |some d=>qv fr d fun s=>(match s with
    | .bit b=>bif b==want then evE C Γ all N fl (nthN anc i) i fr h o fun s h=>zf5 (zao all i) s fun s=>zcn fr o.dst s fun fr=>xp C Γ all N fl anc (i+1) os fr h k
     else zcn fr o.dst .skip fun fr=>xp C Γ all N fl anc (i+1) os fr h k
    | .skip=>zcn fr o.dst .skip fun fr=>xp C Γ all N fl anc (i+1) os fr h k
    |_=>none))
def zmy (anc:List Nat):List Edge→Nat
 | []=>0
 |e::l=>bif Region.binds .any e then Nat.lor (Nat.lor (Nat.shiftLeft 1 e.on) (nthN anc e.on)) (zmy anc l) else zmy anc l
def zr3 (anc:List Nat):Nat→List Oper→Bool
 |_, []=>true
 |j,o::os=>Nat.beq (nthN anc j) (zmy anc o.after.toList)&&zr3 anc (j+1) os
def ze1 (C:Ctx) (all:List Oper) (fl anc:List Nat):Nat→Option Nat→List Oper→Bool
 |_,_, []=>true
 |j,p,o::os=>bif isEffX C all o&& !memN j fl then(match p with
   |none=>true
   |some i=>bitN (nthN anc j) i)&&ze1 C all fl anc (j+1) (some j) os
  else ze1 C all fl anc (j+1) p os
def zow (C:Ctx) (fl anc:List Nat) (ops:Array Oper):Bool:=zlh ops&&(zr3 anc 0 ops.toList&&ze1 C ops.toList fl anc 0 none ops.toList)
def zbe (f:Nat):Nat→List Oper→List Oper
 |_, []=> []
 |0,o::l=>{ o with after:=(o.after.toList++ [(Edge.mk f Ground.data)]).toArray}::l
 |n+1,o::l=>o::zbe f n l
def z2w (inv:List Nat) (e:Edge):Edge:=Edge.mk (nthN inv e.on) e.ground
def renO (inv:List Nat) (o:Oper):Oper:={ o with after:=(o.after.toList.map (z2w inv)).toArray,guard:=o.guard.map fun p=>(nthN inv p.1,p.2)}
def zdj (inv:List Nat) (l:List Oper) (perm:List Nat):List Oper:=perm.map fun i=>renO inv (l.getD i default)
def zs4 (n:Nat) (perm inv:List Nat):Bool:=
 Nat.beq perm.length n&&((List.range n).all fun i=>Nat.ble (nthN inv i+1) n&&(Nat.beq (nthN perm (nthN inv i)) i&&(Nat.ble (nthN perm i+1) n&&Nat.beq (nthN inv (nthN perm i)) i)))
def zhe (n:Nat) (l:List Oper):Bool:=l.all fun o=>(o.after.toList.all fun e=> !Region.binds .any e||Nat.ble (e.on+1) n)&&(match o.guard with
 |none=>true
 |some (j,_)=>Nat.ble (j+1) n)
def zg4 (o:Oper):Bool:=
 match o.op with
 | .move _=>true
 | .assign _=>true
 | .makeSlice _ _ _=>true
 | .call { callee:= .builtin .len, .. }=>true
 |_=>false
def zo7 (f g:Nat):Nat→List Oper→Bool
 |_, []=>true
 |j,o::l=>(Nat.beq j f||Nat.beq j g||zg4 o)&&zo7 f g (j+1) l
def zn0:List Oper→Option (List Oper×Oper)
 | []=>none
 | [o]=>some ([],o)
 |o::p::l=>match zn0 (p::l) with
  |some (b,q)=>some (o::b,q)
  |none=>none
def zv8:Nat→Oper→Bool
 |0,_=>true
 |m+1,o=>zqg m o.after.toList&&zv8 m o
def zd8 (n:Nat):List Oper→Bool
 | []=>true
 |o::l=>(match o.guard with
  |some (j,_)=>Nat.ble (j+1) n
  |none=>true)&&zd8 n l
def zy3 (C:Ctx) (fl anc:List Nat) (b:List Oper) (o:Oper):Bool:=zow C fl anc b.toArray&&(zv8 b.length o&&(o.guard.isNone&&(zd8 b.length b&&zbp b.length o.after.toList)))
inductive Lv where
 |normal
 |exit (id:Nat)
 |ret
 |goto (l:Nat)
def Lv.same:Lv→Lv→Bool
 | .normal, .normal=>true
 | .exit i, .exit j=>Nat.beq i j
 | .ret, .ret=>true
 | .goto i, .goto j=>Nat.beq i j
 |_,_=>false
structure Jn where
 lv:Lv
 tmps:List (Nat×Sh)
 objs:List OSh
def Jn.skel (j:Jn):Skel:={ slots:=j.tmps.map (·.2),objs:=j.objs}
@[reducible] def zmp:List Jn→Type
 | []=>Empty
 | [j]=>Tup j.skel.tys
 |j::i::l=>Tup j.skel.tys ⊕ zmp (i::l)
inductive Ann where
 |leaf
 |tail (n:Nat)
 |seq (a b:Ann)
 |cond (a b:Ann)
 |block (a:Ann)
 |loop (hd:Jn) (js:List Jn) (a:Ann)
 |join (js:List Jn) (a:Ann)
 |draw
 |fro (ids:List Nat) (a:Ann)
 |eff (N:Nat) (fl anc:List Nat)
 |effl (N:Nat) (fl anc:List Nat)
 |eff2 (f g N:Nat) (an1 an2 perm inv:List Nat)
 |scope (l:Nat) (hd:Jn) (js:List Jn) (a b:Ann)
def zxb (fr:List SV):List (Nat×Sh)→(List SV→Option R)→Option R
 | [],k=>k []
 |(t,_)::l,k=>qv fr t fun s=>zxb fr l fun ss=>k (s::ss)
def lay (fr:List SV):List (Nat×Sh)→List SV→(List SV→Option R)→Option R
 | [],_,k=>k fr
 |(t,_)::l,s::ss,k=>jx fr t s fun fr=>lay fr l ss k
 |_::_, [],_=>none
def zj4 (fr:List SV):List Tmp→(List SV→Option R)→Option R
 | [],k=>k fr
 |t::l,k=>jx fr t .und fun fr=>zj4 fr l k
def opsDst:List Oper→List Tmp
 | []=> []
 |o::l=>match o.dst with
  |some t=>t::opsDst l
  |none=>opsDst l
def asg:Code→List Tmp
 | .region _ ops _=>opsDst ops.toList
 | .seq a b=>zi2 (asg a) (asg b)
 | .cond (.tmp t) a b=>t::zi2 (asg a) (asg b)
 | .cond _ a b=>zi2 (asg a) (asg b)
 | .block _ c=>asg c
 | .loop c=>asg c
 | .scope c=>asg c
 | .rangeFunc _ ps a c=>zi2 ps.toList (zi2 (asg a) (asg c))
 |_=> []
def zei (n0:Nat) (j:Jn) (fr:List SV) (hp:List HO) (k:Tup j.skel.tys→Option R):Option R:=
 bif Nat.ble n0 j.objs.length then zxb fr j.tmps fun vs=>zrl n0 j.skel vs hp fun ds _ _=>zbd j.skel.tys ds k else none
def zl6 (j:Jn) (fr:List SV) (x:Tup j.skel.tys) (k:List SV→List HO→Option R):Option R:=
 build (zN j.objs.length 0) j.skel (qB _ x) fun vs hos=>lay fr j.tmps vs fun fr=>k fr hos
def zX (n0:Nat):(js:List Jn)→Lv→List SV→List HO→(zmp js→Option R)→Option R
 | [],_,_,_,_=>none
 | [j],lv,fr,hp,k=>bif j.lv.same lv then zex (zei n0 j fr hp some) k else none
 |j::i::l,lv,fr,hp,k=>bif j.lv.same lv then zex (zei n0 j fr hp some) fun x=>k (.inl x) else zX n0 (i::l) lv fr hp fun x=>k (.inr x)
structure Ks (R:Type) where
 n:List SV→List HO→Option R
 e:Nat→List SV→List HO→Option R
 r:List SV→List HO→Option R
 g:Nat→List SV→List HO→Option R:=fun _ _ _=>none
def Ks.at (K:Ks R):Lv→List SV→List HO→Option R
 | .normal=>K.n
 | .exit i=>K.e i
 | .ret=>K.r
 | .goto l=>K.g l
def z1g (K:Ks R) (fr:List SV):(js:List Jn)→zmp js→Option R
 | [],_=>none
 | [j],x=>zl6 j fr x (K.at j.lv)
 |j::i::l,x=>Sum.elim (fun x=>zl6 j fr x (K.at j.lv)) (fun x=>z1g K fr (i::l) x) x
def xe {S E:Type} (f:S→Option (S ⊕ E)):Nat→S→Option E
 |0,_=>none
 |n+1,s=>match f s with
  |none=>none
  |some (.inl s')=>xe f n s'
  |some (.inr e)=>some e
open Classical in
noncomputable def iter {S E:Type} (f:S→Option (S ⊕ E)) (s:S):Option E:=
 if h: ∃ n e,xe f n s=some e then xe f h.choose s else none
open Classical in
noncomputable def agree {R:Type} (x y:Option R):Option R:=if x=y then x else none
theorem jR {R:Type} {x y:Option R} {r:R} (h:agree x y=some r):x=some r∧y=some r:=by
 unfold agree at h
 split at h
 case isTrue e=>exact⟨h,e▸h⟩
 case isFalse=>cases h
noncomputable def run (C:Ctx) (Γ:List Con):Ann→{R:Type}→Code→List SV→List HO→Ks R→Option R
 | .leaf,_, .skip,fr,hp,K=>K.n fr hp
 | .leaf,_, .exit i,fr,hp,K=>K.e i fr hp
 | .leaf,_, .ret,fr,hp,K=>K.r fr hp
 | .leaf,_, .label _,fr,hp,K=>K.n fr hp
 | .leaf,_, .goto l,fr,hp,K=>K.g l fr hp
 | .leaf,_, .region _ ops false,fr,hp,K=>zd0 C Γ ops.toList ops.toList fr hp K.n
 | .leaf,_, .region _ ops true,fr,hp,K=>bif Region.lexB .any ops then xq C Γ ops.toList ops.toList fr hp fun fr=>K.n fr hp else none
 | .tail n,_, .region _ ops true,fr,hp,K=>bif Region.lexTailB .any ops n then xq C [] ops.toList (ops.toList.take n) fr hp fun fr=>zd0 C Γ ops.toList (ops.toList.drop n) fr hp K.n else none
 | .draw,_, .region _ ops true,fr,hp,K=>bif zlh ops then zbu C Γ ops.toList 0 ops.toList fr hp fun fr=>K.n fr hp else none
 | .eff N fl anc,_, .region _ ops true,fr,hp,K=>bif zow C fl anc ops&&Nat.ble hp.length N then xp C Γ ops.toList N fl anc 0 ops.toList fr ⟨hp, [], []⟩ K.n else none
 | .eff2 f g N an1 an2 perm inv,_, .region _ ops true,fr,hp,K=>bif !Nat.beq f g&&(zo7 f g 0 ops.toList&&(zs4 ops.size perm inv&&(zhe ops.size (zbe g f ops.toList)&&(zow C [] an1 (zbe f g ops.toList).toArray&&(zow C [] an2 (zdj inv (zbe g f ops.toList) perm).toArray&&Nat.ble hp.length N))))) then
   agree (xp C Γ (zbe f g ops.toList) N [] an1 0 (zbe f g ops.toList) fr ⟨hp, [], []⟩ K.n) (xp C Γ (zdj inv (zbe g f ops.toList) perm) N [] an2 0 (zdj inv (zbe g f ops.toList) perm) fr ⟨hp, [], []⟩ K.n) else none
 | .effl N fl anc,_, .region _ ops true,fr,hp,K=>(match zn0 ops.toList with
  |some (b,o)=>bif zy3 C fl anc b o&&Nat.ble hp.length N then(xp C Γ b N fl anc 0 b fr ⟨hp, [], []⟩ fun fr hp=>zi9 C Γ ops.toList fr hp o K.n) else none
  |none=>none)
 | .fro ids a,_,x,fr,hp,K=>zz9 ids hp fun hp=>za2 hp fr fun fr=>run C Γ a x fr hp K
 | .seq a b,_, .seq x y,fr,hp,K=>run C Γ a x fr hp { K with n:=fun fr hp=>run C Γ b y fr hp K}
 | .cond a b,_, .cond c x y,fr,hp,K=>(match c with
  | .tmp t=>qv fr t fun s=>(match s with
   | .bit true=>run C Γ a x fr hp K
   | .bit false=>run C Γ b y fr hp K
   | .val .bool c=>if c=true then jx fr t (.bit true) fun fr=>run C Γ a x fr hp K else jx fr t (.bit false) fun fr=>run C Γ b y fr hp K
   | .ub true c=>if c=true then agree (jx fr t (.bit true) fun fr=>run C Γ a x fr hp K) (jx fr t (.bit false) fun fr=>run C Γ b y fr hp K) else jx fr t (.bit false) fun fr=>run C Γ b y fr hp K
   | .ub false c=>if c=true then agree (jx fr t (.bit true) fun fr=>run C Γ a x fr hp K) (jx fr t (.bit false) fun fr=>run C Γ b y fr hp K) else jx fr t (.bit true) fun fr=>run C Γ a x fr hp K
   |_=>none)
  | .const (.bool true)=>run C Γ a x fr hp K
  | .const (.bool false)=>run C Γ b y fr hp K
  |_=>none)
 | .block a,_, .block i x,fr,hp,K=>run C Γ a x fr hp { K with e:=fun j fr hp=>bif Nat.beq j i then K.n fr hp else K.e j fr hp}
 | .block a,_, .scope x,fr,hp,K=>run C Γ a x fr hp { K with g:=fun _ _ _=>none}
 | .join js a,_,x,fr,hp,K=>zj4 fr (asg x) fun fr0=>
   (run C Γ a (R:=zmp js) x fr hp
    {n:=fun fr hp'=>zX hp.length js .normal fr hp' some,e:=fun i fr hp'=>zX hp.length js (.exit i) fr hp' some,r:=fun fr hp'=>zX hp.length js .ret fr hp' some,g:=fun i fr hp'=>zX hp.length js (.goto i) fr hp' some}).bind (z1g K fr0 js)
 | .loop hd js a,_, .loop x,fr,hp,K=>zj4 fr (asg x) fun fr0=>zex (zei hp.length hd fr hp some) fun s0=>
   (iter (fun s:Tup hd.skel.tys=>zl6 hd fr0 s fun fr hp1=>run C Γ a (R:=Tup hd.skel.tys ⊕ zmp js) x fr hp1
    {n:=fun fr hp'=>zex (zei hp.length hd fr hp' some) fun s=>some (.inl s)
     e:=fun i fr hp'=>zX hp.length js (.exit i) fr hp' fun e=>some (.inr e)
     r:=fun fr hp'=>zX hp.length js .ret fr hp' fun e=>some (.inr e)
     g:=fun i fr hp'=>zX hp.length js (.goto i) fr hp' fun e=>some (.inr e)}) s0).bind (z1g K fr0 js)
 | .scope l hd js a b,_, .scope x,fr,hp,K=>(match findLabel x l with
  |none=>none
  |some rest=>zj4 fr (asg x) fun fr0=>
   ((run C Γ a (R:=Tup hd.skel.tys ⊕ zmp js) x fr hp
     {n:=fun fr hp'=>zX hp.length js .normal fr hp' fun e=>some (.inr e)
      e:=fun i fr hp'=>zX hp.length js (.exit i) fr hp' fun e=>some (.inr e)
      r:=fun fr hp'=>zX hp.length js .ret fr hp' fun e=>some (.inr e)
      g:=fun i fr hp'=>bif Nat.beq i l then zex (zei hp.length hd fr hp' some) fun s=>some (.inl s) else none}).bind
     (Sum.elim (fun s0=>iter (fun s:Tup hd.skel.tys=>zl6 hd fr0 s fun fr hp1=>run C Γ b (R:=Tup hd.skel.tys ⊕ zmp js) rest fr hp1
      {n:=fun fr hp'=>zX hp.length js .normal fr hp' fun e=>some (.inr e)
       e:=fun i fr hp'=>zX hp.length js (.exit i) fr hp' fun e=>some (.inr e)
       r:=fun fr hp'=>zX hp.length js .ret fr hp' fun e=>some (.inr e)
       g:=fun i fr hp'=>bif Nat.beq i l then zex (zei hp.length hd fr hp' some) fun s=>some (.inl s) else none}) s0) some)).bind (z1g K fr0 js))
 |_,_,_,_,_,_=>none
def zdk (C:Ctx) (hp:List HO) (fr:List SV):List ResultVar→(List SV→Option R)→Option R
 | [],k=>k []
 | .tmp t::l,k=>qv fr t fun s=>zdk C hp fr l fun ss=>k (s::ss)
 | .cell a T::l,k=>qv fr a fun s=>zt C.TT T fun i=>xF i hp s fun s=>zdk C hp fr l fun ss=>k (s::ss)
noncomputable def zj (C:Ctx) (Γ:List Con) (sg:Sig) (a:Ann) (fn:Func) (x:Tup sg.ins.tys):Option (Tup sg.outs.tys):=
 match fn.body with
 |none=>none
 |some c=>build (zN sg.ins.objs.length 0) sg.ins (qB _ x) fun vs hos=>
   let ret:=fun(fr:List SV) (hp:List HO)=>zdk C hp fr fn.results.toList fun rs=>zrl sg.ins.objs.length sg.outs rs hp fun ds _ _=>zbd sg.outs.tys ds some
   zxx SV.skip (fn.ntmps - vs.length) fun sk=>run C Γ a c (vs++sk) hos { n:=ret,e:=fun _ _ _=>none,r:=ret}
end
end Go.Sx
