/- The symbolic evaluator, part C: shapes, contracts, effects, regions, code (definitions alone). -/
import Derived.Test.YtlppdabhaipbkaaGreatDoorSxB
set_option linter.unusedVariables false
set_option linter.unusedSimpArgs false
namespace Go.Sx
open Go.RowKit
inductive Sh where
 |hole (t:Ty)
 |own (j:Nat)
 |ptr (j off:Nat)
 |nilp
 |und
 |ro (t:Ty)
 |fnc (f:FuncId) (n:Nat)
 |mp (j:Nat)
 |agn (n:Nat)
inductive OSh where
 |gone
 |cells (l:List Sh)
 |arr (T:TypeId) (t:Ty)
 |map (K V:Ty)
def z9:List Sh→List Ty
 | []=> []
 | .hole t::l=>t::z9 l
 | .own _::l=>z9 l
 | .ptr _ _::l=>z9 l
 | .nilp::l=>z9 l
 | .und::l=>z9 l
 | .ro t::l=>t::z9 l
 | .fnc _ _::l=>z9 l
 | .agn _::l=>z9 l
 | .mp _::l=>z9 l
def zms:List Ty→List Ty→List Ty
 | [],m=>m
 |t::l,m=>t::zms l m
def qa:List OSh→List Ty
 | []=> []
 | .gone::l=>qa l
 | .cells s::l=>zms (z9 s) (qa l)
 | .arr _ t::l=> .sl t::qa l
 | .map K V::l=> .sl (.pair K V)::qa l
structure Skel where
 slots:List Sh
 objs:List OSh
def Skel.tys (s:Skel):List Ty:=zms (z9 s.slots) (qa s.objs)
@[reducible] def Tup:List Ty→Type
 | []=>Unit
 | [t]=>t.den
 |t::u::l=>t.den×Tup (u::l)
def qE:(ts:List Ty)→Tup ts→List DV
 | [],_=> []
 | [t],x=> [⟨t,x⟩]
 |t::u::l,x=>⟨t,x.1⟩::qE (u::l) x.2
inductive PM where
 |none
 |nil
 |id (i:Nat) (len:Option Nat)
section
variable {R:Type}
def zbi:(ts:List Ty)→List DV→(Tup ts→Option R)→Option R
 | [], [],k=>k ()
 | [t], [d],k=>if h:d.t=t then k (h▸d.x) else none
 |t::u::l,d::ds,k=>if h:d.t=t then zbi (u::l) ds fun y=>k (h▸d.x,y) else none
 |_,_,_=>none
def PM.same:PM→PM→Bool
 | .nil, .nil=>true
 | .id i Option.none, .id j Option.none=>Nat.beq i j
 |_,_=>false
def jB (mp:List PM) (j:Nat) (p:PM) (k:List PM→Option R):Option R:=
 qv mp j fun q=>match q with
  | .none=>jy mp j p k
  |q=>bif q.same p then k mp else none
def zS:List Sh→List SV→List PM→List HO→(List PM→List DV→List HO→Option R)→Option R
 | [], [],mp,hp,k=>k mp [] hp
 | .hole t::ss,v::vs,mp,hp,k=>zdc t v hp fun x hp=>zS ss vs mp hp fun mp ds hp=>k mp (⟨t,x⟩::ds) hp
 | .own j::ss,v::vs,mp,hp,k=>(match v with
  | .own id len=>jB mp j (.id id len) fun mp=>zS ss vs mp hp k
  | .nils=>jB mp j .nil fun mp=>zS ss vs mp hp k
  |_=>none)
 | .ptr j off::ss,v::vs,mp,hp,k=>(match v with
  | .ptr id o=>bif Nat.beq o off then jB mp j (.id id none) fun mp=>zS ss vs mp hp k else none
  |_=>none)
 | .nilp::ss,v::vs,mp,hp,k=>(match v with
  | .nilp=>zS ss vs mp hp k
  |_=>none)
 | .mp j::ss,v::vs,mp,hp,k=>(match v with
  | .mp id=>jB mp j (.id id none) fun mp=>zS ss vs mp hp k
  |_=>none)
 | .und::ss,_::vs,mp,hp,k=>zS ss vs mp hp k
 | .fnc f n::ss,v::vs,mp,hp,k=>(match v with
  | .fn g l=>bif Nat.beq g f&&Nat.beq l.length n then zS ss (l++vs) mp hp k else none
  |_=>none)
 | .agn n::ss,v::vs,mp,hp,k=>(match v with
  | .agg l=>bif Nat.beq l.length n then zS ss (l++vs) mp hp k else none
  |_=>none)
 | .ro t::ss,v::vs,mp,hp,k=>roF t v hp fun x hp=>zS ss vs mp hp fun mp ds hp=>k mp (⟨t,x⟩::ds) hp
 |_,_,_,_,_=>none
def zrb:List DV→List DV→List DV
 | [],m=>m
 |d::l,m=>d::zrb l m
def xJ:Nat→List OSh→List PM→List HO→(List PM→List DV→List HO→Option R)→Option R
 |_, [],mp,hp,k=>k mp [] hp
 |j, .gone::os,mp,hp,k=>xJ (j+1) os mp hp k
 |j, .cells sl::os,mp,hp,k=>qv mp j fun p=>(match p with
  | .id i none=>qv hp i fun o=>(match o with
   | .cells l=>zS sl l mp hp fun mp ds hp=>xJ (j+1) os mp hp fun mp ds' hp=>k mp (zrb ds ds') hp
   |_=>none)
  |_=>none)
 |j, .arr T t::os,mp,hp,k=>qv mp j fun p=>(match p with
  | .nil=>xJ (j+1) os mp hp fun mp ds hp=>k mp (⟨.sl t, []⟩::ds) hp
  | .id i len=>qv hp i fun o=>(match o with
   | .arr T' t' xs=>bif Nat.beq T' T then(if h:t'=t then xJ (j+1) os mp hp fun mp ds hp=>k mp (⟨.sl t,zL (h▸xs) len⟩::ds) hp else none) else none
   |_=>none)
  | .none=>none)
 |j, .map K V::os,mp,hp,k=>qv mp j fun p=>(match p with
  | .id i none=>qv hp i fun o=>(match o with
   | .map K' V' es=>if h:K'=K∧V'=V then xJ (j+1) os mp hp fun mp ds hp=>k mp (⟨.sl (.pair K V),h.1▸h.2▸es⟩::ds) hp else none
   |_=>none)
  |_=>none)
def zA:List OSh→List PM→List Nat
 | .gone::os,_::mp=>zA os mp
 |_::os, .id i _::mp=>i::zA os mp
 |_::os,_::mp=>zA os mp
 |_,_=> []
def zww (n:Nat):List Nat→Bool
 | []=>true
 |m::l=>bif Nat.beq n m then false else zww n l
def znr:List Nat→Bool
 | []=>true
 |n::l=>zww n l&&znr l
def qW:Nat→Nat→List OSh→List PM
 |_,_, []=> []
 |0,j,_::os=> .none::qW 0 j os
 |n+1,j,_::os=> .id j none::qW n (j+1) os
def zr4:List Nat→List HO→Option R→Option R
 | [],_,x=>x
 |i::l,hp,x=>qv hp i fun o=>bif o.live then zr4 l hp x else none
def zqu (n0:Nat) (sk:Skel) (vs:List SV) (hp:List HO) (k:List DV→List PM→List HO→Option R):Option R:=
 zS sk.slots vs (qW n0 0 sk.objs) hp fun mp ds hp=>xJ 0 sk.objs mp hp fun mp ds' hp=>
  bif znr (zA sk.objs mp) then zr4 (zA sk.objs mp) hp (k (zrb ds ds') mp hp) else none
def qH:List Nat→Nat→Nat
 | [],_=>0
 |x::_,0=>x
 |_::l,n+1=>qH l n
def zr (ρ:List Nat):List Sh→List DV→(List SV→List DV→Option R)→Option R
 | [],ds,k=>k [] ds
 | .hole _::ss,d::ds,k=>zr ρ ss ds fun vs ds=>k (.val d.t d.x::vs) ds
 | .own j::ss,ds,k=>zr ρ ss ds fun vs ds=>k (.own (qH ρ j) none::vs) ds
 | .ptr j off::ss,ds,k=>zr ρ ss ds fun vs ds=>k (.ptr (qH ρ j) off::vs) ds
 | .nilp::ss,ds,k=>zr ρ ss ds fun vs ds=>k (.nilp::vs) ds
 | .mp j::ss,ds,k=>zr ρ ss ds fun vs ds=>k (.mp (qH ρ j)::vs) ds
 | .und::ss,ds,k=>zr ρ ss ds fun vs ds=>k (.und::vs) ds
 | .hole _::_, [],_=>none
 | .fnc f n::ss,ds,k=>zr ρ ss ds fun vs ds=>k (.fn f (vs.take n)::vs.drop n) ds
 | .agn n::ss,ds,k=>zr ρ ss ds fun vs ds=>k (.agg (vs.take n)::vs.drop n) ds
 | .ro _::ss,d::ds,k=>zr ρ ss ds fun vs ds=>k (.ro d.t d.x::vs) ds
 | .ro _::_, [],_=>none
def z5 (ρ:List Nat):List OSh→List DV→(List HO→Option R)→Option R
 | [],_,k=>k []
 | .gone::os,ds,k=>z5 ρ os ds fun hs=>k (.gone::hs)
 | .cells sl::os,ds,k=>zr ρ sl ds fun vs ds=>z5 ρ os ds fun hs=>k (.cells vs::hs)
 | .arr T _::os,d::ds,k=>(match d with
  |⟨.sl e,xs⟩=>z5 ρ os ds fun hs=>k (.arr T e xs::hs)
  |_=>none)
 | .arr _ _::_, [],_=>none
 | .map _ _::os,d::ds,k=>(match d with
  |⟨.sl (.pair K V),es⟩=>z5 ρ os ds fun hs=>k (.map K V es::hs)
  |_=>none)
 | .map _ _::_, [],_=>none
def build (ρ:List Nat) (sk:Skel) (ds:List DV) (k:List SV→List HO→Option R):Option R:=
 zr ρ sk.slots ds fun vs ds=>z5 ρ sk.objs ds fun hs=>k vs hs
structure Sig where
 ins:Skel
 outs:Skel
def xH:List Sh→Bool
 | []=>true
 | .hole t::l=>t.flat&&xH l
 | .ro _::_=>false
 | .fnc _ _::_=>false
 | .agn _::_=>false
 |_::l=>xH l
def zao:List OSh→Bool
 | []=>true
 | .gone::l=>zao l
 | .cells s::l=>xH s&&zao l
 | .arr _ t::l=>t.flat&&zao l
 | .map K V::l=>K.flat&&(V.flat&&zao l)
def Skel.flat (s:Skel):Bool:=xH s.slots&&zao s.objs
structure Con where
 f:FuncId
 sig:Sig
 F:Tup sig.ins.tys→Option (Tup sig.outs.tys)
def zry:List Sh→List SV→Bool
 | .fnc g _::ss,v::vs=>(match v with
  | .fn h l=>Nat.beq g h&&zry ss (l++vs)
  |_=>false)
 | .agn _::ss,v::vs=>(match v with
  | .agg l=>zry ss (l++vs)
  |_=>false)
 | .own _::ss,v::vs=>(match v with
  | .val _ _=>false
  |_=>zry ss vs)
 |_::ss,_::vs=>zry ss vs
 |_,_=>true
def zrl:List Con→FuncId→List SV→(Con→Option R)→Option R
 | [],_,_,_=>none
 |c::l,f,vs,k=>bif Nat.beq c.f f&&zry c.sig.ins.slots vs then k c else zrl l f vs k
def zbn (C:Ctx) (Γ:List Con) (fr:List SV) (x:Operand) (args:List Operand) (k:Con→List SV→Option R):Option R:=
 match x with
 | .func f=>zob C fr args fun vs=>zrl Γ f vs fun c=>k c vs
 |x=>opd C fr x fun s=>(match s with
  | .fn f l=>zob C fr args fun vs=>zrl Γ f (vs++l) fun c=>k c (vs++l)
  |_=>none)
def rho:Nat→List PM→List OSh→List Nat
 |_,_, []=> []
 |b, .id i none::mp,_::os=>i::rho b mp os
 |b,_::mp,_::os=>b::rho (b+1) mp os
 |b, [],_::os=>b::rho (b+1) [] os
def zal:List PM→List HO→(List HO→Option R)→Option R
 | [],hp,k=>k hp
 | .id i _::mp,hp,k=>jy hp i .gone fun hp=>zal mp hp k
 |_::mp,hp,k=>zal mp hp k
def ze5:List PM→List OSh→List HO→(List HO→Option R)→Option R
 |_, [],hp,k=>k hp
 | .id _ none::mp,_::os,hp,k=>ze5 mp os hp k
 |_::mp,_::os,hp,k=>jr hp .gone fun hp=>ze5 mp os hp k
 | [],_::os,hp,k=>jr hp .gone fun hp=>ze5 [] os hp k
def zej:List Nat→List HO→List HO→(List HO→Option R)→Option R
 |i::ρ,o::os,hp,k=>jy hp i o fun hp=>zej ρ os hp k
 |_,_,hp,k=>k hp
def jo:List OSh→Bool
 | []=>true
 | .arr _ t::l=>t.noOwn&&jo l
 |_::l=>jo l
def zfu:List OSh→Bool
 | []=>true
 | .gone::_=>false
 |_::l=>zfu l
def zmi (n:Nat):List Sh→Bool
 | []=>true
 | .own j::l=>Nat.ble (j+1) n&&zmi n l
 | .ptr j _::l=>Nat.ble (j+1) n&&zmi n l
 | .mp j::l=>Nat.ble (j+1) n&&zmi n l
 |_::l=>zmi n l
def wfO (n:Nat):List OSh→Bool
 | []=>true
 | .cells s::l=>zmi n s&&wfO n l
 |_::l=>wfO n l
def zpj:List SV→SV
 | [s]=>s
 |l=> .tup l
def zm5 (c:Con) (args:List SV) (hp:List HO) (k:SV→List HO→Option R):Option R:=
 bif zfu c.sig.ins.objs&&(Nat.ble c.sig.ins.objs.length c.sig.outs.objs.length&&(zmi c.sig.outs.objs.length c.sig.outs.slots&&wfO c.sig.outs.objs.length c.sig.outs.objs)) then
 zqu 0 c.sig.ins args hp fun ds mp hp1=>zbi c.sig.ins.tys ds fun x=>
  (c.F x).bind fun r=>
   build (rho hp.length mp c.sig.outs.objs) c.sig.outs (qE _ r) fun vs hos=>
    zal mp (bif c.sig.outs.flat&&jo c.sig.ins.objs then hp else hp1) fun hp2=>ze5 mp c.sig.outs.objs hp2 fun hp3=>zej (rho hp.length mp c.sig.outs.objs) hos hp3 fun hp4=>k (zpj vs) hp4
 else none
set_option linter.unusedVariables false in
def zbw (C:Ctx) (fr:List SV) (t:Ty):List (Nat×Operand)→List t.den→List HO→(List t.den→List HO→Option R)→Option R
 | [],xs,hp,k=>k xs hp
 |(i,x)::l,xs,hp,k=>bif Nat.ble (i+1) xs.length then(opd C fr x fun s=>zdc t s hp fun y hp=>jy xs i y fun xs=>zbw C fr t l xs hp k) else none
def zw1 {α:Type} (x:α):Nat→(List α→Option R)→Option R
 |0,k=>k []
 |n+1,k=>zw1 x n fun l=>k (x::l)
def zsx (t:Ty) (s:SV) (hp:List HO) (k:List t.den→Option R):Option R:=
 match s with
 | .val (.sl e) xs=>if h:e=t then k (h▸xs) else none
 | .nils=>k []
 | .nil0=>k []
 | .own id len=>qv hp id fun o=>(match o with
  | .arr _ e xs=>if h:e=t then k (zL (h▸xs) len) else none
  | .tk _ e xs=>if h:e=t then k (zL (h▸xs) len) else none
  |_=>none)
 | .vw id u off len=>qv hp id fun o=>(match o with
  | .arr _ e xs=>if h:e=t∧u=t then k (((h.1▸xs:List t.den).drop off).take len) else none
  |_=>none)
 |_=>none
def zvp (t:Ty) (s:SV) (hp:List HO) (k:List t.den→List HO→Option R):Option R:=
 match s with
 | .val (.sl e) xs=>if h:e=t.er then k ((h▸xs:List t.er.den).map t.lift) hp else none
 | .nils=>k [] hp
 | .nil0=>k [] hp
 | .own id len=>qv hp id fun o=>(match o with
  | .arr _ e xs=>if h:e=t then jy hp id .gone fun hp=>k (zL (h▸xs) len) hp else none
  |_=>none)
 |_=>none
def zj (n bytes:Nat):Prop:=n*bytes≤140737488355328
instance (n bytes:Nat):Decidable (zj n bytes):=inferInstanceAs (Decidable (_≤_))
def znw:List Nat→(t:Ty)→t.den→(t':Ty)→t'.den→(t.den→Option R)→Option R
 | [],t,_,t',y,k=>if h:t'=t then k (h▸y) else none
 |i::p, .st f,x,t',y,k=>fsetAux i f x (fun u z k=>znw p u z t' y k) k
 |_::_,_,_,_,_,_=>none
where fsetAux:Nat→(f:Ty)→f.den→((u:Ty)→u.den→(u.den→Option R)→Option R)→(f.den→Option R)→Option R
 |0, .pair a _,x,g,k=>g a x.1 fun y=>k (y,x.2)
 |i+1, .pair _ b,x,g,k=>fsetAux i b x.2 g fun y=>k (x.1,y)
 |0,t,x,g,k=>g t x k
 |_+1,_,_,_,_=>none
def qG (ei:TI) (t:Ty):Bool:=Nat.beq ei.size t.size&&(Nat.ble 1 ei.size&&(Nat.ble 1 ei.bytes&&(t.isAgg||Nat.beq t.size 1)))
def zb1 (i:TI) (x v:SV) (hp:List HO) (k:SV→List HO→Option R):Option R:=
 match x with
 | .ptr id off=>v.cellsK fun l'=>bif Nat.beq l'.length i.size&&zmn l' then(qv hp id fun o=>(match o with
  | .cells l=>bif Nat.ble (off+i.size) l.length then jy hp id (.cells (l.take off++(l'++l.drop (off+i.size)))) fun hp=>k .skip hp else none
  |_=>none)) else none
 | .elt id t j p=>(match qI p t with
  |some u=>bif fits i u then zdc u v hp fun y hp=>qv hp id fun o=>(match o with
   | .arr T t' xs=>if h:t'=t then znw p t ((h▸xs:List t.den).getD j t.dflt) u y fun z=>jy hp id (.arr T t ((h▸xs:List t.den).set j z)) fun hp=>k .skip hp else none
   |_=>none) else none
  |none=>none)
 |_=>none
def xF (C:Ctx) (E:TypeId) (ei:TI) (x:SV) (hp:List HO) (k:SV→List HO→Option R):Option R:=
 match C.el E ei with
 |some t=>bif qG ei t then(bif t.noOwn then zsx t x hp fun ys=>(if zj ys.length ei.bytes then jr hp (.arr E t ys) fun hp'=>k (.own hp.length none) hp' else none)
   else zvp t x hp fun ys hp=>if zj ys.length ei.bytes then jr hp (.arr E t ys) fun hp'=>k (.own hp.length none) hp' else none) else none
 |none=>none
set_option linter.unusedVariables false in
def jE (C:Ctx) (E:TypeId) (ei:TI) (s x:SV) (hp:List HO) (k:SV→List HO→Option R):Option R:=
 match s with
 | .nils=>xF C E ei x hp k
 | .nil0=>xF C E ei x hp k
 | .own id len=>qv hp id fun o=>(match o with
  | .arr E' t xs=>bif Nat.beq E' E&&qG ei t then(bif t.noOwn then zsx t x hp fun ys=>
    (if zj (zdk xs len+ys.length) ei.bytes then jy hp id .gone fun hp1=>jr hp1 (.arr E t (zL xs len++ys)) fun hp'=>k (.own hp.length none) hp' else none)
   else jy hp id .gone fun hp1=>zvp t x hp1 fun ys hp2=>if zj (zdk xs len+ys.length) ei.bytes then jr hp2 (.arr E t (zL xs len++ys)) fun hp'=>k (.own hp2.length none) hp' else none) else none
  | .tk E' t xs=>bif Nat.beq E' E&&(qG ei t&&(len.isNone&&t.noOwn)) then zsx t x hp fun ys=>
    (if zj (xs.length+ys.length) ei.bytes then jy hp id (.fro t xs) fun hp1=>jr hp1 (.tk E t (xs++ys)) fun hp'=>k (.own hp.length none) hp' else none) else none
  |_=>none)
 |_=>none
def zbx (C:Ctx) (E:TypeId) (ei:TI) (x:SV) (hp:List HO) (k:SV→List HO→Option R):Option R:=
 match x with
 | .nils=>k (.tup []) hp
 | .own id len=>qv hp id fun o=>(match o with
  | .arr T t xs=>(match C.el E ei with
   |some u=>bif qG ei t then(if _h:u=t then jy hp id (.arr T t (List.replicate (zdk xs len) t.dflt++xs.drop (zdk xs len))) fun hp=>k (.tup []) hp else none) else none
   |none=>none)
  |_=>none)
 | .vw id u off len=>qv hp id fun o=>(match o with
  | .arr T t xs=>(match C.el E ei with
   |some u'=>bif qG ei t then(if _h:u'=t∧u=t then jy hp id (.arr T t (xs.take off++(List.replicate len t.dflt++xs.drop (off+len)))) fun hp=>k (.tup []) hp else none) else none
   |none=>none)
  |_=>none)
 |_=>none
def zut (b:Bool):Prop:=b=true
instance (b:Bool):Decidable (zut b):=inferInstanceAs (Decidable (_=_))
def zby (i:TI) (hp:List HO) (x:SV) (k:SV→List HO→Option R):Option R:=
 match i.kind,x with
 | .slice E, .elt id t j p=>qv hp id fun o=>(match o with
  | .arr T t' xs=>if h:t'=t then(match zc3 p t ((h▸xs:List t.den).getD j t.dflt) with
   |some d=>(match d with
    |⟨.osl e,y⟩=>bif fits i (.osl e)&&decide (qI p t=some (.osl e)) then(if zut y.1 then znw p t ((h▸xs:List t.den).getD j t.dflt) (.osl e) (false,y.2) fun z=>
      jy hp id (.arr T t ((h▸xs:List t.den).set j z)) fun hp1=>jr hp1 (.tk E e y.2) fun hp2=>k (.own hp.length none) hp2 else none) else none
    |_=>xG i hp x fun s=>k s hp)
   |none=>none) else none
  |_=>none)
 |_,_=>xG i hp x fun s=>k s hp
def jg (C:Ctx) (fr:List SV) (i:TI) (n:Option Operand) (hp:List HO) (k:SV→List HO→Option R):Option R:=
 match i.kind with
 | .map Kt Vt=>zq C.TT Kt fun ki=>zq C.TT Vt fun vi=>(match zo7 ki,vi.ty with
  |some K,some V=>zvn C fr n 0 fun _=>jr hp (.map K V []) fun hp'=>k (.mp hp.length) hp'
  |_,_=>none)
 |_=>none
def qn (C:Ctx) (i:TI) (m y v:SV) (hp:List HO) (k:SV→List HO→Option R):Option R:=
 match i.kind,m,y with
 | .map Kt Vt, .mp id, .val t y=>zq C.TT Kt fun ki=>zq C.TT Vt fun vi=>(match vi.ty with
  |some V=>zdc V v hp fun x hp=>qv hp id fun o=>(match o with
   | .map K V' es=>bif decide (zo7 ki=some K) then(if h:t=K∧V'=V then jy hp id (.map K V (z0x K V (h.2▸es) (h.1▸y:K.den) x)) fun hp=>k .skip hp else none) else none
   |_=>none)
  |none=>none)
 |_,_,_=>none
def ze8:Op→Bool
 | .alloc _| .box _ _| .buildSlice _ _ _| .makeSlice _ _ _| .store _ _ _=>true
 | .call { callee:= .builtin .append, .. }=>true
 | .call { callee:= .builtin .clear, .. }=>true
 | .makeMap _ _| .mapUpdate _ _ _ _| .insert _ _ _ _=>true
 | .call { callee:= .value _, .. }=>true
 |_=>false
def zzb:List Oper→Nat→Bool
 | [],_=>false
 |o::l,t=>(match o.op with
  | .call { callee:= .builtin .append,args, .. }=>(match args.toList with
   | .tmp u::_=>Nat.beq u t
   |_=>false)
  |_=>false)||zzb l t
def z1l (n:Nat):List Nat→Bool
 | []=>false
 |m::l=>Nat.beq n m||z1l n l
def zz8:List Oper→Nat→Bool
 | [],_=>false
 |o::l,t=>(match o.op,o.dst with
  | .fieldAddr _ _ _,some d=>Nat.beq d t
  |_,_=>false)||zz8 l t
def z1e (C:Ctx) (all:List Oper) (o:Oper):Bool:=
 match C.mv with
 | []=>false
 |m::l=>(match o.op,o.dst with
  | .load T (.tmp t),some d=>z1l T (m::l)&&(zzb all d&& !zz8 all t)
  |_,_=>false)
def isEffX (C:Ctx) (all:List Oper) (o:Oper):Bool:=ze8 o.op||z1e C all o
def zhh (C:Ctx) (Γ:List Con) (fr:List SV) (hp:List HO) (op:Op) (k:SV→List HO→Option R):Option R:=
 match op with
 | .alloc T=>zq C.TT T fun i=>jr hp (.cells i.zero) fun hp'=>k (.ptr hp.length 0) hp'
 | .box _ x=>opd C fr x fun s=>s.cellsK fun l=>jr hp (.cells l) fun hp'=>k (.ptr hp.length 0) hp'
 | .buildSlice T n parts=>zq C.TT T fun i=>(match i.kind with
  | .slice E=>zq C.TT E fun ei=>(match C.el E ei with
   |some t=>bif qG ei t&&Nat.ble (n*ei.size) 16777216 then
     (zw1 t.dflt n fun xs=>zbw C fr t parts.toList xs hp fun xs hp=>jr hp (.arr E t xs) fun hp'=>k (.own hp.length none) hp') else none
   |none=>none)
  |_=>none)
 | .makeSlice T l c=>zq C.TT T fun i=>(match i.kind with
  | .slice E=>zq C.TT E fun ei=>(match C.el E ei with
   |some t=>bif qG ei t then(opd C fr l fun l=>asI l fun l=>opd C fr c fun c=>asI c fun c=>
     if 0≤l∧l≤c∧zj c.toNat ei.bytes then jr hp (.arr E t (List.replicate l.toNat t.dflt)) fun hp'=>k (.own hp.length none) hp' else none) else none
   |none=>none)
  |_=>none)
 | .store T x v=>zq C.TT T fun i=>opd C fr x fun x=>opd C fr v fun v=>zb1 i x v hp k
 | .call { callee:= .builtin .append,args,argTypes}=>(match args.toList,argTypes.toList with
  | [s,x], [T,T']=>bif Nat.beq T T' then zq C.TT T fun i=>(match i.kind with
   | .slice E=>zq C.TT E fun ei=>opd C fr s fun s=>opd C fr x fun x=>jE C E ei s x hp k
   |_=>none) else none
  |_,_=>none)
 | .call { callee:= .builtin .clear,args,argTypes}=>(match args.toList,argTypes.toList with
  | [x], [T]=>zq C.TT T fun i=>(match i.kind with
   | .slice E=>zq C.TT E fun ei=>opd C fr x fun x=>zbx C E ei x hp k
   |_=>none)
  |_,_=>none)
 | .makeMap T n=>zq C.TT T fun i=>jg C fr i n hp k
 | .mapUpdate T m y v=>zq C.TT T fun i=>opd C fr m fun m=>opd C fr y fun y=>opd C fr v fun v=>qn C i m y v hp k
 | .insert T m y v=>zq C.TT T fun i=>opd C fr m fun m=>opd C fr y fun y=>opd C fr v fun v=>qn C i m y v hp k
 | .load T x=>zq C.TT T fun i=>opd C fr x fun x=>zby i hp x k
 | .call { callee:= .value x,args, .. }=>zbn C Γ fr x args.toList fun c vs=>zm5 c vs hp k
 |_=>none
def zcp (fr:List SV) (d:Option Tmp) (s:SV) (k:List SV→Option R):Option R:=
 match d with
 |some t=>jy fr t s k
 |none=>k fr
def zez:List Oper→Nat→Option Tmp
 | [],_=>none
 |o::_,0=>o.dst
 |_::l,n+1=>zez l n
def zja (C:Ctx) (Γ:List Con) (all:List Oper) (fr:List SV) (hp:List HO) (o:Oper) (k:List SV→List HO→Option R):Option R:=
 bif isEffX C all o then zhh C Γ fr hp o.op fun s hp=>zcp fr o.dst s fun fr=>za7 hp fr fun fr=>k fr hp
 else jZ C fr hp o.op fun s=>zsp hp s fun s=>zcp fr o.dst s fun fr=>k fr hp
def zd2 (C:Ctx) (Γ:List Con) (all:List Oper):List Oper→List SV→List HO→(List SV→List HO→Option R)→Option R
 | [],fr,hp,k=>k fr hp
 |o::os,fr,hp,k=>match o.guard with
  |none=>zja C Γ all fr hp o fun fr hp=>zd2 C Γ all os fr hp k
  |some (j,want)=>(match zez all j with
   |none=>none
   |some d=>qv fr d fun s=>(match s with
    | .bit b=>bif b==want then zja C Γ all fr hp o fun fr hp=>zd2 C Γ all os fr hp k else zcp fr o.dst .skip fun fr=>zd2 C Γ all os fr hp k
    | .skip=>zcp fr o.dst .skip fun fr=>zd2 C Γ all os fr hp k
    | .val .bool c=>(if c=true
     then jy fr d (.bit true) fun fr=>(bif want then zja C Γ all fr hp o fun fr hp=>zd2 C Γ all os fr hp k else zcp fr o.dst .skip fun fr=>zd2 C Γ all os fr hp k)
     else jy fr d (.bit false) fun fr=>(bif want then zcp fr o.dst .skip fun fr=>zd2 C Γ all os fr hp k else zja C Γ all fr hp o fun fr hp=>zd2 C Γ all os fr hp k))
    |_=>none))
def Ty.plain:Ty→Bool
 | .sl _| .osl _| .arr _ _=>false
 | .pair a b=>a.plain&&b.plain
 | .st f=>f.plain
 |_=>true
def zay:List Sh→Bool
 | []=>true
 | .hole t::l=>t.plain&&(t.isAgg||Nat.beq t.size 1)&&zay l
 |_::_=>false
def zl1 (c:Con):Bool:=(match c.sig.ins.objs,c.sig.outs.objs with| [], []=>true|_,_=>false)&&zay c.sig.outs.slots
def zts (c:Con) (args:List SV) (hp:List HO) (k:SV→Option R):Option R:=
 bif zl1 c then zqu 0 c.sig.ins args hp fun ds _ _=>zbi c.sig.ins.tys ds fun x=>
  (c.F x).bind fun r=>zr [] c.sig.outs.slots (qE _ r) fun vs _=>k (zpj vs)
 else none
def zan (C:Ctx) (Γ:List Con) (fr:List SV) (hp:List HO) (o:Oper) (k:List SV→Option R):Option R:=
 match o.op with
 | .call { callee:= .value x,args, .. }=>zbn C Γ fr x args.toList fun c vs=>zts c vs hp fun s=>zcp fr o.dst s k
 |op=>bif ze8 op then none else jZ C fr hp op fun s=>zcp fr o.dst s k
def xr (C:Ctx) (Γ:List Con) (all:List Oper):List Oper→List SV→List HO→(List SV→Option R)→Option R
 | [],fr,_,k=>k fr
 |o::os,fr,hp,k=>match o.guard with
  |none=>zan C Γ fr hp o fun fr=>xr C Γ all os fr hp k
  |some (j,want)=>(match zez all j with
   |none=>none
   |some d=>qv fr d fun s=>(match s with
    | .bit b=>bif b==want then zan C Γ fr hp o fun fr=>xr C Γ all os fr hp k else zcp fr o.dst .skip fun fr=>xr C Γ all os fr hp k
    | .skip=>zcp fr o.dst .skip fun fr=>xr C Γ all os fr hp k
    | .val .bool c=>(if c=true
     then jy fr d (.bit true) fun fr=>(bif want then zan C Γ fr hp o fun fr=>xr C Γ all os fr hp k else zcp fr o.dst .skip fun fr=>xr C Γ all os fr hp k)
     else jy fr d (.bit false) fun fr=>(bif want then zcp fr o.dst .skip fun fr=>xr C Γ all os fr hp k else zan C Γ fr hp o fun fr=>xr C Γ all os fr hp k))
    |_=>none))
mutual
def SV.isD:SV→Bool
 | .val _ _| .bit _| .ub _ _| .nils| .nil0| .nilp| .und| .skip| .ro _ _=>true
 | .agg l=>zsu l
 | .tup l=>zsu l
 | .fn _ l=>zsu l
 |_=>false
def zsu:List SV→Bool
 | []=>true
 |s::l=>s.isD&&zsu l
end
def z08 (s:SV) (hp:List HO) (k:SV→List HO→Option R):Option R:=
 match s with
 | .own id len=>qv hp id fun o=>(match o with
  | .arr _ t xs=>bif t.noOwn then jy hp id (.fro t xs) fun hp=>k (.val (.sl t) (zL xs len)) hp else jy hp id (.fro t.er (xs.map t.erD)) fun hp=>k (.val (.sl t.er) (zL (xs.map t.erD) len)) hp
  | .fro t xs=>k (.val (.sl t) (zL xs len)) hp
  |_=>none)
 |s=>k s hp
def z07:List SV→List HO→(List SV→List HO→Option R)→Option R
 | [],hp,k=>k [] hp
 |s::l,hp,k=>z08 s hp fun s hp=>z07 l hp fun l hp=>k (s::l) hp
def z0a (s:SV) (hp:List HO) (k:SV→List HO→Option R):Option R:=
 match s with
 | .tup l=>z07 l hp fun l hp=>k (.tup l) hp
 |s=>z08 s hp k
def zes {α:Type} (x:Option α) (k:α→Option R):Option R:=
 match x with
 |some x=>k x
 |none=>none
def zO:Nat→Nat→List Nat
 |0,_=> []
 |n+1,i=>i::zO n (i+1)
def z1h (c:Con) (args:List SV):Option (Tup c.sig.ins.tys):=zqu (R:=Tup c.sig.ins.tys) 0 c.sig.ins args [] fun ds _ _=>zbi c.sig.ins.tys ds some
def zun (c:Con):Bool:=match c.sig.ins.objs with
 | []=>true
 |_=>false
def zp8 (c:Con) (args:List SV) (k:SV→Option R):Option R:=
 bif zun c&&zsu args then zes (z1h c args) fun x=>(c.F x).bind fun y=>build (zO c.sig.outs.objs.length 0) c.sig.outs (qE _ y) fun vs hos=>
  zes (z0a (zpj vs) hos fun s _=>some s) fun s=>bif s.isD then k s else none
 else none
def z1a (C:Ctx) (Γ:List Con) (fr:List SV) (hp:List HO) (o:Oper) (k:SV→Option R):Option R:=
 match o.op with
 | .call { callee:= .value x,args, .. }=>zbn C Γ fr x args.toList fun c vs=>zp8 c vs k
 |op=>bif ze8 op then(bif zsu fr then zes (zhh C Γ fr [] op fun s hp'=>z0a s hp' fun s _=>some s) fun s=>bif s.isD then k s else none else none)
  else jZ C fr hp op k
def qO:List Operand→List Tmp
 | []=> []
 | .tmp t::l=>t::qO l
 |_::l=>qO l
def zil (fr:List SV):List SV→List Tmp→(List SV→Option R)→Option R
 |u, [],k=>k u
 |u,t::ts,k=>qv fr t fun s=>jy u t s fun u=>zil fr u ts k
def zxy:List SV→List SV
 | []=> []
 |_::l=> .und::zxy l
def evD (C:Ctx) (Γ:List Con) (fr:List SV) (hp:List HO) (o:Oper) (k:SV→Option R):Option R:=
 zil fr (zxy fr) (qO o.op.operands.toList) fun fr'=>z1a C Γ fr' hp o k
def zar:List Oper→Nat→Bool
 | [],_=>false
 |o::l,i=>(match o.guard with
  |some (j,_)=>Nat.beq j i
  |none=>false)||zar l i
def zf1 (g:Bool) (s:SV) (k:SV→Option R):Option R:=
 match g,s with
 |true, .val .bool c=>if c=true then k (.bit true) else k (.bit false)
 |_,s=>k s
def zbz (C:Ctx) (Γ:List Con) (all:List Oper):Nat→List Oper→List SV→List HO→(List SV→Option R)→Option R
 |_, [],fr,_,k=>k fr
 |i,o::os,fr,hp,k=>match o.guard with
  |none=>evD C Γ fr hp o fun s=>zf1 (zar all i) s fun s=>zcp fr o.dst s fun fr=>zbz C Γ all (i+1) os fr hp k
  |some (j,want)=>(match zez all j with
   |none=>none
   |some d=>qv fr d fun s=>(match s with
    | .bit b=>bif b==want then evD C Γ fr hp o fun s=>zf1 (zar all i) s fun s=>zcp fr o.dst s fun fr=>zbz C Γ all (i+1) os fr hp k
     else zcp fr o.dst .skip fun fr=>zbz C Γ all (i+1) os fr hp k
    | .skip=>zcp fr o.dst .skip fun fr=>zbz C Γ all (i+1) os fr hp k
    |_=>none))
def jw:List Oper→Nat→Tmp→Option Nat
 | [],_,_=>none
 |o::l,i,t=>match o.dst with
  |some d=>bif Nat.beq d t then some i else jw l (i+1) t
  |none=>jw l (i+1) t
def zp (all:List Oper) (o:Oper):List Tmp:=
 match o.guard with
 |none=>qO o.op.operands.toList
 |some (j,_)=>match zez all j with
  |some d=>d::qO o.op.operands.toList
  |none=>qO o.op.operands.toList
def zpt (i:Nat):List Edge→Bool
 | []=>false
 |e::l=>(Region.binds .any e&&Nat.beq e.on i)||zpt i l
def ziz (all:List Oper) (o:Oper) (j:Nat):List Tmp→Bool
 | []=>true
 |t::l=>(match jw all 0 t with
  |none=>true
  |some i=>Nat.ble (i+1) j&&zpt i o.after.toList)&&ziz all o j l
def zbu (j:Nat):List Edge→Bool
 | []=>true
 |e::l=>(!Region.binds .any e||Nat.ble (e.on+1) j)&&zbu j l
def zQ (all:List Oper):Nat→List Oper→Bool
 |_, []=>true
 |j,o::os=>(match o.dst with
   |some d=>(match jw all 0 d with
    |some i=>Nat.beq i j
    |none=>false)
   |none=>true)&&(zbu j o.after.toList&&(ziz all o j (zp all o)&&zQ all (j+1) os))
def zk8 (ops:Array Oper):Bool:=zQ ops.toList 0 ops.toList
def zy5:List Nat→List HO→(List HO→Option R)→Option R
 | [],hp,k=>k hp
 |i::l,hp,k=>bif Nat.ble 1000000 i then qv hp (i - 1000000) fun o=>(match o with
  | .arr T t xs=>bif t.noOwn then jy hp (i - 1000000) (.tk T t xs) fun hp=>zy5 l hp k else none
  |_=>none) else qv hp i fun o=>(match o with
  | .arr _ t xs=>bif t.noOwn then jy hp i (.fro t xs) fun hp=>zy5 l hp k else jy hp i (.fro t.er (xs.map t.erD)) fun hp=>zy5 l hp k
  |_=>none)
def zi3:List Nat→List Nat→List Nat
 | [],m=>m
 |t::l,m=>t::zi3 l m
mutual
def SV.ids:SV→List Nat
 | .own i _=> [i]
 | .ptr i _=> [i]
 | .elt i _ _ _=> [i]
 | .vw i _ _ _=> [i]
 | .mp i=> [i]
 | .agg l=>zc1 l
 | .tup l=>zc1 l
 | .fn _ l=>zc1 l
 |_=> []
def zc1:List SV→List Nat
 | []=> []
 |s::l=>zi3 s.ids (zc1 l)
end
def memN (n:Nat):List Nat→Bool
 | []=>false
 |m::l=>bif Nat.beq n m then true else memN n l
def zfz (hp:List HO):Nat→List Nat→List Nat→(List Nat→Option R)→Option R
 |0,_,seen,k=>k seen
 |_+1, [],seen,k=>k seen
 |n+1,i::todo,seen,k=>bif memN i seen then zfz hp n todo seen k else(match hp[i]? with
  |some (.cells l)=>zfz hp n (zi3 (zc1 l) todo) (i::seen) k
  |_=>zfz hp n todo (i::seen) k)
def zo9 (T:List Nat):Nat→List HO→(List HO→Option R)→Option R
 |_, [],k=>k []
 |i,o::l,k=>bif memN i T then zo9 T (i+1) l fun l=>k (o::l) else zo9 T (i+1) l fun l=>k (.gone::l)
def Ty.weak:(t:Ty)→t.den→t.den
 | .osl _,x=>(false,x.2)
 | .arr _ e,xs=>xs.map e.weak
 | .pair a b,x=>(a.weak x.1,b.weak x.2)
 | .st f,x=>f.weak x
 | .int _,x=>x
 | .bool,x=>x
 | .str,x=>x
 | .flt,x=>x
 | .cplx,x=>x
 | .unit,x=>x
 | .sl _,x=>x
def HO.weak:HO→HO
 | .arr T t xs=>bif t.noOwn then .arr T t xs else .arr T t (xs.map (Ty.weak t))
 |o=>o
def zvk:List HO→(List HO→Option R)→Option R
 | [],k=>k []
 |o::l,k=>zvk l fun l=>k (o.weak::l)
def zps (mv:Bool) (T new:List Nat):List Nat:=bif mv then new else zi3 T new
def zj7 (T:List Nat):Nat→List HO→List HO→(List HO→Option R)→Option R
 |_, [],l',k=>k l'
 |i,o::l,o'::l',k=>bif memN i T then zj7 T (i+1) l l' fun l=>k (o'::l) else zj7 T (i+1) l l' fun l=>k (o::l)
 |_,_::_, [],_=>none
def zwy:Nat→List HO→(List HO→Option R)→Option R
 |0,l,k=>k l
 |n+1, [],k=>zwy n [] fun l=>k (.gone::l)
 |n+1,o::l,k=>zwy n l fun l=>k (o::l)
def bitN (b i:Nat):Bool:=Nat.beq (Nat.land (Nat.shiftRight b i) 1) 1
def apartN:List Nat→List Nat→Bool
 | [],_=>true
 |i::l,m=>bif memN i m then false else apartN l m
def okC (anc:Nat) (T:List Nat):List (Nat×List Nat)→Bool
 | []=>true
 |(m,U)::l=>(bitN anc m||apartN T U)&&okC anc T l
def zxu:Op→Bool
 | .load _ _| .slice _ _ _ _ _| .indexAddr _ _ _| .lookup _ _ _ _=>true
 | .call _=>true
 |_=>false
def xE:Nat→Nat→List Nat
 |_,0=> []
 |i,n+1=>i::xE (i+1) n
def nthN:List Nat→Nat→Nat
 | [],_=>0
 |x::_,0=>x
 |_::l,n+1=>nthN l n
structure Acc where
 hp:List HO
 cs:List (Nat×List Nat)
 ps:List (Nat×List Nat)
def zov (C:Ctx) (Γ:List Con) (fr:List SV) (op:Op) (k:SV→Option R):Option R:=
 match op with
 | .call { callee:= .value x,args, .. }=>zbn C Γ fr x args.toList fun c vs=>zp8 c vs k
 |op=>bif zsu fr then zes (zhh C Γ fr [] op fun s hp'=>z0a s hp' fun s _=>some s) fun s=>bif s.isD then k s else none else none
def zw9:List Nat→List Nat→Bool
 | [],_=>true
 |i::l,m=>bif memN i m then zw9 l m else false
def zbc:List HO→List Nat
 | []=> []
 | .cells l::os=>zi3 (zc1 l) (zbc os)
 |_::os=>zbc os
def zq2 (c:Con):Bool:=zun c&&((match c.sig.outs.objs with| []=>true|_=>false)&&(xH c.sig.outs.slots&&zmi 0 c.sig.outs.slots))
def zni (C:Ctx) (Γ:List Con) (fr:List SV) (op:Op):Bool:=
 match op with
 | .call { callee:= .value x,args, .. }=>(match zbn C Γ fr x args.toList fun c _=>some (zq2 c) with
  |some b=>b
  |none=>false)
 |_=>false
def ztr (c:Con) (args:List SV) (hp:List HO) (k:SV→Option R):Option R:=
 bif zq2 c then zqu 0 c.sig.ins args hp fun ds _ _=>zbi c.sig.ins.tys ds fun x=>(c.F x).bind fun y=>zr [] c.sig.outs.slots (qE _ y) fun vs _=>k (zpj vs) else none
def ztq (C:Ctx) (Γ:List Con) (fr:List SV) (hp:List HO) (op:Op) (k:SV→Option R):Option R:=
 match op with
 | .call { callee:= .value x,args, .. }=>zbn C Γ fr x args.toList fun c vs=>ztr c vs hp k
 |_=>none
def z09 (hp:List HO) (fr:List SV) (op:Op) (k:List Nat→Option R):Option R:=
 match op with
 | .store _ (.tmp a) _=>(match fr[a]? with
  |some (.ptr id _)=>k [id]
  |_=>zfz hp 1000 (zc1 fr) [] k)
 |_=>zfz hp 1000 (zc1 fr) [] k
def evE (C:Ctx) (Γ:List Con) (all:List Oper) (N:Nat) (fl:List Nat) (a i:Nat) (fr:List SV) (h:Acc) (o:Oper) (k:SV→Acc→Option R):Option R:=
 zil fr (zxy fr) (qO o.op.operands.toList) fun fr'=>
  bif isEffX C all o then
   (bif zni C Γ fr' o.op then zfz h.hp 1000 (zc1 fr') [] fun T=>bif okC a T h.cs then zo9 T 0 h.hp fun hm=>zwy N hm fun hm=>zvk hm fun hm=>za7 hm fr' fun fr2=>ztq C Γ fr2 hm o.op fun s=>
    bif zw9 s.ids [] then k s { h with ps:=(i,T)::h.ps} else none else none
   else bif memN i fl then zov C Γ fr' o.op fun s=>k s h
   else z09 h.hp fr' o.op fun T=>zo9 T 0 h.hp fun hm=>za7 hm fr' fun fr'=>zhh C Γ fr' hm o.op fun s hp'=>
    bif Nat.ble h.hp.length hp'.length&&(Nat.ble hp'.length N&&okC a (zps (!ze8 o.op) T (xE h.hp.length (hp'.length - h.hp.length))) h.ps) then
     zj7 T 0 h.hp hp' fun hp2=>k s { h with hp:=hp2,cs:=(i,zps (!ze8 o.op) T (xE h.hp.length (hp'.length - h.hp.length)))::h.cs} else none)
  else bif zxu o.op then
   (bif okC a (zc1 fr') h.cs then zo9 (zc1 fr') 0 h.hp fun hm=>zwy N hm fun hm=>zvk hm fun hm=>za7 hm fr' fun fr2=>jZ C fr2 hm o.op fun s=>
    bif zw9 s.ids (zi3 (zc1 fr') (zbc hm)) then k s { h with ps:=(i,zc1 fr')::h.ps} else none else none)
  else zwy N [] fun hm=>jZ C fr' hm o.op fun s=>bif zw9 s.ids (zc1 fr') then k s h else none
def xq (C:Ctx) (Γ:List Con) (all:List Oper) (N:Nat) (fl anc:List Nat):Nat→List Oper→List SV→Acc→(List SV→List HO→Option R)→Option R
 |_, [],fr,h,k=>za7 h.hp fr fun fr=>k fr h.hp
 |i,o::os,fr,h,k=>match o.guard with
  |none=>evE C Γ all N fl (nthN anc i) i fr h o fun s h=>zf1 (zar all i) s fun s=>zcp fr o.dst s fun fr=>xq C Γ all N fl anc (i+1) os fr h k
  |some (j,want)=>(match zez all j with
   |none=>none
   |some d=>qv fr d fun s=>(match s with
    | .bit b=>bif b==want then evE C Γ all N fl (nthN anc i) i fr h o fun s h=>zf1 (zar all i) s fun s=>zcp fr o.dst s fun fr=>xq C Γ all N fl anc (i+1) os fr h k
     else zcp fr o.dst .skip fun fr=>xq C Γ all N fl anc (i+1) os fr h k
    | .skip=>zcp fr o.dst .skip fun fr=>xq C Γ all N fl anc (i+1) os fr h k
    |_=>none))
def zmo (anc:List Nat):List Edge→Nat
 | []=>0
 |e::l=>bif Region.binds .any e then Nat.lor (Nat.lor (Nat.shiftLeft 1 e.on) (nthN anc e.on)) (zmo anc l) else zmo anc l
def zq9 (anc:List Nat):Nat→List Oper→Bool
 |_, []=>true
 |j,o::os=>Nat.beq (nthN anc j) (zmo anc o.after.toList)&&zq9 anc (j+1) os
def zew (C:Ctx) (all:List Oper) (fl anc:List Nat):Nat→Option Nat→List Oper→Bool
 |_,_, []=>true
 |j,p,o::os=>bif isEffX C all o&& !memN j fl then(match p with
   |none=>true
   |some i=>bitN (nthN anc j) i)&&zew C all fl anc (j+1) (some j) os
  else zew C all fl anc (j+1) p os
def zn9 (C:Ctx) (fl anc:List Nat) (ops:Array Oper):Bool:=zk8 ops&&(zq9 anc 0 ops.toList&&zew C ops.toList fl anc 0 none ops.toList)
def zbj (f:Nat):Nat→List Oper→List Oper
 |_, []=> []
 |0,o::l=>{ o with after:=(o.after.toList++ [(Edge.mk f Ground.data)]).toArray}::l
 |n+1,o::l=>o::zbj f n l
def z1m (inv:List Nat) (e:Edge):Edge:=Edge.mk (nthN inv e.on) e.ground
def renO (inv:List Nat) (o:Oper):Oper:={ o with after:=(o.after.toList.map (z1m inv)).toArray,guard:=o.guard.map fun p=>(nthN inv p.1,p.2)}
def zdm (inv:List Nat) (l:List Oper) (perm:List Nat):List Oper:=perm.map fun i=>renO inv (l.getD i default)
def zsb (n:Nat) (perm inv:List Nat):Bool:=
 Nat.beq perm.length n&&((List.range n).all fun i=>Nat.ble (nthN inv i+1) n&&(Nat.beq (nthN perm (nthN inv i)) i&&(Nat.ble (nthN perm i+1) n&&Nat.beq (nthN inv (nthN perm i)) i)))
def zhb (n:Nat) (l:List Oper):Bool:=l.all fun o=>(o.after.toList.all fun e=> !Region.binds .any e||Nat.ble (e.on+1) n)&&(match o.guard with
 |none=>true
 |some (j,_)=>Nat.ble (j+1) n)
def zg3 (o:Oper):Bool:=
 match o.op with
 | .move _=>true
 | .assign _=>true
 | .makeSlice _ _ _=>true
 | .call { callee:= .builtin .len, .. }=>true
 |_=>false
def zok (f g:Nat):Nat→List Oper→Bool
 |_, []=>true
 |j,o::l=>(Nat.beq j f||Nat.beq j g||zg3 o)&&zok f g (j+1) l
def znk:List Oper→Option (List Oper×Oper)
 | []=>none
 | [o]=>some ([],o)
 |o::p::l=>match znk (p::l) with
  |some (b,q)=>some (o::b,q)
  |none=>none
def zu9:Nat→Oper→Bool
 |0,_=>true
 |m+1,o=>zpt m o.after.toList&&zu9 m o
def zd9 (n:Nat):List Oper→Bool
 | []=>true
 |o::l=>(match o.guard with
  |some (j,_)=>Nat.ble (j+1) n
  |none=>true)&&zd9 n l
def zx4 (C:Ctx) (fl anc:List Nat) (b:List Oper) (o:Oper):Bool:=zn9 C fl anc b.toArray&&(zu9 b.length o&&(o.guard.isNone&&(zd9 b.length b&&zbu b.length o.after.toList)))
inductive Lv where
 |normal
 |exit (id:Nat)
 |ret
 |goto (l:Nat)
def Lv.same:Lv→Lv→Bool
 | .normal, .normal=>true
 | .exit i, .exit j=>Nat.beq i j
 | .ret, .ret=>true
 | .goto i, .goto j=>Nat.beq i j
 |_,_=>false
structure Jn where
 lv:Lv
 tmps:List (Nat×Sh)
 objs:List OSh
def Jn.skel (j:Jn):Skel:={ slots:=j.tmps.map (·.2),objs:=j.objs}
@[reducible] def zmf:List Jn→Type
 | []=>Empty
 | [j]=>Tup j.skel.tys
 |j::i::l=>Tup j.skel.tys ⊕ zmf (i::l)
inductive Ann where
 |leaf
 |tail (n:Nat)
 |seq (a b:Ann)
 |cond (a b:Ann)
 |block (a:Ann)
 |loop (hd:Jn) (js:List Jn) (a:Ann)
 |join (js:List Jn) (a:Ann)
 |draw
 |fro (ids:List Nat) (a:Ann)
 |eff (N:Nat) (fl anc:List Nat)
 |effl (N:Nat) (fl anc:List Nat)
 |eff2 (f g N:Nat) (an1 an2 perm inv:List Nat)
 |scope (l:Nat) (hd:Jn) (js:List Jn) (a b:Ann)
def zwc (fr:List SV):List (Nat×Sh)→(List SV→Option R)→Option R
 | [],k=>k []
 |(t,_)::l,k=>qv fr t fun s=>zwc fr l fun ss=>k (s::ss)
def lay (fr:List SV):List (Nat×Sh)→List SV→(List SV→Option R)→Option R
 | [],_,k=>k fr
 |(t,_)::l,s::ss,k=>jy fr t s fun fr=>lay fr l ss k
 |_::_, [],_=>none
def zj1 (fr:List SV):List Tmp→(List SV→Option R)→Option R
 | [],k=>k fr
 |t::l,k=>jy fr t .und fun fr=>zj1 fr l k
def opsDst:List Oper→List Tmp
 | []=> []
 |o::l=>match o.dst with
  |some t=>t::opsDst l
  |none=>opsDst l
def asg:Code→List Tmp
 | .region _ ops _=>opsDst ops.toList
 | .seq a b=>zi3 (asg a) (asg b)
 | .cond (.tmp t) a b=>t::zi3 (asg a) (asg b)
 | .cond _ a b=>zi3 (asg a) (asg b)
 | .block _ c=>asg c
 | .loop c=>asg c
 | .scope c=>asg c
 | .rangeFunc _ ps a c=>zi3 ps.toList (zi3 (asg a) (asg c))
 |_=> []
def zeh (n0:Nat) (j:Jn) (fr:List SV) (hp:List HO) (k:Tup j.skel.tys→Option R):Option R:=
 bif Nat.ble n0 j.objs.length then zwc fr j.tmps fun vs=>zqu n0 j.skel vs hp fun ds _ _=>zbi j.skel.tys ds k else none
def zlw (j:Jn) (fr:List SV) (x:Tup j.skel.tys) (k:List SV→List HO→Option R):Option R:=
 build (zO j.objs.length 0) j.skel (qE _ x) fun vs hos=>lay fr j.tmps vs fun fr=>k fr hos
def z3 (n0:Nat):(js:List Jn)→Lv→List SV→List HO→(zmf js→Option R)→Option R
 | [],_,_,_,_=>none
 | [j],lv,fr,hp,k=>bif j.lv.same lv then zes (zeh n0 j fr hp some) k else none
 |j::i::l,lv,fr,hp,k=>bif j.lv.same lv then zes (zeh n0 j fr hp some) fun x=>k (.inl x) else z3 n0 (i::l) lv fr hp fun x=>k (.inr x)
structure Ks (R:Type) where
 n:List SV→List HO→Option R
 e:Nat→List SV→List HO→Option R
 r:List SV→List HO→Option R
 g:Nat→List SV→List HO→Option R:=fun _ _ _=>none
def Ks.at (K:Ks R):Lv→List SV→List HO→Option R
 | .normal=>K.n
 | .exit i=>K.e i
 | .ret=>K.r
 | .goto l=>K.g l
def z0b (K:Ks R) (fr:List SV):(js:List Jn)→zmf js→Option R
 | [],_=>none
 | [j],x=>zlw j fr x (K.at j.lv)
 |j::i::l,x=>Sum.elim (fun x=>zlw j fr x (K.at j.lv)) (fun x=>z0b K fr (i::l) x) x
def xh {S E:Type} (f:S→Option (S ⊕ E)):Nat→S→Option E
 |0,_=>none
 |n+1,s=>match f s with
  |none=>none
  |some (.inl s')=>xh f n s'
  |some (.inr e)=>some e
open Classical in
noncomputable def iter {S E:Type} (f:S→Option (S ⊕ E)) (s:S):Option E:=
 if h: ∃ n e,xh f n s=some e then xh f h.choose s else none
open Classical in
noncomputable def agree {R:Type} (x y:Option R):Option R:=if x=y then x else none
theorem jR {R:Type} {x y:Option R} {r:R} (h:agree x y=some r):x=some r∧y=some r:=by
 unfold agree at h
 split at h
 case isTrue e=>exact⟨h,e▸h⟩
 case isFalse=>cases h
noncomputable def run (C:Ctx) (Γ:List Con):Ann→{R:Type}→Code→List SV→List HO→Ks R→Option R
 | .leaf,_, .skip,fr,hp,K=>K.n fr hp
 | .leaf,_, .exit i,fr,hp,K=>K.e i fr hp
 | .leaf,_, .ret,fr,hp,K=>K.r fr hp
 | .leaf,_, .label _,fr,hp,K=>K.n fr hp
 | .leaf,_, .goto l,fr,hp,K=>K.g l fr hp
 | .leaf,_, .region _ ops false,fr,hp,K=>zd2 C Γ ops.toList ops.toList fr hp K.n
 | .leaf,_, .region _ ops true,fr,hp,K=>bif Region.lexB .any ops then xr C Γ ops.toList ops.toList fr hp fun fr=>K.n fr hp else none
 | .tail n,_, .region _ ops true,fr,hp,K=>bif Region.lexTailB .any ops n then xr C [] ops.toList (ops.toList.take n) fr hp fun fr=>zd2 C Γ ops.toList (ops.toList.drop n) fr hp K.n else none
 | .draw,_, .region _ ops true,fr,hp,K=>bif zk8 ops then zbz C Γ ops.toList 0 ops.toList fr hp fun fr=>K.n fr hp else none
 | .eff N fl anc,_, .region _ ops true,fr,hp,K=>bif zn9 C fl anc ops&&Nat.ble hp.length N then xq C Γ ops.toList N fl anc 0 ops.toList fr ⟨hp, [], []⟩ K.n else none
 | .eff2 f g N an1 an2 perm inv,_, .region _ ops true,fr,hp,K=>bif !Nat.beq f g&&(zok f g 0 ops.toList&&(zsb ops.size perm inv&&(zhb ops.size (zbj g f ops.toList)&&(zn9 C [] an1 (zbj f g ops.toList).toArray&&(zn9 C [] an2 (zdm inv (zbj g f ops.toList) perm).toArray&&Nat.ble hp.length N))))) then
   agree (xq C Γ (zbj f g ops.toList) N [] an1 0 (zbj f g ops.toList) fr ⟨hp, [], []⟩ K.n) (xq C Γ (zdm inv (zbj g f ops.toList) perm) N [] an2 0 (zdm inv (zbj g f ops.toList) perm) fr ⟨hp, [], []⟩ K.n) else none
 | .effl N fl anc,_, .region _ ops true,fr,hp,K=>(match znk ops.toList with
  |some (b,o)=>bif zx4 C fl anc b o&&Nat.ble hp.length N then(xq C Γ b N fl anc 0 b fr ⟨hp, [], []⟩ fun fr hp=>zja C Γ ops.toList fr hp o K.n) else none
  |none=>none)
 | .fro ids a,_,x,fr,hp,K=>zy5 ids hp fun hp=>za7 hp fr fun fr=>run C Γ a x fr hp K
 | .seq a b,_, .seq x y,fr,hp,K=>run C Γ a x fr hp { K with n:=fun fr hp=>run C Γ b y fr hp K}
 | .cond a b,_, .cond c x y,fr,hp,K=>(match c with
  | .tmp t=>qv fr t fun s=>(match s with
   | .bit true=>run C Γ a x fr hp K
   | .bit false=>run C Γ b y fr hp K
   | .val .bool c=>if c=true then jy fr t (.bit true) fun fr=>run C Γ a x fr hp K else jy fr t (.bit false) fun fr=>run C Γ b y fr hp K
   | .ub true c=>if c=true then agree (jy fr t (.bit true) fun fr=>run C Γ a x fr hp K) (jy fr t (.bit false) fun fr=>run C Γ b y fr hp K) else jy fr t (.bit false) fun fr=>run C Γ b y fr hp K
   | .ub false c=>if c=true then agree (jy fr t (.bit true) fun fr=>run C Γ a x fr hp K) (jy fr t (.bit false) fun fr=>run C Γ b y fr hp K) else jy fr t (.bit true) fun fr=>run C Γ a x fr hp K
   |_=>none)
  | .const (.bool true)=>run C Γ a x fr hp K
  | .const (.bool false)=>run C Γ b y fr hp K
  |_=>none)
 | .block a,_, .block i x,fr,hp,K=>run C Γ a x fr hp { K with e:=fun j fr hp=>bif Nat.beq j i then K.n fr hp else K.e j fr hp}
 | .block a,_, .scope x,fr,hp,K=>run C Γ a x fr hp { K with g:=fun _ _ _=>none}
 | .join js a,_,x,fr,hp,K=>zj1 fr (asg x) fun fr0=>
   (run C Γ a (R:=zmf js) x fr hp
    {n:=fun fr hp'=>z3 hp.length js .normal fr hp' some,e:=fun i fr hp'=>z3 hp.length js (.exit i) fr hp' some,r:=fun fr hp'=>z3 hp.length js .ret fr hp' some,g:=fun i fr hp'=>z3 hp.length js (.goto i) fr hp' some}).bind (z0b K fr0 js)
 | .loop hd js a,_, .loop x,fr,hp,K=>zj1 fr (asg x) fun fr0=>zes (zeh hp.length hd fr hp some) fun s0=>
   (iter (fun s:Tup hd.skel.tys=>zlw hd fr0 s fun fr hp1=>run C Γ a (R:=Tup hd.skel.tys ⊕ zmf js) x fr hp1
    {n:=fun fr hp'=>zes (zeh hp.length hd fr hp' some) fun s=>some (.inl s)
     e:=fun i fr hp'=>z3 hp.length js (.exit i) fr hp' fun e=>some (.inr e)
     r:=fun fr hp'=>z3 hp.length js .ret fr hp' fun e=>some (.inr e)
     g:=fun i fr hp'=>z3 hp.length js (.goto i) fr hp' fun e=>some (.inr e)}) s0).bind (z0b K fr0 js)
 | .scope l hd js a b,_, .scope x,fr,hp,K=>(match findLabel x l with
  |none=>none
  |some rest=>zj1 fr (asg x) fun fr0=>
   ((run C Γ a (R:=Tup hd.skel.tys ⊕ zmf js) x fr hp
     {n:=fun fr hp'=>z3 hp.length js .normal fr hp' fun e=>some (.inr e)
      e:=fun i fr hp'=>z3 hp.length js (.exit i) fr hp' fun e=>some (.inr e)
      r:=fun fr hp'=>z3 hp.length js .ret fr hp' fun e=>some (.inr e)
      g:=fun i fr hp'=>bif Nat.beq i l then zes (zeh hp.length hd fr hp' some) fun s=>some (.inl s) else none}).bind
     (Sum.elim (fun s0=>iter (fun s:Tup hd.skel.tys=>zlw hd fr0 s fun fr hp1=>run C Γ b (R:=Tup hd.skel.tys ⊕ zmf js) rest fr hp1
      {n:=fun fr hp'=>z3 hp.length js .normal fr hp' fun e=>some (.inr e)
       e:=fun i fr hp'=>z3 hp.length js (.exit i) fr hp' fun e=>some (.inr e)
       r:=fun fr hp'=>z3 hp.length js .ret fr hp' fun e=>some (.inr e)
       g:=fun i fr hp'=>bif Nat.beq i l then zes (zeh hp.length hd fr hp' some) fun s=>some (.inl s) else none}) s0) some)).bind (z0b K fr0 js))
 |_,_,_,_,_,_=>none
def zdn (C:Ctx) (hp:List HO) (fr:List SV):List ResultVar→(List SV→Option R)→Option R
 | [],k=>k []
 | .tmp t::l,k=>qv fr t fun s=>zdn C hp fr l fun ss=>k (s::ss)
 | .cell a T::l,k=>qv fr a fun s=>zq C.TT T fun i=>xG i hp s fun s=>zdn C hp fr l fun ss=>k (s::ss)
noncomputable def zl (C:Ctx) (Γ:List Con) (sg:Sig) (a:Ann) (fn:Func) (x:Tup sg.ins.tys):Option (Tup sg.outs.tys):=
 match fn.body with
 |none=>none
 |some c=>build (zO sg.ins.objs.length 0) sg.ins (qE _ x) fun vs hos=>
   let ret:=fun(fr:List SV) (hp:List HO)=>zdn C hp fr fn.results.toList fun rs=>zqu sg.ins.objs.length sg.outs rs hp fun ds _ _=>zbi sg.outs.tys ds some
   zw1 SV.skip (fn.ntmps - vs.length) fun sk=>run C Γ a c (vs++sk) hos { n:=ret,e:=fun _ _ _=>none,r:=ret}
end
end Go.Sx
