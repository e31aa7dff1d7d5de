/- The symbolic evaluator, part A: pure types, what they read as in memory, symbolic values. -/
import Derived.WalkKit
import Derived.Deep.QuietTactic
import Derived.BigQuiet
import Derived.StillTail
set_option linter.unusedVariables false
set_option linter.unusedSimpArgs false
namespace Go.Sx
open Go.RowKit
inductive Ty where
 |int (k:IntKind)
 |bool
 |str
 |flt
 |cplx
 |unit
 |sl (e:Ty)
 |arr (n:Nat) (e:Ty)
 |pair (a b:Ty)
 |st (f:Ty)
 |osl (e:Ty)
 deriving DecidableEq
@[reducible] def Ty.den:Ty→Type
 | .int _=>Int
 | .bool=>Bool
 | .str=>ByteArray
 | .flt=>Nat
 | .cplx=>Nat×Nat
 | .unit=>Unit
 | .sl e=>List e.den
 | .arr _ e=>List e.den
 | .pair a b=>a.den×b.den
 | .st f=>f.den
 | .osl e=>Bool×List e.den
@[reducible] def Ty.dflt:(t:Ty)→t.den
 | .int _=>(0:Int)
 | .bool=>false
 | .str=>ByteArray.empty
 | .flt=>(0:Nat)
 | .cplx=>((0:Nat),(0:Nat))
 | .unit=>()
 | .sl _=> []
 | .arr n e=>List.replicate n e.dflt
 | .pair a b=>(a.dflt,b.dflt)
 | .st f=>f.dflt
 | .osl _=>(false, [])
def Ty.size:Ty→Nat
 | .unit=>0
 | .arr n e=>n*e.size
 | .pair a b=>a.size+b.size
 | .st f=>f.size
 |_=>1
def Ty.isAgg:Ty→Bool
 | .arr _ _=>true
 | .st _=>true
 |_=>false
def Ty.one:Ty→Bool
 | .int _| .bool| .str| .flt| .cplx| .sl _| .osl _=>true
 |_=>false
def Ty.flat:Ty→Bool
 | .sl _=>false
 | .osl _=>false
 | .arr _ e=>e.flat
 | .pair a b=>a.flat&&b.flat
 | .st f=>f.flat
 |_=>true
theorem Ty.size_one {t:Ty} (h:t.one=true):t.size=1:=by cases t<;>simp_all [Ty.one,Ty.size]
theorem Ty.one_not_agg {t:Ty} (h:t.one=true):t.isAgg=false:=by cases t<;>simp_all [Ty.one,Ty.isAgg]
abbrev Mem:=Nat→Option (Array Value)
def Mem.le (M M':Mem):Prop:= ∀ b c,M b=some c→ ∃ c',M' b=some c'∧c.toList <+: c'.toList
theorem Mem.le_refl (M:Mem):M.le M:=fun _ c h=>⟨c,h,List.prefix_refl _⟩
theorem Mem.le_trans {M M' M'':Mem} (h:M.le M') (k:M'.le M''):M.le M'':=fun b c hb=>
 let ⟨c1,h1,h2⟩:=h b c hb;let ⟨c2,k1,k2⟩:=k b c1 h1;⟨c2,k1,h2.trans k2⟩
theorem Mem.le_of {M M':Mem} (h: ∀ b c,M b=some c→M' b=some c):M.le M':=fun b c hb=>⟨c,h b c hb,List.prefix_refl _⟩
def xp {α:Type} (R:α→List Value→Prop):List α→List Value→Prop
 | [],cs=>cs= []
 |x::xs,cs=> ∃ c d,cs=c++d∧R x c∧xp R xs d
def Mem.seg (M:Mem) (b off:Nat) (d:List Value):Prop:= ∃ c pre post,M b=some c∧c.toList=pre++(d++post)∧pre.length=off
def Rep (M:Mem):(t:Ty)→t.den→List Value→Prop
 | .int k,x,cs=>cs= [.int k x]
 | .bool,x,cs=>cs= [.bool x]
 | .str,x,cs=>cs= [.string x]
 | .flt,x,cs=>cs= [.float .f64 x]
 | .cplx,x,cs=>cs= [.complex .f64 x.1 x.2]
 | .unit,_,cs=>cs= []
 | .sl e,xs,cs=> ∃ a cap,cs= [.slice a xs.length cap]∧xs.length≤cap∧
   (xs= []∨ ∃ b off d,a=some ⟨b,off,none⟩∧M.seg b off d∧xp (Rep M e) xs d)
 | .osl e,x,cs=> ∃ a cap,cs= [.slice a x.2.length cap]∧x.2.length≤cap∧
   (x.2= []∨ ∃ b off d,a=some ⟨b,off,none⟩∧M.seg b off d∧xp (Rep M e) x.2 d)
 | .arr n e,xs,cs=>xs.length=n∧xp (Rep M e) xs cs
 | .pair a b,x,cs=> ∃ c d,cs=c++d∧Rep M a x.1 c∧Rep M b x.2 d
 | .st f,x,cs=>Rep M f x cs
theorem Mem.seg_mono {M M':Mem} (h:M.le M') {b off:Nat} {d:List Value} (hs:M.seg b off d):M'.seg b off d:=
 let ⟨_,pre,post,h1,h2,h3⟩:=hs;let ⟨c',k1,⟨t,k2⟩⟩:=h _ _ h1;⟨c',pre,post++t,k1,by rw[← k2,h2];simp,h3⟩
theorem zR {α:Type} {R R':α→List Value→Prop} (h: ∀ x cs,R x cs→R' x cs): ∀ {xs:List α} {cs:List Value},xp R xs cs→xp R' xs cs
 | [],_,hr=>hr
 |_::_,_,⟨c,d,e,h1,h2⟩=>⟨c,d,e,h _ _ h1,zR h h2⟩
theorem zz {M M':Mem} (h:M.le M'): ∀ (t:Ty) (x:t.den) (cs:List Value),Rep M t x cs→Rep M' t x cs
 | .int _,_,_,hr=>hr
 | .bool,_,_,hr=>hr
 | .str,_,_,hr=>hr
 | .flt,_,_,hr=>hr
 | .cplx,_,_,hr=>hr
 | .unit,_,_,hr=>hr
 | .sl e,_,_,⟨a,cap,h1,h2,h3⟩=>⟨a,cap,h1,h2,h3.imp id fun⟨b,off,d,k1,k2,k3⟩=>⟨b,off,d,k1,Mem.seg_mono h k2,zR (zz h e) k3⟩⟩
 | .osl e,_,_,⟨a,cap,h1,h2,h3⟩=>⟨a,cap,h1,h2,h3.imp id fun⟨b,off,d,k1,k2,k3⟩=>⟨b,off,d,k1,Mem.seg_mono h k2,zR (zz h e) k3⟩⟩
 | .arr _ e,_,_,⟨h1,h2⟩=>⟨h1,zR (zz h e) h2⟩
 | .pair a b,_,_,⟨c,d,e,h1,h2⟩=>⟨c,d,e,zz h a _ _ h1,zz h b _ _ h2⟩
 | .st f,_,_,hr=>zz h f _ _ hr
theorem jz {M M':Mem}: ∀ (t:Ty) (x:t.den) (cs:List Value),t.flat=true→Rep M t x cs→Rep M' t x cs
 | .int _,_,_,_,hr=>hr
 | .bool,_,_,_,hr=>hr
 | .str,_,_,_,hr=>hr
 | .flt,_,_,_,hr=>hr
 | .cplx,_,_,_,hr=>hr
 | .unit,_,_,_,hr=>hr
 | .sl _,_,_,hf,_=>by simp[Ty.flat] at hf
 | .osl _,_,_,hf,_=>by simp[Ty.flat] at hf
 | .arr _ e,_,_,hf,⟨h1,h2⟩=>⟨h1,zR (fun x cs hr=>jz e x cs hf hr) h2⟩
 | .pair a b,_,_,hf,⟨c,d,e,h1,h2⟩=>by
  simp only[Ty.flat,Bool.and_eq_true] at hf
  exact⟨c,d,e,jz a _ _ hf.1 h1,jz b _ _ hf.2 h2⟩
 | .st f,_,_,hf,hr=>jz f _ _ hf hr
theorem zF {α:Type} {R:α→List Value→Prop} {n:Nat} (h: ∀ x cs,R x cs→cs.length=n): ∀ {xs:List α} {cs:List Value},xp R xs cs→cs.length=xs.length*n
 | [],_,hr=>by simp[xp] at hr;simp[hr]
 |x::xs,_,⟨c,d,e,h1,h2⟩=>by
  rw[e,List.length_append,h _ _ h1,zF h h2,List.length_cons,Nat.add_mul];omega
theorem zc {M:Mem}: ∀ (t:Ty) (x:t.den) (cs:List Value),Rep M t x cs→cs.length=t.size
 | .int _,_,_,hr=>by simp[Rep] at hr;simp[hr,Ty.size]
 | .bool,_,_,hr=>by simp[Rep] at hr;simp[hr,Ty.size]
 | .str,_,_,hr=>by simp[Rep] at hr;simp[hr,Ty.size]
 | .flt,_,_,hr=>by simp[Rep] at hr;simp[hr,Ty.size]
 | .cplx,_,_,hr=>by simp[Rep] at hr;simp[hr,Ty.size]
 | .unit,_,_,hr=>by simp[Rep] at hr;simp[hr,Ty.size]
 | .sl _,_,_,⟨a,cap,h1,_,_⟩=>by simp[h1,Ty.size]
 | .osl _,_,_,⟨a,cap,h1,_,_⟩=>by simp[h1,Ty.size]
 | .arr n e,_,_,⟨h1,h2⟩=>by rw[zF (zc e) h2,h1];rfl
 | .pair a b,_,_,⟨c,d,e,h1,h2⟩=>by rw[e,List.length_append,zc a _ _ h1,zc b _ _ h2];rfl
 | .st f,_,_,hr=>zc f _ _ hr
theorem xD {α:Type} {R:α→List Value→Prop} {p:Value→Prop} (h: ∀ x cs,R x cs→ ∀ v∈cs,p v): ∀ {xs:List α} {cs:List Value},xp R xs cs→ ∀ v∈cs,p v
 | [],_,hr=>by simp[xp] at hr;simp[hr]
 |x::xs,_,⟨c,d,e,h1,h2⟩=>by
  intro v hv
  rw[e] at hv
  rcases List.mem_append.1 hv with hv|hv
  ·exact h _ _ h1 v hv
  ·exact xD h h2 v hv
theorem zH {M:Mem}: ∀ (t:Ty) (x:t.den) (cs:List Value),Rep M t x cs→ ∀ v∈cs,v.oneCell'=true
 | .int _,_,_,hr=>by simp[Rep] at hr;simp[hr,Value.oneCell']
 | .bool,_,_,hr=>by simp[Rep] at hr;simp[hr,Value.oneCell']
 | .str,_,_,hr=>by simp[Rep] at hr;simp[hr,Value.oneCell']
 | .flt,_,_,hr=>by simp[Rep] at hr;simp[hr,Value.oneCell']
 | .cplx,_,_,hr=>by simp[Rep] at hr;simp[hr,Value.oneCell']
 | .unit,_,_,hr=>by simp[Rep] at hr;simp[hr]
 | .sl _,_,_,⟨a,cap,h1,_,_⟩=>by simp[h1,Value.oneCell']
 | .osl _,_,_,⟨a,cap,h1,_,_⟩=>by simp[h1,Value.oneCell']
 | .arr n e,_,_,⟨h1,h2⟩=>xD (zH e) h2
 | .pair a b,_,_,⟨c,d,e,h1,h2⟩=>by
  intro v hv
  rw[e] at hv
  rcases List.mem_append.1 hv with hv|hv
  ·exact zH a _ _ h1 v hv
  ·exact zH b _ _ h2 v hv
 | .st f,_,_,hr=>zH f _ _ hr
theorem qS {α:Type} {R:α→List Value→Prop}: ∀ {xs ys:List α} {cs ds:List Value},xp R xs cs→xp R ys ds→xp R (xs++ys) (cs++ds)
 | [],_,_,_,h1,h2=>by simp[xp] at h1;simpa [h1] using h2
 |x::xs,ys,cs,ds,⟨c,d,e,h1,h2⟩,h3=>⟨c,d++ds,by rw[e,List.append_assoc],h1,qS h2 h3⟩
theorem q9 {α:Type} {R:α→List Value→Prop} {n:Nat} (hn: ∀ x cs,R x cs→cs.length=n):
  ∀ {xs:List α} {cs:List Value} (i:Nat) (hi:i<xs.length),xp R xs cs→
   ∃ p c q,cs=p++(c++q)∧p.length=i*n∧R xs[i] c∧ ∀ y c',R y c'→xp R (xs.set i y) (p++(c'++q))
 | [],_,i,hi,_=>by simp at hi
 |x::xs,_,0,_,⟨c,d,e,h1,h2⟩=>⟨[],c,d,by simpa using e,by simp,by simpa using h1,fun y c' hy=>⟨c',d,by simp,hy,h2⟩⟩
 |x::xs,_,i+1,hi,⟨c,d,e,h1,h2⟩=>by
  obtain⟨p,c1,q,e1,e2,e3,e4⟩:=q9 hn i (by simpa using hi) h2
  refine⟨c++p,c1,q,by rw[e,e1];simp,by rw[List.length_append,e2,hn _ _ h1,Nat.add_mul];omega,by simpa using e3,fun y c' hy=> ?_⟩
  exact⟨c,p++(c'++q),by simp,h1,e4 y c' hy⟩
theorem qc {α:Type} {R:α→List Value→Prop} {n:Nat} (hn: ∀ x cs,R x cs→cs.length=n):
  ∀ (k:Nat) {xs:List α} {cs:List Value},xp R xs cs→ ∃ c d,cs=c++d∧xp R (xs.take k) c∧xp R (xs.drop k) d∧c.length=(xs.take k).length*n
 |0,xs,cs,h=>⟨[],cs,by simp,by simp[xp],by simpa using h,by simp⟩
 |k+1, [],cs,h=>by simp[xp] at h;exact⟨[], [],by simp[h],by simp[xp],by simp[xp],by simp⟩
 |k+1,x::xs,cs,⟨c,d,e,h1,h2⟩=>by
  obtain⟨c1,d1,e1,e2,e3,e4⟩:=qc hn k h2
  refine⟨c++c1,d1,by rw[e,e1];simp,⟨c,c1,rfl,h1,e2⟩,by simpa using e3, ?_⟩
  rw[List.length_append,hn _ _ h1,e4,List.take_succ_cons,List.length_cons,Nat.add_mul];omega
@[reducible] def Ty.er:Ty→Ty
 | .osl e=> .sl e
 | .arr n e=> .arr n e.er
 | .pair a b=> .pair a.er b.er
 | .st f=> .st f.er
 |t=>t
def Ty.erD:(t:Ty)→t.den→t.er.den
 | .osl _,x=>x.2
 | .arr _ e,xs=>xs.map e.erD
 | .pair a b,x=>(a.erD x.1,b.erD x.2)
 | .st f,x=>f.erD x
 | .int _,x=>x
 | .bool,x=>x
 | .str,x=>x
 | .flt,x=>x
 | .cplx,x=>x
 | .unit,x=>x
 | .sl _,x=>x
def Ty.lift:(t:Ty)→t.er.den→t.den
 | .osl _,x=>(false,x)
 | .arr _ e,xs=>xs.map e.lift
 | .pair a b,x=>(a.lift x.1,b.lift x.2)
 | .st f,x=>f.lift x
 | .int _,x=>x
 | .bool,x=>x
 | .str,x=>x
 | .flt,x=>x
 | .cplx,x=>x
 | .unit,x=>x
 | .sl _,x=>x
theorem xU {α β:Type} {R:α→List Value→Prop} {S:β→List Value→Prop} {f:α→β} (h: ∀ x cs,R x cs→S (f x) cs): ∀ {xs:List α} {cs:List Value},xp R xs cs→xp S (xs.map f) cs
 | [],_,hr=>hr
 |_::_,_,⟨c,d,e,h1,h2⟩=>⟨c,d,e,h _ _ h1,xU h h2⟩
theorem zfm {M:Mem}: ∀ (t:Ty) (x:t.den) (cs:List Value),Rep M t x cs→Rep M t.er (t.erD x) cs
 | .osl _,_,_,h=>h
 | .arr _ e,_,_,⟨h1,h2⟩=>⟨by simpa [Ty.erD] using h1,xU (zfm e) h2⟩
 | .pair a b,_,_,⟨c,d,e,h1,h2⟩=>⟨c,d,e,zfm a _ _ h1,zfm b _ _ h2⟩
 | .st f,_,_,h=>zfm f _ _ h
 | .int _,_,_,h=>h
 | .bool,_,_,h=>h
 | .str,_,_,h=>h
 | .flt,_,_,h=>h
 | .cplx,_,_,h=>h
 | .unit,_,_,h=>h
 | .sl _,_,_,h=>h
theorem zag {M:Mem}: ∀ (t:Ty) (x:t.er.den) (cs:List Value),Rep M t.er x cs→Rep M t (t.lift x) cs
 | .osl _,_,_,h=>h
 | .arr _ e,_,_,⟨h1,h2⟩=>⟨by simpa [Ty.lift] using h1,xU (zag e) h2⟩
 | .pair a b,_,_,⟨c,d,e,h1,h2⟩=>⟨c,d,e,zag a _ _ h1,zag b _ _ h2⟩
 | .st f,_,_,h=>zag f _ _ h
 | .int _,_,_,h=>h
 | .bool,_,_,h=>h
 | .str,_,_,h=>h
 | .flt,_,_,h=>h
 | .cplx,_,_,h=>h
 | .unit,_,_,h=>h
 | .sl _,_,_,h=>h
theorem Ty.er_size: ∀ t:Ty,t.er.size=t.size
 | .osl _=>rfl
 | .arr n e=>by simp[Ty.size,Ty.er_size e]
 | .pair a b=>by simp[Ty.size,Ty.er_size a,Ty.er_size b]
 | .st f=>by simp[Ty.size,Ty.er_size f]
 | .int _=>rfl
 | .bool=>rfl
 | .str=>rfl
 | .flt=>rfl
 | .cplx=>rfl
 | .unit=>rfl
 | .sl _=>rfl
theorem Ty.er_isAgg: ∀ t:Ty,t.er.isAgg=t.isAgg:=fun t=>by cases t<;>rfl
def Ty.noOwn:Ty→Bool
 | .osl _=>false
 | .arr _ e=>e.noOwn
 | .pair a b=>a.noOwn&&b.noOwn
 | .st f=>f.noOwn
 |_=>true
inductive SV where
 |und
 |skip
 |bit (b:Bool)
 |ub (p c:Bool)
 |val (t:Ty) (x:t.den)
 |nils
 |nil0
 |own (id:Nat) (len:Option Nat)
 |nilp
 |ptr (id off:Nat)
 |elt (id:Nat) (t:Ty) (i:Nat) (path:List Nat)
 |vw (id:Nat) (t:Ty) (off len:Nat)
 |mp (id:Nat)
 |ro (t:Ty) (x:t.den)
 |agg (l:List SV)
 |tup (l:List SV)
 |fn (f:FuncId) (l:List SV)
structure LE where
 blk:Option Nat
 len:Nat:=0
 cap:Nat:=0
 dead:Option Addr:=none
structure Env where
 M:Mem
 L:List LE
def Env.le (E E':Env):Prop:=E.M.le E'.M∧ ∀ (i:Nat) (e:LE),E.L[i]? =some e→E'.L[i]? =some e
theorem Env.le_refl (E:Env):E.le E:=⟨Mem.le_refl _,fun _ _ h=>h⟩
theorem Env.le_trans {E E' E'':Env} (h:E.le E') (k:E'.le E''):E.le E'':=⟨Mem.le_trans h.1 k.1,fun i e hi=>k.2 i e (h.2 i e hi)⟩
def zG (t:Ty) (cs:List Value):Value:=bif t.isAgg then .agg cs.toArray else cs.headD undef
def Ty.fieldOff:Ty→Nat→Nat
 | .pair a b,i+1=>a.size+b.fieldOff i
 |_,_=>0
def Ty.fieldTy:Ty→Nat→Option Ty
 | .pair a _,0=>some a
 | .pair _ b,i+1=>b.fieldTy i
 |t,0=>some t
 |_,_+1=>none
def Ty.pathOff:Ty→List Nat→Nat
 | .st f,i::p=>f.fieldOff i+(match f.fieldTy i with|some t=>t.pathOff p|none=>0)
 |_,_=>0
termination_by structural _ p=>p
def LE.addr (e:LE):Option Addr:=match e.blk with
 |some b=>some ⟨b,0,none⟩
 |none=>e.dead
mutual
def SV.sat (E:Env):SV→Value→Prop
 | .und,_=>True
 | .skip,v=>v=undef
 | .bit b,v=>v= .bool b
 | .ub p c,v=> ∃ b,v= .bool b∧(b=p→c=true)
 | .val t x,v=> ∃ cs,Rep E.M t x cs∧v=zG t cs
 | .nils,v=>v= .slice none 0 0
 | .nil0,v=> ∃ ad,v= .slice ad 0 0
 | .own id len,v=> ∃ e,E.L[id]? =some e∧(len.getD e.len)≤e.len∧v= .slice e.addr (len.getD e.len) e.cap
 | .nilp,v=>v= .pointer none
 | .ptr id off,v=> ∃ e b,E.L[id]? =some e∧e.blk=some b∧v= .pointer (some ⟨b,off,none⟩)
 | .elt id t i p,v=> ∃ e b,E.L[id]? =some e∧e.blk=some b∧i<e.len∧v= .pointer (some ⟨b,i*t.size+t.pathOff p,none⟩)
 | .vw id t off len,v=> ∃ e ad cap,E.L[id]? =some e∧off+len≤e.len∧v= .slice ad len cap∧(len=0∨ ∃ b,e.blk=some b∧ad=some ⟨b,off*t.size,none⟩)
 | .mp id,v=> ∃ e b,E.L[id]? =some e∧e.blk=some b∧v= .map (some b)
 | .ro t x,v=> ∃ b off d,v= .pointer (some ⟨b,off,none⟩)∧E.M.seg b off d∧Rep E.M t x d
 | .agg l,v=> ∃ cs:List Value,v= .agg cs.toArray∧SV.satL E l cs
 | .tup l,v=> ∃ cs:List Value,v= .tuple cs.toArray∧SV.satL E l cs
 | .fn f l,v=> ∃ cs:List Value,v= .func (.func f) #[] cs.toArray∧SV.satL E l cs
def SV.satL (E:Env):List SV→List Value→Prop
 | [],vs=>vs= []
 |s::l,vs=> ∃ v ws,vs=v::ws∧s.sat E v∧SV.satL E l ws
end
mutual
theorem SV.sat_mono {E E':Env} (h:E.le E'): ∀ (s:SV) (v:Value),s.sat E v→s.sat E' v
 | .und,_,_=>by simp[SV.sat]
 | .skip,_,hs=>by simpa [SV.sat] using hs
 | .bit _,_,hs=>by simpa [SV.sat] using hs
 | .ub _ _,_,hs=>by simpa [SV.sat] using hs
 | .val t x,_,hs=>by
  simp only[SV.sat] at hs ⊢
  obtain⟨cs,h1,h2⟩:=hs
  exact⟨cs,zz h.1 t x cs h1,h2⟩
 | .nils,_,hs=>by simpa [SV.sat] using hs
 | .nil0,_,hs=>by simpa [SV.sat] using hs
 | .own id len,_,hs=>by
  simp only[SV.sat] at hs ⊢
  obtain⟨e,h1,h2⟩:=hs
  exact⟨e,h.2 _ _ h1,h2⟩
 | .nilp,_,hs=>by simpa [SV.sat] using hs
 | .ptr id off,_,hs=>by
  simp only[SV.sat] at hs ⊢
  obtain⟨e,b,h1,h2⟩:=hs
  exact⟨e,b,h.2 _ _ h1,h2⟩
 | .elt id t i p,_,hs=>by
  simp only[SV.sat] at hs ⊢
  obtain⟨e,b,h1,h2⟩:=hs
  exact⟨e,b,h.2 _ _ h1,h2⟩
 | .vw id t off len,_,hs=>by
  simp only[SV.sat] at hs ⊢
  obtain⟨e,ad,cap,h1,h2⟩:=hs
  exact⟨e,ad,cap,h.2 _ _ h1,h2⟩
 | .mp id,_,hs=>by
  simp only[SV.sat] at hs ⊢
  obtain⟨e,b,h1,h2⟩:=hs
  exact⟨e,b,h.2 _ _ h1,h2⟩
 | .ro t x,_,hs=>by
  simp only[SV.sat] at hs ⊢
  obtain⟨b,off,d,h1,h2,h3⟩:=hs
  exact⟨b,off,d,h1,Mem.seg_mono h.1 h2,zz h.1 t x d h3⟩
 | .agg l,_,hs=>by
  simp only[SV.sat] at hs ⊢
  obtain⟨cs,h1,h2⟩:=hs
  exact⟨cs,h1,SV.satL_mono h l cs h2⟩
 | .tup l,_,hs=>by
  simp only[SV.sat] at hs ⊢
  obtain⟨cs,h1,h2⟩:=hs
  exact⟨cs,h1,SV.satL_mono h l cs h2⟩
 | .fn f l,_,hs=>by
  simp only[SV.sat] at hs ⊢
  obtain⟨cs,h1,h2⟩:=hs
  exact⟨cs,h1,SV.satL_mono h l cs h2⟩
theorem SV.satL_mono {E E':Env} (h:E.le E'): ∀ (l:List SV) (vs:List Value),SV.satL E l vs→SV.satL E' l vs
 | [],_,hs=>by simpa [SV.satL] using hs
 |s::l,_,hs=>by
  simp only[SV.satL] at hs ⊢
  obtain⟨v,ws,h1,h2,h3⟩:=hs
  exact⟨v,ws,h1,SV.sat_mono h s v h2,SV.satL_mono h l ws h3⟩
end
theorem SV.satL_length {E:Env}: ∀ {l:List SV} {vs:List Value},SV.satL E l vs→vs.length=l.length
 | [],_,h=>by simp[SV.satL] at h;simp[h]
 |s::l,_,h=>by
  simp only[SV.satL] at h
  obtain⟨v,ws,h1,_,h3⟩:=h
  rw[h1,List.length_cons,List.length_cons,SV.satL_length h3]
theorem SV.satL_get {E:Env}: ∀ {l:List SV} {vs:List Value} (i:Nat) {s:SV},SV.satL E l vs→l[i]? =some s→ ∃ v,vs[i]? =some v∧s.sat E v
 | [],_,_,_,_,hi=>by simp at hi
 |s::l,_,0,s',h,hi=>by
  simp only[SV.satL] at h
  obtain⟨v,ws,h1,h2,h3⟩:=h
  simp at hi
  subst hi
  exact⟨v,by simp[h1],h2⟩
 |s::l,_,i+1,s',h,hi=>by
  simp only[SV.satL] at h
  obtain⟨v,ws,h1,h2,h3⟩:=h
  simp at hi
  obtain⟨u,hu,hs⟩:=SV.satL_get i h3 hi
  exact⟨u,by simp[h1,hu],hs⟩
theorem SV.satL_append {E:Env}: ∀ {l m:List SV} {vs ws:List Value},SV.satL E l vs→SV.satL E m ws→SV.satL E (l++m) (vs++ws)
 | [],_,_,_,h1,h2=>by simp[SV.satL] at h1;simpa [h1] using h2
 |s::l,m,_,_,h1,h2=>by
  simp only[SV.satL] at h1
  obtain⟨v,us,e,hs,hl⟩:=h1
  simp only[List.cons_append,SV.satL]
  exact⟨v,_,by rw[e];rfl,hs,SV.satL_append hl h2⟩
theorem SV.satL_split {E:Env}: ∀ {l m:List SV} {vs:List Value},SV.satL E (l++m) vs→ ∃ us ws,vs=us++ws∧SV.satL E l us∧SV.satL E m ws
 | [],_,vs,h=>⟨[],vs,rfl,by simp[SV.satL],h⟩
 |s::l,m,vs,h=>by
  simp only[List.cons_append,SV.satL] at h
  obtain⟨v,us,e,hs,hl⟩:=h
  obtain⟨u1,w1,e1,k1,k2⟩:=SV.satL_split hl
  refine⟨v::u1,w1,by rw[e,e1];rfl, ?_,k2⟩
  simp only[SV.satL]
  exact⟨v,u1,rfl,hs,k1⟩
end Go.Sx
