/- The symbolic evaluator, part E: the operations that turn nothing are told rightly. -/
import Derived.Test.YtlppdabhaipbkaaGreatDoorSxD
import Derived.ChangeKeysEq
set_option linter.unusedVariables false
set_option linter.unusedSimpArgs false
namespace Go.Sx
open Go.RowKit
section
variable {R:Type} {r:R} {P:Program} {C:Ctx} {B:Base} {E:Env} {fr:List SV} {hp:List HO} {a:Act} {w:World} {o:Oper} {k:SV→Option R}
def zy9 (P:Program) (a:Act) (o:Oper) (w:World) (v:Value):Prop:= ∀ w',Below w.heap.size w w'→(execOp a.eval o).run P w'= .ok (.value v) w'
def xS (P:Program) (E:Env) (a:Act) (o:Oper) (w:World) (k:SV→Option R) (r:R):Prop:=
 ∃ v s,s.sat E v∧k s=some r∧zy9 P a o w v
theorem qi {T:TypeId} {f:TypeInfo} (h:P.info? T=some f) (w:World):(typeInfo T).run P w= .ok f w:=by
 simp[typeInfo,h]
theorem z4 {T:TypeId} {f:TypeInfo} (h:P.info? T=some f) (w:World):(sizeOf T).run P w= .ok f.size w:=by
 simp[sizeOf,qi h]
theorem zcc {T:TypeId} {d:TypeDesc} (h:P.underlying T=some d) (w:World):(isAgg T).run P w= .ok (descAgg d) w:=by
 unfold isAgg
 rw[Sem.run_bind,run_underlying h]
 cases d<;>rfl
theorem zj8 {x:Operand} (hf:SV.satL E fr a.tmps.toList) (hg:C.globsOk E.M) (ho:o.op= .move x∨o.op= .assign x) (h:opd C fr x k=some r):xS P E a o w k r:=by
 obtain⟨s,h1,h2⟩:=zh hf hg h
 refine⟨_,s,h1,h2,fun w' _=> ?_⟩
 rcases ho with ho|ho<;>simp[execOp,ho]
theorem jK {M:Mem} {b:Bool} {v:Value} (h: ∃ cs,Rep M .bool b cs∧v=zG .bool cs):v= .bool b:=by
 obtain⟨cs,h1,h2⟩:=h
 simp only[Rep] at h1
 subst h1
 exact h2
theorem xm {M:Mem} {i:IntKind} {n:Int} {v:Value} (h: ∃ cs,Rep M (.int i) n cs∧v=zG (.int i) cs):v= .int i n:=by
 obtain⟨cs,h1,h2⟩:=h
 simp only[Rep] at h1
 subst h1
 exact h2
theorem zl3 {M:Mem} {b:ByteArray} {v:Value} (h: ∃ cs,Rep M .str b cs∧v=zG .str cs):v= .string b:=by
 obtain⟨cs,h1,h2⟩:=h
 simp only[Rep] at h1
 subst h1
 exact h2
theorem zl2 {M:Mem} {n:Nat} {v:Value} (h: ∃ cs,Rep M .flt n cs∧v=zG .flt cs):v= .float .f64 n:=by
 obtain⟨cs,h1,h2⟩:=h
 rw[h2,h1];rfl
theorem zgr {M:Mem} {z:Nat×Nat} {v:Value} (h: ∃ cs,Rep M .cplx z cs∧v=zG .cplx cs):v= .complex .f64 z.1 z.2:=by
 obtain⟨cs,h1,h2⟩:=h
 rw[h2,h1];rfl
theorem zpl (n:Nat):SV.sat E (.val .flt n) (.float .f64 n):=by
 simp only[SV.sat];exact⟨_,rfl,rfl⟩
theorem zq5 (z:Nat×Nat):SV.sat E (.val .cplx z) (.complex .f64 z.1 z.2):=by
 simp only[SV.sat];exact⟨_,rfl,rfl⟩
theorem qt {i:IntKind} (n:Int):SV.sat E (.val (.int i) n) (.int i n):=by
 simp only[SV.sat];exact⟨[.int i n],rfl,rfl⟩
theorem qu (b:Bool):SV.sat E (.val .bool b) (.bool b):=by
 simp only[SV.sat];exact⟨[.bool b],rfl,rfl⟩
theorem zfj (b:Bool):SV.sat E (.bit b) (.bool b):=by simp[SV.sat]
theorem zse {c x y:SV} {vc vx vy:Value} (hc:c.sat E vc) (hx:x.sat E vx) (hy:y.sat E vy) (h:zsd c x y k=some r):
  ∃ b s,vc= .bool b∧s.sat E (if b=true then vx else vy)∧k s=some r:=by
 unfold zsd at h
 split at h
 case h_1=>exact⟨true,x,by simpa [SV.sat] using hc,by simpa using hx,h⟩
 case h_2=>exact⟨false,y,by simpa [SV.sat] using hc,by simpa using hy,h⟩
 case h_3 c=>
  simp only[SV.sat] at hc
  have hc':=jK hc
  split at h
  case h_1 t u t' u'=>
   split at h
   case isTrue ht=>
    subst ht
    refine⟨c,_,hc', ?_,h⟩
    cases c
    ·simpa using hy
    ·simpa using hx
   case isFalse=>cases h
  case h_2=>
   obtain⟨b1,e1,h1⟩:=zdv hx h
   obtain⟨b2,e2,h2⟩:=zdv hy h1
   refine⟨c,_,hc', ?_,h2⟩
   subst e1;subst e2
   cases c<;>exact qu _
 case h_4=>cases h
theorem zsf {c x y:Operand} (hf:SV.satL E fr a.tmps.toList) (hg:C.globsOk E.M) (ho:o.op= .pick c x y)
  (h:(opd C fr c fun c=>opd C fr x fun a=>opd C fr y fun b=>zsd c a b k)=some r):xS P E a o w k r:=by
 replace h:=zh hf hg h;obtain⟨sc,c1,h⟩:=h
 replace h:=zh hf hg h;obtain⟨sx,x1,h⟩:=h
 replace h:=zh hf hg h;obtain⟨sy,y1,h⟩:=h
 obtain⟨b,s,e,hs,hk⟩:=zse c1 x1 y1 h
 refine⟨_,s,hs,hk,fun w' _=> ?_⟩
 simp[execOp,ho,e,asBool]
theorem zum {x:Operand} (hf:SV.satL E fr a.tmps.toList) (hg:C.globsOk E.M) (ho:o.op= .nilCheck x)
  (h:(opd C fr x fun x=>(match x with
  | .ptr id off=>k (.ptr id off)
  | .elt id t i p=>k (.elt id t i p)
  | .ro t x=>k (.ro t x)
  | .fn f l=>k (.fn f l)
  |_=>none))=some r):xS P E a o w k r:=by
 replace h:=zh hf hg h;obtain⟨s,s1,h⟩:=h
 split at h
 case h_1 id off=>
  refine⟨_,_,s1,h,fun w' _=> ?_⟩
  simp only[SV.sat] at s1
  obtain⟨e,b,_,_,hv⟩:=s1
  simp[execOp,ho,hv]
 case h_2=>
  refine⟨_,_,s1,h,fun w' _=> ?_⟩
  simp only[SV.sat] at s1
  obtain⟨e,b,_,_,_,hv⟩:=s1
  simp[execOp,ho,hv]
 case h_3=>
  refine⟨_,_,s1,h,fun w' _=> ?_⟩
  simp only[SV.sat] at s1
  obtain⟨b,off,d,hv,_⟩:=s1
  simp[execOp,ho,hv]
 case h_4=>
  refine⟨_,_,s1,h,fun w' _=> ?_⟩
  simp only[SV.sat] at s1
  obtain⟨cs,hv,_⟩:=s1
  simp[execOp,ho,hv]
 case h_5=>cases h
theorem zrm {src dst:TypeId} {x:Operand} (hC:C.ok P) (hf:SV.satL E fr a.tmps.toList) (hg:C.globsOk E.M) (ho:o.op= .convert src dst x)
  (h:(zq C.TT src fun _=>zq C.TT dst fun i=>opd C fr x fun x=>(match i.kind,x with
  | .int j, .val (.int _) n=>k (.val (.int j) (j.wrap n))
  | .flt, .val (.int _) n=>k (.val .flt (zt2 n))
  |_,_=>none))=some r):xS P E a o w k r:=by
 replace h:=zd h;obtain⟨i0,hi0,h⟩:=h
 replace h:=zd h;obtain⟨i,hi,h⟩:=h
 obtain⟨d0,hd0,_⟩:=(hC.types _ _ hi0).under
 replace h:=zh hf hg h;obtain⟨s,s1,h⟩:=h
 split at h
 case h_1 j i' n hk=>
  have hj:=(hC.types _ _ hi).kind
  rw[hk] at hj
  simp only at hj
  simp only[SV.sat] at s1
  have hv:=xm s1
  refine⟨_,_,qt _,h,fun w' _=> ?_⟩
  simp[execOp,ho,hv,convert,run_underlying hj,run_underlying hd0,Conv.intToInt]
 case h_2 i' n hk=>
  have hj:=(hC.types _ _ hi).kind
  rw[hk] at hj
  simp only at hj
  simp only[SV.sat] at s1
  have hv:=xm s1
  refine⟨_,_,zpl _,h,fun w' _=> ?_⟩
  simp[execOp,ho,hv,convert,run_underlying hj,run_underlying hd0,Conv.intToFloat,zt2]
 case h_3=>cases h
theorem zxd {op:UnOp} {T:TypeId} {x:Operand} (hf:SV.satL E fr a.tmps.toList) (hg:C.globsOk E.M) (ho:o.op= .unOp op T x)
  (h:(opd C fr x fun x=>zzf op x k)=some r):xS P E a o w k r:=by
 replace h:=zh hf hg h;obtain⟨s,s1,h⟩:=h
 unfold zzf at h
 split at h
 case h_1 b=>
  have hv:a.eval x= .bool b:=by simpa [SV.sat] using s1
  exact⟨_,_,zfj _,h,fun w' _=>by simp[execOp,ho,hv,Op.unary]⟩
 case h_2=>
  simp only[SV.sat] at s1
  have hv:=jK s1
  exact⟨_,_,qu _,h,fun w' _=>by simp[execOp,ho,hv,Op.unary]⟩
 case h_3=>
  simp only[SV.sat] at s1
  have hv:=xm s1
  exact⟨_,_,qt _,h,fun w' _=>by simp[execOp,ho,hv,Op.unary,Op.intArith]⟩
 case h_4=>cases h
theorem zgl {c:Prop} [Decidable c] {x:Option R} (h:(if c then none else x)=some r): ¬ c∧x=some r:=by
 split at h
 ·cases h
 ·exact⟨by assumption,h⟩
theorem zB {c:Prop} [Decidable c] {x:c→Option R} (h:(if h:c then x h else none)=some r): ∃ hc:c,x hc=some r:=by
 split at h
 ·exact⟨by assumption,h⟩
 ·cases h
theorem zy {c:Prop} [Decidable c] {x:Option R} (h:(if c then x else none)=some r):c∧x=some r:=by
 split at h
 ·exact⟨by assumption,h⟩
 ·cases h
theorem zwq {op:BinOp} {y:Operand} {i:IntKind} {n:Int} (h:zr3 op y=true) (he:a.eval y= .int i n) (hs:xO op=false):n≠0:=by
 unfold zr3 at h
 split at h
 case h_1 j m=>
  simp only[Act.eval] at he
  cases he
  cases op<;>simp_all [xO]
 case h_2=>cases h
theorem zuf {op:BinOp} {y:Operand} {i:IntKind} {n:Int} (h:zr3 op y=true) (he:a.eval y= .int i n) (hs:xO op=true):0≤n:=by
 unfold zr3 at h
 split at h
 case h_1 j m=>
  simp only[Act.eval] at he
  cases he
  cases op<;>simp_all [xO]
 case h_2=>cases h
theorem zrv {op:BinOp} {i:IntKind} {n m:Int} {lit:Bool} (hs:xO op=false) (hl:lit=true→m≠0) (h:zru op i n m lit k=some r):
  ∃ v s,s.sat E v∧k s=some r∧ ∀ T w,(binOp op T (.int i n) (.int i m)).run P w= .ok v w:=by
 have hz:op= .quo∨op= .rem→m≠0∧(k (.val (.int i) (i.wrap (n.tdiv m)))=some r∨op≠ .quo)∧(k (.val (.int i) (n.tmod m))=some r∨op≠ .rem):=by
  rintro (rfl|rfl)
  ·simp only[zru] at h
   cases lit with
   |true=>exact⟨hl rfl, .inl h, .inr (by simp)⟩
   |false=>
    obtain⟨h1,h2⟩:=zgl h
    exact⟨h1, .inl h2, .inr (by simp)⟩
  ·simp only[zru] at h
   cases lit with
   |true=>exact⟨hl rfl, .inr (by simp), .inl h⟩
   |false=>
    obtain⟨h1,h2⟩:=zgl h
    exact⟨h1, .inr (by simp), .inl h2⟩
 cases op
 case quo=>
  obtain⟨h0,h1,_⟩:=hz (.inl rfl)
  exact⟨_,_,qt _,h1.resolve_right (by simp),fun T w=>by simp[binOp,Op.intDiv,h0]⟩
 case rem=>
  obtain⟨h0,_,h1⟩:=hz (.inr rfl)
  exact⟨_,_,qt _,h1.resolve_right (by simp),fun T w=>by simp[binOp,Op.intDiv,h0]⟩
 case shl=>simp[xO] at hs
 case shr=>simp[xO] at hs
 all_goals first
  |exact⟨_,_,qt _,h,fun T w=>by simp[binOp,Op.intArith,Op.intBits]⟩
  |exact⟨_,_,qu _,h,fun T w=>by simp[binOp,Op.intCmp]⟩
theorem zm8 {op:BinOp} {i j:IntKind} {n m:Int} {lit:Bool} (hl:lit=true→0≤m) (h:zdg op i n m lit k=some r):
  ∃ v s,s.sat E v∧k s=some r∧ ∀ T w,(binOp op T (.int i n) (.int j m)).run P w= .ok v w:=by
 cases op
 case shl=>
  simp only[zdg] at h
  have: ¬ m<0∧k (.val (.int i) (i.wrap (n*2 ^ min m.toNat i.bits)))=some r:=by
   cases lit with
   |true=>exact⟨by have:=hl rfl;omega,h⟩
   |false=>exact zgl h
  exact⟨_,_,qt _,this.2,fun T w=>by simp[binOp,Op.shift,this.1]⟩
 case shr=>
  simp only[zdg] at h
  have: ¬ m<0∧k (.val (.int i) (n.fdiv (2 ^ min m.toNat i.bits)))=some r:=by
   cases lit with
   |true=>exact⟨by have:=hl rfl;omega,h⟩
   |false=>exact zgl h
  exact⟨_,_,qt _,this.2,fun T w=>by simp[binOp,Op.shift,this.1]⟩
 all_goals simp[zdg] at h
theorem zbe {T:TypeId} (hu:P.underlying T=some .bool) (d:Nat) (a b:Bool) (w:World):(Op.equalIn (d+1) T (.bool a) (.bool b)).run P w= .ok (a==b) w:=by
 simp[Op.equalIn,run_underlying hu]
theorem zc6 {T:TypeId} (hu:P.underlying T=some .bool) (a b:Bool) (w:World):(Op.equal T (.bool a) (.bool b)).run P w= .ok (a==b) w:=zbe hu 9999 a b w
theorem zih {T e:TypeId} (hu:P.underlying T=some (.pointer e)) (d:Nat) (w:World):(Op.equalIn (d+1) T (.pointer none) (.pointer none)).run P w= .ok true w:=by
 simp[Op.equalIn,run_underlying hu]
theorem zen {T e:TypeId} (hu:P.underlying T=some (.pointer e)) (w:World):(Op.equal T (.pointer none) (.pointer none)).run P w= .ok true w:=zih hu 9999 w
theorem zfh {T e:TypeId} (hu:P.underlying T=some (.slice e)) (d:Nat) (ad:Option Addr) (n m:Nat) (w:World):(Op.equalIn (d+1) T (.slice ad n m) (.slice none 0 0)).run P w= .ok ad.isNone w:=by
 cases ad<;>simp[Op.equalIn,run_underlying hu]
theorem xo {T e:TypeId} (hu:P.underlying T=some (.slice e)) (ad:Option Addr) (n m:Nat) (w:World):(Op.equal T (.slice ad n m) (.slice none 0 0)).run P w= .ok ad.isNone w:=by
 exact zfh hu 9999 ad n m w
theorem zf9 {T e:TypeId} (hu:P.underlying T=some (.pointer e)) (d:Nat) (x:Addr) (w:World):(Op.equalIn (d+1) T (.pointer (some x)) (.pointer none)).run P w= .ok false w:=by
 simp[Op.equalIn,run_underlying hu]
theorem zc7 {T e:TypeId} (hu:P.underlying T=some (.pointer e)) (x:Addr) (w:World):(Op.equal T (.pointer (some x)) (.pointer none)).run P w= .ok false w:=zf9 hu 9999 x w
theorem zuu {S:TypeId} {si:TI} (hST:TIok P S si) {e:Ty} {cs:Array Value} {j:Nat} {c:List Value} (hc:(cs.toList.drop j).take si.size=c) (hl:c.length=si.size) (f2:si.kind.isAgg=e.isAgg) (f3:si.kind.isAgg=false→si.size=1) (w':World):
  (part S cs j).run P w'= .ok (zG e c) w':=by
 obtain⟨f,z,hf,hs,_⟩:=hST.info
 obtain⟨ds,hd,hda⟩:=hST.under
 simp only[part,Sem.run_bind,zcc hd,Result.andThen_ok,hda]
 cases ha:si.kind.isAgg with
 |true=>
  simp only[if_true,Sem.run_bind,z4 hf,hs,Result.andThen_ok,Sem.run_pure]
  rw[zG, ← f2,ha]
  congr 2
  apply Array.ext'
  rw[← hc]
  simp[List.take_drop,Nat.add_comm]
 |false=>
  have h1:=f3 ha
  obtain⟨v,hv⟩: ∃ v,c= [v]:=by
   match c,(show c.length=1 by omega) with
   | [v],_=>exact⟨v,rfl⟩
  have h2:((cs.toList.drop j).take si.size)[0]? =some v:=by rw[hc,hv];rfl
  rw[h1,List.getElem?_take,if_pos (by omega),List.getElem?_drop,Nat.add_zero] at h2
  rw[zG, ← f2,ha,hv]
  have h3:cs[j]? =some v:=by simpa using h2
  simp[h3]
theorem zgo {S:TypeId} {f:TypeInfo} {d:TypeDesc} (hf:P.info? S=some f) (hd:P.underlying S=some d) {e:Ty} {cs:Array Value} {j:Nat} {c:List Value} (hc:(cs.toList.drop j).take f.size=c) (hl:c.length=f.size) (f2:descAgg d=e.isAgg) (f3:descAgg d=false→f.size=1) (w':World):
  (part S cs j).run P w'= .ok (zG e c) w':=by
 simp only[part,Sem.run_bind,zcc hd,Result.andThen_ok]
 cases ha:descAgg d with
 |true=>
  simp only[if_true,Sem.run_bind,z4 hf,Result.andThen_ok,Sem.run_pure]
  rw[zG, ← f2,ha]
  congr 2
  apply Array.ext'
  rw[← hc]
  simp[List.take_drop,Nat.add_comm]
 |false=>
  have h1:=f3 ha
  obtain⟨v,hv⟩: ∃ v,c= [v]:=by
   match c,(show c.length=1 by omega) with
   | [v],_=>exact⟨v,rfl⟩
  have h2:((cs.toList.drop j).take f.size)[0]? =some v:=by rw[hc,hv];rfl
  rw[h1,List.getElem?_take,if_pos (by omega),List.getElem?_drop,Nat.add_zero] at h2
  rw[zG, ← f2,ha,hv]
  have h3:cs[j]? =some v:=by simpa using h2
  simp[h3]
theorem zhf {M:Mem} {D:Nat} {ck:TypeId→Ty→Bool} (hck: ∀ T t,ck T t=true→ ∀ (x y:t.den) cx cy,Rep M t x cx→Rep M t y cy→ ∀ w:World,(Op.equalIn D T (zG t cx) (zG t cy)).run P w= .ok (t.eqb x y) w) (w:World):
  ∀ (fs:List (TypeId×Nat×Nat×Bool)) (fds:List Field) (o:Nat) (t:Ty) (x y:t.den) (cx cy px py:List Value),zex ck o fs t=true→fds.length=fs.length→
   (∀ (j:Nat) (x:TypeId×Nat×Nat×Bool),fs[j]? =some x→ ∃ f fi d,fds[j]? =some f∧f.type=x.1∧f.offset=x.2.1∧P.info? f.type=some fi∧fi.size=x.2.2.1∧P.underlying f.type=some d∧descAgg d=x.2.2.2)→
   (∀ f∈fds,f.name≠ "_")→Rep M t x cx→Rep M t y cy→px.length=o→py.length=o→
   (Op.eqFields D (px++cx).toArray (py++cy).toArray fds).run P w= .ok (t.eqb x y) w
 | [],fds,o,t,x,y,cx,cy,px,py,h,_,_,_,_,_,_,_=>by simp[zex] at h
 | [(T,off,size,agg)],fds,o,t,x,y,cx,cy,px,py,h,hl,hfd,hn,hx,hy,hp,hq=>by
  simp only[zex,Bool.and_eq_true,Bool.or_eq_true,beq_iff_eq] at h
  obtain⟨h1,h2,h3,h4,h5⟩:=h
  obtain⟨f,fi,d,g1,g2,g3,g4,g5,g6,g7⟩:=hfd 0 _ rfl
  obtain⟨f',rfl⟩: ∃ f',fds= [f']:=by
   match fds,hl with
   | [f'],_=>exact⟨f',rfl⟩
  obtain rfl:f'=f:=by simpa using g1
  simp only at g2 g3 g5 g7
  have hoff:=Nat.eq_of_beq_eq_true h1
  have hsz:=Nat.eq_of_beq_eq_true h3
  have l1:=zc _ _ _ hx
  have l2:=zc _ _ _ hy
  have hone:descAgg d=false→fi.size=1:=fun he=>by
   rw[g7] at he
   have:=h5.resolve_left (by simp[he])
   rw[g5];exact Nat.eq_of_beq_eq_true this
  have p1:=zgo (e:=t) g4 g6 (cs:=(px++cx).toArray) (j:=f'.offset) (c:=cx) (by
   rw[g3,hoff, ← hp];simp only[List.drop_left];rw[g5,hsz, ← l1,List.take_length]) (by rw[g5,hsz,l1]) (by rw[g7];exact h4) hone w
  have p2:=zgo (e:=t) g4 g6 (cs:=(py++cy).toArray) (j:=f'.offset) (c:=cy) (by
   rw[g3,hoff, ← hq];simp only[List.drop_left];rw[g5,hsz, ← l2,List.take_length]) (by rw[g5,hsz,l2]) (by rw[g7];exact h4) hone w
  have hnm:=hn f' (by simp)
  simp only[Op.eqFields,ne_eq,hnm,not_false_eq_true,if_true,Sem.run_bind,p1,p2,Result.andThen_ok]
  rw[g2,hck T t h2 x y cx cy hx hy w]
  cases hb:t.eqb x y<;>simp[hb]
 |(T,off,size,agg)::(g::fs),fds,o, .pair a b,x,y,cx,cy,px,py,h,hl,hfd,hn,hx,hy,hp,hq=>by
  simp only[zex,Bool.and_eq_true,Bool.or_eq_true,beq_iff_eq] at h
  obtain⟨h1,h2,h3,h4,h5,h6⟩:=h
  obtain⟨f,fi,d,g1,g2,g3,g4,g5,g6,g7⟩:=hfd 0 _ rfl
  obtain⟨f',fds',rfl⟩: ∃ f' r,fds=f'::r:=by
   match fds,hl with
   |f'::r,_=>exact⟨f',r,rfl⟩
  obtain rfl:f'=f:=by simpa using g1
  simp only at g2 g3 g5 g7
  obtain⟨c1,d1,rfl,r1,s1⟩:=hx
  obtain⟨c2,d2,rfl,r2,s2⟩:=hy
  have hoff:=Nat.eq_of_beq_eq_true h1
  have hsz:=Nat.eq_of_beq_eq_true h3
  have l1:=zc _ _ _ r1
  have l2:=zc _ _ _ r2
  have hone:descAgg d=false→fi.size=1:=fun he=>by
   rw[g7] at he
   have:=h5.resolve_left (by simp[he])
   rw[g5];exact Nat.eq_of_beq_eq_true this
  have p1:=zgo (e:=a) g4 g6 (cs:=(px++(c1++d1)).toArray) (j:=f'.offset) (c:=c1) (by
   rw[g3,hoff, ← hp];simp only[List.drop_left];rw[g5,hsz, ← l1,List.take_left]) (by rw[g5,hsz,l1]) (by rw[g7];exact h4) hone w
  have p2:=zgo (e:=a) g4 g6 (cs:=(py++(c2++d2)).toArray) (j:=f'.offset) (c:=c2) (by
   rw[g3,hoff, ← hq];simp only[List.drop_left];rw[g5,hsz, ← l2,List.take_left]) (by rw[g5,hsz,l2]) (by rw[g7];exact h4) hone w
  have hnm:=hn f' (by simp)
  have ih:=zhf hck w (g::fs) fds' (o+size) b x.2 y.2 d1 d2 (px++c1) (py++c2) h6 (by simpa using hl) (fun j z hz=>by simpa using hfd (j+1) z (by simpa using hz)) (fun f hf=>hn f (by simp[hf])) s1 s2 (by simp only[List.length_append];omega) (by simp only[List.length_append];omega)
  simp only[List.append_assoc] at ih
  simp only[Op.eqFields,ne_eq,hnm,not_false_eq_true,if_true,Sem.run_bind,p1,p2,Result.andThen_ok]
  rw[g2,hck T a h2 x.1 y.1 c1 c2 r1 r2 w]
  show _=Result.ok (a.eqb x.1 y.1&&b.eqb x.2 y.2) w
  cases hb:a.eqb x.1 y.1 with
  |false=>simp
  |true=>simp[ih]
theorem ziw {TT:List (TypeId×TI)} {T:TypeId} {f:TI→Bool} (h:((zq TT T fun i=>some (f i)).getD false)=true): ∃ i,(T,i)∈TT∧f i=true:=by
 cases hx:(zq TT T fun i=>some (f i)) with
 |none=>rw[hx] at h;cases h
 |some b=>
  rw[hx] at h
  obtain⟨i,hi,hk⟩:=zd hx
  refine⟨i,hi, ?_⟩
  simp only[Option.some.injEq] at hk
  rw[hk];exact h
theorem zn7 {n:Nat} {e:Ty} (cs:List Value):zG (.arr n e) cs= .agg cs.toArray:=rfl
theorem zju {M:Mem} {E':TypeId} {ei:TI} (hE:TIok P E' ei) {e:Ty} (h1:ei.size=e.size) (h2:ei.kind.isAgg=e.isAgg) (h3:ei.kind.isAgg=false→ei.size=1) (D:Nat)
  (hrec: ∀ (x y:e.den) cx cy,Rep M e x cx→Rep M e y cy→ ∀ w:World,(Op.equalIn D E' (zG e cx) (zG e cy)).run P w= .ok (e.eqb x y) w) (w:World):
  ∀ (xs ys:List e.den) (cx cy px py:List Value) (j:Nat),xp (Rep M e) xs cx→xp (Rep M e) ys cy→xs.length=ys.length→px.length=j*e.size→py.length=j*e.size→
   (Op.eqItems D E' (P.cellsOf E') (px++cx).toArray (py++cy).toArray (List.range' j xs.length)).run P w= .ok ((xs.zip ys).all fun p=>e.eqb p.1 p.2) w
 | [], [],cx,cy,px,py,j,_,_,_,_,_=>by simp[Op.eqItems]
 |x::xs,y::ys,_,_,px,py,j,⟨c1,d1,e1,r1,l1⟩,⟨c2,d2,e2,r2,l2⟩,hl,hp,hq=>by
  subst e1;subst e2
  obtain⟨f,z,hf,hs,_⟩:=hE.info
  have hsz:P.cellsOf E'=ei.size:=by simp[Program.cellsOf,hf,hs]
  have g1:=zc _ _ _ r1
  have g2:=zc _ _ _ r2
  have p1:=zuu (e:=e) hE (cs:=(px++(c1++d1)).toArray) (j:=j*ei.size) (c:=c1) (by
   rw[h1, ← hp];simp only[List.drop_left];rw[← g1,List.take_left]) (by omega) h2 h3 w
  have p2:=zuu (e:=e) hE (cs:=(py++(c2++d2)).toArray) (j:=j*ei.size) (c:=c2) (by
   rw[h1, ← hq];simp only[List.drop_left];rw[← g2,List.take_left]) (by omega) h2 h3 w
  rw[List.length_cons,List.range'_succ]
  simp only[Op.eqItems,hsz,Sem.run_bind,p1,p2,Result.andThen_ok,hrec x y c1 c2 r1 r2 w]
  cases hb:e.eqb x y with
  |false=>simp[hb]
  |true=>
   have ih:=zju hE h1 h2 h3 D hrec w xs ys d1 d2 (px++c1) (py++c2) (j+1) l1 l2 (by simpa using hl) (by simp only[List.length_append];rw[hp,g1,Nat.add_mul];omega) (by simp only[List.length_append];rw[hq,g2,Nat.add_mul];omega)
   rw[hsz] at ih
   simp only[List.append_assoc] at ih
   simp[hb,ih]
 | [],_::_,_,_,_,_,_,_,_,hl,_,_=>by simp at hl
 |_::_, [],_,_,_,_,_,_,_,hl,_,_=>by simp at hl
theorem zda (hC:C.ok P) {M:Mem}: ∀ (d:Nat) (T:TypeId) (t:Ty),zdx C d T t=true→ ∀ (D:Nat),d≤D→ ∀ (x y:t.den) cx cy,Rep M t x cx→Rep M t y cy→ ∀ w:World,
  (Op.equalIn D T (zG t cx) (zG t cy)).run P w= .ok (t.eqb x y) w
 |0,_,_,h,_,_,_,_,_,_,_,_,_=>by simp[zdx] at h
 |d+1,T,t,h,D,hD,x,y,cx,cy,hx,hy,w=>by
  unfold zdx at h
  replace h:=ziw h
  obtain⟨i,hi,h⟩:=h
  have hT:=hC.types _ _ hi
  have hk:=hT.kind
  obtain⟨D,rfl⟩: ∃ D',D=D'+1:=⟨D - 1,by omega⟩
  split at h
  case h_1 k k' hkk=>
   rw[hkk] at hk
   simp only[Rep] at hx hy
   subst hx;subst hy
   exact run_equalIn_int w D T k' k x y hk
  case h_2 hkk=>
   rw[hkk] at hk
   simp only[Rep] at hx hy
   subst hx;subst hy
   exact zbe hk D x y w
  case h_3 hkk=>
   rw[hkk] at hk
   simp only[Rep] at hx hy
   subst hx;subst hy
   exact run_equalIn_string w D T x y hk
  case h_4 n E' m e hkk=>
   rw[hkk] at hk
   simp only[Bool.and_eq_true] at h
   obtain⟨hnm,h5,h6⟩:=h
   obtain⟨ei,hei,h5⟩:=ziw h5
   simp only[Bool.and_eq_true,Bool.or_eq_true,beq_iff_eq] at h5
   obtain⟨h7,h8,h9⟩:=h5
   have hE:=hC.types _ _ hei
   obtain⟨f,z,hf,hs,_⟩:=hE.info
   have hnm:=Nat.eq_of_beq_eq_true hnm
   subst hnm
   obtain⟨hx1,hx2⟩:=hx
   obtain⟨hy1,hy2⟩:=hy
   have:=zju hE (Nat.eq_of_beq_eq_true h7) h8 (fun hf=>Nat.eq_of_beq_eq_true (h9.resolve_left (by simp[hf]))) D (fun x y cx cy hx hy w=>zda hC d E' e h6 D (by omega) x y cx cy hx hy w) w x y cx cy [] [] 0 hx2 hy2 (by rw[hx1,hy1]) (by simp) (by simp)
   rw[zn7,zn7,run_equalIn_array w D _ _ hk hf,List.range_eq_range']
   rw[hx1] at this
   simp only[List.nil_append] at this
   rw[this]
   simp[Ty.eqb,hx1,hy1]
  case h_5 fs f hkk=>
   rw[hkk] at hk
   simp only at hk
   obtain⟨fds,hu,hsz,hfd⟩:=hk
   simp only[Bool.and_eq_true,List.any_eq_true] at h
   obtain⟨⟨U,hU,hUT⟩,h2⟩:=h
   obtain rfl:=Nat.eq_of_beq_eq_true hUT
   obtain⟨hst,hnm⟩:=hC.cmps _ hU
   have hfo:P.fieldsOf U=fds:=by simp[Program.fieldsOf,hu]
   show(Op.equalIn (D+1) U (.agg cx.toArray) (.agg cy.toArray)).run P w=_
   rw[run_equalIn_struct w D U _ _ (by rw[hfo];exact hu) hst,hfo]
   exact zhf (M:=M) (fun T t hc x y cx cy hx hy w=>zda hC d T t hc D (by omega) x y cx cy hx hy w) w fs fds.toList 0 f x y cx cy [] [] h2 (by simpa using hsz) (fun j z hz=>by simpa using hfd j z hz) (hnm fds hu) hx hy rfl rfl
  case h_6=>cases h
theorem zg5 (hC:C.ok P): ∀ (d:Nat) (T:TypeId) (t:Ty),zdx C d T t=true→ ∀ (D:Nat),d≤D→P.eqGuardType D T=false
 |0,_,_,h,_,_=>by simp[zdx] at h
 |d+1,T,t,h,D,hD=>by
  unfold zdx at h
  replace h:=ziw h
  obtain⟨i,hi,h⟩:=h
  have hk:=(hC.types _ _ hi).kind
  obtain⟨D,rfl⟩: ∃ D',D=D'+1:=⟨D - 1,by omega⟩
  split at h
  case h_1 hkk=>rw[hkk] at hk;simp only at hk;simp[Program.eqGuardType,hk]
  case h_2 hkk=>rw[hkk] at hk;simp only at hk;simp[Program.eqGuardType,hk]
  case h_3 hkk=>rw[hkk] at hk;simp only at hk;simp[Program.eqGuardType,hk]
  case h_4 n E' m e hkk=>
   rw[hkk] at hk
   simp only[Bool.and_eq_true] at h hk
   simp only[Program.eqGuardType,hk]
   exact zg5 hC d E' e h.2.2 D (by omega)
  case h_5 fs f hkk=>
   rw[hkk] at hk
   simp only at hk
   obtain⟨fds,hu,hsz,hfd⟩:=hk
   simp only[Bool.and_eq_true] at h
   simp only[Program.eqGuardType,hu]
   have key: ∀ (fs:List (TypeId×Nat×Nat×Bool)) (fds:List Field) (o:Nat) (f:Ty),zex (zdx C d) o fs f=true→fds.length=fs.length→
     (∀ (j:Nat) (x:TypeId×Nat×Nat×Bool),fs[j]? =some x→ ∃ f fi d,fds[j]? =some f∧f.type=x.1∧f.offset=x.2.1∧P.info? f.type=some fi∧fi.size=x.2.2.1∧P.underlying f.type=some d∧descAgg d=x.2.2.2)→
     (fds.any fun f=>f.name != "_" &&P.eqGuardType D f.type)=false:=by
    intro fs
    induction fs with
    |nil=>intro fds o f h _ _;simp[zex] at h
    |cons g fs ih=>
     intro fds o f h hl hfd
     obtain⟨T',off,size,agg⟩:=g
     obtain⟨fd,fi,d',g1,g2,_⟩:=hfd 0 _ rfl
     obtain⟨f',fds',rfl⟩: ∃ f' r,fds=f'::r:=by
      match fds,hl with
      |f'::r,_=>exact⟨f',r,rfl⟩
     obtain rfl:f'=fd:=by simpa using g1
     simp only at g2
     have hck: ∃ t,zdx C d T' t=true:=by
      cases fs with
      |nil=>simp only[zex,Bool.and_eq_true] at h;exact⟨_,h.2.1⟩
      |cons g' fs'=>cases f with
       |pair a b=>simp only[zex,Bool.and_eq_true] at h;exact⟨_,h.2.1⟩
       |_=>simp[zex] at h
     obtain⟨t,hck⟩:=hck
     have h1:=zg5 hC d T' t hck D (by omega)
     rw[List.any_cons,g2,h1,Bool.and_false,Bool.false_or]
     cases fs with
     |nil=>
      have:fds'= []:=List.eq_nil_of_length_eq_zero (by simpa using hl)
      subst this;rfl
     |cons g' fs'=>cases f with
      |pair a b=>
       simp only[zex,Bool.and_eq_true] at h
       exact ih fds' _ b h.2.2.2.2.2 (by simpa using hl) (fun j z hz=>by simpa using hfd (j+1) z (by simpa using hz))
      |_=>simp[zex] at h
   have:=key fs fds.toList 0 f h.2 (by simpa using hsz) (fun j z hz=>by simpa using hfd j z hz)
   rw[← Array.any_toList]
   exact this
  case h_6=>cases h
theorem je (hC:C.ok P) {T:TypeId} {op:BinOp} {t:Ty} (ht:t.isAgg=true) {x y:t.den} {vx vy:Value} (hx:(SV.val t x).sat E vx) (hy:(SV.val t y).sat E vy) (h:zsv C T op t x y k=some r):
  (∀ ox oy w,(eqGuard op T ox oy vx vy).run P w= .ok () w)∧ ∃ v s,s.sat E v∧k s=some r∧ ∀ w,(binOp op T vx vy).run P w= .ok v w:=by
 unfold zsv at h
 cases hc:zdx C 8 T t with
 |false=>rw[hc] at h;cases h
 |true=>
  rw[hc] at h
  simp only[SV.sat] at hx hy
  obtain⟨cx,hx1,rfl⟩:=hx
  obtain⟨cy,hy1,rfl⟩:=hy
  have hv: ∀ c,zG t c= .agg c.toArray:=fun c=>by unfold zG;rw[ht];rfl
  have hq:=zda hC 8 T _ hc 10000 (by omega) x y cx cy hx1 hy1
  rw[hv,hv] at hq ⊢
  have hg:P.eqGuardType P.depth T=false:=by
   exact zg5 hC 8 T _ hc _ (by simp only[Program.depth,Made.depth];omega)
  refine⟨fun ox oy w=>run_eqGuard_agg w op T ox oy _ _ hg, ?_⟩
  simp only[cond_true] at h
  split at h
  case h_1=>exact⟨_,_,qu _,h,fun w=>by rw[run_eql_struct,hq];rfl⟩
  case h_2=>exact⟨_,_,qu _,h,fun w=>by rw[run_neq_struct,hq];rfl⟩
  case h_3=>cases h
theorem jd: ∀ (t:Ty) {l:List SV} {vs:List Value} {k:t.den×List SV→Option R},SV.satL E l vs→zet t l k=some r→
  ∃ (x:t.den) (l':List SV) (c vs':List Value),vs=c++vs'∧Rep E.M t x c∧SV.satL E l' vs'∧k (x,l')=some r
 | .int i,l,vs,k,hs,h=>by
  cases l with
  |nil=>simp[zet] at h
  |cons s l=>cases s with
   |val t x=>cases t with
    |int j=>
     unfold zet at h
     replace h:=zB h
     obtain⟨rfl,h⟩:=h
     simp only[SV.satL] at hs
     obtain⟨v,ws,e,h1,h2⟩:=hs
     have:=xm (by simpa only[SV.sat] using h1)
     exact⟨x,l, [v],ws,e,by simp[Rep,this],h2,h⟩
    |_=>simp[zet] at h
   |_=>simp[zet] at h
 | .bool,l,vs,k,hs,h=>by
  cases l with
  |nil=>simp[zet] at h
  |cons s l=>
   unfold zet at h
   simp only[SV.satL] at hs
   obtain⟨v,ws,e,h1,h2⟩:=hs
   obtain⟨b,hb,h⟩:=zdv h1 h
   exact⟨b,l, [v],ws,e,by simp[Rep,hb],h2,h⟩
 | .pair a b,l,vs,k,hs,h=>by
  unfold zet at h
  obtain⟨x,l1,c1,v1,e1,r1,s1,h⟩:=jd a hs h
  obtain⟨y,l2,c2,v2,e2,r2,s2,h⟩:=jd b s1 h
  exact⟨(x,y),l2,c1++c2,v2,by rw[e1,e2,List.append_assoc],⟨c1,c2,rfl,r1,r2⟩,s2,h⟩
 | .st f,l,vs,k,hs,h=>by
  unfold zet at h
  obtain⟨x,l1,c1,v1,e1,r1,s1,h⟩:=jd f hs h
  exact⟨x,l1,c1,v1,e1,r1,s1,h⟩
 | .str,_,_,_,_,h=>by simp[zet] at h
 | .flt,_,_,_,_,h=>by simp[zet] at h
 | .cplx,_,_,_,_,h=>by simp[zet] at h
 | .unit,_,_,_,_,h=>by simp[zet] at h
 | .sl _,_,_,_,_,h=>by simp[zet] at h
 | .osl _,_,_,_,_,h=>by simp[zet] at h
 | .arr _ _,_,_,_,_,h=>by simp[zet] at h
theorem ze7 {i:IntKind}: ∀ {n:Nat} {l:List SV} {vs:List Value} {k:List Int→Option R},SV.satL E l vs→ze6 i n l k=some r→ ∃ xs:List Int,xp (Rep E.M (.int i)) xs vs∧xs.length=n∧k xs=some r
 |0, [],vs,k,hs,h=>by
  simp only[SV.satL] at hs
  exact⟨[],hs,rfl,h⟩
 |n+1,s::l,vs,k,hs,h=>by
  unfold ze6 at h
  split at h
  case h_1=>simp_all
  case h_2 n' j x l' hn hl=>
   obtain rfl:n'=n:=by omega
   cases hl
   replace h:=zB h
   obtain⟨hj,h⟩:=h
   subst hj
   simp only[SV.satL] at hs
   obtain⟨v,ws,e,h1,h2⟩:=hs
   obtain⟨xs,g1,g2,g3⟩:=ze7 h2 h
   refine⟨x::xs,⟨[v],ws,e, ?_,g1⟩,by simp[g2],g3⟩
   have:=xm (by simpa only[SV.sat] using h1)
   simp[Rep,this]
  case h_3=>cases h
 |0,_::_,_,_,_,h=>by simp[ze6] at h
 |_+1, [],_,_,_,h=>by simp[ze6] at h
theorem zrq (hC:C.ok P) {T:TypeId} {op:BinOp} {x y:SV} {vx vy:Value} {lit:Bool} (hx:x.sat E vx) (hy:y.sat E vy)
  (hl:lit=true→ ∀ i n,vy= .int i n→(xO op=true→0≤n)∧(xO op=false→n≠0)) (h:ztp C T op x y lit k=some r):
  (∀ ox oy w,(eqGuard op T ox oy vx vy).run P w= .ok () w)∧ ∃ v s,s.sat E v∧k s=some r∧ ∀ w,(binOp op T vx vy).run P w= .ok v w:=by
 have hgd: ∀ {vx vy:Value},(vx≠ .nilIface∧ ∀ c,vx≠ .agg c)→ ∀ ox oy w,(eqGuard op T ox oy vx vy).run P w= .ok () w:=by
  intro vx vy ⟨h1,h2⟩ ox oy w
  cases op<;>simp only[eqGuard]<;>first|rfl|(cases vx<;>first|rfl|(simp at h1;done)|exact absurd rfl (h2 _))
 unfold ztp at h
 split at h
 case h_1 i n j m=>
  simp only[SV.sat] at hx hy
  have ex:=xm hx
  have ey:=xm hy
  subst ex;subst ey
  refine⟨hgd ⟨by simp,by simp⟩, ?_⟩
  cases hs:xO op with
  |true=>
   rw[hs] at h
   obtain⟨v,s,h1,h2,h3⟩:=zm8 (E:=E) (P:=P) (j:=j) (fun hh=>(hl hh _ _ rfl).1 hs) h
   exact⟨v,s,h1,h2,h3 T⟩
  |false=>
   rw[hs] at h
   simp only[cond_false] at h
   split at h
   case isTrue hij=>
    subst hij
    obtain⟨v,s,h1,h2,h3⟩:=zrv (E:=E) (P:=P) hs (fun hh=>(hl hh _ _ rfl).2 hs) h
    exact⟨v,s,h1,h2,h3 T⟩
   case isFalse=>cases h
 case h_2 s1 s2=>
  simp only[SV.sat] at hx hy
  have ex:=zl3 hx
  have ey:=zl3 hy
  subst ex;subst ey
  refine⟨hgd ⟨by simp,by simp⟩, ?_⟩
  split at h
  case h_1=>exact⟨_,_,qu _,h,fun w=>by simp[binOp,Op.stringOp]⟩
  case h_2=>exact⟨_,_,qu _,h,fun w=>by simp[binOp,Op.stringOp]⟩
  case h_3=>cases h
 case h_3 n e a n' e' b=>
  replace h:=zB h
  obtain⟨hn,h⟩:=h
  obtain⟨rfl,rfl⟩:n'=n∧e'=e:=by simpa using hn
  exact je hC rfl hx hy h
 case h_4 n i a l=>
  simp only[SV.sat] at hy
  obtain⟨cs,ey,hl⟩:=hy
  obtain⟨b,g1,g2,g3⟩:=ze7 hl h
  exact je hC rfl hx (by simp only[SV.sat];exact⟨cs,⟨g2,g1⟩,by rw[ey];rfl⟩) g3
 case h_5 l n i b=>
  simp only[SV.sat] at hx
  obtain⟨cs,ex,hl⟩:=hx
  obtain⟨a,g1,g2,g3⟩:=ze7 hl h
  exact je hC rfl (by simp only[SV.sat];exact⟨cs,⟨g2,g1⟩,by rw[ex];rfl⟩) hy g3
 case h_6 f a f' b=>
  replace h:=zB h
  obtain⟨hn,h⟩:=h
  obtain rfl:f'=f:=by simpa using hn
  exact je hC rfl hx hy h
 case h_7 f a l=>
  simp only[SV.sat] at hy
  obtain⟨cs,ey,hl⟩:=hy
  obtain⟨x,l',c,vs',e1,r1,s1,h⟩:=jd (.st f) hl h
  simp only at h
  split at h
  case h_1=>
   simp only[SV.satL] at s1
   subst s1
   exact je hC rfl hx (by simp only[SV.sat];exact⟨c,r1,by rw[ey,e1,List.append_nil];rfl⟩) h
  case h_2=>cases h
 case h_8 l f b=>
  simp only[SV.sat] at hx
  obtain⟨cs,ex,hl⟩:=hx
  obtain⟨x,l',c,vs',e1,r1,s1,h⟩:=jd (.st f) hl h
  simp only at h
  split at h
  case h_1=>
   simp only[SV.satL] at s1
   subst s1
   exact je hC rfl (by simp only[SV.sat];exact⟨c,r1,by rw[ex,e1,List.append_nil];rfl⟩) hy h
  case h_2=>cases h
 case h_9 l m=>
  simp only[SV.sat] at hx hy
  obtain⟨cs,ex,hlx⟩:=hx
  obtain⟨ds,ey,hly⟩:=hy
  replace h:=zd h;obtain⟨i,hi,h⟩:=h
  split at h
  case h_2=>cases h
  case h_1 f hf=>
   obtain⟨x,l',c,vs',e1,r1,s1,h⟩:=jd (.st f) hlx h
   obtain⟨y,m',d,ws',e2,r2,s2,h⟩:=jd (.st f) hly h
   simp only at h
   split at h
   case h_2=>cases h
   case h_1=>
    simp_all only[SV.satL]
    exact je hC rfl (by simp only[SV.sat];exact⟨c,r1,by rw[List.append_nil];rfl⟩) (by simp only[SV.sat];exact⟨d,r2,by rw[List.append_nil];rfl⟩) h
 case h_10 e xs=>
  simp only[SV.sat] at hx
  have ey:vy= .slice none 0 0:=by simpa [SV.sat] using hy
  subst ey
  obtain⟨cs,⟨ad,cap,e1,e2,e3⟩,e4⟩:=hx
  have ex:vx= .slice ad xs.length cap:=by rw[e4,e1];rfl
  subst ex
  replace h:=zd h;obtain⟨i,hi,h⟩:=h
  refine⟨hgd ⟨by simp,by simp⟩, ?_⟩
  have hnil:ad=none→Nat.beq xs.length 0=true:=by
   intro ha
   rcases e3 with e3|⟨b,off,d,e3,_⟩
   ·simp[e3]
   ·rw[e3] at ha;cases ha
  split at h
  case h_1 e hk=>
   have hu:=(hC.types _ _ hi).kind;rw[hk] at hu;simp only at hu
   exact⟨.bool ad.isNone,_,by simp only[SV.sat];exact⟨_,rfl,fun hb=>hnil (by simpa using hb)⟩,h,fun w=>by simp[binOp,xo hu]⟩
  case h_2 e hk=>
   have hu:=(hC.types _ _ hi).kind;rw[hk] at hu;simp only at hu
   exact⟨.bool (!ad.isNone),_,by simp only[SV.sat];exact⟨_,rfl,fun hb=>hnil (by simpa using hb)⟩,h,fun w=>by simp[binOp,xo hu]⟩
  case h_3=>cases h
 case h_11=>
  have ex:vx= .pointer none:=by simpa [SV.sat] using hx
  have ey:vy= .pointer none:=by simpa [SV.sat] using hy
  subst ex;subst ey
  replace h:=zd h;obtain⟨i,hi,h⟩:=h
  refine⟨hgd ⟨by simp,by simp⟩, ?_⟩
  split at h
  case h_1 e hk=>
   have hu:=(hC.types _ _ hi).kind;rw[hk] at hu;simp only at hu
   exact⟨_,_,zfj _,h,fun w=>by simp[binOp,zen hu]⟩
  case h_2 e hk=>
   have hu:=(hC.types _ _ hi).kind;rw[hk] at hu;simp only at hu
   exact⟨_,_,zfj _,h,fun w=>by simp[binOp,zen hu]⟩
  case h_3=>cases h
 case h_12 id off=>
  simp only[SV.sat] at hx
  obtain⟨e,b,_,_,ex⟩:=hx
  have ey:vy= .pointer none:=by simpa [SV.sat] using hy
  subst ex;subst ey
  replace h:=zd h;obtain⟨i,hi,h⟩:=h
  refine⟨hgd ⟨by simp,by simp⟩, ?_⟩
  split at h
  case h_1 e hk=>
   have hu:=(hC.types _ _ hi).kind;rw[hk] at hu;simp only at hu
   exact⟨_,_,zfj _,h,fun w=>by simp[binOp,zc7 hu]⟩
  case h_2 e hk=>
   have hu:=(hC.types _ _ hi).kind;rw[hk] at hu;simp only at hu
   exact⟨_,_,zfj _,h,fun w=>by simp[binOp,zc7 hu]⟩
  case h_3=>cases h
 case h_13=>
  replace h:=zd h;obtain⟨i,hi,h⟩:=h
  replace h:=zdv hx h;obtain⟨b1,e1,h⟩:=h
  replace h:=zdv hy h;obtain⟨b2,e2,h⟩:=h
  subst e1;subst e2
  refine⟨hgd ⟨by simp,by simp⟩, ?_⟩
  split at h
  case h_1 hk=>
   have hu:=(hC.types _ _ hi).kind;rw[hk] at hu;simp only at hu
   exact⟨_,_,qu _,h,fun w=>by simp[binOp,zc6 hu]⟩
  case h_2 hk=>
   have hu:=(hC.types _ _ hi).kind;rw[hk] at hu;simp only at hu
   exact⟨_,_,qu _,h,fun w=>by simp[binOp,zc6 hu]⟩
  case h_3=>cases h
theorem zrt {op:BinOp} {n m:Nat} (h:zv9 op n m k=some r):
  ∃ v s,s.sat E v∧k s=some r∧ ∀ T w,(binOp op T (.float .f64 n) (.float .f64 m)).run P w= .ok v w:=by
 cases op<;>simp only[zv9] at h<;>first|(cases h;done)|exact⟨_,_,qu _,h,fun T w=>by simp[binOp,Op.floatCmp,zo0,FloatKind.format,bne]⟩
theorem zw3 (op:BinOp) (x y:Nat) (c:Bool) (h:(Op.floatCmp op .f64 x y).run P w= .ok (.bool c) w):(Op.Complex.cmp op .f64 x y).run P w= .ok c w:=by
 simp[Op.Complex.cmp,h,asBool]
theorem zsj {op:BinOp} {x y r:Nat} (h:(Op.floatArith op .f64 x y).run P w= .ok (.float .f64 r) w):(Op.Complex.arith op .f64 x y).run P w= .ok r w:=by
 simp[Op.Complex.arith,h]
theorem zou {op:BinOp} {n m:Nat×Nat} (h:zp9 op n m k=some r):
  ∃ v s,s.sat E v∧k s=some r∧ ∀ T w,(binOp op T (.complex .f64 n.1 n.2) (.complex .f64 m.1 m.2)).run P w= .ok v w:=by
 have hc: ∀ (x y:Nat) w,(Op.Complex.cmp .eql .f64 x y).run P w= .ok (zo0 x y .eq) w:=fun x y w=>zw3 _ _ _ _ (by simp[Op.floatCmp,zo0,FloatKind.format])
 have ha: ∀ (x y:Nat) w,fOk x y→(Op.Complex.arith .sub .f64 x y).run P w= .ok (zwb x y) w:=fun x y w hk=>zsj (by
  unfold fOk at hk
  obtain⟨r,hr⟩:=Option.isSome_iff_exists.1 hk
  simp[Op.floatArith,FloatKind.format,zwb,hr])
 cases op<;>simp only[zp9] at h<;>try (cases h;done)
 case eql=>exact⟨_,_,qu _,h,fun T w=>by simp[binOp,Op.complexOp,hc]⟩
 case neq=>exact⟨_,_,qu _,h,fun T w=>by simp[binOp,Op.complexOp,hc]⟩
 case sub=>
  obtain⟨⟨h1,h2⟩,h⟩:=zy h
  exact⟨_,_,zq5 _,h,fun T w=>by simp[binOp,Op.complexOp,ha _ _ _ h1,ha _ _ _ h2]⟩
theorem zs7 {op:BinOp} {T T':TypeId} {x y:Operand} (hC:C.ok P) (hh:Hp B E hp w) (hf:SV.satL E fr a.tmps.toList) (hg:C.globsOk E.M) (ho:o.op= .binOp op T x y T')
  (h:(opd C fr x fun a=>opd C fr y fun b=>zhg C hp T op a b (zr3 op y) k)=some r):xS P E a o w k r:=by
 replace h:=zh hf hg h;obtain⟨sx,x1,h⟩:=h
 replace h:=zh hf hg h;obtain⟨sy,y1,h⟩:=h
 unfold zhg at h
 split at h
 case h_1 id len=>
  have hgd: ∀ {vx vy:Value},(vx≠ .nilIface∧ ∀ c,vx≠ .agg c)→ ∀ ox oy w,(eqGuard op T ox oy vx vy).run P w= .ok () w:=by
   intro vx vy ⟨h1,h2⟩ ox oy w
   cases op<;>simp only[eqGuard]<;>first|rfl|(cases vx<;>first|rfl|(simp at h1;done)|exact absurd rfl (h2 _))
  unfold zlf at h
  replace h:=zd h;obtain⟨i,hi,h⟩:=h
  replace h:=ze h;obtain⟨ob,hob,h⟩:=h
  simp only[SV.sat] at x1 y1
  obtain⟨e,e1,e2,e3⟩:=x1
  split at h
  case h_3=>cases h
  case h_1 T1 T2 t xs hk=>
   obtain⟨g1,g2,g3,g4,g5⟩:=hh.ob _ _ _ hob e1
   have hu:=(hC.types _ _ hi).kind;rw[hk] at hu;simp only at hu
   have hnil:e.addr=none→Nat.beq (zdk xs len) 0=true:=by
    intro ha
    have hb:e.blk=none:=by
     unfold LE.addr at ha
     cases hb:e.blk with
     |none=>rfl
     |some b=>rw[hb] at ha;cases ha
    have:=g4 hb
    have hx:xs.length=0:=by omega
    unfold zdk
    cases len with
    |none=>simp[hx]
    |some n=>simp at e2 ⊢;omega
   refine⟨.bool e.addr.isNone,_,by simp only[SV.sat];exact⟨_,rfl,fun hb=>hnil (by simpa using hb)⟩,h,fun w' _=> ?_⟩
   have hgd':=hgd (vx:=a.eval x) (vy:=a.eval y) (by rw[e3];exact⟨by simp,by simp⟩) x y w'
   rw[e3,y1] at hgd'
   simp[execOp,ho,hgd',e3,y1,binOp,xo hu]
  case h_2 T1 T2 t xs hk=>
   obtain⟨g1,g2,g3,g4,g5⟩:=hh.ob _ _ _ hob e1
   have hu:=(hC.types _ _ hi).kind;rw[hk] at hu;simp only at hu
   have hnil:e.addr=none→Nat.beq (zdk xs len) 0=true:=by
    intro ha
    have hb:e.blk=none:=by
     unfold LE.addr at ha
     cases hb:e.blk with
     |none=>rfl
     |some b=>rw[hb] at ha;cases ha
    have:=g4 hb
    have hx:xs.length=0:=by omega
    unfold zdk
    cases len with
    |none=>simp[hx]
    |some n=>simp at e2 ⊢;omega
   refine⟨.bool (!e.addr.isNone),_,by simp only[SV.sat];exact⟨_,rfl,fun hb=>hnil (by simpa using hb)⟩,h,fun w' _=> ?_⟩
   have hgd':=hgd (vx:=a.eval x) (vy:=a.eval y) (by rw[e3];exact⟨by simp,by simp⟩) x y w'
   rw[e3,y1] at hgd'
   simp[execOp,ho,hgd',e3,y1,binOp,xo hu]
 case h_2 n m=>
  simp only[SV.sat] at x1 y1
  obtain⟨v,s,h1,h2,h3⟩:=zrt (E:=E) (P:=P) h
  refine⟨v,s,h1,h2,fun w' _=> ?_⟩
  have hgd:(eqGuard op T x y (.float .f64 n) (.float .f64 m)).run P w'= .ok () w':=by cases op<;>rfl
  simp[execOp,ho,zl2 x1,zl2 y1,hgd,h3]
 case h_3 n m=>
  simp only[SV.sat] at x1 y1
  obtain⟨v,s,h1,h2,h3⟩:=zou (E:=E) (P:=P) h
  refine⟨v,s,h1,h2,fun w' _=> ?_⟩
  have hgd:(eqGuard op T x y (.complex .f64 n.1 n.2) (.complex .f64 m.1 m.2)).run P w'= .ok () w':=by cases op<;>rfl
  simp[execOp,ho,zgr x1,zgr y1,hgd,h3]
 case h_4=>
  obtain⟨hgd,v,s,h1,h2,h3⟩:=zrq hC x1 y1 (fun hl i n he=>⟨zuf hl he,zwq hl he⟩) h
  refine⟨v,s,h1,h2,fun w' _=> ?_⟩
  simp[execOp,ho,hgd,h3]
end
end Go.Sx
