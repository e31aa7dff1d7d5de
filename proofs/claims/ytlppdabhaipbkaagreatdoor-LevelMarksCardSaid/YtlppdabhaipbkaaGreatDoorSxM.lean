/- The symbolic evaluator, part M: operations one after the other; regions. -/
import Derived.Test.YtlppdabhaipbkaaGreatDoorSxL
set_option linter.unusedVariables false
set_option linter.unusedSimpArgs false
namespace Go.Sx
open Go.RowKit
structure Given (P:Program) (C:Ctx) (Γ:List Con):Prop where
 ctx:C.ok P
 con: ∀ c∈Γ,c.Ok P C
 mixed:P.follows .mixedOrders=true
section
variable {R:Type} {r:R} {P:Program} {C:Ctx} {Γ:List Con} {B:Base} {E:Env} {fr:List SV} {hp:List HO} {a:Act} {w w':World} {o:Oper}
theorem zbr {f:FuncId} {vs:List SV} {k:Con→Option R}: ∀ {Γ:List Con},zrl Γ f vs k=some r→ ∃ c,c∈Γ∧c.f=f∧k c=some r
 | [],h=>by simp[zrl] at h
 |c::l,h=>by
  unfold zrl at h
  cases hb:(Nat.beq c.f f&&zry c.sig.ins.slots vs) with
  |true=>
   rw[hb] at h
   simp only[Bool.and_eq_true] at hb
   exact⟨c,by simp,Nat.eq_of_beq_eq_true hb.1,h⟩
  |false=>
   rw[hb] at h
   obtain⟨d,h1,h2⟩:=zbr (Γ:=l) h
   exact⟨d,by simp[h1],h2⟩
theorem zw4 {c:Con} (hc:c.Ok P C) {args:Array Operand} {argTypes:Array TypeId} (ho:o.op= .call { callee:= .value (.func c.f),args,argTypes}) (w:World):
  (execOp a.eval o).run P w= .ok (.enter c.f (args.toList.map a.eval).toArray) w:=by
 obtain⟨fn,h1,h2,h3⟩:=hc.there
 have hargs:args.map a.eval=(args.toList.map a.eval).toArray:=by apply Array.ext';simp
 have h2': ¬ fn.body=none:=fun e=>by rw[e] at h2;simp at h2
 have h3': ¬ fn.name= "runtime.NumGoroutine" :=by simpa using h3
 simp[execOp,ho,resolve,Deferred.ofValue,Act.eval,invoke,callFunc,h1,h2',h3',hargs]
theorem zuz {c:Con} (hc:c.Ok P C) {x:Operand} {args:Array Operand} {argTypes:Array TypeId} {cs:List Value} (ho:o.op= .call { callee:= .value x,args,argTypes}) (hx:a.eval x= .func (.func c.f) #[] cs.toArray) (w:World):
  (execOp a.eval o).run P w= .ok (.enter c.f (args.toList.map a.eval++cs).toArray) w:=by
 obtain⟨fn,h1,h2,h3⟩:=hc.there
 have hargs:args.map a.eval++cs.toArray=(args.toList.map a.eval++cs).toArray:=by apply Array.ext';simp
 have h2': ¬ fn.body=none:=fun e=>by rw[e] at h2;simp at h2
 have h3': ¬ fn.name= "runtime.NumGoroutine" :=by simpa using h3
 simp[execOp,ho,resolve,Deferred.ofValue,hx,invoke,callFunc,h1,h2',h3',hargs]
theorem jS {x:Operand} {args:Array Operand} {argTypes:Array TypeId} {k:Con→List SV→Option R} (hG:Given P C Γ) (hf:SV.satL E fr a.tmps.toList) (hg:C.globsOk E.M) (ho:o.op= .call { callee:= .value x,args,argTypes})
  (h:zbn C Γ fr x args.toList k=some r): ∃ c vs vals,c.Ok P C∧SV.satL E vs vals∧k c vs=some r∧ ∀ w,(execOp a.eval o).run P w= .ok (.enter c.f vals.toArray) w:=by
 have other:(opd C fr x fun s=>(match s with
   | .fn f l=>zob C fr args.toList fun vs=>zrl Γ f (vs++l) fun c=>k c (vs++l)
   |_=>none))=some r→ ∃ c vs vals,c.Ok P C∧SV.satL E vs vals∧k c vs=some r∧ ∀ w,(execOp a.eval o).run P w= .ok (.enter c.f vals.toArray) w:=by
  intro h
  replace h:=zh hf hg h;obtain⟨s,s1,h⟩:=h
  split at h
  case h_2=>cases h
  case h_1 f l=>
   replace h:=j6 hf hg h;obtain⟨vs,v1,h⟩:=h
   replace h:=zbr h;obtain⟨c,c1,c2,h⟩:=h
   subst c2
   simp only[SV.sat] at s1
   obtain⟨cs,s2,s3⟩:=s1
   exact⟨c,_,_,hG.con c c1,SV.satL_append v1 s3,h,fun w=>zuz (hG.con c c1) ho s2 w⟩
 unfold zbn at h
 split at h
 case h_1 f=>
  replace h:=j6 hf hg h;obtain⟨vs,v1,h⟩:=h
  replace h:=zbr h;obtain⟨c,c1,c2,h⟩:=h
  subst c2
  exact⟨c,_,_,hG.con c c1,v1,h,fun w=>zw4 (hG.con c c1) ho w⟩
 case h_2=>exact other h
structure Keeps (l:List Tmp) (a a':Act):Prop where
 tmps: ∀ t,t∉l→a'.tmps[t]? =a.tmps[t]?
 size:a'.tmps.size=a.tmps.size
 defers:a'.defers=a.defers
theorem Keeps.refl (l:List Tmp) (a:Act):Keeps l a a:=⟨fun _ _=>rfl,rfl,rfl⟩
theorem Keeps.trans {l:List Tmp} {a b c:Act} (h:Keeps l a b) (k:Keeps l b c):Keeps l a c:=
 ⟨fun t ht=>(k.tmps t ht).trans (h.tmps t ht),k.size.trans h.size,k.defers.trans h.defers⟩
theorem Keeps.mono {l l':List Tmp} {a b:Act} (h:Keeps l a b) (hl: ∀ t∈l,t∈l'):Keeps l' a b:=
 ⟨fun t ht=>h.tmps t fun h'=>ht (hl t h'),h.size,h.defers⟩
theorem Keeps.put (l:List Tmp) (a:Act) (d:Option Tmp) (v:Value) (hd: ∀ t,d=some t→t∈l):Keeps l a (a.put d v):=by
 cases d with
 |none=>exact Keeps.refl l a
 |some t=>
  refine⟨fun u hu=> ?_,by simp[Act.put],rfl⟩
  simp only[Act.put,Array.getElem?_setIfInBounds]
  rw[if_neg (fun(h:t=u)=>hu (h▸hd t rfl))]
theorem zgt {l:List SV} {vs:List Value} {i:Nat} {s:SV} {v:Value} (h:SV.satL E l vs) (hs:s.sat E v):SV.satL E (l.set i s) (vs.set i v):=by
 induction l generalizing vs i with
 |nil=>simp[SV.satL] at h;subst h;simp[SV.satL]
 |cons x l ih=>
  simp only[SV.satL] at h
  obtain⟨u,us,e,h1,h2⟩:=h
  subst e
  cases i with
  |zero=>simp only[List.set_cons_zero,SV.satL];exact⟨v,us,rfl,hs,h2⟩
  |succ i=>simp only[List.set_cons_succ,SV.satL];exact⟨u,_,rfl,h1,ih h2⟩
theorem xK {d:Option Tmp} {s:SV} {v:Value} {k:List SV→Option R} (hf:SV.satL E fr a.tmps.toList) (hs:s.sat E v) (h:zcp fr d s k=some r):
  ∃ fr',SV.satL E fr' (a.put d v).tmps.toList∧k fr'=some r:=by
 cases d with
 |none=>exact⟨fr,hf,h⟩
 |some t=>
  simp only[zcp] at h
  rw[zo] at h
  refine⟨_, ?_,h⟩
  simp only[Act.put,Array.toList_setIfInBounds]
  exact zgt hf hs
theorem zkw {args:Array Operand} {argTypes:Array TypeId} {k:SV→List HO→Option R} (hC:C.ok P) (hh:Hp B E hp w) (hf:SV.satL E fr a.tmps.toList) (hg:C.globsOk E.M)
  (ho:o.op= .call { callee:= .builtin .append,args,argTypes})
  (h:(match args.toList,argTypes.toList with
  | [s,x], [T,T']=>bif Nat.beq T T' then zq C.TT T fun i=>(match i.kind with
   | .slice E=>zq C.TT E fun ei=>opd C fr s fun s=>opd C fr x fun x=>jE C E ei s x hp k
   |_=>none) else none
  |_,_=>none)=some r):zf2 P B E a o w k r:=by
 split at h
 case h_2=>cases h
 case h_1 s x T T' e1 e2=>
  cases hT:Nat.beq T T' with
  |false=>rw[hT] at h;cases h
  |true=>
   have:=Nat.eq_of_beq_eq_true hT
   subst this
   rw[hT,cond_true] at h
   replace h:=zd h;obtain⟨i,hi,h⟩:=h
   split at h
   case h_2=>cases h
   case h_1 S hk=>
    replace h:=zd h;obtain⟨ei,hS,h⟩:=h
    replace h:=zh hf hg h;obtain⟨ss,s1,h⟩:=h
    replace h:=zh hf hg h;obtain⟨sx,x1,h⟩:=h
    obtain⟨E',hp',s',v,w',q1,q2,q3,q4,q5⟩:=zld hC hh hi hk hS s1 x1 h
    refine⟨E',hp',s',v,w',q1,q2,q3,q4, .inl ?_⟩
    have ea:args= #[s,x]:=by apply Array.ext';simpa using e1
    have et:argTypes= #[T,T]:=by apply Array.ext';simpa using e2
    subst ea;subst et
    simp[execOp,ho,resolve,invoke,builtin,q5]
def zoe (B:Base) (E:Env) (a:Act) (l:List Tmp) (k:List SV→List HO→Option R) (r:R) (next:Act→World→Prop):Prop:=
 ∀ (E':Env) (fr':List SV) (hp':List HO) (a':Act) (w':World),E.le E'→Hp B E' hp' w'→SV.satL E' fr' a'.tmps.toList→Keeps l a a'→k fr' hp'=some r→next a' w'
theorem zbv {k:SV→List HO→Option R} {next:Act→World→Prop} {Q:Exit→Act→World→Prop} (h:zf2 P B E a o w k r)
  (hn: ∀ E' hp' s v w',E.le E'→Hp B E' hp' w'→s.sat E' v→k s hp'=some r→next (a.put o.dst v) w'):o.wp P a w next Q:=by
 obtain⟨E',hp',s,v,w',h1,h2,h3,h4,h5⟩:=h
 have:=hn E' hp' s v w' h1 h2 h3 h4
 unfold Oper.wp
 rcases h5 with h5|⟨h5,h6⟩
 ·rw[h5];exact this
 ·rw[h5];subst h6;exact this
theorem zgg {k:SV→List HO→Option R} {next:Act→World→Prop} {Q:Exit→Act→World→Prop} (hG:Given P C Γ) (hh:Hp B E hp w) (hf:SV.satL E fr a.tmps.toList) (hg:C.globsOk E.M)
  (hn: ∀ E' hp' s v w',E.le E'→Hp B E' hp' w'→s.sat E' v→k s hp'=some r→next (a.put o.dst v) w') (h:zhh C Γ fr hp o.op k=some r):o.wp P a w next Q:=by
 unfold zhh at h
 split at h
 case h_1 T ho=>exact zbv (zog hG.ctx hh ho h) hn
 case h_2 T x ho=>exact zbv (zta hh hf hg ho h) hn
 case h_3 T n parts ho=>exact zbv (zf3 hG.ctx hh hf hg ho h) hn
 case h_4 T l' c ho=>exact zbv (zr7 hG.ctx hh hf hg ho h) hn
 case h_5 T x y ho=>exact zbv (zpr hG.ctx hh hf hg ho h) hn
 case h_6 args argTypes ho=>exact zbv (zkw hG.ctx hh hf hg ho h) hn
 case h_7 args argTypes ho=>exact zbv (zon hG.ctx hh hf hg ho h) hn
 case h_8 T n ho=>exact zbv (zlo hG.ctx hh hf hg ho h) hn
 case h_9 T m y v ho=>exact zbv (zb5 hG.ctx hh hf hg (.inl ho) h) hn
 case h_10 T m y v ho=>exact zbv (zb5 hG.ctx hh hf hg (.inr ho) h) hn
 case h_11 T x ho=>exact zbv (zh5 hG.ctx hh hf hg ho h) hn
 case h_12 x args argTypes ho=>
  obtain⟨c,vs,vals,hc,v1,h,hrun⟩:=jS hG hf hg ho h
  unfold Oper.wp
  rw[hrun w,Oper.upon_enter]
  refine(zrs hc hg hh v1 h).mono ?_
  rintro e w' ⟨v,E',hp',s,rfl,q1,q2,q3,q4⟩
  exact hn _ _ _ _ _ q1 q2 q3 q4
 case h_13=>cases h
theorem zqa {l:List Tmp} {k:List SV→List HO→Option R} {next:Act→World→Prop} {Q:Exit→Act→World→Prop} (hG:Given P C Γ) (hh:Hp B E hp w) (hf:SV.satL E fr a.tmps.toList) (hg:C.globsOk E.M)
  (hd: ∀ t,o.dst=some t→t∈l) (hn:zoe B E a l k r next) {all:List Oper} (h:zja C Γ all fr hp o k=some r):o.wp P a w next Q:=by
 unfold zja at h
 have fin: ∀ {E':Env} {hp':List HO} {s:SV} {v:Value} {w':World},E.le E'→Hp B E' hp' w'→s.sat E' v→(zcp fr o.dst s fun fr=>k fr hp')=some r→next (a.put o.dst v) w':=by
  intro E' hp' s v w' h1 h2 h3 h4
  obtain⟨fr',h5,h6⟩:=xK (SV.satL_mono h1 _ _ hf) h3 h4
  exact hn E' fr' hp' _ w' h1 h2 h5 (Keeps.put l a o.dst v hd) h6
 cases he:isEffX C all o with
 |false=>
  rw[he,cond_false] at h
  obtain⟨v,s,h1,h2,h3⟩:=xb hG.ctx hh hf hg h
  obtain⟨s',h4,h5⟩:=zkn hh h1 h2
  unfold Oper.wp
  rw[h3 w (Below.refl _ _)]
  exact fin (Env.le_refl E) hh h4 h5
 |true=>
  rw[he,cond_true] at h
  refine zgg hG hh hf hg (fun E' hp' s v w' h1 h2 h3 h4=> ?_) h
  obtain⟨fr',h5,h6⟩:=xK (SV.satL_mono h1 _ _ hf) h3 h4
  obtain⟨fr2,h7,h8⟩:=x8 h2 h5 h6
  exact hn E' fr2 hp' _ w' h1 h2 h7 (Keeps.put l a o.dst v hd) h8
theorem zp6: ∀ (l:List Oper) (j:Nat),zez l j=(l[j]?).bind (·.dst)
 | [],j=>by simp[zez]
 |o::l,0=>by simp[zez]
 |o::l,j+1=>by simp only[zez,List.getElem?_cons_succ];exact zp6 l j
theorem zkt {ops:Array Oper} {j:Nat} {d:Tmp} {tmps:Array Value} (hd:zez ops.toList j=some d):yielded ops tmps j=(match tmps[d]? with|some (.bool b)=>some b|_=>none):=by
 rw[zp6] at hd
 have hd':(ops[j]?).bind (·.dst)=some d:=by simpa using hd
 unfold yielded
 rw[hd',Option.bind_some]
 cases tmps[d]? with
 |none=>rfl
 |some v=>cases v<;>rfl
theorem qD {ops:Array Oper} {j:Nat} {want:Bool} {d:Tmp} {b:Bool} {tmps:Array Value} (hg:o.guard=some (j,want)) (hd:zez ops.toList j=some d) (hv:tmps[d]? =some (.bool b)):Region.wanted o (yielded ops tmps)=(b==want):=by
 simp only[Region.wanted,hg,zkt hd,hv]
 cases b<;>cases want<;>rfl
theorem jv {ops:Array Oper} {j:Nat} {want:Bool} {d:Tmp} {tmps:Array Value} (hg:o.guard=some (j,want)) (hd:zez ops.toList j=some d) (hv:tmps[d]? =some undef):Region.wanted o (yielded ops tmps)=false:=by
 simp only[Region.wanted,hg,zkt hd,hv]
 rfl
theorem ju {t:Nat} {s:SV} (hf:SV.satL E fr a.tmps.toList) (h:fr[t]? =some s): ∃ v,a.tmps[t]? =some v∧s.sat E v:=by
 obtain⟨v,h1,h2⟩:=SV.satL_get t hf h
 exact⟨v,by simpa using h1,h2⟩
theorem xQ {t:Nat} {b:Bool} (hf:SV.satL E fr a.tmps.toList) (hv:a.tmps[t]? =some (.bool b)):SV.satL E (fr.set t (.bit b)) a.tmps.toList:=by
 have:=zgt (i:=t) hf (zfj (E:=E) b)
 have hh:a.tmps.toList.set t (.bool b)=a.tmps.toList:=by
  apply List.ext_getElem?
  intro i
  rw[List.getElem?_set]
  split
  ·rename_i hi
   subst hi
   have h1:a.tmps.toList[t]? =some (.bool b):=by simpa using hv
   have hl:=(List.getElem?_eq_some_iff.1 h1).1
   rw[if_pos hl,h1]
  ·rfl
 rwa [hh] at this
theorem zgh {l:List Tmp} {ops:Array Oper} {Q:Exit→Act→World→Prop} (hG:Given P C Γ): ∀ {os:List Oper} {E:Env} {fr:List SV} {hp:List HO} {a:Act} {w:World} {k:List SV→List HO→Option R},Hp B E hp w→SV.satL E fr a.tmps.toList→C.globsOk E.M→
  (∀ o∈os, ∀ t,o.dst=some t→t∈l)→zoe B E a l k r (fun a' w'=>Q .normal a' w')→zd2 C Γ ops.toList os fr hp k=some r→wpList P ops Q os a w
 | [],E,fr,hp,a,w,k,hh,hf,hg,hd,hn,h=>hn E fr hp a w (Env.le_refl E) hh hf (Keeps.refl l a) h
 |o::os,E,fr,hp,a,w,k,hh,hf,hg,hd,hn,h=>by
  have hdo:=hd o (by simp)
  have hdos: ∀ o'∈os, ∀ t,o'.dst=some t→t∈l:=fun o' ho'=>hd o' (by simp[ho'])
  have doIt: ∀ {fr0:List SV},SV.satL E fr0 a.tmps.toList→(zja C Γ ops.toList fr0 hp o fun fr hp=>zd2 C Γ ops.toList os fr hp k)=some r→o.wp P a w (wpList P ops Q os) Q:=by
   intro fr0 hf0 h0
   refine zqa hG hh hf0 hg hdo ?_ h0
   intro E' fr' hp' a' w' h1 h2 h3 h4 h5
   refine zgh hG h2 h3 (C.globsOk_mono h1.1 hg) hdos ?_ h5
   intro E'' fr'' hp'' a'' w'' k1 k2 k3 k4 k5
   exact hn E'' fr'' hp'' a'' w'' (Env.le_trans h1 k1) k2 k3 (h4.trans k4) k5
  have leave: ∀ {fr0:List SV},SV.satL E fr0 a.tmps.toList→(zcp fr0 o.dst .skip fun fr=>zd2 C Γ ops.toList os fr hp k)=some r→wpList P ops Q os (a.put o.dst undef) w:=by
   intro fr0 hf0 h0
   obtain⟨fr',h1,h2⟩:=xK (v:=undef) hf0 (by simp[SV.sat]) h0
   refine zgh hG hh h1 hg hdos ?_ h2
   intro E'' fr'' hp'' a'' w'' k1 k2 k3 k4 k5
   exact hn E'' fr'' hp'' a'' w'' k1 k2 k3 ((Keeps.put l a o.dst undef hdo).trans k4) k5
  unfold zd2 at h
  unfold wpList
  split at h
  case h_1 hgd=>
   have hw:Region.wanted o (yielded ops a.tmps)=true:=by simp[Region.wanted,hgd]
   rw[if_pos hw]
   exact .inl (doIt hf h)
  case h_2 j want hgd=>
   split at h
   case h_1=>cases h
   case h_2 d hds=>
    replace h:=ze h;obtain⟨s,hs,h⟩:=h
    obtain⟨v,hv,hsv⟩:=ju hf hs
    split at h
    case h_1 b=>
     have:v= .bool b:=by simpa [SV.sat] using hsv
     subst this
     have hw:=qD hgd hds hv
     cases hb:(b==want) with
     |true=>
      rw[hb] at h hw
      rw[if_pos hw]
      exact .inl (doIt hf h)
     |false=>
      rw[hb] at h hw
      rw[if_neg (by rw[hw];simp)]
      exact leave hf h
    case h_2=>
     have:v=undef:=by simpa [SV.sat] using hsv
     subst this
     have hw:=jv hgd hds hv
     rw[if_neg (by rw[hw];simp)]
     exact leave hf h
    case h_3 c=>
     simp only[SV.sat] at hsv
     have:=jK hsv
     subst this
     have hw:=qD hgd hds hv
     cases hc:c with
     |true=>
      subst hc
      rw[if_pos rfl,zo] at h
      have hf':=xQ hf hv
      cases want with
      |true=>rw[if_pos (by rw[hw];rfl)];exact .inl (doIt hf' h)
      |false=>rw[if_neg (by rw[hw];simp)];exact leave hf' h
     |false=>
      subst hc
      rw[if_neg (by simp),zo] at h
      have hf':=xQ hf hv
      cases want with
      |true=>rw[if_neg (by rw[hw];simp)];exact leave hf' h
      |false=>rw[if_pos (by rw[hw];rfl)];exact .inl (doIt hf' h)
    case h_4=>cases h
def zkc:(t:Ty)→t.den→List Value
 | .int i,x=> [.int i x]
 | .bool,x=> [.bool x]
 | .str,x=> [.string x]
 | .flt,x=> [.float .f64 x]
 | .cplx,x=> [.complex .f64 x.1 x.2]
 | .unit,_=> []
 | .sl _,_=> []
 | .osl _,_=> []
 | .arr _ _,_=> []
 | .pair a b,x=>zkc a x.1++zkc b x.2
 | .st f,x=>zkc f x
theorem zco {M:Mem}: ∀ (t:Ty) (x:t.den),t.plain=true→Rep M t x (zkc t x)
 | .int i,x,_=>rfl
 | .bool,x,_=>rfl
 | .str,x,_=>rfl
 | .flt,x,_=>rfl
 | .cplx,x,_=>rfl
 | .unit,x,_=>rfl
 | .sl _,_,h=>by simp[Ty.plain] at h
 | .osl _,_,h=>by simp[Ty.plain] at h
 | .arr _ _,_,h=>by simp[Ty.plain] at h
 | .pair a b,x,h=>by
  simp only[Ty.plain,Bool.and_eq_true] at h
  exact⟨_,_,rfl,zco a x.1 h.1,zco b x.2 h.2⟩
 | .st f,x,h=>zco f x h
theorem zax {M:Mem}: ∀ (t:Ty) (x:t.den) (cs:List Value),t.plain=true→Rep M t x cs→cs=zkc t x
 | .int i,x,cs,_,h=>h
 | .bool,x,cs,_,h=>h
 | .str,x,cs,_,h=>h
 | .flt,x,cs,_,h=>h
 | .cplx,x,cs,_,h=>h
 | .unit,x,cs,_,h=>h
 | .sl _,_,_,h,_=>by simp[Ty.plain] at h
 | .osl _,_,_,h,_=>by simp[Ty.plain] at h
 | .arr _ _,_,_,h,_=>by simp[Ty.plain] at h
 | .pair a b,x,cs,h,hr=>by
  simp only[Ty.plain,Bool.and_eq_true] at h
  obtain⟨c,d,e,h1,h2⟩:=hr
  rw[e,zax a x.1 c h.1 h1,zax b x.2 d h.2 h2]
  rfl
 | .st f,x,cs,h,hr=>zax f x cs h hr
theorem zkd {ρ1 ρ2:List Nat}: ∀ {ss:List Sh} {ds:List DV} {ts:List Ty},zay ss=true→qh ds=z9 ss++ts→ ∃ vs,(∀ E,SV.satL E (bL ρ2 ss ds).1 vs)∧ ∀ E us,SV.satL E (bL ρ1 ss ds).1 us→us=vs
 | [],ds,ts,_,_=>⟨[],fun E=>by simp[bL,SV.satL],fun E us h=>by simpa [bL,SV.satL] using h⟩
 | .hole t::ss, [],ts,_,hd=>by simp[z9,qh] at hd
 | .hole t::ss,d::ds,ts,hp,hd=>by
  obtain⟨u,x⟩:=d
  simp[z9,qh] at hd
  obtain⟨hd1,hd2⟩:=hd
  subst hd1
  simp only[zay,Bool.and_eq_true] at hp
  obtain⟨vs,h1,h2⟩:=zkd (ρ1:=ρ1) (ρ2:=ρ2) (ts:=ts) hp.2 hd2
  refine⟨zG u (zkc u x)::vs,fun E=> ?_,fun E us h=> ?_⟩
  ·simp only[bL,SV.satL]
   exact⟨_,_,rfl,by simp only[SV.sat];exact⟨_,zco u x hp.1.1,rfl⟩,h1 E⟩
  ·simp only[bL,SV.satL] at h
   obtain⟨v,ws,e,g1,g2⟩:=h
   simp only[SV.sat] at g1
   obtain⟨cs,g3,g4⟩:=g1
   rw[e,h2 E ws g2,g4,zax u x cs hp.1.1 g3]
 | .own _::_,_,_,h,_=>by simp[zay] at h
 | .ptr _ _::_,_,_,h,_=>by simp[zay] at h
 | .nilp::_,_,_,h,_=>by simp[zay] at h
 | .und::_,_,_,h,_=>by simp[zay] at h
 | .ro _::_,_,_,h,_=>by simp[zay] at h
theorem zot {c:Con} {args:List SV} {vals:List Value} {k:SV→Option R} (hc:c.Ok P C) (hg:C.globsOk E.M) (hh:Hp B E hp w) (hs:SV.satL E args vals) (h:zts c args hp k=some r):
  ∃ v s,s.sat E v∧k s=some r∧ ∀ w',Below w.heap.size w w'→Calls P c.f vals.toArray w' fun e w''=>e= .returned v∧Below w.heap.size w w'':=by
 unfold zts at h
 cases hq:zl1 c with
 |false=>rw[hq] at h;cases h
 |true=>
  rw[hq,cond_true] at h
  simp only[zl1,Bool.and_eq_true] at hq
  obtain⟨hq1,hq2⟩:=hq
  have hio:c.sig.ins.objs= []:=by
   cases hx:c.sig.ins.objs with
   |nil=>rfl
   |cons s l=>rw[hx] at hq1;simp at hq1
  replace h:=j7 (n0:=0) hh hs (Nat.zero_le _) h;obtain⟨E1,hp1,ds,mp,hpk,h⟩:=h
  replace h:=xC h;obtain⟨x,hx,h⟩:=h
  subst hx
  cases hF:c.F x with
  |none=>rw[hF] at h;cases h
  |some y=>
   rw[hF,Option.bind_some] at h
   replace h:=zT h
   obtain⟨hHin,hSin⟩:=hpk.heap
   have hin0:c.inO x= []:=by unfold Con.inO;rw[hio];rfl
   have hdv:qh (qE c.sig.outs.tys y)=z9 c.sig.outs.slots++qa c.sig.outs.objs:=by rw[j5,Skel.tys,qL]
   obtain⟨vs,v1,v2⟩:=zkd (ρ1:=zO c.sig.outs.objs.length 0) (ρ2:= []) hq2 hdv
   refine⟨retVal vs,_,zel (v1 E),h,fun w' hw=> ?_⟩
   have hL0:(zbd E E1 mp).L= []:=by
    have:=hHin.len
    have h0:(bO (zO c.sig.ins.objs.length 0) c.sig.ins.objs (bL (zO c.sig.ins.objs.length 0) c.sig.ins.slots (qE c.sig.ins.tys x)).2)= []:=hin0
    rw[h0] at this
    exact List.eq_nil_of_length_eq_zero this
   have hHin':Hp ⟨w',fun _=>False,(zbd E E1 mp).M⟩ (zbd E E1 mp) (c.inO x) w':=by
    rw[hin0]
    exact { ag:=(hHin.grow hw).ag,base:=Mem.le_refl _,fresh:=fun b c hb=> .inl hb,ok:=⟨rfl,rfl,rfl,Nat.le_refl _,fun _ _ _=>rfl⟩,len:=by rw[hL0];rfl,
            free:=fun i o e b h1=>by simp at h1,dist:=fun i j o o' e e' b h1=>by simp at h1,ob:=fun i o e h1=>by simp at h1,tok:=fun i o e h1=>by simp at h1,tdist:=fun i j o o' e e' b h1=>by simp at h1}
   refine(hc.calls (zbd E E1 mp) w' vals x y _ (C.globsOk_mono hpk.frz.le.1 hg) hSin hHin' hF).mono ?_
   rintro e w'' ⟨E',vs',rfl,hS',hH',_⟩
   rw[v2 E' vs' hS']
   refine⟨rfl,hw.trans ⟨hH'.ok.os,hH'.ok.tape,hH'.ok.output,hH'.ok.size,fun b hb=> ?_⟩⟩
   exact hH'.ok.block b (Nat.lt_of_lt_of_le hb hw.size) id
theorem zm7 {l:List Tmp} {k:List SV→Option R} (hG:Given P C Γ) (hh:Hp B E hp w) (hf:SV.satL E fr a.tmps.toList) (hg:C.globsOk E.M) (hd: ∀ t,o.dst=some t→t∈l) (h:zan C Γ fr hp o k=some r):
  ∃ v,(∀ w',Below w.heap.size w w'→o.quietAt P a (fun w'=>Below w.heap.size w w') w' v)∧ ∃ fr',SV.satL E fr' (a.put o.dst v).tmps.toList∧k fr'=some r∧Keeps l a (a.put o.dst v):=by
 unfold zan at h
 split at h
 case h_1 x args argTypes ho=>
  obtain⟨c,vs,vals,hc,v1,h,hrun⟩:=jS hG hf hg ho h
  obtain⟨v,s,q1,q2,q3⟩:=zot hc hg hh v1 h
  obtain⟨fr',q4,q5⟩:=xK hf q1 q2
  refine⟨v,fun w' hw=> ?_,fr',q4,q5,Keeps.put l a o.dst v hd⟩
  unfold Oper.quietAt
  rw[hrun w']
  exact⟨rfl,q3 w' hw⟩
 case h_2=>
  cases he:ze8 o.op with
  |true=>rw[he] at h;cases h
  |false=>
   rw[he,cond_false] at h
   obtain⟨v,s,h1,h2,h3⟩:=xb hG.ctx hh hf hg h
   obtain⟨fr',q4,q5⟩:=xK hf h1 h2
   refine⟨v,fun w' hw=> ?_,fr',q4,q5,Keeps.put l a o.dst v hd⟩
   unfold Oper.quietAt
   rw[h3 w' hw]
   exact⟨rfl,rfl⟩
theorem zhi {l:List Tmp} {ops:Array Oper} (hG:Given P C Γ) (hh:Hp B E hp w) (hg:C.globsOk E.M): ∀ {os:List Oper} {fr:List SV} {a:Act} {k:List SV→Option R} {K:Act→Prop},SV.satL E fr a.tmps.toList→
  (∀ o∈os, ∀ t,o.dst=some t→t∈l)→(∀ fr' a',SV.satL E fr' a'.tmps.toList→Keeps l a a'→k fr'=some r→K a')→xr C Γ ops.toList os fr hp k=some r→wpQuiet P ops (fun w'=>Below w.heap.size w w') K os a
 | [],fr,a,k,K,hf,hd,hn,h=>hn fr a hf (Keeps.refl l a) h
 |o::os,fr,a,k,K,hf,hd,hn,h=>by
  have hdo:=hd o (by simp)
  have hdos: ∀ o'∈os, ∀ t,o'.dst=some t→t∈l:=fun o' ho'=>hd o' (by simp[ho'])
  have doIt: ∀ {fr0:List SV},SV.satL E fr0 a.tmps.toList→(zan C Γ fr0 hp o fun fr=>xr C Γ ops.toList os fr hp k)=some r→o.quiet P a (fun w'=>Below w.heap.size w w') (wpQuiet P ops (fun w'=>Below w.heap.size w w') K os):=by
   intro fr0 hf0 h0
   obtain⟨v,q1,fr',q2,q3,q4⟩:=zm7 (l:=l) hG hh hf0 hg hdo h0
   exact⟨v,q1,zhi hG hh hg q2 hdos (fun fr'' a'' g1 g2 g3=>hn fr'' a'' g1 (q4.trans g2) g3) q3⟩
  have leave: ∀ {fr0:List SV},SV.satL E fr0 a.tmps.toList→(zcp fr0 o.dst .skip fun fr=>xr C Γ ops.toList os fr hp k)=some r→wpQuiet P ops (fun w'=>Below w.heap.size w w') K os (a.put o.dst undef):=by
   intro fr0 hf0 h0
   obtain⟨fr',h1,h2⟩:=xK (v:=undef) hf0 (by simp[SV.sat]) h0
   exact zhi hG hh hg h1 hdos (fun fr'' a'' g1 g2 g3=>hn fr'' a'' g1 ((Keeps.put l a o.dst undef hdo).trans g2) g3) h2
  unfold xr at h
  unfold wpQuiet
  split at h
  case h_1 hgd=>
   have hw:Region.wanted o (yielded ops a.tmps)=true:=by simp[Region.wanted,hgd]
   rw[if_pos hw]
   exact doIt hf h
  case h_2 j want hgd=>
   split at h
   case h_1=>cases h
   case h_2 d hds=>
    replace h:=ze h;obtain⟨s,hs,h⟩:=h
    obtain⟨v,hv,hsv⟩:=ju hf hs
    split at h
    case h_1 b=>
     have:v= .bool b:=by simpa [SV.sat] using hsv
     subst this
     have hw:=qD hgd hds hv
     cases hb:(b==want) with
     |true=>
      rw[hb] at h hw
      rw[if_pos hw]
      exact doIt hf h
     |false=>
      rw[hb] at h hw
      rw[if_neg (by rw[hw];simp)]
      exact leave hf h
    case h_2=>
     have:v=undef:=by simpa [SV.sat] using hsv
     subst this
     have hw:=jv hgd hds hv
     rw[if_neg (by rw[hw];simp)]
     exact leave hf h
    case h_3 c=>
     simp only[SV.sat] at hsv
     have:=jK hsv
     subst this
     have hw:=qD hgd hds hv
     cases hc:c with
     |true=>
      subst hc
      rw[if_pos rfl,zo] at h
      have hf':=xQ hf hv
      cases want with
      |true=>rw[if_pos (by rw[hw];rfl)];exact doIt hf' h
      |false=>rw[if_neg (by rw[hw];simp)];exact leave hf' h
     |false=>
      subst hc
      rw[if_neg (by simp),zo] at h
      have hf':=xQ hf hv
      cases want with
      |true=>rw[if_neg (by rw[hw];simp)];exact leave hf' h
      |false=>rw[if_pos (by rw[hw];rfl)];exact doIt hf' h
    case h_4=>cases h
end
end Go.Sx
