/- The symbolic evaluator, part M: operations one after the other; regions. -/
import Derived.Test.YtpmbmobjnknnhaaGreatDoorSxL
set_option linter.unusedVariables false
set_option linter.unusedSimpArgs false
namespace Go.Sx
open Go.RowKit
structure Given (P:Program) (C:Ctx) (Γ:List Con):Prop where
 ctx:C.ok P
 con: ∀ c∈Γ,c.Ok P C
 mixed:P.follows .mixedOrders=true
section
variable {R:Type} {r:R} {P:Program} {C:Ctx} {Γ:List Con} {B:Base} {E:Env} {fr:List SV} {hp:List HO} {a:Act} {w w':World} {o:Oper}
theorem zbs {f:FuncId} {vs:List SV} {k:Con→Option R}: ∀ {Γ:List Con},zss Γ f vs k=some r→ ∃ c,c∈Γ∧c.f=f∧k c=some r
 | [],h=>by simp[zss] at h
 |c::l,h=>by
  unfold zss at h
  cases hb:(Nat.beq c.f f&&zs3 c.sig.ins.slots vs) with
  |true=>
   rw[hb] at h
   simp only[Bool.and_eq_true] at hb
   exact⟨c,by simp,Nat.eq_of_beq_eq_true hb.1,h⟩
  |false=>
   rw[hb] at h
   obtain⟨d,h1,h2⟩:=zbs (Γ:=l) h
   exact⟨d,by simp[h1],h2⟩
theorem zyg {c:Con} (hc:c.Ok P C) {args:Array Operand} {argTypes:Array TypeId} (ho:o.op= .call { callee:= .value (.func c.f),args,argTypes}) (w:World):
  (execOp a.eval o).run P w= .ok (.enter c.f (args.toList.map a.eval).toArray) w:=by
 obtain⟨fn,h1,h2,h3⟩:=hc.there
 have hargs:args.map a.eval=(args.toList.map a.eval).toArray:=by apply Array.ext';simp
 have h2': ¬ fn.body=none:=fun e=>by rw[e] at h2;simp at h2
 have h3': ¬ fn.name= "runtime.NumGoroutine" :=by simpa using h3
 simp[execOp,ho,resolve,Deferred.ofValue,Act.eval,invoke,callFunc,h1,h2',h3',hargs]
theorem zwa {c:Con} (hc:c.Ok P C) {x:Operand} {args:Array Operand} {argTypes:Array TypeId} {cs:List Value} (ho:o.op= .call { callee:= .value x,args,argTypes}) (hx:a.eval x= .func (.func c.f) #[] cs.toArray) (w:World):
  (execOp a.eval o).run P w= .ok (.enter c.f (args.toList.map a.eval++cs).toArray) w:=by
 obtain⟨fn,h1,h2,h3⟩:=hc.there
 have hargs:args.map a.eval++cs.toArray=(args.toList.map a.eval++cs).toArray:=by apply Array.ext';simp
 have h2': ¬ fn.body=none:=fun e=>by rw[e] at h2;simp at h2
 have h3': ¬ fn.name= "runtime.NumGoroutine" :=by simpa using h3
 simp[execOp,ho,resolve,Deferred.ofValue,hx,invoke,callFunc,h1,h2',h3',hargs]
theorem jX {x:Operand} {args:Array Operand} {argTypes:Array TypeId} {k:Con→List SV→Option R} (hG:Given P C Γ) (hf:SV.satL E fr a.tmps.toList) (hg:C.globsOk E.M) (ho:o.op= .call { callee:= .value x,args,argTypes})
  (h:zbo C Γ fr x args.toList k=some r): ∃ c vs vals,c.Ok P C∧SV.satL E vs vals∧k c vs=some r∧ ∀ w,(execOp a.eval o).run P w= .ok (.enter c.f vals.toArray) w:=by
 have other:(opd C fr x fun s=>(match s with
   | .fn f l=>zo8 C fr args.toList fun vs=>zss Γ f (vs++l) fun c=>k c (vs++l)
   |_=>none))=some r→ ∃ c vs vals,c.Ok P C∧SV.satL E vs vals∧k c vs=some r∧ ∀ w,(execOp a.eval o).run P w= .ok (.enter c.f vals.toArray) w:=by
  intro h
  replace h:=zh hf hg h;obtain⟨s,s1,h⟩:=h
  split at h
  case h_2=>cases h
  case h_1 f l=>
   replace h:=zad hf hg h;obtain⟨vs,v1,h⟩:=h
   replace h:=zbs h;obtain⟨c,c1,c2,h⟩:=h
   subst c2
   simp only[SV.sat] at s1
   obtain⟨cs,s2,s3⟩:=s1
   exact⟨c,_,_,hG.con c c1,SV.satL_append v1 s3,h,fun w=>zwa (hG.con c c1) ho s2 w⟩
 unfold zbo at h
 split at h
 case h_1 f=>
  replace h:=zad hf hg h;obtain⟨vs,v1,h⟩:=h
  replace h:=zbs h;obtain⟨c,c1,c2,h⟩:=h
  subst c2
  exact⟨c,_,_,hG.con c c1,v1,h,fun w=>zyg (hG.con c c1) ho w⟩
 case h_2=>exact other h
structure Keeps (l:List Tmp) (a a':Act):Prop where
 tmps: ∀ t,t∉l→a'.tmps[t]? =a.tmps[t]?
 size:a'.tmps.size=a.tmps.size
 defers:a'.defers=a.defers
theorem Keeps.refl (l:List Tmp) (a:Act):Keeps l a a:=⟨fun _ _=>rfl,rfl,rfl⟩
theorem Keeps.trans {l:List Tmp} {a b c:Act} (h:Keeps l a b) (k:Keeps l b c):Keeps l a c:=
 ⟨fun t ht=>(k.tmps t ht).trans (h.tmps t ht),k.size.trans h.size,k.defers.trans h.defers⟩
theorem Keeps.mono {l l':List Tmp} {a b:Act} (h:Keeps l a b) (hl: ∀ t∈l,t∈l'):Keeps l' a b:=
 ⟨fun t ht=>h.tmps t fun h'=>ht (hl t h'),h.size,h.defers⟩
theorem Keeps.put (l:List Tmp) (a:Act) (d:Option Tmp) (v:Value) (hd: ∀ t,d=some t→t∈l):Keeps l a (a.put d v):=by
 cases d with
 |none=>exact Keeps.refl l a
 |some t=>
  refine⟨fun u hu=> ?_,by simp[Act.put],rfl⟩
  simp only[Act.put,Array.getElem?_setIfInBounds]
  rw[if_neg (fun(h:t=u)=>hu (h▸hd t rfl))]
theorem zg8 {l:List SV} {vs:List Value} {i:Nat} {s:SV} {v:Value} (h:SV.satL E l vs) (hs:s.sat E v):SV.satL E (l.set i s) (vs.set i v):=by
 induction l generalizing vs i with
 |nil=>simp[SV.satL] at h;subst h;simp[SV.satL]
 |cons x l ih=>
  simp only[SV.satL] at h
  obtain⟨u,us,e,h1,h2⟩:=h
  subst e
  cases i with
  |zero=>simp only[List.set_cons_zero,SV.satL];exact⟨v,us,rfl,hs,h2⟩
  |succ i=>simp only[List.set_cons_succ,SV.satL];exact⟨u,_,rfl,h1,ih h2⟩
theorem xN {d:Option Tmp} {s:SV} {v:Value} {k:List SV→Option R} (hf:SV.satL E fr a.tmps.toList) (hs:s.sat E v) (h:zcs fr d s k=some r):
  ∃ fr',SV.satL E fr' (a.put d v).tmps.toList∧k fr'=some r:=by
 cases d with
 |none=>exact⟨fr,hf,h⟩
 |some t=>
  simp only[zcs] at h
  rw[zr] at h
  refine⟨_, ?_,h⟩
  simp only[Act.put,Array.toList_setIfInBounds]
  exact zg8 hf hs
theorem zln {args:Array Operand} {argTypes:Array TypeId} {k:SV→List HO→Option R} (hC:C.ok P) (hh:Hp B E hp w) (hf:SV.satL E fr a.tmps.toList) (hg:C.globsOk E.M)
  (ho:o.op= .call { callee:= .builtin .append,args,argTypes})
  (h:(match args.toList,argTypes.toList with
  | [s,x], [T,T']=>bif Nat.beq T T' then zu C.TT T fun i=>(match i.kind with
   | .slice E=>zu C.TT E fun ei=>opd C fr s fun s=>opd C fr x fun x=>jI C E ei s x hp k
   |_=>none) else none
  |_,_=>none)=some r):zgi P B E a o w k r:=by
 split at h
 case h_2=>cases h
 case h_1 s x T T' e1 e2=>
  cases hT:Nat.beq T T' with
  |false=>rw[hT] at h;cases h
  |true=>
   have:=Nat.eq_of_beq_eq_true hT
   subst this
   rw[hT,cond_true] at h
   replace h:=zd h;obtain⟨i,hi,h⟩:=h
   split at h
   case h_2=>cases h
   case h_1 S hk=>
    replace h:=zd h;obtain⟨ei,hS,h⟩:=h
    replace h:=zh hf hg h;obtain⟨ss,s1,h⟩:=h
    replace h:=zh hf hg h;obtain⟨sx,x1,h⟩:=h
    obtain⟨E',hp',s',v,w',q1,q2,q3,q4,q5⟩:=zl6 hC hh hi hk hS s1 x1 h
    refine⟨E',hp',s',v,w',q1,q2,q3,q4, .inl ?_⟩
    have ea:args= #[s,x]:=by apply Array.ext';simpa using e1
    have et:argTypes= #[T,T]:=by apply Array.ext';simpa using e2
    subst ea;subst et
    simp[execOp,ho,resolve,invoke,builtin,q5]
def zpa (B:Base) (E:Env) (a:Act) (l:List Tmp) (k:List SV→List HO→Option R) (r:R) (next:Act→World→Prop):Prop:=
 ∀ (E':Env) (fr':List SV) (hp':List HO) (a':Act) (w':World),E.le E'→Hp B E' hp' w'→SV.satL E' fr' a'.tmps.toList→Keeps l a a'→k fr' hp'=some r→next a' w'
theorem zbw {k:SV→List HO→Option R} {next:Act→World→Prop} {Q:Exit→Act→World→Prop} (h:zgi P B E a o w k r)
  (hn: ∀ E' hp' s v w',E.le E'→Hp B E' hp' w'→s.sat E' v→k s hp'=some r→next (a.put o.dst v) w'):o.wp P a w next Q:=by
 obtain⟨E',hp',s,v,w',h1,h2,h3,h4,h5⟩:=h
 have:=hn E' hp' s v w' h1 h2 h3 h4
 unfold Oper.wp
 rcases h5 with h5|⟨h5,h6⟩
 ·rw[h5];exact this
 ·rw[h5];subst h6;exact this
theorem zgv {k:SV→List HO→Option R} {next:Act→World→Prop} {Q:Exit→Act→World→Prop} (hG:Given P C Γ) (hh:Hp B E hp w) (hf:SV.satL E fr a.tmps.toList) (hg:C.globsOk E.M)
  (hn: ∀ E' hp' s v w',E.le E'→Hp B E' hp' w'→s.sat E' v→k s hp'=some r→next (a.put o.dst v) w') (h:zht C Γ fr hp o.op k=some r):o.wp P a w next Q:=by
 unfold zht at h
 split at h
 case h_1 T ho=>exact zbw (zpc hG.ctx hh ho h) hn
 case h_2 T x ho=>exact zbw (zud hh hf hg ho h) hn
 case h_3 T n parts ho=>exact zbw (zgj hG.ctx hh hf hg ho h) hn
 case h_4 T l' c ho=>exact zbw (ztd hG.ctx hh hf hg ho h) hn
 case h_5 T x y ho=>exact zbw (zqq hG.ctx hh hf hg ho h) hn
 case h_6 args argTypes ho=>exact zbw (zln hG.ctx hh hf hg ho h) hn
 case h_7 args argTypes ho=>exact zbw (zpj hG.ctx hh hf hg ho h) hn
 case h_8 T n ho=>exact zbw (zmi hG.ctx hh hf hg ho h) hn
 case h_9 T m y v ho=>exact zbw (zb6 hG.ctx hh hf hg (.inl ho) h) hn
 case h_10 T m y v ho=>exact zbw (zb6 hG.ctx hh hf hg (.inr ho) h) hn
 case h_11 T x ho=>exact zbw (zij hG.ctx hh hf hg ho h) hn
 case h_12 x args argTypes ho=>
  obtain⟨c,vs,vals,hc,v1,h,hrun⟩:=jX hG hf hg ho h
  unfold Oper.wp
  rw[hrun w,Oper.upon_enter]
  refine(zsy hc hg hh v1 h).mono ?_
  rintro e w' ⟨v,E',hp',s,rfl,q1,q2,q3,q4⟩
  exact hn _ _ _ _ _ q1 q2 q3 q4
 case h_13=>cases h
theorem zrb {l:List Tmp} {k:List SV→List HO→Option R} {next:Act→World→Prop} {Q:Exit→Act→World→Prop} (hG:Given P C Γ) (hh:Hp B E hp w) (hf:SV.satL E fr a.tmps.toList) (hg:C.globsOk E.M)
  (hd: ∀ t,o.dst=some t→t∈l) (hn:zpa B E a l k r next) {all:List Oper} (h:zjq C Γ all fr hp o k=some r):o.wp P a w next Q:=by
 unfold zjq at h
 have fin: ∀ {E':Env} {hp':List HO} {s:SV} {v:Value} {w':World},E.le E'→Hp B E' hp' w'→s.sat E' v→(zcs fr o.dst s fun fr=>k fr hp')=some r→next (a.put o.dst v) w':=by
  intro E' hp' s v w' h1 h2 h3 h4
  obtain⟨fr',h5,h6⟩:=xN (SV.satL_mono h1 _ _ hf) h3 h4
  exact hn E' fr' hp' _ w' h1 h2 h5 (Keeps.put l a o.dst v hd) h6
 cases he:isEffX C all o with
 |false=>
  rw[he,cond_false] at h
  obtain⟨v,s,h1,h2,h3⟩:=xe hG.ctx hh hf hg h
  obtain⟨s',h4,h5⟩:=zld hh h1 h2
  unfold Oper.wp
  rw[h3 w (Below.refl _ _)]
  exact fin (Env.le_refl E) hh h4 h5
 |true=>
  rw[he,cond_true] at h
  refine zgv hG hh hf hg (fun E' hp' s v w' h1 h2 h3 h4=> ?_) h
  obtain⟨fr',h5,h6⟩:=xN (SV.satL_mono h1 _ _ hf) h3 h4
  obtain⟨fr2,h7,h8⟩:=jd h2 h5 h6
  exact hn E' fr2 hp' _ w' h1 h2 h7 (Keeps.put l a o.dst v hd) h8
theorem zq7: ∀ (l:List Oper) (j:Nat),zfc l j=(l[j]?).bind (·.dst)
 | [],j=>by simp[zfc]
 |o::l,0=>by simp[zfc]
 |o::l,j+1=>by simp only[zfc,List.getElem?_cons_succ];exact zq7 l j
theorem zlj {ops:Array Oper} {j:Nat} {d:Tmp} {tmps:Array Value} (hd:zfc ops.toList j=some d):yielded ops tmps j=(match tmps[d]? with|some (.bool b)=>some b|_=>none):=by
 rw[zq7] at hd
 have hd':(ops[j]?).bind (·.dst)=some d:=by simpa using hd
 unfold yielded
 rw[hd',Option.bind_some]
 cases tmps[d]? with
 |none=>rfl
 |some v=>cases v<;>rfl
theorem qE {ops:Array Oper} {j:Nat} {want:Bool} {d:Tmp} {b:Bool} {tmps:Array Value} (hg:o.guard=some (j,want)) (hd:zfc ops.toList j=some d) (hv:tmps[d]? =some (.bool b)):Region.wanted o (yielded ops tmps)=(b==want):=by
 simp only[Region.wanted,hg,zlj hd,hv]
 cases b<;>cases want<;>rfl
theorem jy {ops:Array Oper} {j:Nat} {want:Bool} {d:Tmp} {tmps:Array Value} (hg:o.guard=some (j,want)) (hd:zfc ops.toList j=some d) (hv:tmps[d]? =some undef):Region.wanted o (yielded ops tmps)=false:=by
 simp only[Region.wanted,hg,zlj hd,hv]
 rfl
theorem jx {t:Nat} {s:SV} (hf:SV.satL E fr a.tmps.toList) (h:fr[t]? =some s): ∃ v,a.tmps[t]? =some v∧s.sat E v:=by
 obtain⟨v,h1,h2⟩:=SV.satL_get t hf h
 exact⟨v,by simpa using h1,h2⟩
theorem xU {t:Nat} {b:Bool} (hf:SV.satL E fr a.tmps.toList) (hv:a.tmps[t]? =some (.bool b)):SV.satL E (fr.set t (.bit b)) a.tmps.toList:=by
 have:=zg8 (i:=t) hf (zfv (E:=E) b)
 have hh:a.tmps.toList.set t (.bool b)=a.tmps.toList:=by
  apply List.ext_getElem?
  intro i
  rw[List.getElem?_set]
  split
  ·rename_i hi
   subst hi
   have h1:a.tmps.toList[t]? =some (.bool b):=by simpa using hv
   have hl:=(List.getElem?_eq_some_iff.1 h1).1
   rw[if_pos hl,h1]
  ·rfl
 rwa [hh] at this
theorem zgw {l:List Tmp} {ops:Array Oper} {Q:Exit→Act→World→Prop} (hG:Given P C Γ): ∀ {os:List Oper} {E:Env} {fr:List SV} {hp:List HO} {a:Act} {w:World} {k:List SV→List HO→Option R},Hp B E hp w→SV.satL E fr a.tmps.toList→C.globsOk E.M→
  (∀ o∈os, ∀ t,o.dst=some t→t∈l)→zpa B E a l k r (fun a' w'=>Q .normal a' w')→zd5 C Γ ops.toList os fr hp k=some r→wpList P ops Q os a w
 | [],E,fr,hp,a,w,k,hh,hf,hg,hd,hn,h=>hn E fr hp a w (Env.le_refl E) hh hf (Keeps.refl l a) h
 |o::os,E,fr,hp,a,w,k,hh,hf,hg,hd,hn,h=>by
  have hdo:=hd o (by simp)
  have hdos: ∀ o'∈os, ∀ t,o'.dst=some t→t∈l:=fun o' ho'=>hd o' (by simp[ho'])
  have doIt: ∀ {fr0:List SV},SV.satL E fr0 a.tmps.toList→(zjq C Γ ops.toList fr0 hp o fun fr hp=>zd5 C Γ ops.toList os fr hp k)=some r→o.wp P a w (wpList P ops Q os) Q:=by
   intro fr0 hf0 h0
   refine zrb hG hh hf0 hg hdo ?_ h0
   intro E' fr' hp' a' w' h1 h2 h3 h4 h5
   refine zgw hG h2 h3 (C.globsOk_mono h1.1 hg) hdos ?_ h5
   intro E'' fr'' hp'' a'' w'' k1 k2 k3 k4 k5
   exact hn E'' fr'' hp'' a'' w'' (Env.le_trans h1 k1) k2 k3 (h4.trans k4) k5
  have leave: ∀ {fr0:List SV},SV.satL E fr0 a.tmps.toList→(zcs fr0 o.dst .skip fun fr=>zd5 C Γ ops.toList os fr hp k)=some r→wpList P ops Q os (a.put o.dst undef) w:=by
   intro fr0 hf0 h0
   obtain⟨fr',h1,h2⟩:=xN (v:=undef) hf0 (by simp[SV.sat]) h0
   refine zgw hG hh h1 hg hdos ?_ h2
   intro E'' fr'' hp'' a'' w'' k1 k2 k3 k4 k5
   exact hn E'' fr'' hp'' a'' w'' k1 k2 k3 ((Keeps.put l a o.dst undef hdo).trans k4) k5
  unfold zd5 at h
  unfold wpList
  split at h
  case h_1 hgd=>
   have hw:Region.wanted o (yielded ops a.tmps)=true:=by simp[Region.wanted,hgd]
   rw[if_pos hw]
   exact .inl (doIt hf h)
  case h_2 j want hgd=>
   split at h
   case h_1=>cases h
   case h_2 d hds=>
    replace h:=ze h;obtain⟨s,hs,h⟩:=h
    obtain⟨v,hv,hsv⟩:=jx hf hs
    split at h
    case h_1 b=>
     have:v= .bool b:=by simpa [SV.sat] using hsv
     subst this
     have hw:=qE hgd hds hv
     cases hb:(b==want) with
     |true=>
      rw[hb] at h hw
      rw[if_pos hw]
      exact .inl (doIt hf h)
     |false=>
      rw[hb] at h hw
      rw[if_neg (by rw[hw];simp)]
      exact leave hf h
    case h_2=>
     have:v=undef:=by simpa [SV.sat] using hsv
     subst this
     have hw:=jy hgd hds hv
     rw[if_neg (by rw[hw];simp)]
     exact leave hf h
    case h_3 c=>
     simp only[SV.sat] at hsv
     have:=jO hsv
     subst this
     have hw:=qE hgd hds hv
     cases hc:c with
     |true=>
      subst hc
      rw[if_pos rfl,zr] at h
      have hf':=xU hf hv
      cases want with
      |true=>rw[if_pos (by rw[hw];rfl)];exact .inl (doIt hf' h)
      |false=>rw[if_neg (by rw[hw];simp)];exact leave hf' h
     |false=>
      subst hc
      rw[if_neg (by simp),zr] at h
      have hf':=xU hf hv
      cases want with
      |true=>rw[if_neg (by rw[hw];simp)];exact leave hf' h
      |false=>rw[if_pos (by rw[hw];rfl)];exact .inl (doIt hf' h)
    case h_4=>cases h
def zky:(t:Ty)→t.den→List Value
 | .int i,x=> [.int i x]
 | .bool,x=> [.bool x]
 | .str,x=> [.string x]
 | .flt,x=> [.float .f64 x]
 | .cplx,x=> [.complex .f64 x.1 x.2]
 | .unit,_=> []
 | .sl _,_=> []
 | .osl _,_=> []
 | .arr _ _,_=> []
 | .pair a b,x=>zky a x.1++zky b x.2
 | .st f,x=>zky f x
theorem zcr {M:Mem}: ∀ (t:Ty) (x:t.den),t.plain=true→Rep M t x (zky t x)
 | .int i,x,_=>rfl
 | .bool,x,_=>rfl
 | .str,x,_=>rfl
 | .flt,x,_=>rfl
 | .cplx,x,_=>rfl
 | .unit,x,_=>rfl
 | .sl _,_,h=>by simp[Ty.plain] at h
 | .osl _,_,h=>by simp[Ty.plain] at h
 | .arr _ _,_,h=>by simp[Ty.plain] at h
 | .pair a b,x,h=>by
  simp only[Ty.plain,Bool.and_eq_true] at h
  exact⟨_,_,rfl,zcr a x.1 h.1,zcr b x.2 h.2⟩
 | .st f,x,h=>zcr f x h
theorem za0 {M:Mem}: ∀ (t:Ty) (x:t.den) (cs:List Value),t.plain=true→Rep M t x cs→cs=zky t x
 | .int i,x,cs,_,h=>h
 | .bool,x,cs,_,h=>h
 | .str,x,cs,_,h=>h
 | .flt,x,cs,_,h=>h
 | .cplx,x,cs,_,h=>h
 | .unit,x,cs,_,h=>h
 | .sl _,_,_,h,_=>by simp[Ty.plain] at h
 | .osl _,_,_,h,_=>by simp[Ty.plain] at h
 | .arr _ _,_,_,h,_=>by simp[Ty.plain] at h
 | .pair a b,x,cs,h,hr=>by
  simp only[Ty.plain,Bool.and_eq_true] at h
  obtain⟨c,d,e,h1,h2⟩:=hr
  rw[e,za0 a x.1 c h.1 h1,za0 b x.2 d h.2 h2]
  rfl
 | .st f,x,cs,h,hr=>za0 f x cs h hr
theorem zkz {ρ1 ρ2:List Nat}: ∀ {ss:List Sh} {ds:List DV} {ts:List Ty},za1 ss=true→qf ds=z9 ss++ts→ ∃ vs,(∀ E,SV.satL E (bL ρ2 ss ds).1 vs)∧ ∀ E us,SV.satL E (bL ρ1 ss ds).1 us→us=vs
 | [],ds,ts,_,_=>⟨[],fun E=>by simp[bL,SV.satL],fun E us h=>by simpa [bL,SV.satL] using h⟩
 | .hole t::ss, [],ts,_,hd=>by simp[z9,qf] at hd
 | .hole t::ss,d::ds,ts,hp,hd=>by
  obtain⟨u,x⟩:=d
  simp[z9,qf] at hd
  obtain⟨hd1,hd2⟩:=hd
  subst hd1
  simp only[za1,Bool.and_eq_true] at hp
  obtain⟨vs,h1,h2⟩:=zkz (ρ1:=ρ1) (ρ2:=ρ2) (ts:=ts) hp.2 hd2
  refine⟨zE u (zky u x)::vs,fun E=> ?_,fun E us h=> ?_⟩
  ·simp only[bL,SV.satL]
   exact⟨_,_,rfl,by simp only[SV.sat];exact⟨_,zcr u x hp.1.1,rfl⟩,h1 E⟩
  ·simp only[bL,SV.satL] at h
   obtain⟨v,ws,e,g1,g2⟩:=h
   simp only[SV.sat] at g1
   obtain⟨cs,g3,g4⟩:=g1
   rw[e,h2 E ws g2,g4,za0 u x cs hp.1.1 g3]
 | .own _::_,_,_,h,_=>by simp[za1] at h
 | .ptr _ _::_,_,_,h,_=>by simp[za1] at h
 | .nilp::_,_,_,h,_=>by simp[za1] at h
 | .und::_,_,_,h,_=>by simp[za1] at h
 | .ro _::_,_,_,h,_=>by simp[za1] at h
theorem zpp {c:Con} {args:List SV} {vals:List Value} {k:SV→Option R} (hc:c.Ok P C) (hg:C.globsOk E.M) (hh:Hp B E hp w) (hs:SV.satL E args vals) (h:zux c args hp k=some r):
  ∃ v s,s.sat E v∧k s=some r∧ ∀ w',Below w.heap.size w w'→Calls P c.f vals.toArray w' fun e w''=>e= .returned v∧Below w.heap.size w w'':=by
 unfold zux at h
 cases hq:zmv c with
 |false=>rw[hq] at h;cases h
 |true=>
  rw[hq,cond_true] at h
  simp only[zmv,Bool.and_eq_true] at hq
  obtain⟨hq1,hq2⟩:=hq
  have hio:c.sig.ins.objs= []:=by
   cases hx:c.sig.ins.objs with
   |nil=>rfl
   |cons s l=>rw[hx] at hq1;simp at hq1
  replace h:=zae (n0:=0) hh hs (Nat.zero_le _) h;obtain⟨E1,hp1,ds,mp,hpk,h⟩:=h
  replace h:=xE h;obtain⟨x,hx,h⟩:=h
  subst hx
  cases hF:c.F x with
  |none=>rw[hF] at h;cases h
  |some y=>
   rw[hF,Option.bind_some] at h
   replace h:=zT h
   obtain⟨hHin,hSin⟩:=hpk.heap
   have hin0:c.inO x= []:=by unfold Con.inO;rw[hio];rfl
   have hdv:qf (qF c.sig.outs.tys y)=z9 c.sig.outs.slots++qb c.sig.outs.objs:=by rw[zab,Skel.tys,qN]
   obtain⟨vs,v1,v2⟩:=zkz (ρ1:=zN c.sig.outs.objs.length 0) (ρ2:= []) hq2 hdv
   refine⟨retVal vs,_,zew (v1 E),h,fun w' hw=> ?_⟩
   have hL0:(zbd E E1 mp).L= []:=by
    have:=hHin.len
    have h0:(bO (zN c.sig.ins.objs.length 0) c.sig.ins.objs (bL (zN c.sig.ins.objs.length 0) c.sig.ins.slots (qF c.sig.ins.tys x)).2)= []:=hin0
    rw[h0] at this
    exact List.eq_nil_of_length_eq_zero this
   have hHin':Hp ⟨w',fun _=>False,(zbd E E1 mp).M⟩ (zbd E E1 mp) (c.inO x) w':=by
    rw[hin0]
    exact { ag:=(hHin.grow hw).ag,base:=Mem.le_refl _,fresh:=fun b c hb=> .inl hb,ok:=⟨rfl,rfl,rfl,Nat.le_refl _,fun _ _ _=>rfl⟩,len:=by rw[hL0];rfl,
            free:=fun i o e b h1=>by simp at h1,dist:=fun i j o o' e e' b h1=>by simp at h1,ob:=fun i o e h1=>by simp at h1,tok:=fun i o e h1=>by simp at h1,tdist:=fun i j o o' e e' b h1=>by simp at h1}
   refine(hc.calls (zbd E E1 mp) w' vals x y _ (C.globsOk_mono hpk.frz.le.1 hg) hSin hHin' hF).mono ?_
   rintro e w'' ⟨E',vs',rfl,hS',hH',_⟩
   rw[v2 E' vs' hS']
   refine⟨rfl,hw.trans ⟨hH'.ok.os,hH'.ok.tape,hH'.ok.output,hH'.ok.size,fun b hb=> ?_⟩⟩
   exact hH'.ok.block b (Nat.lt_of_lt_of_le hb hw.size) id
theorem znz {l:List Tmp} {k:List SV→Option R} (hG:Given P C Γ) (hh:Hp B E hp w) (hf:SV.satL E fr a.tmps.toList) (hg:C.globsOk E.M) (hd: ∀ t,o.dst=some t→t∈l) (h:zat C Γ fr hp o k=some r):
  ∃ v,(∀ w',Below w.heap.size w w'→o.quietAt P a (fun w'=>Below w.heap.size w w') w' v)∧ ∃ fr',SV.satL E fr' (a.put o.dst v).tmps.toList∧k fr'=some r∧Keeps l a (a.put o.dst v):=by
 unfold zat at h
 split at h
 case h_1 x args argTypes ho=>
  obtain⟨c,vs,vals,hc,v1,h,hrun⟩:=jX hG hf hg ho h
  obtain⟨v,s,q1,q2,q3⟩:=zpp hc hg hh v1 h
  obtain⟨fr',q4,q5⟩:=xN hf q1 q2
  refine⟨v,fun w' hw=> ?_,fr',q4,q5,Keeps.put l a o.dst v hd⟩
  unfold Oper.quietAt
  rw[hrun w']
  exact⟨rfl,q3 w' hw⟩
 case h_2=>
  cases he:zfk o.op with
  |true=>rw[he] at h;cases h
  |false=>
   rw[he,cond_false] at h
   obtain⟨v,s,h1,h2,h3⟩:=xe hG.ctx hh hf hg h
   obtain⟨fr',q4,q5⟩:=xN hf h1 h2
   refine⟨v,fun w' hw=> ?_,fr',q4,q5,Keeps.put l a o.dst v hd⟩
   unfold Oper.quietAt
   rw[h3 w' hw]
   exact⟨rfl,rfl⟩
theorem zhu {l:List Tmp} {ops:Array Oper} (hG:Given P C Γ) (hh:Hp B E hp w) (hg:C.globsOk E.M): ∀ {os:List Oper} {fr:List SV} {a:Act} {k:List SV→Option R} {K:Act→Prop},SV.satL E fr a.tmps.toList→
  (∀ o∈os, ∀ t,o.dst=some t→t∈l)→(∀ fr' a',SV.satL E fr' a'.tmps.toList→Keeps l a a'→k fr'=some r→K a')→xu C Γ ops.toList os fr hp k=some r→wpQuiet P ops (fun w'=>Below w.heap.size w w') K os a
 | [],fr,a,k,K,hf,hd,hn,h=>hn fr a hf (Keeps.refl l a) h
 |o::os,fr,a,k,K,hf,hd,hn,h=>by
  have hdo:=hd o (by simp)
  have hdos: ∀ o'∈os, ∀ t,o'.dst=some t→t∈l:=fun o' ho'=>hd o' (by simp[ho'])
  have doIt: ∀ {fr0:List SV},SV.satL E fr0 a.tmps.toList→(zat C Γ fr0 hp o fun fr=>xu C Γ ops.toList os fr hp k)=some r→o.quiet P a (fun w'=>Below w.heap.size w w') (wpQuiet P ops (fun w'=>Below w.heap.size w w') K os):=by
   intro fr0 hf0 h0
   obtain⟨v,q1,fr',q2,q3,q4⟩:=znz (l:=l) hG hh hf0 hg hdo h0
   exact⟨v,q1,zhu hG hh hg q2 hdos (fun fr'' a'' g1 g2 g3=>hn fr'' a'' g1 (q4.trans g2) g3) q3⟩
  have leave: ∀ {fr0:List SV},SV.satL E fr0 a.tmps.toList→(zcs fr0 o.dst .skip fun fr=>xu C Γ ops.toList os fr hp k)=some r→wpQuiet P ops (fun w'=>Below w.heap.size w w') K os (a.put o.dst undef):=by
   intro fr0 hf0 h0
   obtain⟨fr',h1,h2⟩:=xN (v:=undef) hf0 (by simp[SV.sat]) h0
   exact zhu hG hh hg h1 hdos (fun fr'' a'' g1 g2 g3=>hn fr'' a'' g1 ((Keeps.put l a o.dst undef hdo).trans g2) g3) h2
  unfold xu at h
  unfold wpQuiet
  split at h
  case h_1 hgd=>
   have hw:Region.wanted o (yielded ops a.tmps)=true:=by simp[Region.wanted,hgd]
   rw[if_pos hw]
   exact doIt hf h
  case h_2 j want hgd=>
   split at h
   case h_1=>cases h
   case h_2 d hds=>
    replace h:=ze h;obtain⟨s,hs,h⟩:=h
    obtain⟨v,hv,hsv⟩:=jx hf hs
    split at h
    case h_1 b=>
     have:v= .bool b:=by simpa [SV.sat] using hsv
     subst this
     have hw:=qE hgd hds hv
     cases hb:(b==want) with
     |true=>
      rw[hb] at h hw
      rw[if_pos hw]
      exact doIt hf h
     |false=>
      rw[hb] at h hw
      rw[if_neg (by rw[hw];simp)]
      exact leave hf h
    case h_2=>
     have:v=undef:=by simpa [SV.sat] using hsv
     subst this
     have hw:=jy hgd hds hv
     rw[if_neg (by rw[hw];simp)]
     exact leave hf h
    case h_3 c=>
     simp only[SV.sat] at hsv
     have:=jO hsv
     subst this
     have hw:=qE hgd hds hv
     cases hc:c with
     |true=>
      subst hc
      rw[if_pos rfl,zr] at h
      have hf':=xU hf hv
      cases want with
      |true=>rw[if_pos (by rw[hw];rfl)];exact doIt hf' h
      |false=>rw[if_neg (by rw[hw];simp)];exact leave hf' h
     |false=>
      subst hc
      rw[if_neg (by simp),zr] at h
      have hf':=xU hf hv
      cases want with
      |true=>rw[if_neg (by rw[hw];simp)];exact leave hf' h
      |false=>rw[if_pos (by rw[hw];rfl)];exact doIt hf' h
    case h_4=>cases h
end
end Go.Sx
