/- The symbolic evaluator, part L: contracts, and calls by them. -/
import Derived.Test.YtlppdabhaipbkaaGreatDoorSxK
set_option linter.unusedVariables false
set_option linter.unusedSimpArgs false
namespace Go.Sx
open Go.RowKit
def retVal:List Value→Value
 | [v]=>v
 |vs=> .tuple vs.toArray
def Con.inL (c:Con) (x:Tup c.sig.ins.tys):List SV×List DV:=bL (zO c.sig.ins.objs.length 0) c.sig.ins.slots (qE _ x)
def Con.inO (c:Con) (x:Tup c.sig.ins.tys):List HO:=bO (zO c.sig.ins.objs.length 0) c.sig.ins.objs (c.inL x).2
def Con.outL (c:Con) (y:Tup c.sig.outs.tys):List SV×List DV:=bL (zO c.sig.outs.objs.length 0) c.sig.outs.slots (qE _ y)
def Con.outO (c:Con) (y:Tup c.sig.outs.tys):List HO:=bO (zO c.sig.outs.objs.length 0) c.sig.outs.objs (c.outL y).2
structure Con.Ok (P:Program) (C:Ctx) (c:Con):Prop where
 there: ∃ fn,P.funcs[c.f]? =some fn∧fn.body.isNone=false∧(fn.name== "runtime.NumGoroutine")=false
 calls: ∀ (E:Env) (w:World) (args:List Value) (x:Tup c.sig.ins.tys) (y:Tup c.sig.outs.tys) (W:Nat→Prop),C.globsOk E.M→
  SV.satL E (c.inL x).1 args→Hp ⟨w,W,E.M⟩ E (c.inO x) w→c.F x=some y→
  Calls P c.f args.toArray w fun e w'=> ∃ (E':Env) (vs:List Value),e= .returned (retVal vs)∧SV.satL E' (c.outL y).1 vs∧Hp ⟨w,W,E.M⟩ E' (c.outO y) w'∧
   ∀ (j:Nat) (e:LE),j<c.sig.ins.objs.length→E.L[j]? =some e→E'.L[j]? =some e
section
variable {R:Type} {r:R} {P:Program} {C:Ctx} {B:Base} {E:Env} {fr:List SV} {hp:List HO} {a:Act} {w w':World} {o:Oper}
def qh (ds:List DV):List Ty:=ds.map (·.t)
theorem j5: ∀ (ts:List Ty) (x:Tup ts),qh (qE ts x)=ts
 | [],_=>rfl
 | [t],x=>rfl
 |t::u::l,x=>by
  show t::qh (qE (u::l) x.2)=_
  rw[j5 (u::l) x.2]
theorem qL: ∀ (l m:List Ty),zms l m=l++m
 | [],_=>rfl
 |t::l,m=>by rw[zms,qL l m];rfl
theorem qJ {ρ:List Nat}: ∀ {ss:List Sh} {ds:List DV} {ts:List Ty},qh ds=z9 ss++ts→qh (bL ρ ss ds).2=ts
 | [],ds,ts,h=>by simpa [bL,z9] using h
 | .hole t::ss, [],ts,h=>by simp[z9,qh] at h
 | .hole t::ss,d::ds,ts,h=>by
  simp only[bL]
  exact qJ (ss:=ss) (by simp[z9,qh] at h;exact h.2)
 | .own j::ss,ds,ts,h=>by simp only[bL];exact qJ (ss:=ss) (by simpa [z9] using h)
 | .ptr j off::ss,ds,ts,h=>by simp only[bL];exact qJ (ss:=ss) (by simpa [z9] using h)
 | .nilp::ss,ds,ts,h=>by simp only[bL];exact qJ (ss:=ss) (by simpa [z9] using h)
 | .mp j::ss,ds,ts,h=>by simp only[bL];exact qJ (ss:=ss) (by simpa [z9] using h)
 | .und::ss,ds,ts,h=>by simp only[bL];exact qJ (ss:=ss) (by simpa [z9] using h)
 | .fnc f n::ss,ds,ts,h=>by simp only[bL];exact qJ (ss:=ss) (by simpa [z9] using h)
 | .agn n::ss,ds,ts,h=>by simp only[bL];exact qJ (ss:=ss) (by simpa [z9] using h)
 | .ro t::ss, [],ts,h=>by simp[z9,qh] at h
 | .ro t::ss,d::ds,ts,h=>by
  simp only[bL]
  exact qJ (ss:=ss) (by simp[z9,qh] at h;exact h.2)
theorem zbm {ρ ρ':List Nat}: ∀ {ss:List Sh} {ds:List DV},(bL ρ ss ds).2=(bL ρ' ss ds).2
 | [],ds=>rfl
 | .hole t::ss, []=>rfl
 | .hole t::ss,d::ds=>by simp only[bL];exact zbm
 | .own j::ss,ds=>by simp only[bL];exact zbm
 | .ptr j off::ss,ds=>by simp only[bL];exact zbm
 | .nilp::ss,ds=>by simp only[bL];exact zbm
 | .mp j::ss,ds=>by simp only[bL];exact zbm
 | .und::ss,ds=>by simp only[bL];exact zbm
 | .ro t::ss, []=>rfl
 | .ro t::ss,d::ds=>by simp only[bL];exact zbm
 | .fnc f n::ss,ds=>by simp only[bL];exact zbm
 | .agn n::ss,ds=>by simp only[bL];exact zbm
theorem zbb {E1 E2:Env} {ρ1 ρ2:List Nat} {n:Nat} (hρ: ∀ (j:Nat) (e:LE),j<n→E1.L[qH ρ1 j]? =some e→E2.L[qH ρ2 j]? =some e):
  ∀ {ss:List Sh} {ds:List DV} {vals:List Value} {ts:List Ty},qh ds=z9 ss++ts→zmi n ss=true→(E1.M.le E2.M∨xH ss=true)→SV.satL E1 (bL ρ1 ss ds).1 vals→SV.satL E2 (bL ρ2 ss ds).1 vals
 | [],ds,vals,ts,_,_,_,h=>by simpa [bL,SV.satL] using h
 | .hole t::ss, [],vals,ts,hd,_,_,h=>by simp[z9,qh] at hd
 | .hole t::ss,d::ds,vals,ts,hd,hw,hf,h=>by
  simp only[bL,SV.satL] at h ⊢
  obtain⟨v,vs,e,h1,h2⟩:=h
  simp[z9,qh] at hd
  refine⟨v,vs,e, ?_,zbb hρ (ts:=ts) hd.2 (by simpa [zmi] using hw) (hf.imp id fun hf=>by simp[xH] at hf;exact hf.2) h2⟩
  simp only[SV.sat] at h1 ⊢
  obtain⟨cs,h3,h4⟩:=h1
  rcases hf with hf|hf
  ·exact⟨cs,zz hf _ _ _ h3,h4⟩
  ·simp[xH] at hf
   exact⟨cs,jz _ _ _ (by rw[hd.1];exact hf.1) h3,h4⟩
 | .fnc f n::ss,ds,vals,ts,hd,hw,hf,h=>by
  simp only[bL,SV.satL] at h ⊢
  obtain⟨v,vs,e,h1,h2⟩:=h
  simp only[SV.sat] at h1
  obtain⟨cs,h3,h4⟩:=h1
  have h5:=SV.satL_append h4 h2
  rw[List.take_append_drop] at h5
  rcases hf with hf|hf
  ·have h6:=zbb hρ (ts:=ts) (by simpa [z9] using hd) (by simpa [zmi] using hw) (.inl hf) h5
   have hlen:cs.length=min n (bL ρ2 ss ds).1.length:=by
    rw[SV.satL_length h4,List.length_take]
    have e1:=SV.satL_length h5
    have e2:=SV.satL_length h6
    omega
   have h7:SV.satL E2 ((bL ρ2 ss ds).1.take n) cs∧SV.satL E2 ((bL ρ2 ss ds).1.drop n) vs:=by
    by_cases hn:n≤(bL ρ2 ss ds).1.length
    ·exact xA (by omega) h6
    ·obtain⟨k1,k2⟩:=xA (n:=(bL ρ2 ss ds).1.length) (by omega) h6
     rw[List.take_of_length_le (Nat.le_refl _)] at k1
     rw[List.drop_of_length_le (Nat.le_refl _)] at k2
     rw[List.take_of_length_le (by omega),List.drop_of_length_le (by omega)]
     exact⟨k1,k2⟩
   exact⟨v,vs,e,by simp only[SV.sat];exact⟨cs,h3,h7.1⟩,h7.2⟩
  ·simp[xH] at hf
 | .agn n::ss,ds,vals,ts,hd,hw,hf,h=>by
  simp only[bL,SV.satL] at h ⊢
  obtain⟨v,vs,e,h1,h2⟩:=h
  simp only[SV.sat] at h1
  obtain⟨cs,h3,h4⟩:=h1
  have h5:=SV.satL_append h4 h2
  rw[List.take_append_drop] at h5
  rcases hf with hf|hf
  ·have h6:=zbb hρ (ts:=ts) (by simpa [z9] using hd) (by simpa [zmi] using hw) (.inl hf) h5
   have hlen:cs.length=min n (bL ρ2 ss ds).1.length:=by
    rw[SV.satL_length h4,List.length_take]
    have e1:=SV.satL_length h5
    have e2:=SV.satL_length h6
    omega
   have h7:SV.satL E2 ((bL ρ2 ss ds).1.take n) cs∧SV.satL E2 ((bL ρ2 ss ds).1.drop n) vs:=by
    by_cases hn:n≤(bL ρ2 ss ds).1.length
    ·exact xA (by omega) h6
    ·obtain⟨k1,k2⟩:=xA (n:=(bL ρ2 ss ds).1.length) (by omega) h6
     rw[List.take_of_length_le (Nat.le_refl _)] at k1
     rw[List.drop_of_length_le (Nat.le_refl _)] at k2
     rw[List.take_of_length_le (by omega),List.drop_of_length_le (by omega)]
     exact⟨k1,k2⟩
   exact⟨v,vs,e,by simp only[SV.sat];exact⟨cs,h3,h7.1⟩,h7.2⟩
  ·simp[xH] at hf
 | .ro t::ss, [],vals,ts,hd,_,_,h=>by simp[z9,qh] at hd
 | .ro t::ss,d::ds,vals,ts,hd,hw,hf,h=>by
  simp only[bL,SV.satL] at h ⊢
  obtain⟨v,vs,e,h1,h2⟩:=h
  simp[z9,qh] at hd
  rcases hf with hf|hf
  ·refine⟨v,vs,e, ?_,zbb hρ (ts:=ts) hd.2 (by simpa [zmi] using hw) (.inl hf) h2⟩
   simp only[SV.sat] at h1 ⊢
   obtain⟨b,off,c,d1,d2,d3⟩:=h1
   exact⟨b,off,c,d1,Mem.seg_mono hf d2,zz hf _ _ _ d3⟩
  ·simp[xH] at hf
 | .own j::ss,ds,vals,ts,hd,hw,hf,h=>by
  simp only[zmi,Bool.and_eq_true] at hw
  have hj:=Nat.le_of_ble_eq_true hw.1
  simp only[bL,SV.satL] at h ⊢
  obtain⟨v,vs,e,h1,h2⟩:=h
  refine⟨v,vs,e, ?_,zbb hρ (ts:=ts) (by simpa [z9] using hd) hw.2 (hf.imp id fun hf=>by simpa [xH] using hf) h2⟩
  simp only[SV.sat] at h1 ⊢
  obtain⟨le,h3,h4⟩:=h1
  exact⟨le,hρ j le hj h3,h4⟩
 | .ptr j off::ss,ds,vals,ts,hd,hw,hf,h=>by
  simp only[zmi,Bool.and_eq_true] at hw
  have hj:=Nat.le_of_ble_eq_true hw.1
  simp only[bL,SV.satL] at h ⊢
  obtain⟨v,vs,e,h1,h2⟩:=h
  refine⟨v,vs,e, ?_,zbb hρ (ts:=ts) (by simpa [z9] using hd) hw.2 (hf.imp id fun hf=>by simpa [xH] using hf) h2⟩
  simp only[SV.sat] at h1 ⊢
  obtain⟨le,b,h3,h4⟩:=h1
  exact⟨le,b,hρ j le hj h3,h4⟩
 | .mp j::ss,ds,vals,ts,hd,hw,hf,h=>by
  simp only[zmi,Bool.and_eq_true] at hw
  have hj:=Nat.le_of_ble_eq_true hw.1
  simp only[bL,SV.satL] at h ⊢
  obtain⟨v,vs,e,h1,h2⟩:=h
  refine⟨v,vs,e, ?_,zbb hρ (ts:=ts) (by simpa [z9] using hd) hw.2 (hf.imp id fun hf=>by simpa [xH] using hf) h2⟩
  simp only[SV.sat] at h1 ⊢
  obtain⟨le,b,h3,h4⟩:=h1
  exact⟨le,b,hρ j le hj h3,h4⟩
 | .nilp::ss,ds,vals,ts,hd,hw,hf,h=>by
  simp only[bL,SV.satL] at h ⊢
  obtain⟨v,vs,e,h1,h2⟩:=h
  exact⟨v,vs,e,by simpa [SV.sat] using h1,zbb hρ (ts:=ts) (by simpa [z9] using hd) (by simpa [zmi] using hw) (hf.imp id fun hf=>by simpa [xH] using hf) h2⟩
 | .und::ss,ds,vals,ts,hd,hw,hf,h=>by
  simp only[bL,SV.satL] at h ⊢
  obtain⟨v,vs,e,h1,h2⟩:=h
  exact⟨v,vs,e,by simp[SV.sat],zbb hρ (ts:=ts) (by simpa [z9] using hd) (by simpa [zmi] using hw) (hf.imp id fun hf=>by simpa [xH] using hf) h2⟩
theorem zci {ρ:List Nat}: ∀ {os:List OSh} {ds:List DV},jo os=true→qh ds=qa os→ ∀ (m:Nat) (o:HO),(bO ρ os ds)[m]? =some o→ ∀ (M:Mem) (w:World) (e:LE),o.tok M w e∧o.tails w e= []
 | [],ds,_,h,m,o,ho=>by simp[bO] at ho
 | .gone::os,ds,hp,h,0,o,ho=>by simp[bO] at ho;subst ho;exact fun _ _ _=>⟨trivial,rfl⟩
 | .gone::os,ds,hp,h,m+1,o,ho=>zci (os:=os) (by simpa [jo] using hp) (by simpa [qa] using h) m o (by simpa [bO] using ho)
 | .cells sl::os,ds,hp,h,0,o,ho=>by simp[bO] at ho;subst ho;exact fun _ _ _=>⟨trivial,rfl⟩
 | .cells sl::os,ds,hp,h,m+1,o,ho=>zci (os:=os) (by simpa [jo] using hp) (qJ (ss:=sl) (by simpa [qa,qL] using h)) m o (by simpa [bO] using ho)
 | .arr T t::os, [],hp,h,m,o,ho=>by simp[qa,qh] at h
 | .arr T t::os,d::ds,hp,h,m,o,ho=>by
  obtain⟨u,x⟩:=d
  simp[qa,qh] at h
  obtain⟨h1,h2⟩:=h
  subst h1
  simp only[jo,Bool.and_eq_true] at hp
  cases m with
  |zero=>simp[bO] at ho;subst ho;exact fun _ _ _=>HO.tok_plain hp.1
  |succ m=>exact zci hp.2 h2 m o (by simpa [bO] using ho)
 | .map K V::os, [],hp,h,m,o,ho=>by simp[qa,qh] at h
 | .map K V::os,d::ds,hp,h,m,o,ho=>by
  obtain⟨u,x⟩:=d
  simp[qa,qh] at h
  obtain⟨h1,h2⟩:=h
  subst h1
  cases m with
  |zero=>simp[bO] at ho;subst ho;exact fun _ _ _=>⟨trivial,rfl⟩
  |succ m=>exact zci (by simpa [jo] using hp) h2 m o (by simpa [bO] using ho)
theorem Ty.flat_own: ∀ (t:Ty),t.flat=true→t.noOwn=true
 | .osl _,h=>by cases h
 | .sl _,_=>rfl
 | .pair a b,h=>by
  simp only[Ty.flat,Bool.and_eq_true] at h
  simp only[Ty.noOwn,Bool.and_eq_true]
  exact⟨Ty.flat_own a h.1,Ty.flat_own b h.2⟩
 | .st f,h=>Ty.flat_own f h
 | .arr _ e,h=>Ty.flat_own e h
 | .int _,_=>rfl
 | .bool,_=>rfl
 | .str,_=>rfl
 | .flt,_=>rfl
 | .cplx,_=>rfl
 | .unit,_=>rfl
theorem ji: ∀ {os:List OSh},zao os=true→jo os=true
 | [],_=>rfl
 | .gone::os,h=>ji (os:=os) (by simpa [zao] using h)
 | .cells s::os,h=>ji (os:=os) (by simp[zao] at h;exact h.2)
 | .arr T t::os,h=>by
  simp[zao] at h
  simp only[jo,Bool.and_eq_true]
  exact⟨Ty.flat_own t h.1,ji h.2⟩
 | .map K V::os,h=>ji (os:=os) (by simp[zao] at h;exact h.2.2)
theorem zg0 {ρ:List Nat}: ∀ {os:List OSh} {ds:List DV},qh ds=qa os→(bO ρ os ds).length=os.length
 | [],ds,h=>rfl
 | .gone::os,ds,h=>by simp only[bO,List.length_cons];rw[zg0 (by simpa [qa] using h)]
 | .cells sl::os,ds,h=>by
  simp only[bO,List.length_cons]
  rw[zg0 (qJ (ss:=sl) (by simpa [qa,qL] using h))]
 | .arr T t::os, [],h=>by simp[qa,qh] at h
 | .arr T t::os,d::ds,h=>by
  obtain⟨u,x⟩:=d
  simp[qa,qh] at h
  obtain⟨h1,h2⟩:=h
  subst h1
  simp only[bO,List.length_cons]
  rw[zg0 h2]
 | .map K V::os, [],h=>by simp[qa,qh] at h
 | .map K V::os,d::ds,h=>by
  obtain⟨u,x⟩:=d
  simp[qa,qh] at h
  obtain⟨h1,h2⟩:=h
  subst h1
  simp only[bO,List.length_cons]
  rw[zg0 h2]
theorem zmq {E1 E2:Env} {ρ1 ρ2:List Nat} {n:Nat} (hρ: ∀ (j:Nat) (e:LE),j<n→E1.L[qH ρ1 j]? =some e→E2.L[qH ρ2 j]? =some e):
  ∀ {os:List OSh} {ds:List DV},qh ds=qa os→wfO n os=true→(E1.M.le E2.M∨zao os=true)→ ∀ (m:Nat) (o2:HO),(bO ρ2 os ds)[m]? =some o2→
   ∃ o1,(bO ρ1 os ds)[m]? =some o1∧o1.live=o2.live∧((∀ w e,o1.tails w e=o2.tails w e)∧ ∀ M w e,o1.tok M w e→o2.tok M w e)∧ ∀ w e,o1.sat E1 w e→o2.sat E2 w e
 | [],ds,_,_,_,m,o2,h=>by simp[bO] at h
 | .gone::os,ds,hd,hw,hf,m,o2,h=>by
  cases m with
  |zero=>simp[bO] at h;subst h;exact⟨.gone,by simp[bO],rfl,⟨fun _ _=>rfl,fun _ _ _ h=>h⟩,fun _ _ _=>trivial⟩
  |succ m=>
   simp only[bO,List.getElem?_cons_succ] at h ⊢
   exact zmq hρ (by simpa [qa] using hd) (by simpa [wfO] using hw) (hf.imp id fun hf=>by simpa [zao] using hf) m o2 h
 | .cells sl::os,ds,hd,hw,hf,m,o2,h=>by
  simp only[wfO,Bool.and_eq_true] at hw
  have hd':qh ds=z9 sl++qa os:=by simpa [qa,qL] using hd
  cases m with
  |zero=>
   simp[bO] at h
   subst h
   refine⟨.cells (bL ρ1 sl ds).1,by simp[bO],rfl,⟨fun _ _=>rfl,fun _ _ _ h=>h⟩,fun w e hs=> ?_⟩
   obtain⟨b,c,T,h1,h2,h3⟩:=hs
   exact⟨b,c,T,h1,h2,zbb hρ hd' hw.1 (hf.imp id fun hf=>by simp[zao] at hf;exact hf.1) h3⟩
  |succ m=>
   simp only[bO,List.getElem?_cons_succ] at h ⊢
   rw[zbm (ρ:=ρ1) (ρ':=ρ2)]
   exact zmq hρ (qJ hd') hw.2 (hf.imp id fun hf=>by simp[zao] at hf;exact hf.2) m o2 h
 | .arr T t::os, [],hd,hw,hf,m,o2,h=>by simp[bO] at h
 | .arr T t::os,d::ds,hd,hw,hf,m,o2,h=>by
  obtain⟨u,x⟩:=d
  simp[qa,qh] at hd
  obtain⟨h1,h2⟩:=hd
  subst h1
  cases m with
  |zero=>
   simp[bO] at h
   subst h
   refine⟨_,by simp[bO],rfl,⟨fun _ _=>rfl,fun _ _ _ h=>h⟩,fun w e hs=> ?_⟩
   obtain⟨g1,g2,g3,g4,g5⟩:=hs
   refine⟨g1,g2,g3,g4,fun b hb=> ?_⟩
   obtain⟨c,d,post,k1,k2,k3,k4⟩:=g5 b hb
   refine⟨c,d,post,k1,k2, ?_,k4⟩
   rcases hf with hf|hf
   ·exact zR (fun x cs=>zz hf t x cs) k3
   ·simp[zao] at hf
    exact zR (fun x cs=>jz t x cs hf.1) k3
  |succ m=>
   simp only[bO,List.getElem?_cons_succ] at h ⊢
   exact zmq hρ h2 (by simpa [wfO] using hw) (hf.imp id fun hf=>by simp[zao] at hf;exact hf.2) m o2 h
 | .map K V::os, [],hd,hw,hf,m,o2,h=>by simp[bO] at h
 | .map K V::os,d::ds,hd,hw,hf,m,o2,h=>by
  obtain⟨u,x⟩:=d
  simp[qa,qh] at hd
  obtain⟨h1,h2⟩:=hd
  subst h1
  cases m with
  |zero=>
   simp[bO] at h
   subst h
   refine⟨_,by simp[bO],rfl,⟨fun _ _=>rfl,fun _ _ _ h=>h⟩,fun w e hs=> ?_⟩
   obtain⟨b,arr,clock,g1,g2,g3⟩:=hs
   refine⟨b,arr,clock,g1,g2, ?_,g3.2⟩
   replace g3:=g3.1
   rcases hf with hf|hf
   ·exact zdr hf g3
   ·simp[zao] at hf
    exact zmk hf.1 hf.2.1 g3
  |succ m=>
   simp only[bO,List.getElem?_cons_succ] at h ⊢
   exact zmq hρ h2 (by simpa [wfO] using hw) (hf.imp id fun hf=>by simp[zao] at hf;exact hf.2.2) m o2 h
theorem jC: ∀ {mp:List PM} {hp:List HO} {k:List HO→Option R},Hp B E hp w→zal mp hp k=some r→
  ∃ hp',Hp B E hp' w∧hp'.length=hp.length∧k hp'=some r∧(∀ i:Nat,hp'[i]? =hp[i]? ∨hp'[i]? =some .gone)∧ ∀ (j i:Nat) (len:Option Nat),mp[j]? =some (.id i len)→i<hp.length→hp'[i]? =some .gone
 | [],hp,k,hh,h=>⟨hp,hh,rfl,h,fun _=> .inl rfl,fun j i len hj=>by simp at hj⟩
 | .id i len::mp,hp,k,hh,h=>by
  unfold zal at h
  rw[zo] at h
  obtain⟨hp',h1,h2,h3,h4,h5⟩:=jC (hh.drop i) h
  have hset: ∀ m:Nat,(hp.set i HO.gone)[m]? =hp[m]? ∨(hp.set i HO.gone)[m]? =some .gone:=by
   intro m
   rw[List.getElem?_set]
   split
   ·rename_i him
    subst him
    by_cases hl:i<hp.length
    ·simp[hl]
    ·rw[List.getElem?_eq_none (by omega)];simp[hl]
   ·exact .inl rfl
  refine⟨hp',h1,by simpa using h2,h3,fun m=> ?_,fun j m len' hj hm=> ?_⟩
  ·rcases h4 m with h6|h6
   ·rcases hset m with h7|h7
    ·exact .inl (h6.trans h7)
    ·exact .inr (h6.trans h7)
   ·exact .inr h6
  ·cases j with
   |zero=>
    simp at hj
    obtain⟨rfl,rfl⟩:=hj
    rcases h4 i with h6|h6
    ·rw[h6,List.getElem?_set];simp[hm]
    ·exact h6
   |succ j=>
    simp at hj
    exact h5 j m len' hj (by simpa using hm)
 | .none::mp,hp,k,hh,h=>by
  unfold zal at h
  obtain⟨hp',h1,h2,h3,h4,h5⟩:=jC hh h
  exact⟨hp',h1,h2,h3,h4,fun j m len hj hm=>by
   cases j with
   |zero=>simp at hj
   |succ j=>simp at hj;exact h5 j m len hj hm⟩
 | .nil::mp,hp,k,hh,h=>by
  unfold zal at h
  obtain⟨hp',h1,h2,h3,h4,h5⟩:=jC hh h
  exact⟨hp',h1,h2,h3,h4,fun j m len hj hm=>by
   cases j with
   |zero=>simp at hj
   |succ j=>simp at hj;exact h5 j m len hj hm⟩
def zI (L':List LE):Nat→List PM→List OSh→List LE
 |_,_, []=> []
 |j, .id _ none::mp,_::os=>zI L' (j+1) mp os
 |j,_::mp,_::os=>(L'[j]?.getD ⟨none,0,0,none⟩)::zI L' (j+1) mp os
 |j, [],_::os=>(L'[j]?.getD ⟨none,0,0,none⟩)::zI L' (j+1) [] os
theorem jG (L':List LE): ∀ (j:Nat) (mp:List PM) (os:List OSh) (hp:List HO) (k:List HO→Option R),ze5 mp os hp k=k (hp++List.replicate (zI L' j mp os).length .gone)
 |j,mp, [],hp,k=>by cases mp<;>simp[ze5,zI]
 |j, [],s::os,hp,k=>by
  simp only[ze5,z2,zI]
  rw[jG L' (j+1) [] os]
  simp[List.replicate_succ]
 |j, .none::mp,s::os,hp,k=>by
  simp only[ze5,z2,zI]
  rw[jG L' (j+1) mp os]
  simp[List.replicate_succ]
 |j, .nil::mp,s::os,hp,k=>by
  simp only[ze5,z2,zI]
  rw[jG L' (j+1) mp os]
  simp[List.replicate_succ]
 |j, .id i none::mp,s::os,hp,k=>by
  simp only[ze5,zI]
  exact jG L' (j+1) mp os hp k
 |j, .id i (some n)::mp,s::os,hp,k=>by
  simp only[ze5,z2,zI]
  rw[jG L' (j+1) mp os]
  simp[List.replicate_succ]
theorem xn (L':List LE): ∀ (j b:Nat) (mp:List PM) (os:List OSh) (pre:List LE),pre.length=b→ ∀ m,m<os.length→
  (∃ i,mp[m]? =some (.id i none)∧qH (rho b mp os) m=i)∨
   (b≤qH (rho b mp os) m∧qH (rho b mp os) m<b+(zI L' j mp os).length∧(pre++zI L' j mp os)[qH (rho b mp os) m]? =some (L'[j+m]?.getD ⟨none,0,0,none⟩))
 |j,b,mp, [],pre,hb,m,hm=>by simp at hm
 |j,b, .id i none::mp,s::os,pre,hb,m,hm=>by
  cases m with
  |zero=>exact .inl ⟨i,by simp,by simp[rho,qH]⟩
  |succ m=>
   simp only[rho,qH,zI]
   have:=xn L' (j+1) b mp os pre hb m (by simpa using hm)
   rw[show j+(m+1)=j+1+m by omega]
   simpa using this
 |j,b, [],s::os,pre,hb,m,hm=>by
  cases m with
  |zero=>
   right
   simp only[rho,qH,zI]
   refine⟨Nat.le_refl _,by simp, ?_⟩
   rw[List.getElem?_append_right (by omega)];simp[hb]
  |succ m=>
   simp only[rho,qH,zI]
   have:=xn L' (j+1) (b+1) [] os (pre++ [L'[j]?.getD ⟨none,0,0,none⟩]) (by simp[hb]) m (by simpa using hm)
   rcases this with ⟨i,h,_⟩|⟨h1,h2,h3⟩
   ·simp at h
   ·exact .inr ⟨by omega,by simp only[List.length_cons];omega,by rw[show j+(m+1)=j+1+m by omega];simpa using h3⟩
 |j,b, .none::mp,s::os,pre,hb,m,hm=>by
  cases m with
  |zero=>
   right
   simp only[rho,qH,zI]
   refine⟨Nat.le_refl _,by simp, ?_⟩
   rw[List.getElem?_append_right (by omega)];simp[hb]
  |succ m=>
   simp only[rho,qH,zI]
   have:=xn L' (j+1) (b+1) mp os (pre++ [L'[j]?.getD ⟨none,0,0,none⟩]) (by simp[hb]) m (by simpa using hm)
   rcases this with ⟨i,h,h'⟩|⟨h1,h2,h3⟩
   ·exact .inl ⟨i,by simpa using h,h'⟩
   ·exact .inr ⟨by omega,by simp only[List.length_cons];omega,by rw[show j+(m+1)=j+1+m by omega];simpa using h3⟩
 |j,b, .nil::mp,s::os,pre,hb,m,hm=>by
  cases m with
  |zero=>
   right
   simp only[rho,qH,zI]
   refine⟨Nat.le_refl _,by simp, ?_⟩
   rw[List.getElem?_append_right (by omega)];simp[hb]
  |succ m=>
   simp only[rho,qH,zI]
   have:=xn L' (j+1) (b+1) mp os (pre++ [L'[j]?.getD ⟨none,0,0,none⟩]) (by simp[hb]) m (by simpa using hm)
   rcases this with ⟨i,h,h'⟩|⟨h1,h2,h3⟩
   ·exact .inl ⟨i,by simpa using h,h'⟩
   ·exact .inr ⟨by omega,by simp only[List.length_cons];omega,by rw[show j+(m+1)=j+1+m by omega];simpa using h3⟩
 |j,b, .id i (some n)::mp,s::os,pre,hb,m,hm=>by
  cases m with
  |zero=>
   right
   simp only[rho,qH,zI]
   refine⟨Nat.le_refl _,by simp, ?_⟩
   rw[List.getElem?_append_right (by omega)];simp[hb]
  |succ m=>
   simp only[rho,qH,zI]
   have:=xn L' (j+1) (b+1) mp os (pre++ [L'[j]?.getD ⟨none,0,0,none⟩]) (by simp[hb]) m (by simpa using hm)
   rcases this with ⟨i,h,h'⟩|⟨h1,h2,h3⟩
   ·exact .inl ⟨i,by simpa using h,h'⟩
   ·exact .inr ⟨by omega,by simp only[List.length_cons];omega,by rw[show j+(m+1)=j+1+m by omega];simpa using h3⟩
theorem zfg: ∀ (b:Nat) (mp:List PM) (os:List OSh),(rho b mp os).length=os.length
 |b,mp, []=>by cases mp<;>simp[rho]
 |b, [],s::os=>by simp[rho,zfg (b+1) [] os]
 |b, .none::mp,s::os=>by simp[rho,zfg (b+1) mp os]
 |b, .nil::mp,s::os=>by simp[rho,zfg (b+1) mp os]
 |b, .id i none::mp,s::os=>by simp[rho,zfg b mp os]
 |b, .id i (some n)::mp,s::os=>by simp[rho,zfg (b+1) mp os]
theorem zpk: ∀ (b:Nat) (mp:List PM) (os:List OSh) (m1 m2:Nat),m1<os.length→m2<os.length→qH (rho b mp os) m1=qH (rho b mp os) m2→
  (∀ i,mp[m1]? ≠some (.id i none))→(∀ i,mp[m2]? ≠some (.id i none))→m1=m2
 |b,mp, [],m1,m2,h,_,_,_,_=>by simp at h
 |b,mp,s::os,m1,m2,h1,h2,h,n1,n2=>by
  have step:(∃ i mp',mp= .id i none::mp'∧rho b mp (s::os)=i::rho b mp' os)∨(∃ mp',(∀ m,mp[m+1]? =mp'[m]?)∧rho b mp (s::os)=b::rho (b+1) mp' os):=by
   cases mp with
   |nil=>exact .inr ⟨[],by simp,rfl⟩
   |cons p mp=>
    cases p with
    |none=>exact .inr ⟨mp,by simp,rfl⟩
    |nil=>exact .inr ⟨mp,by simp,rfl⟩
    |id i len=>
     cases len with
     |none=>exact .inl ⟨i,mp,rfl,rfl⟩
     |some n=>exact .inr ⟨mp,by simp,rfl⟩
  rcases step with ⟨i,mp',rfl,e⟩|⟨mp',e1,e⟩
  ·cases m1 with
   |zero=>exact absurd (by simp) (n1 i)
   |succ m1=>
    cases m2 with
    |zero=>exact absurd (by simp) (n2 i)
    |succ m2=>
     rw[e] at h
     have:=zpk b mp' os m1 m2 (by simpa using h1) (by simpa using h2) (by simpa [qH] using h) (by simpa using n1) (by simpa using n2)
     omega
  ·rw[e] at h
   have up: ∀ m,m<os.length→(∀ i,mp'[m]? ≠some (.id i none))→b+1≤qH (rho (b+1) mp' os) m:=by
    intro m hm hn
    rcases xn [] 0 (b+1) mp' os (List.replicate (b+1) ⟨none,0,0,none⟩) (by simp) m hm with ⟨i,hi,_⟩|⟨hb,_⟩
    ·exact absurd hi (hn i)
    ·exact hb
   cases m1 with
   |zero=>
    cases m2 with
    |zero=>rfl
    |succ m2=>
     have:=up m2 (by simpa using h2) (fun i=>by rw[← e1];exact n2 i)
     simp only[qH] at h
     omega
   |succ m1=>
    cases m2 with
    |zero=>
     have:=up m1 (by simpa using h1) (fun i=>by rw[← e1];exact n1 i)
     simp only[qH] at h
     omega
    |succ m2=>
     have:=zpk (b+1) mp' os m1 m2 (by simpa using h1) (by simpa using h2) (by simpa [qH] using h) (fun i=>by rw[← e1];exact n1 i) (fun i=>by rw[← e1];exact n2 i)
     omega
structure MayT (B:Base) (E:Env) (hp:List HO) (w:World) (b:Nat):Prop where
 base:B.w0.heap.size≤b∨B.W b
 obj: ∀ (j:Nat) (o:HO) (e:LE),hp[j]? =some o→o.live=true→E.L[j]? =some e→e.blk≠some b
 tail: ∀ (j:Nat) (o:HO) (e:LE),hp[j]? =some o→E.L[j]? =some e→b∉o.tails w e
theorem Hp.move (h:Hp B E hp w) {Bc:Base} (hB:Bc.w0=w) (hok:Bc.ok w') (hT: ∀ b,Bc.W b→MayT B E hp w b) {M':Mem} (hM:E.M.le M') (hag:M'.agrees w')
  (hnew: ∀ b c,M' b=some c→E.M b=some c∨w.heap.size≤b∨Bc.W b):Hp B ⟨M',E.L⟩ hp w'∧ ∀ {i:Nat} {o:HO} {e:LE},hp[i]? =some o→E.L[i]? =some e→o.tails w' e=o.tails w e:=by
 have hblk: ∀ (i:Nat) (o:HO) (e:LE) (b:Nat),hp[i]? =some o→o.live=true→E.L[i]? =some e→e.blk=some b→b<w.heap.size∧ ¬ Bc.W b:=by
  intro i o e b h1 h2 h3 h4
  exact⟨HO.sat_lt h2 (h.ob i o e h1 h3) h4,fun hb=>(hT b hb).obj i o e h1 h2 h3 h4⟩
 have htl: ∀ {i:Nat} {o:HO} {e:LE},hp[i]? =some o→E.L[i]? =some e→o.tok M' w' e∧o.tails w' e=o.tails w e∧ ∀ b∈o.tails w e,M' b=E.M b:=by
  intro i o e h1 h2
  have hsame: ∀ b∈o.tails w e,zbk E.M M' w w' b:=by
   intro b hb
   obtain⟨c,hc⟩:=h.tail_some h1 h2 hb
   have hlt:=h.tail_lt h1 h2 hb
   have hnW: ¬ Bc.W b:=fun hW=>(hT b hW).tail i o e h1 h2 hb
   refine⟨by rw[hok.block b (hB▸hlt) hnW,hB], ?_⟩
   obtain⟨c',h3,_⟩:=hM b c hc
   rcases hnew b c' h3 with h4|h4|h4
   ·rw[h3,h4]
   ·omega
   ·exact absurd h4 hnW
  obtain⟨g1,g2⟩:=HO.tok_keep hM (fun b hl hb=>by
   obtain⟨k3,k4⟩:=hblk i o e b h1 hl h2 hb
   rw[hok.block b (hB▸k3) k4,hB]) hsame (h.tok i o e h1 h2).1
  exact⟨g1,g2,fun b hb=>(hsame b hb).2⟩
 refine⟨?_,fun h1 h2=>(htl h1 h2).2.1⟩
 exact {
  tok:=fun i o e h1 h2=>by
   obtain⟨_,t2,t3⟩:=h.tok i o e h1 h2
   obtain⟨g1,g2,g3⟩:=htl h1 h2
   refine⟨g1,g2▸t2,fun b hb=> ?_⟩
   rw[g2] at hb
   exact⟨by show M' b≠none;rw[g3 b hb];exact(t3 b hb).1,(t3 b hb).2⟩
  tdist:=fun i j o o' e e' b h1 h2 h3 h4 h5 h6=>by
   rw[(htl h1 h3).2.1] at h5
   rw[(htl h2 h4).2.1] at h6
   exact h.tdist i j o o' e e' b h1 h2 h3 h4 h5 h6
  ag:=hag
  base:=Mem.le_trans h.base hM
  fresh:=fun b c hb=>by
   rcases hnew b c hb with h1|h1|h1
   ·exact h.fresh b c h1
   ·exact .inr (.inl (Nat.le_trans h.ok.size h1))
   ·exact .inr (hT b h1).base
  ok:=by
   refine⟨hok.os.trans (hB▸h.ok.os),hok.tape.trans (hB▸h.ok.tape),hok.output.trans (hB▸h.ok.output),Nat.le_trans h.ok.size (hB▸hok.size),fun k hk hn=> ?_⟩
   have hk':k<w.heap.size:=Nat.lt_of_lt_of_le hk h.ok.size
   rw[hok.block k (hB▸hk') (fun hw=>by
    rcases(hT k hw).base with h1|h1
    ·omega
    ·exact hn h1),hB]
   exact h.ok.block k hk hn
  len:=h.len
  free:=fun i o e b h1 h2 h3 h4=>by
   obtain⟨k1,k2⟩:=h.free i o e b h1 h2 h3 h4
   obtain⟨k3,k4⟩:=hblk i o e b h1 h2 h3 h4
   refine⟨?_,k2⟩
   show M' b=none
   cases hm:M' b with
   |none=>rfl
   |some c=>
    rcases hnew b c hm with h5|h5|h5
    ·rw[k1] at h5;cases h5
    ·omega
    ·exact absurd h5 k4
  dist:=h.dist
  ob:=fun i o e h1 h2=>HO.sat_keep ⟨hM,fun _ _ hh=>hh⟩ (h.ob i o e h1 h2) fun b hl hb=>by
   obtain⟨k3,k4⟩:=hblk i o e b h1 hl h2 hb
   rw[hok.block b (hB▸k3) k4,hB]}
theorem Hp.revive (h:Hp B E hp w) {i:Nat} {o':HO} {e:LE} (h1:hp[i]? =some .gone) (h3:E.L[i]? =some e) (hT: ∀ b,o'.live=true→e.blk=some b→MayTurn B E hp b) (hs:o'.sat E w e) (ht:o'.tok E.M w e∧FreeT B E hp w (o'.tails w e)):Hp B E (hp.set i o') w:=by
 have get: ∀ (j:Nat) (o:HO),(hp.set i o')[j]? =some o→(j=i∧o=o')∨(j≠i∧hp[j]? =some o):=by
  intro j o hj
  rw[List.getElem?_set] at hj
  split at hj
  ·rename_i hij
   split at hj
   ·exact .inl ⟨hij.symm,by cases hj;rfl⟩
   ·cases hj
  ·rename_i hij
   exact .inr ⟨fun hh=>hij hh.symm,hj⟩
 exact {
  tok:=fun j o e' g1 g2=>by
   rcases get j o g1 with ⟨rfl,rfl⟩|⟨_,g1⟩
   ·rw[h3] at g2
    cases g2
    exact⟨ht.1,ht.2.1,fun b hb=>(ht.2.2 b hb).1⟩
   ·exact h.tok j o e' g1 g2
  tdist:=fun j1 j2 o1 o2 e1 e2 b g1 g3 g5 g6 g7 g8=>by
   rcases get j1 o1 g1 with ⟨q1,q2⟩|⟨q1,q2⟩
   ·rcases get j2 o2 g3 with ⟨q3,q4⟩|⟨q3,q4⟩
    ·omega
    ·subst q1;subst q2
     rw[h3] at g5
     cases g5
     exact absurd g8 ((ht.2.2 b g7).2 j2 o2 e2 q4 g6)
   ·rcases get j2 o2 g3 with ⟨q3,q4⟩|⟨q3,q4⟩
    ·subst q3;subst q4
     rw[h3] at g6
     cases g6
     exact absurd g7 ((ht.2.2 b g8).2 j1 o1 e1 q2 g5)
    ·exact h.tdist j1 j2 o1 o2 e1 e2 b q2 q4 g5 g6 g7 g8
  ag:=h.ag
  base:=h.base
  fresh:=h.fresh
  ok:=h.ok
  len:=by simp[h.len]
  free:=fun j o e' b g1 g2 g3 g4=>by
   rcases get j o g1 with ⟨rfl,rfl⟩|⟨_,g1⟩
   ·rw[h3] at g3
    cases g3
    exact⟨(hT b g2 g4).mem,(hT b g2 g4).base⟩
   ·exact h.free j o e' b g1 g2 g3 g4
  dist:=fun j1 j2 o1 o2 e1 e2 b g1 g2 g3 g4 g5 g6 g7 g8=>by
   rcases get j1 o1 g1 with ⟨q1,q2⟩|⟨q1,q2⟩<;>rcases get j2 o2 g3 with ⟨q3,q4⟩|⟨q3,q4⟩
   ·omega
   ·subst q1;subst q2
    rw[h3] at g5
    cases g5
    exact absurd g8 ((hT b g2 g7).obj j2 o2 e2 q4 g4 g6)
   ·subst q3;subst q4
    rw[h3] at g6
    cases g6
    exact absurd g7 ((hT b g4 g8).obj j1 o1 e1 q2 g2 g5)
   ·exact h.dist j1 j2 o1 o2 e1 e2 b q2 g2 q4 g4 g5 g6 g7 g8
  ob:=fun j o e' g1 g2=>by
   rcases get j o g1 with ⟨rfl,rfl⟩|⟨_,g1⟩
   ·rw[h3] at g2
    cases g2
    exact hs
   ·exact h.ob j o e' g1 g2}
theorem zid: ∀ {ρ:List Nat} {os:List HO} {hp:List HO} {k:List HO→Option R} (_:Hp B E hp w) (_:ρ.length=os.length)
  (_: ∀ (m1 m2:Nat),m1<os.length→m2<os.length→qH ρ m1=qH ρ m2→m1=m2)
  (_: ∀ (m:Nat) (o:HO),os[m]? =some o→ ∃ e,E.L[qH ρ m]? =some e∧hp[qH ρ m]? =some .gone∧(o.sat E w e∧(o.tok E.M w e∧FreeT B E hp w (o.tails w e)))∧ ∀ b,o.live=true→e.blk=some b→MayTurn B E hp b)
  (_: ∀ (m1 m2:Nat) (o1 o2:HO) (e1 e2:LE) (b:Nat),os[m1]? =some o1→o1.live=true→os[m2]? =some o2→o2.live=true→E.L[qH ρ m1]? =some e1→E.L[qH ρ m2]? =some e2→e1.blk=some b→e2.blk=some b→m1=m2)
  (_: ∀ (m1 m2:Nat) (o1 o2:HO) (e1 e2:LE) (b:Nat),os[m1]? =some o1→os[m2]? =some o2→E.L[qH ρ m1]? =some e1→E.L[qH ρ m2]? =some e2→b∈o1.tails w e1→b∈o2.tails w e2→m1=m2),
  zej ρ os hp k=some r→ ∃ hp',Hp B E hp' w∧k hp'=some r
 | [], [],hp,k,hh,_,_,_,_,_,h=>⟨hp,hh,h⟩
 |i::ρ, [],hp,k,hh,hl,_,_,_,_,h=>by simp at hl
 | [],o::os,hp,k,hh,hl,_,_,_,_,h=>by simp at hl
 |i::ρ,o::os,hp,k,hh,hl,hinj,hob,hblk,htl,h=>by
  unfold zej at h
  rw[zo] at h
  obtain⟨e,e1,e2,e3,e4⟩:=hob 0 o (by simp)
  simp only[qH] at e1 e2
  have hh':=hh.revive e2 e1 (fun b hlv hb=>e4 b hlv hb) e3.1 e3.2
  refine zid hh' (by simpa using hl) (fun m1 m2 h1 h2 h3=>by
   have:=hinj (m1+1) (m2+1) (by simpa using h1) (by simpa using h2) (by simpa [qH] using h3)
   omega) (fun m o' ho=> ?_) (fun m1 m2 o1 o2 e1 e2 b h1 h2 h3 h4 h5 h6 h7 h8=>by
   have:=hblk (m1+1) (m2+1) o1 o2 e1 e2 b (by simpa using h1) h2 (by simpa using h3) h4 (by simpa [qH] using h5) (by simpa [qH] using h6) h7 h8
   omega) (fun m1 m2 o1 o2 e1 e2 b h1 h3 h5 h6 h7 h8=>by
   have:=htl (m1+1) (m2+1) o1 o2 e1 e2 b (by simpa using h1) (by simpa using h3) (by simpa [qH] using h5) (by simpa [qH] using h6) h7 h8
   omega) h
  obtain⟨e',g1,g2,g3,g4⟩:=hob (m+1) o' (by simpa using ho)
  simp only[qH] at g1 g2
  have hml:m<os.length:=(List.getElem?_eq_some_iff.1 ho).1
  have hne:i≠qH ρ m:=fun hh=>by
   have:=hinj 0 (m+1) (by simp) (by simpa using hml) (by simpa [qH] using hh)
   omega
  refine⟨e',g1,by rw[List.getElem?_set_ne hne];exact g2,⟨g3.1,g3.2.1,g3.2.2.1,fun x hx=>⟨(g3.2.2.2 x hx).1,fun j oj ej k1 k3 k4=> ?_⟩⟩,fun b hlv hb=> ?_⟩
  ·by_cases hij:i=j
   ·subst hij
    rw[List.getElem?_set_self (List.getElem?_eq_some_iff.1 e2).1] at k1
    cases k1
    rw[e1] at k3
    cases k3
    have:=htl 0 (m+1) o o' e e' x (by simp) (by simpa using ho) (by simpa [qH] using e1) (by simpa [qH] using g1) k4 hx
    omega
   ·rw[List.getElem?_set_ne hij] at k1
    exact(g3.2.2.2 x hx).2 j oj ej k1 k3 k4
  obtain⟨t1,t2,t3⟩:=g4 b hlv hb
  refine⟨t1,t2,fun j oj ej k1 k2 k3 k4=> ?_⟩
  rw[List.getElem?_set] at k1
  split at k1
  ·rename_i hij
   split at k1
   ·cases k1
    subst hij
    rw[e1] at k3
    cases k3
    have:=hblk 0 (m+1) o o' e e' b (by simp) k2 (by simpa using ho) hlv (by simpa [qH] using e1) (by simpa [qH] using g1) k4 hb
    omega
   ·cases k1
  ·exact t3 j oj ej k1 k2 k3 k4
theorem jk: ∀ {os:List OSh},zfu os=true→ ∀ s∈os,s≠ .gone
 | [],_=>by simp
 | .gone::os,h=>by simp[zfu] at h
 | .cells sl::os,h=>by
  intro s hs
  rcases List.mem_cons.1 hs with hs|hs
  ·subst hs;simp
  ·exact jk (by simpa [zfu] using h) s hs
 | .arr T t::os,h=>by
  intro s hs
  rcases List.mem_cons.1 hs with hs|hs
  ·subst hs;simp
  ·exact jk (by simpa [zfu] using h) s hs
 | .map K V::os,h=>by
  intro s hs
  rcases List.mem_cons.1 hs with hs|hs
  ·subst hs;simp
  ·exact jk (by simpa [zfu] using h) s hs
theorem zel {l:List SV} {vs:List Value} (h:SV.satL E l vs):(zpj l).sat E (retVal vs):=by
 match l,vs,h with
 | [],vs,h=>
  have:vs= []:=by simpa [SV.satL] using h
  subst this
  simp only[zpj,retVal,SV.sat]
  exact⟨[],rfl,by simp[SV.satL]⟩
 | [s],vs,h=>
  simp only[SV.satL] at h
  obtain⟨v,ws,e,h1,h2⟩:=h
  subst h2
  subst e
  exact h1
 |s::s'::l,vs,h=>
  have h':=h
  simp only[SV.satL] at h
  obtain⟨v,ws,e,h1,v',ws',e',h2,h3⟩:=h
  subst e'
  subst e
  simp only[zpj,retVal,SV.sat]
  exact⟨_,rfl,h'⟩
def zwh (L:List LE) (hos:List HO) (b:Nat):Prop:= ∃ (j:Nat) (o:HO) (e:LE),hos[j]? =some o∧o.live=true∧L[j]? =some e∧e.blk=some b
def zqg (L:List LE) (hos:List HO) (w:World) (b:Nat):Prop:= ∃ (j:Nat) (o:HO) (e:LE),hos[j]? =some o∧L[j]? =some e∧b∈o.tails w e
theorem zrs {c:Con} {args:List SV} {vals:List Value} {k:SV→List HO→Option R} (hc:c.Ok P C) (hg:C.globsOk E.M) (hh:Hp B E hp w) (hs:SV.satL E args vals) (h:zm5 c args hp k=some r):
  Calls P c.f vals.toArray w fun e w'=> ∃ v E' hp' s,e= .returned v∧E.le E'∧Hp B E' hp' w'∧s.sat E' v∧k s hp'=some r:=by
 unfold zm5 at h
 cases hchk:(zfu c.sig.ins.objs&&(Nat.ble c.sig.ins.objs.length c.sig.outs.objs.length&&(zmi c.sig.outs.objs.length c.sig.outs.slots&&wfO c.sig.outs.objs.length c.sig.outs.objs))) with
 |false=>rw[hchk] at h;cases h
 |true=>
 rw[hchk,cond_true] at h
 simp only[Bool.and_eq_true] at hchk
 obtain⟨hng,hno,hw1,hw2⟩:=hchk
 have hno':=Nat.le_of_ble_eq_true hno
 replace h:=j7 (n0:=0) hh hs (Nat.zero_le _) h;obtain⟨E1,hp1,ds,mp,hpk,h⟩:=h
 replace h:=xC h;obtain⟨x,hx,h⟩:=h
 subst hx
 cases hF:c.F x with
 |none=>rw[hF] at h;cases h
 |some y=>
 rw[hF,Option.bind_some] at h
 replace h:=zcj h
 obtain⟨hHin,hSin⟩:=hpk.heap
 have hHin':Hp ⟨w,fun b=>zwh (zbd E E1 mp).L (c.inO x) b∨zqg (zbd E E1 mp).L (c.inO x) w b,(zbd E E1 mp).M⟩ (zbd E E1 mp) (c.inO x) w:=
  {ag:=hHin.ag,base:=Mem.le_refl _,fresh:=fun b c hb=> .inl hb,ok:=⟨rfl,rfl,rfl,Nat.le_refl _,fun _ _ _=>rfl⟩,len:=hHin.len,
   free:=fun i o e b h1 h2 h3 h4=>⟨(hHin.free i o e b h1 h2 h3 h4).1, .inr (.inl ⟨i,o,e,h1,h2,h3,h4⟩)⟩,dist:=hHin.dist,ob:=hHin.ob,
   tok:=fun i o e h1 h2=>by
    obtain⟨t1,t2,t3⟩:=hHin.tok i o e h1 h2
    exact⟨t1,t2,fun b hb=>⟨(t3 b hb).1, .inr (.inr ⟨i,o,e,h1,h2,hb⟩)⟩⟩
   tdist:=hHin.tdist}
 refine(hc.calls (zbd E E1 mp) w vals x y _ (C.globsOk_mono hpk.frz.le.1 hg) hSin hHin' hF).mono ?_
 rintro e w' ⟨E',vs,rfl,hS',hH',hkeep⟩
 have hinpl:jo c.sig.ins.objs=true→ ∀ b, ¬ zqg (zbd E E1 mp).L (c.inO x) w b:=fun hpl b ⟨j,o,e,h1,h2,h3⟩=>by
  have hpn:=zci hpl (qJ (ss:=c.sig.ins.slots) (by rw[j5,Skel.tys,qL])) j o h1 E.M w e
  rw[hpn.2] at h3;simp at h3
 obtain⟨E0,hp0,hE0,hle0,hL0,hhp0,hlen0,hsame,hflat⟩: ∃ (E0:Env) (hp0:List HO),(bif c.sig.outs.flat&&jo c.sig.ins.objs then hp else hp1)=hp0∧E.le E0∧E0.L=E.L∧Hp B E0 hp0 w∧hp0.length=hp.length∧
   (∀ (i:Nat) (o:HO),hp1[i]? =some o→o.live=true→hp0[i]? =some o)∧(((c.sig.outs.flat=true∧jo c.sig.ins.objs=true)∧E0=E)∨((c.sig.outs.flat&&jo c.sig.ins.objs)=false∧E0=E1∧hp0=hp1)):=by
  cases hfl:(c.sig.outs.flat&&jo c.sig.ins.objs) with
  |true=>
   refine⟨E,hp,rfl,Env.le_refl E,rfl,hh,rfl,fun i o h1 h2=> ?_, .inl ⟨by simpa using hfl,rfl⟩⟩
   rcases hpk.frz.obj i with h3|⟨o3,h3,h4,_⟩
   ·rw[← h3];exact h1
   ·rw[h1] at h3;cases h3;rw[h4] at h2;cases h2
  |false=>exact⟨E1,hp1,rfl,hpk.frz.le,hpk.frz.L,hpk.frz.heap,hpk.frz.len,fun i o h1 _=>h1, .inr ⟨rfl,rfl,rfl⟩⟩
 rw[hE0] at h
 replace h:=jC hhp0 h;obtain⟨hp2,hhp2,hl2,h,hkeep2,hgone2⟩:=h
 rw[jG E'.L 0] at h
 have hmayB: ∀ b,zwh (zbd E E1 mp).L (c.inO x) b→MayTurn B E0 hp2 b:=by
  rintro b ⟨j,o1,e,h1,h2,h3,h4⟩
  obtain⟨i,len,s,o',e',q1,q2,q3,q4,q5,q6,q7⟩:=hpk.liveAt h1 h2 h3 h4
  have g1:=hsame i o' q4 q5
  have g2:E0.L[i]? =some e':=by rw[hL0, ← hpk.frz.L];exact q6
  have hil:i<hp0.length:=(List.getElem?_eq_some_iff.1 g1).1
  obtain⟨f1,f2⟩:=hhp0.free i o' e' b g1 q5 g2 q7
  refine⟨f2,f1,fun m om em k1 k2 k3 k4=> ?_⟩
  have k1':hp0[m]? =some om:=by
   rcases hkeep2 m with h5|h5
   ·rw[← h5];exact k1
   ·rw[k1] at h5;cases h5;simp[HO.live] at k2
  have:=hhp0.dist m i om o' em e' b k1' k2 g1 q5 k3 g2 k4 q7
  subst this
  rw[hgone2 j m len q3 hil] at k1
  cases k1
  simp[HO.live] at k2
 have hmay: ∀ b,(zwh (zbd E E1 mp).L (c.inO x) b∨zqg (zbd E E1 mp).L (c.inO x) w b)→MayT B E0 hp2 w b:=by
  rintro b (hb|hb)
  ·have:=hmayB b hb
   exact⟨this.base,this.obj,fun j o e h1 h2=>this.tail hhp2 h1 h2⟩
  ·rcases hflat with ⟨⟨_,hpl⟩,_⟩|⟨_,he,hhe⟩
   ·exact absurd hb (hinpl hpl b)
   ·subst he
    subst hhe
    obtain⟨j,o1,e,h1,h2,h3⟩:=hb
    obtain⟨i,len,s,o',e',q1,q2,q3,q4,q5,q6⟩:=hpk.tailAt h1 h2 h3
    have hil:=(List.getElem?_eq_some_iff.1 q4).1
    obtain⟨cb,hcb⟩:=hhp0.tail_some q4 q5 q6
    refine⟨((hhp0.tok i o' e' q4 q5).2.2 b q6).2,fun m om em k1 k2 k3 k4=> ?_,fun m om em k1 k2 k3=> ?_⟩
    ·have:=(hhp2.free m om em b k1 k2 k3 k4).1
     rw[hcb] at this;cases this
    ·rcases hkeep2 m with h5|h5
     ·rw[h5] at k1
      have:=hhp0.tdist m i om o' em e' b k1 q4 k2 q5 k3 q6
      subst this
      rw[← h5,hgone2 j m len q3 hil] at k1
      cases k1
      simp[HO.tails] at k3
     ·rw[k1] at h5;cases h5;simp[HO.tails] at k3
 obtain⟨M',hM0,hMag,hMnew,hM'⟩: ∃ M':Mem,E0.M.le M'∧M'.agrees w'∧(∀ b c',M' b=some c'→E0.M b=some c'∨w.heap.size≤b∨(zwh (zbd E E1 mp).L (c.inO x) b∨zqg (zbd E E1 mp).L (c.inO x) w b))∧
   ((c.sig.outs.flat=true∧M'=E0.M)∨M'=E'.M):=by
  rcases hflat with ⟨⟨hf,hpl⟩,he⟩|⟨hf,he,_⟩
  ·refine⟨E0.M,Mem.le_refl _,fun b c' hb=> ?_,fun b c' hb=> .inl hb, .inl ⟨hf,rfl⟩⟩
   obtain⟨cs,T,f,hb',hpr⟩:=hhp0.ag b c' hb
   have hlt:=qb hb'
   refine⟨cs,T,f, ?_,hpr⟩
   rw[hH'.ok.block b hlt (fun hw=>by
    rcases hw with hw|hw
    ·rw[(hmayB b hw).mem] at hb;cases hb
    ·exact hinpl hpl b hw)]
   exact hb'
  ·subst he
   exact⟨E'.M,hH'.base,hH'.ag,fun b c' hb=>hH'.fresh b c' hb, .inr rfl⟩
 obtain⟨hmv,hmvt⟩:=hhp2.move (Bc:=⟨w,_,(zbd E E1 mp).M⟩) rfl hH'.ok hmay hM0 hMag hMnew
 have hrm:=hmv.room (zI E'.L 0 mp c.sig.outs.objs)
 have hE0len:E0.L.length=hp.length:=by rw[hhp0.len,hlen0]
 have hmplen:=hpk.len
 have hρ: ∀ (j:Nat) (e:LE),j<c.sig.outs.objs.length→E'.L[qH (zO c.sig.outs.objs.length 0) j]? =some e→(E0.L++zI E'.L 0 mp c.sig.outs.objs)[qH (rho hp.length mp c.sig.outs.objs) j]? =some e:=by
  intro j e hj he
  rw[xc _ _ _ hj,Nat.zero_add] at he
  rcases xn E'.L 0 hp.length mp c.sig.outs.objs E0.L hE0len j hj with ⟨i,hi,hr⟩|⟨_,_,hr⟩
  ·have hjn:j<c.sig.ins.objs.length:=by have:=(List.getElem?_eq_some_iff.1 hi).1;omega
   obtain⟨le,hle,_⟩:=hpk.ok j i none hi
   have hin:(zbd E E1 mp).L[j]? =some le:=by
    show(mp.map (pmLE E))[j]? =some le
    rw[List.getElem?_map,hi]
    simp[pmLE,hle]
   have:=hkeep j le hjn hin
   rw[he] at this
   cases this
   rw[hr,List.getElem?_append_left (by rw[hL0];exact(List.getElem?_eq_some_iff.1 hle).1),hL0]
   exact hle
  ·rw[hr,Nat.zero_add,he];rfl
 have hdv:qh (qE c.sig.outs.tys y)=z9 c.sig.outs.slots++qa c.sig.outs.objs:=by rw[j5,Skel.tys,qL]
 have hdvO:qh (bL (rho hp.length mp c.sig.outs.objs) c.sig.outs.slots (qE c.sig.outs.tys y)).2=qa c.sig.outs.objs:=qJ hdv
 have hMf:E'.M.le M'∨c.sig.outs.flat=true:=by
  rcases hM' with ⟨h1,_⟩|h2
  ·exact .inr h1
  ·exact .inl (by rw[h2];exact Mem.le_refl _)
 have hMf1:E'.M.le M'∨xH c.sig.outs.slots=true:=hMf.imp id fun hf=>by simp[Skel.flat] at hf;exact hf.1
 have hMf2:E'.M.le M'∨zao c.sig.outs.objs=true:=hMf.imp id fun hf=>by simp[Skel.flat] at hf;exact hf.2
 have hSf:SV.satL ⟨M',E0.L++zI E'.L 0 mp c.sig.outs.objs⟩ (bL (rho hp.length mp c.sig.outs.objs) c.sig.outs.slots (qE c.sig.outs.tys y)).1 vs:=
  zbb (E1:=E') (E2:=⟨M',E0.L++zI E'.L 0 mp c.sig.outs.objs⟩) hρ hdv hw1 hMf1 hS'
 have hob:=zmq (E1:=E') (E2:=⟨M',E0.L++zI E'.L 0 mp c.sig.outs.objs⟩) (ρ1:=zO c.sig.outs.objs.length 0) (ρ2:=rho hp.length mp c.sig.outs.objs) hρ hdvO hw2 hMf2
 have hosl:=zg0 (ρ:=rho hp.length mp c.sig.outs.objs) hdvO
 have hidx: ∀ i,mp[i]? ≠none→i<c.sig.ins.objs.length:=fun i hi=>by
  rw[← hmplen]
  exact Nat.lt_of_not_le fun hle=>hi (List.getElem?_eq_none hle)
 have houtE: ∀ m,m<c.sig.outs.objs.length→ ∃ e,E'.L[m]? =some e:=fun m hm=>by
  have hl:(c.outO y).length=c.sig.outs.objs.length:=zg0 (qJ hdv)
  exact⟨_,List.getElem?_eq_getElem (by rw[hH'.len,hl];exact hm)⟩
 have hsnd:(bL (rho hp.length mp c.sig.outs.objs) c.sig.outs.slots (qE c.sig.outs.tys y)).2=(c.outL y).2:=zbm
 obtain⟨hp4,hhp4,h⟩:=zid hrm (by rw[zfg,hosl]) (fun m1 m2 h1 h2 heq=>by
  rw[hosl] at h1 h2
  rcases xn E'.L 0 hp.length mp c.sig.outs.objs E0.L hE0len m1 h1 with ⟨i1,g1,g2⟩|⟨g1,_,_⟩<;>rcases xn E'.L 0 hp.length mp c.sig.outs.objs E0.L hE0len m2 h2 with ⟨i2,g3,g4⟩|⟨g3,_,_⟩
  ·have:i1=i2:=by omega
   subst this
   have b1:=hidx m1 (by rw[g1];simp)
   have b2:=hidx m2 (by rw[g3];simp)
   exact hpk.inj m1 m2 i1 none none _ _ (List.getElem?_eq_getElem b1) (jk hng _ (List.getElem_mem b1)) (List.getElem?_eq_getElem b2) (jk hng _ (List.getElem_mem b2)) g1 g3
  ·obtain⟨le,hle,_⟩:=hpk.ok m1 i1 none g1
   have:=(List.getElem?_eq_some_iff.1 hle).1
   rw[hh.len] at this
   omega
  ·obtain⟨le,hle,_⟩:=hpk.ok m2 i2 none g3
   have:=(List.getElem?_eq_some_iff.1 hle).1
   rw[hh.len] at this
   omega
  ·refine zpk hp.length mp c.sig.outs.objs m1 m2 h1 h2 heq (fun i hi=> ?_) (fun i hi=> ?_)
   ·rcases xn E'.L 0 hp.length mp c.sig.outs.objs E0.L hE0len m1 h1 with ⟨i1,q1,q2⟩|⟨q1,_,_⟩
    ·obtain⟨le,hle,_⟩:=hpk.ok m1 i1 none q1
     have:=(List.getElem?_eq_some_iff.1 hle).1
     rw[hh.len] at this
     omega
    ·have key: ∀ (b:Nat) (mp':List PM) (os:List OSh) (m i:Nat),m<os.length→mp'[m]? =some (.id i none)→qH (rho b mp' os) m=i:=by
      intro b mp'
      induction mp' generalizing b with
      |nil=>intro os m i _ hm;simp at hm
      |cons p mp' ih=>
       intro os m i hl hm
       cases os with
       |nil=>simp at hl
       |cons s os=>
        cases m with
        |zero=>simp at hm;subst hm;rfl
        |succ m=>
         simp at hm hl
         cases p with
         |none=>exact ih (b+1) os m i hl hm
         |nil=>exact ih (b+1) os m i hl hm
         |id i' len'=>
          cases len' with
          |none=>exact ih b os m i hl hm
          |some n=>exact ih (b+1) os m i hl hm
     have h5:=key hp.length mp c.sig.outs.objs m1 i h1 hi
     obtain⟨le,hle,_⟩:=hpk.ok m1 i none hi
     have:=(List.getElem?_eq_some_iff.1 hle).1
     rw[hh.len] at this
     omega
   ·have key: ∀ (b:Nat) (mp':List PM) (os:List OSh) (m i:Nat),m<os.length→mp'[m]? =some (.id i none)→qH (rho b mp' os) m=i:=by
     intro b mp'
     induction mp' generalizing b with
     |nil=>intro os m i _ hm;simp at hm
     |cons p mp' ih=>
      intro os m i hl hm
      cases os with
      |nil=>simp at hl
      |cons s os=>
       cases m with
       |zero=>simp at hm;subst hm;rfl
       |succ m=>
        simp at hm hl
        cases p with
        |none=>exact ih (b+1) os m i hl hm
        |nil=>exact ih (b+1) os m i hl hm
        |id i' len'=>
         cases len' with
         |none=>exact ih b os m i hl hm
         |some n=>exact ih (b+1) os m i hl hm
    have h5:=key hp.length mp c.sig.outs.objs m2 i h2 hi
    obtain⟨le,hle,_⟩:=hpk.ok m2 i none hi
    have:=(List.getElem?_eq_some_iff.1 hle).1
    rw[hh.len] at this
    omega)
  (fun m o2 ho2=>by
   have hml:m<c.sig.outs.objs.length:=by rw[← hosl];exact(List.getElem?_eq_some_iff.1 ho2).1
   obtain⟨o1,ho1,hlv,⟨htls,htk⟩,hsat⟩:=hob m o2 ho2
   rw[hsnd] at ho1
   obtain⟨e,he⟩:=houtE m hml
   have hpos:=hρ m e hml (by rw[xc _ _ _ hml,Nat.zero_add];exact he)
   refine⟨e,hpos, ?_,⟨hsat w' e (hH'.ob m o1 e ho1 he), ?_⟩,fun b hb1 hb2=> ?_⟩
   rotate_left
   ·rcases hM' with ⟨hf,_⟩|h2
    ·have hpn:=zci (ji (by simp[Skel.flat] at hf;exact hf.2)) hdvO m o2 ho2 M' w' e
     exact⟨hpn.1,by rw[hpn.2];exact FreeT.nil⟩
    ·obtain⟨t1,t2,t3⟩:=hH'.tok m o1 e ho1 he
     rw[htls] at t2 t3
     refine⟨htk _ _ _ (by rw[h2];exact t1),t2,fun b hb=>⟨⟨by rw[h2];exact(t3 b hb).1, ?_⟩,fun j oj ej k1 k2 k3=> ?_⟩⟩
     ·rcases(t3 b hb).2 with f2|f2
      ·exact .inl (Nat.le_trans hh.ok.size f2)
      ·exact(hmay b f2).base
     ·have hjl:j<hp2.length:=by
       apply Nat.lt_of_not_le
       intro hle
       rw[List.getElem?_append_right hle,List.getElem?_replicate] at k1
       split at k1
       ·cases k1;simp[HO.tails] at k3
       ·cases k1
      rw[List.getElem?_append_left hjl] at k1
      have k2':(E0.L++zI E'.L 0 mp c.sig.outs.objs)[j]? =some ej:=k2
      rw[List.getElem?_append_left (by rw[hhp2.len];exact hjl)] at k2'
      rw[hmvt k1 k2'] at k3
      rcases(t3 b hb).2 with f2|f2
      ·have:=hhp2.tail_lt k1 k2' k3
       have f2':w.heap.size≤b:=f2
       omega
      ·exact(hmay b f2).tail j oj ej k1 k2' k3
   rotate_left
   ·rcases xn E'.L 0 hp.length mp c.sig.outs.objs E0.L hE0len m hml with ⟨i,hi,hr⟩|⟨hr1,hr2,_⟩
    ·obtain⟨le,hle,_⟩:=hpk.ok m i none hi
     have hil:=(List.getElem?_eq_some_iff.1 hle).1
     rw[hh.len] at hil
     rw[hr,List.getElem?_append_left (by omega)]
     exact hgone2 m i none hi (by omega)
    ·rw[List.getElem?_append_right (by omega),List.getElem?_replicate,if_pos (by omega)]
   ·obtain⟨f1,f2⟩:=hH'.free m o1 e b ho1 (by rw[hlv];exact hb1) he hb2
    refine⟨?_, ?_,fun j oj ej k1 k2 k3 k4=> ?_⟩
    ·rcases f2 with f2|f2
     ·exact .inl (Nat.le_trans hh.ok.size f2)
     ·exact(hmay b f2).base
    ·show M' b=none
     rcases hM' with ⟨_,h2⟩|h2
     ·rw[h2]
      rcases f2 with f2|f2
      ·cases hm:E0.M b with
       |none=>rfl
       |some c'=>have:=Mem.agrees_lt hhp0.ag hm;have f2':w.heap.size≤b:=f2;omega
      ·rcases f2 with f2|f2
       ·exact(hmayB b f2).mem
       ·rcases hflat with ⟨⟨_,hpl⟩,_⟩|⟨_,he,_⟩
        ·exact absurd f2 (hinpl hpl b)
        ·cases hm:E0.M b with
         |none=>rfl
         |some c'=>
          subst he
          obtain⟨c2,hc2,_⟩:=hH'.base b c' hm
          rw[f1] at hc2;cases hc2
     ·rw[h2];exact f1
    ·have hjl:j<hp2.length:=by
      apply Nat.lt_of_not_le
      intro hle
      rw[List.getElem?_append_right hle,List.getElem?_replicate] at k1
      split at k1
      ·cases k1;simp[HO.live] at k2
      ·cases k1
     rw[List.getElem?_append_left hjl] at k1
     have k3':(E0.L++zI E'.L 0 mp c.sig.outs.objs)[j]? =some ej:=k3
     rw[List.getElem?_append_left (by rw[hhp2.len];exact hjl)] at k3'
     rcases f2 with f2|f2
     ·have:=HO.sat_lt k2 (hhp2.ob j oj ej k1 k3') k4
      have f2':w.heap.size≤b:=f2
      omega
     ·exact(hmay b f2).obj j oj ej k1 k2 k3' k4)
  (fun m1 m2 o1 o2 e1 e2 b h1 h2 h3 h4 h5 h6 h7 h8=>by
   obtain⟨p1,g1,g2,_⟩:=hob m1 o1 h1
   obtain⟨p2,g3,g4,_⟩:=hob m2 o2 h3
   rw[hsnd] at g1 g3
   have l1:m1<c.sig.outs.objs.length:=by rw[← hosl];exact(List.getElem?_eq_some_iff.1 h1).1
   have l2:m2<c.sig.outs.objs.length:=by rw[← hosl];exact(List.getElem?_eq_some_iff.1 h3).1
   obtain⟨f1,he1⟩:=houtE m1 l1
   obtain⟨f2,he2⟩:=houtE m2 l2
   have q1:=hρ m1 f1 l1 (by rw[xc _ _ _ l1,Nat.zero_add];exact he1)
   have q2:=hρ m2 f2 l2 (by rw[xc _ _ _ l2,Nat.zero_add];exact he2)
   have h5':(E0.L++zI E'.L 0 mp c.sig.outs.objs)[qH (rho hp.length mp c.sig.outs.objs) m1]? =some e1:=h5
   have h6':(E0.L++zI E'.L 0 mp c.sig.outs.objs)[qH (rho hp.length mp c.sig.outs.objs) m2]? =some e2:=h6
   rw[q1] at h5'
   rw[q2] at h6'
   rw[Option.some.inj h5'] at he1
   rw[Option.some.inj h6'] at he2
   exact hH'.dist m1 m2 p1 p2 e1 e2 b g1 (by rw[g2];exact h2) g3 (by rw[g4];exact h4) he1 he2 h7 h8)
  (fun m1 m2 o1 o2 e1 e2 b h1 h3 h5 h6 h7 h8=>by
   obtain⟨p1,g1,g2,⟨ga,_⟩,_⟩:=hob m1 o1 h1
   obtain⟨p2,g3,g4,⟨gb,_⟩,_⟩:=hob m2 o2 h3
   rw[hsnd] at g1 g3
   have l1:m1<c.sig.outs.objs.length:=by rw[← hosl];exact(List.getElem?_eq_some_iff.1 h1).1
   have l2:m2<c.sig.outs.objs.length:=by rw[← hosl];exact(List.getElem?_eq_some_iff.1 h3).1
   obtain⟨f1,he1⟩:=houtE m1 l1
   obtain⟨f2,he2⟩:=houtE m2 l2
   have q1:=hρ m1 f1 l1 (by rw[xc _ _ _ l1,Nat.zero_add];exact he1)
   have q2:=hρ m2 f2 l2 (by rw[xc _ _ _ l2,Nat.zero_add];exact he2)
   have h5':(E0.L++zI E'.L 0 mp c.sig.outs.objs)[qH (rho hp.length mp c.sig.outs.objs) m1]? =some e1:=h5
   have h6':(E0.L++zI E'.L 0 mp c.sig.outs.objs)[qH (rho hp.length mp c.sig.outs.objs) m2]? =some e2:=h6
   rw[q1] at h5'
   rw[q2] at h6'
   rw[Option.some.inj h5'] at he1
   rw[Option.some.inj h6'] at he2
   exact hH'.tdist m1 m2 p1 p2 e1 e2 b g1 g3 he1 he2 (by rw[ga];exact h7) (by rw[gb];exact h8)) h
 refine⟨retVal vs,_,hp4,_,rfl,⟨Mem.le_trans hle0.1 hM0,fun i e hi=> ?_⟩,hhp4,zel hSf,h⟩
 show(E0.L++zI E'.L 0 mp c.sig.outs.objs)[i]? =some e
 rw[List.getElem?_append_left (by rw[hL0];exact(List.getElem?_eq_some_iff.1 hi).1),hL0]
 exact hi
end
end Go.Sx
