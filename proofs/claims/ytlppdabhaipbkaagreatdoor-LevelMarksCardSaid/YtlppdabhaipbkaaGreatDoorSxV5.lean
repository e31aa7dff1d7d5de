/- The symbolic evaluator, part V5: regions that draw their order, with effects: any order tells the same. -/
import Derived.Test.YtlppdabhaipbkaaGreatDoorSxV4
set_option linter.unusedVariables false
set_option linter.unusedSimpArgs false
namespace Go.Sx
open Go.RowKit
section
variable {R:Type} {r:R} {P:Program} {C:Ctx} {Γ:List Con} {B:Base} {E:Env} {fr:List SV} {hp:List HO} {a:Act} {w w':World} {o:Oper}
def FactP (P:Program) (C:Ctx) (B:Base) (N:Nat) (ops:Array Oper) (h0:List HO) (T:List Nat) (fF:List SV) (o:Oper):Prop:=
 ∀ (E:Env) (hp:List HO) (a:Act) (w:World) (K:Act→World→Prop) (Q:Exit→Act→World→Prop),Hp B E hp w→C.globsOk E.M→a.tmps.size=fF.length→(∀ t∈zp ops.toList o,SatAt E fF a t)→
  hp.length≤N→(∀ x,memN x T=true→wk hp x=wk h0 x)→
  (∀ E' v w',E.le E'→Hp B E' hp w'→(∀ d s,o.dst=some d→fF[d]? =some s→s.sat E' v)→K (a.put o.dst v) w')→
  if Region.wanted o (yielded ops a.tmps) then o.wp P a w K Q∨(o.asks P a w∧LetsOut Q) else K (a.put o.dst undef) w
def FactC (P:Program) (C:Ctx) (B:Base) (ops:Array Oper) (h0 h1:List HO) (fF:List SV) (o:Oper):Prop:=
 ∀ (E:Env) (a:Act) (w:World) (K:Act→World→Prop) (Q:Exit→Act→World→Prop),Hp B E h0 w→C.globsOk E.M→a.tmps.size=fF.length→(∀ t∈zp ops.toList o,SatAt E fF a t)→
  (∀ E' v w',E.le E'→Hp B E' h1 w'→(∀ d s,o.dst=some d→fF[d]? =some s→s.sat E' v)→K (a.put o.dst v) w')→
  if Region.wanted o (yielded ops a.tmps) then o.wp P a w K Q∨(o.asks P a w∧LetsOut Q) else K (a.put o.dst undef) w
theorem zjm: ∀ (l:List Nat),apartN l []=true
 | []=>rfl
 |i::l=>by simp[apartN,memN,zjm l]
theorem zus (an:Nat): ∀ (l:List (Nat×List Nat)),okC an [] l=true
 | []=>rfl
 |(m,U)::l=>by simp[okC,apartN,zus an l]
structure Coll (P:Program) (C:Ctx) (B:Base) (N:Nat) (fl anc:List Nat) (ops:Array Oper) (i:Nat) (os:List Oper) (h:Acc) (fF:List SV) (H:Nat→List HO) (ch:Nat→Bool) (T:Nat→List Nat):Prop where
 start:H i=h.hp
 small: ∀ m,i≤m→m≤i+os.length→(H m).length≤N
 pure: ∀ m o,os[m]? =some o→ch (i+m)=false→H (i+m+1)=H (i+m)∧FactP P C B N ops (H (i+m)) (T (i+m)) fF o∧okC (nthN anc (i+m)) (T (i+m)) h.cs=true
 chain: ∀ m o,os[m]? =some o→ch (i+m)=true→isEffX C ops.toList o=true∧memN (i+m) fl=false∧FactC P C B ops (H (i+m)) (H (i+m+1)) fF o∧(∀ x,memN x (T (i+m))=false→wk (H (i+m+1)) x=wk (H (i+m)) x)∧
  okC (nthN anc (i+m)) (T (i+m)) h.ps=true
 pair: ∀ m m',i≤m→m<m'→m'<i+os.length→ch m≠ch m'→bitN (nthN anc m') m=true∨apartN (T m') (T m)=true
theorem Coll.cons {N:Nat} {fl anc:List Nat} {ops:Array Oper} {i:Nat} {o:Oper} {os:List Oper} {h h1:Acc} {fF:List SV} {H:Nat→List HO} {ch:Nat→Bool} {T:Nat→List Nat} (hc:Coll P C B N fl anc ops (i+1) os h1 fF H ch T)
  (hN:h.hp.length≤N) (c0:Bool) (T0:List Nat)
  (hP:c0=false→h1.hp=h.hp∧h1.cs=h.cs∧((T0= []∧h1.ps=h.ps)∨h1.ps=(i,T0)::h.ps)∧FactP P C B N ops h.hp T0 fF o∧okC (nthN anc i) T0 h.cs=true)
  (hC:c0=true→h1.ps=h.ps∧h1.cs=(i,T0)::h.cs∧isEffX C ops.toList o=true∧memN i fl=false∧FactC P C B ops h.hp h1.hp fF o∧(∀ x,memN x T0=false→wk h1.hp x=wk h.hp x)∧okC (nthN anc i) T0 h.ps=true):
  Coll P C B N fl anc ops i (o::os) h fF (fun m=>if m=i then h.hp else H m) (fun m=>if m=i then c0 else ch m) (fun m=>if m=i then T0 else T m) where
 start:=by simp
 small:=fun m h1 h2=>by
  by_cases hm:m=i
  ·simp only[hm,if_true];exact hN
  ·simp only[hm,if_false];exact hc.small m (by omega) (by simp at h2;omega)
 pure:=fun m o' hm hch=>by
  cases m with
  |zero=>
   simp at hm;subst hm
   simp only[Nat.add_zero,if_true] at hch ⊢
   obtain⟨g1,g2,g3,g4,g5⟩:=hP hch
   rw[if_neg (by omega),hc.start]
   exact⟨g1,g4,g5⟩
  |succ m=>
   have e1: ¬ i+(m+1)=i:=by omega
   have e2: ¬ i+(m+1)+1=i:=by omega
   simp only[e1,e2,if_false] at hch ⊢
   have e3:i+(m+1)=i+1+m:=by omega
   rw[e3] at hch ⊢
   obtain⟨g1,g2,g3⟩:=hc.pure m o' (by simpa using hm) hch
   refine⟨g1,g2, ?_⟩
   cases hc0:c0 with
   |false=>rw[(hP hc0).2.1] at g3;exact g3
   |true=>
    rw[(hC hc0).2.1] at g3
    simp only[okC,Bool.and_eq_true] at g3
    exact g3.2
 chain:=fun m o' hm hch=>by
  cases m with
  |zero=>
   simp at hm;subst hm
   simp only[Nat.add_zero,if_true] at hch ⊢
   obtain⟨g1,g2,g3,g4,g5,g6,g7⟩:=hC hch
   rw[if_neg (by omega),hc.start]
   exact⟨g3,g4,g5,g6,g7⟩
  |succ m=>
   have e1: ¬ i+(m+1)=i:=by omega
   have e2: ¬ i+(m+1)+1=i:=by omega
   simp only[e1,e2,if_false] at hch ⊢
   have e3:i+(m+1)=i+1+m:=by omega
   rw[e3] at hch ⊢
   obtain⟨g1,g2,g3,g4,g5⟩:=hc.chain m o' (by simpa using hm) hch
   refine⟨g1,g2,g3,g4, ?_⟩
   cases hc0:c0 with
   |true=>rw[(hC hc0).1] at g5;exact g5
   |false=>
    rcases(hP hc0).2.2.1 with ⟨_,q⟩|q
    ·rw[q] at g5;exact g5
    ·rw[q] at g5
     simp only[okC,Bool.and_eq_true] at g5
     exact g5.2
 pair:=fun m m' h1 h2 h3 hne=>by
  have e': ¬ m'=i:=by omega
  by_cases hm:m=i
  ·subst hm
   simp only[if_true,e',if_false] at hne ⊢
   obtain⟨n,rfl⟩: ∃ n,m'=m+1+n:=⟨m' - (m+1),by omega⟩
   have hlt:n<os.length:=by simp at h3;omega
   have ho:=List.getElem?_eq_getElem hlt
   cases hc0:c0 with
   |false=>
    have hch:ch (m+1+n)=true:=by rw[hc0] at hne;cases hx:ch (m+1+n)<;>simp_all
    rcases(hP hc0).2.2.1 with ⟨q,_⟩|q
    ·rw[q];exact .inr (zjm _)
    ·have:=(hc.chain n _ ho hch).2.2.2.2
     rw[q] at this
     simp only[okC,Bool.and_eq_true,Bool.or_eq_true] at this
     exact this.1
   |true=>
    have hch:ch (m+1+n)=false:=by rw[hc0] at hne;cases hx:ch (m+1+n)<;>simp_all
    have:=(hc.pure n _ ho hch).2.2
    rw[(hC hc0).2.1] at this
    simp only[okC,Bool.and_eq_true,Bool.or_eq_true] at this
    exact this.1
  ·simp only[hm,e',if_false] at hne ⊢
   exact hc.pair m m' (by omega) h2 (by simp at h3;omega) hne
theorem zp5 {N:Nat} {fl anc:List Nat} {ops:Array Oper} (hG:Given P C Γ): ∀ {os:List Oper} {i:Nat} {fr:List SV} {h:Acc} {k:List SV→List HO→Option R},zQ ops.toList i os=true→h.hp.length≤N→
  xq C Γ ops.toList N fl anc i os fr h k=some r→
  ∃ (fF:List SV) (H:Nat→List HO) (ch:Nat→Bool) (T:Nat→List Nat),(za7 (H (i+os.length)) fF fun fr=>k fr (H (i+os.length)))=some r∧fF.length=fr.length∧(∀ t,t∉opsDst os→fF[t]? =fr[t]?)∧Coll P C B N fl anc ops i os h fF H ch T
 | [],i,fr,h,k,hB,hN,hr=>⟨fr,fun _=>h.hp,fun _=>false,fun _=> [],hr,rfl,fun _ _=>rfl,
   {start:=rfl,small:=fun _ _ _=>hN,pure:=fun m o hm=>by simp at hm,chain:=fun m o hm=>by simp at hm,pair:=fun m m' h1 h2 h3=>by simp at h3;omega}⟩
 |o::os,i,fr,h,k,hB,hN,hr=>by
  have hB':zQ ops.toList (i+1) os=true:=by
   simp only[zQ,Bool.and_eq_true] at hB
   exact hB.2.2.2
  have behind: ∀ {s:SV} {h1:Acc},h1.hp.length≤N→(zcp fr o.dst s fun fr=>xq C Γ ops.toList N fl anc (i+1) os fr h1 k)=some r→
    (∀ fF:List SV,fF.length=fr.length→(∀ t∈zp ops.toList o,fF[t]? =fr[t]?)→(∀ d s',o.dst=some d→fF[d]? =some s'→s'=s)→
     ∃ (c0:Bool) (T0:List Nat),(c0=false→h1.hp=h.hp∧h1.cs=h.cs∧((T0= []∧h1.ps=h.ps)∨h1.ps=(i,T0)::h.ps)∧FactP P C B N ops h.hp T0 fF o∧okC (nthN anc i) T0 h.cs=true)∧
     (c0=true→h1.ps=h.ps∧h1.cs=(i,T0)::h.cs∧isEffX C ops.toList o=true∧memN i fl=false∧FactC P C B ops h.hp h1.hp fF o∧(∀ x,memN x T0=false→wk h1.hp x=wk h.hp x)∧okC (nthN anc i) T0 h.ps=true))→
    ∃ (fF:List SV) (H:Nat→List HO) (ch:Nat→Bool) (T:Nat→List Nat),(za7 (H (i+(o::os).length)) fF fun fr=>k fr (H (i+(o::os).length)))=some r∧fF.length=fr.length∧(∀ t,t∉opsDst (o::os)→fF[t]? =fr[t]?)∧
     Coll P C B N fl anc ops i (o::os) h fF H ch T:=by
   intro s h1 hN1 h0 hfact
   obtain⟨fr1,q1,q2,q3,q4⟩:=zkf h0
   obtain⟨fF,H,ch,T,p1,p2,p3,p4⟩:=zp5 hG hB' hN1 q1
   have hout: ∀ t,t∉opsDst (o::os)→fF[t]? =fr[t]? :=by
    intro t ht
    rw[p3 t (zkb ht)]
    refine q3 t fun hd=>ht ?_
    unfold opsDst
    rw[hd]
    simp
   obtain⟨c0,T0,hP,hC⟩:=hfact fF (p2.trans q2) (fun t ht=>hout t (zkr hB ht)) fun d s' hd hs'=>by
    rw[p3 d (zm1 hB hd)] at hs'
    exact q4 d s' hd hs'
   refine⟨fF,_,_,_, ?_,p2.trans q2,hout,p4.cons hN c0 T0 hP hC⟩
   have e1:i+(o::os).length=i+1+os.length:=by simp;omega
   have e2: ¬ i+1+os.length=i:=by omega
   simp only[e1,e2,if_false]
   exact p1
  have go:(evE C Γ ops.toList N fl (nthN anc i) i fr h o fun s h=>zf1 (zar ops.toList i) s fun s=>zcp fr o.dst s fun fr=>xq C Γ ops.toList N fl anc (i+1) os fr h k)=some r→
    (∀ t∈qO o.op.operands.toList,t∈zp ops.toList o)→(∀ fF:List SV,(∀ t∈zp ops.toList o,fF[t]? =fr[t]?)→ ∀ E a,(∀ t∈zp ops.toList o,SatAt E fF a t)→Region.wanted o (yielded ops a.tmps)=true)→
    ∃ (fF:List SV) (H:Nat→List HO) (ch:Nat→Bool) (T:Nat→List Nat),(za7 (H (i+(o::os).length)) fF fun fr=>k fr (H (i+(o::os).length)))=some r∧fF.length=fr.length∧(∀ t,t∉opsDst (o::os)→fF[t]? =fr[t]?)∧
     Coll P C B N fl anc ops i (o::os) h fF H ch T:=by
   intro h0 hin hw
   obtain⟨s,h1,hk,hcase⟩:=zv8 (B:=B) hG hN h0
   obtain⟨s',h3,h4⟩:=ziq hk
   rcases hcase with ⟨e1,e2,T0,e3,e4,e5⟩|⟨e1,e2,e3,e4,U,e5,e6,e7,e8⟩
   ·refine behind (by rw[e1];exact hN) h3 fun fF hl hF hd=>⟨false,T0,fun _=>⟨e1,e2,e3, ?_,e4⟩,fun h=>by cases h⟩
    intro E hp a w K Q hh hg hsz hs hlen hT hn
    rw[if_pos (hw fF hF E a hs)]
    refine .inl (e5 fF hl (fun t ht=>hF t (hin t ht)) E hp a w K Q hh hg hsz (fun t ht=>hs t (hin t ht)) hlen hT fun E' v w' g1 g2 g3=>hn E' v w' g1 g2 fun d s2 hd' hs2=> ?_)
    rw[hd d s2 hd' hs2]
    exact h4 E' v g3
   ·refine behind e4 h3 fun fF hl hF hd=>⟨true,U,(fun h=>by cases h),fun _=>⟨e3,e5,e1,e2, ?_,e7,e6⟩⟩
    intro E a w K Q hh hg hsz hs hn
    rw[if_pos (hw fF hF E a hs)]
    refine .inl (e8 fF hl (fun t ht=>hF t (hin t ht)) E a w K Q hh hg hsz (fun t ht=>hs t (hin t ht)) fun E' v w' g1 g2 g3=>hn E' v w' g1 g2 fun d s2 hd' hs2=> ?_)
    rw[hd d s2 hd' hs2]
    exact h4 E' v g3
  have leave:(zcp fr o.dst .skip fun fr=>xq C Γ ops.toList N fl anc (i+1) os fr h k)=some r→
    (∀ fF:List SV,(∀ t∈zp ops.toList o,fF[t]? =fr[t]?)→ ∀ E a,(∀ t∈zp ops.toList o,SatAt E fF a t)→Region.wanted o (yielded ops a.tmps)=false)→
    ∃ (fF:List SV) (H:Nat→List HO) (ch:Nat→Bool) (T:Nat→List Nat),(za7 (H (i+(o::os).length)) fF fun fr=>k fr (H (i+(o::os).length)))=some r∧fF.length=fr.length∧(∀ t,t∉opsDst (o::os)→fF[t]? =fr[t]?)∧
     Coll P C B N fl anc ops i (o::os) h fF H ch T:=by
   intro h0 hw
   refine behind hN h0 fun fF hl hF hd=>⟨false, [],fun _=>⟨rfl,rfl, .inl ⟨rfl,rfl⟩, ?_,zus _ _⟩,fun h=>by cases h⟩
   intro E hp a w K Q hh hg hsz hs hlen hT hn
   rw[if_neg (by rw[hw fF hF E a hs];simp)]
   exact hn E undef w (Env.le_refl E) hh fun d s2 hd' hs2=>by rw[hd d s2 hd' hs2];simp[SV.sat]
  unfold xq at hr
  split at hr
  case h_1 hgd=>
   refine go hr (fun t ht=>by unfold zp;rw[hgd];exact ht) fun fF hF E a hs=>by simp[Region.wanted,hgd]
  case h_2 j want hgd=>
   split at hr
   case h_1=>cases hr
   case h_2 d hds=>
    replace hr:=ze hr;obtain⟨s,hs,hr⟩:=hr
    have hin: ∀ t∈qO o.op.operands.toList,t∈zp ops.toList o:=fun t ht=>by unfold zp;rw[hgd];simp only[hds];simp[ht]
    have hdl:d∈zp ops.toList o:=by unfold zp;rw[hgd];simp only[hds];simp
    split at hr
    case h_1 b=>
     have hw: ∀ fF:List SV,(∀ t∈zp ops.toList o,fF[t]? =fr[t]?)→ ∀ E a,(∀ t∈zp ops.toList o,SatAt E fF a t)→Region.wanted o (yielded ops a.tmps)=(b==want):=by
      intro fF hF E a hsat
      obtain⟨v,h1,h2⟩:=hsat d hdl (.bit b) (by rw[hF d hdl];exact hs)
      have:v= .bool b:=by simpa [SV.sat] using h2
      subst this
      exact qD hgd hds h1
     cases hb:(b==want) with
     |true=>rw[hb] at hr hw;exact go hr hin hw
     |false=>rw[hb] at hr hw;exact leave hr hw
    case h_2=>
     refine leave hr fun fF hF E a hsat=> ?_
     obtain⟨v,h1,h2⟩:=hsat d hdl .skip (by rw[hF d hdl];exact hs)
     have:v=undef:=by simpa [SV.sat] using h2
     subst this
     exact jv hgd hds h1
    case h_3=>cases hr
theorem zgf {b i:Nat}:bitN b i=true↔b.testBit i=true:=by
 unfold bitN Nat.testBit
 have e:Nat.land (Nat.shiftRight b i) 1=1 &&& (b >>> i):=Nat.and_comm _ _
 rw[e]
 constructor
 ·intro h
  have:=Nat.eq_of_beq_eq_true h
  rw[this];rfl
 ·intro h
  have h1:(1 &&& (b >>> i))≤1:=Nat.and_le_left
  have h2:(1 &&& (b >>> i))≠0:=by simpa using h
  have:(1 &&& (b >>> i))=1:=by omega
  rw[this];rfl
theorem zs8 {a b i:Nat} (h:bitN (Nat.lor a b) i=true):bitN a i=true∨bitN b i=true:=by
 rw[zgf] at h
 have h':(a ||| b).testBit i=true:=h
 rw[Nat.testBit_or,Bool.or_eq_true] at h'
 exact h'.imp zgf.2 zgf.2
theorem zvs {j i:Nat} (h:bitN (Nat.shiftLeft 1 j) i=true):i=j:=by
 rw[zgf] at h
 have h':(1 <<< j).testBit i=true:=h
 rw[Nat.testBit_shiftLeft] at h'
 simp only[Bool.and_eq_true,decide_eq_true_eq] at h'
 have:=h'.2
 rcases Nat.lt_or_ge j i with hlt|hge
 ·have:(1:Nat).testBit (i - j)=false:=by
   obtain⟨n,hn⟩: ∃ n,i - j=n+1:=⟨i - j - 1,by omega⟩
   rw[hn,Nat.testBit_succ];simp
  rw[this] at h';cases h'.2
 ·omega
theorem zjk {anc:List Nat} {i:Nat}: ∀ {l:List Edge},bitN (zmo anc l) i=true→ ∃ e∈l,Region.binds .any e=true∧(e.on=i∨bitN (nthN anc e.on) i=true)
 | [],h=>by simp[zmo,bitN] at h
 |e::l,h=>by
  unfold zmo at h
  have tail:bitN (zmo anc l) i=true→ ∃ e'∈e::l,Region.binds .any e'=true∧(e'.on=i∨bitN (nthN anc e'.on) i=true):=fun h=>by
   obtain⟨e',h1,h2⟩:=zjk h
   exact⟨e',by simp[h1],h2⟩
  cases hb:Region.binds .any e with
  |false=>rw[hb] at h;exact tail h
  |true=>
   rw[hb,cond_true] at h
   rcases zs8 h with h|h
   ·refine⟨e,by simp,hb, ?_⟩
    rcases zs8 h with h|h
    ·exact .inl (zvs h).symm
    ·exact .inr h
   ·exact tail h
theorem zjl {anc:List Nat}: ∀ {os:List Oper} {j:Nat},zq9 anc j os=true→ ∀ (m:Nat) (o:Oper),os[m]? =some o→nthN anc (j+m)=zmo anc o.after.toList
 | [],j,_,m,o,hm=>by simp at hm
 |x::os,j,h,m,o,hm=>by
  simp only[zq9,Bool.and_eq_true] at h
  cases m with
  |zero=>simp at hm;subst hm;exact Nat.eq_of_beq_eq_true h.1
  |succ m=>
   have:=zjl h.2 m o (by simpa using hm)
   rwa [show j+(m+1)=j+1+m by omega]
def Closed (ops:Array Oper) (listed:Array Bool):Prop:= ∀ (j:Nat) (o:Oper),ops[j]? =some o→listed.getD j false=true→ ∀ e∈o.after,Region.binds .any e=true→listed.getD e.on false=true
theorem zev {anc:List Nat} {ops:Array Oper} {listed:Array Bool} (hA:zq9 anc 0 ops.toList=true) (hE: ∀ (j:Nat) (o:Oper),ops[j]? =some o→ ∀ e∈o.after,Region.binds .any e=true→e.on<j) (hc:Closed ops listed):
  ∀ (j:Nat) (o:Oper),ops[j]? =some o→(∀ e∈o.after,Region.binds .any e=true→listed.getD e.on false=true)→ ∀ i,bitN (nthN anc j) i=true→listed.getD i false=true:=by
 intro j
 induction j using Nat.strongRecOn with
 |ind j ih=>
  intro o ho hw i hi
  have:=zjl hA j o (by simpa using ho)
  rw[Nat.zero_add] at this
  rw[this] at hi
  obtain⟨e,h1,h2,h3⟩:=zjk hi
  have h1':e∈o.after:=by simpa using h1
  have hl:=hw e h1' h2
  rcases h3 with h3|h3
  ·rw[← h3];exact hl
  ·have hlt:=hE j o ho e h1' h2
   have hjs:j<ops.size:=(Array.getElem?_eq_some_iff.1 ho).1
   have ho2:ops[e.on]? =some ops[e.on]:=by simp[Nat.lt_trans hlt hjs]
   exact ih e.on hlt _ ho2 (hc e.on _ ho2 hl) i h3
theorem zbo {all:List Oper} {fl anc:List Nat}: ∀ {os:List Oper} {j:Nat} {p:Option Nat},zew C all fl anc j p os=true→ ∀ (m:Nat) (o:Oper),os[m]? =some o→isEffX C all o=true→memN (j+m) fl=false→
  (∃ q,p=some q∧(∀ m' o',m'<m→os[m']? =some o'→ ¬ (isEffX C all o'=true∧memN (j+m') fl=false))∧bitN (nthN anc (j+m)) q=true)∨
  (p=none∧ ∀ m' o',m'<m→os[m']? =some o'→ ¬ (isEffX C all o'=true∧memN (j+m') fl=false))∨
  ∃ m' o',m'<m∧os[m']? =some o'∧isEffX C all o'=true∧memN (j+m') fl=false∧bitN (nthN anc (j+m)) (j+m')=true∧ ∀ n o'',m'<n→n<m→os[n]? =some o''→ ¬ (isEffX C all o''=true∧memN (j+n) fl=false)
 | [],j,p,_,m,o,hm,_,_=>by simp at hm
 |x::os,j,p,h,m,o,hm,he,hf=>by
  unfold zew at h
  cases hx:(isEffX C all x&& !memN j fl) with
  |true=>
   rw[hx,cond_true] at h
   simp only[Bool.and_eq_true,Bool.not_eq_true'] at h hx
   cases m with
   |zero=>
    simp at hm;subst hm
    cases p with
    |none=>exact .inr (.inl ⟨rfl,fun m' _ h=>by omega⟩)
    |some q=>exact .inl ⟨q,rfl,fun m' _ h=>by omega,h.1⟩
   |succ m=>
    have e:j+(m+1)=j+1+m:=by omega
    rw[e] at hf ⊢
    rcases zbo h.2 m o (by simpa using hm) he hf with ⟨q,g1,g2,g3⟩|⟨g1,_⟩|⟨m',o',g1,g2,g3,g4,g5,g6⟩
    ·cases g1
     refine .inr (.inr ⟨0,x,by omega,by simp,hx.1,hx.2,by simpa using g3,fun n o'' h1 h2 h3=> ?_⟩)
     obtain⟨n,rfl⟩: ∃ n',n=n'+1:=⟨n - 1,by omega⟩
     have:=g2 n o'' (by omega) (by simpa using h3)
     rwa [show j+(n+1)=j+1+n by omega]
    ·cases g1
    ·refine .inr (.inr ⟨m'+1,o',by omega,by simpa using g2,g3,by rw[show j+(m'+1)=j+1+m' by omega];exact g4,by rw[show j+(m'+1)=j+1+m' by omega];exact g5,fun n o'' h1 h2 h3=> ?_⟩)
     obtain⟨n,rfl⟩: ∃ n',n=n'+1:=⟨n - 1,by omega⟩
     have:=g6 n o'' (by omega) (by omega) (by simpa using h3)
     rwa [show j+(n+1)=j+1+n by omega]
  |false=>
   rw[hx,cond_false] at h
   have hxx: ¬ (isEffX C all x=true∧memN j fl=false):=fun hh=>by rw[hh.1,hh.2] at hx;cases hx
   cases m with
   |zero=>simp at hm;subst hm;exact absurd ⟨he,hf⟩ hxx
   |succ m=>
    have e:j+(m+1)=j+1+m:=by omega
    rw[e] at hf ⊢
    have shift: ∀ {n:Nat} {o':Oper},n<m+1→(x::os)[n]? =some o'→(∀ m' o',m'<m→os[m']? =some o'→ ¬ (isEffX C all o'=true∧memN (j+1+m') fl=false))→ ¬ (isEffX C all o'=true∧memN (j+n) fl=false):=by
     intro n o' h1 h2 h3
     cases n with
     |zero=>simp at h2;subst h2;exact hxx
     |succ n=>
      have:=h3 n o' (by omega) (by simpa using h2)
      rwa [show j+(n+1)=j+1+n by omega]
    rcases zbo h m o (by simpa using hm) he hf with ⟨q,g1,g2,g3⟩|⟨g1,g2⟩|⟨m',o',g1,g2,g3,g4,g5,g6⟩
    ·exact .inl ⟨q,g1,fun n o' h1 h2=>shift h1 h2 g2,g3⟩
    ·exact .inr (.inl ⟨g1,fun n o' h1 h2=>shift h1 h2 g2⟩)
    ·refine .inr (.inr ⟨m'+1,o',by omega,by simpa using g2,g3,by rw[show j+(m'+1)=j+1+m' by omega];exact g4,by rw[show j+(m'+1)=j+1+m' by omega];exact g5,fun n o'' h1 h2 h3=> ?_⟩)
     obtain⟨n,rfl⟩: ∃ n',n=n'+1:=⟨n - 1,by omega⟩
     have:=g6 n o'' (by omega) (by omega) (by simpa using h3)
     rwa [show j+(n+1)=j+1+n by omega]
theorem zfq {fl anc:List Nat} {ops:Array Oper} {listed:Array Bool} (hA:zq9 anc 0 ops.toList=true) (hE: ∀ (j:Nat) (o:Oper),ops[j]? =some o→ ∀ e∈o.after,Region.binds .any e=true→e.on<j) (hC:zew C ops.toList fl anc 0 none ops.toList=true) (hc:Closed ops listed):
  ∀ (j:Nat) (o:Oper),ops[j]? =some o→isEffX C ops.toList o=true→memN j fl=false→(∀ e∈o.after,Region.binds .any e=true→listed.getD e.on false=true)→
   ∀ (i:Nat) (x:Oper),i<j→ops[i]? =some x→isEffX C ops.toList x=true→memN i fl=false→listed.getD i false=true:=by
 intro j
 induction j using Nat.strongRecOn with
 |ind j ih=>
  intro o ho he hf hw i x hij hx hxe hxf
  rcases zbo hC j o (by simpa using ho) he (by rw[Nat.zero_add];exact hf) with ⟨q,g1,_⟩|⟨_,g2⟩|⟨m',o',g1,g2,g3,g4,g5,g6⟩
  ·cases g1
  ·exact absurd ⟨hxe,by rw[Nat.zero_add];exact hxf⟩ (g2 i x hij (by simpa using hx))
  ·rw[Nat.zero_add,Nat.zero_add] at g5
   have hl:=zev hA hE hc j o ho hw m' g5
   have ho':ops[m']? =some o':=by simpa using g2
   rcases Nat.lt_trichotomy i m' with h1|h1|h1
   ·exact ih m' g1 o' ho' g3 (by rw[Nat.zero_add] at g4;exact g4) (hc m' o' ho' hl) i x h1 hx hxe hxf
   ·rw[h1];exact hl
   ·exact absurd ⟨hxe,by rw[Nat.zero_add];exact hxf⟩ (g6 i x h1 hij (by simpa using hx))
end
end Go.Sx
