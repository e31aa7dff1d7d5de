/- The symbolic evaluator, part K: what is packed can be laid out again. -/
import Derived.Test.YtlppdabhaipbkaaGreatDoorSxJ
set_option linter.unusedVariables false
set_option linter.unusedSimpArgs false
namespace Go.Sx
open Go.RowKit
def pmLE (E:Env):PM→LE
 | .id i len=>match E.L[i]? with
  |some e=>⟨e.blk,len.getD e.len,e.cap,e.dead⟩
  |none=>⟨none,0,0,none⟩
 |_=>⟨none,0,0,none⟩
def bL (ρ:List Nat):List Sh→List DV→List SV×List DV
 | [],ds=>([],ds)
 | .hole _::ss,d::ds=>(.val d.t d.x::(bL ρ ss ds).1,(bL ρ ss ds).2)
 | .own j::ss,ds=>(.own (qH ρ j) none::(bL ρ ss ds).1,(bL ρ ss ds).2)
 | .ptr j off::ss,ds=>(.ptr (qH ρ j) off::(bL ρ ss ds).1,(bL ρ ss ds).2)
 | .nilp::ss,ds=>(.nilp::(bL ρ ss ds).1,(bL ρ ss ds).2)
 | .mp j::ss,ds=>(.mp (qH ρ j)::(bL ρ ss ds).1,(bL ρ ss ds).2)
 | .und::ss,ds=>(.und::(bL ρ ss ds).1,(bL ρ ss ds).2)
 | .hole _::_, []=>([], [])
 | .ro _::ss,d::ds=>(.ro d.t d.x::(bL ρ ss ds).1,(bL ρ ss ds).2)
 | .ro _::_, []=>([], [])
 | .fnc f n::ss,ds=>(.fn f ((bL ρ ss ds).1.take n)::(bL ρ ss ds).1.drop n,(bL ρ ss ds).2)
 | .agn n::ss,ds=>(.agg ((bL ρ ss ds).1.take n)::(bL ρ ss ds).1.drop n,(bL ρ ss ds).2)
def bO (ρ:List Nat):List OSh→List DV→List HO
 | [],_=> []
 | .gone::os,ds=> .gone::bO ρ os ds
 | .cells sl::os,ds=> .cells (bL ρ sl ds).1::bO ρ os (bL ρ sl ds).2
 | .arr T _::os,d::ds=>(match d with
  |⟨.sl e,xs⟩=> .arr T e xs::bO ρ os ds
  |_=> [])
 | .arr _ _::_, []=> []
 | .map _ _::os,d::ds=>(match d with
  |⟨.sl (.pair K V),es⟩=> .map K V es::bO ρ os ds
  |_=> [])
 | .map _ _::_, []=> []
section
variable {R:Type} {r:R} {P:Program} {C:Ctx} {B:Base} {E:Env} {fr:List SV} {hp:List HO} {a:Act} {w w':World} {o:Oper}
theorem zT {ρ:List Nat}: ∀ {ss:List Sh} {ds:List DV} {k:List SV→List DV→Option R},zr ρ ss ds k=some r→k (bL ρ ss ds).1 (bL ρ ss ds).2=some r
 | [],ds,k,h=>h
 | .hole t::ss,d::ds,k,h=>by
  unfold zr at h
  exact zT (k:=fun vs ds=>k (.val d.t d.x::vs) ds) h
 | .own j::ss,ds,k,h=>by
  unfold zr at h
  exact zT (k:=fun vs ds=>k (.own (qH ρ j) none::vs) ds) h
 | .ptr j off::ss,ds,k,h=>by
  unfold zr at h
  exact zT (k:=fun vs ds=>k (.ptr (qH ρ j) off::vs) ds) h
 | .nilp::ss,ds,k,h=>by
  unfold zr at h
  exact zT (k:=fun vs ds=>k (.nilp::vs) ds) h
 | .mp j::ss,ds,k,h=>by
  unfold zr at h
  exact zT (k:=fun vs ds=>k (.mp (qH ρ j)::vs) ds) h
 | .und::ss,ds,k,h=>by
  unfold zr at h
  exact zT (k:=fun vs ds=>k (.und::vs) ds) h
 | .hole t::ss, [],k,h=>by simp[zr] at h
 | .ro t::ss, [],k,h=>by simp[zr] at h
 | .fnc f n::ss,ds,k,h=>by
  unfold zr at h
  exact zT (k:=fun vs ds=>k (.fn f (vs.take n)::vs.drop n) ds) h
 | .agn n::ss,ds,k,h=>by
  unfold zr at h
  exact zT (k:=fun vs ds=>k (.agg (vs.take n)::vs.drop n) ds) h
 | .ro t::ss,d::ds,k,h=>by
  unfold zr at h
  exact zT (k:=fun vs ds=>k (.ro d.t d.x::vs) ds) h
theorem ja {ρ:List Nat}: ∀ {os:List OSh} {ds:List DV} {k:List HO→Option R},z5 ρ os ds k=some r→k (bO ρ os ds)=some r
 | [],ds,k,h=>h
 | .gone::os,ds,k,h=>by
  unfold z5 at h
  exact ja (k:=fun hs=>k (.gone::hs)) h
 | .cells sl::os,ds,k,h=>by
  unfold z5 at h
  have:=zT h
  exact ja (k:=fun hs=>k (.cells (bL ρ sl ds).1::hs)) this
 | .arr T t::os,d::ds,k,h=>by
  obtain⟨u,x⟩:=d
  unfold z5 at h
  cases u<;>try (cases h;done)
  rename_i e
  exact ja (k:=fun hs=>k (.arr T e x::hs)) h
 | .arr T t::os, [],k,h=>by simp[z5] at h
 | .map _ _::os,d::ds,k,h=>by
  obtain⟨u,x⟩:=d
  unfold z5 at h
  cases u<;>try (cases h;done)
  rename_i e
  cases e<;>try (cases h;done)
  rename_i K V
  exact ja (k:=fun hs=>k (.map K V x::hs)) h
 | .map _ _::os, [],k,h=>by simp[z5] at h
theorem zcj {ρ:List Nat} {sk:Skel} {ds:List DV} {k:List SV→List HO→Option R} (h:build ρ sk ds k=some r):k (bL ρ sk.slots ds).1 (bO ρ sk.objs (bL ρ sk.slots ds).2)=some r:=
 ja (k:=fun hs=>k _ hs) (zT (k:=fun vs ds=>z5 ρ sk.objs ds fun hs=>k vs hs) h)
theorem zgz {E:Env} {w:World} {e:LE} {ρ:List Nat}: ∀ {os:List OSh} {ds:List DV} {m:Nat} {o:HO},(bO ρ os ds)[m]? =some o→o.live=false→o.sat E w e
 | [],ds,m,o,h,hl=>by simp[bO] at h
 | .gone::os,ds,0,o,h,hl=>by simp[bO] at h;subst h;trivial
 | .gone::os,ds,m+1,o,h,hl=>zgz (os:=os) (ds:=ds) (m:=m) (by simpa [bO] using h) hl
 | .cells sl::os,ds,0,o,h,hl=>by simp[bO] at h;subst h;simp[HO.live] at hl
 | .cells sl::os,ds,m+1,o,h,hl=>zgz (os:=os) (m:=m) (by simpa [bO] using h) hl
 | .arr T t::os, [],m,o,h,hl=>by simp[bO] at h
 | .arr T t::os,d::ds,m,o,h,hl=>by
  unfold bO at h
  split at h
  ·cases m with
   |zero=>simp at h;subst h;simp[HO.live] at hl
   |succ m=>exact zgz (os:=os) (ds:=ds) (m:=m) (by simpa using h) hl
  ·simp at h
 | .map _ _::os, [],m,o,h,hl=>by simp[bO] at h
 | .map _ _::os,d::ds,m,o,h,hl=>by
  unfold bO at h
  split at h
  ·cases m with
   |zero=>simp at h;subst h;simp[HO.live] at hl
   |succ m=>exact zgz (os:=os) (ds:=ds) (m:=m) (by simpa using h) hl
  ·simp at h
theorem zp0 {w:World} {e:LE} {M:Mem} {ρ:List Nat} {os:List OSh} {ds:List DV} {m:Nat} {o:HO} (h:(bO ρ os ds)[m]? =some o) (hl:o.live=false):o.tok M w e∧o.tails w e= []:=by
 have:o= .gone:=by
  induction os generalizing ds m with
  |nil=>simp[bO] at h
  |cons x os ih=>
   cases x with
   |gone=>
    cases m with
    |zero=>simp[bO] at h;exact h.symm
    |succ m=>exact ih (by simpa [bO] using h)
   |cells sl=>
    cases m with
    |zero=>simp[bO] at h;subst h;simp[HO.live] at hl
    |succ m=>exact ih (by simpa [bO] using h)
   |arr T t=>
    cases ds with
    |nil=>simp[bO] at h
    |cons d ds=>
     unfold bO at h
     split at h
     ·cases m with
      |zero=>simp at h;subst h;simp[HO.live] at hl
      |succ m=>exact ih (by simpa using h)
     ·simp at h
   |map K V=>
    cases ds with
    |nil=>simp[bO] at h
    |cons d ds=>
     unfold bO at h
     split at h
     ·cases m with
      |zero=>simp at h;subst h;simp[HO.live] at hl
      |succ m=>exact ih (by simpa using h)
     ·simp at h
 subst this
 exact⟨trivial,rfl⟩
def zeu (mp mp':List PM):Prop:=mp'.length=mp.length∧ ∀ (j:Nat) (p:PM),mp[j]? =some p→p≠ .none→mp'[j]? =some p
theorem zeu.refl (mp:List PM):zeu mp mp:=⟨rfl,fun _ _ h _=>h⟩
theorem zeu.trans {a b c:List PM} (h:zeu a b) (k:zeu b c):zeu a c:=⟨k.1.trans h.1,fun j p hj hp=>k.2 j p (h.2 j p hj hp) hp⟩
def PMok (E:Env) (mp:List PM):Prop:= ∀ (j i:Nat) (len:Option Nat),mp[j]? =some (.id i len)→ ∃ e,E.L[i]? =some e∧len.getD e.len≤e.len
def Tgt (E:Env) (mp:List PM) (ρ:List Nat) (Et:Env):Prop:= ∀ (j:Nat) (p:PM),mp[j]? =some p→p≠ .none→Et.L[qH ρ j]? =some (pmLE E p)
theorem Tgt.mono {mp mp':List PM} {ρ:List Nat} {Et:Env} (h:zeu mp mp') (k:Tgt E mp' ρ Et):Tgt E mp ρ Et:=fun j p hj hp=>k j p (h.2 j p hj hp) hp
theorem PM.same_eq {p q:PM} (h:p.same q=true):p=q:=by
 cases p<;>cases q<;>simp_all [PM.same]
 rename_i i l j m
 cases l<;>cases m<;>simp_all [PM.same]
theorem zaj {mp:List PM} {j:Nat} {p:PM} {k:List PM→Option R} (hne:p≠ .none) (h:jB mp j p k=some r): ∃ mp':List PM,zeu mp mp'∧mp'[j]? =some p∧k mp'=some r∧ ∀ (m:Nat) (q:PM),mp'[m]? =some q→mp[m]? =some q∨q=p:=by
 unfold jB at h
 replace h:=ze h;obtain⟨q,h1,h⟩:=h
 split at h
 case h_1=>
  rw[zo] at h
  have hj:=(List.getElem?_eq_some_iff.1 h1).1
  refine⟨mp.set j p,⟨by simp,fun m q hm hq=> ?_⟩,by simp[hj],h,fun m q hm=> ?_⟩
  ·rw[List.getElem?_set]
   split
   ·rename_i hjm;subst hjm;rw[h1] at hm;cases hm;exact absurd rfl hq
   ·exact hm
  ·rw[List.getElem?_set] at hm
   by_cases hjm:j=m
   ·subst hjm
    simp[hj] at hm
    exact .inr hm.symm
   ·rw[if_neg hjm] at hm
    exact .inl hm
 case h_2=>
  cases hs:q.same p with
  |false=>rw[hs] at h;cases h
  |true=>
   rw[hs] at h
   have:=PM.same_eq hs
   subst this
   exact⟨mp,zeu.refl mp,h1,h,fun m q hm=> .inl hm⟩
theorem xA {E:Env}: ∀ {n:Nat} {l:List SV} {cs us:List Value},cs.length=n→SV.satL E l (cs++us)→SV.satL E (l.take n) cs∧SV.satL E (l.drop n) us
 |0,l,cs,us,h,hs=>by
  have:cs= []:=List.eq_nil_of_length_eq_zero h
  subst this
  exact⟨by simp[SV.satL],hs⟩
 |n+1,l, [],us,h,hs=>by simp at h
 |n+1, [],c::cs,us,h,hs=>by simp[SV.satL] at hs
 |n+1,s::l,c::cs,us,h,hs=>by
  simp only[List.cons_append,SV.satL] at hs
  obtain⟨v,ws,e,h1,h2⟩:=hs
  simp only[List.cons.injEq] at e
  obtain⟨rfl,rfl⟩:=e
  obtain⟨k1,k2⟩:=xA (n:=n) (by simpa using h) h2
  refine⟨?_,by simpa using k2⟩
  simp only[List.take_succ_cons,SV.satL]
  exact⟨_,_,rfl,h1,k1⟩
theorem zX: ∀ {ss:List Sh} {svs:List SV} {vals:List Value} {mp:List PM} {E:Env} {hp:List HO} {k:List PM→List DV→List HO→Option R},Hp B E hp w→SV.satL E svs vals→PMok E mp→zS ss svs mp hp k=some r→
  ∃ E' hp' mp' ds,Frz B E E' hp hp' w∧zeu mp mp'∧PMok E mp'∧k mp' ds hp'=some r∧
   ∀ (ρ:List Nat) (Et:Env) (rest:List DV),E'.M.le Et.M→Tgt E mp' ρ Et→(bL ρ ss (ds++rest)).2=rest∧SV.satL Et (bL ρ ss (ds++rest)).1 vals
 | [], [],vals,mp,E,hp,k,hh,hs,hm,h=>by
  have:vals= []:=by simpa [SV.satL] using hs
  subst this
  exact⟨E,hp,mp, [],Frz.refl hh,zeu.refl mp,hm,h,fun ρ Et rest _ _=>⟨rfl,by simp[bL,SV.satL]⟩⟩
 | .hole t::ss,v::svs,vals,mp,E,hp,k,hh,hs,hm,h=>by
  unfold zS at h
  simp only[SV.satL] at hs
  obtain⟨u,us,e,s1,s2⟩:=hs
  obtain⟨E1,hp1,x,f1,⟨cs,c1,c2⟩,h⟩:=zjt hh s1 h
  have hm1:PMok E1 mp:=fun j i len hj=>by rw[f1.L];exact hm j i len hj
  obtain⟨E2,hp2,mp2,ds,f2,p2,m2,h,hb⟩:=zX f1.heap (SV.satL_mono f1.le _ _ s2) hm1 h
  refine⟨E2,hp2,mp2,⟨t,x⟩::ds,f1.trans f2,p2,fun j i len hj=>by have:=m2 j i len hj;rwa [f1.L] at this,h,fun ρ Et rest hM ht=> ?_⟩
  have ht':Tgt E1 mp2 ρ Et:=fun j p hj hp=>by
   have:=ht j p hj hp
   rw[this];congr 1
   cases p<;>simp[pmLE,f1.L]
  obtain⟨b1,b2⟩:=hb ρ Et rest hM ht'
  refine⟨b1, ?_⟩
  simp only[List.cons_append,bL,SV.satL]
  exact⟨u,us,e,by simp only[SV.sat];exact⟨cs,zz (Mem.le_trans f2.le.1 hM) t x cs c1,c2⟩,b2⟩
 | .own j::ss,v::svs,vals,mp,E,hp,k,hh,hs,hm,h=>by
  unfold zS at h
  simp only[SV.satL] at hs
  obtain⟨u,us,e,s1,s2⟩:=hs
  split at h
  case h_3=>cases h
  case h_1 id len=>
   obtain⟨mp1,p1,q1,h,z1⟩:=zaj (by simp) h
   simp only[SV.sat] at s1
   obtain⟨le,e1,e2,e3⟩:=s1
   have hm1:PMok E mp1:=fun j' i' len' hj=>by
    rcases z1 j' _ hj with h1|h1
    ·exact hm j' i' len' h1
    ·cases h1;exact⟨le,e1,e2⟩
   obtain⟨E2,hp2,mp2,ds,f2,p2,m2,h,hb⟩:=zX hh s2 hm1 h
   refine⟨E2,hp2,mp2,ds,f2,p1.trans p2,m2,h,fun ρ Et rest hM ht=> ?_⟩
   obtain⟨b1,b2⟩:=hb ρ Et rest hM ht
   refine⟨b1, ?_⟩
   have hL:=ht j _ (p2.2 j _ q1 (by simp)) (by simp)
   simp only[pmLE,e1] at hL
   simp only[bL,SV.satL]
   refine⟨u,us,e, ?_,b2⟩
   simp only[SV.sat]
   exact⟨_,hL,by simp,by rw[e3];rfl⟩
  case h_2=>
   obtain⟨mp1,p1,q1,h,z1⟩:=zaj (by simp) h
   have e3:u= .slice none 0 0:=by simpa [SV.sat] using s1
   have hm1:PMok E mp1:=fun j' i' len' hj=>by
    rcases z1 j' _ hj with h1|h1
    ·exact hm j' i' len' h1
    ·cases h1
   obtain⟨E2,hp2,mp2,ds,f2,p2,m2,h,hb⟩:=zX hh s2 hm1 h
   refine⟨E2,hp2,mp2,ds,f2,p1.trans p2,m2,h,fun ρ Et rest hM ht=> ?_⟩
   obtain⟨b1,b2⟩:=hb ρ Et rest hM ht
   refine⟨b1, ?_⟩
   have hL:=ht j _ (p2.2 j _ q1 (by simp)) (by simp)
   simp only[bL,SV.satL]
   refine⟨u,us,e, ?_,b2⟩
   simp only[SV.sat]
   exact⟨_,hL,by simp,by rw[e3];rfl⟩
 | .ptr j off::ss,v::svs,vals,mp,E,hp,k,hh,hs,hm,h=>by
  unfold zS at h
  simp only[SV.satL] at hs
  obtain⟨u,us,e,s1,s2⟩:=hs
  split at h
  case h_2=>cases h
  case h_1 id o'=>
   cases ho:Nat.beq o' off with
   |false=>rw[ho] at h;cases h
   |true=>
    have:=Nat.eq_of_beq_eq_true ho
    subst this
    rw[ho,cond_true] at h
    obtain⟨mp1,p1,q1,h,z1⟩:=zaj (by simp) h
    simp only[SV.sat] at s1
    obtain⟨le,b,e1,e2,e3⟩:=s1
    have hm1:PMok E mp1:=fun j' i' len' hj=>by
     rcases z1 j' _ hj with h1|h1
     ·exact hm j' i' len' h1
     ·cases h1;exact⟨le,e1,by simp⟩
    obtain⟨E2,hp2,mp2,ds,f2,p2,m2,h,hb⟩:=zX hh s2 hm1 h
    refine⟨E2,hp2,mp2,ds,f2,p1.trans p2,m2,h,fun ρ Et rest hM ht=> ?_⟩
    obtain⟨b1,b2⟩:=hb ρ Et rest hM ht
    refine⟨b1, ?_⟩
    have hL:=ht j _ (p2.2 j _ q1 (by simp)) (by simp)
    simp only[pmLE,e1] at hL
    simp only[bL,SV.satL]
    refine⟨u,us,e, ?_,b2⟩
    simp only[SV.sat]
    exact⟨_,b,hL,e2,e3⟩
 | .mp j::ss,v::svs,vals,mp,E,hp,k,hh,hs,hm,h=>by
  unfold zS at h
  simp only[SV.satL] at hs
  obtain⟨u,us,e,s1,s2⟩:=hs
  split at h
  case h_2=>cases h
  case h_1 id=>
   obtain⟨mp1,p1,q1,h,z1⟩:=zaj (by simp) h
   simp only[SV.sat] at s1
   obtain⟨le,b,e1,e2,e3⟩:=s1
   have hm1:PMok E mp1:=fun j' i' len' hj=>by
    rcases z1 j' _ hj with h1|h1
    ·exact hm j' i' len' h1
    ·cases h1;exact⟨le,e1,by simp⟩
   obtain⟨E2,hp2,mp2,ds,f2,p2,m2,h,hb⟩:=zX hh s2 hm1 h
   refine⟨E2,hp2,mp2,ds,f2,p1.trans p2,m2,h,fun ρ Et rest hM ht=> ?_⟩
   obtain⟨b1,b2⟩:=hb ρ Et rest hM ht
   refine⟨b1, ?_⟩
   have hL:=ht j _ (p2.2 j _ q1 (by simp)) (by simp)
   simp only[pmLE,e1] at hL
   simp only[bL,SV.satL]
   refine⟨u,us,e, ?_,b2⟩
   simp only[SV.sat]
   exact⟨_,b,hL,e2,e3⟩
 | .mp _::_, [],_,_,_,_,_,_,_,_,h=>by simp[zS] at h
 | .nilp::ss,v::svs,vals,mp,E,hp,k,hh,hs,hm,h=>by
  unfold zS at h
  simp only[SV.satL] at hs
  obtain⟨u,us,e,s1,s2⟩:=hs
  split at h
  case h_2=>cases h
  case h_1=>
   obtain⟨E2,hp2,mp2,ds,f2,p2,m2,h,hb⟩:=zX hh s2 hm h
   refine⟨E2,hp2,mp2,ds,f2,p2,m2,h,fun ρ Et rest hM ht=> ?_⟩
   obtain⟨b1,b2⟩:=hb ρ Et rest hM ht
   refine⟨b1, ?_⟩
   simp only[bL,SV.satL]
   exact⟨u,us,e,by simpa [SV.sat] using s1,b2⟩
 | .und::ss,v::svs,vals,mp,E,hp,k,hh,hs,hm,h=>by
  unfold zS at h
  simp only[SV.satL] at hs
  obtain⟨u,us,e,s1,s2⟩:=hs
  obtain⟨E2,hp2,mp2,ds,f2,p2,m2,h,hb⟩:=zX hh s2 hm h
  refine⟨E2,hp2,mp2,ds,f2,p2,m2,h,fun ρ Et rest hM ht=> ?_⟩
  obtain⟨b1,b2⟩:=hb ρ Et rest hM ht
  refine⟨b1, ?_⟩
  simp only[bL,SV.satL]
  exact⟨u,us,e,by simp[SV.sat],b2⟩
 | .ro t::ss,v::svs,vals,mp,E,hp,k,hh,hs,hm,h=>by
  unfold zS at h
  simp only[SV.satL] at hs
  obtain⟨u,us,e,s1,s2⟩:=hs
  obtain⟨E1,hp1,x,f1,c1,h⟩:=zw2 hh s1 h
  have hm1:PMok E1 mp:=fun j i len hj=>by rw[f1.L];exact hm j i len hj
  obtain⟨E2,hp2,mp2,ds,f2,p2,m2,h,hb⟩:=zX f1.heap (SV.satL_mono f1.le _ _ s2) hm1 h
  refine⟨E2,hp2,mp2,⟨t,x⟩::ds,f1.trans f2,p2,fun j i len hj=>by have:=m2 j i len hj;rwa [f1.L] at this,h,fun ρ Et rest hM ht=> ?_⟩
  have ht':Tgt E1 mp2 ρ Et:=fun j p hj hp=>by
   have:=ht j p hj hp
   rw[this];congr 1
   cases p<;>simp[pmLE,f1.L]
  obtain⟨b1,b2⟩:=hb ρ Et rest hM ht'
  refine⟨b1, ?_⟩
  simp only[List.cons_append,bL,SV.satL]
  refine⟨u,us,e, ?_,b2⟩
  simp only[SV.sat] at c1 ⊢
  obtain⟨b,off,d,d1,d2,d3⟩:=c1
  have hle:=Mem.le_trans f2.le.1 hM
  exact⟨b,off,d,d1,Mem.seg_mono hle d2,zz hle t x d d3⟩
 | .ro _::_, [],_,_,_,_,_,_,_,_,h=>by simp[zS] at h
 | .fnc _ _::_, [],_,_,_,_,_,_,_,_,h=>by simp[zS] at h
 | .fnc f n::ss,v::svs,vals,mp,E,hp,k,hh,hs,hm,h=>by
  unfold zS at h
  simp only[SV.satL] at hs
  obtain⟨u,us,e,s1,s2⟩:=hs
  split at h
  case h_2=>cases h
  case h_1 g l=>
   cases hc:(Nat.beq g f&&Nat.beq l.length n) with
   |false=>rw[hc] at h;cases h
   |true=>
    rw[hc,cond_true] at h
    simp only[Bool.and_eq_true] at hc
    have e1:=Nat.eq_of_beq_eq_true hc.1
    have e2:=Nat.eq_of_beq_eq_true hc.2
    subst e1
    simp only[SV.sat] at s1
    obtain⟨cs,c1,c2⟩:=s1
    obtain⟨E2,hp2,mp2,ds,f2,p2,m2,h,hb⟩:=zX hh (SV.satL_append c2 s2) hm h
    refine⟨E2,hp2,mp2,ds,f2,p2,m2,h,fun ρ Et rest hM ht=> ?_⟩
    obtain⟨b1,b2⟩:=hb ρ Et rest hM ht
    refine⟨b1, ?_⟩
    obtain⟨k1,k2⟩:=xA (n:=n) (by rw[SV.satL_length c2,e2]) b2
    simp only[bL,SV.satL]
    exact⟨u,us,e,by simp only[SV.sat];exact⟨cs,c1,k1⟩,k2⟩
 | .agn _::_, [],_,_,_,_,_,_,_,_,h=>by simp[zS] at h
 | .agn n::ss,v::svs,vals,mp,E,hp,k,hh,hs,hm,h=>by
  unfold zS at h
  simp only[SV.satL] at hs
  obtain⟨u,us,e,s1,s2⟩:=hs
  split at h
  case h_2=>cases h
  case h_1 l=>
   cases hc:Nat.beq l.length n with
   |false=>rw[hc] at h;cases h
   |true=>
    rw[hc,cond_true] at h
    have e2:=Nat.eq_of_beq_eq_true hc
    simp only[SV.sat] at s1
    obtain⟨cs,c1,c2⟩:=s1
    obtain⟨E2,hp2,mp2,ds,f2,p2,m2,h,hb⟩:=zX hh (SV.satL_append c2 s2) hm h
    refine⟨E2,hp2,mp2,ds,f2,p2,m2,h,fun ρ Et rest hM ht=> ?_⟩
    obtain⟨b1,b2⟩:=hb ρ Et rest hM ht
    refine⟨b1, ?_⟩
    obtain⟨k1,k2⟩:=xA (n:=n) (by rw[SV.satL_length c2,e2]) b2
    simp only[bL,SV.satL]
    exact⟨u,us,e,by simp only[SV.sat];exact⟨cs,c1,k1⟩,k2⟩
 | [],_::_,_,_,_,_,_,_,_,_,h=>by simp[zS] at h
 | .hole _::_, [],_,_,_,_,_,_,_,_,h=>by simp[zS] at h
 | .own _::_, [],_,_,_,_,_,_,_,_,h=>by simp[zS] at h
 | .ptr _ _::_, [],_,_,_,_,_,_,_,_,h=>by simp[zS] at h
 | .nilp::_, [],_,_,_,_,_,_,_,_,h=>by simp[zS] at h
 | .und::_, [],_,_,_,_,_,_,_,_,h=>by simp[zS] at h
theorem zkz: ∀ (l m:List DV),zrb l m=l++m
 | [],_=>rfl
 |d::l,m=>by rw[zrb,zkz l m];rfl
theorem Tgt.frz {mp:List PM} {ρ:List Nat} {Et E':Env} (hL:E'.L=E.L) (h:Tgt E mp ρ Et):Tgt E' mp ρ Et:=fun j p hj hp=>by
 rw[h j p hj hp];congr 1
 cases p<;>simp[pmLE,hL]
def LayOk (E E':Env) (hp:List HO) (w:World) (M:Mem) (o:HO) (p:PM):Prop:=
 ((∀ b c,E'.M b=some c→M b=some c)→o.tok M w (pmLE E p))∧(o.tails w (pmLE E p)).Nodup∧ ∀ b∈o.tails w (pmLE E p), ∃ i len o' e',p= .id i len∧hp[i]? =some o'∧E.L[i]? =some e'∧b∈o'.tails w e'
theorem LayOk.plain {E E':Env} {hp:List HO} {M:Mem} {o:HO} {p:PM} (h: ∀ e,o.tok M w e∧o.tails w e= []):LayOk E E' hp w M o p:=
 ⟨fun _=>(h _).1,by rw[(h _).2];exact List.nodup_nil,fun b hb=>by rw[(h _).2] at hb;simp at hb⟩
theorem LayOk.frz {E E1 E':Env} {hp hp1:List HO} {M:Mem} {o:HO} {p:PM} (f:Frz B E E1 hp hp1 w) (h:LayOk E1 E' hp1 w M o p):LayOk E E' hp w M o p:=by
 have e1:pmLE E1 p=pmLE E p:=by cases p<;>simp[pmLE,f.L]
 unfold LayOk at h ⊢
 rw[e1] at h
 refine⟨h.1,h.2.1,fun b hb=> ?_⟩
 obtain⟨i,len,o',e',h1,h2,h3,h4⟩:=h.2.2 b hb
 refine⟨i,len,o',e',h1, ?_,by rw[← f.L];exact h3,h4⟩
 rcases f.obj i with h5|⟨o2,h5,h6⟩
 ·rw[← h5];exact h2
 ·rw[h2] at h5
  cases h5
  rw[h6.2] at h4;simp at h4
theorem xy: ∀ {os:List OSh} {j:Nat} {mp:List PM} {E:Env} {hp:List HO} {k:List PM→List DV→List HO→Option R},Hp B E hp w→PMok E mp→xJ j os mp hp k=some r→
  ∃ E' hp' mp' ds,Frz B E E' hp hp' w∧zeu mp mp'∧PMok E mp'∧k mp' ds hp'=some r∧
   ∀ (ρ:List Nat) (Et:Env) (rest:List DV),E'.M.le Et.M→Tgt E mp' ρ Et→(bO ρ os (ds++rest)).length=os.length∧
    ∀ (m:Nat) (o:HO),(bO ρ os (ds++rest))[m]? =some o→(o.live=true→ ∃ p,mp'[j+m]? =some p∧p≠ .none∧o.sat Et w (pmLE E p)∧LayOk E E' hp w Et.M o p)∧(o.live=false↔os[m]? =some .gone)
 | [],j,mp,E,hp,k,hh,hm,h=>⟨E,hp,mp, [],Frz.refl hh,zeu.refl mp,hm,h,fun ρ Et rest _ _=>⟨by simp[bO],fun m o ho=>by simp[bO] at ho⟩⟩
 | .gone::os,j,mp,E,hp,k,hh,hm,h=>by
  unfold xJ at h
  obtain⟨E2,hp2,mp2,ds,f2,p2,m2,h,hb⟩:=xy hh hm h
  refine⟨E2,hp2,mp2,ds,f2,p2,m2,h,fun ρ Et rest hM ht=> ?_⟩
  obtain⟨b1,b2⟩:=hb ρ Et rest hM ht
  refine⟨by simp[bO,b1],fun m o ho=> ?_⟩
  cases m with
  |zero=>simp[bO] at ho;subst ho;exact⟨fun hl=>by simp[HO.live] at hl,by simp[HO.live]⟩
  |succ m=>
   simp only[bO,List.getElem?_cons_succ] at ho
   obtain⟨c1,c2⟩:=b2 m o ho
   exact⟨fun hl=>by have:=c1 hl;rwa [show j+(m+1)=j+1+m by omega],by simpa using c2⟩
 | .cells sl::os,j,mp,E,hp,k,hh,hm,h=>by
  unfold xJ at h
  replace h:=ze h;obtain⟨p,hp1,h⟩:=h
  split at h
  case h_2=>cases h
  case h_1 i=>
   replace h:=ze h;obtain⟨ob,ho1,h⟩:=h
   split at h
   case h_2=>cases h
   case h_1 l=>
    obtain⟨le,e1,_⟩:=hm j i none hp1
    have hob:=hh.ob _ _ _ ho1 e1
    obtain⟨b,c,T,g1,g2,g3⟩:=hob
    obtain⟨E1,hp1',mp1,ds1,f1,x1,m1,h,hb1⟩:=zX hh g3 hm h
    have m1':PMok E1 mp1:=fun j i len hj=>by rw[f1.L];exact m1 j i len hj
    obtain⟨E2,hp2,mp2,ds2,f2,x2,m2,h,hb2⟩:=xy f1.heap m1' h
    refine⟨E2,hp2,mp2,zrb ds1 ds2,f1.trans f2,x1.trans x2,fun j i len hj=>by have:=m2 j i len hj;rwa [f1.L] at this,h,fun ρ Et rest hM ht=> ?_⟩
    rw[zkz,List.append_assoc]
    obtain⟨b1,b2⟩:=hb1 ρ Et (ds2++rest) (Mem.le_trans f2.le.1 hM) (ht.mono x2)
    obtain⟨b3,b4⟩:=hb2 ρ Et rest hM (ht.frz f1.L)
    simp only[bO,b1]
    refine⟨by simp[b3],fun m o ho=> ?_⟩
    cases m with
    |zero=>
     simp at ho
     subst ho
     refine⟨fun _=>⟨_,(x1.trans x2).2 j _ hp1 (by simp),by simp, ?_,LayOk.plain fun _=>⟨trivial,rfl⟩⟩,by simp[HO.live]⟩
     simp only[pmLE,e1]
     exact⟨b,c,T,g1,g2,b2⟩
    |succ m=>
     simp only[List.getElem?_cons_succ] at ho
     obtain⟨c1,c2⟩:=b4 m o ho
     refine⟨fun hl=> ?_,by simpa using c2⟩
     obtain⟨p,q1,q2,q3,q4⟩:=c1 hl
     refine⟨p,by rwa [show j+(m+1)=j+1+m by omega],q2, ?_,q4.frz f1⟩
     have:pmLE E1 p=pmLE E p:=by cases p<;>simp[pmLE,f1.L]
     rwa [this] at q3
 | .arr T t::os,j,mp,E,hp,k,hh,hm,h=>by
  unfold xJ at h
  replace h:=ze h;obtain⟨p,hp1,h⟩:=h
  split at h
  case h_3=>cases h
  case h_1=>
   obtain⟨E2,hp2,mp2,ds2,f2,x2,m2,h,hb2⟩:=xy hh hm h
   refine⟨E2,hp2,mp2,_,f2,x2,m2,h,fun ρ Et rest hM ht=> ?_⟩
   obtain⟨b3,b4⟩:=hb2 ρ Et rest hM ht
   simp only[List.cons_append,bO]
   refine⟨by simp[b3],fun m o ho=> ?_⟩
   cases m with
   |zero=>
    simp at ho
    subst ho
    refine⟨fun _=>⟨_,x2.2 j _ hp1 (by simp),by simp, ?_,(fun _=>(HO.tok_nil rfl).1),by rw[(HO.tok_nil (M:=Et.M) rfl).2];exact List.nodup_nil,fun b hb=>by rw[(HO.tok_nil (M:=Et.M) rfl).2] at hb;simp at hb⟩,by simp[HO.live]⟩
    exact⟨rfl,Nat.le_refl _,Nat.zero_le _,fun _=>rfl,fun b hb=>by cases hb⟩
   |succ m=>
    simp only[List.getElem?_cons_succ] at ho
    obtain⟨c1,c2⟩:=b4 m o ho
    exact⟨fun hl=>by have:=c1 hl;rwa [show j+(m+1)=j+1+m by omega],by simpa using c2⟩
  case h_2 i len=>
   replace h:=ze h;obtain⟨ob,ho1,h⟩:=h
   split at h
   case h_2=>cases h
   case h_1 T' t' xs=>
    cases hT:Nat.beq T' T with
    |false=>rw[hT] at h;cases h
    |true=>
     have:=Nat.eq_of_beq_eq_true hT
     subst this
     rw[hT,cond_true] at h
     split at h
     case isFalse=>cases h
     case isTrue ht'=>
      subst ht'
      obtain⟨le,e1,e2⟩:=hm j i len hp1
      have hob:=hh.ob _ _ _ ho1 e1
      obtain⟨g1,g2,g3,g4,g5⟩:=hob
      obtain⟨E2,hp2,mp2,ds2,f2,x2,m2,h,hb2⟩:=xy hh hm h
      refine⟨E2,hp2,mp2,_,f2,x2,m2,h,fun ρ Et rest hM ht=> ?_⟩
      obtain⟨b3,b4⟩:=hb2 ρ Et rest hM ht
      simp only[List.cons_append,bO]
      refine⟨by simp[b3],fun m o ho=> ?_⟩
      cases m with
      |zero=>
       simp at ho
       subst ho
       refine⟨fun _=>⟨_,x2.2 j _ hp1 (by simp),by simp, ?_, ?_⟩,by simp[HO.live]⟩
       rotate_left
       ·have htk:zL xs len=xs.take (len.getD le.len):=by
         cases len with
         |none=>simp[zL, ← g1]
         |some n=>rfl
        obtain⟨t1,t2,t3⟩:=hh.tok _ _ _ ho1 e1
        have hpl:pmLE E (.id i len)=⟨le.blk,len.getD le.len,le.cap,le.dead⟩:=by simp[pmLE,e1]
        have htl: ∃ l,(HO.arr T' t' xs).tails w le=(HO.arr T' t' (zL xs len)).tails w (pmLE E (.id i len))++l:=by
         rw[hpl,htk]
         simp only[HO.tails]
         cases le.blk with
         |none=>exact⟨[],rfl⟩
         |some b=>
          dsimp only
          split
          ·exact za6 _ _ _
          ·exact⟨[],rfl⟩
        obtain⟨l,htl⟩:=htl
        refine⟨fun hkeep=> ?_, ?_,fun b hb=>⟨i,len,_,_,rfl,ho1,e1,by rw[htl];exact List.mem_append.2 (.inl hb)⟩⟩
        ·have:=(HO.tok_keep (w:=w) (w':=w) (Mem.le_of fun b c hb=>hkeep b c (f2.keep b c hb)) (fun _ _ _=>rfl) (fun b hb=>⟨rfl,by
          obtain⟨c,hc⟩:=hh.tail_some ho1 e1 hb
          rw[hc];exact hkeep b c (f2.keep b c hc)⟩) t1).1
         rw[hpl,htk]
         exact fun b c U f hb hc=>zdu _ _ _ (this b c U f hb hc)
        ·rw[htl] at t2
         exact(List.nodup_append.1 t2).1
       have htk:zL xs len=xs.take (len.getD le.len):=by
        cases len with
        |none=>simp[zL, ← g1]
        |some n=>rfl
       have hlen:(zL xs len).length=len.getD le.len:=by rw[qC xs len (by rw[g1];exact e2),g1]
       simp only[pmLE,e1]
       refine⟨hlen,by simp only;omega,g3,g4,fun b hb=> ?_⟩
       obtain⟨c,d,post,k1,k2,k3,k4⟩:=g5 b hb
       obtain⟨c1,d1,q1,q2,q3,q4⟩:=qc (zc t') (len.getD le.len) k3
       exact⟨c,c1,d1++post,k1,by rw[k2,q1];simp,by rw[htk];exact zR (fun x cs hx=>zz (Mem.le_trans f2.le.1 hM) t' x cs hx) q2,k4⟩
      |succ m=>
       simp only[List.getElem?_cons_succ] at ho
       obtain⟨c1,c2⟩:=b4 m o ho
       exact⟨fun hl=>by have:=c1 hl;rwa [show j+(m+1)=j+1+m by omega],by simpa using c2⟩
 | .map K V::os,j,mp,E,hp,k,hh,hm,h=>by
  unfold xJ at h
  replace h:=ze h;obtain⟨p,hp1,h⟩:=h
  split at h
  case h_2=>cases h
  case h_1 i=>
   replace h:=ze h;obtain⟨ob,ho1,h⟩:=h
   split at h
   case h_2=>cases h
   case h_1 K' V' es=>
    replace h:=zB h;obtain⟨⟨hK,hV⟩,h⟩:=h
    subst hK
    subst hV
    obtain⟨le,e1,e2⟩:=hm j i none hp1
    obtain⟨b,arr,clock,g1,g2,g3⟩:=hh.ob _ _ _ ho1 e1
    obtain⟨E2,hp2,mp2,ds2,f2,x2,m2,h,hb2⟩:=xy hh hm h
    refine⟨E2,hp2,mp2,_,f2,x2,m2,h,fun ρ Et rest hM ht=> ?_⟩
    obtain⟨b3,b4⟩:=hb2 ρ Et rest hM ht
    simp only[List.cons_append,bO]
    refine⟨by simp[b3],fun m o ho=> ?_⟩
    cases m with
    |zero=>
     simp at ho
     subst ho
     refine⟨fun _=>⟨_,x2.2 j _ hp1 (by simp),by simp, ?_,LayOk.plain fun _=>⟨trivial,rfl⟩⟩,by simp[HO.live]⟩
     simp only[pmLE,e1]
     exact⟨b,arr,clock,g1,g2,zdr (Mem.le_trans f2.le.1 hM) g3.1,g3.2⟩
    |succ m=>
     simp only[List.getElem?_cons_succ] at ho
     obtain⟨c1,c2⟩:=b4 m o ho
     exact⟨fun hl=>by have:=c1 hl;rwa [show j+(m+1)=j+1+m by omega],by simpa using c2⟩
theorem xc: ∀ (n i j:Nat),j<n→qH (zO n i) j=i+j
 |0,i,j,h=>by omega
 |n+1,i,0,h=>by simp[zO,qH]
 |n+1,i,j+1,h=>by
  simp only[zO,qH]
  rw[xc n (i+1) j (by omega)];omega
theorem za5: ∀ (n j:Nat) (os:List OSh),(qW n j os).length=os.length
 |_,_, []=>by simp[qW]
 |0,j,o::os=>by simp[qW,za5 0 j os]
 |n+1,j,o::os=>by simp[qW,za5 n (j+1) os]
theorem za4: ∀ (n j:Nat) (os:List OSh) (m:Nat) (p:PM),(qW n j os)[m]? =some p→(m<n∧p= .id (j+m) none)∨(n≤m∧p= .none)
 |_,_, [],m,p,h=>by simp[qW] at h
 |0,j,o::os,0,p,h=>by simp[qW] at h;exact .inr ⟨Nat.le_refl _,h.symm⟩
 |0,j,o::os,m+1,p,h=>by
  simp only[qW,List.getElem?_cons_succ] at h
  rcases za4 0 j os m p h with ⟨h1,_⟩|⟨_,h2⟩
  ·omega
  ·exact .inr ⟨by omega,h2⟩
 |n+1,j,o::os,0,p,h=>by simp[qW] at h;exact .inl ⟨by omega,by rw[← h];rfl⟩
 |n+1,j,o::os,m+1,p,h=>by
  simp only[qW,List.getElem?_cons_succ] at h
  rcases za4 n (j+1) os m p h with ⟨h1,h2⟩|⟨h1,h2⟩
  ·exact .inl ⟨by omega,by rw[h2];congr 1;omega⟩
  ·exact .inr ⟨by omega,h2⟩
theorem zj5 {x:Option R}: ∀ {l:List Nat} {hp:List HO},zr4 l hp x=some r→x=some r∧ ∀ i∈l, ∃ o,hp[i]? =some o∧o.live=true
 | [],hp,h=>⟨h,by simp⟩
 |i::l,hp,h=>by
  unfold zr4 at h
  replace h:=ze h;obtain⟨o,h1,h⟩:=h
  cases hl:o.live with
  |false=>rw[hl] at h;cases h
  |true=>
   rw[hl,cond_true] at h
   obtain⟨h2,h3⟩:=zj5 h
   refine⟨h2,fun m hm=> ?_⟩
   rcases List.mem_cons.1 hm with hm|hm
   ·subst hm;exact⟨o,h1,hl⟩
   ·exact h3 m hm
theorem zj9 {n:Nat}: ∀ {l:List Nat},zww n l=true→n∉l
 | [],_=>by simp
 |m::l,h=>by
  unfold zww at h
  cases hb:Nat.beq n m with
  |true=>rw[hb] at h;cases h
  |false=>
   rw[hb,cond_false] at h
   intro hm
   rcases List.mem_cons.1 hm with hm|hm
   ·subst hm;simp at hb
   ·exact zj9 h hm
theorem zb4: ∀ {os:List OSh} {mp:List PM},znr (zA os mp)=true→
  (∀ (j i:Nat) (len:Option Nat) (s:OSh),os[j]? =some s→s≠ .gone→mp[j]? =some (.id i len)→i∈zA os mp)∧
  ∀ (j1 j2 i:Nat) (l1 l2:Option Nat) (s1 s2:OSh),os[j1]? =some s1→s1≠ .gone→os[j2]? =some s2→s2≠ .gone→mp[j1]? =some (.id i l1)→mp[j2]? =some (.id i l2)→j1=j2
 | [],mp,_=>⟨fun j i len s h=>by simp at h,fun j1 j2 i l1 l2 s1 s2 h=>by simp at h⟩
 |s::os, [],_=>⟨fun j i len s h _ h2=>by simp at h2,fun j1 j2 i l1 l2 s1 s2 h _ _ _ h2=>by simp at h2⟩
 |s::os,p::mp,hn=>by
  have key: ∀ (l:List Nat),(zA (s::os) (p::mp)=l∧l=zA os mp∧(s= .gone∨ ∀ i len,p≠ .id i len))∨
    (∃ i len,p= .id i len∧s≠ .gone∧zA (s::os) (p::mp)=i::zA os mp)∨zA (s::os) (p::mp)≠l:=by
   intro l
   cases s with
   |gone=>by_cases hl:zA os mp=l
          ·exact .inl ⟨by simpa [zA] using hl,hl.symm, .inl rfl⟩
          ·exact .inr (.inr (by simpa [zA] using hl))
   |cells sl=>cases p with
    |id i len=>exact .inr (.inl ⟨i,len,rfl,by simp,by simp[zA]⟩)
    |none=>by_cases hl:zA os mp=l
           ·exact .inl ⟨by simpa [zA] using hl,hl.symm, .inr (by simp)⟩
           ·exact .inr (.inr (by simpa [zA] using hl))
    |nil=>by_cases hl:zA os mp=l
          ·exact .inl ⟨by simpa [zA] using hl,hl.symm, .inr (by simp)⟩
          ·exact .inr (.inr (by simpa [zA] using hl))
   |arr T t=>cases p with
    |id i len=>exact .inr (.inl ⟨i,len,rfl,by simp,by simp[zA]⟩)
    |none=>by_cases hl:zA os mp=l
           ·exact .inl ⟨by simpa [zA] using hl,hl.symm, .inr (by simp)⟩
           ·exact .inr (.inr (by simpa [zA] using hl))
    |nil=>by_cases hl:zA os mp=l
          ·exact .inl ⟨by simpa [zA] using hl,hl.symm, .inr (by simp)⟩
          ·exact .inr (.inr (by simpa [zA] using hl))
   |map K V=>cases p with
    |id i len=>exact .inr (.inl ⟨i,len,rfl,by simp,by simp[zA]⟩)
    |none=>by_cases hl:zA os mp=l
           ·exact .inl ⟨by simpa [zA] using hl,hl.symm, .inr (by simp)⟩
           ·exact .inr (.inr (by simpa [zA] using hl))
    |nil=>by_cases hl:zA os mp=l
          ·exact .inl ⟨by simpa [zA] using hl,hl.symm, .inr (by simp)⟩
          ·exact .inr (.inr (by simpa [zA] using hl))
  rcases key (zA (s::os) (p::mp)) with ⟨k1,k2,k3⟩|⟨i0,len0,k1,k2,k3⟩|k
  ·rw[k2] at hn
   obtain⟨h1,h2⟩:=zb4 hn
   refine⟨fun j i len s' hs hg hm=> ?_,fun j1 j2 i l1 l2 s1 s2 a1 a2 a3 a4 a5 a6=> ?_⟩
   ·cases j with
    |zero=>
     simp at hs hm
     rcases k3 with k3|k3
     ·exact absurd (hs▸k3) hg
     ·exact absurd hm (k3 i len)
    |succ j=>
     simp at hs hm
     rw[k2]
     exact h1 j i len s' hs hg hm
   ·have nz: ∀ {j i:Nat} {l:Option Nat} {s':OSh},(s::os)[j]? =some s'→s'≠ .gone→(p::mp)[j]? =some (.id i l)→ ∃ j',j=j'+1:=by
     intro j i l s' hs hg hm
     cases j with
     |zero=>
      simp at hs hm
      rcases k3 with k3|k3
      ·exact absurd (hs▸k3) hg
      ·exact absurd hm (k3 i l)
     |succ j=>exact⟨j,rfl⟩
    obtain⟨j1',rfl⟩:=nz a1 a2 a5
    obtain⟨j2',rfl⟩:=nz a3 a4 a6
    simp at a1 a3 a5 a6
    have:=h2 j1' j2' i l1 l2 s1 s2 a1 a2 a3 a4 a5 a6
    omega
  ·rw[k3] at hn
   simp only[znr,Bool.and_eq_true] at hn
   obtain⟨hn1,hn2⟩:=hn
   have hni:=zj9 hn1
   obtain⟨h1,h2⟩:=zb4 hn2
   subst k1
   refine⟨fun j i len s' hs hg hm=> ?_,fun j1 j2 i l1 l2 s1 s2 a1 a2 a3 a4 a5 a6=> ?_⟩
   ·rw[k3]
    cases j with
    |zero=>simp at hm;simp[hm.1]
    |succ j=>
     simp at hs hm
     exact List.mem_cons_of_mem _ (h1 j i len s' hs hg hm)
   ·cases j1 with
    |zero=>
     simp at a5
     cases j2 with
     |zero=>rfl
     |succ j2=>
      simp at a3 a6
      have:=h1 j2 i l2 s2 a3 a4 a6
      rw[← a5.1] at this
      exact absurd this hni
    |succ j1=>
     simp at a1 a5
     cases j2 with
     |zero=>
      simp at a6
      have:=h1 j1 i l1 s1 a1 a2 a5
      rw[← a6.1] at this
      exact absurd this hni
     |succ j2=>
      simp at a3 a6
      have:=h2 j1 j2 i l1 l2 s1 s2 a1 a2 a3 a4 a5 a6
      omega
  ·exact absurd rfl k
structure Packed (B:Base) (E E':Env) (hp hp':List HO) (w:World) (n0:Nat) (sk:Skel) (vals:List Value) (ds:List DV) (mp:List PM):Prop where
 frz:Frz B E E' hp hp' w
 ok:PMok E mp
 len:mp.length=sk.objs.length
 fix: ∀ j,j<n0→j<sk.objs.length→mp[j]? =some (.id j none)
 live: ∀ (j i:Nat) (len:Option Nat) (s:OSh),sk.objs[j]? =some s→s≠ .gone→mp[j]? =some (.id i len)→ ∃ o,hp'[i]? =some o∧o.live=true
 inj: ∀ (j1 j2 i:Nat) (l1 l2:Option Nat) (s1 s2:OSh),sk.objs[j1]? =some s1→s1≠ .gone→sk.objs[j2]? =some s2→s2≠ .gone→mp[j1]? =some (.id i l1)→mp[j2]? =some (.id i l2)→j1=j2
 lay: ∀ (ρ:List Nat) (Et:Env),E'.M.le Et.M→Tgt E mp ρ Et→SV.satL Et (bL ρ sk.slots ds).1 vals∧(bO ρ sk.objs (bL ρ sk.slots ds).2).length=sk.objs.length∧
  ∀ (m:Nat) (o:HO),(bO ρ sk.objs (bL ρ sk.slots ds).2)[m]? =some o→(o.live=true→ ∃ p,mp[m]? =some p∧p≠ .none∧o.sat Et w (pmLE E p)∧LayOk E E' hp w Et.M o p)∧(o.live=false↔sk.objs[m]? =some .gone)
theorem j7 {n0:Nat} {sk:Skel} {svs:List SV} {vals:List Value} {k:List DV→List PM→List HO→Option R} (hh:Hp B E hp w) (hs:SV.satL E svs vals) (hn:n0≤hp.length) (h:zqu n0 sk svs hp k=some r):
  ∃ E' hp' ds mp,Packed B E E' hp hp' w n0 sk vals ds mp∧k ds mp hp'=some r:=by
 unfold zqu at h
 have hok:PMok E (qW n0 0 sk.objs):=by
  intro j i len hj
  rcases za4 n0 0 sk.objs j _ hj with ⟨h1,h2⟩|⟨_,h2⟩
  ·cases h2
   have:0+j<E.L.length:=by rw[hh.len];omega
   exact⟨_,List.getElem?_eq_getElem this,by simp⟩
  ·cases h2
 obtain⟨E1,hp1,mp1,ds1,f1,x1,m1,h,l1⟩:=zX hh hs hok h
 have m1':PMok E1 mp1:=fun j i len hj=>by rw[f1.L];exact m1 j i len hj
 obtain⟨E2,hp2,mp2,ds2,f2,x2,m2,h,l2⟩:=xy f1.heap m1' h
 cases hnd:znr (zA sk.objs mp2) with
 |false=>rw[hnd] at h;cases h
 |true=>
  rw[hnd,cond_true] at h
  obtain⟨h,hlv⟩:=zj5 h
  obtain⟨g1,g2⟩:=zb4 hnd
  have hlen:mp2.length=sk.objs.length:=by rw[x2.1,x1.1,za5]
  refine⟨E2,hp2,_,mp2,⟨f1.trans f2,fun j i len hj=>by have:=m2 j i len hj;rwa [f1.L] at this,hlen,fun j hj hj'=> ?_,fun j i len s a1 a2 a3=>hlv i (g1 j i len s a1 a2 a3),g2,fun ρ Et hM ht=> ?_⟩,h⟩
  ·have: ∃ p,(qW n0 0 sk.objs)[j]? =some p:=⟨_,List.getElem?_eq_getElem (by rw[za5];exact hj')⟩
   obtain⟨p,hp⟩:=this
   rcases za4 n0 0 sk.objs j p hp with ⟨_,h2⟩|⟨h1,_⟩
   ·rw[Nat.zero_add] at h2
    subst h2
    exact x2.2 j _ (x1.2 j _ hp (by simp)) (by simp)
   ·omega
  ·rw[zkz]
   obtain⟨a1,a2⟩:=l1 ρ Et ds2 (Mem.le_trans f2.le.1 hM) (ht.mono x2)
   obtain⟨a3,a4⟩:=l2 ρ Et [] hM (ht.frz f1.L)
   rw[List.append_nil] at a3 a4
   refine⟨a2,by rw[a1];exact a3,fun m o ho=> ?_⟩
   rw[a1] at ho
   obtain⟨b1,b2⟩:=a4 m o ho
   refine⟨fun hl=> ?_,b2⟩
   obtain⟨p,q1,q2,q3,q4⟩:=b1 hl
   refine⟨p,by simpa using q1,q2, ?_,q4.frz f1⟩
   have:pmLE E1 p=pmLE E p:=by cases p<;>simp[pmLE,f1.L]
   rwa [this] at q3
def zbd (E E':Env) (mp:List PM):Env:=⟨E'.M,mp.map (pmLE E)⟩
theorem zlx {E':Env} {mp:List PM} {n:Nat} (hn:mp.length=n):Tgt E mp (zO n 0) (zbd E E' mp):=by
 intro j p hj hp
 have hjl:=(List.getElem?_eq_some_iff.1 hj).1
 rw[xc n 0 j (by omega),Nat.zero_add]
 show(mp.map (pmLE E))[j]? =_
 rw[List.getElem?_map,hj]
 rfl
theorem Packed.liveAt {E':Env} {hp':List HO} {n0:Nat} {sk:Skel} {vals:List Value} {ds:List DV} {mp:List PM} (h:Packed B E E' hp hp' w n0 sk vals ds mp) {j:Nat} {o:HO} {e:LE} {b:Nat}
  (h1:(bO (zO sk.objs.length 0) sk.objs (bL (zO sk.objs.length 0) sk.slots ds).2)[j]? =some o) (h2:o.live=true) (h3:(zbd E E' mp).L[j]? =some e) (h4:e.blk=some b):
  ∃ i len s o' e',sk.objs[j]? =some s∧s≠ .gone∧mp[j]? =some (.id i len)∧hp'[i]? =some o'∧o'.live=true∧E'.L[i]? =some e'∧e'.blk=some b:=by
 obtain⟨l1,l2,l3⟩:=h.lay (zO sk.objs.length 0) (zbd E E' mp) (Mem.le_refl _) (zlx h.len)
 obtain⟨p,q1,q2,q3⟩:=(l3 j o h1).1 h2
 have h3':(mp.map (pmLE E))[j]? =some e:=h3
 rw[List.getElem?_map,q1] at h3'
 simp only[Option.map_some,Option.some.injEq] at h3'
 subst h3'
 cases p with
 |none=>exact absurd rfl q2
 |nil=>simp[pmLE] at h4
 |id i len=>
  obtain⟨e',g1,g2⟩:=h.ok j i len q1
  simp only[pmLE,g1] at h4
  have hjl:=(List.getElem?_eq_some_iff.1 h1).1
  obtain⟨s,hs⟩: ∃ s,sk.objs[j]? =some s:=⟨_,List.getElem?_eq_getElem (by omega)⟩
  have hsg:s≠ .gone:=by
   intro hg
   subst hg
   have:=(l3 j o h1).2.2 hs
   rw[h2] at this;cases this
  obtain⟨o',k1,k2⟩:=h.live j i len s hs hsg q1
  exact⟨i,len,s,o',e',hs,hsg,q1,k1,k2,by rw[h.frz.L];exact g1,h4⟩
theorem Packed.tailAt {E':Env} {hp':List HO} {n0:Nat} {sk:Skel} {vals:List Value} {ds:List DV} {mp:List PM} (h:Packed B E E' hp hp' w n0 sk vals ds mp) {j:Nat} {o:HO} {e:LE} {b:Nat}
  (h1:(bO (zO sk.objs.length 0) sk.objs (bL (zO sk.objs.length 0) sk.slots ds).2)[j]? =some o) (h3:(zbd E E' mp).L[j]? =some e) (h4:b∈o.tails w e):
  ∃ i len s o' e',sk.objs[j]? =some s∧s≠ .gone∧mp[j]? =some (.id i len)∧hp'[i]? =some o'∧E'.L[i]? =some e'∧b∈o'.tails w e':=by
 obtain⟨l1,l2,l3⟩:=h.lay (zO sk.objs.length 0) (zbd E E' mp) (Mem.le_refl _) (zlx h.len)
 cases hl:o.live with
 |false=>
  have hno:=zp0 (w:=w) (e:=e) (M:=E'.M) h1 hl
  rw[hno.2] at h4;simp at h4
 |true=>
  obtain⟨p,q1,q2,q3,q4,q5,q6⟩:=(l3 j o h1).1 hl
  have h3':(mp.map (pmLE E))[j]? =some e:=h3
  rw[List.getElem?_map,q1] at h3'
  simp only[Option.map_some,Option.some.injEq] at h3'
  subst h3'
  obtain⟨i,len,o',e',r1,r2,r3,r4⟩:=q6 b h4
  subst r1
  have hjl:=(List.getElem?_eq_some_iff.1 h1).1
  obtain⟨s,hs⟩: ∃ s,sk.objs[j]? =some s:=⟨_,List.getElem?_eq_getElem (by omega)⟩
  have hsg:s≠ .gone:=by
   intro hg
   subst hg
   have:=(l3 j o h1).2.2 hs
   rw[hl] at this;cases this
  obtain⟨o2,k1,k2⟩:=h.live j i len s hs hsg q1
  rcases h.frz.obj i with h5|⟨o3,h5,h6,_⟩
  ·rw[r2] at h5
   exact⟨i,len,s,o',e',hs,hsg,q1,h5,by rw[h.frz.L];exact r3,r4⟩
  ·rw[k1] at h5;cases h5;rw[k2] at h6;cases h6
theorem Packed.heap {E':Env} {hp':List HO} {n0:Nat} {sk:Skel} {vals:List Value} {ds:List DV} {mp:List PM} (h:Packed B E E' hp hp' w n0 sk vals ds mp):
  Hp B (zbd E E' mp) (bO (zO sk.objs.length 0) sk.objs (bL (zO sk.objs.length 0) sk.slots ds).2) w∧SV.satL (zbd E E' mp) (bL (zO sk.objs.length 0) sk.slots ds).1 vals:=by
 obtain⟨l1,l2,l3⟩:=h.lay (zO sk.objs.length 0) (zbd E E' mp) (Mem.le_refl _) (zlx h.len)
 refine⟨?_,l1⟩
 have live: ∀ {j:Nat} {o:HO} {e:LE} {b:Nat},(bO (zO sk.objs.length 0) sk.objs (bL (zO sk.objs.length 0) sk.slots ds).2)[j]? =some o→o.live=true→(zbd E E' mp).L[j]? =some e→e.blk=some b→
   ∃ i len s o' e',sk.objs[j]? =some s∧s≠ .gone∧mp[j]? =some (.id i len)∧hp'[i]? =some o'∧o'.live=true∧E'.L[i]? =some e'∧e'.blk=some b:=by
  intro j o e b h1 h2 h3 h4
  obtain⟨p,q1,q2,q3,_⟩:=(l3 j o h1).1 h2
  have h3':(mp.map (pmLE E))[j]? =some e:=h3
  rw[List.getElem?_map,q1] at h3'
  simp only[Option.map_some,Option.some.injEq] at h3'
  subst h3'
  cases p with
  |none=>exact absurd rfl q2
  |nil=>simp[pmLE] at h4
  |id i len=>
   obtain⟨e',g1,g2⟩:=h.ok j i len q1
   simp only[pmLE,g1] at h4
   have hjl:=(List.getElem?_eq_some_iff.1 h1).1
   obtain⟨s,hs⟩: ∃ s,sk.objs[j]? =some s:=⟨_,List.getElem?_eq_getElem (by omega)⟩
   have hsg:s≠ .gone:=by
    intro hg
    subst hg
    have:=(l3 j o h1).2.2 hs
    rw[h2] at this;cases this
   obtain⟨o',k1,k2⟩:=h.live j i len s hs hsg q1
   exact⟨i,len,s,o',e',hs,hsg,q1,k1,k2,by rw[h.frz.L];exact g1,h4⟩
 have own: ∀ {j:Nat} {o:HO} {e:LE},(bO (zO sk.objs.length 0) sk.objs (bL (zO sk.objs.length 0) sk.slots ds).2)[j]? =some o→(zbd E E' mp).L[j]? =some e→
   (o.tok E'.M w e∧(o.tails w e).Nodup)∧ ∀ b∈o.tails w e, ∃ i len s o' e',sk.objs[j]? =some s∧s≠ .gone∧mp[j]? =some (.id i len)∧hp'[i]? =some o'∧E'.L[i]? =some e'∧b∈o'.tails w e':=by
  intro j o e h1 h3
  cases hl:o.live with
  |false=>
   have hno:=zp0 (w:=w) (e:=e) (M:=E'.M) h1 hl
   exact⟨⟨hno.1,by rw[hno.2];exact List.nodup_nil⟩,fun b hb=>by rw[hno.2] at hb;simp at hb⟩
  |true=>
   obtain⟨p,q1,q2,q3,q4,q5,q6⟩:=(l3 j o h1).1 hl
   have h3':(mp.map (pmLE E))[j]? =some e:=h3
   rw[List.getElem?_map,q1] at h3'
   simp only[Option.map_some,Option.some.injEq] at h3'
   subst h3'
   refine⟨⟨q4 (fun _ _ h=>h),q5⟩,fun b hb=> ?_⟩
   obtain⟨i,len,o',e',r1,r2,r3,r4⟩:=q6 b hb
   subst r1
   have hjl:=(List.getElem?_eq_some_iff.1 h1).1
   obtain⟨s,hs⟩: ∃ s,sk.objs[j]? =some s:=⟨_,List.getElem?_eq_getElem (by omega)⟩
   have hsg:s≠ .gone:=by
    intro hg
    subst hg
    have:=(l3 j o h1).2.2 hs
    rw[hl] at this;cases this
   obtain⟨o2,k1,k2⟩:=h.live j i len s hs hsg q1
   rcases h.frz.obj i with h5|⟨o3,h5,h6,_⟩
   ·rw[r2] at h5
    exact⟨i,len,s,o',e',hs,hsg,q1,h5,by rw[h.frz.L];exact r3,r4⟩
   ·rw[k1] at h5;cases h5;rw[k2] at h6;cases h6
 exact {
  tok:=fun j o e h1 h2=>by
   obtain⟨⟨t1,t2⟩,t3⟩:=own h1 h2
   refine⟨t1,t2,fun b hb=> ?_⟩
   obtain⟨i,len,s,o',e',_,_,_,a4,a5,a6⟩:=t3 b hb
   exact(h.frz.heap.tok i o' e' a4 a5).2.2 b a6
  tdist:=fun j1 j2 o1 o2 e1 e2 b h1 h2 h3 h4 h5 h6=>by
   obtain⟨i1,len1,s1,o1',e1',a1,a2,a3,a4,a5,a6⟩:=(own h1 h3).2 b h5
   obtain⟨i2,len2,s2,o2',e2',c1,c2,c3,c4,c5,c6⟩:=(own h2 h4).2 b h6
   have:=h.frz.heap.tdist i1 i2 o1' o2' e1' e2' b a4 c4 a5 c5 a6 c6
   subst this
   exact h.inj j1 j2 i1 len1 len2 s1 s2 a1 a2 c1 c2 a3 c3
  ag:=h.frz.heap.ag
  base:=h.frz.heap.base
  fresh:=h.frz.heap.fresh
  ok:=h.frz.heap.ok
  len:=by rw[l2];simp[zbd,h.len]
  free:=fun j o e b h1 h2 h3 h4=>by
   obtain⟨i,len,s,o',e',_,_,_,a1,a2,a3,a4⟩:=live h1 h2 h3 h4
   exact h.frz.heap.free i o' e' b a1 a2 a3 a4
  dist:=fun j1 j2 o1 o2 e1 e2 b h1 h2 h3 h4 h5 h6 h7 h8=>by
   obtain⟨i1,len1,s1,o1',e1',a1,a2,a3,a4,a5,a6,a7⟩:=live h1 h2 h5 h7
   obtain⟨i2,len2,s2,o2',e2',c1,c2,c3,c4,c5,c6,c7⟩:=live h3 h4 h6 h8
   have:=h.frz.heap.dist i1 i2 o1' o2' e1' e2' b a4 a5 c4 c5 a6 c6 a7 c7
   subst this
   exact h.inj j1 j2 i1 len1 len2 s1 s2 a1 a2 c1 c2 a3 c3
  ob:=fun j o e h1 h2=>by
   cases hl:o.live with
   |false=>exact zgz h1 hl
   |true=>
    obtain⟨p,q1,q2,q3,_⟩:=(l3 j o h1).1 hl
    have h2':(mp.map (pmLE E))[j]? =some e:=h2
    rw[List.getElem?_map,q1] at h2'
    simp only[Option.map_some,Option.some.injEq] at h2'
    subst h2'
    exact q3}
theorem xC: ∀ {ts:List Ty} {ds:List DV} {k:Tup ts→Option R},zbi ts ds k=some r→ ∃ x,qE ts x=ds∧k x=some r
 | [],ds,k,h=>by
  cases ds with
  |nil=>exact⟨(),rfl,h⟩
  |cons d ds=>simp[zbi] at h
 | [t],ds,k,h=>by
  match ds with
  | []=>simp[zbi] at h
  | [d]=>
   obtain⟨u,x⟩:=d
   unfold zbi at h
   split at h
   case isTrue ht=>
    simp only at ht
    subst ht
    exact⟨x,rfl,h⟩
   case isFalse=>cases h
  |d::d'::ds=>simp[zbi] at h
 |t::u::l,ds,k,h=>by
  match ds with
  | []=>simp[zbi] at h
  |d::ds=>
   obtain⟨v,x⟩:=d
   unfold zbi at h
   split at h
   case isTrue ht=>
    simp only at ht
    subst ht
    obtain⟨y,h1,h2⟩:=xC h
    exact⟨(x,y),by simp only[qE,h1],h2⟩
   case isFalse=>cases h
end
end Go.Sx
