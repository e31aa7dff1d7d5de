/- The symbolic evaluator, part V6: a region that draws its order, with effects, is told by the order of its text. -/
import Derived.Test.YtlppdabhaipbkaaGreatDoorSxV5
set_option linter.unusedVariables false
set_option linter.unusedSimpArgs false
namespace Go.Sx
open Go.RowKit
section
variable {R:Type} {r:R} {P:Program} {C:Ctx} {Γ:List Con} {B:Base} {E:Env} {fr:List SV} {hp:List HO} {a:Act} {w w':World} {o:Oper}
structure InvE (B:Base) (E0:Env) (ops:Array Oper) (fF:List SV) (H:Nat→List HO) (ch:Nat→Bool) (a0:Act) (listed:Array Bool) (a:Act) (w:World):Prop where
 env: ∃ (E:Env) (c:Nat),E0.le E∧c≤ops.size∧(∀ m,m<c→ch m=true→listed.getD m false=true)∧(∀ m,c≤m→m<ops.size→ch m=true→listed.getD m false=false)∧Hp B E (H c) w∧
  ∀ t,Settled ops.toList listed t→SatAt E fF a t
 size:a.tmps.size=fF.length
 keep:Keeps (opsDst ops.toList) a0 a
 lsize:listed.size=ops.size
 closed:Closed ops listed
theorem zcz {ops:Array Oper} (hB:zk8 ops=true): ∀ (j:Nat) (o:Oper),ops[j]? =some o→ ∀ e∈o.after,Region.binds .any e=true→e.on<j:=by
 intro j o ho e he hb
 have hd: ∀ {os:List Oper} {j:Nat},zQ ops.toList j os=true→ ∀ (m:Nat) (o:Oper),os[m]? =some o→zbu (j+m) o.after.toList=true:=by
  intro os
  induction os with
  |nil=>intro j _ m o hm;simp at hm
  |cons x os ih2=>
   intro j hj m o hm
   simp only[zQ,Bool.and_eq_true] at hj
   cases m with
   |zero=>simp at hm;subst hm;exact hj.2.1
   |succ m=>
    have:=ih2 hj.2.2.2 m o (by simpa using hm)
    rwa [show j+(m+1)=j+1+m by omega]
 have:=jD (hd hB j o (by simpa using ho)) e (by simpa using he) hb
 omega
theorem zk9 {ops:Array Oper} (hB:zk8 ops=true) (j:Nat) (o:Oper) (ho:ops[j]? =some o):ziz ops.toList o j (zp ops.toList o)=true:=by
 have hd: ∀ {os:List Oper} {j:Nat},zQ ops.toList j os=true→ ∀ (m:Nat) (o:Oper),os[m]? =some o→ziz ops.toList o (j+m) (zp ops.toList o)=true:=by
  intro os
  induction os with
  |nil=>intro j _ m o hm;simp at hm
  |cons x os ih2=>
   intro j hj m o hm
   simp only[zQ,Bool.and_eq_true] at hj
   cases m with
   |zero=>simp at hm;subst hm;exact hj.2.2.1
   |succ m=>
    have:=ih2 hj.2.2.2 m o (by simpa using hm)
    rwa [show j+(m+1)=j+1+m by omega]
 have:=hd hB j o (by simpa using ho)
 rwa [Nat.zero_add] at this
theorem zy1 {l:List SV} {vs:List Value} (hl:vs.length=l.length) (hs: ∀ (t:Nat) (s:SV),l[t]? =some s→ ∃ v,vs[t]? =some v∧s.sat E v):SV.satL E l vs:=by
 induction l generalizing vs with
 |nil=>simp at hl;simp[hl,SV.satL]
 |cons x l ih=>
  cases vs with
  |nil=>simp at hl
  |cons v vs=>
   simp only[SV.satL]
   obtain⟨v',e,g⟩:=hs 0 x (by simp)
   simp at e
   subst e
   exact⟨v,vs,rfl,g,ih (by simpa using hl) fun t s ht=>by simpa using hs (t+1) s (by simpa using ht)⟩
theorem zsy {H:Nat→List HO} {ch:Nat→Bool} {n:Nat} (hP: ∀ m,m<n→ch m=false→H (m+1)=H m): ∀ {c d:Nat},c≤d→d≤n→(∀ m,c≤m→m<d→ch m=false)→H d=H c:=by
 intro c d hcd hd h
 induction d with
 |zero=>have:c=0:=by omega
        subst this;rfl
 |succ d ih=>
  rcases Nat.lt_or_ge c (d+1) with h1|h1
  ·rw[hP d (by omega) (h d (by omega) (by omega))]
   exact ih (by omega) (by omega) fun m h2 h3=>h m h2 (by omega)
  ·have:c=d+1:=by omega
   subst this;rfl
theorem zxe {H:Nat→List HO} {ch:Nat→Bool} {T:Nat→List Nat} {n x:Nat} (hP: ∀ m,m<n→ch m=false→H (m+1)=H m) (hC: ∀ m,m<n→ch m=true→ ∀ x,memN x (T m)=false→wk (H (m+1)) x=wk (H m) x):
  ∀ {c d:Nat},c≤d→d≤n→(∀ m,c≤m→m<d→ch m=true→memN x (T m)=false)→wk (H d) x=wk (H c) x:=by
 intro c d hcd hd h
 induction d with
 |zero=>have:c=0:=by omega
        subst this;rfl
 |succ d ih=>
  rcases Nat.lt_or_ge c (d+1) with h1|h1
  ·have e:wk (H (d+1)) x=wk (H d) x:=by
    cases hd':ch d with
    |false=>rw[hP d (by omega) hd']
    |true=>exact hC d (by omega) hd' x (h d (by omega) (by omega) hd')
   rw[e]
   exact ih (by omega) (by omega) fun m h2 h3=>h m h2 (by omega)
  ·have:c=d+1:=by omega
   subst this;rfl
theorem zc8 {x:Nat} {m:List Nat}: ∀ {l:List Nat},apartN l m=true→memN x l=true→memN x m=false
 | [],_,h=>by simp[memN] at h
 |i::l,h,hx=>by
  unfold apartN at h
  cases hi:memN i m with
  |true=>rw[hi] at h;cases h
  |false=>
   rw[hi,cond_false] at h
   rcases List.mem_cons.1 (zav.1 hx) with e|e
   ·subst e;exact hi
   ·exact zc8 h (zav.2 e)
theorem zmp {x:Nat} {l m:List Nat} (h:apartN l m=true) (hx:memN x m=true):memN x l=false:=by
 cases hl:memN x l with
 |false=>rfl
 |true=>rw[zc8 h hl] at hx;cases hx
theorem zsi {N:Nat} {fl anc:List Nat} {ops:Array Oper} {fF:List SV} {h0:Acc} {H:Nat→List HO} {ch:Nat→Bool} {T:Nat→List Nat} {E0:Env} {a0:Act} {Q:Exit→Act→World→Prop} (hB:zn9 C fl anc ops=true)
  (hc:Coll P C B N fl anc ops 0 ops.toList h0 fF H ch T) (hg:C.globsOk E0.M)
  (hQ: ∀ E a w,E0.le E→Hp B E (H ops.size) w→SV.satL E fF a.tmps.toList→Keeps (opsDst ops.toList) a0 a→Q .normal a w):
  ∀ (fuel:Nat) (listed:Array Bool) (a:Act) (w:World),za8 listed≤fuel→InvE B E0 ops fF H ch a0 listed a w→wpAny P .any ops Q fuel listed a w:=by
 simp only[zn9,Bool.and_eq_true] at hB
 obtain⟨hD,hA,hK⟩:=hB
 have hE:=zcz hD
 have hsz:ops.toList.length=ops.size:=by simp
 have hPh: ∀ m,m<ops.size→ch m=false→H (m+1)=H m:=fun m hm h=>by
  have:=(hc.pure m ops[m] (by simp[hm]) (by rw[Nat.zero_add];exact h)).1
  simpa using this
 have hCh: ∀ m,m<ops.size→ch m=true→isEffX C ops.toList ops[m]! =true∧memN m fl=false∧ ∀ x,memN x (T m)=false→wk (H (m+1)) x=wk (H m) x:=fun m hm h=>by
  obtain⟨g1,g2,_,g4,_⟩:=hc.chain m ops[m] (by simp[hm]) (by rw[Nat.zero_add];exact h)
  simp only[Nat.zero_add] at g1 g2 g4
  refine⟨by simpa [getElem!_pos ops m hm] using g1,g2,g4⟩
 have fin: ∀ (listed:Array Bool) (a:Act) (w:World),InvE B E0 ops fF H ch a0 listed a w→Region.ready .any ops listed= []→Q .normal a w:=by
  intro listed a w hI hr
  obtain⟨E,c,h1,h2,h3,h4,h5,h6⟩:=hI.env
  have hall: ∀ i,i<ops.size→listed.getD i false=true:=by
   intro i
   induction i using Nat.strongRecOn with
   |ind i ih=>
    intro hi
    cases hl:listed.getD i true with
    |true=>
     rw[← hl]
     have:i<listed.size:=by rw[hI.lsize];exact hi
     simp[this]
    |false=>
     exfalso
     have:i∈Region.ready .any ops listed:=mem_ready.2 ⟨hl,ops[i],by simp[hi],fun e he hbe=>by
      have:=hE i ops[i] (by simp[hi]) e he hbe
      exact ih e.on this (by omega)⟩
     rw[hr] at this
     cases this
  have hH:H ops.size=H c:=zsy hPh h2 (Nat.le_refl _) fun m g1 g2=>by
   cases hm:ch m with
   |false=>rfl
   |true=>have:=h4 m g1 g2 hm;rw[hall m g2] at this;cases this
  refine hQ E a w h1 (by rw[hH];exact h5) (zy1 (by simpa using hI.size) fun t s ht=> ?_) hI.keep
  have:SatAt E fF a t:=h6 t fun i hi=>by
   obtain⟨m,o,e,g1,g2⟩:=xN hi
   have:m<ops.size:=by simpa using(List.getElem?_eq_some_iff.1 g1).1
   exact hall i (by omega)
  simpa using this s ht
 have step: ∀ (listed:Array Bool) (a:Act) (w:World) (i:Nat) (K:Act→World→Prop),InvE B E0 ops fF H ch a0 listed a w→i∈Region.ready .any ops listed→
   (∀ a' w',InvE B E0 ops fF H ch a0 (listed.setIfInBounds i true) a' w'→K a' w')→wpOp P ops Q i K a w:=by
  intro listed a w i K hI hi hKK
  obtain⟨hun,o,ho,hw⟩:=mem_ready.1 hi
  have hol:ops.toList[i]? =some o:=by simpa using ho
  have hom:o∈ops.toList:=List.mem_of_getElem? hol
  have his:i<ops.size:=(Array.getElem?_eq_some_iff.1 ho).1
  have hoi:ops[i]=o:=(Array.getElem?_eq_some_iff.1 ho).2
  have hun':listed.getD i false=false:=by
   have hl:i<listed.size:=by rw[hI.lsize];exact his
   simp[hl] at hun ⊢;exact hun
  obtain⟨E,c,h1,h2,h3,h4,h5,h6⟩:=hI.env
  have huses: ∀ t∈zp ops.toList o,Settled ops.toList listed t:=by
   intro t ht j hj
   obtain⟨_,g2⟩:=za9 (zk9 hD i o ho) t ht j hj
   obtain⟨e,e1,e2,e3⟩:=zcv g2
   rw[← e3]
   exact hw e (by simpa using e1) e2
  have behind: ∀ (E':Env) (v:Value) (w':World) (c':Nat),E.le E'→c'≤ops.size→(∀ m,m<c'→ch m=true→(listed.setIfInBounds i true).getD m false=true)→
    (∀ m,c'≤m→m<ops.size→ch m=true→(listed.setIfInBounds i true).getD m false=false)→Hp B E' (H c') w'→(∀ d s,o.dst=some d→fF[d]? =some s→s.sat E' v)→
    InvE B E0 ops fF H ch a0 (listed.setIfInBounds i true) (a.put o.dst v) w':=by
   intro E' v w' c' g1 gc gl gu g2 g3
   refine⟨⟨E',c',Env.le_trans h1 g1,gc,gl,gu,g2,fun t ht s hs=> ?_⟩, ?_,hI.keep.trans (Keeps.put _ a o.dst v fun t ht=>zeg hom ht),by simp[hI.lsize], ?_⟩
   ·by_cases hd:o.dst=some t
    ·refine⟨v, ?_,g3 t s hd hs⟩
     have hlt:t<a.tmps.size:=by rw[hI.size];exact(List.getElem?_eq_some_iff.1 hs).1
     simp[Act.put,hd,hlt]
    ·have hse:Settled ops.toList listed t:=by
      intro j hj
      have hji:i≠j:=by
       intro e
       subst e
       obtain⟨m,o',q1,q2,q3⟩:=xN hj
       have:i=m:=by omega
       subst this
       rw[hol] at q2
       cases q2
       exact hd q3
      have:=ht j hj
      rwa [getD_set_ne false hji] at this
     obtain⟨u,q1,q2⟩:=h6 t hse s hs
     refine⟨u, ?_,SV.sat_mono g1 _ _ q2⟩
     cases hdd:o.dst with
     |none=>simpa [Act.put,hdd] using q1
     |some d=>
      have hne:d≠t:=fun e=>hd (by rw[hdd,e])
      simp only[Act.put]
      rw[Array.getElem?_setIfInBounds_ne hne]
      exact q1
   ·rw[(Keeps.put (opsDst ops.toList) a o.dst v fun t ht=>zeg hom ht).size];exact hI.size
   ·intro j x hx hl e he hb
    by_cases hji:i=j
    ·subst hji
     rw[ho] at hx;cases hx
     exact getD_set_true (hw e he hb)
    ·rw[getD_set_ne false hji] at hl
     exact getD_set_true (hI.closed j x hx hl e he hb)
  have waitsI:=zev hA hE hI.closed i o ho hw
  have laterM: ∀ m,m<ops.size→i<m→listed.getD m false=true→bitN (nthN anc m) i=true→False:=by
   intro m hm _ hl hb
   have hom:ops[m]? =some ops[m]:=by simp[hm]
   have:=zev hA hE hI.closed m _ hom (hI.closed m _ hom hl) i hb
   rw[hun'] at this;cases this
  unfold wpOp
  rw[ho]
  cases hci:ch i with
  |true=>
   obtain⟨g1,g2,g3,g4,_⟩:=hc.chain i o hol (by rw[Nat.zero_add];exact hci)
   simp only[Nat.zero_add] at g1 g2 g3 g4
   have ahead: ∀ m,m<i→ch m=true→listed.getD m false=true:=fun m hm hch=>by
    have hms:m<ops.size:=by omega
    obtain⟨k1,k2,_⟩:=hCh m hms hch
    rw[getElem!_pos ops m hms] at k1
    exact zfq hA hE hK hI.closed i o ho g1 g2 hw m ops[m] hm (by simp[hms]) k1 k2
   have later: ∀ m,i<m→m<ops.size→ch m=true→listed.getD m false=false:=fun m hm hms hch=>by
    cases hl:listed.getD m false with
    |false=>rfl
    |true=>
     obtain⟨k1,k2,_⟩:=hCh m hms hch
     rw[getElem!_pos ops m hms] at k1
     have hom':ops[m]? =some ops[m]:=by simp[hms]
     have:=zfq hA hE hK hI.closed m ops[m] hom' k1 k2 (hI.closed m _ hom' hl) i o hm ho g1 g2
     rw[hun'] at this;cases this
   have hci':c≤i:=Nat.le_of_not_lt fun hlt=>by
    have:=h3 i hlt hci
    rw[hun'] at this;cases this
   have hH:H i=H c:=zsy hPh hci' (by omega) fun m q1 q2=>by
    cases hm:ch m with
    |false=>rfl
    |true=>have:=h4 m q1 (by omega) hm;rw[ahead m q2 hm] at this;cases this
   refine g3 E a w K Q (by rw[hH];exact h5) (C.globsOk_mono h1.1 hg) hI.size (fun t ht=>h6 t (huses t ht)) fun E' v w' q1 q2 q3=>hKK _ _ (behind E' v w' (i+1) q1 (by omega) ?_ ?_ q2 q3)
   ·intro m hm hch
    by_cases hmi:i=m
    ·subst hmi
     have hl:i<listed.size:=by rw[hI.lsize];exact his
     simp[hl]
    ·exact getD_set_true (ahead m (by omega) hch)
   ·intro m hm hms hch
    rw[getD_set_ne false (by omega)]
    exact later m (by omega) hms hch
  |false=>
   obtain⟨g1,g2,g3⟩:=hc.pure i o hol (by rw[Nat.zero_add];exact hci)
   simp only[Nat.zero_add] at g1 g2 g3
   have hpair:=hc.pair
   rw[hsz] at hpair
   simp only[Nat.zero_add] at hpair
   have hagree: ∀ x,memN x (T i)=true→wk (H c) x=wk (H i) x:=by
    intro x hx
    rcases Nat.le_total c i with hle|hle
    ·refine(zxe hPh (fun m hm hch=>(hCh m hm hch).2.2) hle (by omega) fun m q1 q2 q3=> ?_).symm
     rcases hpair m i (Nat.zero_le _) q2 his (by rw[q3,hci];simp) with k|k
     ·have:=waitsI m k
      rw[h4 m q1 (by omega) q3] at this;cases this
     ·exact zc8 k hx
    ·refine zxe hPh (fun m hm hch=>(hCh m hm hch).2.2) hle h2 fun m q1 q2 q3=> ?_
     have hne:i≠m:=fun e=>by subst e;rw[hci] at q3;cases q3
     rcases hpair i m (Nat.zero_le _) (by omega) (by omega) (by rw[q3,hci];simp) with k|k
     ·exact(laterM m (by omega) (by omega) (h3 m q2 q3) k).elim
     ·exact zmp k hx
   refine g2 E (H c) a w K Q h5 (C.globsOk_mono h1.1 hg) hI.size (fun t ht=>h6 t (huses t ht)) (hc.small c (Nat.zero_le _) (by rw[hsz];omega)) hagree fun E' v w' q1 q2 q3=>hKK _ _ (behind E' v w' c q1 h2 ?_ ?_ q2 q3)
   ·intro m hm hch
    exact getD_set_true (h3 m hm hch)
   ·intro m hm hms hch
    have hne:i≠m:=fun e=>by subst e;rw[hci] at hch;cases hch
    rw[getD_set_ne false hne]
    exact h4 m hm hms hch
 intro fuel
 induction fuel with
 |zero=>
  intro listed a w hf hI
  have hr:Region.ready .any ops listed= []:=by
   cases hcc:Region.ready .any ops listed with
   |nil=>rfl
   |cons i l=>
    have hi:i∈Region.ready .any ops listed:=by rw[hcc];simp
    have:=jL (mem_ready.1 hi).1
    omega
  exact⟨hr,fin listed a w hI hr⟩
 |succ fuel ih=>
  intro listed a w hf hI
  refine⟨fun hr=>fin listed a w hI hr,fun i hi=> ?_⟩
  refine step listed a w i _ hI hi fun a' w' hI'=>ih _ a' w' ?_ hI'
  have:=jL (mem_ready.1 hi).1
  omega
theorem zlb {N:Nat} {fl anc:List Nat} {ops:Array Oper} {Q:Exit→Act→World→Prop} {k:List SV→List HO→Option R} (hG:Given P C Γ) (hh:Hp B E hp w) (hf:SV.satL E fr a.tmps.toList) (hg:C.globsOk E.M)
  (hB:zn9 C fl anc ops=true) (hN:hp.length≤N)
  (hn:zoe B E a (opsDst ops.toList) k r fun a' w'=>Q .normal a' w')
  (h:xq C Γ ops.toList N fl anc 0 ops.toList fr ⟨hp, [], []⟩ k=some r):wpAny P .any ops Q ops.size (Array.replicate ops.size false) a { w with drawn:=w.drawn+1}:=by
 have hD:zk8 ops=true:=by simp only[zn9,Bool.and_eq_true] at hB;exact hB.1
 obtain⟨fF,H,ch,T,h1,h2,h3,h4⟩:=zp5 (B:=B) hG hD hN h
 have hlen:a.tmps.size=fF.length:=by rw[h2, ← SV.satL_length hf];simp
 rw[Nat.zero_add,show ops.toList.length=ops.size by simp] at h1
 refine zsi (a0:=a) (E0:=E) hB h4 hg (fun E' a' w' g1 g2 g3 g4=> ?_) ops.size _ a _ ?_ ?_
 ·obtain⟨fr',q1,q2⟩:=x8 g2 g3 h1
  exact hn E' fr' _ a' w' g1 g2 q1 g4 q2
 ·unfold za8;simp
 ·refine⟨⟨E,0,Env.le_refl E,Nat.zero_le _,fun m hm=>by omega,fun m _ hm _=>by simp[hm],by rw[h4.start];exact hh.grow (Below.refl _ _).drew,fun t ht s hs=> ?_⟩,hlen,Keeps.refl _ a,by simp, ?_⟩
  ·have hnot:t∉opsDst ops.toList:=by
    intro hm
    obtain⟨m,o,q1,q2⟩:=x6 hm
    have:=ht _ (xa hD m o t q1 q2)
    have hlt:m<ops.size:=by simpa using(List.getElem?_eq_some_iff.1 q1).1
    simp[hlt] at this
   rw[h3 t hnot] at hs
   exact ju hf hs
  ·intro j x hx hl
   have:j<ops.size:=(Array.getElem?_eq_some_iff.1 hx).1
   simp[this] at hl
theorem zlc {N:Nat} {fl anc:List Nat} {ops:Array Oper} {id:Nat} {Q:Exit→Act→World→Prop} {k:List SV→List HO→Option R} (hG:Given P C Γ) (hh:Hp B E hp w) (hf:SV.satL E fr a.tmps.toList) (hg:C.globsOk E.M)
  (hB:zn9 C fl anc ops=true) (hN:hp.length≤N)
  (hn:zoe B E a (opsDst ops.toList) k r fun a' w'=>Q .normal a' w')
  (h:xq C Γ ops.toList N fl anc 0 ops.toList fr ⟨hp, [], []⟩ k=some r):(Code.region id ops true).wp P Q a w:=
 wp_region_any hG.mixed (zlb hG hh hf hg hB hN hn h)
def zq7 (P:Program) (Q:Exit→Act→World→Prop) (o:Oper):Exit→Act→World→Prop
 | .normal,a,w=>o.wp P a w (fun a w=>Q .normal a w) Q
 |e,a,w=>Q e a w
theorem zft {Q:Exit→Act→World→Prop} {o:Oper} (h:LetsOut (zq7 P Q o)):LetsOut Q:=h
theorem zy3 {x o:Oper} {Q:Exit→Act→World→Prop} {K K':Act→World→Prop} (hK: ∀ a w,K a w→K' a w) (h:x.wp P a w K (zq7 P Q o)):x.wp P a w K' Q:=by
 unfold Oper.wp at*
 generalize (execOp a.eval x).run P w=r at*
 cases r with
 |ok n w'=>
  cases n with
  |value v=>exact hK _ _ h
  |skip=>exact hK _ _ h
  |defer d=>exact hK _ _ h
  |enter f args=>
   refine Calls.mono h ?_
   intro e w'' he
   cases e with
   |returned v=>exact hK _ _ he
   |panicked chain=>exact he
   |outgrown=>exact zft he
  |row rw args=>
   first
    |exact Rows.mono h (fun v w'' he=>hK _ _ he)
    |exact h.mono (fun v w'' he=>hK _ _ he)
  |_=>exact h.elim
 |halt hl w'=>
  cases hl with
  |panic v=>exact h
  |_=>exact h.elim
theorem zjj {ops:Array Oper} {listed:Array Bool} (hE: ∀ (j:Nat) (o:Oper),ops[j]? =some o→ ∀ e∈o.after,Region.binds .any e=true→e.on<j) (hs:listed.size=ops.size) (hr:Region.ready .any ops listed= []): ∀ i,i<ops.size→listed.getD i false=true:=by
 intro i
 induction i using Nat.strongRecOn with
 |ind i ih=>
  intro hi
  cases hl:listed.getD i true with
  |true=>
   rw[← hl]
   have:i<listed.size:=by rw[hs];exact hi
   simp[this]
  |false=>
   exfalso
   have:i∈Region.ready .any ops listed:=mem_ready.2 ⟨hl,ops[i],by simp[hi],fun e he hbe=>by
    have:=hE i ops[i] (by simp[hi]) e he hbe
    exact ih e.on this (by omega)⟩
   rw[hr] at this
   cases this
theorem zd8 (l:Array Bool) (i:Nat):(l.push false).getD i false=l.getD i false:=by
 simp only[Array.getD_eq_getD_getElem?,Array.getElem?_push]
 split
 ·rename_i h;rw[h,Array.getElem?_eq_none (by simp)];rfl
 ·rfl
theorem zss {body:Array Oper} {o:Oper} {Q:Exit→Act→World→Prop} (hg:o.guard=none) (hs: ∀ j,j<body.size→ ∃ e∈o.after,Region.binds .any e=true∧e.on=j)
  (hE: ∀ (j:Nat) (x:Oper),body[j]? =some x→ ∀ e∈x.after,Region.binds .any e=true→e.on<j) (hG: ∀ x∈body.toList, ∀ j want,x.guard=some (j,want)→j<body.size) (hoe: ∀ e∈o.after,Region.binds .any e=true→e.on<body.size):
  ∀ (fuel:Nat) (listed:Array Bool) (a:Act) (w:World),listed.size=body.size→wpAny P .any body (zq7 P Q o) fuel listed a w→wpAny P .any (body.push o) Q (fuel+1) (listed.push false) a w:=by
 have hlast:(body.push o)[body.size]? =some o:=by simp
 have rd: ∀ (listed:Array Bool),listed.size=body.size→ ∀ i,i∈Region.ready .any (body.push o) (listed.push false)→(i∈Region.ready .any body listed∧i<body.size)∨(i=body.size∧Region.ready .any body listed= []):=by
  intro listed hl i hi
  obtain⟨h1,x,h2,h3⟩:=mem_ready.1 hi
  rw[Array.getElem?_push] at h2
  split at h2
  ·rename_i hib
   cases h2
   refine .inr ⟨hib, ?_⟩
   cases hr:Region.ready .any body listed with
   |nil=>rfl
   |cons j l=>
    exfalso
    have hj:j∈Region.ready .any body listed:=by rw[hr];simp
    obtain⟨g1,y,g2,_⟩:=mem_ready.1 hj
    have hjl:j<body.size:=(Array.getElem?_eq_some_iff.1 g2).1
    obtain⟨e,e1,e2,e3⟩:=hs j hjl
    have:=h3 e e1 e2
    rw[e3,zd8] at this
    have hjl':j<listed.size:=by omega
    simp[hjl'] at g1 this
    rw[g1] at this;cases this
  ·have hil:i<body.size:=(Array.getElem?_eq_some_iff.1 h2).1
   refine .inl ⟨mem_ready.2 ⟨?_,x,h2,fun e he hb=>by rw[← zd8];exact h3 e he hb⟩,hil⟩
   have h1':i<listed.size:=by omega
   simp only[Array.getD_eq_getD_getElem?,Array.getElem?_push] at h1
   rw[if_neg (by omega)] at h1
   simpa [Array.getD_eq_getD_getElem?] using h1
 have rd2: ∀ (listed:Array Bool),listed.size=body.size→Region.ready .any body listed= []→body.size∈Region.ready .any (body.push o) (listed.push false):=by
  intro listed hl hr
  refine mem_ready.2 ⟨?_,o,hlast,fun e he hb=> ?_⟩
  ·simp only[Array.getD_eq_getD_getElem?,Array.getElem?_push]
   rw[if_pos hl.symm];rfl
  ·rw[zd8]
   exact zjj hE hl hr e.on (hoe e he hb)
 have last: ∀ (listed:Array Bool) (a:Act) (w:World) (K:Act→World→Prop),zq7 P Q o .normal a w→(∀ a w,Q .normal a w→K a w)→wpOp P (body.push o) Q body.size K a w:=by
  intro listed a w K h hK
  unfold wpOp
  rw[hlast]
  have hw:Region.wanted o (yielded (body.push o) a.tmps)=true:=by simp[Region.wanted,hg]
  simp only[hw,if_true]
  exact .inl (Oper.wp_mono hK h)
 have fin: ∀ (listed:Array Bool),listed.size=body.size→Region.ready .any body listed= []→Region.ready .any (body.push o) ((listed.push false).setIfInBounds body.size true)= []:=by
  intro listed hl hr
  cases hc:Region.ready .any (body.push o) ((listed.push false).setIfInBounds body.size true) with
  |nil=>rfl
  |cons i l=>
   exfalso
   have hi:i∈Region.ready .any (body.push o) ((listed.push false).setIfInBounds body.size true):=by rw[hc];simp
   obtain⟨h1,x,h2,_⟩:=mem_ready.1 hi
   have hil:i<body.size+1:=by have:=(Array.getElem?_eq_some_iff.1 h2).1;simpa using this
   simp only[Array.getD_eq_getD_getElem?,Array.getElem?_setIfInBounds,Array.size_push,Array.getElem?_push] at h1
   by_cases hib:body.size=i
   ·rw[if_pos hib,if_pos (by omega)] at h1;cases h1
   ·rw[if_neg hib,if_neg (by omega)] at h1
    have:=zjj hE hl hr i (by omega)
    have hil':i<listed.size:=by omega
    simp[hil'] at h1 this
    rw[this] at h1;cases h1
 intro fuel
 induction fuel with
 |zero=>
  intro listed a w hl h
  obtain⟨hr,hq⟩:=h
  refine⟨fun he=> ?_,fun i hi=> ?_⟩
  ·have:=rd2 listed hl hr
   rw[he] at this;cases this
  ·rcases rd listed hl i hi with ⟨h1,_⟩|⟨rfl,_⟩
   ·rw[hr] at h1;cases h1
   ·exact last listed a w _ hq fun a w hq=>⟨fin listed hl hr,hq⟩
 |succ fuel ih=>
  intro listed a w hl h
  obtain⟨hq,hall⟩:=h
  refine⟨fun he=> ?_,fun i hi=> ?_⟩
  ·cases hr:Region.ready .any body listed with
   |nil=>
    have:=rd2 listed hl hr
    rw[he] at this;cases this
   |cons j l=>
    exfalso
    have hj:j∈Region.ready .any body listed:=by rw[hr];simp
    obtain⟨g1,y,g2,g3⟩:=mem_ready.1 hj
    have hjl:j<body.size:=(Array.getElem?_eq_some_iff.1 g2).1
    have:j∈Region.ready .any (body.push o) (listed.push false):=mem_ready.2 ⟨by
     have hjl':j<listed.size:=by omega
     simp only[Array.getD_eq_getD_getElem?,Array.getElem?_push]
     rw[if_neg (by omega)]
     simpa [Array.getD_eq_getD_getElem?] using g1,y,by rw[Array.getElem?_push,if_neg (by omega)];exact g2,fun e he hb=>by rw[zd8];exact g3 e he hb⟩
    rw[he] at this;cases this
  ·rcases rd listed hl i hi with ⟨h1,hil⟩|⟨rfl,hr⟩
   ·have h2:=hall i h1
    unfold wpOp at h2 ⊢
    have hget:(body.push o)[i]? =body[i]? :=by rw[Array.getElem?_push,if_neg (by omega)]
    rw[hget]
    cases hx:body[i]? with
    |none=>rw[Array.getElem?_eq_getElem hil] at hx;cases hx
    |some x=>
     simp only[hx] at h2 ⊢
     have hw:Region.wanted x (yielded (body.push o) a.tmps)=Region.wanted x (yielded body a.tmps):=by
      unfold Region.wanted
      cases hgd:x.guard with
      |none=>rfl
      |some p=>
       obtain⟨j,want⟩:=p
       have hj:=hG x (by simpa using Array.mem_of_getElem? hx) j want hgd
       have:yielded (body.push o) a.tmps j=yielded body a.tmps j:=by
        unfold yielded
        rw[Array.getElem?_push,if_neg (by omega)]
       simp only[this]
     rw[hw]
     have hset:(listed.push false).setIfInBounds i true=(listed.setIfInBounds i true).push false:=by
      apply Array.ext_getElem?
      intro m
      simp only[Array.getElem?_setIfInBounds,Array.getElem?_push,Array.size_push,Array.size_setIfInBounds]
      by_cases him:i=m
      ·subst him
       rw[if_pos rfl,if_pos (by omega),if_neg (by omega),if_pos rfl,if_pos (by omega)]
      ·rw[if_neg him,if_neg him]
     have hK: ∀ a w,wpAny P .any body (zq7 P Q o) fuel (listed.setIfInBounds i true) a w→wpAny P .any (body.push o) Q (fuel+1) ((listed.push false).setIfInBounds i true) a w:=fun a w hh=>by
      rw[hset];exact ih _ a w (by simpa using hl) hh
     split
     ·rename_i hwt
      rw[if_pos hwt] at h2
      rcases h2 with h2|⟨h2,h3⟩
      ·exact .inl (zy3 hK h2)
      ·exact .inr ⟨h2,zft h3⟩
     ·rename_i hwt
      rw[if_neg hwt] at h2
      exact hK _ _ h2
   ·refine last listed a w _ (hq hr) fun a w hq'=> ?_
    have hf:=fin listed hl hr
    exact⟨fun _=>hq',fun j hj=>by rw[hf] at hj;cases hj⟩
theorem zkj {n:Nat} {o:Oper}: ∀ {m:Nat},zu9 m o=true→ ∀ j,j<m→ ∃ e∈o.after,Region.binds .any e=true∧e.on=j
 |0,_,j,hj=>by omega
 |m+1,h,j,hj=>by
  unfold zu9 at h
  simp only[Bool.and_eq_true] at h
  by_cases hjm:j=m
  ·subst hjm
   obtain⟨e,he,h1,h2⟩:=zcv h.1
   exact⟨e,by simpa using he,h1,h2⟩
  ·exact zkj (n:=n) h.2 j (by omega)
theorem zgm: ∀ {l:List Oper} {b:List Oper} {o:Oper},znk l=some (b,o)→l=b++ [o]
 | [],b,o,h=>by simp[znk] at h
 | [x],b,o,h=>by simp[znk] at h;obtain⟨rfl,rfl⟩:=h;rfl
 |x::y::l,b,o,h=>by
  unfold znk at h
  cases hr:znk (y::l) with
  |none=>rw[hr] at h;cases h
  |some p=>
   obtain⟨b',o'⟩:=p
   rw[hr] at h
   simp only[Option.some.injEq,Prod.mk.injEq] at h
   obtain⟨rfl,rfl⟩:=h
   rw[zgm hr];rfl
theorem zea {n:Nat}: ∀ {l:List Oper},zd9 n l=true→ ∀ x∈l, ∀ j want,x.guard=some (j,want)→j<n
 | [],_,x,hx=>by simp at hx
 |y::l,h,x,hx=>by
  intro j want hg
  unfold zd9 at h
  simp only[Bool.and_eq_true] at h
  rcases List.mem_cons.1 hx with rfl|hx
  ·have h1:=h.1
   rw[hg] at h1
   exact Nat.le_of_ble_eq_true h1
  ·exact zea h.2 x hx j want hg
theorem xY: ∀ (l m:List Oper),opsDst (l++m)=opsDst l++opsDst m
 | [],m=>rfl
 |o::l,m=>by
  simp only[List.cons_append,opsDst]
  cases o.dst with
  |none=>exact xY l m
  |some t=>simp only[xY l m,List.cons_append]
theorem zi9 {N:Nat} {fl anc:List Nat} {ops:Array Oper} {id:Nat} {Q:Exit→Act→World→Prop} {k:List SV→List HO→Option R} {b:List Oper} {o:Oper} (hG:Given P C Γ) (hh:Hp B E hp w) (hf:SV.satL E fr a.tmps.toList) (hg:C.globsOk E.M)
  (hl:znk ops.toList=some (b,o)) (hB:zn9 C fl anc b.toArray=true) (hN:hp.length≤N) (hS:zu9 b.length o=true) (hgo:o.guard.isNone=true) (hgs:zd9 b.length b=true) (hoe:zbu b.length o.after.toList=true)
  (hn:zoe B E a (opsDst ops.toList) k r fun a' w'=>Q .normal a' w')
  (h:(xq C Γ b N fl anc 0 b fr ⟨hp, [], []⟩ fun fr hp=>zja C Γ ops.toList fr hp o k)=some r):(Code.region id ops true).wp P Q a w:=by
 have hops:ops=b.toArray.push o:=by
  apply Array.ext'
  rw[zgm hl];simp
 have hsz:ops.size=b.toArray.size+1:=by rw[hops];simp
 have hgo':o.guard=none:=by simpa using hgo
 have hD:zk8 b.toArray=true:=by simp only[zn9,Bool.and_eq_true] at hB;exact hB.1
 have hsub: ∀ t∈opsDst b,t∈opsDst ops.toList:=fun t ht=>by
  rw[zgm hl,xY];exact List.mem_append.2 (.inl ht)
 have hdo: ∀ t,o.dst=some t→t∈opsDst ops.toList:=fun t ht=>by
  rw[zgm hl,xY];exact List.mem_append.2 (.inr (by simp[opsDst,ht]))
 refine wp_region_any hG.mixed ?_
 have hbody:=zlb (ops:=b.toArray) (Q:=zq7 P Q o) (k:=fun fr hp=>zja C Γ ops.toList fr hp o k) hG hh hf hg hB hN (fun E' fr' hp' a' w' g1 g2 g3 g4 g5=>by
  refine zqa (l:=opsDst ops.toList) hG g2 g3 (C.globsOk_mono g1.1 hg) hdo ?_ g5
  intro E2 fr2 hp2 a2 w2 q1 q2 q3 q4 q5
  exact hn E2 fr2 hp2 a2 w2 (Env.le_trans g1 q1) q2 q3 ((g4.mono (by simpa using hsub)).trans q4) q5) h
 have:=zss (body:=b.toArray) (o:=o) (Q:=Q) hgo' (fun j hj=>zkj (n:=0) hS j (by simpa using hj)) (zcz hD) (fun x hx j want hxg=>by simpa using zea hgs x (by simpa using hx) j want hxg)
  (fun e he hb=>by simpa using jD hoe e (by simpa using he) hb) _ _ _ _ (by simp) hbody
 have hrep:(Array.replicate b.toArray.size false).push false=Array.replicate ops.size false:=by
  rw[hsz];apply Array.ext';simp[List.replicate_succ']
 rw[hrep, ← hsz, ← hops] at this
 exact this
end
end Go.Sx
