/- Level, plain: which classes and levels there are in the end. -/
import Derived.Test.YtlppdabhaipbkaaGreatDoorSxMp
set_option linter.unusedVariables false
set_option linter.unusedSimpArgs false
namespace Go.Sx
def zcu (P:Int→Prop) (l:List Int):Prop:= ∀ c∈l,P c
theorem zks {S:Type} {P Q:Int→Prop} {I:S→Prop} (g:S→Int→Int) (h:S→Int→S) (hg: ∀ s c,I s→P c→Q (g s c)∧I (h s c)): ∀ (l:List Int) (s:S),I s→zcu P l→zcu Q (zoc g h s l)
 | [],_,_,_=>by simp[zcu,zoc]
 |c::t,s,hs,hl=>by
  have h1:=hg s c hs (hl c (by simp))
  intro x hx
  rcases List.mem_cons.1 hx with rfl|hx
  ·exact h1.1
  ·exact zks g h hg t _ h1.2 (fun y hy=>hl y (by simp[hy])) x hx
def Q0 (c:Int):Prop:=0≤c∧c≤22∧outC c=false
def Q1 (c:Int):Prop:=Q0 c∧c≠8
def Q3 (c:Int):Prop:=Q1 c∧c≠2
def Q6 (c:Int):Prop:=c=0∨c=1∨c=3∨c=6∨jP c=true
def Q7 (c:Int):Prop:=c=0∨c=1∨c=3∨c=6
theorem zw0 {c:Int} (h:Q0 c):c=0∨c=1∨c=2∨c=3∨c=4∨c=5∨c=6∨c=7∨c=8∨c=10∨c=11∨c=12∨c=13∨c=19∨c=20∨c=21∨c=22:=by
 obtain⟨h1,h2,h3⟩:=h
 unfold outC at h3
 simp only[Bool.or_eq_false_iff,beq_eq_false_iff_ne] at h3
 omega
theorem z08 {c:Int} (h:Q0 c) (h8:c≠8) (h2:c≠2) (h4:c≠4) (h5:c≠5) (h7:c≠7):Q6 c:=by
 unfold Q6
 rcases zw0 h with e|e|e|e|e|e|e|e|e|e|e|e|e|e|e|e|e<;>subst e<;>first|exact absurd rfl h8|exact absurd rfl h2|exact absurd rfl h4|exact absurd rfl h5|exact absurd rfl h7|decide
theorem zqt {P:Int→Prop}: ∀ (t:List Int) (a:Int),P a→zcu P t→zcu P (zvv a t)
 | [],_,_,h=>h
 | [_],_,_,h=>h
 |c::b::t,a,ha,h=>by
  have hc:P (if zvu a b c=true then a else c):=by
   split
   ·exact ha
   ·exact h c (by simp)
  rw[zvv]
  intro x hx
  rcases List.mem_cons.1 hx with rfl|hx
  ·exact hc
  ·exact zqt (b::t) _ hc (fun y hy=>h y (by simp at hy ⊢;exact .inr hy)) x hx
theorem zor {P:Int→Prop} (h3:P 3): ∀ (t:List Int) (p:Bool),zcu P t→zcu P (etS p t)
 | [],_,h=>h
 |c::t,p,h=>by
  have ht:zcu P t:=fun y hy=>h y (by simp[hy])
  unfold etS
  split
  ·rename_i h5
   intro x hx
   rcases List.mem_cons.1 hx with rfl|hx
   ·split
    ·exact h3
    ·rw[← h5];exact h c (by simp)
   ·exact zor h3 t _ ht x hx
  ·intro x hx
   rcases List.mem_cons.1 hx with rfl|hx
   ·exact h x (by simp)
   ·exact zor h3 t _ ht x hx
theorem zxd {l:List Int} (h: ∀ c∈l,outC c=false) (s:Int):zcu Q6 (zje l s):=by
 have hs:zki s=0∨zki s=1:=by unfold zki;split<;>simp
 have h0:zcu Q0 (l.map znu):=by
  intro x hx
  obtain⟨c,hc,rfl⟩:=List.mem_map.1 hx
  unfold znu
  split
  ·exact⟨by decide,by decide,rfl⟩
  ·exact⟨by omega,by omega,h c hc⟩
 unfold zje
 generalize zki s=s at hs
 have h1:zcu Q1 (weakN s 1 (l.map znu)):=by
  refine zks (P:=Q0) (I:=fun a=>Q1 a) mkG mkH (fun a c ha hc=> ?_) _ s ?_ h0
  ·have hg:Q1 (mkG a c):=by
    unfold mkG
    split
    ·exact ha
    ·exact⟨hc,by assumption⟩
   refine⟨hg, ?_⟩
   unfold mkH
   split
   ·exact⟨⟨by decide,by decide,rfl⟩,by decide⟩
   ·exact hg
  ·rcases hs with e|e<;>subst e<;>exact⟨⟨by decide,by decide,rfl⟩,by decide⟩
 have hbe: ∀ {P:Int→Prop} {s fr to st:Int} {l:List Int},P to→zcu P l→zcu P (zev s fr to st l):=fun {P s fr to st l} ht hl=>
  zks (P:=P) (Q:=P) (I:=fun _=>True) _ _ (fun a c _ hc=>⟨by
   unfold beG
   split
   ·exact ht
   ·exact hc,trivial⟩) l s trivial hl
 have h2:zcu Q1 (weakN s 2 (l.map znu)):=hbe (P:=Q1) ⟨⟨by decide,by decide,rfl⟩,by decide⟩ h1
 have h3:zcu Q3 (weakN s 3 (l.map znu)):=by
  intro x hx
  obtain⟨c,hc,rfl⟩:=List.mem_map.1 hx
  unfold swC
  split
  ·exact⟨⟨⟨by decide,by decide,rfl⟩,by decide⟩,by decide⟩
  ·rename_i hn
   exact⟨h2 c hc,by simpa using hn⟩
 have h4:zcu Q3 (weakN s 4 (l.map znu)):=by
  show zcu Q3 (zj7 (weakN s 3 (l.map znu)))
  generalize weakN s 3 (l.map znu)=m at h3
  cases m with
  |nil=>exact h3
  |cons a t=>
   intro x hx
   rcases List.mem_cons.1 hx with rfl|hx
   ·exact h3 x (by simp)
   ·exact zqt t a (h3 a (by simp)) (fun y hy=>h3 y (by simp[hy])) x hx
 have h5:zcu Q3 (weakN s 5 (l.map znu)):=zor ⟨⟨⟨by decide,by decide,rfl⟩,by decide⟩,by decide⟩ _ _ h4
 have h6:zcu Q6 (weakN s 6 (l.map znu)):=by
  intro x hx
  obtain⟨c,hc,rfl⟩:=List.mem_map.1 hx
  have:=h5 c hc
  unfold swC
  split
  ·exact .inr (.inr (.inr (.inr rfl)))
  ·rename_i hn
   simp only[List.mem_cons,List.not_mem_nil,or_false,not_or] at hn
   exact z08 this.1.1 this.1.2 this.2 hn.1 hn.2.1 hn.2.2
 exact hbe (P:=Q6) (.inl rfl) h6
theorem zpm {P:Int→Prop} {l:List Int} {i:Nat} {v:Int} (hv:P v) (h:zcu P l):zcu P (l.set i v):=by
 intro x hx
 rcases List.mem_or_eq_of_mem_set hx with hx|hx
 ·exact h x hx
 ·rw[hx];exact hv
theorem zfo {P:Int→Prop} {first:List Int} {side:Int} (hs:P side): ∀ (n k:Nat) (l:List Int),zcu P l→zcu P (zf7 first side n k l)
 |0,_,_,h=>h
 |n+1,k,l,h=>by
  unfold zf7
  split
  ·exact zfo hs n (k+1) _ (zpm hs h)
  ·exact h
theorem zmk (l:List Int) {s:Int} (hs:s=0∨s=1): ∀ a,zbi l a s=0∨zbi l a s=1
 |0=>hs
 |a+1=>by
  rw[zod]
  split
  ·rename_i hge
   rcases jq (l.getD a 0) with e|e|e<;>omega
  ·exact zmk l hs a
theorem zs7 {ch cl first:List Int} {lev sos:Int} (h:zcu Q6 cl):zcu Q6 (ofS ch cl first lev sos):=by
 unfold ofS
 split
 ·have hs:zkj sos=0∨zkj sos=1:=by unfold zkj;split<;>simp
  have hd:=zez lev
  generalize zkj sos=s at hs
  generalize zct lev=d at hd
  suffices key: ∀ (ps:List (List Int)) (l:List Int),zcu Q6 l→zcu Q6 (ps.foldl (za9 first d s) l) from key _ _ h
  intro ps
  induction ps with
  |nil=>intro l hl;exact hl
  |cons p ps ih=>
   intro l hl
   rw[List.foldl_cons]
   refine ih _ ?_
   unfold za9
   split
   ·exact hl
   ·rename_i hne
    have hp:zfe d s l (p.getD 0 0).toNat (p.getD 1 0).toNat=0∨zfe d s l (p.getD 0 0).toNat (p.getD 1 0).toNat=1:=by
     unfold zfe at hne ⊢
     split
     ·rename_i hc;rw[if_pos hc] at hne;exact absurd rfl hne
     ·split
      ·exact hd
      ·exact zmk l hs _
    have hq:Q6 (zfe d s l (p.getD 0 0).toNat (p.getD 1 0).toNat):=by
     rcases hp with e|e<;>rw[e]
     ·exact .inl rfl
     ·exact .inr (.inl rfl)
    exact zfo hq _ _ _ (zpm hq (zfo hq _ _ _ (zpm hq hl)))
 ·exact h
theorem zls (lev eos:Int): ∀ (t:List Int) (p:Int),(p=0∨p=1)→zcu Q6 t→zcu Q7 (ziy lev eos p t)
 | [],_,_,_=>by simp[zcu,ziy]
 |c::t,p,hp,h=>by
  have ht:zcu Q6 t:=fun y hy=>h y (by simp[hy])
  have hd:=zez lev
  unfold ziy
  split
  ·intro x hx
   rcases List.mem_cons.1 hx with rfl|hx
   ·unfold Q7;split<;>omega
   ·exact zls lev eos t p hp ht x hx
  ·rename_i hn
   intro x hx
   rcases List.mem_cons.1 hx with rfl|hx
   ·have:=h x (by simp)
    unfold Q6 at this
    unfold Q7
    rcases this with e|e|e|e|e
    ·exact .inl e
    ·exact .inr (.inl e)
    ·exact .inr (.inr (.inl e))
    ·exact .inr (.inr (.inr e))
    ·exact absurd e hn
   ·refine zls lev eos t _ ?_ ht x hx
    unfold zvd
    split
    ·rename_i hge
     rcases jq c with e|e|e<;>omega
    ·exact hd
theorem zw7 {chars cl:List Int} {s:Sq} (h: ∀ p∈s.1,outC (cl.getD p.toNat 0)=false):zcu Q7 (zve chars cl s):=by
 unfold zve zuo
 refine zls _ _ _ _ (by unfold zki;split<;>simp) (zs7 (zxd (fun c hc=> ?_) _))
 obtain⟨p,hp,rfl⟩:=List.mem_map.1 hc
 exact h p hp
theorem zu3 (f:Int→Int): ∀ (a V m1 m2:List Int),a.length=V.length→m1.length=m2.length→ ∀ i,i<m1.length→
  ((i:Int)∉a∧(zkc a (V.map f) m1).getD i 0=m1.getD i 0∧(zkc a V m2).getD i 0=m2.getD i 0)∨
  (∃ c∈V,(zkc a (V.map f) m1).getD i 0=f c∧(zkc a V m2).getD i 0=c∧(i:Int)∈a)∨ ∃ p∈a,p<0
 | [],V,m1,m2,_,_,i,_=> .inl ⟨by simp,by simp[zkc],by simp[zkc]⟩
 |p::a, [],m1,m2,h,_,i,_=>by simp at h
 |p::a,v::V,m1,m2,h,hm,i,hi=>by
  rw[List.map_cons,zkc,zkc]
  rcases zu3 f a V (m1.set p.toNat (f v)) (m2.set p.toNat v) (by simpa using h) (by simpa using hm) i (by simpa using hi) with ⟨g1,g2,g3⟩|⟨c,g1,g2,g3,g4⟩|⟨q,g1,g2⟩
  ·by_cases hp:p<0
   ·exact .inr (.inr ⟨p,by simp,hp⟩)
   by_cases hpi:p.toNat=i
   ·refine .inr (.inl ⟨v,by simp, ?_, ?_,by rw[List.mem_cons];left;omega⟩)
    ·rw[g2,hpi,zar _ _ _ hi]
    ·rw[g3,hpi,zar _ _ _ (by omega)]
   ·refine .inl ⟨?_, ?_, ?_⟩
    ·intro hmem
     rcases List.mem_cons.1 hmem with e|e
     ·omega
     ·exact g1 e
    ·rw[g2,List.getD_eq_getElem?_getD,List.getElem?_set_ne hpi, ← List.getD_eq_getElem?_getD]
    ·rw[g3,List.getD_eq_getElem?_getD,List.getElem?_set_ne hpi, ← List.getD_eq_getElem?_getD]
  ·exact .inr (.inl ⟨c,by simp[g1],g2,g3,by simp[g4]⟩)
  ·exact .inr (.inr ⟨q,by simp[g1],g2⟩)
def GoodLC (b l c:Int):Prop:=Q7 c∧b≤l∧l≤126∧(c=0→l % 2=0)∧(c=1→l % 2=1)∧(c=3∨c=6→l % 2=0)
theorem zt6 {b lev c:Int} (h0:b≤lev) (h1:lev≤125) (hc:Q7 c):GoodLC b (lvC lev c) c:=by
 have hm:=Int.emod_nonneg lev (by decide:(2:Int)≠0)
 have hm2:=Int.emod_lt_of_pos lev (by decide:(0:Int)<2)
 refine⟨hc, ?_⟩
 unfold lvC
 rcases hc with e|e|e|e<;>subst e<;>simp<;>omega
structure FoldOk (b:Int) (first:List Int) (done:Int→Prop) (lc:List Int×List Int):Prop where
 l1:lc.1.length=first.length
 l2:lc.2.length=first.length
 lev: ∀ i,i<first.length→b≤lc.1.getD i 0∧lc.1.getD i 0≤126
 out: ∀ i,i<first.length→outC (lc.2.getD i 0)=outC (first.getD i 0)
 good: ∀ i,i<first.length→done (i:Int)→GoodLC b (lc.1.getD i 0) (lc.2.getD i 0)
theorem z0r {c:Int} (h:Q7 c):outC c=false:=by rcases h with e|e|e|e<;>subst e<;>rfl
theorem zt2 {b:Int} {chars first:List Int} (hcf:chars.length=first.length): ∀ (S:List Sq) (done:Int→Prop) (lc:List Int×List Int),FoldOk b first done lc→(∀ s∈S,b≤s.2.1∧s.2.1≤125∧ ∀ p∈s.1,p∈seenS first)→
  FoldOk b first (fun i=>done i∨ ∃ s∈S,i∈s.1) (S.foldl (z6 chars) lc)
 | [],done,lc,h,_=>⟨h.l1,h.l2,h.lev,h.out,fun i hi hd=>h.good i hi (by simpa using hd)⟩
 |s::S,done,lc,h,hS=>by
  obtain⟨s1,s2,s3⟩:=hS s (by simp)
  have hV:=zw7 (chars:=chars) (cl:=lc.2) (s:=s) fun p hp=>by
   obtain⟨j,rfl,hj,ho⟩:=qE (s3 p hp)
   rw[Int.toNat_natCast,h.out j hj,ho]
  have hVl:=zq6 chars lc.2 s
  have hput:=fun i hi=>zu3 (lvC s.2.1) s.1 (zve chars lc.2 s) lc.1 lc.2 hVl.symm (by rw[h.l1,h.l2]) i hi
  have hneg: ¬ ∃ p∈s.1,p<0:=by
   rintro ⟨p,hp,hlt⟩
   obtain⟨j,rfl,_⟩:=qE (s3 p hp)
   omega
  have step:FoldOk b first (fun i=>done i∨i∈s.1) (z6 chars lc s):=by
   refine⟨by rw[← h.l1];exact zax ..,by rw[← h.l2];exact zax ..,fun i hi=> ?_,fun i hi=> ?_,fun i hi hd=> ?_⟩
   ·rcases hput i (by rw[h.l1];exact hi) with ⟨_,g2,_⟩|⟨c,g1,g2,_,_⟩|g
    ·rw[show(z6 chars lc s).1.getD i 0=lc.1.getD i 0 from g2];exact h.lev i hi
    ·rw[show(z6 chars lc s).1.getD i 0=lvC s.2.1 c from g2]
     have:=zt6 s1 s2 (hV c g1)
     exact⟨this.2.1,this.2.2.1⟩
    ·exact absurd g hneg
   ·rcases hput i (by rw[h.l1];exact hi) with ⟨_,_,g3⟩|⟨c,g1,_,g3,g4⟩|g
    ·rw[show(z6 chars lc s).2.getD i 0=lc.2.getD i 0 from g3];exact h.out i hi
    ·rw[show(z6 chars lc s).2.getD i 0=c from g3,z0r (hV c g1)]
     obtain⟨j,e,_,ho⟩:=qE (s3 _ g4)
     have e:i=j:=by omega
     rw[e,ho]
    ·exact absurd g hneg
   ·rcases hput i (by rw[h.l1];exact hi) with ⟨g1,g2,g3⟩|⟨c,g1,g2,g3,_⟩|g
    ·rw[show(z6 chars lc s).1.getD i 0=lc.1.getD i 0 from g2,show(z6 chars lc s).2.getD i 0=lc.2.getD i 0 from g3]
     exact h.good i hi (hd.resolve_right g1)
    ·rw[show(z6 chars lc s).1.getD i 0=lvC s.2.1 c from g2,show(z6 chars lc s).2.getD i 0=c from g3]
     exact zt6 s1 s2 (hV c g1)
    ·exact absurd g hneg
  rw[List.foldl_cons]
  have:=zt2 hcf S _ _ step fun x hx=>hS x (by simp[hx])
  refine⟨this.l1,this.l2,this.lev,this.out,fun i hi hd=>this.good i hi ?_⟩
  rcases hd with hd|⟨x,hx,hxi⟩
  ·exact .inl (.inl hd)
  ·rcases List.mem_cons.1 hx with rfl|hx
   ·exact .inl (.inr hxi)
   ·exact .inr ⟨x,hx,hxi⟩
theorem zu5 {b:Int}: ∀ (cs vs:List Int) (q:Int),cs.length=vs.length→(b≤q∧q≤126)→(∀ v∈vs,b≤v∧v≤126)→ ∀ i,i<cs.length→b≤(zfi q cs vs).getD i 0∧(zfi q cs vs).getD i 0≤126∧(outC (cs.getD i 0)=false→(zfi q cs vs).getD i 0=vs.getD i 0)
 | [],_,_,_,_,_,i,hi=>by simp at hi
 |c::cs, [],_,h,_,_,_,_=>by simp at h
 |c::cs,v::vs,q,h,hq,hv,i,hi=>by
  have hv0:=hv v (by simp)
  have hx:b≤(if outC c=true then q else v)∧(if outC c=true then q else v)≤126:=by split<;>assumption
  rw[zfi]
  cases i with
  |zero=>
   refine⟨hx.1,hx.2,fun ho=> ?_⟩
   have ho:outC c=false:=ho
   show(if outC c=true then q else v)=v
   rw[ho];rfl
  |succ i=>exact zu5 cs vs _ (by simpa using h) hx (fun y hy=>hv y (by simp[hy])) i (by simpa using hi)
theorem zsj (c v:List Int) (base:Int) {p:Int} (hp:p∈seenS c): ∃ s∈zeo c v base,p∈s.1:=by
 have hR:=zq3 (zi1 c v) (seenS c)
 have hp2:p∈(xL c v).flatten:=by rw[show(xL c v).flatten=seenS c from hR.all];exact hp
 obtain⟨r,hr,hpr⟩:=List.mem_flatten.1 hp2
 obtain⟨k,hk,rfl⟩:=List.getElem_of_mem hr
 have hlt:zf5 (nxR c (xL c v)) k<qW (nxR c (xL c v)) (xL c v).length:=Nat.lt_of_lt_of_le (zpn _ k) (zfh (by omega))
 refine⟨_,List.mem_map.2 ⟨zf5 (nxR c (xL c v)) k,List.mem_range.2 hlt,rfl⟩, ?_⟩
 show p∈zix (xL c v) (zgf (nxR c (xL c v)) (xL c v).length (zf5 (nxR c (xL c v)) k))
 refine List.mem_flatMap.2 ⟨k, ?_, ?_⟩
 ·unfold zgf
  rw[List.mem_filter]
  exact⟨List.mem_range.2 hk,by simp⟩
 ·rw[zp _ hk];exact hpr
theorem zuf {chars:List Int} (dir:Int):(zst chars dir).2.length=chars.length∧ ∀ i,i<chars.length→
  zY (chars.map qn) dir≤(zrw chars dir).getD i 0∧(zrw chars dir).getD i 0≤126∧outC ((zst chars dir).2.getD i 0)=outC (qn (chars.getD i 0))∧
  (outC (qn (chars.getD i 0))=false→GoodLC (zY (chars.map qn) dir) ((zrw chars dir).getD i 0) ((zst chars dir).2.getD i 0)):=by
 have hm:(chars.map qn).length=chars.length:=List.length_map ..
 have hg: ∀ i,i<chars.length→(chars.map qn).getD i 0=qn (chars.getD i 0):=fun i hi=>by rw[zp 0 (by omega),zp 0 hi,List.getElem_map]
 have hb:=zg7 (zY (chars.map qn) dir)
 have hbl:qt (zY (chars.map qn) dir)=zY (chars.map qn) dir:=by
  rcases zgu (chars.map qn) dir with e|e<;>rw[e]<;>rfl
 obtain⟨_,_,t1,t2,t3⟩:=zac hb (chars.map qn) chars.length
 have hlv:=zgu (chars.map qn) dir
 unfold zrw zst
 generalize zY (chars.map qn) dir=base at*
 rw[hbl] at*
 generalize hcs:chars.map qn=cs at*
 generalize xN cs base chars.length=st at*
 have h0:FoldOk base cs (fun _=>False) (st.lv,st.cl):=⟨by rw[hm];exact t1,by rw[hm];exact t2,fun i hi=>by have:=t3 i (by omega);exact⟨this.1,by show st.lv.getD i 0≤126;omega⟩,fun i hi=>(t3 i (by omega)).2.2.1,fun _ _ h=>h.elim⟩
 have hv: ∀ i,0≤st.lv.getD i 0∧st.lv.getD i 0≤125:=fun i=>by
  by_cases hi:i<chars.length
  ·have:=t3 i hi;omega
  ·rw[List.getD_eq_getElem?_getD,List.getElem?_eq_none (by omega)];simp
 have hF:=zt2 (by omega:chars.length=cs.length) (zeo cs st.lv base) _ _ h0 fun s hs=>by
  obtain⟨q1,_,_,q4,q5,q6⟩:=zxw (n:=chars.length) hm hv hs
  refine⟨?_,q4,q6⟩
  have hp:s.1.getD 0 0∈s.1:=by
   have:0<s.1.length:=xW q5
   rw[zp 0 this];exact List.getElem_mem _
  have hr:=q1 _ hp
  unfold zeo at hs
  obtain⟨k,_,rfl⟩:=List.mem_map.1 hs
  exact(t3 _ (by
   have:(zsu cs st.lv (zix (xL cs st.lv) (zgf (nxR cs (xL cs st.lv)) (xL cs st.lv).length k)) base).1=zix (xL cs st.lv) (zgf (nxR cs (xL cs st.lv)) (xL cs st.lv).length k):=rfl
   rw[this] at hr
   omega)).1
 generalize (zeo cs st.lv base).foldl (z6 chars) (st.lv,st.cl)=lc at hF ⊢
 refine⟨by rw[hF.l2];exact hm,fun i hi=> ?_⟩
 have hi':i<cs.length:=by omega
 have hrest:=zu5 (b:=base) cs lc.1 base hF.l1.symm ⟨Int.le_refl _,by omega⟩ (fun v hvm=>by
  obtain⟨j,hj,rfl⟩:=List.getElem_of_mem hvm
  have:=hF.lev j (by rw[← hF.l1];exact hj)
  rwa [zp 0 hj] at this) i hi'
 rw[hg i hi] at hrest
 have hout:=hF.out i hi'
 rw[hg i hi] at hout
 refine⟨hrest.1,hrest.2.1,hout,fun ho=> ?_⟩
 rw[hrest.2.2 ho]
 refine hF.good i hi' (.inr ?_)
 have hseen:(i:Int)∈seenS cs:=zxv.2 ⟨i,rfl,hi',by rw[hg i hi];exact ho⟩
 exact zsj cs st.lv base hseen
end Go.Sx
