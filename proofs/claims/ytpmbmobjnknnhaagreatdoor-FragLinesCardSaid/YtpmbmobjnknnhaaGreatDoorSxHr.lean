/- Level, plain: texts of letters alone. -/
import Derived.Test.YtpmbmobjnknnhaaGreatDoorSxHi
import Derived.Test.YtpmbmobjnknnhaaGreatDoorSxHn
set_option linter.unusedVariables false
set_option linter.unusedSimpArgs false
namespace Go.Sx
def LR (l:List Int):Prop:= ∀ c∈l,c=0∨c=1
theorem zlk {S:Type} (g:S→Int→Int) (h:S→Int→S): ∀ (l:List Int),(∀ s, ∀ c∈l,g s c=c)→ ∀ s,zsf g h s l=l
 | [],_,_=>rfl
 |c::t,hg,s=>by rw[zsf,hg s c (by simp),zlk g h t (fun s x hx=>hg s x (by simp[hx]))]
theorem zid {f:Int→Int}: ∀ (l:List Int),(∀ c∈l,f c=c)→l.map f=l
 | [],_=>rfl
 |c::t,h=>by rw[List.map_cons,h c (by simp),zid t fun x hx=>h x (by simp[hx])]
theorem zv7: ∀ (t:List Int) (a:Int),(a=0∨a=1)→LR t→zy5 a t=t
 | [],_,_,_=>rfl
 | [_],_,_,_=>rfl
 |c::b::t,a,ha,h=>by
  have hp:zx5 a b c=false:=by
   unfold zx5
   rcases ha with rfl|rfl<;>simp
  rw[zy5,hp,if_neg (by decide),zv7 (b::t) c (h c (by simp)) fun x hx=>h x (by simp at hx ⊢;exact .inr hx)]
theorem zyu: ∀ (t:List Int) (p:Bool),LR t→etS p t=t
 | [],_,_=>rfl
 |c::t,p,h=>by
  have:=h c (by simp)
  rw[etS,if_neg (by omega),zyu t _ fun x hx=>h x (by simp[hx])]
theorem LR.rule {l:List Int} (h:LR l) (s:Int) (k:Nat):zqj s k l=l:=by
 unfold zqj
 split
 ·exact zlk _ _ _ (fun s c hc=>by unfold mkG;rw[if_neg (by have:=h c hc;omega)]) _
 ·exact zlk _ _ _ (fun s c hc=>by unfold beG;rw[if_neg (by have:=h c hc;omega)]) _
 ·exact zid _ fun c hc=>by unfold swC;rw[if_neg (by have:=h c hc;simp;omega)]
 ·cases l with
  |nil=>rfl
  |cons a t=>rw[zor,zv7 t a (h a (by simp)) fun x hx=>h x (by simp[hx])]
 ·exact zyu l false h
 ·exact zid _ fun c hc=>by unfold swC;rw[if_neg (by have:=h c hc;simp;omega)]
 ·exact zlk _ _ _ (fun s c hc=>by unfold beG;rw[if_neg (by have:=h c hc;omega)]) _
theorem LR.weakN {l:List Int} (h:LR l) (s:Int): ∀ k,weakN s k l=l
 |0=>rfl
 |k+1=>by rw[Go.Sx.weakN,LR.weakN h s k,h.rule]
theorem LR.weak {l:List Int} (h:LR l) (s:Int):zo5 l s=l:=by
 unfold zo5
 rw[zid l fun c hc=>by unfold z0g;rw[if_neg (by have:=h c hc;omega)]]
 exact h.weakN _ _
theorem zv3 (ch cl:List Int) (h: ∀ i,cl.getD i 0≠13): ∀ (n i:Nat) (ws:List Nat),pW ch cl n i ws= []
 |0,_,_=>rfl
 |n+1,i,ws=>by
  rw[pW,if_pos (by rw[Bool.or_eq_true,bne_iff_ne];exact .inr (h i)),zv3 ch cl h n]
theorem LR.brack {ch cl first:List Int} (h:LR cl) (hl:ch.length≤1000) (lev sos:Int):ofS ch cl first lev sos=cl:=by
 unfold ofS
 split
 ·rename_i hh
  have hp:=(zqf ch cl hl hh.1).2.2
  rw[zv3 ch cl (fun i=>by
   by_cases hi:i<cl.length
   ·rw[zo 0 hi]
    have:=h _ (List.getElem_mem hi)
    omega
   ·rw[List.getD_eq_getElem?_getD,List.getElem?_eq_none (by omega)];decide)] at hp
  have he:prS ch cl= []:=List.perm_nil.1 (by simpa using hp)
  rw[he]
  rfl
 ·rfl
theorem zvt (lev eos:Int): ∀ (t:List Int) (p:Int),LR t→zml lev eos p t=t
 | [],_,_=>rfl
 |c::t,p,h=>by
  have hc:zaa c=false:=by rcases h c (by simp) with rfl|rfl<;>rfl
  rw[zml,hc,if_neg (by decide),zvt lev eos t _ fun x hx=>h x (by simp[hx])]
def zO (n:Nat):List Int:=(List.range n).map fun(k:Nat)=>(k:Int)
theorem xh (n:Nat):zO (n+1)=zO n++ [(n:Int)]:=by simp[zO,List.range_succ]
theorem LR.out {c:List Int} (h:LR c) (k:Nat):zgb (c.getD k 0)=false∧opens (c.getD k 0)=false∧c.getD k 0≠10:=by
 by_cases hk:k<c.length
 ·rw[zo 0 hk]
  rcases h _ (List.getElem_mem hk) with e|e<;>rw[e]<;>decide
 ·rw[List.getD_eq_getElem?_getD,List.getElem?_eq_none (by omega)];decide
theorem LR.sN {c:List Int} (h:LR c): ∀ k,sN c k=zO k
 |0=>rfl
 |k+1=>by rw[ziz,(h.out k).1,if_neg (by decide),LR.sN h k,xh]
theorem LR.runs {c v:List Int} (h:LR c) {b:Int} (hv: ∀ i,i<c.length→v.getD i 0=b): ∀ k,k+1≤c.length→zbh (zj9 c v) (zO (k+1))= [zO (k+1)]
 |0,_=>rfl
 |k+1,hk=>by
  rw[xh (k+1),zk7,LR.runs h hv k (by omega),xh k]
  have:=zfw (zj9 c v) [] (zO k) (k:Int) ((k+1:Nat):Int)
  rw[List.nil_append,List.nil_append] at this
  rw[this,if_neg]
  unfold zj9
  rw[Int.toNat_natCast,Int.toNat_natCast,hv k (by omega),hv (k+1) (by omega)]
  simp[(h.out k).2.2]
  exact(h.out k).2.2
theorem LR.seqs {c v:List Int} (h:LR c) {b:Int} (hv: ∀ i,i<c.length→v.getD i 0=b) (base:Int) (h0:0<c.length):zjz c v base= [zwi c v (zO c.length) base]:=by
 have hr:zjy c v= [zO c.length]:=by
  unfold zjy seenS
  rw[h.sN]
  obtain⟨k,hk⟩: ∃ k,c.length=k+1:=⟨c.length - 1,by omega⟩
  rw[hk]
  exact h.runs hv k (by omega)
 unfold zjz
 rw[hr]
 have h1: ∀ nx:Nat→Option Nat,xk nx [zO c.length].length=1:=fun _=>rfl
 have h2: ∀ nx:Nat→Option Nat,zjv nx [zO c.length].length 0= [0]:=by
  intro nx
  have hp:qQ nx 0=none:=rfl
  show(List.range 1).filter (fun i=>zi6 nx i==0)= [0]
  have:zi6 nx 0=0:=(zaj hp).trans rfl
  simp[List.range_succ,this]
 rw[h1]
 show [zwi c v (zls [zO c.length] (zjv _ [zO c.length].length 0)) base]=_
 rw[h2]
 simp[zls]
theorem zrz: ∀ (vs d m:List Int),m.length=vs.length→zt1 ((List.range' d.length vs.length).map fun(k:Nat)=>(k:Int)) vs (d++m)=d++vs
 | [],d,m,h=>by
  have:m= []:=List.eq_nil_of_length_eq_zero h
  subst this
  rfl
 |v::vs,d,m,h=>by
  obtain⟨x,m,rfl⟩: ∃ x m',m=x::m':=by
   cases m with
   |nil=>simp at h
   |cons x m=>exact⟨x,m,rfl⟩
  rw[List.length_cons,List.range'_succ,List.map_cons,zt1,Int.toNat_natCast]
  have e:(d++x::m).set d.length v=(d++ [v])++m:=by simp
  rw[e]
  have:=zrz vs (d++ [v]) m (by simpa using h)
  rw[List.length_append,List.length_singleton] at this
  rw[this]
  simp
theorem zr5: ∀ (cs vs:List Int) (b:Int),cs.length=vs.length→(∀ c∈cs,zgb c=false)→zmz b cs vs=vs
 | [], [],_,_,_=>rfl
 |c::cs,v::vs,b,h,ho=>by
  rw[zmz,ho c (by simp),if_neg (by decide),zr5 cs vs v (by simpa using h) fun x hx=>ho x (by simp[hx])]
theorem zxk {l m:List Int} (hl:l.length=m.length) (h: ∀ i,i<l.length→l.getD i 0=m.getD i 0):l=m:=by
 refine List.ext_getElem hl fun i h1 h2=> ?_
 have:=h i h1
 rwa [zo 0 h1,zo 0 h2] at this
theorem z0b {chars:List Int} (hn:chars.length≤1000) (h:LR (chars.map zX)) (dir:Int):
  zcn chars dir=(chars.map zX).map (lvC (zU (chars.map zX) dir)):=by
 by_cases h0:chars.length=0
 ·have:chars= []:=List.eq_nil_of_length_eq_zero h0
  subst this
  exact List.eq_nil_of_length_eq_zero (zd9 [] dir)
 have hm:(chars.map zX).length=chars.length:=List.length_map ..
 have hb:=zlo (zU (chars.map zX) dir)
 have hbl:qw (zU (chars.map zX) dir)=zU (chars.map zX) dir:=by
  rcases zrp (chars.map zX) dir with e|e<;>rw[e]<;>rfl
 obtain⟨_,_,t1,t2,_⟩:=zcc hb (chars.map zX) chars.length
 obtain⟨_,_,t3⟩:=zk6 hb (chars.map zX) chars.length fun i hi=>by
  have:=h.out i
  unfold zv5
  rw[show outS ((chars.map zX).getD i 0)=false from this.1,this.2.1]
  have hi':i<(chars.map zX).length:=by omega
  rw[zo 0 hi']
  rcases h _ (List.getElem_mem hi') with e|e<;>rw[e]<;>rfl
 unfold zcn z0n
 generalize zU (chars.map zX) dir=base at*
 rw[hbl] at*
 generalize hcs:chars.map zX=cs at*
 generalize xS cs base chars.length=st at*
 have hcl:st.cl=cs:=zxk (by omega) fun i hi=>by
  rw[(t3 i (by omega)).2]
  have hi':i<cs.length:=by omega
  rw[zo 0 hi']
  have:=h _ (List.getElem_mem hi')
  rw[if_neg (by omega)]
 rw[hcl,h.seqs (b:=base) (fun i hi=>(t3 i (by omega)).1) base (by omega),List.foldl_cons,List.foldl_nil]
 have hpick:zfp cs (zO cs.length)=cs:=by
  unfold zfp zO
  rw[List.map_map]
  exact(zek cs id).trans (List.map_id cs)
 have hV:zy9 chars cs (zwi cs st.lv (zO cs.length) base)=cs:=by
  unfold zy9 zwi
  dsimp only
  rw[hpick,h.weak,h.brack (by simp[zfp,zO];omega)]
  exact zvt _ _ cs _ h
 have hlv:(zwi cs st.lv (zO cs.length) base).2.1=base:=by
  show st.lv.getD ((zO cs.length).getD 0 0).toNat 0=base
  obtain⟨k,hk⟩: ∃ k,cs.length=k+1:=⟨cs.length - 1,by omega⟩
  have:(zO cs.length).getD 0 0=0:=by rw[zo 0 (by simp[zO];omega)];simp[zO]
  rw[this]
  exact(t3 0 (by omega)).1
 unfold xT
 rw[hV,hlv]
 have hp:zt1 (zwi cs st.lv (zO cs.length) base).1 (cs.map (lvC base)) st.lv=cs.map (lvC base):=by
  have:=zrz (cs.map (lvC base)) [] st.lv (by rw[List.length_map];omega)
  rw[List.length_nil,List.length_map,List.nil_append,List.nil_append, ← List.range_eq_range'] at this
  exact this
 rw[hp]
 exact zr5 _ _ _ (by rw[List.length_map]) fun c hc=>by rcases h c hc with e|e<;>rw[e]<;>rfl
end Go.Sx
namespace Go.Sx
theorem zox (p:Int→Bool) (f:List Int→List Int): ∀ (u pend:List Int),(∀ c∈pend,p c=true)→ ∃ r,(∀ c∈pend++r,p c=true)∧f (pend++r) <:+: jT p f pend u
 | [],pend,h=>⟨[],by simpa using h,by simp[jT]⟩
 |c::u,pend,h=>by
  unfold jT
  cases hc:p c with
  |true=>
   obtain⟨r,h1,h2⟩:=zox p f u (pend++ [c]) (fun x hx=>(List.mem_append.1 hx).elim (h x) (fun e=>by rw[List.mem_singleton.1 e];exact hc))
   rw[if_pos rfl]
   exact⟨c::r,by simpa using h1,by simpa using h2⟩
  |false=>
   rw[if_neg (by decide)]
   exact⟨[],by simpa using h,by simpa using(List.prefix_append (f pend) _).isInfix⟩
theorem zi0 (p:Int→Bool) (f:List Int→List Int) {x y:Int} (hx:p x=true) (hy:p y=true) (u:List Int): ∀ (s pend:List Int),(∀ c∈pend,p c=true)→
  ∃ run, [x,y] <:+: run∧(∀ c∈run,p c=true)∧f run <:+: jT p f pend (s++x::y::u)
 | [],pend,h=>by
  obtain⟨r,h1,h2⟩:=zox p f u (pend++ [x]++ [y]) (fun c hc=>by
   simp only[List.mem_append,List.mem_singleton] at hc
   rcases hc with (hc|hc)|hc
   ·exact h c hc
   ·rw[hc];exact hx
   ·rw[hc];exact hy)
  refine⟨pend++ [x]++ [y]++r,⟨pend,r,by simp⟩,h1, ?_⟩
  rw[List.nil_append,jT,if_pos hx,jT,if_pos hy]
  exact h2
 |c::s,pend,h=>by
  rw[List.cons_append,jT]
  cases hc:p c with
  |true=>
   rw[if_pos rfl]
   exact zi0 p f hx hy u s (pend++ [c]) (fun z hz=>(List.mem_append.1 hz).elim (h z) (fun e=>by rw[List.mem_singleton.1 e];exact hc))
  |false=>
   rw[if_neg (by decide)]
   obtain⟨run,h1,h2,h3⟩:=zi0 p f hx hy u s [] (by simp)
   exact⟨run,h1,h2,h3.trans ⟨f pend++ [c], [],by simp⟩⟩
theorem zg9 (p:Int→Bool) (f:List Int→List Int) (hf:f []= []) {x y:Int} (hx:p x=false) (hy:p y=false) (u:List Int): ∀ (s pend:List Int), [x,y] <:+: jT p f pend (s++x::y::u)
 | [],pend=>by
  rw[List.nil_append,jT,if_neg (by rw[hx];decide),jT,if_neg (by rw[hy];decide),hf]
  exact⟨f pend,jT p f [] u,by simp⟩
 |c::s,pend=>by
  rw[List.cons_append,jT]
  split
  ·exact zg9 p f hf hx hy u s _
  ·exact(zg9 p f hf hx hy u s []).trans ⟨f pend++ [c], [],by simp⟩
theorem zdj {x y:Int} {l:List Int} (h: [x,y] <:+: l): ∃ s u,l=s++x::y::u:=by
 obtain⟨s,u,h⟩:=h
 exact⟨s,u,by rw[← h];simp⟩
theorem zh6 {x y:Int} {l:List Int} (h: [x,y] <:+: l): [y,x] <:+: l.reverse:=by
 have:=List.reverse_infix.2 h
 simpa using this
theorem zmu {m k:Nat} (hk:k+1<m): ∃ u,zO m=zO k++(k:Int)::((k+1:Nat):Int)::u:=by
 obtain⟨d,rfl⟩: ∃ d,m=k+2+d:=⟨m - (k+2),by omega⟩
 induction d with
 |zero=>exact⟨[],by rw[show k+2+0=(k+1)+1 from rfl,xh,xh];simp⟩
 |succ d ih=>
  obtain⟨u,hu⟩:=ih (by omega)
  exact⟨u++ [((k+2+d:Nat):Int)],by rw[show k+2+(d+1)=(k+2+d)+1 from rfl,xh,hu];simp⟩
theorem zyb {lv:List Int} (h2: ∀ i,lv.getD i 0≤2) (a:List Int):zr6 lv 127 0 a=jT (fun q=>decide (lv.getD q.toNat 0 > 0)) (fun r=>(jT (fun q=>decide (lv.getD q.toNat 0 > 1)) (fun r=>r.reverse) [] r).reverse) [] a:=by
 have e1: ∀ r,zr6 lv 125 2 r=r:=fun r=>by
  show jT _ _ [] r=r
  exact zi1 _ _ (by simp[zr7]) r fun c _=>by have:=h2 c.toNat;exact decide_eq_false (by omega)
 have e2: ∀ r,zr6 lv 126 1 r=jT (fun q=>decide (lv.getD q.toNat 0 > 1)) (fun r=>r.reverse) [] r:=fun r=>by
  show jT _ (fun r=>(zr6 lv 125 (1+1) r).reverse) [] r=_
  rw[show(fun r=>(zr6 lv 125 (1+1) r).reverse)=(fun r=>r.reverse) from funext fun r=>by rw[show(1:Int)+1=2 from rfl,e1]]
 show jT _ (fun r=>(zr6 lv 126 (0+1) r).reverse) [] a=_
 rw[show(fun r=>(zr6 lv 126 (0+1) r).reverse)=(fun r=>(jT (fun q=>decide (lv.getD q.toNat 0 > 1)) (fun r=>r.reverse) [] r).reverse) from funext fun r=>by rw[show(0:Int)+1=1 from rfl,e2]]
theorem ztg {lv:List Int} (hr: ∀ i,0≤lv.getD i 0∧lv.getD i 0≤2) {k:Nat} (hk:k+1<lv.length):
  (lv.getD k 0=lv.getD (k+1) 0→lv.getD k 0 % 2=0→ [(k:Int),((k+1:Nat):Int)] <:+: zqd lv)∧(lv.getD k 0=1→lv.getD (k+1) 0=1→ [((k+1:Nat):Int),(k:Int)] <:+: zqd lv):=by
 have hcl:lv.map zf5=lv:=zid lv fun c hc=>by
  obtain⟨i,hi,rfl⟩:=List.getElem_of_mem hc
  have:=hr i
  rw[zo 0 hi] at this
  unfold zf5 zen zif
  split<;>split<;>omega
 unfold zqd
 rw[hcl,zyb fun i=>(hr i).2]
 show(_→_→_ <:+: jT _ _ [] (zO lv.length))∧(_→_→_ <:+: jT _ _ [] (zO lv.length))
 obtain⟨u,hu⟩:=zmu hk
 rw[hu]
 have t1:(k:Int).toNat=k:=Int.toNat_natCast k
 have t2:((k+1:Nat):Int).toNat=k+1:=Int.toNat_natCast _
 have hk0:=hr k
 have hk1:=hr (k+1)
 refine⟨fun he hev=> ?_,fun h1 h2=> ?_⟩
 ·by_cases h0:lv.getD k 0=0
  ·exact zg9 _ _ (by simp[jT]) (decide_eq_false (by rw[t1];omega)) (decide_eq_false (by rw[t2];omega)) u _ _
  ·have h2:lv.getD k 0=2:=by omega
   obtain⟨run,g1,g2,g3⟩:=zi0 (fun q=>decide (lv.getD q.toNat 0 > 0)) (fun r=>(jT (fun q=>decide (lv.getD q.toNat 0 > 1)) (fun r=>r.reverse) [] r).reverse) (x:=(k:Int)) (y:=((k+1:Nat):Int)) (decide_eq_true (by rw[t1];omega)) (decide_eq_true (by rw[t2];omega)) u (zO k) [] (by simp)
   refine List.IsInfix.trans ?_ g3
   obtain⟨s,v,rfl⟩:=zdj g1
   obtain⟨run2,q1,q2,q3⟩:=zi0 (fun q=>decide (lv.getD q.toNat 0 > 1)) (fun r=>r.reverse) (x:=(k:Int)) (y:=((k+1:Nat):Int)) (decide_eq_true (by rw[t1];omega)) (decide_eq_true (by rw[t2];omega)) v s [] (by simp)
   have:=(zh6 q1).trans q3
   have:=zh6 this
   exact this
 ·obtain⟨run,g1,g2,g3⟩:=zi0 (fun q=>decide (lv.getD q.toNat 0 > 0)) (fun r=>(jT (fun q=>decide (lv.getD q.toNat 0 > 1)) (fun r=>r.reverse) [] r).reverse) (x:=(k:Int)) (y:=((k+1:Nat):Int)) (decide_eq_true (by rw[t1];omega)) (decide_eq_true (by rw[t2];omega)) u (zO k) [] (by simp)
  refine List.IsInfix.trans ?_ g3
  obtain⟨s,v,rfl⟩:=zdj g1
  exact zh6 (zg9 (fun q=>decide (lv.getD q.toNat 0 > 1)) (fun r=>r.reverse) rfl (decide_eq_false (by rw[t1];omega)) (decide_eq_false (by rw[t2];omega)) v s [])
theorem zme (p:Int): ∀ (s t:List Int) (k:Nat),p∉s→zdt p (s++t) k=zdt p t (k+s.length)
 | [],t,k,_=>rfl
 |c::s,t,k,h=>by
  rw[List.cons_append,zdt,if_neg (fun e=>h (by simp[e])),zme p s t (k+1) (fun q=>h (by simp[q])),List.length_cons,show k+1+s.length=k+(s.length+1) by omega]
theorem zko {x y:Int} {l:List Int} (h: [x,y] <:+: l) (hn:l.Nodup): ∃ k,zdt x l 0=some k∧zdt y l 0=some (k+1):=by
 obtain⟨s,u,rfl⟩:=zdj h
 have h1:=List.nodup_append.1 hn
 have h2:=List.nodup_cons.1 h1.2.1
 have hx:x∉s:=fun q=>h1.2.2 x q x (by simp) rfl
 have hy:y∉s++ [x]:=fun q=>by
  rcases List.mem_append.1 q with q|q
  ·exact h1.2.2 y q y (by simp) rfl
  ·simp at q
   exact h2.1 (by rw[← q];simp)
 refine⟨s.length, ?_, ?_⟩
 ·rw[zme x s _ 0 hx,zdt,if_pos rfl,Nat.zero_add]
 ·have e:s++x::y::u=(s++ [x])++y::u:=by simp
  rw[e,zme y _ _ 0 hy,zdt,if_pos rfl]
  simp
theorem LR.line {chars:List Int} (h:LR (chars.map zX)) (base:Int) (fr:Nat): ∀ (k:Nat) (e:Bool) (l:List Int),fr+k≤chars.length→zju chars base fr k e l=l
 |0,_,_,_=>rfl
 |k+1,e,l,hk=>by
  have hc:zX (chars.getD (fr+k) 0)=0∨zX (chars.getD (fr+k) 0)=1:=by
   rw[zo 0 (by omega)]
   exact h _ (List.mem_map.2 ⟨_,List.getElem_mem _,rfl⟩)
  have hl:zib (zX (chars.getD (fr+k) 0))=false:=by rcases hc with e|e<;>rw[e]<;>rfl
  rw[zju]
  rw[if_neg (show ¬ (zX (chars.getD (fr+k) 0)=11∨zX (chars.getD (fr+k) 0)=10) by omega),hl,if_neg (by decide),if_neg (by decide)]
  exact LR.line h base fr k _ l (by omega)
theorem LR.ctl {chars:List Int} (h:LR (chars.map zX)) (k:Nat) (hk:k<chars.length):ctlC (chars.getD k 0)=false:=by
 have hc:zX (chars.getD k 0)=0∨zX (chars.getD k 0)=1:=by
  rw[zo 0 hk]
  exact h _ (List.mem_map.2 ⟨_,List.getElem_mem _,rfl⟩)
 unfold ctlC
 rcases hc with e|e<;>rw[e]<;>rfl
theorem LR.seen {chars:List Int} (h:LR (chars.map zX)) {levels:List Int} (hv:levels.length=chars.length) (base:Int) {a b:Nat} (hab:a≤b) (hb:b≤chars.length):
  qu chars levels base a b=(zqd ((levels.take b).drop a)).map fun p=>(a:Int)+p:=by
 unfold qu
 congr 1
 have hl:zic chars levels base a b=(levels.take b).drop a:=h.line base a _ _ _ (by omega)
 rw[hl]
 unfold zac
 rw[List.filter_eq_self]
 intro p hp
 rw[(zep _).mem_iff] at hp
 obtain⟨k,hk,rfl⟩:=List.mem_map.1 hp
 have hk:=List.mem_range.1 hk
 rw[List.length_drop,List.length_take] at hk
 rw[zh8,Int.toNat_natCast,zg2 (by omega),h.ctl _ (by omega),decide_eq_true (by omega),decide_eq_true (by omega)]
 rfl
end Go.Sx
namespace Go.Sx
theorem zkx {chars levels:List Int} {base:Int} {n:Nat} (hn:n≤levels.length) {p:Int}: ∀ (l:List Int) (b:Nat) (i:Nat) (s:Int×Int),qR (b:Int) (n:Int) l→s∈qh (b:Int) l→s.1≤p→p<s.2→
  ∀ k,zdt p (qu chars levels base s.1.toNat s.2.toNat) 0=some k→(zbe p (jS chars levels base b l) i).2=(k:Int)
 | [],b,i,s,h,hs,_,_,_,_=>by simp[qh] at hs
 |c::t,b,i,s,h,hs,h1,h2,k,hk=>by
  have hc:=zai t c n h.2
  have hbc:(b:Int)<c:=h.1
  obtain⟨m,rfl⟩:=Int.eq_ofNat_of_zero_le (show 0≤c by omega)
  have e:jS chars levels base b ((m:Int)::t)=((b:Int),(m:Int),qu chars levels base b m)::jS chars levels base m t:=rfl
  rw[e,zbe]
  dsimp only
  rcases List.mem_cons.1 hs with rfl|hs
  ·have hk:zdt p (qu chars levels base b m) 0=some k:=hk
   rw[hk]
  ·have hm:=ja t m n h.2 s hs
   have hno:zdt p (qu chars levels base b m) 0=none:=by
    rcases zp0 p (qu chars levels base b m) 0 with ⟨q,_⟩|⟨j,_,q2,q3⟩
    ·exact q
    ·have hp:p∈qu chars levels base b m:=by rw[← q3,zo 0 q2];exact List.getElem_mem q2
     rw[zig (by omega) (by omega)] at hp
     obtain⟨z,rfl,_,_,_⟩:=hp
     omega
   rw[hno]
   exact zkx hn t m (i+1) s h.2 hs h1 h2 k hk
theorem zvo {b c:Int} (hb:b=0∨b=1) (hc:c=0∨c=1):0≤lvC b c∧lvC b c≤2∧(c=0→lvC b c=2*b)∧(c=1→lvC b c=1):=by
 rcases hb with rfl|rfl<;>rcases hc with rfl|rfl<;>decide
theorem zqm {chars:List Int} (hn:chars.length≤1000) (h:LR (chars.map zX)) (dir base:Int) {a b k:Nat} (hb:b≤chars.length) (hak:a≤k) (hkb:k+1<b):
  (zX (chars.getD k 0)=0→zX (chars.getD (k+1) 0)=0→ ∃ i,zdt (k:Int) (qu chars (zcn chars dir) base a b) 0=some i∧zdt ((k+1:Nat):Int) (qu chars (zcn chars dir) base a b) 0=some (i+1))∧
  (zX (chars.getD k 0)=1→zX (chars.getD (k+1) 0)=1→ ∃ i,zdt ((k+1:Nat):Int) (qu chars (zcn chars dir) base a b) 0=some i∧zdt (k:Int) (qu chars (zcn chars dir) base a b) 0=some (i+1)):=by
 have hv:=zd9 chars dir
 rw[h.seen hv base (by omega) hb]
 have hlb:=zrp (chars.map zX) dir
 have hat: ∀ i,i<chars.length→(zcn chars dir).getD i 0=lvC (zU (chars.map zX) dir) (zX (chars.getD i 0))∧(zX (chars.getD i 0)=0∨zX (chars.getD i 0)=1):=by
  intro i hi
  rw[z0b hn h dir,zo 0 (by simpa using hi),zo 0 hi]
  exact⟨by simp,h _ (List.mem_map.2 ⟨_,List.getElem_mem hi,rfl⟩)⟩
 generalize zU (chars.map zX) dir=lb at hlb hat
 generalize hL:((zcn chars dir).take b).drop a=L
 have hLl:L.length=b - a:=by rw[← hL,List.length_drop,List.length_take];omega
 have hLg: ∀ i,i<b - a→L.getD i 0=(zcn chars dir).getD (a+i) 0:=by
  intro i hi
  rw[← hL]
  simp only[List.getD_eq_getElem?_getD,List.getElem?_drop]
  rw[List.getElem?_take_of_lt (by omega)]
 have hr: ∀ i,0≤L.getD i 0∧L.getD i 0≤2:=by
  intro i
  by_cases hi:i<b - a
  ·rw[hLg i hi,(hat (a+i) (by omega)).1]
   have:=zvo hlb (hat (a+i) (by omega)).2
   exact⟨this.1,this.2.1⟩
  ·rw[List.getD_eq_getElem?_getD,List.getElem?_eq_none (by omega)];decide
 obtain⟨j,rfl⟩: ∃ j,k=a+j:=⟨k - a,by omega⟩
 have hob:=ztg hr (k:=j) (by omega)
 rw[hLg j (by omega),hLg (j+1) (by omega),(hat (a+j) (by omega)).1,(hat (a+(j+1)) (by omega)).1,show a+(j+1)=a+j+1 by omega] at hob
 have hx:=zvo hlb (hat (a+j) (by omega)).2
 have hy:=zvo hlb (hat (a+j+1) (by omega)).2
 have hnd:((zqd L).map fun p=>(a:Int)+p).Nodup:=by
  refine List.pairwise_map.2 (List.Pairwise.imp (fun {x y} (e:x≠y)=>by omega) ?_)
  refine(zep L).nodup_iff.2 (List.pairwise_map.2 (List.Pairwise.imp (fun {x y} (e:x≠y)=>by omega) List.nodup_range))
 have hinf: ∀ x y:Nat, [(x:Int),(y:Int)] <:+: zqd L→ [((a+x:Nat):Int),((a+y:Nat):Int)] <:+: (zqd L).map fun p=>(a:Int)+p:=by
  intro x y q
  have:=q.map (fun p=>(a:Int)+p)
  simp only[List.map_cons,List.map_nil] at this
  rw[show((a+x:Nat):Int)=(a:Int)+(x:Int) by omega,show((a+y:Nat):Int)=(a:Int)+(y:Int) by omega]
  exact this
 refine⟨fun h0 h1=> ?_,fun h0 h1=> ?_⟩
 ·exact zko (hinf j (j+1) (hob.1 (by rw[hx.2.2.1 h0,hy.2.2.1 h1]) (by rw[hx.2.2.1 h0];omega))) hnd
 ·exact zko (hinf (j+1) j (hob.2 (hx.2.2.2 h0) (hy.2.2.2 h1))) hnd
theorem zwh {chars:List Int} (h:LR (chars.map zX)) {levels:List Int} (hv:levels.length=chars.length) (base:Int) {a b:Nat} (hab:a≤b) (hb:b≤chars.length):(qu chars levels base a b).length=b - a:=by
 rw[h.seen hv base hab hb,List.length_map,zmp,List.length_drop,List.length_take]
 omega
def zrn (x:Int):Int:=List.getD [(97:Int),98,1488,1489,99,1490] (Int.tmod x 6).toNat 0
theorem zro {x:Int} (h0:0≤x):(zrn x<1488∧zX (zrn x)=0)∨(¬ zrn x<1488∧zX (zrn x)=1):=by
 have h1:=zjd (a:=x) (b:=6) h0 (by omega)
 unfold zrn
 generalize Int.tmod x 6=y at h1
 have:y=0∨y=1∨y=2∨y=3∨y=4∨y=5:=by omega
 rcases this with rfl|rfl|rfl|rfl|rfl|rfl
 ·exact .inl ⟨by decide,rfl⟩
 ·exact .inl ⟨by decide,rfl⟩
 ·exact .inr ⟨by decide,rfl⟩
 ·exact .inr ⟨by decide,rfl⟩
 ·exact .inl ⟨by decide,rfl⟩
 ·exact .inr ⟨by decide,rfl⟩
theorem zjr (l:List Int) (dir width:Int) (hl0: ∀ x∈l,0≤x∧x≤255) (hw:0≤width∧width≤255):R.f8F (l,dir,width)=some true:=by
 unfold R.f8F
 rw[zx7]
 simp only[Option.bind_some,Bool.not_true,Bool.false_eq_true,if_false]
 by_cases hl:l.length≤100
 case neg=>rw[if_pos (by rw[decide_eq_true_eq];omega)]
 rw[if_neg (by rw[decide_eq_true_eq];omega)]
 refine zm (zmg l zrn _ ?_ ?_) ?_
 ·intro k hk
  have hx:=hl0 _ (List.getElem_mem hk)
  have ht:=zjd (a:=l[k]) (b:=6) hx.1 (by omega)
  have hlen:((l.take k).map zrn).length=k:=by rw[List.length_map,List.length_take];omega
  dsimp only
  rw[if_pos (by rw[decide_eq_true_eq];omega),if_pos (by omega),Int.toNat_natCast,zo 0 hk,za (x:=l[k]) (by omega) (by omega),if_pos (by omega),if_pos (by simp only[zi,hlen];omega),za (by omega) (by omega)]
  rfl
 ·rw[if_neg (by rw[decide_eq_true_eq];omega)]
 have hml:(l.map zrn).length=l.length:=List.length_map ..
 have hcl: ∀ k,k<l.length→((l.map zrn).getD k 0<1488∧zX ((l.map zrn).getD k 0)=0)∨(¬ (l.map zrn).getD k 0<1488∧zX ((l.map zrn).getD k 0)=1):=by
  intro k hk
  rw[zo 0 (by omega),List.getElem_map]
  exact zro (hl0 _ (List.getElem_mem hk)).1
 have hLR:LR ((l.map zrn).map zX):=by
  intro c hc
  obtain⟨x,hx,rfl⟩:=List.mem_map.1 hc
  obtain⟨y,hy,rfl⟩:=List.mem_map.1 hx
  rcases zro (hl0 y hy).1 with q|q
  ·exact .inl q.2
  ·exact .inr q.2
 generalize l.map zrn=chars at hml hcl hLR ⊢
 rw[za (x:=width) (by omega) (by omega),za (x:=1+width) (by omega) (by omega)]
 obtain⟨br,hb1,hb2⟩:=z0v (n:=chars.length) (by omega) (w:=1+width) (by omega)
 rw[hb1,Option.bind_some,z0u (by omega) dir hb2,Option.bind_some]
 dsimp only
 rw[if_neg (by decide)]
 have hR:=zyc (by omega) dir hb2
 have hv:=zd9 chars dir
 have hP: ∀ s∈qh 0 br, ∀ p,s.1≤p→p<s.2→ ∀ k,zdt p (qu chars (zcn chars dir) (zU (chars.map zX) dir) s.1.toNat s.2.toNat) 0=some k→(zbe p (ztq chars dir br) 0).2=(k:Int):=
  fun s hs p h1 h2 k hk=>zkx (n:=chars.length) (by omega) br 0 0 s hb2 hs h1 h2 k hk
 have hrow:ztq chars dir br=jS chars (zcn chars dir) (zU (chars.map zX) dir) ((0:Nat):Int) br:=rfl
 have hsp:=ja br 0 _ hb2
 generalize hbase:zU (chars.map zX) dir=base at*
 have hRl:(ztq chars dir br).length=br.length:=by rw[hrow];simp[jS,zfx]
 have hbl:=zfs br 0 _ hb2
 generalize hrs:ztq chars dir br=rows at*
 suffices key: ∀ (t done:List Int) (b i:Nat),qR (b:Int) (chars.length:Int) t→(∃ D:List RowT,rows=D++jS chars (zcn chars dir) base b t∧D.length=i)→(∀ s∈qh (b:Int) t,s∈qh 0 br)→
   iter _ ((b:Int),(i:Int))=some (Sum.inl (chars.length:Int):Int ⊕ Bool) from by
  refine zm (key br [] 0 0 hb2 ⟨[],hrow,rfl⟩ fun s hs=>hs) ?_
  dsimp only[Sum.elim_inl]
  rw[beq_self_eq_true]
 intro t
 induction t with
 |nil=>
  intro _ b i h ⟨D,hD,hDl⟩ _
  have hbn:(b:Int)=(chars.length:Int):=h
  refine zl ?_
  have:rows.length=i:=by rw[hD];simp[jS,qh,hDl]
  rw[if_neg (by rw[decide_eq_true_eq];omega),hbn]
 |cons c t ih=>
  intro dn b i h ⟨D,hD,hDl⟩ hsub
  have hc:=zai t c _ h.2
  have hbc:(b:Int)<c:=h.1
  obtain⟨m,rfl⟩:=Int.eq_ofNat_of_zero_le (show 0≤c by omega)
  have e:jS chars (zcn chars dir) base b ((m:Int)::t)=((b:Int),(m:Int),qu chars (zcn chars dir) base b m)::jS chars (zcn chars dir) base m t:=rfl
  rw[e] at hD
  have hg:rows.getD i (0,0, [])=((b:Int),(m:Int),qu chars (zcn chars dir) base b m):=by rw[hD, ← hDl];simp[List.getD_eq_getElem?_getD]
  have hil:i<rows.length:=by rw[hD];simp;omega
  have hs0:((b:Int),(m:Int))∈qh 0 br:=hsub _ (by simp[qh])
  rw[zp (s':=((m:Int),((i+1:Nat):Int)))]
  ·exact ih dn m (i+1) h.2 ⟨D++ [((b:Int),(m:Int),qu chars (zcn chars dir) base b m)],by rw[hD];simp,by simp[hDl]⟩ fun s hs=>hsub s (by simp[qh,hs])
  ·dsimp only
   rw[if_pos (by rw[decide_eq_true_eq];omega),if_pos (by omega),Int.toNat_natCast,hg]
   dsimp only
   have hfull:=zwh hLR hv base (a:=b) (b:=m) (by omega) (by omega)
   refine zm (e:=(false,(b:Int),(m:Int),qu chars (zcn chars dir) base b m)) ?_ ?_
   ·rw[if_neg (by simp),if_neg (by rw[decide_eq_true_eq];omega),hfull,za (by omega) (by omega),show((m:Int) - (b:Int))=((m - b:Nat):Int) by omega]
    simp
   ·dsimp only
    rw[if_neg (by decide)]
    refine zm (e:= .inl ()) ?_ (by dsimp only[Sum.elim_inl];rw[za (by omega) (by omega)];rfl)
    suffices kk: ∀ (j k:Nat),k+j=m→b≤k→iter _ ((k:Int),(b:Int),(m:Int),qu chars (zcn chars dir) base b m)=some (Sum.inl ():PUnit ⊕ Bool) from kk (m - b) b (by omega) (Nat.le_refl _)
    intro j
    induction j with
    |zero=>
     intro k hk _
     refine zl ?_
     dsimp only
     rw[if_neg (by rw[decide_eq_true_eq,za (by omega) (by omega)];omega)]
    |succ j ihj=>
     intro k hk hbk
     have hw1:IntKind.i64.wrap ((k:Int)+1)=((k+1:Nat):Int):=by rw[za (by omega) (by omega)];omega
     by_cases hlast:k+1<m
     case neg=>
      refine zl ?_
      dsimp only
      rw[if_neg (by rw[decide_eq_true_eq,hw1];omega)]
     rw[zp (s':=(((k+1:Nat):Int),(b:Int),(m:Int),qu chars (zcn chars dir) base b m))]
     ·exact ihj (k+1) (by omega) (by omega)
     ·dsimp only
      rw[hw1,if_pos (by rw[decide_eq_true_eq];omega),zy7 hR.small,Option.bind_some,zy7 hR.small,Option.bind_some,if_pos (by omega),if_pos (by omega),Int.toNat_natCast,Int.toNat_natCast]
      refine zm (e:=(false,(b:Int),(m:Int),qu chars (zcn chars dir) base b m)) ?_ rfl
      have hbs:=zqm (by omega) hLR dir base (a:=b) (b:=m) (k:=k) (by omega) hbk hlast
      have hPk: ∀ i,zdt (k:Int) (qu chars (zcn chars dir) base b m) 0=some i→(zbe (k:Int) rows 0).2=(i:Int)∧i≤1000:=fun i hi=>⟨hP _ hs0 _ (by dsimp only;omega) (by dsimp only;omega) i hi,by
       rcases zp0 (k:Int) (qu chars (zcn chars dir) base b m) 0 with ⟨q,_⟩|⟨z,q1,q2,_⟩
       ·rw[hi] at q;cases q
       ·rw[hi,Nat.zero_add] at q1;cases q1;omega⟩
      have hPk1: ∀ i,zdt ((k+1:Nat):Int) (qu chars (zcn chars dir) base b m) 0=some i→(zbe ((k+1:Nat):Int) rows 0).2=(i:Int):=fun i hi=>hP _ hs0 _ (by dsimp only;omega) (by dsimp only;omega) i hi
      rcases hcl k (by omega) with ⟨x1,x2⟩|⟨x1,x2⟩<;>rcases hcl (k+1) (by omega) with ⟨y1,y2⟩|⟨y1,y2⟩
      ·obtain⟨z,z1,z2⟩:=hbs.1 x2 y2
       have g1:=hPk z z1
       rw[decide_eq_true x1,decide_eq_true y1,if_pos rfl,if_pos rfl,g1.1,hPk1 _ z2,za (by omega) (by omega),if_neg (by simp),if_neg (by decide)]
      ·rw[decide_eq_true x1,decide_eq_false y1]
       rfl
      ·rw[decide_eq_false x1,decide_eq_true y1]
       rfl
      ·obtain⟨z,z1,z2⟩:=hbs.2 x2 y2
       have g1:=hPk (z+1) z2
       rw[decide_eq_false x1,decide_eq_false y1,if_neg (by decide),if_pos (by decide),if_pos (by decide),g1.1,hPk1 _ z1,za (by omega) (by omega)]
       simp
theorem zjs (x:List Int×Int×Int) (hw:zwx [.sl (.int .u8), .int .i64, .int .u8] x):R.f8F x=some true:=by
 obtain⟨l,dir,width⟩:=x
 exact zjr l dir width (fun y hy=>hw.1.2 y hy) ⟨hw.2.2.1,hw.2.2.2⟩
end Go.Sx
