/- Level, plain: texts of letters alone. -/
import Derived.Test.YtlppdabhaipbkaaDoorSxPi
set_option linter.unusedVariables false
set_option linter.unusedSimpArgs false
namespace Go.Sx
def LR (l:List Int):Prop:= ∀ c∈l,c=0∨c=1
theorem zkj {S:Type} (g:S→Int→Int) (h:S→Int→S): ∀ (l:List Int),(∀ s, ∀ c∈l,g s c=c)→ ∀ s,zq0 g h s l=l
 | [],_,_=>rfl
 |c::t,hg,s=>by rw[zq0,hg s c (by simp),zkj g h t (fun s x hx=>hg s x (by simp[hx]))]
theorem zlj {f:Int→Int}: ∀ (l:List Int),(∀ c∈l,f c=c)→l.map f=l
 | [],_=>rfl
 |c::t,h=>by rw[List.map_cons,h c (by simp),zlj t fun x hx=>h x (by simp[hx])]
theorem zug: ∀ (t:List Int) (a:Int),(a=0∨a=1)→LR t→zxc a t=t
 | [],_,_,_=>rfl
 | [_],_,_,_=>rfl
 |c::b::t,a,ha,h=>by
  have hp:zwb a b c=false:=by
   unfold zwb
   rcases ha with rfl|rfl<;>simp
  rw[zxc,hp,if_neg (by decide),zug (b::t) c (h c (by simp)) fun x hx=>h x (by simp at hx ⊢;exact .inr hx)]
theorem zwv: ∀ (t:List Int) (p:Bool),LR t→etS p t=t
 | [],_,_=>rfl
 |c::t,p,h=>by
  have:=h c (by simp)
  rw[etS,if_neg (by omega),zwv t _ fun x hx=>h x (by simp[hx])]
theorem LR.rule {l:List Int} (h:LR l) (s:Int) (k:Nat):zpd s k l=l:=by
 unfold zpd
 split
 ·exact zkj _ _ _ (fun s c hc=>by unfold mkG;rw[if_neg (by have:=h c hc;omega)]) _
 ·exact zkj _ _ _ (fun s c hc=>by unfold beG;rw[if_neg (by have:=h c hc;omega)]) _
 ·exact zlj _ fun c hc=>by unfold swC;rw[if_neg (by have:=h c hc;simp;omega)]
 ·cases l with
  |nil=>rfl
  |cons a t=>rw[zno,zug t a (h a (by simp)) fun x hx=>h x (by simp[hx])]
 ·exact zwv l false h
 ·exact zlj _ fun c hc=>by unfold swC;rw[if_neg (by have:=h c hc;simp;omega)]
 ·exact zkj _ _ _ (fun s c hc=>by unfold beG;rw[if_neg (by have:=h c hc;omega)]) _
theorem LR.weakN {l:List Int} (h:LR l) (s:Int): ∀ k,weakN s k l=l
 |0=>rfl
 |k+1=>by rw[Go.Sx.weakN,LR.weakN h s k,h.rule]
theorem LR.weak {l:List Int} (h:LR l) (s:Int):zn1 l s=l:=by
 unfold zn1
 rw[zlj l fun c hc=>by unfold zx9;rw[if_neg (by have:=h c hc;omega)]]
 exact h.weakN _ _
theorem zuc (ch cl:List Int) (h: ∀ i,cl.getD i 0≠13): ∀ (n i:Nat) (ws:List Nat),pW ch cl n i ws= []
 |0,_,_=>rfl
 |n+1,i,ws=>by
  rw[pW,if_pos (by rw[Bool.or_eq_true,bne_iff_ne];exact .inr (h i)),zuc ch cl h n]
theorem LR.brack {ch cl first:List Int} (h:LR cl) (hl:ch.length≤1000) (lev sos:Int):ofS ch cl first lev sos=cl:=by
 unfold ofS
 split
 ·rename_i hh
  have hp:=(zo9 ch cl hl hh.1).2.2
  rw[zuc ch cl (fun i=>by
   by_cases hi:i<cl.length
   ·rw[zu 0 hi]
    have:=h _ (List.getElem_mem hi)
    omega
   ·rw[List.getD_eq_getElem?_getD,List.getElem?_eq_none (by omega)];decide)] at hp
  have he:prS ch cl= []:=List.perm_nil.1 (by simpa using hp)
  rw[he]
  rfl
 ·rfl
theorem zt2 (lev eos:Int): ∀ (t:List Int) (p:Int),LR t→zln lev eos p t=t
 | [],_,_=>rfl
 |c::t,p,h=>by
  have hc:j3 c=false:=by rcases h c (by simp) with rfl|rfl<;>rfl
  rw[zln,hc,if_neg (by decide),zt2 lev eos t _ fun x hx=>h x (by simp[hx])]
def z2 (n:Nat):List Int:=(List.range n).map fun(k:Nat)=>(k:Int)
theorem zb1 (n:Nat):z2 (n+1)=z2 n++ [(n:Int)]:=by simp[z2,List.range_succ]
theorem LR.out {c:List Int} (h:LR c) (k:Nat):ziv (c.getD k 0)=false∧opens (c.getD k 0)=false∧c.getD k 0≠10:=by
 by_cases hk:k<c.length
 ·rw[zu 0 hk]
  rcases h _ (List.getElem_mem hk) with e|e<;>rw[e]<;>decide
 ·rw[List.getD_eq_getElem?_getD,List.getElem?_eq_none (by omega)];decide
theorem LR.sN {c:List Int} (h:LR c): ∀ k,sN c k=z2 k
 |0=>rfl
 |k+1=>by rw[zh5,(h.out k).1,if_neg (by decide),LR.sN h k,zb1]
theorem LR.runs {c v:List Int} (h:LR c) {b:Int} (hv: ∀ i,i<c.length→v.getD i 0=b): ∀ k,k+1≤c.length→za8 (zi9 c v) (z2 (k+1))= [z2 (k+1)]
 |0,_=>rfl
 |k+1,hk=>by
  rw[zb1 (k+1),zj7,LR.runs h hv k (by omega),zb1 k]
  have:=zfb (zi9 c v) [] (z2 k) (k:Int) ((k+1:Nat):Int)
  rw[List.nil_append,List.nil_append] at this
  rw[this,if_neg]
  unfold zi9
  rw[Int.toNat_natCast,Int.toNat_natCast,hv k (by omega),hv (k+1) (by omega)]
  simp[(h.out k).2.2]
  exact(h.out k).2.2
theorem LR.seqs {c v:List Int} (h:LR c) {b:Int} (hv: ∀ i,i<c.length→v.getD i 0=b) (base:Int) (h0:0<c.length):ziz c v base= [zup c v (z2 c.length) base]:=by
 have hr:ziy c v= [z2 c.length]:=by
  unfold ziy seenS
  rw[h.sN]
  obtain⟨k,hk⟩: ∃ k,c.length=k+1:=⟨c.length - 1,by omega⟩
  rw[hk]
  exact h.runs hv k (by omega)
 unfold ziz
 rw[hr]
 have h1: ∀ nx:Nat→Option Nat,xh nx [z2 c.length].length=1:=fun _=>rfl
 have h2: ∀ nx:Nat→Option Nat,ziu nx [z2 c.length].length 0= [0]:=by
  intro nx
  have hp:qP nx 0=none:=rfl
  show(List.range 1).filter (fun i=>zh9 nx i==0)= [0]
  have:zh9 nx 0=0:=(zaa hp).trans rfl
  simp[List.range_succ,this]
 rw[h1]
 show [zup c v (zkr [z2 c.length] (ziu _ [z2 c.length].length 0)) base]=_
 rw[h2]
 simp[zkr]
theorem zqn: ∀ (vs d m:List Int),m.length=vs.length→zsj ((List.range' d.length vs.length).map fun(k:Nat)=>(k:Int)) vs (d++m)=d++vs
 | [],d,m,h=>by
  have:m= []:=List.eq_nil_of_length_eq_zero h
  subst this
  rfl
 |v::vs,d,m,h=>by
  obtain⟨x,m,rfl⟩: ∃ x m',m=x::m':=by
   cases m with
   |nil=>simp at h
   |cons x m=>exact⟨x,m,rfl⟩
  rw[List.length_cons,List.range'_succ,List.map_cons,zsj,Int.toNat_natCast]
  have e:(d++x::m).set d.length v=(d++ [v])++m:=by simp
  rw[e]
  have:=zqn vs (d++ [v]) m (by simpa using h)
  rw[List.length_append,List.length_singleton] at this
  rw[this]
  simp
theorem zqt: ∀ (cs vs:List Int) (b:Int),cs.length=vs.length→(∀ c∈cs,ziv c=false)→zlz b cs vs=vs
 | [], [],_,_,_=>rfl
 |c::cs,v::vs,b,h,ho=>by
  rw[zlz,ho c (by simp),if_neg (by decide),zqt cs vs v (by simpa using h) fun x hx=>ho x (by simp[hx])]
theorem zvr {l m:List Int} (hl:l.length=m.length) (h: ∀ i,i<l.length→l.getD i 0=m.getD i 0):l=m:=by
 refine List.ext_getElem hl fun i h1 h2=> ?_
 have:=h i h1
 rwa [zu 0 h1,zu 0 h2] at this
theorem zx3 {chars:List Int} (hn:chars.length≤1000) (h:LR (chars.map xf)) (dir:Int):
  zu4 chars dir=(chars.map xf).map (lvC (qb (chars.map xf) dir)):=by
 by_cases h0:chars.length=0
 ·have:chars= []:=List.eq_nil_of_length_eq_zero h0
  subst this
  exact List.eq_nil_of_length_eq_zero (zk9 [] dir)
 have hm:(chars.map xf).length=chars.length:=List.length_map ..
 have hb:=zkn (qb (chars.map xf) dir)
 have hbl:qt (qb (chars.map xf) dir)=qb (chars.map xf) dir:=by
  rcases zqd (chars.map xf) dir with e|e<;>rw[e]<;>rfl
 obtain⟨_,_,t1,t2,_⟩:=zb4 hb (chars.map xf) chars.length
 obtain⟨_,_,t3⟩:=zj6 hb (chars.map xf) chars.length fun i hi=>by
  have:=h.out i
  unfold zue
  rw[show outS ((chars.map xf).getD i 0)=false from this.1,this.2.1]
  have hi':i<(chars.map xf).length:=by omega
  rw[zu 0 hi']
  rcases h _ (List.getElem_mem hi') with e|e<;>rw[e]<;>rfl
 unfold zu4 zyh
 generalize qb (chars.map xf) dir=base at*
 rw[hbl] at*
 generalize hcs:chars.map xf=cs at*
 generalize xO cs base chars.length=st at*
 have hcl:st.cl=cs:=zvr (by omega) fun i hi=>by
  rw[(t3 i (by omega)).2]
  have hi':i<cs.length:=by omega
  rw[zu 0 hi']
  have:=h _ (List.getElem_mem hi')
  rw[if_neg (by omega)]
 rw[hcl,h.seqs (b:=base) (fun i hi=>(t3 i (by omega)).1) base (by omega),List.foldl_cons,List.foldl_nil]
 have hpick:ze5 cs (z2 cs.length)=cs:=by
  unfold ze5 z2
  rw[List.map_map]
  exact(zge cs id).trans (List.map_id cs)
 have hV:zxf chars cs (zup cs st.lv (z2 cs.length) base)=cs:=by
  unfold zxf zup
  dsimp only
  rw[hpick,h.weak,h.brack (by simp[ze5,z2];omega)]
  exact zt2 _ _ cs _ h
 have hlv:(zup cs st.lv (z2 cs.length) base).2.1=base:=by
  show st.lv.getD ((z2 cs.length).getD 0 0).toNat 0=base
  obtain⟨k,hk⟩: ∃ k,cs.length=k+1:=⟨cs.length - 1,by omega⟩
  have:(z2 cs.length).getD 0 0=0:=by rw[zu 0 (by simp[z2];omega)];simp[z2]
  rw[this]
  exact(t3 0 (by omega)).1
 unfold xP
 rw[hV,hlv]
 have hp:zsj (zup cs st.lv (z2 cs.length) base).1 (cs.map (lvC base)) st.lv=cs.map (lvC base):=by
  have:=zqn (cs.map (lvC base)) [] st.lv (by rw[List.length_map];omega)
  rw[List.length_nil,List.length_map,List.nil_append,List.nil_append, ← List.range_eq_range'] at this
  exact this
 rw[hp]
 exact zqt _ _ _ (by rw[List.length_map]) fun c hc=>by rcases h c hc with e|e<;>rw[e]<;>rfl
end Go.Sx
