/- Level, plain: texts of letters alone. -/
import Derived.Test.YtlppdabhaipbkaaGreatDoorSxMi
set_option linter.unusedVariables false
set_option linter.unusedSimpArgs false
namespace Go.Sx
def LR (l:List Int):Prop:= ∀ c∈l,c=0∨c=1
theorem zkt {S:Type} (g:S→Int→Int) (h:S→Int→S): ∀ (l:List Int),(∀ s, ∀ c∈l,g s c=c)→ ∀ s,zoc g h s l=l
 | [],_,_=>rfl
 |c::t,hg,s=>by rw[zoc,hg s c (by simp),zkt g h t (fun s x hx=>hg s x (by simp[hx]))]
theorem zlp {f:Int→Int}: ∀ (l:List Int),(∀ c∈l,f c=c)→l.map f=l
 | [],_=>rfl
 |c::t,h=>by rw[List.map_cons,h c (by simp),zlp t fun x hx=>h x (by simp[hx])]
theorem zu2: ∀ (t:List Int) (a:Int),(a=0∨a=1)→LR t→zvv a t=t
 | [],_,_,_=>rfl
 | [_],_,_,_=>rfl
 |c::b::t,a,ha,h=>by
  have hp:zvu a b c=false:=by
   unfold zvu
   rcases ha with rfl|rfl<;>simp
  rw[zvv,hp,if_neg (by decide),zu2 (b::t) c (h c (by simp)) fun x hx=>h x (by simp at hx ⊢;exact .inr hx)]
theorem zxi: ∀ (t:List Int) (p:Bool),LR t→etS p t=t
 | [],_,_=>rfl
 |c::t,p,h=>by
  have:=h c (by simp)
  rw[etS,if_neg (by omega),zxi t _ fun x hx=>h x (by simp[hx])]
theorem LR.rule {l:List Int} (h:LR l) (s:Int) (k:Nat):zpj s k l=l:=by
 unfold zpj
 split
 ·exact zkt _ _ _ (fun s c hc=>by unfold mkG;rw[if_neg (by have:=h c hc;omega)]) _
 ·exact zkt _ _ _ (fun s c hc=>by unfold beG;rw[if_neg (by have:=h c hc;omega)]) _
 ·exact zlp _ fun c hc=>by unfold swC;rw[if_neg (by have:=h c hc;simp;omega)]
 ·cases l with
  |nil=>rfl
  |cons a t=>rw[zj7,zu2 t a (h a (by simp)) fun x hx=>h x (by simp[hx])]
 ·exact zxi l false h
 ·exact zlp _ fun c hc=>by unfold swC;rw[if_neg (by have:=h c hc;simp;omega)]
 ·exact zkt _ _ _ (fun s c hc=>by unfold beG;rw[if_neg (by have:=h c hc;omega)]) _
theorem LR.weakN {l:List Int} (h:LR l) (s:Int): ∀ k,weakN s k l=l
 |0=>rfl
 |k+1=>by rw[Go.Sx.weakN,LR.weakN h s k,h.rule]
theorem LR.weak {l:List Int} (h:LR l) (s:Int):zje l s=l:=by
 unfold zje
 rw[zlp l fun c hc=>by unfold znu;rw[if_neg (by have:=h c hc;omega)]]
 exact h.weakN _ _
theorem zuy (ch cl:List Int) (h: ∀ i,cl.getD i 0≠13): ∀ (n i:Nat) (ws:List Nat),pW ch cl n i ws= []
 |0,_,_=>rfl
 |n+1,i,ws=>by
  rw[pW,if_pos (by rw[Bool.or_eq_true,bne_iff_ne];exact .inr (h i)),zuy ch cl h n]
theorem LR.brack {ch cl first:List Int} (h:LR cl) (hl:ch.length≤1000) (lev sos:Int):ofS ch cl first lev sos=cl:=by
 unfold ofS
 split
 ·rename_i hh
  have hp:=(zpf ch cl hl hh.1).2.2
  rw[zuy ch cl (fun i=>by
   by_cases hi:i<cl.length
   ·rw[zp 0 hi]
    have:=h _ (List.getElem_mem hi)
    omega
   ·rw[List.getD_eq_getElem?_getD,List.getElem?_eq_none (by omega)];decide)] at hp
  have he:prS ch cl= []:=List.perm_nil.1 (by simpa using hp)
  rw[he]
  rfl
 ·rfl
theorem zun (lev eos:Int): ∀ (t:List Int) (p:Int),LR t→ziy lev eos p t=t
 | [],_,_=>rfl
 |c::t,p,h=>by
  have hc:jP c=false:=by rcases h c (by simp) with rfl|rfl<;>rfl
  rw[ziy,hc,if_neg (by decide),zun lev eos t _ fun x hx=>h x (by simp[hx])]
def z3 (n:Nat):List Int:=(List.range n).map fun(k:Nat)=>(k:Int)
theorem zb6 (n:Nat):z3 (n+1)=z3 n++ [(n:Int)]:=by simp[z3,List.range_succ]
theorem LR.out {c:List Int} (h:LR c) (k:Nat):outC (c.getD k 0)=false∧opens (c.getD k 0)=false∧c.getD k 0≠10:=by
 by_cases hk:k<c.length
 ·rw[zp 0 hk]
  rcases h _ (List.getElem_mem hk) with e|e<;>rw[e]<;>decide
 ·rw[List.getD_eq_getElem?_getD,List.getElem?_eq_none (by omega)];decide
theorem LR.sN {c:List Int} (h:LR c): ∀ k,sN c k=z3 k
 |0=>rfl
 |k+1=>by rw[zih,(h.out k).1,if_neg (by decide),LR.sN h k,zb6]
theorem LR.runs {c v:List Int} (h:LR c) {b:Int} (hv: ∀ i,i<c.length→v.getD i 0=b): ∀ k,k+1≤c.length→zbd (zi1 c v) (z3 (k+1))= [z3 (k+1)]
 |0,_=>rfl
 |k+1,hk=>by
  rw[zb6 (k+1),zkf,LR.runs h hv k (by omega),zb6 k]
  have:=zfn (zi1 c v) [] (z3 k) (k:Int) ((k+1:Nat):Int)
  rw[List.nil_append,List.nil_append] at this
  rw[this,if_neg]
  unfold zi1
  rw[Int.toNat_natCast,Int.toNat_natCast,hv k (by omega),hv (k+1) (by omega)]
  simp[(h.out k).2.2]
  exact(h.out k).2.2
theorem LR.seqs {c v:List Int} (h:LR c) {b:Int} (hv: ∀ i,i<c.length→v.getD i 0=b) (base:Int) (h0:0<c.length):zeo c v base= [zsu c v (z3 c.length) base]:=by
 have hr:xL c v= [z3 c.length]:=by
  unfold xL seenS
  rw[h.sN]
  obtain⟨k,hk⟩: ∃ k,c.length=k+1:=⟨c.length - 1,by omega⟩
  rw[hk]
  exact h.runs hv k (by omega)
 unfold zeo
 rw[hr]
 have h1: ∀ nx:Nat→Option Nat,qW nx [z3 c.length].length=1:=fun _=>rfl
 have h2: ∀ nx:Nat→Option Nat,zgf nx [z3 c.length].length 0= [0]:=by
  intro nx
  have hp:qP nx 0=none:=rfl
  show(List.range 1).filter (fun i=>zf5 nx i==0)= [0]
  have:zf5 nx 0=0:=(zae hp).trans rfl
  simp[List.range_succ,this]
 rw[h1]
 show [zsu c v (zix [z3 c.length] (zgf _ [z3 c.length].length 0)) base]=_
 rw[h2]
 simp[zix]
theorem zqv: ∀ (vs d m:List Int),m.length=vs.length→zkc ((List.range' d.length vs.length).map fun(k:Nat)=>(k:Int)) vs (d++m)=d++vs
 | [],d,m,h=>by
  have:m= []:=List.eq_nil_of_length_eq_zero h
  subst this
  rfl
 |v::vs,d,m,h=>by
  obtain⟨x,m,rfl⟩: ∃ x m',m=x::m':=by
   cases m with
   |nil=>simp at h
   |cons x m=>exact⟨x,m,rfl⟩
  rw[List.length_cons,List.range'_succ,List.map_cons,zkc,Int.toNat_natCast]
  have e:(d++x::m).set d.length v=(d++ [v])++m:=by simp
  rw[e]
  have:=zqv vs (d++ [v]) m (by simpa using h)
  rw[List.length_append,List.length_singleton] at this
  rw[this]
  simp
theorem zq1: ∀ (cs vs:List Int) (b:Int),cs.length=vs.length→(∀ c∈cs,outC c=false)→zfi b cs vs=vs
 | [], [],_,_,_=>rfl
 |c::cs,v::vs,b,h,ho=>by
  rw[zfi,ho c (by simp),if_neg (by decide),zq1 cs vs v (by simpa using h) fun x hx=>ho x (by simp[hx])]
theorem zwf {l m:List Int} (hl:l.length=m.length) (h: ∀ i,i<l.length→l.getD i 0=m.getD i 0):l=m:=by
 refine List.ext_getElem hl fun i h1 h2=> ?_
 have:=h i h1
 rwa [zp 0 h1,zp 0 h2] at this
theorem zyr {chars:List Int} (hn:chars.length≤1000) (h:LR (chars.map qn)) (dir:Int):
  zrw chars dir=(chars.map qn).map (lvC (zY (chars.map qn) dir)):=by
 by_cases h0:chars.length=0
 ·have:chars= []:=List.eq_nil_of_length_eq_zero h0
  subst this
  exact List.eq_nil_of_length_eq_zero (zqb [] dir)
 have hm:(chars.map qn).length=chars.length:=List.length_map ..
 have hb:=zg7 (zY (chars.map qn) dir)
 have hbl:qt (zY (chars.map qn) dir)=zY (chars.map qn) dir:=by
  rcases zgu (chars.map qn) dir with e|e<;>rw[e]<;>rfl
 obtain⟨_,_,t1,t2,_⟩:=zac hb (chars.map qn) chars.length
 obtain⟨_,_,t3⟩:=zke hb (chars.map qn) chars.length fun i hi=>by
  have:=h.out i
  unfold zu0
  rw[show outS ((chars.map qn).getD i 0)=false from this.1,this.2.1]
  have hi':i<(chars.map qn).length:=by omega
  rw[zp 0 hi']
  rcases h _ (List.getElem_mem hi') with e|e<;>rw[e]<;>rfl
 unfold zrw zst
 generalize zY (chars.map qn) dir=base at*
 rw[hbl] at*
 generalize hcs:chars.map qn=cs at*
 generalize xN cs base chars.length=st at*
 have hcl:st.cl=cs:=zwf (by omega) fun i hi=>by
  rw[(t3 i (by omega)).2]
  have hi':i<cs.length:=by omega
  rw[zp 0 hi']
  have:=h _ (List.getElem_mem hi')
  rw[if_neg (by omega)]
 rw[hcl,h.seqs (b:=base) (fun i hi=>(t3 i (by omega)).1) base (by omega),List.foldl_cons,List.foldl_nil]
 have hpick:zff cs (z3 cs.length)=cs:=by
  unfold zff z3
  rw[List.map_map]
  exact(zgv cs id).trans (List.map_id cs)
 have hV:zve chars cs (zsu cs st.lv (z3 cs.length) base)=cs:=by
  unfold zve zsu
  dsimp only
  rw[hpick,h.weak,h.brack (by simp[zff,z3];omega)]
  exact zun _ _ cs _ h
 have hlv:(zsu cs st.lv (z3 cs.length) base).2.1=base:=by
  show st.lv.getD ((z3 cs.length).getD 0 0).toNat 0=base
  obtain⟨k,hk⟩: ∃ k,cs.length=k+1:=⟨cs.length - 1,by omega⟩
  have:(z3 cs.length).getD 0 0=0:=by rw[zp 0 (by simp[z3];omega)];simp[z3]
  rw[this]
  exact(t3 0 (by omega)).1
 unfold z6
 rw[hV,hlv]
 have hp:zkc (zsu cs st.lv (z3 cs.length) base).1 (cs.map (lvC base)) st.lv=cs.map (lvC base):=by
  have:=zqv (cs.map (lvC base)) [] st.lv (by rw[List.length_map];omega)
  rw[List.length_nil,List.length_map,List.nil_append,List.nil_append, ← List.range_eq_range'] at this
  exact this
 rw[hp]
 exact zq1 _ _ _ (by rw[List.length_map]) fun c hc=>by rcases h c hc with e|e<;>rw[e]<;>rfl
end Go.Sx
