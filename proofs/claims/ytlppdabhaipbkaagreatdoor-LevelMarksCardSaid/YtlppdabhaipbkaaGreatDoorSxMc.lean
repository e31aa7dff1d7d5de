import Derived.Test.YtlppdabhaipbkaaGreatDoorSxMb
set_option linter.unusedVariables false
set_option linter.unusedSimpArgs false
namespace Go.Sx
abbrev Ent:=Int×Int×Bool
structure St where
 base:Int
 li:Int
 le:Int
 v:Int
 most:Int
 st:List Ent
 lv:List Int
 cl:List Int
abbrev pt (s:St):Int×Int×Int×Int×Int×List Ent×List Int×List Int:=(s.base,s.li,s.le,s.v,s.most,s.st.reverse,s.lv,s.cl)
def jO (level dir:Int):Int:=if dir=1 then 2*((level+1) / 2)+1 else 2*((level+2) / 2)
def St.top (s:St):Ent:=s.st.headD (0,0,false)
def St.tell (s:St) (level c:Int):St:={ s with lv:=s.lv++ [level],cl:=s.cl++ [c]}
def St.place (s:St) (c:Int):St:=s.tell s.top.1 (if s.top.2.1≠ -1 then s.top.2.1 else c)
def St.fits (s:St) (n:Int):Prop:=n≤125∧s.li=0∧s.le=0
instance (s:St) (n:Int):Decidable (s.fits n):=inferInstanceAs (Decidable (_∧_))
def St.push (s:St) (e:Ent):St:={ s with st:=e::s.st,most:=max s.most (s.st.length+1)}
def St.embed (s:St) (dir over:Int):St:=if s.fits (jO s.top.1 dir) then s.push (jO s.top.1 dir,over,false) else if s.li=0 then { s with le:=s.le+1} else s
def St.iso (s:St) (dir:Int):St:=if s.fits (jO s.top.1 dir) then { s.push (jO s.top.1 dir, -1,true) with v:=s.v+1} else { s with li:=s.li+1}
def zc4:List Ent→List Ent
 | []=> []
 |e::r=>if e.2.2=true then r else zc4 r
def St.fin (s:St):St:=if 0<s.li then { s with li:=s.li - 1} else if 0<s.v then { s with le:=0,v:=s.v - 1,st:=zc4 s.st} else s
def St.back (s:St):St:=if 0<s.li then s else if 0<s.le then { s with le:=s.le - 1} else if 1<s.st.length∧s.top.2.2=false then { s with st:=s.st.tail} else s
def St.reset (s:St):St:={ s with st:= [(s.base, -1,false)],li:=0,le:=0,v:=0,most:=max s.most 1}
def isos:List Ent→Nat
 | []=>0
 |e::r=>(if e.2.2=true then 1 else 0)+isos r
structure SInv (k m:Nat) (s:St):Prop where
 lev: ∀ e∈s.st,0≤e.1∧e.1≤125
 ov: ∀ e∈s.st,e.2.1= -1∨e.2.1=0∨e.2.1=1
 len:s.st.length≤k+1
 li0:0≤s.li
 li1:s.li≤k
 le0:0≤s.le
 le1:s.le≤k
 vn:s.v=isos s.st
 lv:s.lv.length≤m
 cl:s.cl.length≤m
 base:s.base=0∨s.base=1
 bot: ∃ r,s.st=r++ [(s.base, -1,false)]
 m0:0≤s.most
 m1:s.most≤k+1
theorem SInv.ne {k m:Nat} {s:St} (h:SInv k m s): ∃ e r,s.st=e::r:=by
 obtain⟨r,hr⟩:=h.bot
 cases r with
 |nil=>exact⟨_,_,hr⟩
 |cons e r=>exact⟨e,_,hr⟩
theorem zo4: ∀ (l:List Ent),isos l≤l.length
 | []=>Nat.le_refl _
 |e::r=>by
  have:=zo4 r
  unfold isos
  simp only[List.length_cons]
  split<;>omega
theorem zqm (e:Ent) (r:List Ent) (h:r.length≤1000000):IntKind.i64.wrap ((((e::r).reverse).length:Int) - 1)=(r.length:Int):=by
 rw[za (by omega) (by simp;omega)]
 simp
theorem zwe (e:Ent) (r:List Ent):((e::r).reverse).getD r.length (0,0,false)=e:=by
 simp[List.getD_eq_getElem?_getD]
theorem zxc (e:Ent) (r:List Ent):((e::r).reverse).take r.length=r.reverse:=by
 rw[List.reverse_cons,List.take_left' (by simp)]
theorem ztt (e:Ent) (r:List Ent) (h:r.length≤1000000) (a b c d f:Int) (lv cl:List Int):Lz.f111F (a,(e::r).reverse,b,c,d,f,lv,cl)=some e:=by
 unfold Lz.f111F
 simp only[zqm e r h]
 rw[if_pos (by simp;omega),Int.toNat_natCast,zwe]
theorem zlg (level c:Int) (s:St) (h1:s.lv.length≤1000000) (h2:s.cl.length≤1000000):Lz.f110F (level,c,pt s)=some (pt (s.tell level c)):=by
 unfold Lz.f110F pt
 simp only[]
 rw[if_pos (by simp only[zj,List.length_append,List.length_singleton,List.length_reverse,List.length_cons,List.length_nil];omega),if_pos (by simp only[zj,List.length_append,List.length_singleton,List.length_reverse,List.length_cons,List.length_nil];omega)]
 rfl
theorem zxm (s:St):Lz.f74F (pt s)=some (pt s.reset):=by
 unfold Lz.f74F pt
 simp only[]
 rw[if_pos (by omega),if_pos (by simp[zj])]
 simp[St.reset,Int.max_def,zlr]
 omega
theorem zty (e:Ent) (s:St) (h0:0≤s.li) (h1:0≤s.le) (hl:s.st.length≤1000000):Lz.f141F (e,pt s)=some (if s.fits e.1 then(true,pt (s.push e)) else(false,pt s)):=by
 unfold Lz.f141F pt
 simp only[]
 by_cases c1:e.1 > 125
 ·rw[if_pos (by simpa using c1),if_neg (by unfold St.fits;omega)]
  rfl
 ·rw[if_neg (by simpa using c1)]
  by_cases c2:s.li > 0
  ·rw[if_pos (by simpa using c2),if_neg (by unfold St.fits;omega)]
   rfl
  ·rw[if_neg (by simpa using c2)]
   by_cases c3:s.le > 0
   ·rw[if_neg (by unfold St.fits;omega)]
    simp[c3]
   ·rw[if_pos (show s.fits e.1 by unfold St.fits;omega)]
    simp only[c3,decide_false,Option.bind_some,Bool.false_eq_true,if_false]
    rw[if_pos (by simp only[zj,List.length_append,List.length_singleton,List.length_reverse,List.length_cons,List.length_nil];omega)]
    simp[St.push,Int.max_def,zlr]
    omega
theorem zt0 (e:Ent) (r:List Ent) (s:St) (hs:s.st=e::r) (h:r.length≤1000000):Lz.f143F (pt s)=some (e,pt { s with st:=r}):=by
 unfold Lz.f143F pt
 simp only[hs,ztt e r h,Option.bind_some,zqm e r h]
 rw[if_pos (by simp;omega),Int.toNat_natCast,zxc]
theorem ztz (level dir:Int) (h0:0≤level) (h1:level≤125):Lz.f142F (level,dir)=some (jO level dir):=by
 unfold Lz.f142F jO
 simp only[]
 rw[if_neg (by simp;omega)]
 simp only[Option.bind_some]
 rw[if_neg (by simp;omega)]
 obtain⟨n,rfl⟩:=Int.eq_ofNat_of_zero_le h0
 have hn:n<126:=by omega
 by_cases hd:dir=1
 ·rw[if_pos (by simpa using hd),if_pos hd]
  have key: ∀ n:Nat,n<126→IntKind.i64.wrap (((BitVec.ofInt IntKind.i64.bits (IntKind.i64.wrap ((n:Int)+1)) ||| BitVec.ofInt IntKind.i64.bits 1).toNat:Int))=2*(((n:Int)+1) / 2)+1:=by decide+kernel
  rw[key n hn]
 ·rw[if_neg (by simpa using hd),if_neg hd]
  have key: ∀ n:Nat,n<126→IntKind.i64.wrap (((BitVec.ofInt IntKind.i64.bits (IntKind.i64.wrap ((n:Int)+2)) &&& ~~~BitVec.ofInt IntKind.i64.bits 1).toNat:Int))=2*(((n:Int)+2) / 2):=by decide+kernel
  rw[key n hn]
theorem jJ {level dir:Int} (h0:0≤level):level<jO level dir∧jO level dir≤level+2:=by
 unfold jO
 split<;>omega
theorem zd3 {k m:Nat} {s:St} (h:SInv k m s) (hk:k≤100000) (a b c d f:Int) (lv cl:List Int):Lz.f111F (a,s.st.reverse,b,c,d,f,lv,cl)=some s.top:=by
 obtain⟨e,r,hs⟩:=h.ne
 have hl:=h.len
 rw[hs] at hl
 unfold St.top
 rw[hs]
 exact ztt e r (by simp at hl;omega) a b c d f lv cl
theorem q0 {k m:Nat} {s:St} (h:SInv k m s):s.top∈s.st:=by
 obtain⟨e,r,hs⟩:=h.ne
 unfold St.top
 rw[hs]
 simp
theorem zx8 {k m:Nat} {s:St} (h:SInv k m s) (hk:k≤100000) (dir over:Int):Lz.f112F (dir,over,pt s)=some (pt (s.embed dir over)):=by
 have hl:=h.len
 have ht:=h.lev _ (q0 h)
 have h60:=zty (jO s.top.1 dir,over,false) s h.li0 h.le0 (by omega)
 simp only[pt] at h60
 unfold Lz.f112F
 simp only[pt,zd3 h hk,Option.bind_some,ztz _ dir ht.1 ht.2,h60]
 unfold St.embed
 by_cases hf:s.fits (jO s.top.1 dir)
 ·simp only[if_pos hf]
  rfl
 ·simp only[if_neg hf]
  by_cases h0:s.li=0
  ·simp only[h0,if_true,beq_self_eq_true,Bool.not_false,Option.bind_some]
   rw[za (by have:=h.le0;omega) (by have:=h.le1;omega)]
  ·simp only[h0,if_false,show(s.li==(0:Int))=false by simpa using h0,Bool.not_false,if_true,Option.bind_some,Bool.false_eq_true]
theorem zya {k m:Nat} {s:St} (h:SInv k m s) (hk:k≤100000) (dir:Int):Lz.f115F (dir,pt s)=some (pt (s.iso dir)):=by
 have hl:=h.len
 have ht:=h.lev _ (q0 h)
 have h60:=zty (jO s.top.1 dir, -1,true) s h.li0 h.le0 (by omega)
 simp only[pt] at h60
 have hv:=zo4 s.st
 have hvn:=h.vn
 unfold Lz.f115F
 simp only[pt,zd3 h hk,Option.bind_some,ztz _ dir ht.1 ht.2,h60]
 unfold St.iso
 by_cases hf:s.fits (jO s.top.1 dir)
 ·simp only[if_pos hf]
  rw[if_pos trivial,za (by simp only[St.push];omega) (by simp only[St.push];omega)]
  rfl
 ·simp only[if_neg hf,Bool.false_eq_true,if_false]
  rw[za (by have:=h.li0;omega) (by have:=h.li1;omega)]
theorem ztu {k m:Nat} {s:St} (h:SInv k m s) (hk:k≤100000) (hm:m≤100000) (c:Int):Lz.f114F (c,pt s)=some (pt (s.place c)):=by
 have h1:=h.lv
 have h2:=h.cl
 unfold Lz.f114F
 simp only[pt,zd3 h hk,Option.bind_some]
 unfold St.place
 by_cases ho:s.top.2.1= -1
 ·rw[if_neg (by simpa using ho),if_neg (by simpa using ho)]
  have:=zlg s.top.1 c s (by omega) (by omega)
  simp only[pt] at this
  rw[this]
  rfl
 ·rw[if_pos (by simpa using ho),if_pos ho]
  have:=zlg s.top.1 s.top.2.1 s (by omega) (by omega)
  simp only[pt] at this
  rw[this]
  rfl
theorem zx9 {k m:Nat} {s:St} (h:SInv k m s) (hk:k≤100000):Lz.f113F (pt s)=some (pt s.back):=by
 have hl:=h.len
 unfold Lz.f113F
 simp only[pt]
 by_cases h1:s.li > 0
 ·rw[if_pos (by rw[decide_eq_true_eq];exact h1)]
  unfold St.back
  rw[if_pos h1]
 ·rw[if_neg (by rw[decide_eq_true_eq];exact h1)]
  by_cases h2:s.le > 0
  ·rw[if_pos (by rw[decide_eq_true_eq];exact h2),za (by omega) (by have:=h.le1;omega)]
   unfold St.back
   rw[if_neg h1,if_pos h2]
  ·rw[if_neg (by rw[decide_eq_true_eq];exact h2)]
   unfold St.back
   simp only[if_neg h1,if_neg h2]
   by_cases h3:1<s.st.length
   ·rw[if_pos (by rw[decide_eq_true_eq,List.length_reverse];omega)]
    simp only[zd3 h hk,Option.bind_some]
    cases ho:s.top.2.2 with
    |true=>
     rw[if_neg (show ¬ (1<s.st.length∧true=false) by simp)]
     simp
    |false=>
     rw[if_pos (show 1<s.st.length∧false=false from⟨h3,rfl⟩)]
     obtain⟨e,r,hs⟩:=h.ne
     have h61:=zt0 e r s hs (by rw[hs] at hl;simp at hl;omega)
     simp only[pt] at h61
     simp only[Bool.not_false,if_true,h61,Option.bind_some]
     rw[hs]
     rfl
   ·rw[if_neg (by rw[decide_eq_true_eq,List.length_reverse];omega)]
    simp only[h3,false_and,if_false,Option.bind_some,Bool.false_eq_true]
theorem zh9: ∀ (st:List Ent) (a b c d f:Int) (lv cl:List Int),0<isos st→st.length≤1000000→
  iter (fun(s1:Int×Int×Int×Int×Int×List Ent×List Int×List Int)=>
   Option.bind (Lz.f143F (s1.1,s1.snd.1,s1.snd.snd.1,s1.snd.snd.snd.1,s1.snd.snd.snd.snd.1,s1.snd.snd.snd.snd.snd.1,s1.snd.snd.snd.snd.snd.snd.1,s1.snd.snd.snd.snd.snd.snd.2))
    fun(v2:Ent×Int×Int×Int×Int×Int×List Ent×List Int×List Int)=>
    if(!v2.fst.snd.snd)=true then
     some (Sum.inl (v2.snd.1,v2.snd.snd.1,v2.snd.snd.snd.1,v2.snd.snd.snd.snd.1,v2.snd.snd.snd.snd.snd.1,v2.snd.snd.snd.snd.snd.snd.1,v2.snd.snd.snd.snd.snd.snd.snd.1,v2.snd.snd.snd.snd.snd.snd.snd.2))
    else
     some (Sum.inr (v2.snd.1,v2.snd.snd.1,v2.snd.snd.snd.1,v2.snd.snd.snd.snd.1,v2.snd.snd.snd.snd.snd.1,v2.snd.snd.snd.snd.snd.snd.1,v2.snd.snd.snd.snd.snd.snd.snd.1,v2.snd.snd.snd.snd.snd.snd.snd.2)))
   (a,b,c,d,f,st.reverse,lv,cl)=some (a,b,c,d,f,(zc4 st).reverse,lv,cl)
 | [],a,b,c,d,f,lv,cl,h,_=>by simp[isos] at h
 |e::r,a,b,c,d,f,lv,cl,h,hl=>by
  have h61:=zt0 e r ⟨a,b,c,d,f,e::r,lv,cl⟩ rfl (by simp at hl;omega)
  simp only[pt] at h61
  cases he:e.2.2 with
  |true=>
   rw[zn (e:=(a,b,c,d,f,r.reverse,lv,cl)) (by simp only[h61,Option.bind_some,he];rfl)]
   unfold zc4
   rw[if_pos he]
  |false=>
   rw[zw (s':=(a,b,c,d,f,r.reverse,lv,cl)) (by simp only[h61,Option.bind_some,he];rfl)]
   rw[zh9 r a b c d f lv cl (by unfold isos at h;rw[he] at h;simpa using h) (by simp at hl;omega)]
   conv=>rhs;unfold zc4
   rw[if_neg (by rw[he];simp)]
theorem zyc {k m:Nat} {s:St} (h:SInv k m s) (hk:k≤100000):Lz.f117F (pt s)=some (pt s.fin):=by
 have hl:=h.len
 have hvn:=h.vn
 have hv:=zo4 s.st
 unfold Lz.f117F
 simp only[pt]
 by_cases h1:s.li > 0
 ·rw[if_pos (by rw[decide_eq_true_eq];exact h1),za (by omega) (by have:=h.li1;omega)]
  unfold St.fin
  rw[if_pos h1]
 ·rw[if_neg (by rw[decide_eq_true_eq];exact h1)]
  by_cases h2:s.v > 0
  ·rw[if_pos (by rw[decide_eq_true_eq];exact h2),za (by omega) (by omega),zh9 _ _ _ _ _ _ _ _ (by omega) (by omega)]
   unfold St.fin
   rw[if_neg h1,if_pos h2]
   rfl
  ·rw[if_neg (by rw[decide_eq_true_eq];exact h2)]
   unfold St.fin
   rw[if_neg h1,if_neg h2]
theorem SInv.mono {k m k' m':Nat} {s:St} (h:SInv k m s) (hk:k≤k') (hm:m≤m'):SInv k' m' s:=
 {h with len:=by have:=h.len;omega,li1:=by have:=h.li1;omega,le1:=by have:=h.le1;omega,lv:=by have:=h.lv;omega,cl:=by have:=h.cl;omega,m1:=by have:=h.m1;omega}
theorem SInv.tell {k m:Nat} {s:St} (h:SInv k m s) (a b:Int):SInv k (m+1) (s.tell a b):=
 {h with lv:=by have:=h.lv;simp[St.tell];omega,cl:=by have:=h.cl;simp[St.tell];omega}
theorem SInv.place {k m:Nat} {s:St} (h:SInv k m s) (c:Int):SInv k (m+1) (s.place c):=h.tell _ _
theorem SInv.push {k m:Nat} {s:St} (h:SInv k m s) {e:Ent} (h1:0≤e.1∧e.1≤125) (h2:e.2.1= -1∨e.2.1=0∨e.2.1=1) (v:Int) (hv:v=isos (e::s.st)):SInv (k+1) m { s.push e with v:=v} where
 lev:=fun x hx=>by
  rcases List.mem_cons.1 hx with hx|hx
  ·subst hx;exact h1
  ·exact h.lev x hx
 ov:=fun x hx=>by
  rcases List.mem_cons.1 hx with hx|hx
  ·subst hx;exact h2
  ·exact h.ov x hx
 len:=by have:=h.len;simp[St.push];omega
 li0:=h.li0
 li1:=by have:=h.li1;simp[St.push];omega
 le0:=h.le0
 le1:=by have:=h.le1;simp[St.push];omega
 vn:=hv
 lv:=h.lv
 cl:=h.cl
 base:=h.base
 bot:=by
  obtain⟨r,hr⟩:=h.bot
  exact⟨e::r,by simp[St.push,hr]⟩
 m0:=by have:=h.m0;simp[St.push];omega
 m1:=by have:=h.m1;have:=h.len;simp[St.push];omega
theorem SInv.embed {k m:Nat} {s:St} (h:SInv k m s) (dir:Int) {over:Int} (ho:over= -1∨over=0∨over=1):SInv (k+1) m (s.embed dir over):=by
 have ht:=h.lev _ (q0 h)
 have hn:=jJ (dir:=dir) ht.1
 unfold St.embed
 split
 ·rename_i hf
  have:=h.push (e:=(jO s.top.1 dir,over,false)) ⟨by simp only;omega,hf.1⟩ ho s.v (by rw[h.vn];simp[isos])
  exact this
 ·split
  ·have:=h.mono (Nat.le_succ k) (Nat.le_refl m)
   exact { this with le0:=by have:=h.le0;simp only;omega,le1:=by have:=h.le1;simp only;omega}
  ·exact h.mono (Nat.le_succ k) (Nat.le_refl m)
theorem SInv.iso {k m:Nat} {s:St} (h:SInv k m s) (dir:Int):SInv (k+1) m (s.iso dir):=by
 have ht:=h.lev _ (q0 h)
 have hn:=jJ (dir:=dir) ht.1
 unfold St.iso
 split
 ·rename_i hf
  exact h.push (e:=(jO s.top.1 dir, -1,true)) ⟨by simp only;omega,hf.1⟩ (.inl rfl) (s.v+1) (by rw[h.vn];simp[isos];omega)
 ·have:=h.mono (Nat.le_succ k) (Nat.le_refl m)
  exact { this with li0:=by have:=h.li0;simp only;omega,li1:=by have:=h.li1;simp only;omega}
theorem zia {b:Ent} (hb:b.2.2=false): ∀ (r:List Ent),0<isos (r++ [b])→ ∃ r',zc4 (r++ [b])=r'++ [b]∧isos (r'++ [b])+1=isos (r++ [b])∧(∀ e∈r'++ [b],e∈r++ [b])∧(r'++ [b]).length≤(r++ [b]).length
 | [],h=>by simp[isos,hb] at h
 |e::r,h=>by
  simp only[List.cons_append]
  unfold zc4
  cases he:e.2.2 with
  |true=>
   have hi:isos (e::(r++ [b]))=1+isos (r++ [b]):=by show(if e.2.2=true then 1 else 0)+isos (r++ [b])=_;rw[if_pos he]
   exact⟨r,rfl,by omega,fun x hx=>List.mem_cons_of_mem _ hx,by simp⟩
  |false=>
   have hi:isos (e::(r++ [b]))=isos (r++ [b]):=by show(if e.2.2=true then 1 else 0)+isos (r++ [b])=_;rw[he];simp
   simp only[List.cons_append] at h
   rw[hi] at h
   obtain⟨r',h1,h2,h3,h4⟩:=zia hb r h
   refine⟨r', ?_,by rw[hi];exact h2,fun x hx=>List.mem_cons_of_mem _ (h3 x hx),by simp at h4 ⊢;omega⟩
   rw[if_neg (by simp)]
   exact h1
theorem SInv.fin {k m:Nat} {s:St} (h:SInv k m s):SInv k m s.fin:=by
 unfold St.fin
 split
 ·exact { h with li0:=by simp only;omega,li1:=by have:=h.li1;simp only;omega}
 ·split
  ·rename_i hv
   obtain⟨r,hr⟩:=h.bot
   have hvn:=h.vn
   rw[hr] at hvn
   obtain⟨r',h1,h2,h3,h4⟩:=zia (b:=(s.base, -1,false)) rfl r (by omega)
   have hl:=h.len
   rw[hr] at hl
   exact { h with
    lev:=fun e he=>h.lev e (by rw[hr];simp only[hr,h1] at he;exact h3 e he)
    ov:=fun e he=>h.ov e (by rw[hr];simp only[hr,h1] at he;exact h3 e he)
    len:=by simp only[hr,h1];omega
    le0:=Int.le_refl 0
    le1:=by simp only;omega
    vn:=by simp only[hr,h1];omega
    bot:=⟨r',by simp only[hr,h1]⟩}
  ·exact h
theorem SInv.back {k m:Nat} {s:St} (h:SInv k m s):SInv k m s.back:=by
 unfold St.back
 split
 ·exact h
 ·split
  ·exact { h with le0:=by simp only;omega,le1:=by have:=h.le1;simp only;omega}
  ·split
   ·rename_i hc
    obtain⟨r,hr⟩:=h.bot
    cases r with
    |nil=>rw[hr] at hc;simp at hc
    |cons e r=>
     have hl:=h.len
     have hvn:=h.vn
     have hst:s.st.tail=r++ [(s.base, -1,false)]:=by rw[hr];rfl
     have htop:e.2.2=false:=by have:=hc.2;unfold St.top at this;rw[hr] at this;exact this
     exact { h with
      lev:=fun x hx=>h.lev x (by simp only[hst] at hx;rw[hr];exact List.mem_cons_of_mem _ hx)
      ov:=fun x hx=>h.ov x (by simp only[hst] at hx;rw[hr];exact List.mem_cons_of_mem _ hx)
      len:=by simp only[List.length_tail];omega
      vn:=by
       have hi:isos (e::(r++ [(s.base, -1,false)]))=isos (r++ [(s.base, -1,false)]):=by show(if e.2.2=true then 1 else 0)+isos _=_;rw[htop];simp
       simp only[hst];rw[hvn,hr,List.cons_append,hi]
      bot:=⟨r,hst⟩}
   ·exact h
theorem SInv.reset {k m:Nat} {s:St} (h:SInv k m s):SInv k m s.reset where
 lev:=fun e he=>by
  simp only[St.reset,List.mem_singleton] at he
  subst he
  have:=h.base
  simp only
  omega
 ov:=fun e he=>by
  simp only[St.reset,List.mem_singleton] at he
  subst he
  exact .inl rfl
 len:=by simp[St.reset]
 li0:=Int.le_refl 0
 li1:=by simp[St.reset]
 le0:=Int.le_refl 0
 le1:=by simp[St.reset]
 vn:=by simp[St.reset,isos]
 lv:=h.lv
 cl:=h.cl
 base:=h.base
 bot:=⟨[],rfl⟩
 m0:=by have:=h.m0;simp[St.reset];omega
 m1:=by have:=h.m1;simp[St.reset];omega
def St.step (l:List Int) (s:St) (i:Nat):St:=
 let c:=l.getD i 0
 if c=14 then(s.tell s.top.1 c).embed 0 (-1)
 else if c=16 then(s.tell s.top.1 c).embed 1 (-1)
 else if c=15 then(s.tell s.top.1 c).embed 0 0
 else if c=17 then(s.tell s.top.1 c).embed 1 1
 else if c=18 then(s.tell s.top.1 c).back
 else if c=9 then s.tell s.top.1 c
 else if opens c=true then(s.place c).iso (zll l i)
 else if c=22 then s.fin.place c
 else if c=10 then s.reset.tell s.base c
 else if c<0∨23≤c then s.place 0
 else s.place c
theorem SInv.step {k:Nat} {s:St} (h:SInv k k s) (l:List Int) (i:Nat):SInv (k+1) (k+1) (s.step l i):=by
 unfold St.step
 simp only[]
 split
 ·exact(h.tell _ _).embed 0 (.inl rfl)
 ·split
  ·exact(h.tell _ _).embed 1 (.inl rfl)
  ·split
   ·exact(h.tell _ _).embed 0 (.inr (.inl rfl))
   ·split
    ·exact(h.tell _ _).embed 1 (.inr (.inr rfl))
    ·split
     ·exact(h.tell _ _).back.mono (Nat.le_succ k) (Nat.le_refl _)
     ·split
      ·exact(h.tell _ _).mono (Nat.le_succ k) (Nat.le_refl _)
      ·split
       ·exact(h.place _).iso _
       ·split
        ·exact(h.fin.place _).mono (Nat.le_succ k) (Nat.le_refl _)
        ·split
         ·exact(h.reset.tell _ _).mono (Nat.le_succ k) (Nat.le_refl _)
         ·split
          ·exact(h.place _).mono (Nat.le_succ k) (Nat.le_refl _)
          ·exact(h.place _).mono (Nat.le_succ k) (Nat.le_refl _)
theorem ztv (c:Int): ∃ b,Lz.f118F c=some b∧(b.toList==(⟨#[]⟩:ByteArray).toList)=decide (c<0∨23≤c):=by
 unfold Lz.f118F
 by_cases h0:c<0
 ·simp[h0,qZ]
 ·by_cases h1:23≤c
  ·simp[h0,h1,qZ]
  ·have key: ∀ n:Nat,n<23→((Lz.words.getD n ByteArray.empty).data.toList== [])=false:=by decide+kernel
   obtain⟨n,rfl⟩:=Int.eq_ofNat_of_zero_le (Int.not_lt.1 h0)
   have hn:n<23:=by omega
   refine⟨Lz.words.getD n ByteArray.empty, ?_, ?_⟩
   ·have e:((n:Int)<0)=False:=by simp
    have e2:((n:Int)<23)=True:=by simp;omega
    simp[e,e2]
    omega
   ·rw[qZ,qZ,key n hn]
    symm
    rw[decide_eq_false_iff_not]
    omega
theorem zz0 {k:Nat} {s:St} (h:SInv k k s) (hk:k≤99999) {l:List Int} (hl:l.length≤100000) {i:Nat} (hi:i<l.length):Lz.f75F (l,(i:Int),pt s)=some (pt (s.step l i)):=by
 have hb:(0:Int)≤i∧(i:Int)<l.length:=⟨by omega,by omega⟩
 have h1:=h.lv
 have h2:=h.cl
 have e51:=zd3 h (by omega)
 have e50: ∀ c,Lz.f110F (s.top.1,c,pt s)=some (pt (s.tell s.top.1 c)):=fun c=>zlg _ _ _ (by omega) (by omega)
 have e52: ∀ c dir over,Lz.f112F (dir,over,pt (s.tell s.top.1 c))=some (pt ((s.tell s.top.1 c).embed dir over)):=fun c dir over=>zx8 (h.tell _ _) (by omega) dir over
 have e53: ∀ c,Lz.f113F (pt (s.tell s.top.1 c))=some (pt (s.tell s.top.1 c).back):=fun c=>zx9 (h.tell _ _) (by omega)
 have e54: ∀ c,Lz.f114F (c,pt s)=some (pt (s.place c)):=fun c=>ztu h (by omega) (by omega) c
 have e55: ∀ c dir,Lz.f115F (dir,pt (s.place c))=some (pt ((s.place c).iso dir)):=fun c dir=>zya (h.place _) (by omega) dir
 have e56:Lz.f117F (pt s)=some (pt s.fin):=zyc h (by omega)
 have e54': ∀ c,Lz.f114F (c,pt s.fin)=some (pt (s.fin.place c)):=fun c=>ztu h.fin (by omega) (by omega) c
 have e40:Lz.f74F (pt s)=some (pt s.reset):=zxm s
 have e50': ∀ c,Lz.f110F (s.base,c,pt s.reset)=some (pt (s.reset.tell s.base c)):=fun c=>zlg _ _ _ (by have:=h.reset.lv;omega) (by have:=h.reset.cl;omega)
 have e20:Lz.f116F (l,(i:Int))=some (zll l i):=zyb hl _
 simp only[pt] at e50 e52 e53 e54 e55 e56 e54' e40 e50'
 unfold Lz.f75F St.step
 simp only[pt,if_pos hb,Int.toNat_natCast]
 generalize l.getD i 0=c
 obtain⟨b,hb1,hb2⟩:=ztv c
 by_cases c14:c=14
 ·subst c14
  simp only[Int.reduceBEq,Int.reduceEq,reduceIte,Option.bind_some,e51,e50,e52,Bool.false_eq_true]
 by_cases c16:c=16
 ·subst c16
  simp only[Int.reduceBEq,Int.reduceEq,reduceIte,Option.bind_some,e51,e50,e52,Bool.false_eq_true]
 by_cases c15:c=15
 ·subst c15
  simp only[Int.reduceBEq,Int.reduceEq,reduceIte,Option.bind_some,e51,e50,e52,Bool.false_eq_true]
 by_cases c17:c=17
 ·subst c17
  simp only[Int.reduceBEq,Int.reduceEq,reduceIte,Option.bind_some,e51,e50,e52,Bool.false_eq_true]
 by_cases c18:c=18
 ·subst c18
  simp only[Int.reduceBEq,Int.reduceEq,reduceIte,Option.bind_some,e51,e50,e53,Bool.false_eq_true]
 by_cases c9:c=9
 ·subst c9
  simp only[Int.reduceBEq,Int.reduceEq,reduceIte,Option.bind_some,e51,e50,Bool.false_eq_true]
 by_cases c19:c=19
 ·subst c19
  simp only[Int.reduceBEq,Int.reduceEq,reduceIte,Option.bind_some,e54,e55,e20,Bool.false_eq_true,show opens 19=true from rfl]
 by_cases c20:c=20
 ·subst c20
  simp only[Int.reduceBEq,Int.reduceEq,reduceIte,Option.bind_some,e54,e55,e20,Bool.false_eq_true,show opens 20=true from rfl]
 by_cases c21:c=21
 ·subst c21
  simp only[Int.reduceBEq,Int.reduceEq,reduceIte,Option.bind_some,e54,e55,e20,Bool.false_eq_true,show opens 21=true from rfl]
 by_cases c22:c=22
 ·subst c22
  simp only[Int.reduceBEq,Int.reduceEq,reduceIte,Option.bind_some,e54',e56,Bool.false_eq_true,show opens 22=false from rfl]
 by_cases c10:c=10
 ·subst c10
  have e50'':=e50'
  simp only[St.reset] at e50''
  simp only[Int.reduceBEq,Int.reduceEq,reduceIte,Option.bind_some,e40,e50'',Bool.false_eq_true,show opens 10=false from rfl,St.reset]
 have f (n:Int) (hn:c≠n):(c==n)=false:=by simpa using hn
 have ho:opens c=false:=by unfold opens;rw[f 19 c19,f 20 c20,f 21 c21];rfl
 simp only[f 14 c14,f 16 c16,f 15 c15,f 17 c17,f 18 c18,f 9 c9,f 19 c19,f 20 c20,f 21 c21,f 22 c22,f 10 c10,c14,c16,c15,c17,c18,c9,c22,c10,ho,Bool.false_eq_true,if_false,Option.bind_some,hb1,hb2]
 by_cases hw:c<0∨23≤c
 ·simp only[hw,decide_true,if_true,e54,Option.bind_some]
 ·simp only[hw,decide_false,Bool.false_eq_true,if_false,e54,Option.bind_some]
def St.init (b:Int):St:=⟨b,0,0,0,1, [(b, -1,false)], [], []⟩
def qV (l:List Int) (b:Int) (n:Nat):St:=(List.range n).foldl (fun s i=>s.step l i) (St.init b)
theorem xL (l:List Int) (b:Int) (n:Nat):qV l b (n+1)=(qV l b n).step l n:=by
 unfold qV
 rw[List.range_succ,List.foldl_append]
 rfl
theorem zl6 {b:Int} (hb:b=0∨b=1) (l:List Int): ∀ n,SInv n n (qV l b n)
 |0=>{
  lev:=fun e he=>by
   simp only[qV,List.range_zero,List.foldl_nil,St.init,List.mem_singleton] at he
   subst he;simp only;omega
  ov:=fun e he=>by
   simp only[qV,List.range_zero,List.foldl_nil,St.init,List.mem_singleton] at he
   subst he;exact .inl rfl
  len:=by simp[qV,St.init]
  li0:=Int.le_refl 0
  li1:=Int.le_refl 0
  le0:=Int.le_refl 0
  le1:=Int.le_refl 0
  vn:=rfl
  lv:=Nat.le_refl 0
  cl:=Nat.le_refl 0
  base:=hb
  bot:=⟨[],rfl⟩
  m0:=by simp[qV,St.init]
  m1:=by simp[qV,St.init]}
 |n+1=>by
  rw[xL]
  exact(zl6 hb l n).step l n
def qd (n:Int):Int:=if n=0 then 0 else 1
theorem zs6 (n:Int):qd n=0∨qd n=1:=by unfold qd;split<;>simp
theorem zzt {l:List Int} (hl:l.length≤99000) (n:Int):Lz.f43F (l,n)=some (pt (qV l (qd n) l.length)):=by
 unfold Lz.f43F
 have e0:(if(n !=(0:Int))=true then some ((1:Int),(0:Int),(0:Int),(0:Int),(0:Int),([]:List Ent),([]:List Int),([]:List Int)) else some ((0:Int),(0:Int),(0:Int),(0:Int),(0:Int), [], [], []))=some (pt ⟨qd n,0,0,0,0, [], [], []⟩):=by
  unfold qd
  by_cases h:n=0
  ·rw[if_neg (by simpa using h),if_pos h];rfl
  ·rw[if_pos (by simpa using h),if_neg h];rfl
 simp only[]
 rw[e0]
 have e40:=zxm ⟨qd n,0,0,0,0, [], [], []⟩
 simp only[pt] at e40
 simp only[Option.bind_some,pt,e40]
 have hinit:(St.mk (qd n) 0 0 0 0 [] [] []).reset=qV l (qd n) 0:=rfl
 rw[hinit]
 suffices h: ∃ e,iter _ _=some e∧e=pt (qV l (qd n) l.length) by
  obtain⟨e,h1,rfl⟩:=h
  rw[h1]
  rfl
 refine zv (I:=fun s=> ∃ i:Nat,i≤l.length∧s=((i:Int),pt (qV l (qd n) i))) (fun s=>(l.length - s.1).toNat) ?_ _ ⟨0,Nat.zero_le _,rfl⟩
 rintro _ ⟨i,hi,rfl⟩
 dsimp only
 by_cases h:i<l.length
 ·rw[if_pos (by rw[decide_eq_true_eq];omega)]
  have e41:=zz0 (zl6 (zs6 n) l i) (by omega) (show l.length≤100000 by omega) h
  simp only[pt] at e41
  simp only[e41,Option.bind_some]
  refine .inl ⟨_,rfl,⟨i+1,h, ?_⟩, ?_⟩
  ·rw[xL,za (by omega) (by omega)]
   rfl
  ·simp only[]
   rw[za (by omega) (by omega)]
   omega
 ·have:i=l.length:=by omega
  subst this
  rw[if_neg (by rw[decide_eq_true_eq];omega)]
  exact .inr ⟨_,rfl,rfl⟩
theorem zzm {l:List Int} (hl:l.length≤99000) (n:Int):Lz.f27F (l,n)=some ((qV l (qd n) l.length).lv,(qV l (qd n) l.length).cl):=by
 unfold Lz.f27F
 simp only[zzt hl,Option.bind_some]
def outS (c:Int):Bool:=c==9||c==14||c==15||c==16||c==17||c==18
structure BInv (s:St):Prop where
 pw:s.st.Pairwise fun a b=>b.1<a.1
 low: ∀ e∈s.st,s.base≤e.1
 m0:1≤s.most
 m1:s.most≤126
theorem zxt: ∀ (st:List Ent) (n:Nat),st.Pairwise (fun a b=>b.1<a.1)→(∀ e∈st,0≤e.1∧e.1<n)→st.length≤n
 | [],n,_,_=>Nat.zero_le _
 |e::r,0,_,h=>by have:=h e (by simp);omega
 |e::r,n+1,hp,h=>by
  rw[List.pairwise_cons] at hp
  have:=zxt r n hp.2 fun x hx=>by
   have h1:=hp.1 x hx
   have h2:=h e (by simp)
   have h3:=h x (by simp[hx])
   omega
  simp;omega
theorem BInv.push {k m:Nat} {s:St} (h:SInv k m s) (b:BInv s) {e:Ent} (h1: ∀ x∈s.st,x.1<e.1) (h2:e.1≤125) (v:Int):BInv { s.push e with v:=v} where
 pw:=List.pairwise_cons.2 ⟨h1,b.pw⟩
 low:=fun x hx=>by
  rcases List.mem_cons.1 hx with hx|hx
  ·subst hx
   have:=h1 _ (q0 h)
   have:=b.low _ (q0 h)
   show s.base≤x.1
   omega
  ·exact b.low x hx
 m0:=by have:=b.m0;simp[St.push];omega
 m1:=by
  have:=b.m1
  have hl:=zxt (e::s.st) 126 (List.pairwise_cons.2 ⟨h1,b.pw⟩) (fun x hx=>by
   rcases List.mem_cons.1 hx with hx|hx
   ·subst hx
    have:=h1 _ (q0 h)
    have:=(h.lev _ (q0 h)).1
    omega
   ·have:=h.lev x hx;omega)
  simp at hl
  simp[St.push]
  omega
theorem zvg {k m:Nat} {s:St} (h:SInv k m s) (b:BInv s): ∀ x∈s.st,x.1≤s.top.1:=by
 intro x hx
 obtain⟨e,r,hs⟩:=h.ne
 have hp:=b.pw
 rw[hs] at hx hp
 have ht:s.top=e:=by unfold St.top;rw[hs];rfl
 rw[ht]
 rw[List.pairwise_cons] at hp
 rcases List.mem_cons.1 hx with hx|hx
 ·subst hx;exact Int.le_refl _
 ·exact Int.le_of_lt (hp.1 x hx)
theorem BInv.embed {k m:Nat} {s:St} (h:SInv k m s) (b:BInv s) (dir over:Int):BInv (s.embed dir over):=by
 have hn:=jJ (dir:=dir) (h.lev _ (q0 h)).1
 unfold St.embed
 split
 ·rename_i hf
  have:=b.push h (e:=(jO s.top.1 dir,over,false)) (fun x hx=>by have:=zvg h b x hx;simp only;omega) hf.1 s.v
  exact this
 ·split
  ·exact⟨b.pw,b.low,b.m0,b.m1⟩
  ·exact b
theorem BInv.iso {k m:Nat} {s:St} (h:SInv k m s) (b:BInv s) (dir:Int):BInv (s.iso dir):=by
 have hn:=jJ (dir:=dir) (h.lev _ (q0 h)).1
 unfold St.iso
 split
 ·rename_i hf
  exact b.push h (e:=(jO s.top.1 dir, -1,true)) (fun x hx=>by have:=zvg h b x hx;simp only;omega) hf.1 _
 ·exact⟨b.pw,b.low,b.m0,b.m1⟩
theorem zff: ∀ (st:List Ent),(zc4 st).Sublist st
 | []=>List.Sublist.slnil
 |e::r=>by
  unfold zc4
  split
  ·exact List.sublist_cons_self e r
  ·exact(zff r).cons e
theorem BInv.fin {s:St} (b:BInv s):BInv s.fin:=by
 unfold St.fin
 split
 ·exact⟨b.pw,b.low,b.m0,b.m1⟩
 ·split
  ·exact⟨b.pw.sublist (zff _),fun e he=>b.low e ((zff _).subset he),b.m0,b.m1⟩
  ·exact b
theorem BInv.back {s:St} (b:BInv s):BInv s.back:=by
 unfold St.back
 split
 ·exact b
 ·split
  ·exact⟨b.pw,b.low,b.m0,b.m1⟩
  ·split
   ·exact⟨b.pw.sublist (List.tail_sublist _),fun e he=>b.low e (List.mem_of_mem_tail he),b.m0,b.m1⟩
   ·exact b
theorem BInv.reset {s:St} (b:BInv s):BInv s.reset where
 pw:=by simp[St.reset]
 low:=fun e he=>by simp[St.reset] at he;subst he;exact Int.le_refl _
 m0:=by have:=b.m0;simp[St.reset];omega
 m1:=by have:=b.m1;simp[St.reset];omega
theorem BInv.tell {s:St} (b:BInv s) (x y:Int):BInv (s.tell x y):=⟨b.pw,b.low,b.m0,b.m1⟩
theorem BInv.place {s:St} (b:BInv s) (c:Int):BInv (s.place c):=b.tell _ _
structure Told (s s':St) (c:Int):Prop where
 told: ∃ a b,s'.lv=s.lv++ [a]∧s'.cl=s.cl++ [b]∧s.base≤a∧a≤125∧outS b=outS c∧(c=10→a=s.base)
 base:s'.base=s.base
theorem zat (s:St) (d o:Int):(s.embed d o).lv=s.lv∧(s.embed d o).cl=s.cl∧(s.embed d o).base=s.base:=by
 unfold St.embed
 split
 ·exact⟨rfl,rfl,rfl⟩
 ·split<;>exact⟨rfl,rfl,rfl⟩
theorem zh1 (s:St) (d:Int):(s.iso d).lv=s.lv∧(s.iso d).cl=s.cl∧(s.iso d).base=s.base:=by
 unfold St.iso
 split<;>exact⟨rfl,rfl,rfl⟩
theorem zdl (s:St):s.back.lv=s.lv∧s.back.cl=s.cl∧s.back.base=s.base:=by
 unfold St.back
 split
 ·exact⟨rfl,rfl,rfl⟩
 ·split
  ·exact⟨rfl,rfl,rfl⟩
  ·split<;>exact⟨rfl,rfl,rfl⟩
theorem zxs (s:St):s.fin.lv=s.lv∧s.fin.cl=s.cl∧s.fin.base=s.base:=by
 unfold St.fin
 split
 ·exact⟨rfl,rfl,rfl⟩
 ·split<;>exact⟨rfl,rfl,rfl⟩
theorem Told.tell {k m:Nat} {s:St} (h:SInv k m s) (b:BInv s) (c:Int) (h10:c≠10):Told s (s.tell s.top.1 c) c:=
 ⟨⟨_,_,rfl,rfl,b.low _ (q0 h),(h.lev _ (q0 h)).2,rfl,fun e=>absurd e h10⟩,rfl⟩
theorem Told.place {k m:Nat} {s:St} (h:SInv k m s) (b:BInv s) (c c':Int) (ho:outS c=false) (ho':outS c'=false) (h10:c≠10):Told s (s.place c') c:=by
 refine⟨⟨_,_,rfl,rfl,b.low _ (q0 h),(h.lev _ (q0 h)).2, ?_,fun e=>absurd e h10⟩,rfl⟩
 rw[ho]
 split
 ·rcases h.ov _ (q0 h) with e|e|e
  ·rename_i hne;exact absurd e hne
  ·rw[e];rfl
  ·rw[e];rfl
 ·exact ho'
theorem Told.of {s s1 s':St} {c:Int} (h:Told s s1 c) (h1:s'.lv=s1.lv) (h2:s'.cl=s1.cl) (h3:s'.base=s1.base):Told s s' c:=by
 obtain⟨⟨a,b,g1,g2,g3⟩,g4⟩:=h
 exact⟨⟨a,b,h1.trans g1,h2.trans g2,g3⟩,h3.trans g4⟩
theorem zvd {k:Nat} {s:St} (h:SInv k k s) (b:BInv s) (l:List Int) (i:Nat):Told s (s.step l i) (l.getD i 0)∧BInv (s.step l i):=by
 unfold St.step
 simp only[]
 generalize l.getD i 0=c
 have emb: ∀ d o,c≠10→Told s ((s.tell s.top.1 c).embed d o) c∧BInv ((s.tell s.top.1 c).embed d o):=fun d o h10=>
  ⟨(Told.tell h b c h10).of (zat _ _ _).1 (zat _ _ _).2.1 (zat _ _ _).2.2,(b.tell _ _).embed (h.tell _ _) d o⟩
 by_cases c14:c=14
 ·rw[if_pos c14];exact emb 0 (-1) (by omega)
 rw[if_neg c14]
 by_cases c16:c=16
 ·rw[if_pos c16];exact emb 1 (-1) (by omega)
 rw[if_neg c16]
 by_cases c15:c=15
 ·rw[if_pos c15];exact emb 0 0 (by omega)
 rw[if_neg c15]
 by_cases c17:c=17
 ·rw[if_pos c17];exact emb 1 1 (by omega)
 rw[if_neg c17]
 by_cases c18:c=18
 ·rw[if_pos c18];exact⟨(Told.tell h b c (by omega)).of (zdl _).1 (zdl _).2.1 (zdl _).2.2,(b.tell _ _).back⟩
 rw[if_neg c18]
 by_cases c9:c=9
 ·rw[if_pos c9];exact⟨Told.tell h b c (by omega),b.tell _ _⟩
 rw[if_neg c9]
 have f (n:Int) (hn:c≠n):(c==n)=false:=by simpa using hn
 have ho:outS c=false:=by unfold outS;rw[f 9 c9,f 14 c14,f 15 c15,f 16 c16,f 17 c17,f 18 c18];rfl
 by_cases hop:opens c=true
 ·rw[if_pos hop]
  have h10:c≠10:=by intro e;subst e;simp[opens] at hop
  exact⟨(Told.place h b c c ho ho h10).of (zh1 _ _).1 (zh1 _ _).2.1 (zh1 _ _).2.2,(b.place _).iso (h.place _) _⟩
 rw[if_neg hop]
 by_cases c22:c=22
 ·rw[if_pos c22]
  have:=Told.place h.fin b.fin c c ho ho (by omega)
  obtain⟨⟨x,y,g1,g2,g3,g4⟩,g5⟩:=this
  obtain⟨k1,k2,k3⟩:=zxs s
  rw[k1] at g1;rw[k2] at g2;rw[k3] at g3 g4 g5
  exact⟨⟨⟨x,y,g1,g2,g3,g4⟩,g5⟩,b.fin.place _⟩
 rw[if_neg c22]
 by_cases c10:c=10
 ·rw[if_pos c10]
  refine⟨⟨⟨s.base,c,rfl,rfl,Int.le_refl _, ?_,rfl,fun _=>rfl⟩,rfl⟩,b.reset.tell _ _⟩
  have:=h.base
  omega
 rw[if_neg c10]
 split
 ·exact⟨Told.place h b c 0 ho rfl c10,b.place _⟩
 ·exact⟨Told.place h b c c ho ho c10,b.place _⟩
theorem zqe {l:List Int} {a:Int} {i n:Nat} (hl:l.length=n):(l++ [a]).getD i 0=if i=n then a else l.getD i 0:=by
 simp only[List.getD_eq_getElem?_getD]
 by_cases h:i=n
 ·rw[if_pos h,List.getElem?_append_right (by omega),h,hl]
  simp
 ·rw[if_neg h]
  by_cases h1:i<n
  ·rw[List.getElem?_append_left (by omega)]
  ·rw[List.getElem?_eq_none (by simp;omega),List.getElem?_eq_none (by omega)]
theorem zab {b:Int} (hb:b=0∨b=1) (l:List Int): ∀ n,BInv (qV l b n)∧(qV l b n).base=b∧(qV l b n).lv.length=n∧(qV l b n).cl.length=n∧
  ∀ i,i<n→b≤(qV l b n).lv.getD i 0∧(qV l b n).lv.getD i 0≤125∧outS ((qV l b n).cl.getD i 0)=outS (l.getD i 0)∧(l.getD i 0=10→(qV l b n).lv.getD i 0=b)
 |0=>⟨⟨by simp[qV,St.init],fun e he=>by simp[qV,St.init] at he;subst he;simp[qV,St.init],by simp[qV,St.init],by simp[qV,St.init]⟩,rfl,rfl,rfl,fun i hi=>by omega⟩
 |n+1=>by
  obtain⟨h1,h2,h3,h4,h5⟩:=zab hb l n
  rw[xL]
  obtain⟨⟨⟨x,y,g1,g2,g3,g4,g5,g6⟩,g7⟩,g8⟩:=zvd (zl6 hb l n) h1 l n
  rw[h2] at g3 g6 g7
  refine⟨g8,g7,by rw[g1];simp[h3],by rw[g2];simp[h4],fun i hi=> ?_⟩
  rw[g1,g2,zqe h3,zqe h4]
  by_cases hin:i=n
  ·subst hin
   simp only[if_true]
   exact⟨g3,g4,g5,g6⟩
  ·simp only[hin,if_false]
   exact h5 i (by omega)
theorem zcs (a:Nat): ∀ (l:List Int) (d k:Nat),scan l d (a+k)=if scan l d k= -1 then -1 else scan l d k+a
 | [],d,k=>rfl
 |c::l,d,k=>by
  rw[zik,zik]
  have e:a+k+1=a+(k+1):=by omega
  rw[e]
  split
  ·rfl
  ·split
   ·exact zcs a l _ _
   ·split
    ·split
     ·rw[if_neg (by omega)];omega
     ·exact zcs a l _ _
    ·exact zcs a l _ _
theorem zv5 (A S:List Int) (j:Nat):(A++S).drop (A.length+j)=S.drop j:=by
 rw[List.drop_append,List.drop_of_length_le (by omega)]
 simp
theorem zm2 (A S:List Int) (j:Nat):endOf (A++S) (A.length+j)=if endOf S j= -1 then -1 else endOf S j+A.length:=by
 unfold endOf
 rw[show A.length+j+1=A.length+(j+1) by omega,zv5,zcs]
theorem zyr {A S:List Int} {j:Nat} (h:j<S.length) (h':A.length+j<(A++S).length):(A++S)[A.length+j]=S[j]:=by
 rw[List.getElem_append_right (by omega)]
 simp
theorem zjy (A S:List Int): ∀ (n j:Nat) (to:Int),S.length - j≤n→zU (A++S) (to+A.length) (A.length+j)=zU S to j:=by
 intro n
 induction n with
 |zero=>
  intro j to hn
  conv=>lhs;unfold zU
  conv=>rhs;unfold zU
  rw[dif_neg (by simp;omega),dif_neg (by omega)]
 |succ n ih=>
  intro j to hn
  conv=>lhs;unfold zU
  conv=>rhs;unfold zU
  by_cases hj:j<S.length
  ·rw[dif_pos (show A.length+j<(A++S).length by simp;omega),dif_pos hj,zyr hj]
   by_cases ht:(j:Int)<to
   ·rw[if_pos (by omega),if_pos ht]
    split
    ·rfl
    ·split
     ·rename_i ho
      have he:=zm2 A S j
      have hg:=qP S j
      by_cases h1:endOf S j= -1
      ·rw[dif_pos (by rw[he,if_pos h1]),dif_pos h1]
      ·rw[if_neg h1] at he
       rw[dif_neg (by omega),dif_neg h1,he,show(endOf S j+(A.length:Int)).toNat+1=A.length+((endOf S j).toNat+1) by omega]
       exact ih _ to (by omega)
     ·split
      ·rw[show A.length+j+1=A.length+(j+1) by omega]
       exact ih _ to (by omega)
      ·rfl
   ·rw[if_neg (by omega),if_neg ht]
  ·rw[dif_neg (by simp;omega),dif_neg hj]
theorem zht (A S:List Int) (j:Nat):(A++S).getD (A.length+j) 0=S.getD j 0:=by
 simp only[List.getD_eq_getElem?_getD]
 rw[List.getElem?_append_right (by omega)]
 simp
theorem zqh (A S:List Int) (j:Nat) (hj:j<S.length):zll (A++S) ((A.length+j:Nat):Int)=zll S (j:Int):=by
 unfold zll
 rw[Int.toNat_natCast,Int.toNat_natCast,zht]
 have c1:(((A.length+j:Nat):Int)<0∨((A++S).length:Int)≤((A.length+j:Nat):Int)∨opens (S.getD j 0)=false)↔((j:Int)<0∨(S.length:Int)≤j∨opens (S.getD j 0)=false):=by
  rw[List.length_append]
  constructor<;>rintro (h|h|h)<;>first|omega|exact .inr (.inr h)
 simp only[c1]
 split
 ·rfl
 ·split
  ·rfl
  ·have he:=zm2 A S j
   have hg:=qP S j
   congr 1
   rw[show A.length+j+1=A.length+(j+1) by omega]
   by_cases h1:endOf S j= -1
   ·rw[if_pos (by rw[he,if_pos h1]),if_pos h1]
    have:=zjy A S _ (j+1) (S.length:Int) (Nat.le_refl _)
    rw[← this]
    congr 1
    simp;omega
   ·rw[if_neg h1] at he
    rw[if_neg (by omega),if_neg h1,he]
    exact zjy A S _ (j+1) (endOf S j) (Nat.le_refl _)
def St.core (s:St):St:={ s with lv:= [],cl:= [],most:=0}
def St.stepC (c iso:Int) (s:St):St:=
 if c=14 then(s.tell s.top.1 c).embed 0 (-1)
 else if c=16 then(s.tell s.top.1 c).embed 1 (-1)
 else if c=15 then(s.tell s.top.1 c).embed 0 0
 else if c=17 then(s.tell s.top.1 c).embed 1 1
 else if c=18 then(s.tell s.top.1 c).back
 else if c=9 then s.tell s.top.1 c
 else if opens c=true then(s.place c).iso iso
 else if c=22 then s.fin.place c
 else if c=10 then s.reset.tell s.base c
 else if c<0∨23≤c then s.place 0
 else s.place c
theorem zit (l:List Int) (s:St) (i:Nat):s.step l i=s.stepC (l.getD i 0) (zll l i):=rfl
structure Same (s t s' t':St):Prop where
 core:s'.core=t'.core
 told: ∃ a b,s'.lv=s.lv++ [a]∧t'.lv=t.lv++ [a]∧s'.cl=s.cl++ [b]∧t'.cl=t.cl++ [b]
theorem zrp (s:St) (lv cl:List Int) (m d o:Int):(({ s with lv:=lv,cl:=cl,most:=m}:St).embed d o).core=(s.embed d o).core:=by
 have e:({ s with lv:=lv,cl:=cl,most:=m}:St).embed d o=if s.fits (jO s.top.1 d) then({ s with lv:=lv,cl:=cl,most:=m}:St).push (jO s.top.1 d,o,false) else if s.li=0 then { s with lv:=lv,cl:=cl,most:=m,le:=s.le+1} else { s with lv:=lv,cl:=cl,most:=m}:=rfl
 rw[e]
 unfold St.embed
 split
 ·rfl
 ·split<;>rfl
theorem zwj (s:St) (lv cl:List Int) (m d:Int):(({ s with lv:=lv,cl:=cl,most:=m}:St).iso d).core=(s.iso d).core:=by
 have e:({ s with lv:=lv,cl:=cl,most:=m}:St).iso d=if s.fits (jO s.top.1 d) then { ({ s with lv:=lv,cl:=cl,most:=m}:St).push (jO s.top.1 d, -1,true) with v:=s.v+1} else { s with lv:=lv,cl:=cl,most:=m,li:=s.li+1}:=rfl
 rw[e]
 unfold St.iso
 split<;>rfl
theorem zs4 (s:St) (lv cl:List Int) (m:Int):(({ s with lv:=lv,cl:=cl,most:=m}:St).back).core=s.back.core:=by
 have e:({ s with lv:=lv,cl:=cl,most:=m}:St).back=if 0<s.li then { s with lv:=lv,cl:=cl,most:=m} else if 0<s.le then { s with lv:=lv,cl:=cl,most:=m,le:=s.le - 1} else if 1<s.st.length∧s.top.2.2=false then { s with lv:=lv,cl:=cl,most:=m,st:=s.st.tail} else { s with lv:=lv,cl:=cl,most:=m}:=rfl
 rw[e]
 unfold St.back
 split
 ·rfl
 ·split
  ·rfl
  ·split<;>rfl
theorem zwd (s:St) (lv cl:List Int) (m:Int):({ s with lv:=lv,cl:=cl,most:=m}:St).fin={ s.fin with lv:=lv,cl:=cl,most:=m}:=by
 have e:({ s with lv:=lv,cl:=cl,most:=m}:St).fin=if 0<s.li then { s with lv:=lv,cl:=cl,most:=m,li:=s.li - 1} else if 0<s.v then { s with lv:=lv,cl:=cl,most:=m,le:=0,v:=s.v - 1,st:=zc4 s.st} else { s with lv:=lv,cl:=cl,most:=m}:=rfl
 rw[e]
 unfold St.fin
 split
 ·rfl
 ·split<;>rfl
theorem zsm (c iso:Int) (s:St) (lv cl:List Int) (m:Int):Same s { s with lv:=lv,cl:=cl,most:=m} (s.stepC c iso) (({ s with lv:=lv,cl:=cl,most:=m}:St).stepC c iso):=by
 have ht:({ s with lv:=lv,cl:=cl,most:=m}:St).top=s.top:=rfl
 unfold St.stepC
 rw[ht]
 have emb: ∀ d o,Same s { s with lv:=lv,cl:=cl,most:=m} ((s.tell s.top.1 c).embed d o) ((({ s with lv:=lv,cl:=cl,most:=m}:St).tell s.top.1 c).embed d o):=fun d o=>
  ⟨(zrp (s.tell s.top.1 c) (lv++ [s.top.1]) (cl++ [c]) m d o).symm,s.top.1,c,(zat _ _ _).1,(zat _ _ _).1,(zat _ _ _).2.1,(zat _ _ _).2.1⟩
 split
 ·exact emb _ _
 split
 ·exact emb _ _
 split
 ·exact emb _ _
 split
 ·exact emb _ _
 split
 ·exact⟨(zs4 (s.tell s.top.1 c) (lv++ [s.top.1]) (cl++ [c]) m).symm,s.top.1,c,(zdl _).1,(zdl _).1,(zdl _).2.1,(zdl _).2.1⟩
 split
 ·exact⟨rfl,s.top.1,c,rfl,rfl,rfl,rfl⟩
 split
 ·exact⟨(zwj (s.place c) (lv++ [s.top.1]) (cl++ [if s.top.2.1≠ -1 then s.top.2.1 else c]) m iso).symm,_,_,(zh1 _ _).1,(zh1 _ _).1,(zh1 _ _).2.1,(zh1 _ _).2.1⟩
 split
 ·rw[zwd s lv cl m]
  obtain⟨k1,k2,_⟩:=zxs s
  refine⟨rfl,s.fin.top.1,if s.fin.top.2.1≠ -1 then s.fin.top.2.1 else c, ?_,rfl, ?_,rfl⟩
  ·show s.fin.lv++ [_]=_;rw[k1]
  ·show s.fin.cl++ [_]=_;rw[k2]
 split
 ·exact⟨rfl,s.base,c,rfl,rfl,rfl,rfl⟩
 split
 ·exact⟨rfl,_,_,rfl,rfl,rfl,rfl⟩
 ·exact⟨rfl,_,_,rfl,rfl,rfl,rfl⟩
theorem zpq {c iso:Int} {s t:St} (h:s.core=t.core):Same s t (s.stepC c iso) (t.stepC c iso):=by
 have e:t={ s with lv:=t.lv,cl:=t.cl,most:=t.most}:=by
  cases s;cases t
  simp only[St.core,St.mk.injEq] at h ⊢
  simp[h]
 rw[e]
 exact zsm c iso s t.lv t.cl t.most
theorem ziv (A A' S:List Int) (b:Int) (h:(qV (A++S) b A.length).core=(qV (A'++S) b A'.length).core): ∀ n,n≤S.length→
  (qV (A++S) b (A.length+n)).core=(qV (A'++S) b (A'.length+n)).core∧
  ∃ x y,(qV (A++S) b (A.length+n)).lv=(qV (A++S) b A.length).lv++x∧(qV (A'++S) b (A'.length+n)).lv=(qV (A'++S) b A'.length).lv++x∧
   (qV (A++S) b (A.length+n)).cl=(qV (A++S) b A.length).cl++y∧(qV (A'++S) b (A'.length+n)).cl=(qV (A'++S) b A'.length).cl++y
 |0,_=>⟨h, [], [],by simp,by simp,by simp,by simp⟩
 |n+1,hn=>by
  obtain⟨h1,x,y,g1,g2,g3,g4⟩:=ziv A A' S b h n (by omega)
  rw[show A.length+(n+1)=A.length+n+1 by omega,show A'.length+(n+1)=A'.length+n+1 by omega,xL,xL,zit,zit,zht,zht,zqh A S n (by omega),zqh A' S n (by omega)]
  obtain⟨k1,p,q,k2,k3,k4,k5⟩:=zpq (c:=S.getD n 0) (iso:=zll S n) h1
  exact⟨k1,x++ [p],y++ [q],by rw[k2,g1,List.append_assoc],by rw[k3,g2,List.append_assoc],by rw[k4,g3,List.append_assoc],by rw[k5,g4,List.append_assoc]⟩
end Go.Sx
