/- Level, plain: levels of a paragraph. -/
import Derived.Test.YtlppdabhaipbkaaGreatDoorSxMf
import Derived.Test.YtlppdabhaipbkaaGreatDoorSxMh
set_option linter.unusedVariables false
set_option linter.unusedSimpArgs false
namespace Go.Sx
def zff (l a:List Int):List Int:=a.map fun p=>l.getD p.toNat 0
theorem zee (l a:List Int):(zff l a).length=a.length:=by simp[zff]
theorem z1a {a l:List Int} (ha:a.length≤100000) (h: ∀ p∈a,0≤p∧p<(l.length:Int)):Lz.s1F (a,l)=some (zff l a,l):=by
 unfold Lz.s1F
 rw[if_pos (by simp only[zl];omega)]
 refine zx (zlm (fun k m=>(k,l,m)) (fun m=>(l,m)) a.length (fun k=>l.getD (a.getD k 0).toNat 0) ?_ ?_ (by simp)) (by rw[zgv a (fun p=>l.getD p.toNat 0)];rfl)
 ·intro k m hm hk
  have:=h _ (List.getElem_mem hk)
  rw[← zp 0 hk] at this
  dsimp only
  rw[if_pos (by rw[decide_eq_true_eq];omega),if_pos (by omega),Int.toNat_natCast,if_pos this,if_pos (by omega),za (by omega) (by omega)]
  rfl
 ·intro m hm
  dsimp only
  rw[if_neg (by rw[decide_eq_true_eq];omega)]
theorem zzo {a l:List Int} (ha:a.length≤100000) (h: ∀ p∈a,0≤p∧p<(l.length:Int)):Lz.f49F (l,a)=some (zff l a):=by
 unfold Lz.f49F
 rw[if_pos (by simp only[zl];omega)]
 refine zx (zlm (fun k m=>(k,m)) id a.length (fun k=>l.getD (a.getD k 0).toNat 0) ?_ ?_ (by simp)) (by rw[zgv a (fun p=>l.getD p.toNat 0)];rfl)
 ·intro k m hm hk
  have:=h _ (List.getElem_mem hk)
  rw[← zp 0 hk] at this
  dsimp only
  rw[if_pos (by rw[decide_eq_true_eq];omega),if_pos (by omega),Int.toNat_natCast,if_pos this,if_pos (by omega),za (by omega) (by omega)]
  rfl
 ·intro m hm
  dsimp only
  rw[if_neg (by rw[decide_eq_true_eq];omega)]
  rfl
theorem zuv (ch cl first:List Int) (level sos:Int):(ofS ch cl first level sos).length=cl.length:=by
 unfold ofS
 split
 ·exact zht _ (zj5 _ _ _) _ _
 ·rfl
abbrev Sq:=List Int×Int×Int×Int
noncomputable def zve (chars cl:List Int) (s:Sq):List Int:=
 zuo (ofS (zff chars s.1) (zje (zff cl s.1) s.2.2.1) (zff cl s.1) s.2.1 s.2.2.1) s.2.1 s.2.2.1 s.2.2.2
theorem zq6 (chars cl:List Int) (s:Sq):(zve chars cl s).length=s.1.length:=by
 unfold zve
 rw[zup,zuv,ziv,zee]
def zkc:List Int→List Int→List Int→List Int
 |p::ps,v::vs,m=>zkc ps vs (m.set p.toNat v)
 |_,_,m=>m
theorem zax: ∀ (ps vs m:List Int),(zkc ps vs m).length=m.length
 | [],_,_=>by simp[zkc]
 |_::_, [],_=>by simp[zkc]
 |p::ps,v::vs,m=>by rw[zkc,zax ps vs,List.length_set]
noncomputable def z6 (chars:List Int) (lc:List Int×List Int) (s:Sq):List Int×List Int:=
 (zkc s.1 ((zve chars lc.2 s).map (lvC s.2.1)) lc.1,zkc s.1 (zve chars lc.2 s) lc.2)
theorem zla {l:List Int} {k:Nat} (h:k<l.length):l.drop k=l.getD k 0::l.drop (k+1):=by rw[zp 0 h];exact List.drop_eq_getElem_cons h
theorem zzg {chars cl lv first:List Int} {base:Int} {s:Sq} (hc:cl.length=chars.length) (hv:lv.length=chars.length) (hs: ∀ p∈s.1,0≤p∧p<(chars.length:Int)) (hl:s.1.length≤1000) (h0:0≤s.2.1) (h1:s.2.1≤125):
  Lz.f29F (s,chars,first,base,lv,cl)=some (chars,first,base,(z6 chars (lv,cl) s).1,(z6 chars (lv,cl) s).2):=by
 unfold Lz.f29F z6
 obtain⟨a,lev,sos,eos⟩:=s
 dsimp only at hs hl h0 h1 ⊢
 have hs': ∀ p∈a,0≤p∧p<(cl.length:Int):=by rw[hc];exact hs
 rw[z1a (by omega) hs']
 simp only[Option.bind_some]
 rw[zzp (by rw[zee];omega),Option.bind_some,zzo (by omega) hs,Option.bind_some,zz6 _ _ _ _ _ (by rw[ziv,zee];omega),Option.bind_some,zzq (by rw[zuv,ziv,zee];omega),Option.bind_some]
 have hV:zuo (ofS (zff chars a) (zje (zff cl a) sos) (zff cl a) lev sos) lev sos eos=zve chars cl (a,lev,sos,eos):=rfl
 have hVl:=zq6 chars cl (a,lev,sos,eos)
 rw[hV]
 generalize zve chars cl (a,lev,sos,eos)=V at hVl ⊢
 dsimp only at hVl
 rw[zzr (by omega) (by omega) (by omega),Option.bind_some]
 have hWl:(V.map (lvC lev)).length=a.length:=by rw[List.length_map,hVl]
 generalize V.map (lvC lev)=W at hWl ⊢
 suffices key: ∀ (j k:Nat),k+j=a.length→ ∀ (lv cl:List Int),cl.length=chars.length→lv.length=chars.length→
   iter _ ((k:Int),chars,first,base,lv,cl,a,lev,sos,eos)=some (chars,first,base,zkc (a.drop k) (W.drop k) lv,zkc (a.drop k) (V.drop k) cl) from
  zx (key a.length 0 (by omega) lv cl hc hv) rfl
 intro j
 induction j with
 |zero=>
  intro k hk lv cl hc hv
  refine zn ?_
  dsimp only
  rw[if_neg (by rw[decide_eq_true_eq];omega),List.drop_of_length_le (by omega)]
  rfl
 |succ j ih=>
  intro k hk lv cl hc hv
  have hka:k<a.length:=by omega
  have hp:=hs _ (List.getElem_mem hka)
  rw[← zp 0 hka] at hp
  rw[zy (s':=(((k+1:Nat):Int),chars,first,base,lv.set (a.getD k 0).toNat (W.getD k 0),cl.set (a.getD k 0).toNat (V.getD k 0),a,lev,sos,eos))]
  ·rw[ih (k+1) (by omega) _ _ (by rw[List.length_set];exact hc) (by rw[List.length_set];exact hv),zla hka,zla (l:=W) (k:=k) (by omega),zla (l:=V) (k:=k) (by omega)]
   rfl
  ·dsimp only
   rw[if_pos (by rw[decide_eq_true_eq];omega),if_pos (by omega),if_pos (by omega),if_pos (by omega),if_pos (by omega),Int.toNat_natCast,if_pos (by omega),if_pos (by omega),za (by omega) (by omega)]
   rfl
def zfi:Int→List Int→List Int→List Int
 |b,c::cs,v::vs=>(if outC c=true then b else v)::zfi (if outC c=true then b else v) cs vs
 |_,_,_=> []
theorem zny: ∀ (cs vs:List Int) (b:Int),cs.length=vs.length→(zfi b cs vs).length=vs.length
 | [], [],_,_=>rfl
 |c::cs,v::vs,b,h=>by simp only[zfi,List.length_cons];rw[zny cs vs _ (by simpa using h)]
theorem zzh {chars first lv cl:List Int} {base:Int} (hf:first.length≤100000) (hv:first.length=lv.length):Lz.f30F (chars,first,base,lv,cl)=some (chars,first,base,zfi base first lv,cl):=by
 unfold Lz.f30F
 dsimp only
 suffices key: ∀ (cs vs d:List Int) (b:Int),d.length+cs.length=first.length→cs=first.drop d.length→vs.length=cs.length→iter _ (b,(d.length:Int),chars,first,base,d++vs,cl)=some (chars,first,base,d++zfi b cs vs,cl) from
  zx (key first lv [] base (by simp) rfl hv.symm) rfl
 intro cs
 induction cs with
 |nil=>
  intro vs d b h1 h2 h3
  have:vs= []:=List.eq_nil_of_length_eq_zero h3
  subst this
  refine zn ?_
  dsimp only
  rw[if_neg (by rw[decide_eq_true_eq];simp at h1;omega)]
  rfl
 |cons c cs ih=>
  intro vs d b h1 h2 h3
  obtain⟨v,vs,rfl⟩: ∃ v vs',vs=v::vs':=by
   cases vs with
   |nil=>simp at h3
   |cons v vs=>exact⟨v,vs,rfl⟩
  have hlt:d.length<first.length:=by simp at h1;omega
  have hdr:=zla hlt
  rw[← h2] at hdr
  have hc:c=first.getD d.length 0:=by simpa using congrArg List.head? hdr
  have hcs:cs=first.drop (d.length+1):=by simpa using congrArg List.tail hdr
  have ev:(d++v::vs).getD d.length 0=v:=by simp[List.getD_eq_getElem?_getD]
  have es: ∀ x,(d++v::vs).set d.length x=d++x::vs:=fun x=>by simp
  have ex: ∀ x,(d++x::vs).getD d.length 0=x:=fun x=>by simp[List.getD_eq_getElem?_getD]
  have hln: ∀ x:Int,((d++x::vs).length:Int)=d.length+vs.length+1:=fun x=>by simp;omega
  rw[zy (s':=(if outC c=true then b else v,(((d++ [if outC c=true then b else v]).length:Nat):Int),chars,first,base,(d++ [if outC c=true then b else v])++vs,cl))]
  ·rw[ih vs (d++ [if outC c=true then b else v]) _ (by simp at h1 ⊢;omega) (by simpa using hcs) (by simpa using h3)]
   simp[zfi]
  ·dsimp only
   rw[if_pos (by rw[decide_eq_true_eq];omega),if_pos (by omega),Int.toNat_natCast, ← hc,zxm,Option.bind_some]
   cases outC c with
   |true=>
    rw[if_pos rfl,if_pos (by rw[hln];omega),es]
    simp only[Option.bind_some,ex]
    rw[if_pos (by rw[hln];omega),za (by omega) (by omega)]
    simp
   |false=>
    rw[if_neg (by decide)]
    simp only[Option.bind_some,ex]
    rw[if_pos (by rw[hln];omega),za (by omega) (by omega)]
    simp
theorem zxw {c v:List Int} {base:Int} {n:Nat} (hc:c.length=n) (hv: ∀ i,0≤v.getD i 0∧v.getD i 0≤125) {s:Sq} (h:s∈zeo c v base):(∀ p∈s.1,0≤p∧p<(n:Int))∧s.1.length≤n∧0≤s.2.1∧s.2.1≤125∧s.1≠ []∧(∀ p∈s.1,p∈seenS c):=by
 unfold zeo at h
 obtain⟨k,hk,rfl⟩:=List.mem_map.1 h
 have hr:=zl4 c v
 have hm:=zno hr (k:=(xL c v).length) (s:=k) (Nat.le_refl _)
 refine⟨fun p hp=> ?_, ?_,(hv _).1,(hv _).2, ?_,hm⟩
 ·obtain⟨j,rfl,h1,_⟩:=qE (hm p hp)
  omega
 ·rw[← hc]
  exact zlr hr _ _ (Nat.le_refl _)
 ·exact zul hr (by simpa using hk)
theorem zvf (c v:List Int) (base:Int):(zeo c v base).length≤c.length:=by
 unfold zeo
 rw[List.length_map,List.length_range]
 refine Nat.le_trans ?_ (zl4 c v).count
 unfold qW
 exact Nat.le_trans (List.length_filter_le ..) (by simp)
noncomputable def zst (chars:List Int) (dir:Int):List Int×List Int:=
 (zeo (chars.map qn) (xN (chars.map qn) (qt (zY (chars.map qn) dir)) chars.length).lv (zY (chars.map qn) dir)).foldl (z6 chars)
  ((xN (chars.map qn) (qt (zY (chars.map qn) dir)) chars.length).lv,(xN (chars.map qn) (qt (zY (chars.map qn) dir)) chars.length).cl)
theorem zli (chars:List Int): ∀ (l:List Sq) (lc:List Int×List Int),(l.foldl (z6 chars) lc).1.length=lc.1.length∧(l.foldl (z6 chars) lc).2.length=lc.2.length
 | [],_=>⟨rfl,rfl⟩
 |s::l,lc=>by
  rw[List.foldl_cons]
  obtain⟨h1,h2⟩:=zli chars l (z6 chars lc s)
  exact⟨by rw[h1];exact zax ..,by rw[h2];exact zax ..⟩
noncomputable def zrw (chars:List Int) (dir:Int):List Int:=zfi (zY (chars.map qn) dir) (chars.map qn) (zst chars dir).1
theorem zg7 (b:Int):qt b=0∨qt b=1:=by unfold qt;split<;>simp
theorem zgu (l:List Int) (dir:Int):zY l dir=0∨zY l dir=1:=by
 unfold zY
 split
 ·omega
 ·rcases zm8 l l.length 0 with h|h|h<;>rw[h]<;>decide
theorem z09 {l:List Int} (hl:l.length≤100000):Lz.s0F l=some (l,l):=by
 unfold Lz.s0F
 have hr:zl (0+l.length) 8:=by simp only[zl];omega
 rw[if_pos hr]
 cases l with
 |nil=>simp[agree]
 |cons a l=>rfl
theorem zxj {chars:List Int} (hl:chars.length≤1000) (dir:Int):
  Lz.f19F (chars,dir)=some (chars,chars.map qn,zY (chars.map qn) dir,zrw chars dir,(zst chars dir).2):=by
 have hm:(chars.map qn).length=chars.length:=List.length_map ..
 obtain⟨_,_,t1,t2,t3⟩:=zac (zg7 (zY (chars.map qn) dir)) (chars.map qn) chars.length
 have hb:=zg7 (zY (chars.map qn) dir)
 have hq: ∀ i,0≤(xN (chars.map qn) (qt (zY (chars.map qn) dir)) chars.length).lv.getD i 0∧(xN (chars.map qn) (qt (zY (chars.map qn) dir)) chars.length).lv.getD i 0≤125:=by
  intro i
  by_cases hi:i<chars.length
  ·have:=t3 i hi
   omega
  ·rw[List.getD_eq_getElem?_getD,List.getElem?_eq_none (by omega)]
   simp
 have hsq:=fun(s:Sq)=>zxw (s:=s) (base:=zY (chars.map qn) dir) hm hq
 unfold Lz.f19F zrw zst
 dsimp only
 rw[zzc (by omega),Option.bind_some,zzd (by omega),Option.bind_some,zze (by omega),Option.bind_some,hm]
 dsimp only
 rw[z09 (by omega),Option.bind_some]
 dsimp only
 rw[zzf (by omega),Option.bind_some,if_pos (by rw[hm,t1])]
 generalize zY (chars.map qn) dir=base at*
 generalize xN (chars.map qn) (qt base) chars.length=st at*
 generalize hS:zeo (chars.map qn) st.lv base=S at*
 suffices key: ∀ (T D:List Sq) (lv cl:List Int),D++T=S→lv.length=chars.length→cl.length=chars.length→iter _ ((D.length:Int),chars,chars.map qn,base,lv,cl)=some (chars,chars.map qn,base,(T.foldl (z6 chars) (lv,cl)).1,(T.foldl (z6 chars) (lv,cl)).2) from by
  refine zx (key S [] st.lv st.cl rfl t1 t2) ?_
  dsimp only
  rw[zzh (by omega) (by rw[hm,(zli chars S _).1,t1])]
  rfl
 have hSl:S.length≤chars.length:=by
  rw[← hS, ← hm]
  exact zvf ..
 intro T
 induction T with
 |nil=>
  intro D lv cl hD h1 h2
  rw[List.append_nil] at hD
  subst hD
  refine zn ?_
  dsimp only
  rw[if_neg (by rw[decide_eq_true_eq];omega)]
  rfl
 |cons s T ih=>
  intro D lv cl hD h1 h2
  have hg:S.getD D.length ([],0,0,0)=s:=by rw[← hD];simp[List.getD_eq_getElem?_getD]
  have hlt:D.length<S.length:=by rw[← hD];simp
  obtain⟨q1,q2,q3,q4,_⟩:=hsq s (by rw[← hD];simp)
  rw[zy (s':=(((D++ [s]).length:Int),chars,chars.map qn,base,(z6 chars (lv,cl) s).1,(z6 chars (lv,cl) s).2))]
  ·rw[ih (D++ [s]) _ _ (by rw[← hD];simp) (by rw[← h1];exact zax ..) (by rw[← h2];exact zax ..)]
   rfl
  ·dsimp only
   rw[if_pos (by rw[decide_eq_true_eq];omega),if_pos (by omega),Int.toNat_natCast,hg,za (by omega) (by omega)]
   have:=zzg (base:=base) (first:=chars.map qn) (s:=s) h2 h1 q1 (by omega) q3 q4
   refine zx this ?_
   simp
theorem z02 {chars:List Int} (hl:chars.length≤1000) (dir:Int):Lz.f7F (chars,dir)=some (zrw chars dir,zY (chars.map qn) dir):=by
 unfold Lz.f7F
 dsimp only
 rw[zxj hl dir]
 rfl
theorem zqb (chars:List Int) (dir:Int):(zrw chars dir).length=chars.length:=by
 obtain⟨_,_,t1,_⟩:=zac (zg7 (zY (chars.map qn) dir)) (chars.map qn) chars.length
 have:(zst chars dir).1.length=chars.length:=by
  unfold zst
  rw[(zli chars _ _).1]
  exact t1
 unfold zrw
 rw[zny _ _ _ (by rw[this];simp),this]
end Go.Sx
