/- Level, plain: levels of a paragraph. -/
import Derived.Test.YtpmbmobjnknnhaaGreatDoorSxHf
import Derived.Test.YtpmbmobjnknnhaaGreatDoorSxHh
set_option linter.unusedVariables false
set_option linter.unusedSimpArgs false
namespace Go.Sx
def zfp (l a:List Int):List Int:=a.map fun p=>l.getD p.toNat 0
theorem zer (l a:List Int):(zfp l a).length=a.length:=by simp[zfp]
theorem z2v {a l:List Int} (ha:a.length≤100000) (h: ∀ p∈a,0≤p∧p<(l.length:Int)):R.s1F (a,l)=some (zfp l a,l):=by
 unfold R.s1F
 rw[if_pos (by simp only[zi];omega)]
 refine zm (zeh (fun k m=>(k,l,m)) (fun m=>(l,m)) a.length (fun k=>l.getD (a.getD k 0).toNat 0) ?_ ?_ (by simp)) (by rw[zek a (fun p=>l.getD p.toNat 0)];rfl)
 ·intro k m hm hk
  have:=h _ (List.getElem_mem hk)
  rw[← zo 0 hk] at this
  dsimp only
  rw[if_pos (by rw[decide_eq_true_eq];omega),if_pos (by omega),Int.toNat_natCast,if_pos this,if_pos (by omega),za (by omega) (by omega)]
  rfl
 ·intro m hm
  dsimp only
  rw[if_neg (by rw[decide_eq_true_eq];omega)]
theorem z1f {a l:List Int} (ha:a.length≤100000) (h: ∀ p∈a,0≤p∧p<(l.length:Int)):R.f74F (l,a)=some (zfp l a):=by
 unfold R.f74F
 rw[if_pos (by simp only[zi];omega)]
 refine zm (zeh (fun k m=>(k,m)) id a.length (fun k=>l.getD (a.getD k 0).toNat 0) ?_ ?_ (by simp)) (by rw[zek a (fun p=>l.getD p.toNat 0)];rfl)
 ·intro k m hm hk
  have:=h _ (List.getElem_mem hk)
  rw[← zo 0 hk] at this
  dsimp only
  rw[if_pos (by rw[decide_eq_true_eq];omega),if_pos (by omega),Int.toNat_natCast,if_pos this,if_pos (by omega),za (by omega) (by omega)]
  rfl
 ·intro m hm
  dsimp only
  rw[if_neg (by rw[decide_eq_true_eq];omega)]
  rfl
theorem zv0 (ch cl first:List Int) (level sos:Int):(ofS ch cl first level sos).length=cl.length:=by
 unfold ofS
 split
 ·exact zh0 _ (zkv _ _ _) _ _
 ·rfl
abbrev Sq:=List Int×Int×Int×Int
noncomputable def zy9 (chars cl:List Int) (s:Sq):List Int:=
 zx0 (ofS (zfp chars s.1) (zo5 (zfp cl s.1) s.2.2.1) (zfp cl s.1) s.2.1 s.2.2.1) s.2.1 s.2.2.1 s.2.2.2
theorem zyk (chars cl:List Int) (s:Sq):(zy9 chars cl s).length=s.1.length:=by
 unfold zy9
 rw[zvu,zv0,zji,zer]
def zt1:List Int→List Int→List Int→List Int
 |p::ps,v::vs,m=>zt1 ps vs (m.set p.toNat v)
 |_,_,m=>m
theorem zeu: ∀ (ps vs m:List Int),(zt1 ps vs m).length=m.length
 | [],_,_=>by simp[zt1]
 |_::_, [],_=>by simp[zt1]
 |p::ps,v::vs,m=>by rw[zt1,zeu ps vs,List.length_set]
noncomputable def xT (chars:List Int) (lc:List Int×List Int) (s:Sq):List Int×List Int:=
 (zt1 s.1 ((zy9 chars lc.2 s).map (lvC s.2.1)) lc.1,zt1 s.1 (zy9 chars lc.2 s) lc.2)
theorem zl3 {l:List Int} {k:Nat} (h:k<l.length):l.drop k=l.getD k 0::l.drop (k+1):=by rw[zo 0 h];exact List.drop_eq_getElem_cons h
theorem z08 {chars cl lv first:List Int} {base:Int} {s:Sq} (hc:cl.length=chars.length) (hv:lv.length=chars.length) (hs: ∀ p∈s.1,0≤p∧p<(chars.length:Int)) (hl:s.1.length≤1000) (h0:0≤s.2.1) (h1:s.2.1≤125):
  R.f50F (s,chars,first,base,lv,cl)=some (chars,first,base,(xT chars (lv,cl) s).1,(xT chars (lv,cl) s).2):=by
 unfold R.f50F xT
 obtain⟨a,lev,sos,eos⟩:=s
 dsimp only at hs hl h0 h1 ⊢
 have hs': ∀ p∈a,0≤p∧p<(cl.length:Int):=by rw[hc];exact hs
 rw[z2v (by omega) hs']
 simp only[Option.bind_some]
 rw[z1g (by rw[zer];omega),Option.bind_some,z1f (by omega) hs,Option.bind_some,z1t _ _ _ _ _ (by rw[zji,zer];omega),Option.bind_some,z1h (by rw[zv0,zji,zer];omega),Option.bind_some]
 have hV:zx0 (ofS (zfp chars a) (zo5 (zfp cl a) sos) (zfp cl a) lev sos) lev sos eos=zy9 chars cl (a,lev,sos,eos):=rfl
 have hVl:=zyk chars cl (a,lev,sos,eos)
 rw[hV]
 generalize zy9 chars cl (a,lev,sos,eos)=V at hVl ⊢
 dsimp only at hVl
 rw[z1i (by omega) (by omega) (by omega),Option.bind_some]
 have hWl:(V.map (lvC lev)).length=a.length:=by rw[List.length_map,hVl]
 generalize V.map (lvC lev)=W at hWl ⊢
 suffices key: ∀ (j k:Nat),k+j=a.length→ ∀ (lv cl:List Int),cl.length=chars.length→lv.length=chars.length→
   iter _ ((k:Int),chars,first,base,lv,cl,a,lev,sos,eos)=some (chars,first,base,zt1 (a.drop k) (W.drop k) lv,zt1 (a.drop k) (V.drop k) cl) from
  zm (key a.length 0 (by omega) lv cl hc hv) rfl
 intro j
 induction j with
 |zero=>
  intro k hk lv cl hc hv
  refine zl ?_
  dsimp only
  rw[if_neg (by rw[decide_eq_true_eq];omega),List.drop_of_length_le (by omega)]
  rfl
 |succ j ih=>
  intro k hk lv cl hc hv
  have hka:k<a.length:=by omega
  have hp:=hs _ (List.getElem_mem hka)
  rw[← zo 0 hka] at hp
  rw[zp (s':=(((k+1:Nat):Int),chars,first,base,lv.set (a.getD k 0).toNat (W.getD k 0),cl.set (a.getD k 0).toNat (V.getD k 0),a,lev,sos,eos))]
  ·rw[ih (k+1) (by omega) _ _ (by rw[List.length_set];exact hc) (by rw[List.length_set];exact hv),zl3 hka,zl3 (l:=W) (k:=k) (by omega),zl3 (l:=V) (k:=k) (by omega)]
   rfl
  ·dsimp only
   rw[if_pos (by rw[decide_eq_true_eq];omega),if_pos (by omega),if_pos (by omega),if_pos (by omega),if_pos (by omega),Int.toNat_natCast,if_pos (by omega),if_pos (by omega),za (by omega) (by omega)]
   rfl
def zmz:Int→List Int→List Int→List Int
 |b,c::cs,v::vs=>(if zgb c=true then b else v)::zmz (if zgb c=true then b else v) cs vs
 |_,_,_=> []
theorem zov: ∀ (cs vs:List Int) (b:Int),cs.length=vs.length→(zmz b cs vs).length=vs.length
 | [], [],_,_=>rfl
 |c::cs,v::vs,b,h=>by simp only[zmz,List.length_cons];rw[zov cs vs _ (by simpa using h)]
theorem z09 {chars first lv cl:List Int} {base:Int} (hf:first.length≤100000) (hv:first.length=lv.length):R.f51F (chars,first,base,lv,cl)=some (chars,first,base,zmz base first lv,cl):=by
 unfold R.f51F
 dsimp only
 suffices key: ∀ (cs vs d:List Int) (b:Int),d.length+cs.length=first.length→cs=first.drop d.length→vs.length=cs.length→iter _ (b,(d.length:Int),chars,first,base,d++vs,cl)=some (chars,first,base,d++zmz b cs vs,cl) from
  zm (key first lv [] base (by simp) rfl hv.symm) rfl
 intro cs
 induction cs with
 |nil=>
  intro vs d b h1 h2 h3
  have:vs= []:=List.eq_nil_of_length_eq_zero h3
  subst this
  refine zl ?_
  dsimp only
  rw[if_neg (by rw[decide_eq_true_eq];simp at h1;omega)]
  rfl
 |cons c cs ih=>
  intro vs d b h1 h2 h3
  obtain⟨v,vs,rfl⟩: ∃ v vs',vs=v::vs':=by
   cases vs with
   |nil=>simp at h3
   |cons v vs=>exact⟨v,vs,rfl⟩
  have hlt:d.length<first.length:=by simp at h1;omega
  have hdr:=zl3 hlt
  rw[← h2] at hdr
  have hc:c=first.getD d.length 0:=by simpa using congrArg List.head? hdr
  have hcs:cs=first.drop (d.length+1):=by simpa using congrArg List.tail hdr
  have ev:(d++v::vs).getD d.length 0=v:=by simp[List.getD_eq_getElem?_getD]
  have es: ∀ x,(d++v::vs).set d.length x=d++x::vs:=fun x=>by simp
  have ex: ∀ x,(d++x::vs).getD d.length 0=x:=fun x=>by simp[List.getD_eq_getElem?_getD]
  have hln: ∀ x:Int,((d++x::vs).length:Int)=d.length+vs.length+1:=fun x=>by simp;omega
  rw[zp (s':=(if zgb c=true then b else v,(((d++ [if zgb c=true then b else v]).length:Nat):Int),chars,first,base,(d++ [if zgb c=true then b else v])++vs,cl))]
  ·rw[ih vs (d++ [if zgb c=true then b else v]) _ (by simp at h1 ⊢;omega) (by simpa using hcs) (by simpa using h3)]
   simp[zmz]
  ·dsimp only
   rw[if_pos (by rw[decide_eq_true_eq];omega),if_pos (by omega),Int.toNat_natCast, ← hc,zrc,Option.bind_some]
   cases zgb c with
   |true=>
    rw[if_pos rfl,if_pos (by rw[hln];omega),es]
    simp only[Option.bind_some,ex]
    rw[if_pos (by rw[hln];omega),za (by omega) (by omega)]
    simp
   |false=>
    rw[if_neg (by decide)]
    simp only[Option.bind_some,ex]
    rw[if_pos (by rw[hln];omega),za (by omega) (by omega)]
    simp
theorem z2g {c v:List Int} {base:Int} {n:Nat} (hc:c.length=n) (hv: ∀ i,0≤v.getD i 0∧v.getD i 0≤125) {s:Sq} (h:s∈zjz c v base):(∀ p∈s.1,0≤p∧p<(n:Int))∧s.1.length≤n∧0≤s.2.1∧s.2.1≤125∧s.1≠ []∧(∀ p∈s.1,p∈seenS c):=by
 unfold zjz at h
 obtain⟨k,hk,rfl⟩:=List.mem_map.1 h
 have hr:=zm1 c v
 have hm:=zol hr (k:=(zjy c v).length) (s:=k) (Nat.le_refl _)
 refine⟨fun p hp=> ?_, ?_,(hv _).1,(hv _).2, ?_,hm⟩
 ·obtain⟨j,rfl,h1,_⟩:=xG (hm p hp)
  omega
 ·rw[← hc]
  exact zmk hr _ _ (Nat.le_refl _)
 ·exact zvr hr (by simpa using hk)
theorem zwj (c v:List Int) (base:Int):(zjz c v base).length≤c.length:=by
 unfold zjz
 rw[List.length_map,List.length_range]
 refine Nat.le_trans ?_ (zm1 c v).count
 unfold xk
 exact Nat.le_trans (List.length_filter_le ..) (by simp)
noncomputable def z0n (chars:List Int) (dir:Int):List Int×List Int:=
 (zjz (chars.map zX) (xS (chars.map zX) (qw (zU (chars.map zX) dir)) chars.length).lv (zU (chars.map zX) dir)).foldl (xT chars)
  ((xS (chars.map zX) (qw (zU (chars.map zX) dir)) chars.length).lv,(xS (chars.map zX) (qw (zU (chars.map zX) dir)) chars.length).cl)
theorem zma (chars:List Int): ∀ (l:List Sq) (lc:List Int×List Int),(l.foldl (xT chars) lc).1.length=lc.1.length∧(l.foldl (xT chars) lc).2.length=lc.2.length
 | [],_=>⟨rfl,rfl⟩
 |s::l,lc=>by
  rw[List.foldl_cons]
  obtain⟨h1,h2⟩:=zma chars l (xT chars lc s)
  exact⟨by rw[h1];exact zeu ..,by rw[h2];exact zeu ..⟩
noncomputable def zcn (chars:List Int) (dir:Int):List Int:=zmz (zU (chars.map zX) dir) (chars.map zX) (z0n chars dir).1
theorem zlo (b:Int):qw b=0∨qw b=1:=by unfold qw;split<;>simp
theorem zrp (l:List Int) (dir:Int):zU l dir=0∨zU l dir=1:=by
 unfold zU
 split
 ·omega
 ·rcases zn3 l l.length 0 with h|h|h<;>rw[h]<;>decide
theorem z2u {l:List Int} (hl:l.length≤100000):R.s0F l=some (l,l):=by
 unfold R.s0F
 have hr:zi (0+l.length) 8:=by simp only[zi];omega
 rw[if_pos hr]
 cases l with
 |nil=>simp[agree]
 |cons a l=>rfl
theorem z0z {chars:List Int} (hl:chars.length≤1000) (dir:Int):
  R.f36F (chars,dir)=some (chars,chars.map zX,zU (chars.map zX) dir,zcn chars dir,(z0n chars dir).2):=by
 have hm:(chars.map zX).length=chars.length:=List.length_map ..
 obtain⟨_,_,t1,t2,t3⟩:=zcc (zlo (zU (chars.map zX) dir)) (chars.map zX) chars.length
 have hb:=zlo (zU (chars.map zX) dir)
 have hq: ∀ i,0≤(xS (chars.map zX) (qw (zU (chars.map zX) dir)) chars.length).lv.getD i 0∧(xS (chars.map zX) (qw (zU (chars.map zX) dir)) chars.length).lv.getD i 0≤125:=by
  intro i
  by_cases hi:i<chars.length
  ·have:=t3 i hi
   omega
  ·rw[List.getD_eq_getElem?_getD,List.getElem?_eq_none (by omega)]
   simp
 have hsq:=fun(s:Sq)=>z2g (s:=s) (base:=zU (chars.map zX) dir) hm hq
 unfold R.f36F zcn z0n
 dsimp only
 rw[z04 (by omega),Option.bind_some,z05 (by omega),Option.bind_some,z06 (by omega),Option.bind_some,hm]
 dsimp only
 rw[z2u (by omega),Option.bind_some]
 dsimp only
 rw[z07 (by omega),Option.bind_some,if_pos (by rw[hm,t1])]
 generalize zU (chars.map zX) dir=base at*
 generalize xS (chars.map zX) (qw base) chars.length=st at*
 generalize hS:zjz (chars.map zX) st.lv base=S at*
 suffices key: ∀ (T D:List Sq) (lv cl:List Int),D++T=S→lv.length=chars.length→cl.length=chars.length→iter _ ((D.length:Int),chars,chars.map zX,base,lv,cl)=some (chars,chars.map zX,base,(T.foldl (xT chars) (lv,cl)).1,(T.foldl (xT chars) (lv,cl)).2) from by
  refine zm (key S [] st.lv st.cl rfl t1 t2) ?_
  dsimp only
  rw[z09 (by omega) (by rw[hm,(zma chars S _).1,t1])]
  rfl
 have hSl:S.length≤chars.length:=by
  rw[← hS, ← hm]
  exact zwj ..
 intro T
 induction T with
 |nil=>
  intro D lv cl hD h1 h2
  rw[List.append_nil] at hD
  subst hD
  refine zl ?_
  dsimp only
  rw[if_neg (by rw[decide_eq_true_eq];omega)]
  rfl
 |cons s T ih=>
  intro D lv cl hD h1 h2
  have hg:S.getD D.length ([],0,0,0)=s:=by rw[← hD];simp[List.getD_eq_getElem?_getD]
  have hlt:D.length<S.length:=by rw[← hD];simp
  obtain⟨q1,q2,q3,q4,_⟩:=hsq s (by rw[← hD];simp)
  rw[zp (s':=(((D++ [s]).length:Int),chars,chars.map zX,base,(xT chars (lv,cl) s).1,(xT chars (lv,cl) s).2))]
  ·rw[ih (D++ [s]) _ _ (by rw[← hD];simp) (by rw[← h1];exact zeu ..) (by rw[← h2];exact zeu ..)]
   rfl
  ·dsimp only
   rw[if_pos (by rw[decide_eq_true_eq];omega),if_pos (by omega),Int.toNat_natCast,hg,za (by omega) (by omega)]
   have:=z08 (base:=base) (first:=chars.map zX) (s:=s) h2 h1 q1 (by omega) q3 q4
   refine zm this ?_
   simp
theorem z0x {chars:List Int} (hl:chars.length≤1000) (dir:Int):R.f25F (chars,dir)=some (zcn chars dir,zU (chars.map zX) dir):=by
 unfold R.f25F
 dsimp only
 rw[z0z hl dir]
 rfl
theorem zd9 (chars:List Int) (dir:Int):(zcn chars dir).length=chars.length:=by
 obtain⟨_,_,t1,_⟩:=zcc (zlo (zU (chars.map zX) dir)) (chars.map zX) chars.length
 have:(z0n chars dir).1.length=chars.length:=by
  unfold z0n
  rw[(zma chars _ _).1]
  exact t1
 unfold zcn
 rw[zov _ _ _ (by rw[this];simp),this]
end Go.Sx
