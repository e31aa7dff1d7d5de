/- Level, plain: levels of a paragraph. -/
import Derived.Test.YtpmbmobjnknnhaaGreatDoorSxHf
import Derived.Test.YtpmbmobjnknnhaaGreatDoorSxHh
set_option linter.unusedVariables false
set_option linter.unusedSimpArgs false
namespace Go.Sx
def zjd (l a:List Int):List Int:=a.map fun p=>l.getD p.toNat 0
theorem zej (l a:List Int):(zjd l a).length=a.length:=by simp[zjd]
theorem z2t {a l:List Int} (ha:a.length≤100000) (h: ∀ p∈a,0≤p∧p<(l.length:Int)):R.s1F (a,l)=some (zjd l a,l):=by
 unfold R.s1F
 rw[if_pos (by simp only[zi];omega)]
 refine zn (zeb (fun k m=>(k,l,m)) (fun m=>(l,m)) a.length (fun k=>l.getD (a.getD k 0).toNat 0) ?_ ?_ (by simp)) (by rw[zgs a (fun p=>l.getD p.toNat 0)];rfl)
 ·intro k m hm hk
  have:=h _ (List.getElem_mem hk)
  rw[← zy 0 hk] at this
  dsimp only
  rw[if_pos (by rw[decide_eq_true_eq];omega),if_pos (by omega),Int.toNat_natCast,if_pos this,if_pos (by omega),za (by omega) (by omega)]
  rfl
 ·intro m hm
  dsimp only
  rw[if_neg (by rw[decide_eq_true_eq];omega)]
theorem z08 {a l:List Int} (ha:a.length≤100000) (h: ∀ p∈a,0≤p∧p<(l.length:Int)):R.f74F (l,a)=some (zjd l a):=by
 unfold R.f74F
 rw[if_pos (by simp only[zi];omega)]
 refine zn (zeb (fun k m=>(k,m)) id a.length (fun k=>l.getD (a.getD k 0).toNat 0) ?_ ?_ (by simp)) (by rw[zgs a (fun p=>l.getD p.toNat 0)];rfl)
 ·intro k m hm hk
  have:=h _ (List.getElem_mem hk)
  rw[← zy 0 hk] at this
  dsimp only
  rw[if_pos (by rw[decide_eq_true_eq];omega),if_pos (by omega),Int.toNat_natCast,if_pos this,if_pos (by omega),za (by omega) (by omega)]
  rfl
 ·intro m hm
  dsimp only
  rw[if_neg (by rw[decide_eq_true_eq];omega)]
  rfl
theorem zvo (ch cl first:List Int) (level sos:Int):(ofS ch cl first level sos).length=cl.length:=by
 unfold ofS
 split
 ·exact zhq _ (zke _ _ _) _ _
 ·rfl
abbrev Sq:=List Int×Int×Int×Int
noncomputable def z0c (chars cl:List Int) (s:Sq):List Int:=
 zxo (ofS (zjd chars s.1) (ztj (zjd cl s.1) s.2.2.1) (zjd cl s.1) s.2.1 s.2.2.1) s.2.1 s.2.2.1 s.2.2.2
theorem zx7 (chars cl:List Int) (s:Sq):(z0c chars cl s).length=s.1.length:=by
 unfold z0c
 rw[zvi,zvo,zi1,zej]
def zxu:List Int→List Int→List Int→List Int
 |p::ps,v::vs,m=>zxu ps vs (m.set p.toNat v)
 |_,_,m=>m
theorem zem: ∀ (ps vs m:List Int),(zxu ps vs m).length=m.length
 | [],_,_=>by simp[zxu]
 |_::_, [],_=>by simp[zxu]
 |p::ps,v::vs,m=>by rw[zxu,zem ps vs,List.length_set]
noncomputable def jp (chars:List Int) (lc:List Int×List Int) (s:Sq):List Int×List Int:=
 (zxu s.1 ((z0c chars lc.2 s).map (lvC s.2.1)) lc.1,zxu s.1 (z0c chars lc.2 s) lc.2)
theorem zlj {l:List Int} {k:Nat} (h:k<l.length):l.drop k=l.getD k 0::l.drop (k+1):=by rw[zy 0 h];exact List.drop_eq_getElem_cons h
theorem z01 {chars cl lv first:List Int} {base:Int} {s:Sq} (hc:cl.length=chars.length) (hv:lv.length=chars.length) (hs: ∀ p∈s.1,0≤p∧p<(chars.length:Int)) (hl:s.1.length≤1000) (h0:0≤s.2.1) (h1:s.2.1≤125):
  R.f50F (s,chars,first,base,lv,cl)=some (chars,first,base,(jp chars (lv,cl) s).1,(jp chars (lv,cl) s).2):=by
 unfold R.f50F jp
 obtain⟨a,lev,sos,eos⟩:=s
 dsimp only at hs hl h0 h1 ⊢
 have hs': ∀ p∈a,0≤p∧p<(cl.length:Int):=by rw[hc];exact hs
 rw[z2t (by omega) hs']
 simp only[Option.bind_some]
 rw[z09 (by rw[zej];omega),Option.bind_some,z08 (by omega) hs,Option.bind_some,z1l _ _ _ _ _ (by rw[zi1,zej];omega),Option.bind_some,z1a (by rw[zvo,zi1,zej];omega),Option.bind_some]
 have hV:zxo (ofS (zjd chars a) (ztj (zjd cl a) sos) (zjd cl a) lev sos) lev sos eos=z0c chars cl (a,lev,sos,eos):=rfl
 have hVl:=zx7 chars cl (a,lev,sos,eos)
 rw[hV]
 generalize z0c chars cl (a,lev,sos,eos)=V at hVl ⊢
 dsimp only at hVl
 rw[z1b (by omega) (by omega) (by omega),Option.bind_some]
 have hWl:(V.map (lvC lev)).length=a.length:=by rw[List.length_map,hVl]
 generalize V.map (lvC lev)=W at hWl ⊢
 suffices key: ∀ (j k:Nat),k+j=a.length→ ∀ (lv cl:List Int),cl.length=chars.length→lv.length=chars.length→
   iter _ ((k:Int),chars,first,base,lv,cl,a,lev,sos,eos)=some (chars,first,base,zxu (a.drop k) (W.drop k) lv,zxu (a.drop k) (V.drop k) cl) from
  zn (key a.length 0 (by omega) lv cl hc hv) rfl
 intro j
 induction j with
 |zero=>
  intro k hk lv cl hc hv
  refine zl ?_
  dsimp only
  rw[if_neg (by rw[decide_eq_true_eq];omega),List.drop_of_length_le (by omega)]
  rfl
 |succ j ih=>
  intro k hk lv cl hc hv
  have hka:k<a.length:=by omega
  have hp:=hs _ (List.getElem_mem hka)
  rw[← zy 0 hka] at hp
  rw[zo (s':=(((k+1:Nat):Int),chars,first,base,lv.set (a.getD k 0).toNat (W.getD k 0),cl.set (a.getD k 0).toNat (V.getD k 0),a,lev,sos,eos))]
  ·rw[ih (k+1) (by omega) _ _ (by rw[List.length_set];exact hc) (by rw[List.length_set];exact hv),zlj hka,zlj (l:=W) (k:=k) (by omega),zlj (l:=V) (k:=k) (by omega)]
   rfl
  ·dsimp only
   rw[if_pos (by rw[decide_eq_true_eq];omega),if_pos (by omega),if_pos (by omega),if_pos (by omega),if_pos (by omega),Int.toNat_natCast,if_pos (by omega),if_pos (by omega),za (by omega) (by omega)]
   rfl
def zp6:Int→List Int→List Int→List Int
 |b,c::cs,v::vs=>(if zfh c=true then b else v)::zp6 (if zfh c=true then b else v) cs vs
 |_,_,_=> []
theorem zok: ∀ (cs vs:List Int) (b:Int),cs.length=vs.length→(zp6 b cs vs).length=vs.length
 | [], [],_,_=>rfl
 |c::cs,v::vs,b,h=>by simp only[zp6,List.length_cons];rw[zok cs vs _ (by simpa using h)]
theorem z02 {chars first lv cl:List Int} {base:Int} (hf:first.length≤100000) (hv:first.length=lv.length):R.f51F (chars,first,base,lv,cl)=some (chars,first,base,zp6 base first lv,cl):=by
 unfold R.f51F
 dsimp only
 suffices key: ∀ (cs vs d:List Int) (b:Int),d.length+cs.length=first.length→cs=first.drop d.length→vs.length=cs.length→iter _ (b,(d.length:Int),chars,first,base,d++vs,cl)=some (chars,first,base,d++zp6 b cs vs,cl) from
  zn (key first lv [] base (by simp) rfl hv.symm) rfl
 intro cs
 induction cs with
 |nil=>
  intro vs d b h1 h2 h3
  have:vs= []:=List.eq_nil_of_length_eq_zero h3
  subst this
  refine zl ?_
  dsimp only
  rw[if_neg (by rw[decide_eq_true_eq];simp at h1;omega)]
  rfl
 |cons c cs ih=>
  intro vs d b h1 h2 h3
  obtain⟨v,vs,rfl⟩: ∃ v vs',vs=v::vs':=by
   cases vs with
   |nil=>simp at h3
   |cons v vs=>exact⟨v,vs,rfl⟩
  have hlt:d.length<first.length:=by simp at h1;omega
  have hdr:=zlj hlt
  rw[← h2] at hdr
  have hc:c=first.getD d.length 0:=by simpa using congrArg List.head? hdr
  have hcs:cs=first.drop (d.length+1):=by simpa using congrArg List.tail hdr
  have ev:(d++v::vs).getD d.length 0=v:=by simp[List.getD_eq_getElem?_getD]
  have es: ∀ x,(d++v::vs).set d.length x=d++x::vs:=fun x=>by simp
  have ex: ∀ x,(d++x::vs).getD d.length 0=x:=fun x=>by simp[List.getD_eq_getElem?_getD]
  have hln: ∀ x:Int,((d++x::vs).length:Int)=d.length+vs.length+1:=fun x=>by simp;omega
  rw[zo (s':=(if zfh c=true then b else v,(((d++ [if zfh c=true then b else v]).length:Nat):Int),chars,first,base,(d++ [if zfh c=true then b else v])++vs,cl))]
  ·rw[ih vs (d++ [if zfh c=true then b else v]) _ (by simp at h1 ⊢;omega) (by simpa using hcs) (by simpa using h3)]
   simp[zp6]
  ·dsimp only
   rw[if_pos (by rw[decide_eq_true_eq];omega),if_pos (by omega),Int.toNat_natCast, ← hc,zqy,Option.bind_some]
   cases zfh c with
   |true=>
    rw[if_pos rfl,if_pos (by rw[hln];omega),es]
    simp only[Option.bind_some,ex]
    rw[if_pos (by rw[hln];omega),za (by omega) (by omega)]
    simp
   |false=>
    rw[if_neg (by decide)]
    simp only[Option.bind_some,ex]
    rw[if_pos (by rw[hln];omega),za (by omega) (by omega)]
    simp
theorem z2d {c v:List Int} {base:Int} {n:Nat} (hc:c.length=n) (hv: ∀ i,0≤v.getD i 0∧v.getD i 0≤125) {s:Sq} (h:s∈zoo c v base):(∀ p∈s.1,0≤p∧p<(n:Int))∧s.1.length≤n∧0≤s.2.1∧s.2.1≤125∧s.1≠ []∧(∀ p∈s.1,p∈seenS c):=by
 unfold zoo at h
 obtain⟨k,hk,rfl⟩:=List.mem_map.1 h
 have hr:=zmg c v
 have hm:=zn9 hr (k:=(zol c v).length) (s:=k) (Nat.le_refl _)
 refine⟨fun p hp=> ?_, ?_,(hv _).1,(hv _).2, ?_,hm⟩
 ·obtain⟨j,rfl,h1,_⟩:=xD (hm p hp)
  omega
 ·rw[← hc]
  exact zl3 hr _ _ (Nat.le_refl _)
 ·exact zvg hr (by simpa using hk)
theorem zv5 (c v:List Int) (base:Int):(zoo c v base).length≤c.length:=by
 unfold zoo
 rw[List.length_map,List.length_range]
 refine Nat.le_trans ?_ (zmg c v).count
 unfold xi
 exact Nat.le_trans (List.length_filter_le ..) (by simp)
noncomputable def z12 (chars:List Int) (dir:Int):List Int×List Int:=
 (zoo (chars.map xo) (zco (chars.map xo) (qD (qL (chars.map xo) dir)) chars.length).lv (qL (chars.map xo) dir)).foldl (jp chars)
  ((zco (chars.map xo) (qD (qL (chars.map xo) dir)) chars.length).lv,(zco (chars.map xo) (qD (qL (chars.map xo) dir)) chars.length).cl)
theorem zlr (chars:List Int): ∀ (l:List Sq) (lc:List Int×List Int),(l.foldl (jp chars) lc).1.length=lc.1.length∧(l.foldl (jp chars) lc).2.length=lc.2.length
 | [],_=>⟨rfl,rfl⟩
 |s::l,lc=>by
  rw[List.foldl_cons]
  obtain⟨h1,h2⟩:=zlr chars l (jp chars lc s)
  exact⟨by rw[h1];exact zem ..,by rw[h2];exact zem ..⟩
noncomputable def zwl (chars:List Int) (dir:Int):List Int:=zp6 (qL (chars.map xo) dir) (chars.map xo) (z12 chars dir).1
theorem zo4 (b:Int):qD b=0∨qD b=1:=by unfold qD;split<;>simp
theorem z2s {l:List Int} (hl:l.length≤100000):R.s0F l=some (l,l):=by
 unfold R.s0F
 have hr:zi (0+l.length) 8:=by simp only[zi];omega
 rw[if_pos hr]
 cases l with
 |nil=>simp[agree]
 |cons a l=>rfl
theorem z0s {chars:List Int} (hl:chars.length≤1000) (dir:Int):
  R.f36F (chars,dir)=some (chars,chars.map xo,qL (chars.map xo) dir,zwl chars dir,(z12 chars dir).2):=by
 have hm:(chars.map xo).length=chars.length:=List.length_map ..
 obtain⟨_,_,t1,t2,t3⟩:=zii (zo4 (qL (chars.map xo) dir)) (chars.map xo) chars.length
 have hb:=zo4 (qL (chars.map xo) dir)
 have hq: ∀ i,0≤(zco (chars.map xo) (qD (qL (chars.map xo) dir)) chars.length).lv.getD i 0∧(zco (chars.map xo) (qD (qL (chars.map xo) dir)) chars.length).lv.getD i 0≤125:=by
  intro i
  by_cases hi:i<chars.length
  ·have:=t3 i hi
   omega
  ·rw[List.getD_eq_getElem?_getD,List.getElem?_eq_none (by omega)]
   simp
 have hsq:=fun(s:Sq)=>z2d (s:=s) (base:=qL (chars.map xo) dir) hm hq
 unfold R.f36F zwl z12
 dsimp only
 rw[z0x (by omega),Option.bind_some,z0y (by omega),Option.bind_some,z0z (by omega),Option.bind_some,hm]
 dsimp only
 rw[z2s (by omega),Option.bind_some]
 dsimp only
 rw[z00 (by omega),Option.bind_some,if_pos (by rw[hm,t1])]
 generalize qL (chars.map xo) dir=base at*
 generalize zco (chars.map xo) (qD base) chars.length=st at*
 generalize hS:zoo (chars.map xo) st.lv base=S at*
 suffices key: ∀ (T D:List Sq) (lv cl:List Int),D++T=S→lv.length=chars.length→cl.length=chars.length→iter _ ((D.length:Int),chars,chars.map xo,base,lv,cl)=some (chars,chars.map xo,base,(T.foldl (jp chars) (lv,cl)).1,(T.foldl (jp chars) (lv,cl)).2) from by
  refine zn (key S [] st.lv st.cl rfl t1 t2) ?_
  dsimp only
  rw[z02 (by omega) (by rw[hm,(zlr chars S _).1,t1])]
  rfl
 have hSl:S.length≤chars.length:=by
  rw[← hS, ← hm]
  exact zv5 ..
 intro T
 induction T with
 |nil=>
  intro D lv cl hD h1 h2
  rw[List.append_nil] at hD
  subst hD
  refine zl ?_
  dsimp only
  rw[if_neg (by rw[decide_eq_true_eq];omega)]
  rfl
 |cons s T ih=>
  intro D lv cl hD h1 h2
  have hg:S.getD D.length ([],0,0,0)=s:=by rw[← hD];simp[List.getD_eq_getElem?_getD]
  have hlt:D.length<S.length:=by rw[← hD];simp
  obtain⟨q1,q2,q3,q4,_⟩:=hsq s (by rw[← hD];simp)
  rw[zo (s':=(((D++ [s]).length:Int),chars,chars.map xo,base,(jp chars (lv,cl) s).1,(jp chars (lv,cl) s).2))]
  ·rw[ih (D++ [s]) _ _ (by rw[← hD];simp) (by rw[← h1];exact zem ..) (by rw[← h2];exact zem ..)]
   rfl
  ·dsimp only
   rw[if_pos (by rw[decide_eq_true_eq];omega),if_pos (by omega),Int.toNat_natCast,hg,za (by omega) (by omega)]
   have:=z01 (base:=base) (first:=chars.map xo) (s:=s) h2 h1 q1 (by omega) q3 q4
   refine zn this ?_
   simp
theorem z0p {chars:List Int} (hl:chars.length≤1000) (dir:Int):R.f25F (chars,dir)=some (zwl chars dir,qL (chars.map xo) dir):=by
 unfold R.f25F
 dsimp only
 rw[z0s hl dir]
 rfl
theorem zq0 (chars:List Int) (dir:Int):(zwl chars dir).length=chars.length:=by
 obtain⟨_,_,t1,_⟩:=zii (zo4 (qL (chars.map xo) dir)) (chars.map xo) chars.length
 have:(z12 chars dir).1.length=chars.length:=by
  unfold z12
  rw[(zlr chars _ _).1]
  exact t1
 unfold zwl
 rw[zok _ _ _ (by rw[this];simp),this]
end Go.Sx
