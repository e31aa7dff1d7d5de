/- Level, plain: levels of a paragraph. -/
import Derived.Test.YtlppdabhaipbkaaDoorSxPf
import Derived.Test.YtlppdabhaipbkaaDoorSxPh
set_option linter.unusedVariables false
set_option linter.unusedSimpArgs false
namespace Go.Sx
def zil (l a:List Int):List Int:=a.map fun p=>l.getD p.toNat 0
theorem zd4 (l a:List Int):(zil l a).length=a.length:=by simp[zil]
theorem z0f {a l:List Int} (ha:a.length≤100000) (h: ∀ p∈a,0≤p∧p<(l.length:Int)):Ld.s1F (a,l)=some (zil l a,l):=by
 unfold Ld.s1F
 rw[if_pos (by simp only[zl];omega)]
 refine zy (zkz (fun k m=>(k,l,m)) (fun m=>(l,m)) a.length (fun k=>l.getD (a.getD k 0).toNat 0) ?_ ?_ (by simp)) (by rw[zk2 a (fun p=>l.getD p.toNat 0)];rfl)
 ·intro k m hm hk
  have:=h _ (List.getElem_mem hk)
  rw[← zH 0 hk] at this
  dsimp only
  rw[if_pos (by rw[decide_eq_true_eq];omega),if_pos (by omega),Int.toNat_natCast,if_pos this,if_pos (by omega),za (by omega) (by omega)]
  rfl
 ·intro m hm
  dsimp only
  rw[if_neg (by rw[decide_eq_true_eq];omega)]
theorem zye {a l:List Int} (ha:a.length≤100000) (h: ∀ p∈a,0≤p∧p<(l.length:Int)):Ld.f29F (l,a)=some (zil l a):=by
 unfold Ld.f29F
 rw[if_pos (by simp only[zl];omega)]
 refine zy (zkz (fun k m=>(k,m)) id a.length (fun k=>l.getD (a.getD k 0).toNat 0) ?_ ?_ (by simp)) (by rw[zk2 a (fun p=>l.getD p.toNat 0)];rfl)
 ·intro k m hm hk
  have:=h _ (List.getElem_mem hk)
  rw[← zH 0 hk] at this
  dsimp only
  rw[if_pos (by rw[decide_eq_true_eq];omega),if_pos (by omega),Int.toNat_natCast,if_pos this,if_pos (by omega),za (by omega) (by omega)]
  rfl
 ·intro m hm
  dsimp only
  rw[if_neg (by rw[decide_eq_true_eq];omega)]
  rfl
theorem ztv (ch cl first:List Int) (level sos:Int):(ofS ch cl first level sos).length=cl.length:=by
 unfold ofS
 split
 ·exact zg3 _ (zjn _ _ _) _ _
 ·rfl
abbrev Sq:=List Int×Int×Int×Int
noncomputable def zxu (chars cl:List Int) (s:Sq):List Int:=
 zvp (ofS (zil chars s.1) (zr1 (zil cl s.1) s.2.2.1) (zil cl s.1) s.2.1 s.2.2.1) s.2.1 s.2.2.1 s.2.2.2
theorem zv2 (chars cl:List Int) (s:Sq):(zxu chars cl s).length=s.1.length:=by
 unfold zxu
 rw[ztp,ztv,zia,zd4]
def zvu:List Int→List Int→List Int→List Int
 |p::ps,v::vs,m=>zvu ps vs (m.set p.toNat v)
 |_,_,m=>m
theorem zd7: ∀ (ps vs m:List Int),(zvu ps vs m).length=m.length
 | [],_,_=>by simp[zvu]
 |_::_, [],_=>by simp[zvu]
 |p::ps,v::vs,m=>by rw[zvu,zd7 ps vs,List.length_set]
noncomputable def jj (chars:List Int) (lc:List Int×List Int) (s:Sq):List Int×List Int:=
 (zvu s.1 ((zxu chars lc.2 s).map (lvC s.2.1)) lc.1,zvu s.1 (zxu chars lc.2 s) lc.2)
theorem zkn {l:List Int} {k:Nat} (h:k<l.length):l.drop k=l.getD k 0::l.drop (k+1):=by rw[zH 0 h];exact List.drop_eq_getElem_cons h
theorem zx6 {chars cl lv first:List Int} {base:Int} {s:Sq} (hc:cl.length=chars.length) (hv:lv.length=chars.length) (hs: ∀ p∈s.1,0≤p∧p<(chars.length:Int)) (hl:s.1.length≤1000) (h0:0≤s.2.1) (h1:s.2.1≤125):
  Ld.f18F (s,chars,first,base,lv,cl)=some (chars,first,base,(jj chars (lv,cl) s).1,(jj chars (lv,cl) s).2):=by
 unfold Ld.f18F jj
 obtain⟨a,lev,sos,eos⟩:=s
 dsimp only at hs hl h0 h1 ⊢
 have hs': ∀ p∈a,0≤p∧p<(cl.length:Int):=by rw[hc];exact hs
 rw[z0f (by omega) hs']
 simp only[Option.bind_some]
 rw[zyf (by rw[zd4];omega),Option.bind_some,zye (by omega) hs,Option.bind_some,zy8 _ _ _ _ _ (by rw[zia,zd4];omega),Option.bind_some,zyg (by rw[ztv,zia,zd4];omega),Option.bind_some]
 have hV:zvp (ofS (zil chars a) (zr1 (zil cl a) sos) (zil cl a) lev sos) lev sos eos=zxu chars cl (a,lev,sos,eos):=rfl
 have hVl:=zv2 chars cl (a,lev,sos,eos)
 rw[hV]
 generalize zxu chars cl (a,lev,sos,eos)=V at hVl ⊢
 dsimp only at hVl
 rw[zyh (by omega) (by omega) (by omega),Option.bind_some]
 have hWl:(V.map (lvC lev)).length=a.length:=by rw[List.length_map,hVl]
 generalize V.map (lvC lev)=W at hWl ⊢
 suffices key: ∀ (j k:Nat),k+j=a.length→ ∀ (lv cl:List Int),cl.length=chars.length→lv.length=chars.length→
   iter _ ((k:Int),chars,first,base,lv,cl,a,lev,sos,eos)=some (chars,first,base,zvu (a.drop k) (W.drop k) lv,zvu (a.drop k) (V.drop k) cl) from
  zy (key a.length 0 (by omega) lv cl hc hv) rfl
 intro j
 induction j with
 |zero=>
  intro k hk lv cl hc hv
  refine zo ?_
  dsimp only
  rw[if_neg (by rw[decide_eq_true_eq];omega),List.drop_of_length_le (by omega)]
  rfl
 |succ j ih=>
  intro k hk lv cl hc hv
  have hka:k<a.length:=by omega
  have hp:=hs _ (List.getElem_mem hka)
  rw[← zH 0 hka] at hp
  rw[zu (s':=(((k+1:Nat):Int),chars,first,base,lv.set (a.getD k 0).toNat (W.getD k 0),cl.set (a.getD k 0).toNat (V.getD k 0),a,lev,sos,eos))]
  ·rw[ih (k+1) (by omega) _ _ (by rw[List.length_set];exact hc) (by rw[List.length_set];exact hv),zkn hka,zkn (l:=W) (k:=k) (by omega),zkn (l:=V) (k:=k) (by omega)]
   rfl
  ·dsimp only
   rw[if_pos (by rw[decide_eq_true_eq];omega),if_pos (by omega),if_pos (by omega),if_pos (by omega),if_pos (by omega),Int.toNat_natCast,if_pos (by omega),if_pos (by omega),za (by omega) (by omega)]
   rfl
def zow:Int→List Int→List Int→List Int
 |b,c::cs,v::vs=>(if zk9 c=true then b else v)::zow (if zk9 c=true then b else v) cs vs
 |_,_,_=> []
theorem znc: ∀ (cs vs:List Int) (b:Int),cs.length=vs.length→(zow b cs vs).length=vs.length
 | [], [],_,_=>rfl
 |c::cs,v::vs,b,h=>by simp only[zow,List.length_cons];rw[znc cs vs _ (by simpa using h)]
theorem zx7 {chars first lv cl:List Int} {base:Int} (hf:first.length≤100000) (hv:first.length=lv.length):Ld.f19F (chars,first,base,lv,cl)=some (chars,first,base,zow base first lv,cl):=by
 unfold Ld.f19F
 dsimp only
 suffices key: ∀ (cs vs d:List Int) (b:Int),d.length+cs.length=first.length→cs=first.drop d.length→vs.length=cs.length→iter _ (b,(d.length:Int),chars,first,base,d++vs,cl)=some (chars,first,base,d++zow b cs vs,cl) from
  zy (key first lv [] base (by simp) rfl hv.symm) rfl
 intro cs
 induction cs with
 |nil=>
  intro vs d b h1 h2 h3
  have:vs= []:=List.eq_nil_of_length_eq_zero h3
  subst this
  refine zo ?_
  dsimp only
  rw[if_neg (by rw[decide_eq_true_eq];simp at h1;omega)]
  rfl
 |cons c cs ih=>
  intro vs d b h1 h2 h3
  obtain⟨v,vs,rfl⟩: ∃ v vs',vs=v::vs':=by
   cases vs with
   |nil=>simp at h3
   |cons v vs=>exact⟨v,vs,rfl⟩
  have hlt:d.length<first.length:=by simp at h1;omega
  have hdr:=zkn hlt
  rw[← h2] at hdr
  have hc:c=first.getD d.length 0:=by simpa using congrArg List.head? hdr
  have hcs:cs=first.drop (d.length+1):=by simpa using congrArg List.tail hdr
  have ev:(d++v::vs).getD d.length 0=v:=by simp[List.getD_eq_getElem?_getD]
  have es: ∀ x,(d++v::vs).set d.length x=d++x::vs:=fun x=>by simp
  have ex: ∀ x,(d++x::vs).getD d.length 0=x:=fun x=>by simp[List.getD_eq_getElem?_getD]
  have hln: ∀ x:Int,((d++x::vs).length:Int)=d.length+vs.length+1:=fun x=>by simp;omega
  rw[zu (s':=(if zk9 c=true then b else v,(((d++ [if zk9 c=true then b else v]).length:Nat):Int),chars,first,base,(d++ [if zk9 c=true then b else v])++vs,cl))]
  ·rw[ih vs (d++ [if zk9 c=true then b else v]) _ (by simp at h1 ⊢;omega) (by simpa using hcs) (by simpa using h3)]
   simp[zow]
  ·dsimp only
   rw[if_pos (by rw[decide_eq_true_eq];omega),if_pos (by omega),Int.toNat_natCast, ← hc,zwf,Option.bind_some]
   cases zk9 c with
   |true=>
    rw[if_pos rfl,if_pos (by rw[hln];omega),es]
    simp only[Option.bind_some,ex]
    rw[if_pos (by rw[hln];omega),za (by omega) (by omega)]
    simp
   |false=>
    rw[if_neg (by decide)]
    simp only[Option.bind_some,ex]
    rw[if_pos (by rw[hln];omega),za (by omega) (by omega)]
    simp
theorem zzz {c v:List Int} {base:Int} {n:Nat} (hc:c.length=n) (hv: ∀ i,0≤v.getD i 0∧v.getD i 0≤125) {s:Sq} (h:s∈znf c v base):(∀ p∈s.1,0≤p∧p<(n:Int))∧s.1.length≤n∧0≤s.2.1∧s.2.1≤125∧s.1≠ []∧(∀ p∈s.1,p∈seenS c):=by
 unfold znf at h
 obtain⟨k,hk,rfl⟩:=List.mem_map.1 h
 have hr:=zlj c v
 have hm:=zm2 hr (k:=(znd c v).length) (s:=k) (Nat.le_refl _)
 refine⟨fun p hp=> ?_, ?_,(hv _).1,(hv _).2, ?_,hm⟩
 ·obtain⟨j,rfl,h1,_⟩:=xA (hm p hp)
  omega
 ·rw[← hc]
  exact zk5 hr _ _ (Nat.le_refl _)
 ·exact ztn hr (by simpa using hk)
theorem zua (c v:List Int) (base:Int):(znf c v base).length≤c.length:=by
 unfold znf
 rw[List.length_map,List.length_range]
 refine Nat.le_trans ?_ (zlj c v).count
 unfold xh
 exact Nat.le_trans (List.length_filter_le ..) (by simp)
noncomputable def zzp (chars:List Int) (dir:Int):List Int×List Int:=
 (znf (chars.map zbb) (zcf (chars.map zbb) (qC (xe (chars.map zbb) dir)) chars.length).lv (xe (chars.map zbb) dir)).foldl (jj chars)
  ((zcf (chars.map zbb) (qC (xe (chars.map zbb) dir)) chars.length).lv,(zcf (chars.map zbb) (qC (xe (chars.map zbb) dir)) chars.length).cl)
theorem zku (chars:List Int): ∀ (l:List Sq) (lc:List Int×List Int),(l.foldl (jj chars) lc).1.length=lc.1.length∧(l.foldl (jj chars) lc).2.length=lc.2.length
 | [],_=>⟨rfl,rfl⟩
 |s::l,lc=>by
  rw[List.foldl_cons]
  obtain⟨h1,h2⟩:=zku chars l (jj chars lc s)
  exact⟨by rw[h1];exact zd7 ..,by rw[h2];exact zd7 ..⟩
noncomputable def zxf (chars:List Int) (dir:Int):List Int:=zow (xe (chars.map zbb) dir) (chars.map zbb) (zzp chars dir).1
theorem znv (b:Int):qC b=0∨qC b=1:=by unfold qC;split<;>simp
theorem zvl (l:List Int) (dir:Int):xe l dir=0∨xe l dir=1:=by
 unfold xe
 split
 ·omega
 ·rcases zmo l l.length 0 with h|h|h<;>rw[h]<;>decide
theorem z0e {l:List Int} (hl:l.length≤100000):Ld.s0F l=some (l,l):=by
 unfold Ld.s0F
 have hr:zl (0+l.length) 8:=by simp only[zl];omega
 rw[if_pos hr]
 cases l with
 |nil=>simp[agree]
 |cons a l=>rfl
theorem zx1 {chars:List Int} (hl:chars.length≤1000) (dir:Int):
  Ld.f10F (chars,dir)=some (chars,chars.map zbb,xe (chars.map zbb) dir,zxf chars dir,(zzp chars dir).2):=by
 have hm:(chars.map zbb).length=chars.length:=List.length_map ..
 obtain⟨_,_,t1,t2,t3⟩:=zhu (znv (xe (chars.map zbb) dir)) (chars.map zbb) chars.length
 have hb:=znv (xe (chars.map zbb) dir)
 have hq: ∀ i,0≤(zcf (chars.map zbb) (qC (xe (chars.map zbb) dir)) chars.length).lv.getD i 0∧(zcf (chars.map zbb) (qC (xe (chars.map zbb) dir)) chars.length).lv.getD i 0≤125:=by
  intro i
  by_cases hi:i<chars.length
  ·have:=t3 i hi
   omega
  ·rw[List.getD_eq_getElem?_getD,List.getElem?_eq_none (by omega)]
   simp
 have hsq:=fun(s:Sq)=>zzz (s:=s) (base:=xe (chars.map zbb) dir) hm hq
 unfold Ld.f10F zxf zzp
 dsimp only
 rw[zx2 (by omega),Option.bind_some,zx3 (by omega),Option.bind_some,zx4 (by omega),Option.bind_some,hm]
 dsimp only
 rw[z0e (by omega),Option.bind_some]
 dsimp only
 rw[zx5 (by omega),Option.bind_some,if_pos (by rw[hm,t1])]
 generalize xe (chars.map zbb) dir=base at*
 generalize zcf (chars.map zbb) (qC base) chars.length=st at*
 generalize hS:znf (chars.map zbb) st.lv base=S at*
 suffices key: ∀ (T D:List Sq) (lv cl:List Int),D++T=S→lv.length=chars.length→cl.length=chars.length→iter _ ((D.length:Int),chars,chars.map zbb,base,lv,cl)=some (chars,chars.map zbb,base,(T.foldl (jj chars) (lv,cl)).1,(T.foldl (jj chars) (lv,cl)).2) from by
  refine zy (key S [] st.lv st.cl rfl t1 t2) ?_
  dsimp only
  rw[zx7 (by omega) (by rw[hm,(zku chars S _).1,t1])]
  rfl
 have hSl:S.length≤chars.length:=by
  rw[← hS, ← hm]
  exact zua ..
 intro T
 induction T with
 |nil=>
  intro D lv cl hD h1 h2
  rw[List.append_nil] at hD
  subst hD
  refine zo ?_
  dsimp only
  rw[if_neg (by rw[decide_eq_true_eq];omega)]
  rfl
 |cons s T ih=>
  intro D lv cl hD h1 h2
  have hg:S.getD D.length ([],0,0,0)=s:=by rw[← hD];simp[List.getD_eq_getElem?_getD]
  have hlt:D.length<S.length:=by rw[← hD];simp
  obtain⟨q1,q2,q3,q4,_⟩:=hsq s (by rw[← hD];simp)
  rw[zu (s':=(((D++ [s]).length:Int),chars,chars.map zbb,base,(jj chars (lv,cl) s).1,(jj chars (lv,cl) s).2))]
  ·rw[ih (D++ [s]) _ _ (by rw[← hD];simp) (by rw[← h1];exact zd7 ..) (by rw[← h2];exact zd7 ..)]
   rfl
  ·dsimp only
   rw[if_pos (by rw[decide_eq_true_eq];omega),if_pos (by omega),Int.toNat_natCast,hg,za (by omega) (by omega)]
   have:=zx6 (base:=base) (first:=chars.map zbb) (s:=s) h2 h1 q1 (by omega) q3 q4
   refine zy this ?_
   simp
theorem zyx {chars:List Int} (hl:chars.length≤1000) (dir:Int):Ld.f6F (chars,dir)=some (zxf chars dir,xe (chars.map zbb) dir):=by
 unfold Ld.f6F
 dsimp only
 rw[zx1 hl dir]
 rfl
theorem zpp (chars:List Int) (dir:Int):(zxf chars dir).length=chars.length:=by
 obtain⟨_,_,t1,_⟩:=zhu (znv (xe (chars.map zbb) dir)) (chars.map zbb) chars.length
 have:(zzp chars dir).1.length=chars.length:=by
  unfold zzp
  rw[(zku chars _ _).1]
  exact t1
 unfold zxf
 rw[znc _ _ _ (by rw[this];simp),this]
end Go.Sx
