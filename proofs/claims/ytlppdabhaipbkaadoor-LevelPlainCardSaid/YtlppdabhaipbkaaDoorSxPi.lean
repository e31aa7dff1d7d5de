/- Level, plain: levels of a paragraph. -/
import Derived.Test.YtlppdabhaipbkaaDoorSxPf
import Derived.Test.YtlppdabhaipbkaaDoorSxPh
set_option linter.unusedVariables false
set_option linter.unusedSimpArgs false
namespace Go.Sx
def ze5 (l a:List Int):List Int:=a.map fun p=>l.getD p.toNat 0
theorem zd8 (l a:List Int):(ze5 l a).length=a.length:=by simp[ze5]
theorem z0z {a l:List Int} (ha:a.length≤100000) (h: ∀ p∈a,0≤p∧p<(l.length:Int)):Ld.s1F (a,l)=some (ze5 l a,l):=by
 unfold Ld.s1F
 rw[if_pos (by simp only[zk];omega)]
 refine zv (zlg (fun k m=>(k,l,m)) (fun m=>(l,m)) a.length (fun k=>l.getD (a.getD k 0).toNat 0) ?_ ?_ (by simp)) (by rw[zge a (fun p=>l.getD p.toNat 0)];rfl)
 ·intro k m hm hk
  have:=h _ (List.getElem_mem hk)
  rw[← zu 0 hk] at this
  dsimp only
  rw[if_pos (by rw[decide_eq_true_eq];omega),if_pos (by omega),Int.toNat_natCast,if_pos this,if_pos (by omega),za (by omega) (by omega)]
  rfl
 ·intro m hm
  dsimp only
  rw[if_neg (by rw[decide_eq_true_eq];omega)]
theorem zy1 {a l:List Int} (ha:a.length≤100000) (h: ∀ p∈a,0≤p∧p<(l.length:Int)):Ld.f29F (l,a)=some (ze5 l a):=by
 unfold Ld.f29F
 rw[if_pos (by simp only[zk];omega)]
 refine zv (zlg (fun k m=>(k,m)) id a.length (fun k=>l.getD (a.getD k 0).toNat 0) ?_ ?_ (by simp)) (by rw[zge a (fun p=>l.getD p.toNat 0)];rfl)
 ·intro k m hm hk
  have:=h _ (List.getElem_mem hk)
  rw[← zu 0 hk] at this
  dsimp only
  rw[if_pos (by rw[decide_eq_true_eq];omega),if_pos (by omega),Int.toNat_natCast,if_pos this,if_pos (by omega),za (by omega) (by omega)]
  rfl
 ·intro m hm
  dsimp only
  rw[if_neg (by rw[decide_eq_true_eq];omega)]
  rfl
theorem zt9 (ch cl first:List Int) (level sos:Int):(ofS ch cl first level sos).length=cl.length:=by
 unfold ofS
 split
 ·exact zhd _ (zjy _ _ _) _ _
 ·rfl
abbrev Sq:=List Int×Int×Int×Int
noncomputable def zxf (chars cl:List Int) (s:Sq):List Int:=
 zv7 (ofS (ze5 chars s.1) (zn1 (ze5 cl s.1) s.2.2.1) (ze5 cl s.1) s.2.1 s.2.2.1) s.2.1 s.2.2.1 s.2.2.2
theorem zwk (chars cl:List Int) (s:Sq):(zxf chars cl s).length=s.1.length:=by
 unfold zxf
 rw[zt3,zt9,zij,zd8]
def zsj:List Int→List Int→List Int→List Int
 |p::ps,v::vs,m=>zsj ps vs (m.set p.toNat v)
 |_,_,m=>m
theorem zeb: ∀ (ps vs m:List Int),(zsj ps vs m).length=m.length
 | [],_,_=>by simp[zsj]
 |_::_, [],_=>by simp[zsj]
 |p::ps,v::vs,m=>by rw[zsj,zeb ps vs,List.length_set]
noncomputable def xP (chars:List Int) (lc:List Int×List Int) (s:Sq):List Int×List Int:=
 (zsj s.1 ((zxf chars lc.2 s).map (lvC s.2.1)) lc.1,zsj s.1 (zxf chars lc.2 s) lc.2)
theorem zk2 {l:List Int} {k:Nat} (h:k<l.length):l.drop k=l.getD k 0::l.drop (k+1):=by rw[zu 0 h];exact List.drop_eq_getElem_cons h
theorem zyt {chars cl lv first:List Int} {base:Int} {s:Sq} (hc:cl.length=chars.length) (hv:lv.length=chars.length) (hs: ∀ p∈s.1,0≤p∧p<(chars.length:Int)) (hl:s.1.length≤1000) (h0:0≤s.2.1) (h1:s.2.1≤125):
  Ld.f18F (s,chars,first,base,lv,cl)=some (chars,first,base,(xP chars (lv,cl) s).1,(xP chars (lv,cl) s).2):=by
 unfold Ld.f18F xP
 obtain⟨a,lev,sos,eos⟩:=s
 dsimp only at hs hl h0 h1 ⊢
 have hs': ∀ p∈a,0≤p∧p<(cl.length:Int):=by rw[hc];exact hs
 rw[z0z (by omega) hs']
 simp only[Option.bind_some]
 rw[zy2 (by rw[zd8];omega),Option.bind_some,zy1 (by omega) hs,Option.bind_some,zzv _ _ _ _ _ (by rw[zij,zd8];omega),Option.bind_some,zy3 (by rw[zt9,zij,zd8];omega),Option.bind_some]
 have hV:zv7 (ofS (ze5 chars a) (zn1 (ze5 cl a) sos) (ze5 cl a) lev sos) lev sos eos=zxf chars cl (a,lev,sos,eos):=rfl
 have hVl:=zwk chars cl (a,lev,sos,eos)
 rw[hV]
 generalize zxf chars cl (a,lev,sos,eos)=V at hVl ⊢
 dsimp only at hVl
 rw[zy4 (by omega) (by omega) (by omega),Option.bind_some]
 have hWl:(V.map (lvC lev)).length=a.length:=by rw[List.length_map,hVl]
 generalize V.map (lvC lev)=W at hWl ⊢
 suffices key: ∀ (j k:Nat),k+j=a.length→ ∀ (lv cl:List Int),cl.length=chars.length→lv.length=chars.length→
   iter _ ((k:Int),chars,first,base,lv,cl,a,lev,sos,eos)=some (chars,first,base,zsj (a.drop k) (W.drop k) lv,zsj (a.drop k) (V.drop k) cl) from
  zv (key a.length 0 (by omega) lv cl hc hv) rfl
 intro j
 induction j with
 |zero=>
  intro k hk lv cl hc hv
  refine zp ?_
  dsimp only
  rw[if_neg (by rw[decide_eq_true_eq];omega),List.drop_of_length_le (by omega)]
  rfl
 |succ j ih=>
  intro k hk lv cl hc hv
  have hka:k<a.length:=by omega
  have hp:=hs _ (List.getElem_mem hka)
  rw[← zu 0 hka] at hp
  rw[zA (s':=(((k+1:Nat):Int),chars,first,base,lv.set (a.getD k 0).toNat (W.getD k 0),cl.set (a.getD k 0).toNat (V.getD k 0),a,lev,sos,eos))]
  ·rw[ih (k+1) (by omega) _ _ (by rw[List.length_set];exact hc) (by rw[List.length_set];exact hv),zk2 hka,zk2 (l:=W) (k:=k) (by omega),zk2 (l:=V) (k:=k) (by omega)]
   rfl
  ·dsimp only
   rw[if_pos (by rw[decide_eq_true_eq];omega),if_pos (by omega),if_pos (by omega),if_pos (by omega),if_pos (by omega),Int.toNat_natCast,if_pos (by omega),if_pos (by omega),za (by omega) (by omega)]
   rfl
def zlz:Int→List Int→List Int→List Int
 |b,c::cs,v::vs=>(if ziv c=true then b else v)::zlz (if ziv c=true then b else v) cs vs
 |_,_,_=> []
theorem zns: ∀ (cs vs:List Int) (b:Int),cs.length=vs.length→(zlz b cs vs).length=vs.length
 | [], [],_,_=>rfl
 |c::cs,v::vs,b,h=>by simp only[zlz,List.length_cons];rw[zns cs vs _ (by simpa using h)]
theorem zyu {chars first lv cl:List Int} {base:Int} (hf:first.length≤100000) (hv:first.length=lv.length):Ld.f19F (chars,first,base,lv,cl)=some (chars,first,base,zlz base first lv,cl):=by
 unfold Ld.f19F
 dsimp only
 suffices key: ∀ (cs vs d:List Int) (b:Int),d.length+cs.length=first.length→cs=first.drop d.length→vs.length=cs.length→iter _ (b,(d.length:Int),chars,first,base,d++vs,cl)=some (chars,first,base,d++zlz b cs vs,cl) from
  zv (key first lv [] base (by simp) rfl hv.symm) rfl
 intro cs
 induction cs with
 |nil=>
  intro vs d b h1 h2 h3
  have:vs= []:=List.eq_nil_of_length_eq_zero h3
  subst this
  refine zp ?_
  dsimp only
  rw[if_neg (by rw[decide_eq_true_eq];simp at h1;omega)]
  rfl
 |cons c cs ih=>
  intro vs d b h1 h2 h3
  obtain⟨v,vs,rfl⟩: ∃ v vs',vs=v::vs':=by
   cases vs with
   |nil=>simp at h3
   |cons v vs=>exact⟨v,vs,rfl⟩
  have hlt:d.length<first.length:=by simp at h1;omega
  have hdr:=zk2 hlt
  rw[← h2] at hdr
  have hc:c=first.getD d.length 0:=by simpa using congrArg List.head? hdr
  have hcs:cs=first.drop (d.length+1):=by simpa using congrArg List.tail hdr
  have ev:(d++v::vs).getD d.length 0=v:=by simp[List.getD_eq_getElem?_getD]
  have es: ∀ x,(d++v::vs).set d.length x=d++x::vs:=fun x=>by simp
  have ex: ∀ x,(d++x::vs).getD d.length 0=x:=fun x=>by simp[List.getD_eq_getElem?_getD]
  have hln: ∀ x:Int,((d++x::vs).length:Int)=d.length+vs.length+1:=fun x=>by simp;omega
  rw[zA (s':=(if ziv c=true then b else v,(((d++ [if ziv c=true then b else v]).length:Nat):Int),chars,first,base,(d++ [if ziv c=true then b else v])++vs,cl))]
  ·rw[ih vs (d++ [if ziv c=true then b else v]) _ (by simp at h1 ⊢;omega) (by simpa using hcs) (by simpa using h3)]
   simp[zlz]
  ·dsimp only
   rw[if_pos (by rw[decide_eq_true_eq];omega),if_pos (by omega),Int.toNat_natCast, ← hc,zwy,Option.bind_some]
   cases ziv c with
   |true=>
    rw[if_pos rfl,if_pos (by rw[hln];omega),es]
    simp only[Option.bind_some,ex]
    rw[if_pos (by rw[hln];omega),za (by omega) (by omega)]
    simp
   |false=>
    rw[if_neg (by decide)]
    simp only[Option.bind_some,ex]
    rw[if_pos (by rw[hln];omega),za (by omega) (by omega)]
    simp
theorem z0i {c v:List Int} {base:Int} {n:Nat} (hc:c.length=n) (hv: ∀ i,0≤v.getD i 0∧v.getD i 0≤125) {s:Sq} (h:s∈ziz c v base):(∀ p∈s.1,0≤p∧p<(n:Int))∧s.1.length≤n∧0≤s.2.1∧s.2.1≤125∧s.1≠ []∧(∀ p∈s.1,p∈seenS c):=by
 unfold ziz at h
 obtain⟨k,hk,rfl⟩:=List.mem_map.1 h
 have hr:=zl1 c v
 have hm:=zni hr (k:=(ziy c v).length) (s:=k) (Nat.le_refl _)
 refine⟨fun p hp=> ?_, ?_,(hv _).1,(hv _).2, ?_,hm⟩
 ·obtain⟨j,rfl,h1,_⟩:=xD (hm p hp)
  omega
 ·rw[← hc]
  exact zlm hr _ _ (Nat.le_refl _)
 ·exact zt0 hr (by simpa using hk)
theorem zuq (c v:List Int) (base:Int):(ziz c v base).length≤c.length:=by
 unfold ziz
 rw[List.length_map,List.length_range]
 refine Nat.le_trans ?_ (zl1 c v).count
 unfold xh
 exact Nat.le_trans (List.length_filter_le ..) (by simp)
noncomputable def zyh (chars:List Int) (dir:Int):List Int×List Int:=
 (ziz (chars.map xf) (xO (chars.map xf) (qt (qb (chars.map xf) dir)) chars.length).lv (qb (chars.map xf) dir)).foldl (xP chars)
  ((xO (chars.map xf) (qt (qb (chars.map xf) dir)) chars.length).lv,(xO (chars.map xf) (qt (qb (chars.map xf) dir)) chars.length).cl)
theorem zla (chars:List Int): ∀ (l:List Sq) (lc:List Int×List Int),(l.foldl (xP chars) lc).1.length=lc.1.length∧(l.foldl (xP chars) lc).2.length=lc.2.length
 | [],_=>⟨rfl,rfl⟩
 |s::l,lc=>by
  rw[List.foldl_cons]
  obtain⟨h1,h2⟩:=zla chars l (xP chars lc s)
  exact⟨by rw[h1];exact zeb ..,by rw[h2];exact zeb ..⟩
noncomputable def zu4 (chars:List Int) (dir:Int):List Int:=zlz (qb (chars.map xf) dir) (chars.map xf) (zyh chars dir).1
theorem zkn (b:Int):qt b=0∨qt b=1:=by unfold qt;split<;>simp
theorem zqd (l:List Int) (dir:Int):qb l dir=0∨qb l dir=1:=by
 unfold qb
 split
 ·omega
 ·rcases zm3 l l.length 0 with h|h|h<;>rw[h]<;>decide
theorem z0y {l:List Int} (hl:l.length≤100000):Ld.s0F l=some (l,l):=by
 unfold Ld.s0F
 have hr:zk (0+l.length) 8:=by simp only[zk];omega
 rw[if_pos hr]
 cases l with
 |nil=>simp[agree]
 |cons a l=>rfl
theorem zyo {chars:List Int} (hl:chars.length≤1000) (dir:Int):
  Ld.f10F (chars,dir)=some (chars,chars.map xf,qb (chars.map xf) dir,zu4 chars dir,(zyh chars dir).2):=by
 have hm:(chars.map xf).length=chars.length:=List.length_map ..
 obtain⟨_,_,t1,t2,t3⟩:=zb4 (zkn (qb (chars.map xf) dir)) (chars.map xf) chars.length
 have hb:=zkn (qb (chars.map xf) dir)
 have hq: ∀ i,0≤(xO (chars.map xf) (qt (qb (chars.map xf) dir)) chars.length).lv.getD i 0∧(xO (chars.map xf) (qt (qb (chars.map xf) dir)) chars.length).lv.getD i 0≤125:=by
  intro i
  by_cases hi:i<chars.length
  ·have:=t3 i hi
   omega
  ·rw[List.getD_eq_getElem?_getD,List.getElem?_eq_none (by omega)]
   simp
 have hsq:=fun(s:Sq)=>z0i (s:=s) (base:=qb (chars.map xf) dir) hm hq
 unfold Ld.f10F zu4 zyh
 dsimp only
 rw[zyp (by omega),Option.bind_some,zyq (by omega),Option.bind_some,zyr (by omega),Option.bind_some,hm]
 dsimp only
 rw[z0y (by omega),Option.bind_some]
 dsimp only
 rw[zys (by omega),Option.bind_some,if_pos (by rw[hm,t1])]
 generalize qb (chars.map xf) dir=base at*
 generalize xO (chars.map xf) (qt base) chars.length=st at*
 generalize hS:ziz (chars.map xf) st.lv base=S at*
 suffices key: ∀ (T D:List Sq) (lv cl:List Int),D++T=S→lv.length=chars.length→cl.length=chars.length→iter _ ((D.length:Int),chars,chars.map xf,base,lv,cl)=some (chars,chars.map xf,base,(T.foldl (xP chars) (lv,cl)).1,(T.foldl (xP chars) (lv,cl)).2) from by
  refine zv (key S [] st.lv st.cl rfl t1 t2) ?_
  dsimp only
  rw[zyu (by omega) (by rw[hm,(zla chars S _).1,t1])]
  rfl
 have hSl:S.length≤chars.length:=by
  rw[← hS, ← hm]
  exact zuq ..
 intro T
 induction T with
 |nil=>
  intro D lv cl hD h1 h2
  rw[List.append_nil] at hD
  subst hD
  refine zp ?_
  dsimp only
  rw[if_neg (by rw[decide_eq_true_eq];omega)]
  rfl
 |cons s T ih=>
  intro D lv cl hD h1 h2
  have hg:S.getD D.length ([],0,0,0)=s:=by rw[← hD];simp[List.getD_eq_getElem?_getD]
  have hlt:D.length<S.length:=by rw[← hD];simp
  obtain⟨q1,q2,q3,q4,_⟩:=hsq s (by rw[← hD];simp)
  rw[zA (s':=(((D++ [s]).length:Int),chars,chars.map xf,base,(xP chars (lv,cl) s).1,(xP chars (lv,cl) s).2))]
  ·rw[ih (D++ [s]) _ _ (by rw[← hD];simp) (by rw[← h1];exact zeb ..) (by rw[← h2];exact zeb ..)]
   rfl
  ·dsimp only
   rw[if_pos (by rw[decide_eq_true_eq];omega),if_pos (by omega),Int.toNat_natCast,hg,za (by omega) (by omega)]
   have:=zyt (base:=base) (first:=chars.map xf) (s:=s) h2 h1 q1 (by omega) q3 q4
   refine zv this ?_
   simp
theorem zzk {chars:List Int} (hl:chars.length≤1000) (dir:Int):Ld.f6F (chars,dir)=some (zu4 chars dir,qb (chars.map xf) dir):=by
 unfold Ld.f6F
 dsimp only
 rw[zyo hl dir]
 rfl
theorem zk9 (chars:List Int) (dir:Int):(zu4 chars dir).length=chars.length:=by
 obtain⟨_,_,t1,_⟩:=zb4 (zkn (qb (chars.map xf) dir)) (chars.map xf) chars.length
 have:(zyh chars dir).1.length=chars.length:=by
  unfold zyh
  rw[(zla chars _ _).1]
  exact t1
 unfold zu4
 rw[zns _ _ _ (by rw[this];simp),this]
end Go.Sx
