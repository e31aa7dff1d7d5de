/- Level, plain: levels of a paragraph. -/
import Derived.Test.YtlppdabhaipbkaaGreatDoorSxMf
import Derived.Test.YtlppdabhaipbkaaGreatDoorSxMh
set_option linter.unusedVariables false
set_option linter.unusedSimpArgs false
namespace Go.Sx
def zfe (l a:List Int):List Int:=a.map fun p=>l.getD p.toNat 0
theorem zei (l a:List Int):(zfe l a).length=a.length:=by simp[zfe]
theorem z1j {a l:List Int} (ha:a.length≤100000) (h: ∀ p∈a,0≤p∧p<(l.length:Int)):Lz.s1F (a,l)=some (zfe l a,l):=by
 unfold Lz.s1F
 rw[if_pos (by simp only[zj];omega)]
 refine zx (zln (fun k m=>(k,l,m)) (fun m=>(l,m)) a.length (fun k=>l.getD (a.getD k 0).toNat 0) ?_ ?_ (by simp)) (by rw[zlp a (fun p=>l.getD p.toNat 0)];rfl)
 ·intro k m hm hk
  have:=h _ (List.getElem_mem hk)
  rw[← zm 0 hk] at this
  dsimp only
  rw[if_pos (by rw[decide_eq_true_eq];omega),if_pos (by omega),Int.toNat_natCast,if_pos this,if_pos (by omega),za (by omega) (by omega)]
  rfl
 ·intro m hm
  dsimp only
  rw[if_neg (by rw[decide_eq_true_eq];omega)]
theorem zzw {a l:List Int} (ha:a.length≤100000) (h: ∀ p∈a,0≤p∧p<(l.length:Int)):Lz.f49F (l,a)=some (zfe l a):=by
 unfold Lz.f49F
 rw[if_pos (by simp only[zj];omega)]
 refine zx (zln (fun k m=>(k,m)) id a.length (fun k=>l.getD (a.getD k 0).toNat 0) ?_ ?_ (by simp)) (by rw[zlp a (fun p=>l.getD p.toNat 0)];rfl)
 ·intro k m hm hk
  have:=h _ (List.getElem_mem hk)
  rw[← zm 0 hk] at this
  dsimp only
  rw[if_pos (by rw[decide_eq_true_eq];omega),if_pos (by omega),Int.toNat_natCast,if_pos this,if_pos (by omega),za (by omega) (by omega)]
  rfl
 ·intro m hm
  dsimp only
  rw[if_neg (by rw[decide_eq_true_eq];omega)]
  rfl
theorem zur (ch cl first:List Int) (level sos:Int):(ofS ch cl first level sos).length=cl.length:=by
 unfold ofS
 split
 ·exact zhq _ (zka _ _ _) _ _
 ·rfl
abbrev Sq:=List Int×Int×Int×Int
noncomputable def zw7 (chars cl:List Int) (s:Sq):List Int:=
 zwv (ofS (zfe chars s.1) (zsr (zfe cl s.1) s.2.2.1) (zfe cl s.1) s.2.1 s.2.2.1) s.2.1 s.2.2.1 s.2.2.2
theorem zw8 (chars cl:List Int) (s:Sq):(zw7 chars cl s).length=s.1.length:=by
 unfold zw7
 rw[zul,zur,zi2,zei]
def zpg:List Int→List Int→List Int→List Int
 |p::ps,v::vs,m=>zpg ps vs (m.set p.toNat v)
 |_,_,m=>m
theorem zaz: ∀ (ps vs m:List Int),(zpg ps vs m).length=m.length
 | [],_,_=>by simp[zpg]
 |_::_, [],_=>by simp[zpg]
 |p::ps,v::vs,m=>by rw[zpg,zaz ps vs,List.length_set]
noncomputable def qz (chars:List Int) (lc:List Int×List Int) (s:Sq):List Int×List Int:=
 (zpg s.1 ((zw7 chars lc.2 s).map (lvC s.2.1)) lc.1,zpg s.1 (zw7 chars lc.2 s) lc.2)
theorem zla {l:List Int} {k:Nat} (h:k<l.length):l.drop k=l.getD k 0::l.drop (k+1):=by rw[zm 0 h];exact List.drop_eq_getElem_cons h
theorem zzo {chars cl lv first:List Int} {base:Int} {s:Sq} (hc:cl.length=chars.length) (hv:lv.length=chars.length) (hs: ∀ p∈s.1,0≤p∧p<(chars.length:Int)) (hl:s.1.length≤1000) (h0:0≤s.2.1) (h1:s.2.1≤125):
  Lz.f29F (s,chars,first,base,lv,cl)=some (chars,first,base,(qz chars (lv,cl) s).1,(qz chars (lv,cl) s).2):=by
 unfold Lz.f29F qz
 obtain⟨a,lev,sos,eos⟩:=s
 dsimp only at hs hl h0 h1 ⊢
 have hs': ∀ p∈a,0≤p∧p<(cl.length:Int):=by rw[hc];exact hs
 rw[z1j (by omega) hs']
 simp only[Option.bind_some]
 rw[zzx (by rw[zei];omega),Option.bind_some,zzw (by omega) hs,Option.bind_some,z0g _ _ _ _ _ (by rw[zi2,zei];omega),Option.bind_some,zzy (by rw[zur,zi2,zei];omega),Option.bind_some]
 have hV:zwv (ofS (zfe chars a) (zsr (zfe cl a) sos) (zfe cl a) lev sos) lev sos eos=zw7 chars cl (a,lev,sos,eos):=rfl
 have hVl:=zw8 chars cl (a,lev,sos,eos)
 rw[hV]
 generalize zw7 chars cl (a,lev,sos,eos)=V at hVl ⊢
 dsimp only at hVl
 rw[zzz (by omega) (by omega) (by omega),Option.bind_some]
 have hWl:(V.map (lvC lev)).length=a.length:=by rw[List.length_map,hVl]
 generalize V.map (lvC lev)=W at hWl ⊢
 suffices key: ∀ (j k:Nat),k+j=a.length→ ∀ (lv cl:List Int),cl.length=chars.length→lv.length=chars.length→
   iter _ ((k:Int),chars,first,base,lv,cl,a,lev,sos,eos)=some (chars,first,base,zpg (a.drop k) (W.drop k) lv,zpg (a.drop k) (V.drop k) cl) from
  zx (key a.length 0 (by omega) lv cl hc hv) rfl
 intro j
 induction j with
 |zero=>
  intro k hk lv cl hc hv
  refine zn ?_
  dsimp only
  rw[if_neg (by rw[decide_eq_true_eq];omega),List.drop_of_length_le (by omega)]
  rfl
 |succ j ih=>
  intro k hk lv cl hc hv
  have hka:k<a.length:=by omega
  have hp:=hs _ (List.getElem_mem hka)
  rw[← zm 0 hka] at hp
  rw[zw (s':=(((k+1:Nat):Int),chars,first,base,lv.set (a.getD k 0).toNat (W.getD k 0),cl.set (a.getD k 0).toNat (V.getD k 0),a,lev,sos,eos))]
  ·rw[ih (k+1) (by omega) _ _ (by rw[List.length_set];exact hc) (by rw[List.length_set];exact hv),zla hka,zla (l:=W) (k:=k) (by omega),zla (l:=V) (k:=k) (by omega)]
   rfl
  ·dsimp only
   rw[if_pos (by rw[decide_eq_true_eq];omega),if_pos (by omega),if_pos (by omega),if_pos (by omega),if_pos (by omega),Int.toNat_natCast,if_pos (by omega),if_pos (by omega),za (by omega) (by omega)]
   rfl
def zl5:Int→List Int→List Int→List Int
 |b,c::cs,v::vs=>(if zfv c=true then b else v)::zl5 (if zfv c=true then b else v) cs vs
 |_,_,_=> []
theorem znz: ∀ (cs vs:List Int) (b:Int),cs.length=vs.length→(zl5 b cs vs).length=vs.length
 | [], [],_,_=>rfl
 |c::cs,v::vs,b,h=>by simp only[zl5,List.length_cons];rw[znz cs vs _ (by simpa using h)]
theorem zzp {chars first lv cl:List Int} {base:Int} (hf:first.length≤100000) (hv:first.length=lv.length):Lz.f30F (chars,first,base,lv,cl)=some (chars,first,base,zl5 base first lv,cl):=by
 unfold Lz.f30F
 dsimp only
 suffices key: ∀ (cs vs d:List Int) (b:Int),d.length+cs.length=first.length→cs=first.drop d.length→vs.length=cs.length→iter _ (b,(d.length:Int),chars,first,base,d++vs,cl)=some (chars,first,base,d++zl5 b cs vs,cl) from
  zx (key first lv [] base (by simp) rfl hv.symm) rfl
 intro cs
 induction cs with
 |nil=>
  intro vs d b h1 h2 h3
  have:vs= []:=List.eq_nil_of_length_eq_zero h3
  subst this
  refine zn ?_
  dsimp only
  rw[if_neg (by rw[decide_eq_true_eq];simp at h1;omega)]
  rfl
 |cons c cs ih=>
  intro vs d b h1 h2 h3
  obtain⟨v,vs,rfl⟩: ∃ v vs',vs=v::vs':=by
   cases vs with
   |nil=>simp at h3
   |cons v vs=>exact⟨v,vs,rfl⟩
  have hlt:d.length<first.length:=by simp at h1;omega
  have hdr:=zla hlt
  rw[← h2] at hdr
  have hc:c=first.getD d.length 0:=by simpa using congrArg List.head? hdr
  have hcs:cs=first.drop (d.length+1):=by simpa using congrArg List.tail hdr
  have ev:(d++v::vs).getD d.length 0=v:=by simp[List.getD_eq_getElem?_getD]
  have es: ∀ x,(d++v::vs).set d.length x=d++x::vs:=fun x=>by simp
  have ex: ∀ x,(d++x::vs).getD d.length 0=x:=fun x=>by simp[List.getD_eq_getElem?_getD]
  have hln: ∀ x:Int,((d++x::vs).length:Int)=d.length+vs.length+1:=fun x=>by simp;omega
  rw[zw (s':=(if zfv c=true then b else v,(((d++ [if zfv c=true then b else v]).length:Nat):Int),chars,first,base,(d++ [if zfv c=true then b else v])++vs,cl))]
  ·rw[ih vs (d++ [if zfv c=true then b else v]) _ (by simp at h1 ⊢;omega) (by simpa using hcs) (by simpa using h3)]
   simp[zl5]
  ·dsimp only
   rw[if_pos (by rw[decide_eq_true_eq];omega),if_pos (by omega),Int.toNat_natCast, ← hc,zxk,Option.bind_some]
   cases zfv c with
   |true=>
    rw[if_pos rfl,if_pos (by rw[hln];omega),es]
    simp only[Option.bind_some,ex]
    rw[if_pos (by rw[hln];omega),za (by omega) (by omega)]
    simp
   |false=>
    rw[if_neg (by decide)]
    simp only[Option.bind_some,ex]
    rw[if_pos (by rw[hln];omega),za (by omega) (by omega)]
    simp
theorem zxw {c v:List Int} {base:Int} {n:Nat} (hc:c.length=n) (hv: ∀ i,0≤v.getD i 0∧v.getD i 0≤125) {s:Sq} (h:s∈zga c v base):(∀ p∈s.1,0≤p∧p<(n:Int))∧s.1.length≤n∧0≤s.2.1∧s.2.1≤125∧s.1≠ []∧(∀ p∈s.1,p∈seenS c):=by
 unfold zga at h
 obtain⟨k,hk,rfl⟩:=List.mem_map.1 h
 have hr:=zgs c v
 have hm:=zh2 hr (k:=(zij c v).length) (s:=k) (Nat.le_refl _)
 refine⟨fun p hp=> ?_, ?_,(hv _).1,(hv _).2, ?_,hm⟩
 ·obtain⟨j,rfl,h1,_⟩:=zV (hm p hp)
  omega
 ·rw[← hc]
  exact zlt hr _ _ (Nat.le_refl _)
 ·exact zpa hr (by simpa using hk)
theorem zu6 (c v:List Int) (base:Int):(zga c v base).length≤c.length:=by
 unfold zga
 rw[List.length_map,List.length_range]
 refine Nat.le_trans ?_ (zgs c v).count
 unfold xl
 exact Nat.le_trans (List.length_filter_le ..) (by simp)
noncomputable def zws (chars:List Int) (dir:Int):List Int×List Int:=
 (zga (chars.map zE) (qV (chars.map zE) (qd (zY (chars.map zE) dir)) chars.length).lv (zY (chars.map zE) dir)).foldl (qz chars)
  ((qV (chars.map zE) (qd (zY (chars.map zE) dir)) chars.length).lv,(qV (chars.map zE) (qd (zY (chars.map zE) dir)) chars.length).cl)
theorem zgj (chars:List Int): ∀ (l:List Sq) (lc:List Int×List Int),(l.foldl (qz chars) lc).1.length=lc.1.length∧(l.foldl (qz chars) lc).2.length=lc.2.length
 | [],_=>⟨rfl,rfl⟩
 |s::l,lc=>by
  rw[List.foldl_cons]
  obtain⟨h1,h2⟩:=zgj chars l (qz chars lc s)
  exact⟨by rw[h1];exact zaz ..,by rw[h2];exact zaz ..⟩
noncomputable def zrx (chars:List Int) (dir:Int):List Int:=zl5 (zY (chars.map zE) dir) (chars.map zE) (zws chars dir).1
theorem zg1 (b:Int):qd b=0∨qd b=1:=by unfold qd;split<;>simp
theorem z1i {l:List Int} (hl:l.length≤100000):Lz.s0F l=some (l,l):=by
 unfold Lz.s0F
 have hr:zj (0+l.length) 8:=by simp only[zj];omega
 rw[if_pos hr]
 cases l with
 |nil=>simp[agree]
 |cons a l=>rfl
theorem zzi {chars:List Int} (hl:chars.length≤1000) (dir:Int):
  Lz.f19F (chars,dir)=some (chars,chars.map zE,zY (chars.map zE) dir,zrx chars dir,(zws chars dir).2):=by
 have hm:(chars.map zE).length=chars.length:=List.length_map ..
 obtain⟨_,_,t1,t2,t3⟩:=zab (zg1 (zY (chars.map zE) dir)) (chars.map zE) chars.length
 have hb:=zg1 (zY (chars.map zE) dir)
 have hq: ∀ i,0≤(qV (chars.map zE) (qd (zY (chars.map zE) dir)) chars.length).lv.getD i 0∧(qV (chars.map zE) (qd (zY (chars.map zE) dir)) chars.length).lv.getD i 0≤125:=by
  intro i
  by_cases hi:i<chars.length
  ·have:=t3 i hi
   omega
  ·rw[List.getD_eq_getElem?_getD,List.getElem?_eq_none (by omega)]
   simp
 have hsq:=fun(s:Sq)=>zxw (s:=s) (base:=zY (chars.map zE) dir) hm hq
 unfold Lz.f19F zrx zws
 dsimp only
 rw[zzk (by omega),Option.bind_some,zzl (by omega),Option.bind_some,zzm (by omega),Option.bind_some,hm]
 dsimp only
 rw[z1i (by omega),Option.bind_some]
 dsimp only
 rw[zzn (by omega),Option.bind_some,if_pos (by rw[hm,t1])]
 generalize zY (chars.map zE) dir=base at*
 generalize qV (chars.map zE) (qd base) chars.length=st at*
 generalize hS:zga (chars.map zE) st.lv base=S at*
 suffices key: ∀ (T D:List Sq) (lv cl:List Int),D++T=S→lv.length=chars.length→cl.length=chars.length→iter _ ((D.length:Int),chars,chars.map zE,base,lv,cl)=some (chars,chars.map zE,base,(T.foldl (qz chars) (lv,cl)).1,(T.foldl (qz chars) (lv,cl)).2) from by
  refine zx (key S [] st.lv st.cl rfl t1 t2) ?_
  dsimp only
  rw[zzp (by omega) (by rw[hm,(zgj chars S _).1,t1])]
  rfl
 have hSl:S.length≤chars.length:=by
  rw[← hS, ← hm]
  exact zu6 ..
 intro T
 induction T with
 |nil=>
  intro D lv cl hD h1 h2
  rw[List.append_nil] at hD
  subst hD
  refine zn ?_
  dsimp only
  rw[if_neg (by rw[decide_eq_true_eq];omega)]
  rfl
 |cons s T ih=>
  intro D lv cl hD h1 h2
  have hg:S.getD D.length ([],0,0,0)=s:=by rw[← hD];simp[List.getD_eq_getElem?_getD]
  have hlt:D.length<S.length:=by rw[← hD];simp
  obtain⟨q1,q2,q3,q4,_⟩:=hsq s (by rw[← hD];simp)
  rw[zw (s':=(((D++ [s]).length:Int),chars,chars.map zE,base,(qz chars (lv,cl) s).1,(qz chars (lv,cl) s).2))]
  ·rw[ih (D++ [s]) _ _ (by rw[← hD];simp) (by rw[← h1];exact zaz ..) (by rw[← h2];exact zaz ..)]
   rfl
  ·dsimp only
   rw[if_pos (by rw[decide_eq_true_eq];omega),if_pos (by omega),Int.toNat_natCast,hg,za (by omega) (by omega)]
   have:=zzo (base:=base) (first:=chars.map zE) (s:=s) h2 h1 q1 (by omega) q3 q4
   refine zx this ?_
   simp
theorem zz1 {chars:List Int} (hl:chars.length≤1000) (dir:Int):Lz.f7F (chars,dir)=some (zrx chars dir,zY (chars.map zE) dir):=by
 unfold Lz.f7F
 dsimp only
 rw[zzi hl dir]
 rfl
theorem zqb (chars:List Int) (dir:Int):(zrx chars dir).length=chars.length:=by
 obtain⟨_,_,t1,_⟩:=zab (zg1 (zY (chars.map zE) dir)) (chars.map zE) chars.length
 have:(zws chars dir).1.length=chars.length:=by
  unfold zws
  rw[(zgj chars _ _).1]
  exact t1
 unfold zrx
 rw[znz _ _ _ (by rw[this];simp),this]
end Go.Sx
