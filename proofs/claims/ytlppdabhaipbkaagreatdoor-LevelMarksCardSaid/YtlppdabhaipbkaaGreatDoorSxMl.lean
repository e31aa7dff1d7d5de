/- Level, plain: levels, runs and sequences with one mark more. -/
import Derived.Test.YtlppdabhaipbkaaGreatDoorSxMk
set_option linter.unusedVariables false
set_option linter.unusedSimpArgs false
namespace Go.Sx
theorem zu1 (A B:List Int) (b:Int): ∀ n,n≤A.length→qV (A++9::B) b n=qV (A++B) b n
 |0,_=>rfl
 |n+1,h=>by
  have e:upN A.length n=n:=if_pos (by omega)
  have h1:=z1c A B n
  have h2:=zwi A B n
  rw[e] at h1 h2
  rw[xL,xL,zu1 A B b n (by omega),zit,zit,h1,h2]
theorem zy0 (A B:List Int) {b:Int} (hb:b=0∨b=1):Ins A.length (qV (A++B) b (A++B).length).lv (qV (A++9::B) b (A++9::B).length).lv∧Ins A.length (qV (A++B) b (A++B).length).cl (qV (A++9::B) b (A++9::B).length).cl:=by
 have hA:=zu1 A B b A.length (Nat.le_refl _)
 have h9:qV (A++9::B) b (A.length+1)=(qV (A++B) b A.length).tell (qV (A++B) b A.length).top.1 9:=by
  rw[xL,hA,zit,z1b]
  rfl
 have e9:A++9::B=(A++ [9])++B:=by simp
 have hl9:(A++ [(9:Int)]).length=A.length+1:=by simp
 obtain⟨_,_,t1,t2,_⟩:=zab hb (A++B) A.length
 obtain⟨_,x,y,g1,g2,g3,g4⟩:=ziv A (A++ [9]) B b (by rw[← e9,hl9,h9];rfl) B.length (Nat.le_refl _)
 rw[← e9,hl9,h9] at g2 g4
 have el:(A++9::B).length=A.length+1+B.length:=by simp;omega
 rw[el,List.length_append,g1,g2,g3,g4]
 generalize qV (A++B) b A.length=s at*
 refine⟨?_, ?_⟩
 ·have:=Ins.mk' s.lv x s.top.1
  rw[t1] at this
  simpa [St.tell] using this
 ·have:=Ins.mk' s.cl y 9
  rw[t2] at this
  simpa [St.tell] using this
theorem Ins.up {a:Nat} {m m':List Int} (h:Ins a m m') {p:Int} (hp:0≤p):m'.getD (Go.Sx.up a p).toNat 0=m.getD p.toNat 0:=by
 rw[zgx hp,h.at_]
theorem Ins.sN {a:Nat} {c c':List Int} (h:Ins a c c') (h9:c'.getD a 0=9): ∀ k,sN c' (upN a k)=(sN c k).map (Go.Sx.up a)
 |0=>by
  by_cases ha:0<a
  ·rw[show upN a 0=0 from if_pos ha];rfl
  ·have:a=0:=by omega
   subst this
   show Go.Sx.sN c' 1=_
   rw[za1,h9];rfl
 |k+1=>by
  have ih:=Ins.sN h h9 k
  have hk:=h.at_ k
  have step:Go.Sx.sN c' (upN a k+1)=(Go.Sx.sN c (k+1)).map (Go.Sx.up a):=by
   rw[za1,za1,hk]
   split
   ·exact ih
   ·rw[ih,List.map_append,List.map_singleton,zvi]
  by_cases hka:k+1=a
  ·have e1:upN a (k+1)=a+1:=by unfold upN;rw[if_neg (by omega)];omega
   have e2:upN a k+1=a:=by unfold upN;rw[if_pos (by omega)];omega
   rw[e2] at step
   rw[e1,za1,h9,step]
   rfl
  ·have e:upN a (k+1)=upN a k+1:=by unfold upN;split<;>split<;>omega
   rw[e,step]
theorem Ins.seen {a:Nat} {c c':List Int} (h:Ins a c c') (h9:c'.getD a 0=9):seenS c'=(seenS c).map (Go.Sx.up a):=by
 unfold seenS
 have:=h.sN h9 c.length
 rw[show upN a c.length=c'.length by unfold upN;rw[if_neg (by have:=h.le;omega),h.len]] at this
 exact this
theorem Ins.pos {a:Nat} {c c':List Int} (h:Ins a c c') (h9:c'.getD a 0=9) {p:Int} (hp:0≤p):zoc c' (Go.Sx.up a p)=zoc c p:=by
 unfold zoc
 rw[zgx hp,h.sN h9,List.length_map]
theorem zva (f:Int→Int) (b b':Int→Int→Bool) (R:List (List Int)) (q:Int) (h: ∀ r∈R, ∀ p∈r,b' (f p) (f q)=b p q):zbh b' (R.map (List.map f)) (f q)=(zbh b R q).map (List.map f):=by
 rcases List.eq_nil_or_concat R with rfl|⟨T,r,rfl⟩
 ·rfl
 ·rw[List.concat_eq_append] at h ⊢
  rcases List.eq_nil_or_concat r with rfl|⟨z,p,rfl⟩
  ·simp[zbh]
  ·rw[List.concat_eq_append] at h ⊢
   have hb:=h (z++ [p]) (by simp) p (by simp)
   rw[zad,List.map_append,List.map_singleton,List.map_append,List.map_singleton,zad,hb]
   split<;>simp
theorem zui {b:Int→Int→Bool} {R:List (List Int)} {q x:Int} {r:List Int} (hr:r∈zbh b R q) (hx:x∈r):x=q∨ ∃ s∈R,x∈s:=by
 rcases List.eq_nil_or_concat R with rfl|⟨T,s,rfl⟩
 ·have:r= [q]:=by simpa [zbh] using hr
  rw[this] at hx
  exact .inl (by simpa using hx)
 ·rw[List.concat_eq_append] at hr ⊢
  rcases List.eq_nil_or_concat s with rfl|⟨z,p,rfl⟩
  ·have:r∈T∨r= []∨r= [q]:=by simpa [zbh] using hr
   rcases this with h|h|h
   ·exact .inr ⟨r,by simp[h],hx⟩
   ·rw[h] at hx;cases hx
   ·rw[h] at hx;exact .inl (by simpa using hx)
  ·rw[List.concat_eq_append] at hr ⊢
   rw[zad] at hr
   split at hr
   ·simp only[List.mem_append,List.mem_singleton] at hr
    rcases hr with (h|h)|h
    ·exact .inr ⟨r,by simp[h],hx⟩
    ·exact .inr ⟨z++ [p],by simp,by rw[← h];exact hx⟩
    ·rw[h] at hx;exact .inl (by simpa using hx)
   ·simp only[List.mem_append,List.mem_singleton] at hr
    rcases hr with h|h
    ·exact .inr ⟨r,by simp[h],hx⟩
    ·rw[h] at hx
     simp only[List.mem_append,List.mem_singleton] at hx
     rcases hx with (h1|h1)|h1
     ·exact .inr ⟨z++ [p],by simp,by simp[h1]⟩
     ·exact .inr ⟨z++ [p],by simp,by simp[h1]⟩
     ·exact .inl h1
theorem zu2 (f:Int→Int) (b b':Int→Int→Bool) (l:List Int) (h: ∀ p∈l, ∀ q∈l,b' (f p) (f q)=b p q):zac b' (l.map f)=(zac b l).map (List.map f):=by
 unfold zac
 suffices key: ∀ (m:List Int) (R:List (List Int)),(∀ q∈m,q∈l)→(∀ r∈R, ∀ p∈r,p∈l)→(m.map f).foldl (zbh b') (R.map (List.map f))=(m.foldl (zbh b) R).map (List.map f) from
  key l [] (fun _ h=>h) (by simp)
 intro m
 induction m with
 |nil=>intro R _ _;rfl
 |cons q m ih=>
  intro R hm hR
  have hq:=hm q (by simp)
  rw[List.map_cons,List.foldl_cons,List.foldl_cons,zva f b b' R q (fun r hr p hp=>h p (hR r hr p hp) q hq)]
  exact ih _ (fun x hx=>hm x (by simp[hx])) fun r hr p hp=>by
   rcases zui hr hp with e|⟨s,hs,hps⟩
   ·rw[e];exact hq
   ·exact hR s hs p hps
structure Two (a:Nat) (c c' v v':List Int):Prop where
 c_:Ins a c c'
 v_:Ins a v v'
 nine:c'.getD a 0=9
 ends: ∀ j,j<c.length→endOf c' (upN a j)=up a (endOf c j)
 len:v.length=c.length
theorem zuh {a:Nat} (R:List (List Int)) (k:Nat):(R.map (List.map (up a))).getD k []=(R.getD k []).map (up a):=by
 simp only[List.getD_eq_getElem?_getD,List.getElem?_map]
 cases R[k]? <;>rfl
theorem zed {a:Nat} {r:List Int} {i:Nat} (hi:i<r.length):(r.map (up a)).getD i 0=up a (r.getD i 0):=by
 rw[zm 0 (by simpa using hi),zm 0 hi,List.getElem_map]
section
variable {a:Nat} {c c' v v':List Int} (h:Two a c c' v v')
include h
theorem Two.runs:zij c' v'=(zij c v).map (List.map (up a)):=by
 unfold zij
 rw[h.c_.seen h.nine]
 refine zu2 _ _ _ _ fun p hp q hq=> ?_
 obtain⟨i,rfl,_⟩:=zV hp
 obtain⟨j,rfl,_⟩:=zV hq
 unfold zmg
 rw[h.v_.up (by omega),h.v_.up (by omega),h.c_.up (by omega)]
theorem Two.ends_of {R:List (List Int)} (hR:RF c R) {k:Nat} (hk:k<R.length):zli (R.map (List.map (up a))) k=up a (zli R k)∧zoa (R.map (List.map (up a))) k=up a (zoa R k):=by
 have _:=h.len
 have hp:=(hR.run hk).2.2
 unfold zli zoa
 rw[zuh,zed hp,List.length_map,zed (by omega)]
 exact⟨rfl,rfl⟩
theorem Two.tgt {R:List (List Int)} (hR:RF c R) {k:Nat} (hk:k<R.length):zmb c' (R.map (List.map (up a))) k=(zmb c R k).map (up a):=by
 obtain⟨j,hj,hjl,_⟩:=zV (hR.lst_seen hk)
 unfold zmb
 rw[(h.ends_of hR hk).2,hj,zvi,Int.toNat_natCast,Int.toNat_natCast,h.c_.at_]
 cases ho:opens (c.getD j 0) with
 |false=>rw[if_neg (fun q=>by cases q.1),if_neg (fun q=>by cases q.1)];rfl
 |true=>
  have hjl':upN a j<c'.length:=by rw[h.c_.len];unfold upN;split<;>omega
  rw[zau hjl ho,zau hjl' (by rw[h.c_.at_];exact ho),h.ends j hjl]
  by_cases h0:0≤endOf c j
  ·rw[if_pos ⟨rfl,by unfold up;split<;>omega⟩,if_pos ⟨rfl,h0⟩];rfl
  ·rw[if_neg (fun q=>by have:=q.2;unfold up at this;split at this<;>omega),if_neg (fun q=>h0 q.2)];rfl
theorem Two.nx {R:List (List Int)} (hR:RF c R):nxR c' (R.map (List.map (up a)))=nxR c R:=by
 funext k
 unfold nxR
 rw[List.length_map]
 by_cases hk:k<R.length
 ·rw[if_pos hk,if_pos hk,h.tgt hR hk]
  cases zmb c R k with
  |none=>rfl
  |some p=>
   show(List.range R.length).find? _=(List.range R.length).find? _
   refine ze4 fun j hj=> ?_
   rw[(h.ends_of hR (List.mem_range.1 hj)).1,Bool.eq_iff_iff,beq_iff_eq,beq_iff_eq]
   exact⟨z02,fun e=>by rw[e]⟩
 ·rw[if_neg hk,if_neg hk]
theorem Two.cat (R:List (List Int)) (l:List Nat):zjn (R.map (List.map (up a))) l=(zjn R l).map (up a):=by
 have _:=h.len
 unfold zjn
 rw[List.map_flatMap]
 congr 1
 funext i
 exact zuh R i
theorem Two.lev {p:Int} (hp:p∈seenS c) (d base:Int):zyu c' v' (up a p) d base=zyu c v p d base:=by
 obtain⟨j,rfl,_⟩:=zV hp
 unfold zyu
 rw[h.c_.pos h.nine (by omega),h.c_.seen h.nine,List.length_map]
 split
 ·rfl
 ·rename_i hn
  have hi:((zoc c (j:Int):Int)+d).toNat<(seenS c).length:=by omega
  rw[zed hi]
  refine h.v_.up ?_
  obtain⟨i,e,_⟩:=zV (c:=c) (p:=(seenS c).getD ((zoc c (j:Int):Int)+d).toNat 0) (by rw[zm 0 hi];exact List.getElem_mem hi)
  omega
theorem Two.seq {at_:List Int} (h0:at_≠ []) (hs: ∀ p∈at_,p∈seenS c) (base:Int):zxv c' v' (at_.map (up a)) base=(at_.map (up a),(zxv c v at_ base).2):=by
 have hp:=xW h0
 have hf:at_.getD 0 0∈seenS c:=by rw[zm 0 hp];exact hs _ (List.getElem_mem _)
 have hl:at_.getD (at_.length - 1) 0∈seenS c:=by rw[zm 0 (by omega)];exact hs _ (List.getElem_mem _)
 obtain⟨i,hi,_⟩:=zV hf
 obtain⟨j,hj,_⟩:=zV hl
 unfold zxv
 rw[List.length_map,zed hp,zed (by omega),h.lev hf,h.lev hl,h.v_.up (by omega),h.v_.up (by omega),h.c_.up (by omega)]
theorem Two.seqs (base:Int):zga c' v' base=(zga c v base).map fun s=>(s.1.map (up a),s.2):=by
 have hR:=zgs c v
 unfold zga
 rw[h.runs,h.nx hR,List.length_map,List.map_map]
 refine List.map_congr_left fun s hs=> ?_
 have hs:=List.mem_range.1 hs
 rw[h.cat,h.seq (zpa hR hs) (zh2 hR (Nat.le_refl _))]
 rfl
end
theorem zqx {a:Nat} {m m':List Int} (h:Ins a m m') {l:List Int} (hl: ∀ p∈l,0≤p):zfe m' (l.map (up a))=zfe m l:=by
 unfold zfe
 rw[List.map_map]
 exact List.map_congr_left fun p hp=>h.up (hl p hp)
theorem zph {a:Nat}: ∀ (l V:List Int) {m m':List Int},Ins a m m'→(∀ p∈l,0≤p∧p<(m.length:Int))→Ins a (zpg l V m) (zpg (l.map (up a)) V m')
 | [],V,m,m',h,_=>by simpa [zpg] using h
 |p::l, [],m,m',h,_=>by simpa [zpg] using h
 |p::l,v::V,m,m',h,hl=>by
  have hp:=hl p (by simp)
  rw[List.map_cons,zpg,zpg,zgx hp.1]
  exact zph l V (h.set p.toNat v (by omega)) fun q hq=>by rw[List.length_set];exact hl q (by simp[hq])
theorem zqc {a:Nat} {chars chars':List Int} (hch:Ins a chars chars'): ∀ (S:List Sq) (lc lc':List Int×List Int),Ins a lc.1 lc'.1→Ins a lc.2 lc'.2→(∀ s∈S, ∀ p∈s.1,0≤p∧p<(lc.1.length:Int)∧p<(lc.2.length:Int))→
  Ins a (S.foldl (qz chars) lc).1 ((S.map fun s=>(s.1.map (up a),s.2)).foldl (qz chars') lc').1
 | [],lc,lc',h1,_,_=>h1
 |s::S,lc,lc',h1,h2,hs=>by
  have hp:=hs s (by simp)
  have hV:zw7 chars' lc'.2 (s.1.map (up a),s.2)=zw7 chars lc.2 s:=by
   unfold zw7
   dsimp only
   rw[zqx h2 fun p q=>(hp p q).1,zqx hch fun p q=>(hp p q).1]
  rw[List.map_cons,List.foldl_cons,List.foldl_cons]
  refine zqc hch S _ _ ?_ ?_ fun x hx p q=> ?_
  ·unfold qz
   rw[hV]
   exact zph _ _ h1 fun p q=>⟨(hp p q).1,(hp p q).2.1⟩
  ·unfold qz
   rw[hV]
   exact zph _ _ h2 fun p q=>⟨(hp p q).1,(hp p q).2.2⟩
  ·have e1:(qz chars lc s).1.length=lc.1.length:=zaz ..
   have e2:(qz chars lc s).2.length=lc.2.length:=zaz ..
   rw[e1,e2]
   exact hs x (by simp[hx]) p q
theorem zn0: ∀ (cs vs:List Int) (q:Int),cs.length=vs.length→ ∀ i,i<cs.length→zfv (cs.getD i 0)=false→(zl5 q cs vs).getD i 0=vs.getD i 0
 | [],_,_,_,i,hi,_=>by simp at hi
 |c::cs, [],_,h,_,_,_=>by simp at h
 |c::cs,v::vs,q,h,i,hi,ho=>by
  rw[zl5]
  cases i with
  |zero=>
   have ho:zfv c=false:=ho
   show(if zfv c=true then q else v)=v
   rw[ho];rfl
  |succ i=>exact zn0 cs vs _ (by simpa using h) i (by simpa using hi) ho
noncomputable def klS (chars:List Int) (dir:Int):List Int:=(seenS (chars.map zE)).map fun p=>(zrx chars dir).getD p.toNat 0
theorem zxr (chars:List Int) (dir:Int):klS chars dir=(seenS (chars.map zE)).map fun p=>(zws chars dir).1.getD p.toNat 0:=by
 obtain⟨_,_,t1,_⟩:=zab (zg1 (zY (chars.map zE) dir)) (chars.map zE) chars.length
 have hl:(zws chars dir).1.length=chars.length:=by
  unfold zws
  rw[(zgj chars _ _).1]
  exact t1
 unfold klS
 refine List.map_congr_left fun p hp=> ?_
 obtain⟨j,rfl,hj,ho⟩:=zV hp
 rw[Int.toNat_natCast]
 unfold zrx
 exact zn0 _ _ _ (by rw[hl];simp) j hj ho
theorem zvv:zE 65279=9:=rfl
theorem zwt (A B:List Int) (dir:Int):zY ((A++65279::B).map zE) dir=zY ((A++B).map zE) dir∧klS (A++65279::B) dir=klS (A++B) dir:=by
 have hlev:=zr1 (A.map zE) (B.map zE) dir
 have e1:(A++65279::B).map zE=A.map zE++9::B.map zE:=by rw[List.map_append,List.map_cons,zvv]
 have e2:(A++B).map zE=A.map zE++B.map zE:=List.map_append
 have hb:=zg1 (zY (A.map zE++B.map zE) dir)
 have hrun:=zy0 (A.map zE) (B.map zE) hb
 have hla:(A.map zE).length=A.length:=List.length_map ..
 have hl1:(A++65279::B).length=(A.map zE++9::B.map zE).length:=by simp
 have hl2:(A++B).length=(A.map zE++B.map zE).length:=by simp
 obtain⟨_,_,t1,t2,t3⟩:=zab hb (A.map zE++B.map zE) (A.map zE++B.map zE).length
 have hT:Two A.length (A.map zE++B.map zE) (A.map zE++9::B.map zE) (qV (A.map zE++B.map zE) (qd (zY (A.map zE++B.map zE) dir)) (A.map zE++B.map zE).length).lv (qV (A.map zE++9::B.map zE) (qd (zY (A.map zE++B.map zE) dir)) (A.map zE++9::B.map zE).length).lv:=by
  refine⟨?_, ?_, ?_, ?_,t1⟩
  ·have:=Ins.mk' (A.map zE) (B.map zE) 9
   rw[hla] at this;exact this
  ·have:=hrun.1
   rw[hla] at this;exact this
  ·have:=z1b (A.map zE) (B.map zE)
   rw[hla] at this;exact this
  ·intro j hj
   have:=zhe (A.map zE) (B.map zE) j hj
   rw[hla] at this;exact this
 refine⟨by rw[e1,e2];exact hlev, ?_⟩
 rw[zxr,zxr]
 unfold zws
 rw[e1,e2,hlev,hl1,hl2,hT.seqs,hT.c_.seen hT.nine,List.map_map]
 refine List.map_congr_left fun p hp=> ?_
 obtain⟨j,rfl,hj,_⟩:=zV hp
 show List.getD _ (up A.length (j:Int)).toNat 0=_
 have hch:Ins A.length (A++B) (A++65279::B):=Ins.mk' A B 65279
 have hcl:=hrun.2
 rw[hla] at hcl
 have hv: ∀ i,0≤(qV (A.map zE++B.map zE) (qd (zY (A.map zE++B.map zE) dir)) (A.map zE++B.map zE).length).lv.getD i 0∧(qV (A.map zE++B.map zE) (qd (zY (A.map zE++B.map zE) dir)) (A.map zE++B.map zE).length).lv.getD i 0≤125:=fun i=>by
  by_cases hi:i<(A.map zE++B.map zE).length
  ·have:=t3 i hi;omega
  ·rw[List.getD_eq_getElem?_getD,List.getElem?_eq_none (by omega)];simp
 have:=zqc hch (zga (A.map zE++B.map zE) (qV (A.map zE++B.map zE) (qd (zY (A.map zE++B.map zE) dir)) (A.map zE++B.map zE).length).lv (zY (A.map zE++B.map zE) dir))
  ((qV (A.map zE++B.map zE) (qd (zY (A.map zE++B.map zE) dir)) (A.map zE++B.map zE).length).lv,(qV (A.map zE++B.map zE) (qd (zY (A.map zE++B.map zE) dir)) (A.map zE++B.map zE).length).cl) (_,_) hT.v_ hcl
  fun s hs p hp=>by
   have:=(zxw (n:=(A.map zE++B.map zE).length) rfl hv hs).1 p hp
   dsimp only
   rw[t1,t2]
   exact⟨this.1,this.2,this.2⟩
 rw[this.up (by omega)]
end Go.Sx
