import Derived.Test.YtlppdabhaipbkaaDoorSxPa
set_option linter.unusedVariables false
set_option linter.unusedSimpArgs false
namespace Go.Sx
theorem zak {A:Type} {l:List A} (h:l≠ []):0<l.length:=by
 cases l with
 |nil=>exact absurd rfl h
 |cons a r=>simp
theorem zjh {A:Type}: ∀ {R:List (List A)} {r:List A},r∈R→r.length≤(R.map List.length).sum
 | [],_,h=>by simp at h
 |s::R,r,h=>by
  rw[List.map_cons,List.sum_cons]
  rcases List.mem_cons.1 h with rfl|h
  ·omega
  ·have:=zjh h;omega
theorem zh0 {A:Type} {x:Option A} {y:A} (h: ∃ r,x=some r∧r=y):x=some y:=by
 obtain⟨r,h1,rfl⟩:=h;exact h1
def zk9 (c:Int):Bool:=c==9||c==14||c==15||c==16||c==17||c==18
theorem zxc:Ld.f41F [14,15,16,17,18,9]=some 508416:=by
 unfold Ld.f41F
 rw[qj (n:=7) (e:=508416) (by rfl)]
 rfl
theorem zw8: ∀ n:Nat,n<23→Ld.f40F ((n:Int),508416)=some (zk9 n):=by
 unfold Ld.f40F
 decide+kernel
theorem zwf (c:Int):Ld.f34F c=some (zk9 c):=by
 unfold Ld.f34F
 rw[zxc]
 show(Ld.f40F (c,508416)).bind _=_
 by_cases h0:0≤c
 ·by_cases h1:c<23
  ·obtain⟨n,rfl⟩:=Int.eq_ofNat_of_zero_le h0
   rw[zw8 n (by omega)];rfl
  ·have:Ld.f40F (c,508416)=some false:=by
    unfold Ld.f40F
    simp[show c≥0 by omega,show ¬ c≤22 by omega]
   rw[this]
   simp[zk9];omega
 ·have:Ld.f40F (c,508416)=some false:=by
   unfold Ld.f40F
   simp[h0]
  rw[this]
  simp[zk9];omega
def sN (c:List Int) (k:Nat):List Int:=((List.range k).filter fun j=> !zk9 (c.getD j 0)).map fun(j:Nat)=>(j:Int)
def seenS (c:List Int):List Int:=sN c c.length
theorem zlk (c:List Int) (k:Nat):sN c (k+1)=if zk9 (c.getD k 0)=true then sN c k else sN c k++ [(k:Int)]:=by
 unfold sN
 rw[List.range_succ,List.filter_append,List.map_append]
 cases h:zk9 (c.getD k 0) with
 |true=>simp only[List.filter_cons,List.filter_nil,h,Bool.not_true,Bool.false_eq_true,if_false,List.map_nil,List.append_nil,if_true]
 |false=>simp only[List.filter_cons,List.filter_nil,h,Bool.not_false,if_true,List.map_cons,List.map_nil,Bool.false_eq_true,if_false]
theorem zqg (c:List Int) (k:Nat):(sN c k).length≤k:=by
 unfold sN
 rw[List.length_map]
 exact Nat.le_trans (List.length_filter_le _ _) (by simp)
theorem zzx {c:List Int} {k:Nat} {p:Int}:p∈sN c k↔ ∃ j:Nat,p=j∧j<k∧zk9 (c.getD j 0)=false:=by
 unfold sN
 simp only[List.mem_map,List.mem_filter,List.mem_range,Bool.not_eq_true']
 constructor
 ·rintro ⟨j,⟨h1,h2⟩,rfl⟩;exact⟨j,rfl,h1,h2⟩
 ·rintro ⟨j,rfl,h1,h2⟩;exact⟨j,⟨h1,h2⟩,rfl⟩
theorem zzw (c:List Int) (k:Nat):(sN c k).Pairwise (· < ·):=by
 unfold sN
 rw[List.pairwise_map]
 refine List.Pairwise.imp ?_ ((List.pairwise_lt_range (n:=k)).filter _)
 intro a b h;omega
theorem xA {c:List Int} {p:Int} (h:p∈seenS c): ∃ j:Nat,p=j∧j<c.length∧zk9 (c.getD j 0)=false:=zzx.1 h
def zfs (c:List Int):List Int:=(List.range c.length).map fun k=>if zk9 (c.getD k 0)=true then -1 else((sN c k).length:Int)
theorem zyc {c v:List Int} (hl:c.length≤100000):Ld.f24F (c,v)=some (c,v,seenS c,zfs c):=by
 unfold Ld.f24F
 dsimp only
 rw[if_pos (by simp only[zl];omega)]
 refine zh0 (z7 (Q:=fun e=>e=(zfs c,c,v,seenS c)) (zm (I:=fun s=> ∃ (k:Nat) (m:List Int),k≤c.length∧m.length=c.length∧(∀ j,j<k→m.getD j 0=if zk9 (c.getD j 0)=true then -1 else((sN c j).length:Int))∧s=((k:Int),m,c,v,sN c k))
  (fun s=>(c.length - s.1).toNat) ?_ _ ⟨0,_,by omega,by simp,fun j hj=>by omega,rfl⟩) fun e he=>⟨_,rfl,by rw[he]⟩)
 rintro _ ⟨k,m,hk,hm,hr,rfl⟩
 by_cases hkl:k<c.length
 ·have hlen:=zqg c k
  dsimp only
  simp (disch:=omega) only[if_pos,za,decide_eq_true_eq,zwf,Option.bind_some,Int.toNat_natCast,zl,List.length_set]
  left
  have hset: ∀ (m:List Int) (x:Int) (j:Nat),m.length=c.length→(m.set k x).getD j 0=if k=j then x else m.getD j 0:=fun m x j hm=>qN m k j x (by omega)
  cases ho:zk9 (c.getD k 0) with
  |true=>
   refine⟨_,rfl,⟨k+1,m.set k (-1),hkl,by simpa using hm,fun j hj=> ?_,by rw[zlk,ho];rfl⟩,by simp;omega⟩
   rw[hset _ _ _ hm]
   split
   ·rename_i h;subst h;rw[ho];rfl
   ·exact hr j (by omega)
  |false=>
   refine⟨_,rfl,⟨k+1,(m.set k (-1)).set k ((sN c k).length:Int),hkl,by simpa using hm,fun j hj=> ?_,by rw[zlk,ho];rfl⟩,by simp;omega⟩
   rw[hset _ _ _ (by simpa using hm),hset _ _ _ hm]
   split
   ·rename_i h;subst h;rw[ho];rfl
   ·exact hr j (by omega)
 ·have:k=c.length:=by omega
  subst this
  right
  rw[if_neg (by rw[decide_eq_true_eq];omega)]
  refine⟨_,rfl, ?_⟩
  congr 1
  apply List.ext_getElem
  ·simp[zfs,hm]
  ·intro j h1 h2
   have h1':j<m.length:=h1
   have:=hr j (by omega)
   rw[List.getD_eq_getElem?_getD,List.getElem?_eq_getElem h1'] at this
   simp only[Option.getD_some] at this
   rw[this]
   simp[zfs]
def zl4 (c v:List Int) (p q:Int):Bool:=v.getD q.toNat 0 !=v.getD p.toNat 0||c.getD p.toNat 0==10
def ziq (b:Int→Int→Bool) (acc:List (List Int)) (q:Int):List (List Int):=
 match acc.getLast? with
 |none=>acc++ [[q]]
 |some r=>match r.getLast? with
  |none=>acc++ [[q]]
  |some p=>if b p q=true then acc++ [[q]] else acc.dropLast++ [r++ [q]]
def zb2 (b:Int→Int→Bool) (l:List Int):List (List Int):=l.foldl (ziq b) []
def znd (c v:List Int):List (List Int):=zb2 (zl4 c v) (seenS c)
theorem zrv (b:Int→Int→Bool) (l:List Int) (q:Int):zb2 b (l++ [q])=ziq b (zb2 b l) q:=by
 unfold zb2;rw[List.foldl_append];rfl
theorem zjx (b:Int→Int→Bool) (A:List (List Int)) (r:List Int) (p q:Int):ziq b (A++ [r++ [p]]) q=if b p q=true then A++ [r++ [p]]++ [[q]] else A++ [r++ [p]++ [q]]:=by
 unfold ziq
 simp only[List.getLast?_append,List.getLast?_singleton,Option.some_or,List.dropLast_concat]
structure RunsOk (b:Int→Int→Bool) (l:List Int) (R:List (List Int)):Prop where
 all:R.flatten=l
 ne: ∀ r∈R,r≠ []
 within: ∀ r∈R, ∀ i p q,r[i]? =some p→r[i+1]? =some q→b p q=false
 between: ∀ i r s p q,R[i]? =some r→R[i+1]? =some s→r.getLast?=some p→s.head?=some q→b p q=true
theorem RunsOk.nil (b:Int→Int→Bool):RunsOk b [] []:=⟨rfl,by simp,by simp,by simp⟩
theorem RunsOk.snoc {b:Int→Int→Bool} {l:List Int} {R:List (List Int)} (h:RunsOk b l R) (q:Int):RunsOk b (l++ [q]) (ziq b R q):=by
 rcases List.eq_nil_or_concat R with rfl|⟨A,r,rfl⟩
 ·have hl:l= []:=by rw[← h.all];rfl
  subst hl
  refine⟨rfl,by simp[ziq],fun r hr i p q h1 h2=> ?_,fun i r s p q h1 h2=> ?_⟩
  ·simp[ziq] at hr;subst hr;simp at h2
  ·simp[ziq] at h2
 ·have hr:r≠ []:=h.ne r (by simp)
  rcases List.eq_nil_or_concat r with rfl|⟨r',p,rfl⟩
  ·exact absurd rfl hr
  simp only[List.concat_eq_append] at h ⊢
  rw[zjx]
  cases hb:b p q with
  |true=>
   rw[if_pos rfl]
   refine⟨by rw[List.flatten_append,h.all];simp,fun s hs=> ?_,fun s hs i x y h1 h2=> ?_,fun i s t x y h1 h2 h3 h4=> ?_⟩
   ·rcases List.mem_append.1 hs with hs|hs
    ·exact h.ne s hs
    ·simp at hs;subst hs;simp
   ·rcases List.mem_append.1 hs with hs|hs
    ·exact h.within s hs i x y h1 h2
    ·simp at hs;subst hs;simp at h2
   ·by_cases hi:i+1<(A++ [r'++ [p]]).length
    ·rw[List.getElem?_append_left (by omega)] at h1
     rw[List.getElem?_append_left hi] at h2
     exact h.between i s t x y h1 h2 h3 h4
    ·have hi':i+1=(A++ [r'++ [p]]).length:=by
      have:=(List.getElem?_eq_some_iff.1 h2).1
      simp at this hi ⊢;omega
     rw[hi'] at h2
     simp at h2
     subst h2
     have hia:i=A.length:=by simp at hi';omega
     subst hia
     simp at h1
     subst h1
     simp at h3 h4
     subst h3;subst h4
     exact hb
  |false=>
   rw[if_neg (by simp)]
   refine⟨by have:=h.all;simp at this ⊢;rw[← this];simp,fun s hs=> ?_,fun s hs i x y h1 h2=> ?_,fun i s t x y h1 h2 h3 h4=> ?_⟩
   ·rcases List.mem_append.1 hs with hs|hs
    ·exact h.ne s (by simp[hs])
    ·simp at hs;subst hs;simp
   ·rcases List.mem_append.1 hs with hs|hs
    ·exact h.within s (by simp[hs]) i x y h1 h2
    ·simp at hs;subst hs
     have e0: ∀ j:Nat,(r'++ [p,q])[j]? =((r'++ [p])++ [q])[j]? :=fun j=>by simp
     by_cases hi:i+1<(r'++ [p]).length
     ·refine h.within (r'++ [p]) (by simp) i x y ?_ ?_
      ·rw[e0] at h1
       rw[List.getElem?_append_left (l₁:=r'++ [p]) (by omega)] at h1;exact h1
      ·rw[e0] at h2
       rw[List.getElem?_append_left (l₁:=r'++ [p]) hi] at h2;exact h2
     ·have hi':i=r'.length:=by
       have:=(List.getElem?_eq_some_iff.1 h2).1
       simp at this hi;omega
      subst hi'
      simp at h1 h2
      subst h1;subst h2
      exact hb
   ·by_cases hi:i+1<A.length
    ·rw[List.getElem?_append_left (by omega)] at h1
     rw[List.getElem?_append_left hi] at h2
     exact h.between i s t x y (by rw[List.getElem?_append_left (by omega)];exact h1) (by rw[List.getElem?_append_left hi];exact h2) h3 h4
    ·have hi':i+1=A.length:=by
      have:=(List.getElem?_eq_some_iff.1 h2).1
      simp at this;omega
     rw[hi'] at h2
     rw[List.getElem?_append_left (by omega)] at h1
     simp at h2
     subst h2
     refine h.between i s (r'++ [p]) x y (by rw[List.getElem?_append_left (by omega)];exact h1) (by rw[hi'];simp) h3 ?_
     cases r'<;>simpa using h4
theorem zv0 (b:Int→Int→Bool) (l:List Int):RunsOk b l (zb2 b l):=by
 suffices h: ∀ (m l0:List Int) (R:List (List Int)),RunsOk b l0 R→RunsOk b (l0++m) (m.foldl (ziq b) R) from by
  have:=h l [] [] (RunsOk.nil b)
  simpa [zb2] using this
 intro m
 induction m with
 |nil=>intro l0 R h;simpa using h
 |cons q m ih=>
  intro l0 R h
  have:=ih (l0++ [q]) _ (h.snoc q)
  simpa using this
theorem zpv {A B:Type} (R:List A) (g:A→B) (f:Int×List B→Option ((Int×List B) ⊕ List B)) (h: ∀ (k:Nat) (hk:k<R.length),f ((k:Int),(R.take k).map g)=some (.inl (((k+1:Nat):Int),(R.take k).map g++ [g R[k]])))
  (he:f ((R.length:Int),R.map g)=some (.inr (R.map g))):iter f (0, [])=some (R.map g):=by
 refine zh0 (zm (I:=fun s=> ∃ k:Nat,k≤R.length∧s=((k:Int),(R.take k).map g)) (Q:=fun r=>r=R.map g) (fun s=>(R.length - s.1).toNat) ?_ _ ⟨0,Nat.zero_le _,rfl⟩)
 rintro _ ⟨k,hk,rfl⟩
 by_cases hkn:k<R.length
 ·refine .inl ⟨_,h k hkn,⟨k+1,hkn, ?_⟩,by simp;omega⟩
  rw[List.take_succ_eq_append_getElem hkn,List.map_append];rfl
 ·have:k=R.length:=by omega
  subst this
  rw[List.take_length]
  exact .inr ⟨_,he,rfl⟩
theorem zH {A:Type} {l:List A} {k:Nat} (d:A) (h:k<l.length):l.getD k d=l[k]:=by simp[List.getD_eq_getElem?_getD,h]
theorem qB {A:Type} (l:List A) (k:Nat) (d:A) (h:k<l.length):l.take (k+1)=l.take k++ [l.getD k d]:=by
 rw[List.take_succ_eq_append_getElem h,zH d h]
theorem zyd {c v L k:List Int} (hv:v.length=c.length) (hL: ∀ p∈L,0≤p∧p<c.length) (hl:L.length≤100000) (hc:c.length≤100000):Ld.f26F (c,v,L,k)=some (zb2 (zl4 c v) L):=by
 unfold Ld.f26F
 dsimp only
 have hg: ∀ i,i<L.length→0≤L.getD i 0∧L.getD i 0<(c.length:Int):=fun i hi=>by rw[zH 0 hi];exact hL _ (List.getElem_mem hi)
 refine zh0 (z7 (Q:=fun A=>A.map Prod.snd=zb2 (zl4 c v) L) (zm (I:=fun(s:Int×Int×List (Bool×List Int))=> ∃ (f i:Nat) (A:List (Bool×List Int)),s=((f:Int),((i+1:Nat):Int),A)∧i≤L.length∧f≤i∧A.length≤i∧
   (i<L.length→zb2 (zl4 c v) (L.take (i+1))=A.map Prod.snd++ [(L.take (i+1)).drop f])∧(i=L.length→zb2 (zl4 c v) L=A.map Prod.snd)) (fun s=>(L.length+1 - s.2.1).toNat) ?_ _ ?_) fun A hA=>⟨_,rfl,by rw[← hA];rfl⟩)
 rotate_left
 ·refine⟨0,0, [],rfl,Nat.zero_le _,Nat.le_refl _,Nat.le_refl _,fun h=> ?_,fun h=> ?_⟩
  ·rw[qB L 0 0 h];rfl
  ·have:L= []:=List.eq_nil_of_length_eq_zero h.symm
   subst this;rfl
 rintro _ ⟨f,i,A,rfl,hi,hf,hA,h1,h2⟩
 dsimp only
 by_cases hil:i<L.length
 rotate_left
 ·right
  rw[if_neg (by rw[decide_eq_true_eq];omega)]
  exact⟨_,rfl,(h2 (by omega)).symm⟩
 left
 have hw:IntKind.i64.wrap (((i+1:Nat):Int) - 1)=(i:Int):=by rw[za (by omega) (by omega)];omega
 have hw2:IntKind.i64.wrap (((i+1:Nat):Int)+1)=((i+1+1:Nat):Int):=by rw[za (by omega) (by omega)];omega
 have hgi:=hg i hil
 have hseg:(L.take (i+1)).drop f=(L.take i).drop f++ [L.getD i 0]:=by
  rw[qB L i 0 hil,List.drop_append_of_le_length (by rw[List.length_take];omega)]
 have hr:=h1 hil
 simp (disch:=omega) only[if_pos,decide_eq_true_eq,hw,hw2,Int.toNat_natCast]
 by_cases hil2:i+1<L.length
 ·have hg2:=hg (i+1) hil2
  have hn:zb2 (zl4 c v) (L.take (i+1+1))=ziq (zl4 c v) (zb2 (zl4 c v) (L.take (i+1))) (L.getD (i+1) 0):=by
   rw[qB L (i+1) 0 hil2,zrv]
  rw[hr,hseg,zjx] at hn
  have hseg2:(L.take (i+1+1)).drop f=(L.take i).drop f++ [L.getD i 0]++ [L.getD (i+1) 0]:=by
   rw[qB L (i+1) 0 hil2,List.drop_append_of_le_length (by rw[List.length_take];omega),hseg]
  have hseg3:(L.take (i+1+1)).drop (i+1)= [L.getD (i+1) 0]:=by
   rw[qB L (i+1) 0 hil2,List.drop_left' (by rw[List.length_take];omega)]
  simp (disch:=omega) only[if_pos]
  have hb: ∀ K:Bool×List (Bool×List Int)→Option ((Int×Int×List (Bool×List Int)) ⊕ List (Bool×List Int)),(Option.bind (if(v.getD (L.getD (i+1) 0).toNat 0==v.getD (L.getD i 0).toNat 0)=true then some (c.getD (L.getD i 0).toNat 0 !=10,A) else some (false,A)) K)=K (!zl4 c v (L.getD i 0) (L.getD (i+1) 0),A):=by
   intro K
   unfold zl4
   cases h:(v.getD (L.getD (i+1) 0).toNat 0==v.getD (L.getD i 0).toNat 0) with
   |true=>simp only[bne,h,if_true,Option.bind_some,Bool.not_true,Bool.false_or]
   |false=>simp only[bne,h,Bool.false_eq_true,if_false,Option.bind_some,Bool.not_false,Bool.true_or,Bool.not_true]
  rw[hb]
  cases hbr:zl4 c v (L.getD i 0) (L.getD (i+1) 0) with
  |false=>
   rw[hbr,if_neg (by simp)] at hn
   simp only[Bool.not_false,if_true]
   exact⟨_,rfl,⟨f,i+1,A,rfl,by omega,by omega,by omega,fun _=>by rw[hn,hseg2],fun h=>by omega⟩,by simp;omega⟩
  |true=>
   rw[hbr,if_pos rfl] at hn
   simp only[Bool.not_true,Bool.false_eq_true,if_false]
   rw[if_pos (by unfold zl;omega)]
   exact⟨_,rfl,⟨i+1,i+1,A++ [(false,(L.take (i+1)).drop f)],rfl,by omega,by omega,by simp;omega,fun _=>by rw[hn,hseg3,List.map_append,hseg];rfl,fun h=>by omega⟩,by simp;omega⟩
 ·have hil3:i+1=L.length:=by omega
  simp (disch:=omega) only[if_neg,if_pos,Option.bind_some,Bool.false_eq_true,not_false_eq_true,if_false]
  rw[if_pos (by unfold zl;omega)]
  exact⟨_,rfl,⟨i+1,i+1,A++ [(false,(L.take (i+1)).drop f)],rfl,by omega,by omega,by simp;omega,fun h=>by omega,fun h=>by
   rw[hil3,List.take_length] at hr
   rw[hr,List.map_append,hil3,List.take_length];rfl⟩,by simp;omega⟩
section
variable (nx:Nat→Option Nat)
def q9 (k:Nat):Option Nat:=(List.range k).find? fun i=>nx i==some k
def xh (k:Nat):Nat:=((List.range k).filter fun i=>(q9 nx i).isNone).length
theorem zhn {k i:Nat} (h:q9 nx k=some i):i<k∧nx i=some k:=by
 unfold q9 at h
 have h1:=List.mem_of_find?_eq_some h
 have h2:=List.find?_some h
 exact⟨by simpa using h1,by simpa using h2⟩
def zio (k:Nat):Nat:=match h:q9 nx k with
 |some i=>zio i
 |none=>xh nx k
termination_by k
decreasing_by exact(zhn nx h).1
variable {nx} {N:Nat}
theorem zb4 {k:Nat} (h:q9 nx k=none):zio nx k=xh nx k:=by
 rw[zio]
 split
 ·rename_i i hi;rw[h] at hi;cases hi
 ·rfl
theorem znh {k i:Nat} (h:q9 nx k=some i):zio nx k=zio nx i:=by
 rw[zio]
 split
 ·rename_i j hj;rw[h] at hj;cases hj;rfl
 ·rename_i hj;rw[h] at hj;cases hj
theorem j3 (nx:Nat→Option Nat) (k:Nat):xh nx (k+1)=xh nx k+if(q9 nx k).isNone=true then 1 else 0:=by
 unfold xh
 rw[List.range_succ,List.filter_append,List.length_append]
 cases h:(q9 nx k).isNone with
 |true=>simp[List.filter_cons,h]
 |false=>simp[List.filter_cons,h]
theorem zjt {i k:Nat} (h:i≤k):xh nx i≤xh nx k:=by
 induction k with
 |zero=>have:i=0:=by omega
        subst this;exact Nat.le_refl _
 |succ k ih=>
  by_cases hk:i=k+1
  ·subst hk;exact Nat.le_refl _
  ·rw[j3];have:=ih (by omega);omega
theorem zuc (nx:Nat→Option Nat) (k:Nat):zio nx k<xh nx (k+1):=by
 induction k using Nat.strongRecOn with
 |ind k ih=>
  cases hp:q9 nx k with
  |none=>rw[zb4 hp,j3,hp];simp
  |some i=>
   have hi:=(zhn nx hp).1
   rw[znh hp]
   exact Nat.lt_of_lt_of_le (ih i hi) (zjt (by omega))
def zk4 (nx:Nat→Option Nat) (k s:Nat):List Nat:=(List.range k).filter fun i=>zio nx i==s
theorem zhf (k s:Nat):zk4 nx (k+1) s=zk4 nx k s++if(zio nx k==s)=true then [k] else []:=by
 unfold zk4
 rw[List.range_succ,List.filter_append]
 congr 1
 simp only[List.filter_cons,List.filter_nil]
theorem zxi {k d s:Nat} (h: ∀ x,k≤x→x<k+d→zio nx x≠s):zk4 nx (k+d) s=zk4 nx k s:=by
 induction d with
 |zero=>rfl
 |succ d ih=>
  rw[← Nat.add_assoc,zhf,ih (fun x h1 h2=>h x h1 (by omega)),if_neg (by simpa using h (k+d) (by omega) (by omega)),List.append_nil]
theorem ztm {k:Nat} (hp:q9 nx k=none):zk4 nx k (zio nx k)= []:=by
 have:=zxi (nx:=nx) (k:=0) (d:=k) (s:=zio nx k) (fun x _ hx he=>by
  have h1:=zuc nx x
  have h2:xh nx (x+1)≤xh nx k:=zjt (by omega)
  rw[zb4 hp] at he
  omega)
 rw[Nat.zero_add] at this
 exact this
theorem zq9 (k:Nat):((List.range k).filter fun i=>(q9 nx i).isNone).map (xh nx)=List.range (xh nx k):=by
 induction k with
 |zero=>rfl
 |succ k ih=>
  rw[List.range_succ,List.filter_append,List.map_append,ih,j3]
  cases hp:(q9 nx k).isNone with
  |true=>rw[if_pos rfl,List.range_succ];simp[List.filter_cons,hp]
  |false=>simp[List.filter_cons,hp]
end
def zcn (x:Int):Int:=if x % 2=1 then 1 else 0
theorem zgy (x:Int):Ld.f43F x=some (zcn x):=by
 unfold Ld.f43F zcn
 have hb:(BitVec.toNat (BitVec.ofInt (IntKind.bits IntKind.i64) x &&& BitVec.ofInt (IntKind.bits IntKind.i64) 1):Int)=x % 2:=by
  show((BitVec.toNat (BitVec.ofInt 64 x &&& BitVec.ofInt 64 1):Nat):Int)=x % 2
  have h1:BitVec.ofInt 64 1=1#64:=rfl
  rw[h1,BitVec.toNat_and]
  have h2:(1#64).toNat=1:=rfl
  rw[h2,Nat.and_one_is_mod,BitVec.toNat_ofInt]
  omega
 rw[hb]
 rcases Int.emod_two_eq x with h|h
 ·rw[h];rfl
 ·rw[h];rfl
theorem zt6 (c:List Int) (k d:Nat): ∃ t,sN c (k+d)=sN c k++t:=by
 induction d with
 |zero=>exact⟨[],by simp⟩
 |succ d ih=>
  obtain⟨t,h⟩:=ih
  rw[← Nat.add_assoc,zlk,h]
  split
  ·exact⟨t,rfl⟩
  ·exact⟨t++ [((k+d:Nat):Int)],by simp⟩
def ztz (c:List Int) (p:Int):Nat:=(sN c p.toNat).length
theorem zv1 {c:List Int} {p:Int} (h:p∈seenS c):ztz c p<(seenS c).length∧(seenS c).getD (ztz c p) 0=p:=by
 obtain⟨j,rfl,h1,h2⟩:=xA h
 obtain⟨d,hd⟩: ∃ d,c.length=j+1+d:=⟨c.length - (j+1),by omega⟩
 obtain⟨t,ht⟩:=zt6 c (j+1) d
 have hs:seenS c=sN c j++ [(j:Int)]++t:=by
  unfold seenS
  rw[hd,ht,zlk,if_neg (by rw[h2];simp)]
 unfold ztz
 rw[Int.toNat_natCast,hs]
 refine⟨by simp, ?_⟩
 rw[List.getD_eq_getElem?_getD,List.append_assoc,List.getElem?_append_right (Nat.le_refl _)]
 simp
theorem zvv {c:List Int} {p:Int} (h:p∈seenS c):(zfs c).getD p.toNat 0=(ztz c p:Int):=by
 obtain⟨j,rfl,h1,h2⟩:=xA h
 rw[Int.toNat_natCast,zH 0 (by simp[zfs];exact h1)]
 simp only[zfs,List.getElem_map,List.getElem_range,h2,Bool.false_eq_true,if_false,ztz,Int.toNat_natCast]
def zz6 (c v:List Int) (p d base:Int):Int:=
 if(ztz c p:Int)+d<0∨(ztz c p:Int)+d≥((seenS c).length:Int) then base else v.getD ((seenS c).getD ((ztz c p:Int)+d).toNat 0).toNat 0
theorem zkt {c v:List Int} (hc:c.length≤100000) (hv:v.length=c.length) {p d base:Int} (hp:p∈seenS c) (hd1: -1≤d) (hd2:d≤1):Ld.f42F ((c,v,seenS c,zfs c),p,d,base)=some (zz6 c v p d base):=by
 unfold Ld.f42F zz6
 dsimp only
 obtain⟨j,hj,h1,h2⟩:=xA hp
 have hrl:(zfs c).length=c.length:=by simp[zfs]
 have hsl:(seenS c).length≤c.length:=zqg _ _
 obtain⟨h3,_⟩:=zv1 hp
 rw[if_pos (by omega),zvv hp,za (by omega) (by omega)]
 by_cases ha:(ztz c p:Int)+d<0
 ·rw[if_pos (by rw[decide_eq_true_eq];exact ha),if_pos (Or.inl ha)]
  rfl
 ·rw[if_neg (by rw[decide_eq_true_eq];exact ha)]
  simp only[Option.bind_some,decide_eq_true_eq]
  by_cases hb:(ztz c p:Int)+d≥((seenS c).length:Int)
  ·rw[if_pos hb,if_pos (Or.inr hb)]
  ·have hm:(seenS c).getD ((ztz c p:Int)+d).toNat 0∈seenS c:=by rw[zH 0 (by omega)];exact List.getElem_mem _
   obtain⟨j2,hj2,h12,_⟩:=xA hm
   rw[if_neg hb,if_pos (by omega),if_pos (by omega),if_neg (by omega)]
def zzy (c v at_:List Int) (base:Int):List Int×Int×Int×Int:=
 (at_,v.getD (at_.getD 0 0).toNat 0,zcn (zik (v.getD (at_.getD 0 0).toNat 0) (zz6 c v (at_.getD 0 0) (-1) base)),
  zcn (zik (v.getD (at_.getD (at_.length - 1) 0).toNat 0) (if c.getD (at_.getD (at_.length - 1) 0).toNat 0≠10∧opens (c.getD (at_.getD (at_.length - 1) 0).toNat 0)=false then zz6 c v (at_.getD (at_.length - 1) 0) 1 base else base)))
theorem zw5 {c v at_:List Int} {base:Int} (hc:c.length≤100000) (hv:v.length=c.length) (h0:at_≠ []) (hl:at_.length≤100000) (hs: ∀ p∈at_,p∈seenS c):Ld.f28F ((c,v,seenS c,zfs c),at_,base)=some (zzy c v at_ base):=by
 unfold Ld.f28F zzy
 dsimp only
 have hp:0<at_.length:=zak h0
 have hw:IntKind.i64.wrap ((at_.length:Int) - 1)=((at_.length - 1:Nat):Int):=by rw[za (by omega) (by omega)];omega
 have hf:at_.getD 0 0∈seenS c:=by rw[zH 0 hp];exact hs _ (List.getElem_mem _)
 have hla:at_.getD (at_.length - 1) 0∈seenS c:=by rw[zH 0 (by omega)];exact hs _ (List.getElem_mem _)
 have hz:Int.toNat (0:Int)=0:=rfl
 simp only[hw,Int.toNat_natCast,hz]
 generalize at_.getD 0 0=f at*
 generalize hgl:at_.getD (at_.length - 1) 0=l at*
 obtain⟨jf,hjf,hf1,_⟩:=xA hf
 obtain⟨jl,hjl,hl1,_⟩:=xA hla
 simp (disch:=omega) only[if_pos,zi9,Option.bind_some]
 cases h10:(c.getD l.toNat 0 !=10) with
 |false=>
  have h10':c.getD l.toNat 0=10:=by simpa using h10
  simp only[Bool.false_eq_true,if_false,Option.bind_some]
  rw[zkt hc hv hf (by omega) (by omega),if_neg (by rw[h10'];simp)]
  simp only[Option.bind_some,zgy]
 |true=>
  have h10':c.getD l.toNat 0≠10:=by simpa using h10
  simp only[if_true,Option.bind_some]
  cases ho:opens (c.getD l.toNat 0) with
  |true=>
   simp only[Bool.not_true,Bool.false_eq_true,if_false,Option.bind_some]
   rw[zkt hc hv hf (by omega) (by omega),if_neg (by simp)]
   simp only[Option.bind_some,zgy]
  |false=>
   simp only[Bool.not_false,if_true]
   rw[zkt hc hv hla (by omega) (by omega)]
   simp only[Option.bind_some]
   rw[zkt hc hv hf (by omega) (by omega),if_pos ⟨h10',trivial⟩]
   simp only[Option.bind_some,zgy]
theorem zjc {A:Type} {p q:A→Bool}: ∀ {l:List A},(∀ x∈l,p x=q x)→l.find? p=l.find? q
 | [],_=>rfl
 |a::l,h=>by
  rw[List.find?_cons,List.find?_cons,h a (by simp),zjc fun x hx=>h x (by simp[hx])]
theorem zto {kk:IntKind} {V:Ty} (k p:Int) (v:V.den) (es:List (Int×V.den)):zd1 (K:= .int kk) (V:=V) (zor (K:= .int kk) (V:=V) es k v) p=if p=k then some v else zd1 (K:= .int kk) (V:=V) es p:=by
 induction es with
 |nil=>
  show(bif (p==k) then some v else none)=_
  by_cases h:p=k
  ·subst h;simp
  ·have:(p==k)=false:=by simpa using h
   rw[this,if_neg h];rfl
 |cons e l ih=>
  obtain⟨a,b⟩:=e
  show zd1 (K:= .int kk) (V:=V) (bif (k==a) then(a,v)::l else(a,b)::zor (K:= .int kk) (V:=V) l k v) p=if p=k then some v else(bif (p==a) then some b else zd1 (K:= .int kk) (V:=V) l p)
  by_cases h:k=a
  ·subst h
   rw[beq_self_eq_true]
   show(bif (p==k) then some v else zd1 (K:= .int kk) (V:=V) l p)=_
   by_cases h2:p=k
   ·subst h2;simp
   ·have:(p==k)=false:=by simpa using h2
    rw[this,if_neg h2];rfl
  ·have hka:(k==a)=false:=by simpa using h
   rw[hka]
   show(bif (p==a) then some b else zd1 (K:= .int kk) (V:=V) (zor (K:= .int kk) (V:=V) l k v) p)=_
   by_cases h2:p=a
   ·subst h2
    have: ¬ p=k:=fun e=>h e.symm
    rw[beq_self_eq_true,if_neg this];rfl
   ·have hpa:(p==a)=false:=by simpa using h2
    rw[hpa]
    exact ih
def zno (R:List (List Int)) (k:Nat):Int:=(R.getD k []).getD 0 0
def zrh (R:List (List Int)) (k:Nat):Int:=(R.getD k []).getD ((R.getD k []).length - 1) 0
structure RF (c:List Int) (R:List (List Int)):Prop where
 ne: ∀ r∈R,r≠ []
 mem: ∀ r∈R, ∀ p∈r,p∈seenS c
 asc:R.flatten.Pairwise (· < ·)
 small:R.flatten.length≤c.length
theorem zlj (c v:List Int):RF c (znd c v):=by
 have h:=zv0 (zl4 c v) (seenS c)
 refine⟨h.ne,fun r hr p hp=> ?_, ?_, ?_⟩
 ·have:p∈(zb2 (zl4 c v) (seenS c)).flatten:=List.mem_flatten.2 ⟨r,hr,hp⟩
  rwa [h.all] at this
 ·show(zb2 (zl4 c v) (seenS c)).flatten.Pairwise _
  rw[h.all];exact zzw _ _
 ·show(zb2 (zl4 c v) (seenS c)).flatten.length≤_
  rw[h.all];exact zqg _ _
section
variable {c:List Int} {R:List (List Int)} (h:RF c R)
include h
theorem RF.run {k:Nat} (hk:k<R.length):R.getD k []∈R∧R.getD k []≠ []∧0<(R.getD k []).length:=by
 rw[zH [] hk]
 have h1:=List.getElem_mem hk
 exact⟨h1,h.ne _ h1,zak (h.ne _ h1)⟩
theorem RF.fst_mem {k:Nat} (hk:k<R.length):zno R k∈R.getD k []:=by
 obtain⟨h1,h2,h3⟩:=h.run hk
 unfold zno
 rw[zH 0 h3];exact List.getElem_mem _
theorem RF.lst_mem {k:Nat} (hk:k<R.length):zrh R k∈R.getD k []:=by
 obtain⟨h1,h2,h3⟩:=h.run hk
 unfold zrh
 rw[zH 0 (by omega)];exact List.getElem_mem _
theorem RF.lst_seen {k:Nat} (hk:k<R.length):zrh R k∈seenS c:=h.mem _ (h.run hk).1 _ (h.lst_mem hk)
theorem RF.apart {i j:Nat} (hij:i<j) (hj:j<R.length): ∀ p∈R.getD i [], ∀ q∈R.getD j [],p<q:=by
 have:=(List.pairwise_flatten.1 h.asc).2
 rw[zH [] (by omega),zH [] hj]
 exact List.pairwise_iff_getElem.1 this i j (by omega) hj hij
theorem RF.fst_le {k:Nat} (hk:k<R.length):zno R k≤zrh R k:=by
 obtain⟨h1,h2,h3⟩:=h.run hk
 have hp:=(List.pairwise_flatten.1 h.asc).1 _ h1
 unfold zno zrh
 rw[zH 0 h3,zH 0 (by omega)]
 by_cases h0:(R.getD k []).length - 1=0
 ·simp only[h0];omega
 ·have:=List.pairwise_iff_getElem.1 hp 0 ((R.getD k []).length - 1) h3 (by omega) (by omega)
  omega
theorem RF.lst_lt {i j:Nat} (hij:i<j) (hj:j<R.length):zrh R i<zno R j:=h.apart hij hj _ (h.lst_mem (by omega)) _ (h.fst_mem hj)
theorem RF.fst_inj {i j:Nat} (hi:i<R.length) (hj:j<R.length) (he:zno R i=zno R j):i=j:=by
 rcases Nat.lt_trichotomy i j with h1|h1|h1
 ·have:=h.lst_lt h1 hj;have:=h.fst_le hi;omega
 ·exact h1
 ·have:=h.lst_lt h1 hi;have:=h.fst_le hj;omega
theorem RF.lst_inj {i j:Nat} (hi:i<R.length) (hj:j<R.length) (he:zrh R i=zrh R j):i=j:=by
 rcases Nat.lt_trichotomy i j with h1|h1|h1
 ·have:=h.lst_lt h1 hj;have:=h.fst_le hj;omega
 ·exact h1
 ·have:=h.lst_lt h1 hi;have:=h.fst_le hi;omega
theorem RF.count:R.length≤c.length:=by
 refine Nat.le_trans ?_ h.small
 have: ∀ (S:List (List Int)),(∀ r∈S,r≠ [])→S.length≤S.flatten.length:=by
  intro S
  induction S with
  |nil=>simp
  |cons r S ih=>
   intro hS
   have h1:=zak (hS r (by simp))
   have h2:=ih (fun r hr=>hS r (by simp[hr]))
   simp at h2 ⊢
   omega
 exact this R h.ne
omit h
def zo4 (c:List Int) (R:List (List Int)) (k:Nat):Option Int:=
 if opens (c.getD (zrh R k).toNat 0)=true∧0≤(jd c).getD (zrh R k).toNat 0 then some ((jd c).getD (zrh R k).toNat 0) else none
def nxR (c:List Int) (R:List (List Int)) (k:Nat):Option Nat:=
 if k<R.length then(match zo4 c R k with
  |none=>none
  |some p=>(List.range R.length).find? fun j=>zno R j==p) else none
theorem zhe {c:List Int} {j:Nat} (hj:j<c.length) (ho:opens (c.getD j 0)=true):(jd c).getD j 0=endOf c j:=by
 unfold jd
 rw[zH 0 (by simpa using hj)]
 simp only[List.getElem_map,List.getElem_range,ho,if_true]
include h
theorem RF.tgt {k:Nat} (hk:k<R.length) {p:Int} (ht:zo4 c R k=some p): ∃ j:Nat,zrh R k=j∧j<c.length∧opens (c.getD j 0)=true∧endOf c j=p∧(j:Int)<p∧p<c.length:=by
 obtain⟨j,hj,h1,_⟩:=xA (h.lst_seen hk)
 unfold zo4 at ht
 rw[hj] at ht
 simp only[Int.toNat_natCast] at ht
 split at ht
 case isFalse=>cases ht
 case isTrue hc=>
  have he:=zhe h1 hc.1
  rw[he] at ht hc
  simp only[Option.some.injEq] at ht
  subst ht
  rcases jz c j with h2|h2
  ·have:=hc.2;omega
  ·exact⟨j,hj,h1,hc.1,rfl,h2.1,h2.2⟩
theorem RF.tgt_inj {i k:Nat} (hi:i<R.length) (hk:k<R.length) {p:Int} (h1:zo4 c R i=some p) (h2:zo4 c R k=some p):i=k:=by
 obtain⟨a,a1,a2,a3,a4,a5,_⟩:=h.tgt hi h1
 obtain⟨b,b1,b2,b3,b4,_,_⟩:=h.tgt hk h2
 have:a=b:=by
  obtain⟨q,rfl⟩:=Int.eq_ofNat_of_zero_le (show 0≤p by omega)
  rw[zH 0 a2] at a3
  rw[zH 0 b2] at b3
  exact zmg a2 b2 a3 b3 a4 b4
 exact h.lst_inj hi hk (by rw[a1,b1,this])
theorem RF.nx_iff {i k:Nat} (hi:i<R.length) (hk:k<R.length):nxR c R i=some k↔zo4 c R i=some (zno R k):=by
 unfold nxR
 rw[if_pos hi]
 constructor
 ·intro hn
  split at hn
  ·cases hn
  ·rename_i p hp
   have:=List.find?_some hn
   rw[beq_iff_eq] at this
   rw[hp,this]
 ·intro ht
  rw[ht]
  simp only
  cases hf:(List.range R.length).find? fun j=>zno R j==zno R k with
  |none=>
   have:=List.find?_eq_none.1 hf k (by simpa using hk)
   simp at this
  |some j=>
   have h1:=List.find?_some hf
   have h2:=List.mem_of_find?_eq_some hf
   rw[beq_iff_eq] at h1
   rw[h.fst_inj (by simpa using h2) hk h1]
theorem RF.prev_find {k:Nat} (hk:k<R.length):(List.range k).find? (fun i=>zo4 c R i==some (zno R k))=q9 (nxR c R) k:=by
 unfold q9
 apply zjc
 intro i hi
 have hik:i<k:=by simpa using hi
 rw[Bool.eq_iff_iff,beq_iff_eq,beq_iff_eq]
 exact(h.nx_iff (by omega) hk).symm
end
def wS (c:List Int) (R:List (List Int)) (k:Nat) (p:Int):Option Int:=((List.range k).find? fun i=>zo4 c R i==some p).map fun i=>(zio (nxR c R) i:Int)
theorem RF.w_succ {c:List Int} {R:List (List Int)} (h:RF c R) {k:Nat} (hk:k<R.length) (p:Int):wS c R (k+1) p=if zo4 c R k=some p then some (zio (nxR c R) k:Int) else wS c R k p:=by
 unfold wS
 rw[List.range_succ,List.find?_append]
 cases hf:(List.range k).find? fun i=>zo4 c R i==some p with
 |none=>
  rw[Option.none_or]
  by_cases ht:zo4 c R k=some p
  ·rw[if_pos ht,List.find?_cons_of_pos (by simpa using ht)];rfl
  ·rw[if_neg ht,List.find?_cons_of_neg (by simpa using ht)];rfl
 |some i=>
  rw[Option.some_or]
  have h1:=List.find?_some hf
  have h2:=List.mem_of_find?_eq_some hf
  rw[beq_iff_eq] at h1
  have hik:i<k:=by simpa using h2
  rw[if_neg (fun ht=>by have:=h.tgt_inj (by omega) hk h1 ht;omega)]
def zl6 (R:List (List Int)) (l:List Nat):List Int:=l.flatMap fun i=>R.getD i []
theorem zuv (R:List (List Int)) (k:Nat) (hk:k≤R.length):zl6 R (List.range k)=(R.take k).flatten:=by
 induction k with
 |zero=>rfl
 |succ k ih=>
  have:=ih (by omega)
  unfold zl6 at this ⊢
  rw[List.range_succ,List.flatMap_append,this,qB R k [] (by omega),List.flatten_append]
  simp
theorem zgi (R:List (List Int)) (q:Nat→Bool) (l:List Nat):(zl6 R (l.filter q)).length≤(zl6 R l).length:=by
 unfold zl6
 induction l with
 |nil=>simp
 |cons x l ih=>
  rw[List.filter_cons]
  split
  ·simp only[List.flatMap_cons,List.length_append];omega
  ·simp only[List.flatMap_cons,List.length_append];omega
theorem zk5 {c:List Int} {R:List (List Int)} (h:RF c R) (k s:Nat) (hk:k≤R.length):(zl6 R (zk4 (nxR c R) k s)).length≤c.length:=by
 refine Nat.le_trans (zgi R _ _) ?_
 rw[zuv R k hk]
 refine Nat.le_trans ?_ h.small
 have:(R.take k).flatten.length+(R.drop k).flatten.length=R.flatten.length:=by
  rw[← List.length_append, ← List.flatten_append,List.take_append_drop]
 omega
theorem zm2 {c:List Int} {R:List (List Int)} (h:RF c R) {k s:Nat} (hk:k≤R.length): ∀ p∈zl6 R (zk4 (nxR c R) k s),p∈seenS c:=by
 intro p hp
 unfold zl6 at hp
 obtain⟨i,h1,h2⟩:=List.mem_flatMap.1 hp
 have hi:i<k:=by
  unfold zk4 at h1
  simpa using(List.mem_filter.1 h1).1
 exact h.mem _ (h.run (by omega)).1 _ h2
theorem ztn {c:List Int} {R:List (List Int)} (h:RF c R) {s:Nat} (hs:s<xh (nxR c R) R.length):zl6 R (zk4 (nxR c R) R.length s)≠ []:=by
 have h1:s∈List.range (xh (nxR c R) R.length):=by simpa using hs
 rw[← zq9] at h1
 obtain⟨i,h2,h3⟩:=List.mem_map.1 h1
 simp only[List.mem_filter,List.mem_range,Option.isNone_iff_eq_none] at h2
 have h4:=zb4 h2.2
 intro he
 have h5:i∈zk4 (nxR c R) R.length s:=by
  unfold zk4
  simp only[List.mem_filter,List.mem_range,beq_iff_eq]
  exact⟨h2.1,by rw[h4,h3]⟩
 have h6:zno R i∈zl6 R (zk4 (nxR c R) R.length s):=List.mem_flatMap.2 ⟨i,h5,h.fst_mem h2.1⟩
 rw[he] at h6;simp at h6
def znf (c v:List Int) (base:Int):List (List Int×Int×Int×Int):=
 (List.range (xh (nxR c (znd c v)) (znd c v).length)).map fun s=>zzy c v (zl6 (znd c v) (zk4 (nxR c (znd c v)) (znd c v).length s)) base
theorem ztc {A B C:Type} (R:List A) (z:C) (g:A→B) (f:Int×C×List B→Option ((Int×C×List B) ⊕ List B)) (h: ∀ (k:Nat) (hk:k<R.length),f ((k:Int),z,(R.take k).map g)=some (.inl (((k+1:Nat):Int),z,(R.take k).map g++ [g R[k]])))
  (he:f ((R.length:Int),z,R.map g)=some (.inr (R.map g))):iter f (0,z, [])=some (R.map g):=by
 refine zh0 (zm (I:=fun s=> ∃ k:Nat,k≤R.length∧s=((k:Int),z,(R.take k).map g)) (Q:=fun r=>r=R.map g) (fun s=>(R.length - s.1).toNat) ?_ _ ⟨0,Nat.zero_le _,rfl⟩)
 rintro _ ⟨k,hk,rfl⟩
 by_cases hkn:k<R.length
 ·refine .inl ⟨_,h k hkn,⟨k+1,hkn, ?_⟩,by simp;omega⟩
  rw[List.take_succ_eq_append_getElem hkn,List.map_append];rfl
 ·have:k=R.length:=by omega
  subst this
  rw[List.take_length]
  exact .inr ⟨_,he,rfl⟩
def zfx (c:List Int) (R:List (List Int)) (m k:Nat):List (Bool×List Int):=(List.range (xh (nxR c R) m)).map fun s=>(true,zl6 R (zk4 (nxR c R) k s))
theorem zpb {c:List Int} {R:List (List Int)} {m k s:Nat} (h:s<xh (nxR c R) m):(zfx c R m k).getD s (false, [])=(true,zl6 R (zk4 (nxR c R) k s)):=by
 unfold zfx
 rw[zH _ (by simpa using h)]
 simp
theorem zsa {c:List Int} {R:List (List Int)} {k:Nat} (hp:q9 (nxR c R) k=none):zfx c R k k++ [(true, [])]=zfx c R (k+1) k:=by
 unfold zfx
 rw[j3,hp]
 simp only[Option.isNone_none,if_true]
 rw[List.range_succ,List.map_append,List.map_singleton]
 have:=ztm (nx:=nxR c R) hp
 rw[zb4 hp] at this
 rw[this];rfl
theorem zsb {c:List Int} {R:List (List Int)} {k i:Nat} (hp:q9 (nxR c R) k=some i):zfx c R k k=zfx c R (k+1) k:=by
 unfold zfx
 rw[j3,hp]
 simp
theorem zus {c:List Int} {R:List (List Int)} (k:Nat):(zfx c R (k+1) k).set (zio (nxR c R) k) (true,zl6 R (zk4 (nxR c R) k (zio (nxR c R) k))++R.getD k [])=zfx c R (k+1) (k+1):=by
 unfold zfx
 apply List.ext_getElem
 ·simp
 ·intro n h1 h2
  rw[List.getElem_set]
  split
  ·rename_i hn
   subst hn
   simp only[List.getElem_map,List.getElem_range]
   rw[zhf,if_pos (by simp)]
   simp[zl6]
  ·rename_i hn
   simp only[List.getElem_map,List.getElem_range]
   rw[zhf,if_neg (by simpa using hn),List.append_nil]
theorem zx5 {c v:List Int} {base:Int} (hc:c.length≤100000):Ld.f17F (c,v,base)=some (if c.length=v.length then znf c v base else []):=by
 unfold Ld.f17F
 dsimp only
 by_cases hcv:c.length=v.length
 rotate_left
 ·rw[if_pos (by simp;omega),if_neg hcv]
 rw[if_neg (by simp;omega),if_pos hcv,zyc hc,zwd hc]
 simp only[Option.bind_some]
 have hsl:(seenS c).length≤100000:=Nat.le_trans (zqg _ _) hc
 rw[zyd hcv.symm (fun p hp=>by obtain⟨j,rfl,h1,_⟩:=xA hp;omega) hsl hc]
 simp only[Option.bind_some]
 have hR:RF c (zb2 (zl4 c v) (seenS c)):=zlj c v
 unfold znf znd
 generalize hRe:zb2 (zl4 c v) (seenS c)=R at*
 have hcount:=hR.count
 have hml:(jd c).length=c.length:=by simp[jd]
 have second: ∀ x,x=zfx c R R.length R.length→(Option.bind (iter (fun(s5:Int×List (Bool×List Int)×List (List Int×Int×Int×Int))=>
   if decide (s5.1<(x.length:Int))=true then
    if 0≤s5.1∧s5.1<(s5.2.1.length:Int) then
     Option.bind (Go.Sx.Ld.f28F ((c,v,seenS c,zfs c),(s5.2.1.getD s5.1.toNat (false, [])).2,base)) fun v6=>
      if zl (s5.2.2.length+1) 48 then some (Sum.inl (IntKind.i64.wrap (s5.1+1),s5.2.1,s5.2.2++ [v6])) else none
    else none
   else some (Sum.inr s5.2.2)) (0,x, [])) fun v5=>some v5)=some ((List.range (xh (nxR c R) R.length)).map fun s=>zzy c v (zl6 R (zk4 (nxR c R) R.length s)) base):=by
  rintro _ rfl
  have hlen:(zfx c R R.length R.length).length=xh (nxR c R) R.length:=by simp[zfx]
  have hrk:xh (nxR c R) R.length≤R.length:=by unfold xh;exact Nat.le_trans (List.length_filter_le _ _) (by simp)
  rw[ztc (List.range (xh (nxR c R) R.length)) (zfx c R R.length R.length) (fun s=>zzy c v (zl6 R (zk4 (nxR c R) R.length s)) base)]
  ·rfl
  ·intro k hk
   have hk':k<xh (nxR c R) R.length:=by simpa using hk
   have hw:IntKind.i64.wrap ((k:Int)+1)=((k+1:Nat):Int):=by rw[za (by omega) (by omega)];omega
   have h1:=zk5 hR R.length k (Nat.le_refl _)
   dsimp only
   simp (disch:=omega) only[if_pos,decide_eq_true_eq,hlen,Int.toNat_natCast,zpb hk',hw]
   rw[zw5 hc hcv.symm (ztn hR hk') (by omega) (zm2 hR (Nat.le_refl _))]
   simp only[Option.bind_some]
   rw[if_pos (by unfold zl;simp;omega)]
   simp
  ·dsimp only
   rw[if_neg (by rw[decide_eq_true_eq,hlen];simp)]
 refine zh0 (z7 (Q:=fun e=>e=zfx c R R.length R.length) ?_ fun e he=>⟨_,second e he,rfl⟩)
 clear second
 refine zm (I:=fun(s:Int×List (Int×Int)×List (Bool×List Int))=> ∃ (k:Nat) (W:List (Int×Int)),k≤R.length∧s=((k:Int),W,zfx c R k k)∧ ∀ p,zd1 (K:= .int .i64) (V:= .int .i64) W p=wS c R k p) (fun s=>(R.length - s.1).toNat) ?_ _ ⟨0, [],Nat.zero_le _,rfl,fun p=>rfl⟩
 rintro _ ⟨k,W,hk,rfl,hW⟩
 by_cases hkl:k<R.length
 rotate_left
 ·have:k=R.length:=by omega
  subst this
  right
  dsimp only
  rw[if_neg (by rw[decide_eq_true_eq];omega)]
  exact⟨_,rfl,rfl⟩
 left
 obtain⟨hr1,hr2,hr3⟩:=hR.run hkl
 have hrl:(R.getD k []).length≤c.length:=by
  have h1:(R.getD k []).length≤R.flatten.length:=by
   rw[List.length_flatten]
   exact zjh hr1
  have:=hR.small;omega
 have hw:IntKind.i64.wrap ((k:Int)+1)=((k+1:Nat):Int):=by rw[za (by omega) (by omega)];omega
 have hwl:IntKind.i64.wrap (((R.getD k []).length:Int) - 1)=(((R.getD k []).length - 1:Nat):Int):=by rw[za (by omega) (by omega)];omega
 have hrk:xh (nxR c R) k≤k:=by unfold xh;exact Nat.le_trans (List.length_filter_le _ _) (by simp)
 have hrk1:xh (nxR c R) (k+1)≤k+1:=by unfold xh;exact Nat.le_trans (List.length_filter_le _ _) (by simp)
 have hal: ∀ m j,(zfx c R m j).length=xh (nxR c R) m:=fun m j=>by simp[zfx]
 have hfst:(R.getD k []).getD 0 0=zno R k:=rfl
 have hlst:(R.getD k []).getD ((R.getD k []).length - 1) 0=zrh R k:=rfl
 have hz:Int.toNat (0:Int)=0:=rfl
 have hget:zop (.int .i64) (.int .i64) W (zno R k)=(q9 (nxR c R) k).map fun i=>(zio (nxR c R) i:Int):=by
  show zd1 (K:= .int .i64) (V:= .int .i64) W (zno R k)=_
  rw[hW]
  unfold wS
  rw[hR.prev_find hkl]
 have hjoin: ∀ (T:Type) (K:Int×List (Int×Int)×List (Bool×List Int)→Option T),
   (Option.bind (if(!((q9 (nxR c R) k).map fun i=>(zio (nxR c R) i:Int)).isSome)=true then
    if zl ((zfx c R k k).length+1) 24 then some (((zfx c R k k).length:Int),W,zfx c R k k++ [(true, [])]) else none
   else some (Option.getD ((q9 (nxR c R) k).map fun i=>(zio (nxR c R) i:Int)) 0,W,zfx c R k k)) K)=K ((zio (nxR c R) k:Int),W,zfx c R (k+1) k):=by
  intro T K
  cases hp:q9 (nxR c R) k with
  |none=>
   simp only[Option.map_none,Option.isSome_none,Bool.not_false,if_true]
   rw[if_pos (by unfold zl;rw[hal];omega),zsa hp,hal,zb4 hp];rfl
  |some i=>
   simp only[Option.map_some,Option.isSome_some,Bool.not_true,Bool.false_eq_true,if_false,Option.getD_some]
   rw[znh hp,zsb hp];rfl
 have hsx:=zuc (nxR c R) k
 have hcl:=zk5 hR k (zio (nxR c R) k) (by omega)
 obtain⟨j,hj,hj1,_⟩:=xA (hR.lst_seen hkl)
 dsimp only
 rw[if_pos (by rw[decide_eq_true_eq];omega),if_pos (by omega)]
 simp only[Int.toNat_natCast,hz]
 rw[if_pos (by omega)]
 simp only[hfst,hget,hwl,Int.toNat_natCast,hlst,hw]
 rw[hjoin]
 dsimp only
 rw[hal,if_pos (by omega)]
 simp only[Int.toNat_natCast,zpb hsx,List.length_set,hal,List.set_set,zus,hw]
 rw[if_pos (by rfl),if_pos (by unfold zl;omega),if_pos (by omega),if_pos (by omega),if_pos (by rw[hj];omega)]
 simp only[zi9,Option.bind_some,hj,Int.toNat_natCast,hml]
 have hsucc:=hR.w_succ hkl
 cases ho:opens (c.getD j 0) with
 |false=>
  simp only[Bool.false_eq_true,if_false,Option.bind_some]
  refine⟨_,rfl,⟨k+1,W,hkl,rfl,fun p=> ?_⟩,by simp;omega⟩
  rw[hsucc,hW,if_neg (by unfold zo4;rw[hj,Int.toNat_natCast,ho];simp)]
 |true=>
  simp only[if_true]
  rw[if_pos (by omega)]
  simp only[Option.bind_some]
  have hme:=zhe hj1 ho
  by_cases hm:(jd c).getD j 0= -1
  ·rw[hm,if_neg (by decide)]
   refine⟨_,rfl,⟨k+1,W,hkl,rfl,fun p=> ?_⟩,by simp;omega⟩
   rw[hsucc,hW,if_neg (by unfold zo4;rw[hj,Int.toNat_natCast,hm];simp)]
  ·rw[if_pos (by simpa using hm),if_pos (by omega)]
   have hpos:0≤(jd c).getD j 0:=by
    rw[hme] at hm ⊢
    rcases jz c j with h2|h2
    ·exact absurd h2 hm
    ·omega
   refine⟨_,rfl,⟨k+1,_,hkl,rfl,fun p=> ?_⟩,by simp;omega⟩
   show zd1 (K:= .int .i64) (V:= .int .i64) (zor (K:= .int .i64) (V:= .int .i64) W _ _) p=_
   rw[zto,hsucc,hW]
   have ht:zo4 c R k=some ((jd c).getD j 0):=by unfold zo4;rw[hj,Int.toNat_natCast,if_pos ⟨ho,hpos⟩]
   rw[ht]
   by_cases hpm:p=(jd c).getD j 0
   ·rw[if_pos hpm,if_pos (by rw[hpm])]
   ·rw[if_neg hpm,if_neg (fun e=>hpm (Option.some.inj e).symm)]
end Go.Sx
