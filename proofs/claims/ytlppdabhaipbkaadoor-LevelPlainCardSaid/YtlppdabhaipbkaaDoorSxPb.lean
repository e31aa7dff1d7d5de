import Derived.Test.YtlppdabhaipbkaaDoorSxPa
set_option linter.unusedVariables false
set_option linter.unusedSimpArgs false
namespace Go.Sx
theorem zap {A:Type} {l:List A} (h:l≠ []):0<l.length:=by
 cases l with
 |nil=>exact absurd rfl h
 |cons a r=>simp
theorem zjs {A:Type}: ∀ {R:List (List A)} {r:List A},r∈R→r.length≤(R.map List.length).sum
 | [],_,h=>by simp at h
 |s::R,r,h=>by
  rw[List.map_cons,List.sum_cons]
  rcases List.mem_cons.1 h with rfl|h
  ·omega
  ·have:=zjs h;omega
theorem zfc {A:Type} {x:Option A} {y:A} (h: ∃ r,x=some r∧r=y):x=some y:=by
 obtain⟨r,h1,rfl⟩:=h;exact h1
def ziv (c:Int):Bool:=c==9||c==14||c==15||c==16||c==17||c==18
theorem zx0:Ld.f41F [14,15,16,17,18,9]=some 508416:=by
 unfold Ld.f41F
 rw[qm (n:=7) (e:=508416) (by rfl)]
 rfl
theorem zxw: ∀ n:Nat,n<23→Ld.f40F ((n:Int),508416)=some (ziv n):=by
 unfold Ld.f40F
 decide+kernel
theorem zwy (c:Int):Ld.f34F c=some (ziv c):=by
 unfold Ld.f34F
 rw[zx0]
 show(Ld.f40F (c,508416)).bind _=_
 by_cases h0:0≤c
 ·by_cases h1:c<23
  ·obtain⟨n,rfl⟩:=Int.eq_ofNat_of_zero_le h0
   rw[zxw n (by omega)];rfl
  ·have:Ld.f40F (c,508416)=some false:=by
    unfold Ld.f40F
    simp[show c≥0 by omega,show ¬ c≤22 by omega]
   rw[this]
   simp[ziv];omega
 ·have:Ld.f40F (c,508416)=some false:=by
   unfold Ld.f40F
   simp[h0]
  rw[this]
  simp[ziv];omega
def sN (c:List Int) (k:Nat):List Int:=((List.range k).filter fun j=> !ziv (c.getD j 0)).map fun(j:Nat)=>(j:Int)
def seenS (c:List Int):List Int:=sN c c.length
theorem zh5 (c:List Int) (k:Nat):sN c (k+1)=if ziv (c.getD k 0)=true then sN c k else sN c k++ [(k:Int)]:=by
 unfold sN
 rw[List.range_succ,List.filter_append,List.map_append]
 cases h:ziv (c.getD k 0) with
 |true=>simp only[List.filter_cons,List.filter_nil,h,Bool.not_true,Bool.false_eq_true,if_false,List.map_nil,List.append_nil,if_true]
 |false=>simp only[List.filter_cons,List.filter_nil,h,Bool.not_false,if_true,List.map_cons,List.map_nil,Bool.false_eq_true,if_false]
theorem zqv (c:List Int) (k:Nat):(sN c k).length≤k:=by
 unfold sN
 rw[List.length_map]
 exact Nat.le_trans (List.length_filter_le _ _) (by simp)
theorem z0h {c:List Int} {k:Nat} {p:Int}:p∈sN c k↔ ∃ j:Nat,p=j∧j<k∧ziv (c.getD j 0)=false:=by
 unfold sN
 simp only[List.mem_map,List.mem_filter,List.mem_range,Bool.not_eq_true']
 constructor
 ·rintro ⟨j,⟨h1,h2⟩,rfl⟩;exact⟨j,rfl,h1,h2⟩
 ·rintro ⟨j,rfl,h1,h2⟩;exact⟨j,⟨h1,h2⟩,rfl⟩
theorem z0g (c:List Int) (k:Nat):(sN c k).Pairwise (· < ·):=by
 unfold sN
 rw[List.pairwise_map]
 refine List.Pairwise.imp ?_ ((List.pairwise_lt_range (n:=k)).filter _)
 intro a b h;omega
theorem xD {c:List Int} {p:Int} (h:p∈seenS c): ∃ j:Nat,p=j∧j<c.length∧ziv (c.getD j 0)=false:=z0h.1 h
def zf0 (c:List Int):List Int:=(List.range c.length).map fun k=>if ziv (c.getD k 0)=true then -1 else((sN c k).length:Int)
theorem zyz {c v:List Int} (hl:c.length≤100000):Ld.f24F (c,v)=some (c,v,seenS c,zf0 c):=by
 unfold Ld.f24F
 dsimp only
 rw[if_pos (by simp only[zk];omega)]
 refine zfc (z9 (Q:=fun e=>e=(zf0 c,c,v,seenS c)) (zm (I:=fun s=> ∃ (k:Nat) (m:List Int),k≤c.length∧m.length=c.length∧(∀ j,j<k→m.getD j 0=if ziv (c.getD j 0)=true then -1 else((sN c j).length:Int))∧s=((k:Int),m,c,v,sN c k))
  (fun s=>(c.length - s.1).toNat) ?_ _ ⟨0,_,by omega,by simp,fun j hj=>by omega,rfl⟩) fun e he=>⟨_,rfl,by rw[he]⟩)
 rintro _ ⟨k,m,hk,hm,hr,rfl⟩
 by_cases hkl:k<c.length
 ·have hlen:=zqv c k
  dsimp only
  simp (disch:=omega) only[if_pos,za,decide_eq_true_eq,zwy,Option.bind_some,Int.toNat_natCast,zk,List.length_set]
  left
  have hset: ∀ (m:List Int) (x:Int) (j:Nat),m.length=c.length→(m.set k x).getD j 0=if k=j then x else m.getD j 0:=fun m x j hm=>qR m k j x (by omega)
  cases ho:ziv (c.getD k 0) with
  |true=>
   refine⟨_,rfl,⟨k+1,m.set k (-1),hkl,by simpa using hm,fun j hj=> ?_,by rw[zh5,ho];rfl⟩,by simp;omega⟩
   rw[hset _ _ _ hm]
   split
   ·rename_i h;subst h;rw[ho];rfl
   ·exact hr j (by omega)
  |false=>
   refine⟨_,rfl,⟨k+1,(m.set k (-1)).set k ((sN c k).length:Int),hkl,by simpa using hm,fun j hj=> ?_,by rw[zh5,ho];rfl⟩,by simp;omega⟩
   rw[hset _ _ _ (by simpa using hm),hset _ _ _ hm]
   split
   ·rename_i h;subst h;rw[ho];rfl
   ·exact hr j (by omega)
 ·have:k=c.length:=by omega
  subst this
  right
  rw[if_neg (by rw[decide_eq_true_eq];omega)]
  refine⟨_,rfl, ?_⟩
  congr 1
  apply List.ext_getElem
  ·simp[zf0,hm]
  ·intro j h1 h2
   have h1':j<m.length:=h1
   have:=hr j (by omega)
   rw[List.getD_eq_getElem?_getD,List.getElem?_eq_getElem h1'] at this
   simp only[Option.getD_some] at this
   rw[this]
   simp[zf0]
def zi9 (c v:List Int) (p q:Int):Bool:=v.getD q.toNat 0 !=v.getD p.toNat 0||c.getD p.toNat 0==10
def zi0 (b:Int→Int→Bool) (acc:List (List Int)) (q:Int):List (List Int):=
 match acc.getLast? with
 |none=>acc++ [[q]]
 |some r=>match r.getLast? with
  |none=>acc++ [[q]]
  |some p=>if b p q=true then acc++ [[q]] else acc.dropLast++ [r++ [q]]
def za8 (b:Int→Int→Bool) (l:List Int):List (List Int):=l.foldl (zi0 b) []
def ziy (c v:List Int):List (List Int):=za8 (zi9 c v) (seenS c)
theorem zj7 (b:Int→Int→Bool) (l:List Int) (q:Int):za8 b (l++ [q])=zi0 b (za8 b l) q:=by
 unfold za8;rw[List.foldl_append];rfl
theorem zfb (b:Int→Int→Bool) (A:List (List Int)) (r:List Int) (p q:Int):zi0 b (A++ [r++ [p]]) q=if b p q=true then A++ [r++ [p]]++ [[q]] else A++ [r++ [p]++ [q]]:=by
 unfold zi0
 simp only[List.getLast?_append,List.getLast?_singleton,Option.some_or,List.dropLast_concat]
structure RunsOk (b:Int→Int→Bool) (l:List Int) (R:List (List Int)):Prop where
 all:R.flatten=l
 ne: ∀ r∈R,r≠ []
 within: ∀ r∈R, ∀ i p q,r[i]? =some p→r[i+1]? =some q→b p q=false
 between: ∀ i r s p q,R[i]? =some r→R[i+1]? =some s→r.getLast?=some p→s.head?=some q→b p q=true
theorem RunsOk.nil (b:Int→Int→Bool):RunsOk b [] []:=⟨rfl,by simp,by simp,by simp⟩
theorem RunsOk.snoc {b:Int→Int→Bool} {l:List Int} {R:List (List Int)} (h:RunsOk b l R) (q:Int):RunsOk b (l++ [q]) (zi0 b R q):=by
 rcases List.eq_nil_or_concat R with rfl|⟨A,r,rfl⟩
 ·have hl:l= []:=by rw[← h.all];rfl
  subst hl
  refine⟨rfl,by simp[zi0],fun r hr i p q h1 h2=> ?_,fun i r s p q h1 h2=> ?_⟩
  ·simp[zi0] at hr;subst hr;simp at h2
  ·simp[zi0] at h2
 ·have hr:r≠ []:=h.ne r (by simp)
  rcases List.eq_nil_or_concat r with rfl|⟨r',p,rfl⟩
  ·exact absurd rfl hr
  simp only[List.concat_eq_append] at h ⊢
  rw[zfb]
  cases hb:b p q with
  |true=>
   rw[if_pos rfl]
   refine⟨by rw[List.flatten_append,h.all];simp,fun s hs=> ?_,fun s hs i x y h1 h2=> ?_,fun i s t x y h1 h2 h3 h4=> ?_⟩
   ·rcases List.mem_append.1 hs with hs|hs
    ·exact h.ne s hs
    ·simp at hs;subst hs;simp
   ·rcases List.mem_append.1 hs with hs|hs
    ·exact h.within s hs i x y h1 h2
    ·simp at hs;subst hs;simp at h2
   ·by_cases hi:i+1<(A++ [r'++ [p]]).length
    ·rw[List.getElem?_append_left (by omega)] at h1
     rw[List.getElem?_append_left hi] at h2
     exact h.between i s t x y h1 h2 h3 h4
    ·have hi':i+1=(A++ [r'++ [p]]).length:=by
      have:=(List.getElem?_eq_some_iff.1 h2).1
      simp at this hi ⊢;omega
     rw[hi'] at h2
     simp at h2
     subst h2
     have hia:i=A.length:=by simp at hi';omega
     subst hia
     simp at h1
     subst h1
     simp at h3 h4
     subst h3;subst h4
     exact hb
  |false=>
   rw[if_neg (by simp)]
   refine⟨by have:=h.all;simp at this ⊢;rw[← this];simp,fun s hs=> ?_,fun s hs i x y h1 h2=> ?_,fun i s t x y h1 h2 h3 h4=> ?_⟩
   ·rcases List.mem_append.1 hs with hs|hs
    ·exact h.ne s (by simp[hs])
    ·simp at hs;subst hs;simp
   ·rcases List.mem_append.1 hs with hs|hs
    ·exact h.within s (by simp[hs]) i x y h1 h2
    ·simp at hs;subst hs
     have e0: ∀ j:Nat,(r'++ [p,q])[j]? =((r'++ [p])++ [q])[j]? :=fun j=>by simp
     by_cases hi:i+1<(r'++ [p]).length
     ·refine h.within (r'++ [p]) (by simp) i x y ?_ ?_
      ·rw[e0] at h1
       rw[List.getElem?_append_left (l₁:=r'++ [p]) (by omega)] at h1;exact h1
      ·rw[e0] at h2
       rw[List.getElem?_append_left (l₁:=r'++ [p]) hi] at h2;exact h2
     ·have hi':i=r'.length:=by
       have:=(List.getElem?_eq_some_iff.1 h2).1
       simp at this hi;omega
      subst hi'
      simp at h1 h2
      subst h1;subst h2
      exact hb
   ·by_cases hi:i+1<A.length
    ·rw[List.getElem?_append_left (by omega)] at h1
     rw[List.getElem?_append_left hi] at h2
     exact h.between i s t x y (by rw[List.getElem?_append_left (by omega)];exact h1) (by rw[List.getElem?_append_left hi];exact h2) h3 h4
    ·have hi':i+1=A.length:=by
      have:=(List.getElem?_eq_some_iff.1 h2).1
      simp at this;omega
     rw[hi'] at h2
     rw[List.getElem?_append_left (by omega)] at h1
     simp at h2
     subst h2
     refine h.between i s (r'++ [p]) x y (by rw[List.getElem?_append_left (by omega)];exact h1) (by rw[hi'];simp) h3 ?_
     cases r'<;>simpa using h4
theorem zwi (b:Int→Int→Bool) (l:List Int):RunsOk b l (za8 b l):=by
 suffices h: ∀ (m l0:List Int) (R:List (List Int)),RunsOk b l0 R→RunsOk b (l0++m) (m.foldl (zi0 b) R) from by
  have:=h l [] [] (RunsOk.nil b)
  simpa [za8] using this
 intro m
 induction m with
 |nil=>intro l0 R h;simpa using h
 |cons q m ih=>
  intro l0 R h
  have:=ih (l0++ [q]) _ (h.snoc q)
  simpa using this
theorem zx5 {E:Type} (n:Nat) (e:E) (f:Int→Option (Int ⊕ E)) (h: ∀ k:Nat,k<n→f (k:Int)=some (.inl ((k+1:Nat):Int))) (he:f (n:Int)=some (.inr e)):iter f 0=some e:=by
 refine zfc (zm (I:=fun s=> ∃ k:Nat,k≤n∧s=(k:Int)) (Q:=fun r=>r=e) (fun s=>(n - s).toNat) ?_ _ ⟨0,Nat.zero_le _,rfl⟩)
 rintro _ ⟨k,hk,rfl⟩
 by_cases hkn:k<n
 ·exact .inl ⟨_,h k hkn,⟨k+1,hkn,rfl⟩,by omega⟩
 ·have:k=n:=by omega
  subst this
  exact .inr ⟨_,he,rfl⟩
theorem zlf {A B:Type} (R:List A) (g:A→B) (f:Int×List B→Option ((Int×List B) ⊕ List B)) (h: ∀ (k:Nat) (hk:k<R.length),f ((k:Int),(R.take k).map g)=some (.inl (((k+1:Nat):Int),(R.take k).map g++ [g R[k]])))
  (he:f ((R.length:Int),R.map g)=some (.inr (R.map g))):iter f (0, [])=some (R.map g):=by
 refine zfc (zm (I:=fun s=> ∃ k:Nat,k≤R.length∧s=((k:Int),(R.take k).map g)) (Q:=fun r=>r=R.map g) (fun s=>(R.length - s.1).toNat) ?_ _ ⟨0,Nat.zero_le _,rfl⟩)
 rintro _ ⟨k,hk,rfl⟩
 by_cases hkn:k<R.length
 ·refine .inl ⟨_,h k hkn,⟨k+1,hkn, ?_⟩,by simp;omega⟩
  rw[List.take_succ_eq_append_getElem hkn,List.map_append];rfl
 ·have:k=R.length:=by omega
  subst this
  rw[List.take_length]
  exact .inr ⟨_,he,rfl⟩
theorem zu {A:Type} {l:List A} {k:Nat} (d:A) (h:k<l.length):l.getD k d=l[k]:=by simp[List.getD_eq_getElem?_getD,h]
theorem qE {A:Type} (l:List A) (k:Nat) (d:A) (h:k<l.length):l.take (k+1)=l.take k++ [l.getD k d]:=by
 rw[List.take_succ_eq_append_getElem h,zu d h]
theorem zy0 {c v L k:List Int} (hv:v.length=c.length) (hL: ∀ p∈L,0≤p∧p<c.length) (hl:L.length≤100000) (hc:c.length≤100000):Ld.f26F (c,v,L,k)=some (za8 (zi9 c v) L):=by
 unfold Ld.f26F
 dsimp only
 have hg: ∀ i,i<L.length→0≤L.getD i 0∧L.getD i 0<(c.length:Int):=fun i hi=>by rw[zu 0 hi];exact hL _ (List.getElem_mem hi)
 refine zfc (z9 (Q:=fun A=>A.map Prod.snd=za8 (zi9 c v) L) (zm (I:=fun(s:Int×Int×List (Bool×List Int))=> ∃ (f i:Nat) (A:List (Bool×List Int)),s=((f:Int),((i+1:Nat):Int),A)∧i≤L.length∧f≤i∧A.length≤i∧
   (i<L.length→za8 (zi9 c v) (L.take (i+1))=A.map Prod.snd++ [(L.take (i+1)).drop f])∧(i=L.length→za8 (zi9 c v) L=A.map Prod.snd)) (fun s=>(L.length+1 - s.2.1).toNat) ?_ _ ?_) fun A hA=>⟨_,rfl,by rw[← hA];rfl⟩)
 rotate_left
 ·refine⟨0,0, [],rfl,Nat.zero_le _,Nat.le_refl _,Nat.le_refl _,fun h=> ?_,fun h=> ?_⟩
  ·rw[qE L 0 0 h];rfl
  ·have:L= []:=List.eq_nil_of_length_eq_zero h.symm
   subst this;rfl
 rintro _ ⟨f,i,A,rfl,hi,hf,hA,h1,h2⟩
 dsimp only
 by_cases hil:i<L.length
 rotate_left
 ·right
  rw[if_neg (by rw[decide_eq_true_eq];omega)]
  exact⟨_,rfl,(h2 (by omega)).symm⟩
 left
 have hw:IntKind.i64.wrap (((i+1:Nat):Int) - 1)=(i:Int):=by rw[za (by omega) (by omega)];omega
 have hw2:IntKind.i64.wrap (((i+1:Nat):Int)+1)=((i+1+1:Nat):Int):=by rw[za (by omega) (by omega)];omega
 have hgi:=hg i hil
 have hseg:(L.take (i+1)).drop f=(L.take i).drop f++ [L.getD i 0]:=by
  rw[qE L i 0 hil,List.drop_append_of_le_length (by rw[List.length_take];omega)]
 have hr:=h1 hil
 simp (disch:=omega) only[if_pos,decide_eq_true_eq,hw,hw2,Int.toNat_natCast]
 by_cases hil2:i+1<L.length
 ·have hg2:=hg (i+1) hil2
  have hn:za8 (zi9 c v) (L.take (i+1+1))=zi0 (zi9 c v) (za8 (zi9 c v) (L.take (i+1))) (L.getD (i+1) 0):=by
   rw[qE L (i+1) 0 hil2,zj7]
  rw[hr,hseg,zfb] at hn
  have hseg2:(L.take (i+1+1)).drop f=(L.take i).drop f++ [L.getD i 0]++ [L.getD (i+1) 0]:=by
   rw[qE L (i+1) 0 hil2,List.drop_append_of_le_length (by rw[List.length_take];omega),hseg]
  have hseg3:(L.take (i+1+1)).drop (i+1)= [L.getD (i+1) 0]:=by
   rw[qE L (i+1) 0 hil2,List.drop_left' (by rw[List.length_take];omega)]
  simp (disch:=omega) only[if_pos]
  have hb: ∀ K:Bool×List (Bool×List Int)→Option ((Int×Int×List (Bool×List Int)) ⊕ List (Bool×List Int)),(Option.bind (if(v.getD (L.getD (i+1) 0).toNat 0==v.getD (L.getD i 0).toNat 0)=true then some (c.getD (L.getD i 0).toNat 0 !=10,A) else some (false,A)) K)=K (!zi9 c v (L.getD i 0) (L.getD (i+1) 0),A):=by
   intro K
   unfold zi9
   cases h:(v.getD (L.getD (i+1) 0).toNat 0==v.getD (L.getD i 0).toNat 0) with
   |true=>simp only[bne,h,if_true,Option.bind_some,Bool.not_true,Bool.false_or]
   |false=>simp only[bne,h,Bool.false_eq_true,if_false,Option.bind_some,Bool.not_false,Bool.true_or,Bool.not_true]
  rw[hb]
  cases hbr:zi9 c v (L.getD i 0) (L.getD (i+1) 0) with
  |false=>
   rw[hbr,if_neg (by simp)] at hn
   simp only[Bool.not_false,if_true]
   exact⟨_,rfl,⟨f,i+1,A,rfl,by omega,by omega,by omega,fun _=>by rw[hn,hseg2],fun h=>by omega⟩,by simp;omega⟩
  |true=>
   rw[hbr,if_pos rfl] at hn
   simp only[Bool.not_true,Bool.false_eq_true,if_false]
   rw[if_pos (by unfold zk;omega)]
   exact⟨_,rfl,⟨i+1,i+1,A++ [(false,(L.take (i+1)).drop f)],rfl,by omega,by omega,by simp;omega,fun _=>by rw[hn,hseg3,List.map_append,hseg];rfl,fun h=>by omega⟩,by simp;omega⟩
 ·have hil3:i+1=L.length:=by omega
  simp (disch:=omega) only[if_neg,if_pos,Option.bind_some,Bool.false_eq_true,not_false_eq_true,if_false]
  rw[if_pos (by unfold zk;omega)]
  exact⟨_,rfl,⟨i+1,i+1,A++ [(false,(L.take (i+1)).drop f)],rfl,by omega,by omega,by simp;omega,fun h=>by omega,fun h=>by
   rw[hil3,List.take_length] at hr
   rw[hr,List.map_append,hil3,List.take_length];rfl⟩,by simp;omega⟩
section
variable (nx:Nat→Option Nat)
def qP (k:Nat):Option Nat:=(List.range k).find? fun i=>nx i==some k
def xh (k:Nat):Nat:=((List.range k).filter fun i=>(qP nx i).isNone).length
theorem zhx {k i:Nat} (h:qP nx k=some i):i<k∧nx i=some k:=by
 unfold qP at h
 have h1:=List.mem_of_find?_eq_some h
 have h2:=List.find?_some h
 exact⟨by simpa using h1,by simpa using h2⟩
def zh9 (k:Nat):Nat:=match h:qP nx k with
 |some i=>zh9 i
 |none=>xh nx k
termination_by k
decreasing_by exact(zhx nx h).1
variable {nx} {N:Nat}
theorem zaa {k:Nat} (h:qP nx k=none):zh9 nx k=xh nx k:=by
 rw[zh9]
 split
 ·rename_i i hi;rw[h] at hi;cases hi
 ·rfl
theorem znv {k i:Nat} (h:qP nx k=some i):zh9 nx k=zh9 nx i:=by
 rw[zh9]
 split
 ·rename_i j hj;rw[h] at hj;cases hj;rfl
 ·rename_i hj;rw[h] at hj;cases hj
theorem j7 (nx:Nat→Option Nat) (k:Nat):xh nx (k+1)=xh nx k+if(qP nx k).isNone=true then 1 else 0:=by
 unfold xh
 rw[List.range_succ,List.filter_append,List.length_append]
 cases h:(qP nx k).isNone with
 |true=>simp[List.filter_cons,h]
 |false=>simp[List.filter_cons,h]
theorem zj4 {i k:Nat} (h:i≤k):xh nx i≤xh nx k:=by
 induction k with
 |zero=>have:i=0:=by omega
        subst this;exact Nat.le_refl _
 |succ k ih=>
  by_cases hk:i=k+1
  ·subst hk;exact Nat.le_refl _
  ·rw[j7];have:=ih (by omega);omega
theorem zus (nx:Nat→Option Nat) (k:Nat):zh9 nx k<xh nx (k+1):=by
 induction k using Nat.strongRecOn with
 |ind k ih=>
  cases hp:qP nx k with
  |none=>rw[zaa hp,j7,hp];simp
  |some i=>
   have hi:=(zhx nx hp).1
   rw[znv hp]
   exact Nat.lt_of_lt_of_le (ih i hi) (zj4 (by omega))
def ziu (nx:Nat→Option Nat) (k s:Nat):List Nat:=(List.range k).filter fun i=>zh9 nx i==s
theorem zhp (k s:Nat):ziu nx (k+1) s=ziu nx k s++if(zh9 nx k==s)=true then [k] else []:=by
 unfold ziu
 rw[List.range_succ,List.filter_append]
 congr 1
 simp only[List.filter_cons,List.filter_nil]
theorem zx7 {k d s:Nat} (h: ∀ x,k≤x→x<k+d→zh9 nx x≠s):ziu nx (k+d) s=ziu nx k s:=by
 induction d with
 |zero=>rfl
 |succ d ih=>
  rw[← Nat.add_assoc,zhp,ih (fun x h1 h2=>h x h1 (by omega)),if_neg (by simpa using h (k+d) (by omega) (by omega)),List.append_nil]
theorem ztz {k:Nat} (hp:qP nx k=none):ziu nx k (zh9 nx k)= []:=by
 have:=zx7 (nx:=nx) (k:=0) (d:=k) (s:=zh9 nx k) (fun x _ hx he=>by
  have h1:=zus nx x
  have h2:xh nx (x+1)≤xh nx k:=zj4 (by omega)
  rw[zaa hp] at he
  omega)
 rw[Nat.zero_add] at this
 exact this
theorem zrp (k:Nat):((List.range k).filter fun i=>(qP nx i).isNone).map (xh nx)=List.range (xh nx k):=by
 induction k with
 |zero=>rfl
 |succ k ih=>
  rw[List.range_succ,List.filter_append,List.map_append,ih,j7]
  cases hp:(qP nx k).isNone with
  |true=>rw[if_pos rfl,List.range_succ];simp[List.filter_cons,hp]
  |false=>simp[List.filter_cons,hp]
end
def zcr (x:Int):Int:=if x % 2=1 then 1 else 0
theorem zg8 (x:Int):Ld.f43F x=some (zcr x):=by
 unfold Ld.f43F zcr
 have hb:(BitVec.toNat (BitVec.ofInt (IntKind.bits IntKind.i64) x &&& BitVec.ofInt (IntKind.bits IntKind.i64) 1):Int)=x % 2:=by
  show((BitVec.toNat (BitVec.ofInt 64 x &&& BitVec.ofInt 64 1):Nat):Int)=x % 2
  have h1:BitVec.ofInt 64 1=1#64:=rfl
  rw[h1,BitVec.toNat_and]
  have h2:(1#64).toNat=1:=rfl
  rw[h2,Nat.and_one_is_mod,BitVec.toNat_ofInt]
  omega
 rw[hb]
 rcases Int.emod_two_eq x with h|h
 ·rw[h];rfl
 ·rw[h];rfl
theorem zul (c:List Int) (k d:Nat): ∃ t,sN c (k+d)=sN c k++t:=by
 induction d with
 |zero=>exact⟨[],by simp⟩
 |succ d ih=>
  obtain⟨t,h⟩:=ih
  rw[← Nat.add_assoc,zh5,h]
  split
  ·exact⟨t,rfl⟩
  ·exact⟨t++ [((k+d:Nat):Int)],by simp⟩
def zuf (c:List Int) (p:Int):Nat:=(sN c p.toNat).length
theorem zwj {c:List Int} {p:Int} (h:p∈seenS c):zuf c p<(seenS c).length∧(seenS c).getD (zuf c p) 0=p:=by
 obtain⟨j,rfl,h1,h2⟩:=xD h
 obtain⟨d,hd⟩: ∃ d,c.length=j+1+d:=⟨c.length - (j+1),by omega⟩
 obtain⟨t,ht⟩:=zul c (j+1) d
 have hs:seenS c=sN c j++ [(j:Int)]++t:=by
  unfold seenS
  rw[hd,ht,zh5,if_neg (by rw[h2];simp)]
 unfold zuf
 rw[Int.toNat_natCast,hs]
 refine⟨by simp, ?_⟩
 rw[List.getD_eq_getElem?_getD,List.append_assoc,List.getElem?_append_right (Nat.le_refl _)]
 simp
theorem zwd {c:List Int} {p:Int} (h:p∈seenS c):(zf0 c).getD p.toNat 0=(zuf c p:Int):=by
 obtain⟨j,rfl,h1,h2⟩:=xD h
 rw[Int.toNat_natCast,zu 0 (by simp[zf0];exact h1)]
 simp only[zf0,List.getElem_map,List.getElem_range,h2,Bool.false_eq_true,if_false,zuf,Int.toNat_natCast]
def z0p (c v:List Int) (p d base:Int):Int:=
 if(zuf c p:Int)+d<0∨(zuf c p:Int)+d≥((seenS c).length:Int) then base else v.getD ((seenS c).getD ((zuf c p:Int)+d).toNat 0).toNat 0
theorem zk8 {c v:List Int} (hc:c.length≤100000) (hv:v.length=c.length) {p d base:Int} (hp:p∈seenS c) (hd1: -1≤d) (hd2:d≤1):Ld.f42F ((c,v,seenS c,zf0 c),p,d,base)=some (z0p c v p d base):=by
 unfold Ld.f42F z0p
 dsimp only
 obtain⟨j,hj,h1,h2⟩:=xD hp
 have hrl:(zf0 c).length=c.length:=by simp[zf0]
 have hsl:(seenS c).length≤c.length:=zqv _ _
 obtain⟨h3,_⟩:=zwj hp
 rw[if_pos (by omega),zwd hp,za (by omega) (by omega)]
 by_cases ha:(zuf c p:Int)+d<0
 ·rw[if_pos (by rw[decide_eq_true_eq];exact ha),if_pos (Or.inl ha)]
  rfl
 ·rw[if_neg (by rw[decide_eq_true_eq];exact ha)]
  simp only[Option.bind_some,decide_eq_true_eq]
  by_cases hb:(zuf c p:Int)+d≥((seenS c).length:Int)
  ·rw[if_pos hb,if_pos (Or.inr hb)]
  ·have hm:(seenS c).getD ((zuf c p:Int)+d).toNat 0∈seenS c:=by rw[zu 0 (by omega)];exact List.getElem_mem _
   obtain⟨j2,hj2,h12,_⟩:=xD hm
   rw[if_neg hb,if_pos (by omega),if_pos (by omega),if_neg (by omega)]
def zup (c v at_:List Int) (base:Int):List Int×Int×Int×Int:=
 (at_,v.getD (at_.getD 0 0).toNat 0,zcr (zll (v.getD (at_.getD 0 0).toNat 0) (z0p c v (at_.getD 0 0) (-1) base)),
  zcr (zll (v.getD (at_.getD (at_.length - 1) 0).toNat 0) (if c.getD (at_.getD (at_.length - 1) 0).toNat 0≠10∧opens (c.getD (at_.getD (at_.length - 1) 0).toNat 0)=false then z0p c v (at_.getD (at_.length - 1) 0) 1 base else base)))
theorem zxt {c v at_:List Int} {base:Int} (hc:c.length≤100000) (hv:v.length=c.length) (h0:at_≠ []) (hl:at_.length≤100000) (hs: ∀ p∈at_,p∈seenS c):Ld.f28F ((c,v,seenS c,zf0 c),at_,base)=some (zup c v at_ base):=by
 unfold Ld.f28F zup
 dsimp only
 have hp:0<at_.length:=zap h0
 have hw:IntKind.i64.wrap ((at_.length:Int) - 1)=((at_.length - 1:Nat):Int):=by rw[za (by omega) (by omega)];omega
 have hf:at_.getD 0 0∈seenS c:=by rw[zu 0 hp];exact hs _ (List.getElem_mem _)
 have hla:at_.getD (at_.length - 1) 0∈seenS c:=by rw[zu 0 (by omega)];exact hs _ (List.getElem_mem _)
 have hz:Int.toNat (0:Int)=0:=rfl
 simp only[hw,Int.toNat_natCast,hz]
 generalize at_.getD 0 0=f at*
 generalize hgl:at_.getD (at_.length - 1) 0=l at*
 obtain⟨jf,hjf,hf1,_⟩:=xD hf
 obtain⟨jl,hjl,hl1,_⟩:=xD hla
 simp (disch:=omega) only[if_pos,zjk,Option.bind_some]
 cases h10:(c.getD l.toNat 0 !=10) with
 |false=>
  have h10':c.getD l.toNat 0=10:=by simpa using h10
  simp only[Bool.false_eq_true,if_false,Option.bind_some]
  rw[zk8 hc hv hf (by omega) (by omega),if_neg (by rw[h10'];simp)]
  simp only[Option.bind_some,zg8]
 |true=>
  have h10':c.getD l.toNat 0≠10:=by simpa using h10
  simp only[if_true,Option.bind_some]
  cases ho:opens (c.getD l.toNat 0) with
  |true=>
   simp only[Bool.not_true,Bool.false_eq_true,if_false,Option.bind_some]
   rw[zk8 hc hv hf (by omega) (by omega),if_neg (by simp)]
   simp only[Option.bind_some,zg8]
  |false=>
   simp only[Bool.not_false,if_true]
   rw[zk8 hc hv hla (by omega) (by omega)]
   simp only[Option.bind_some]
   rw[zk8 hc hv hf (by omega) (by omega),if_pos ⟨h10',trivial⟩]
   simp only[Option.bind_some,zg8]
theorem zjn {A:Type} {p q:A→Bool}: ∀ {l:List A},(∀ x∈l,p x=q x)→l.find? p=l.find? q
 | [],_=>rfl
 |a::l,h=>by
  rw[List.find?_cons,List.find?_cons,h a (by simp),zjn fun x hx=>h x (by simp[hx])]
theorem zt1 {kk:IntKind} {V:Ty} (k p:Int) (v:V.den) (es:List (Int×V.den)):zd5 (K:= .int kk) (V:=V) (zo6 (K:= .int kk) (V:=V) es k v) p=if p=k then some v else zd5 (K:= .int kk) (V:=V) es p:=by
 induction es with
 |nil=>
  show(bif (p==k) then some v else none)=_
  by_cases h:p=k
  ·subst h;simp
  ·have:(p==k)=false:=by simpa using h
   rw[this,if_neg h];rfl
 |cons e l ih=>
  obtain⟨a,b⟩:=e
  show zd5 (K:= .int kk) (V:=V) (bif (k==a) then(a,v)::l else(a,b)::zo6 (K:= .int kk) (V:=V) l k v) p=if p=k then some v else(bif (p==a) then some b else zd5 (K:= .int kk) (V:=V) l p)
  by_cases h:k=a
  ·subst h
   rw[beq_self_eq_true]
   show(bif (p==k) then some v else zd5 (K:= .int kk) (V:=V) l p)=_
   by_cases h2:p=k
   ·subst h2;simp
   ·have:(p==k)=false:=by simpa using h2
    rw[this,if_neg h2];rfl
  ·have hka:(k==a)=false:=by simpa using h
   rw[hka]
   show(bif (p==a) then some b else zd5 (K:= .int kk) (V:=V) (zo6 (K:= .int kk) (V:=V) l k v) p)=_
   by_cases h2:p=a
   ·subst h2
    have: ¬ p=k:=fun e=>h e.symm
    rw[beq_self_eq_true,if_neg this];rfl
   ·have hpa:(p==a)=false:=by simpa using h2
    rw[hpa]
    exact ih
def zn3 (R:List (List Int)) (k:Nat):Int:=(R.getD k []).getD 0 0
def zrw (R:List (List Int)) (k:Nat):Int:=(R.getD k []).getD ((R.getD k []).length - 1) 0
structure RF (c:List Int) (R:List (List Int)):Prop where
 ne: ∀ r∈R,r≠ []
 mem: ∀ r∈R, ∀ p∈r,p∈seenS c
 asc:R.flatten.Pairwise (· < ·)
 small:R.flatten.length≤c.length
theorem zl1 (c v:List Int):RF c (ziy c v):=by
 have h:=zwi (zi9 c v) (seenS c)
 refine⟨h.ne,fun r hr p hp=> ?_, ?_, ?_⟩
 ·have:p∈(za8 (zi9 c v) (seenS c)).flatten:=List.mem_flatten.2 ⟨r,hr,hp⟩
  rwa [h.all] at this
 ·show(za8 (zi9 c v) (seenS c)).flatten.Pairwise _
  rw[h.all];exact z0g _ _
 ·show(za8 (zi9 c v) (seenS c)).flatten.length≤_
  rw[h.all];exact zqv _ _
section
variable {c:List Int} {R:List (List Int)} (h:RF c R)
include h
theorem RF.run {k:Nat} (hk:k<R.length):R.getD k []∈R∧R.getD k []≠ []∧0<(R.getD k []).length:=by
 rw[zu [] hk]
 have h1:=List.getElem_mem hk
 exact⟨h1,h.ne _ h1,zap (h.ne _ h1)⟩
theorem RF.fst_mem {k:Nat} (hk:k<R.length):zn3 R k∈R.getD k []:=by
 obtain⟨h1,h2,h3⟩:=h.run hk
 unfold zn3
 rw[zu 0 h3];exact List.getElem_mem _
theorem RF.lst_mem {k:Nat} (hk:k<R.length):zrw R k∈R.getD k []:=by
 obtain⟨h1,h2,h3⟩:=h.run hk
 unfold zrw
 rw[zu 0 (by omega)];exact List.getElem_mem _
theorem RF.lst_seen {k:Nat} (hk:k<R.length):zrw R k∈seenS c:=h.mem _ (h.run hk).1 _ (h.lst_mem hk)
theorem RF.apart {i j:Nat} (hij:i<j) (hj:j<R.length): ∀ p∈R.getD i [], ∀ q∈R.getD j [],p<q:=by
 have:=(List.pairwise_flatten.1 h.asc).2
 rw[zu [] (by omega),zu [] hj]
 exact List.pairwise_iff_getElem.1 this i j (by omega) hj hij
theorem RF.fst_le {k:Nat} (hk:k<R.length):zn3 R k≤zrw R k:=by
 obtain⟨h1,h2,h3⟩:=h.run hk
 have hp:=(List.pairwise_flatten.1 h.asc).1 _ h1
 unfold zn3 zrw
 rw[zu 0 h3,zu 0 (by omega)]
 by_cases h0:(R.getD k []).length - 1=0
 ·simp only[h0];omega
 ·have:=List.pairwise_iff_getElem.1 hp 0 ((R.getD k []).length - 1) h3 (by omega) (by omega)
  omega
theorem RF.lst_lt {i j:Nat} (hij:i<j) (hj:j<R.length):zrw R i<zn3 R j:=h.apart hij hj _ (h.lst_mem (by omega)) _ (h.fst_mem hj)
theorem RF.fst_inj {i j:Nat} (hi:i<R.length) (hj:j<R.length) (he:zn3 R i=zn3 R j):i=j:=by
 rcases Nat.lt_trichotomy i j with h1|h1|h1
 ·have:=h.lst_lt h1 hj;have:=h.fst_le hi;omega
 ·exact h1
 ·have:=h.lst_lt h1 hi;have:=h.fst_le hj;omega
theorem RF.lst_inj {i j:Nat} (hi:i<R.length) (hj:j<R.length) (he:zrw R i=zrw R j):i=j:=by
 rcases Nat.lt_trichotomy i j with h1|h1|h1
 ·have:=h.lst_lt h1 hj;have:=h.fst_le hj;omega
 ·exact h1
 ·have:=h.lst_lt h1 hi;have:=h.fst_le hi;omega
theorem RF.count:R.length≤c.length:=by
 refine Nat.le_trans ?_ h.small
 have: ∀ (S:List (List Int)),(∀ r∈S,r≠ [])→S.length≤S.flatten.length:=by
  intro S
  induction S with
  |nil=>simp
  |cons r S ih=>
   intro hS
   have h1:=zap (hS r (by simp))
   have h2:=ih (fun r hr=>hS r (by simp[hr]))
   simp at h2 ⊢
   omega
 exact this R h.ne
omit h
def zpk (c:List Int) (R:List (List Int)) (k:Nat):Option Int:=
 if opens (c.getD (zrw R k).toNat 0)=true∧0≤(ji c).getD (zrw R k).toNat 0 then some ((ji c).getD (zrw R k).toNat 0) else none
def nxR (c:List Int) (R:List (List Int)) (k:Nat):Option Nat:=
 if k<R.length then(match zpk c R k with
  |none=>none
  |some p=>(List.range R.length).find? fun j=>zn3 R j==p) else none
theorem zho {c:List Int} {j:Nat} (hj:j<c.length) (ho:opens (c.getD j 0)=true):(ji c).getD j 0=endOf c j:=by
 unfold ji
 rw[zu 0 (by simpa using hj)]
 simp only[List.getElem_map,List.getElem_range,ho,if_true]
include h
theorem RF.tgt {k:Nat} (hk:k<R.length) {p:Int} (ht:zpk c R k=some p): ∃ j:Nat,zrw R k=j∧j<c.length∧opens (c.getD j 0)=true∧endOf c j=p∧(j:Int)<p∧p<c.length:=by
 obtain⟨j,hj,h1,_⟩:=xD (h.lst_seen hk)
 unfold zpk at ht
 rw[hj] at ht
 simp only[Int.toNat_natCast] at ht
 split at ht
 case isFalse=>cases ht
 case isTrue hc=>
  have he:=zho h1 hc.1
  rw[he] at ht hc
  simp only[Option.some.injEq] at ht
  subst ht
  rcases jC c j with h2|h2
  ·have:=hc.2;omega
  ·exact⟨j,hj,h1,hc.1,rfl,h2.1,h2.2⟩
theorem RF.tgt_inj {i k:Nat} (hi:i<R.length) (hk:k<R.length) {p:Int} (h1:zpk c R i=some p) (h2:zpk c R k=some p):i=k:=by
 obtain⟨a,a1,a2,a3,a4,a5,_⟩:=h.tgt hi h1
 obtain⟨b,b1,b2,b3,b4,_,_⟩:=h.tgt hk h2
 have:a=b:=by
  obtain⟨q,rfl⟩:=Int.eq_ofNat_of_zero_le (show 0≤p by omega)
  rw[zu 0 a2] at a3
  rw[zu 0 b2] at b3
  exact zmv a2 b2 a3 b3 a4 b4
 exact h.lst_inj hi hk (by rw[a1,b1,this])
theorem RF.nx_iff {i k:Nat} (hi:i<R.length) (hk:k<R.length):nxR c R i=some k↔zpk c R i=some (zn3 R k):=by
 unfold nxR
 rw[if_pos hi]
 constructor
 ·intro hn
  split at hn
  ·cases hn
  ·rename_i p hp
   have:=List.find?_some hn
   rw[beq_iff_eq] at this
   rw[hp,this]
 ·intro ht
  rw[ht]
  simp only
  cases hf:(List.range R.length).find? fun j=>zn3 R j==zn3 R k with
  |none=>
   have:=List.find?_eq_none.1 hf k (by simpa using hk)
   simp at this
  |some j=>
   have h1:=List.find?_some hf
   have h2:=List.mem_of_find?_eq_some hf
   rw[beq_iff_eq] at h1
   rw[h.fst_inj (by simpa using h2) hk h1]
theorem RF.prev_find {k:Nat} (hk:k<R.length):(List.range k).find? (fun i=>zpk c R i==some (zn3 R k))=qP (nxR c R) k:=by
 unfold qP
 apply zjn
 intro i hi
 have hik:i<k:=by simpa using hi
 rw[Bool.eq_iff_iff,beq_iff_eq,beq_iff_eq]
 exact(h.nx_iff (by omega) hk).symm
end
def wS (c:List Int) (R:List (List Int)) (k:Nat) (p:Int):Option Int:=((List.range k).find? fun i=>zpk c R i==some p).map fun i=>(zh9 (nxR c R) i:Int)
theorem RF.w_succ {c:List Int} {R:List (List Int)} (h:RF c R) {k:Nat} (hk:k<R.length) (p:Int):wS c R (k+1) p=if zpk c R k=some p then some (zh9 (nxR c R) k:Int) else wS c R k p:=by
 unfold wS
 rw[List.range_succ,List.find?_append]
 cases hf:(List.range k).find? fun i=>zpk c R i==some p with
 |none=>
  rw[Option.none_or]
  by_cases ht:zpk c R k=some p
  ·rw[if_pos ht,List.find?_cons_of_pos (by simpa using ht)];rfl
  ·rw[if_neg ht,List.find?_cons_of_neg (by simpa using ht)];rfl
 |some i=>
  rw[Option.some_or]
  have h1:=List.find?_some hf
  have h2:=List.mem_of_find?_eq_some hf
  rw[beq_iff_eq] at h1
  have hik:i<k:=by simpa using h2
  rw[if_neg (fun ht=>by have:=h.tgt_inj (by omega) hk h1 ht;omega)]
def zkr (R:List (List Int)) (l:List Nat):List Int:=l.flatMap fun i=>R.getD i []
theorem zvc (R:List (List Int)) (k:Nat) (hk:k≤R.length):zkr R (List.range k)=(R.take k).flatten:=by
 induction k with
 |zero=>rfl
 |succ k ih=>
  have:=ih (by omega)
  unfold zkr at this ⊢
  rw[List.range_succ,List.flatMap_append,this,qE R k [] (by omega),List.flatten_append]
  simp
theorem zgs (R:List (List Int)) (q:Nat→Bool) (l:List Nat):(zkr R (l.filter q)).length≤(zkr R l).length:=by
 unfold zkr
 induction l with
 |nil=>simp
 |cons x l ih=>
  rw[List.filter_cons]
  split
  ·simp only[List.flatMap_cons,List.length_append];omega
  ·simp only[List.flatMap_cons,List.length_append];omega
theorem zlm {c:List Int} {R:List (List Int)} (h:RF c R) (k s:Nat) (hk:k≤R.length):(zkr R (ziu (nxR c R) k s)).length≤c.length:=by
 refine Nat.le_trans (zgs R _ _) ?_
 rw[zvc R k hk]
 refine Nat.le_trans ?_ h.small
 have:(R.take k).flatten.length+(R.drop k).flatten.length=R.flatten.length:=by
  rw[← List.length_append, ← List.flatten_append,List.take_append_drop]
 omega
theorem zni {c:List Int} {R:List (List Int)} (h:RF c R) {k s:Nat} (hk:k≤R.length): ∀ p∈zkr R (ziu (nxR c R) k s),p∈seenS c:=by
 intro p hp
 unfold zkr at hp
 obtain⟨i,h1,h2⟩:=List.mem_flatMap.1 hp
 have hi:i<k:=by
  unfold ziu at h1
  simpa using(List.mem_filter.1 h1).1
 exact h.mem _ (h.run (by omega)).1 _ h2
theorem zt0 {c:List Int} {R:List (List Int)} (h:RF c R) {s:Nat} (hs:s<xh (nxR c R) R.length):zkr R (ziu (nxR c R) R.length s)≠ []:=by
 have h1:s∈List.range (xh (nxR c R) R.length):=by simpa using hs
 rw[← zrp] at h1
 obtain⟨i,h2,h3⟩:=List.mem_map.1 h1
 simp only[List.mem_filter,List.mem_range,Option.isNone_iff_eq_none] at h2
 have h4:=zaa h2.2
 intro he
 have h5:i∈ziu (nxR c R) R.length s:=by
  unfold ziu
  simp only[List.mem_filter,List.mem_range,beq_iff_eq]
  exact⟨h2.1,by rw[h4,h3]⟩
 have h6:zn3 R i∈zkr R (ziu (nxR c R) R.length s):=List.mem_flatMap.2 ⟨i,h5,h.fst_mem h2.1⟩
 rw[he] at h6;simp at h6
def ziz (c v:List Int) (base:Int):List (List Int×Int×Int×Int):=
 (List.range (xh (nxR c (ziy c v)) (ziy c v).length)).map fun s=>zup c v (zkr (ziy c v) (ziu (nxR c (ziy c v)) (ziy c v).length s)) base
theorem ztp {A B C:Type} (R:List A) (z:C) (g:A→B) (f:Int×C×List B→Option ((Int×C×List B) ⊕ List B)) (h: ∀ (k:Nat) (hk:k<R.length),f ((k:Int),z,(R.take k).map g)=some (.inl (((k+1:Nat):Int),z,(R.take k).map g++ [g R[k]])))
  (he:f ((R.length:Int),z,R.map g)=some (.inr (R.map g))):iter f (0,z, [])=some (R.map g):=by
 refine zfc (zm (I:=fun s=> ∃ k:Nat,k≤R.length∧s=((k:Int),z,(R.take k).map g)) (Q:=fun r=>r=R.map g) (fun s=>(R.length - s.1).toNat) ?_ _ ⟨0,Nat.zero_le _,rfl⟩)
 rintro _ ⟨k,hk,rfl⟩
 by_cases hkn:k<R.length
 ·refine .inl ⟨_,h k hkn,⟨k+1,hkn, ?_⟩,by simp;omega⟩
  rw[List.take_succ_eq_append_getElem hkn,List.map_append];rfl
 ·have:k=R.length:=by omega
  subst this
  rw[List.take_length]
  exact .inr ⟨_,he,rfl⟩
def zf5 (c:List Int) (R:List (List Int)) (m k:Nat):List (Bool×List Int):=(List.range (xh (nxR c R) m)).map fun s=>(true,zkr R (ziu (nxR c R) k s))
theorem zpr {c:List Int} {R:List (List Int)} {m k s:Nat} (h:s<xh (nxR c R) m):(zf5 c R m k).getD s (false, [])=(true,zkr R (ziu (nxR c R) k s)):=by
 unfold zf5
 rw[zu _ (by simpa using h)]
 simp
theorem zsm {c:List Int} {R:List (List Int)} {k:Nat} (hp:qP (nxR c R) k=none):zf5 c R k k++ [(true, [])]=zf5 c R (k+1) k:=by
 unfold zf5
 rw[j7,hp]
 simp only[Option.isNone_none,if_true]
 rw[List.range_succ,List.map_append,List.map_singleton]
 have:=ztz (nx:=nxR c R) hp
 rw[zaa hp] at this
 rw[this];rfl
theorem zsn {c:List Int} {R:List (List Int)} {k i:Nat} (hp:qP (nxR c R) k=some i):zf5 c R k k=zf5 c R (k+1) k:=by
 unfold zf5
 rw[j7,hp]
 simp
theorem zu9 {c:List Int} {R:List (List Int)} (k:Nat):(zf5 c R (k+1) k).set (zh9 (nxR c R) k) (true,zkr R (ziu (nxR c R) k (zh9 (nxR c R) k))++R.getD k [])=zf5 c R (k+1) (k+1):=by
 unfold zf5
 apply List.ext_getElem
 ·simp
 ·intro n h1 h2
  rw[List.getElem_set]
  split
  ·rename_i hn
   subst hn
   simp only[List.getElem_map,List.getElem_range]
   rw[zhp,if_pos (by simp)]
   simp[zkr]
  ·rename_i hn
   simp only[List.getElem_map,List.getElem_range]
   rw[zhp,if_neg (by simpa using hn),List.append_nil]
theorem zys {c v:List Int} {base:Int} (hc:c.length≤100000):Ld.f17F (c,v,base)=some (if c.length=v.length then ziz c v base else []):=by
 unfold Ld.f17F
 dsimp only
 by_cases hcv:c.length=v.length
 rotate_left
 ·rw[if_pos (by simp;omega),if_neg hcv]
 rw[if_neg (by simp;omega),if_pos hcv,zyz hc,zww hc]
 simp only[Option.bind_some]
 have hsl:(seenS c).length≤100000:=Nat.le_trans (zqv _ _) hc
 rw[zy0 hcv.symm (fun p hp=>by obtain⟨j,rfl,h1,_⟩:=xD hp;omega) hsl hc]
 simp only[Option.bind_some]
 have hR:RF c (za8 (zi9 c v) (seenS c)):=zl1 c v
 unfold ziz ziy
 generalize hRe:za8 (zi9 c v) (seenS c)=R at*
 have hcount:=hR.count
 have hml:(ji c).length=c.length:=by simp[ji]
 have second: ∀ x,x=zf5 c R R.length R.length→(Option.bind (iter (fun(s5:Int×List (Bool×List Int)×List (List Int×Int×Int×Int))=>
   if decide (s5.1<(x.length:Int))=true then
    if 0≤s5.1∧s5.1<(s5.2.1.length:Int) then
     Option.bind (Go.Sx.Ld.f28F ((c,v,seenS c,zf0 c),(s5.2.1.getD s5.1.toNat (false, [])).2,base)) fun v6=>
      if zk (s5.2.2.length+1) 48 then some (Sum.inl (IntKind.i64.wrap (s5.1+1),s5.2.1,s5.2.2++ [v6])) else none
    else none
   else some (Sum.inr s5.2.2)) (0,x, [])) fun v5=>some v5)=some ((List.range (xh (nxR c R) R.length)).map fun s=>zup c v (zkr R (ziu (nxR c R) R.length s)) base):=by
  rintro _ rfl
  have hlen:(zf5 c R R.length R.length).length=xh (nxR c R) R.length:=by simp[zf5]
  have hrk:xh (nxR c R) R.length≤R.length:=by unfold xh;exact Nat.le_trans (List.length_filter_le _ _) (by simp)
  rw[ztp (List.range (xh (nxR c R) R.length)) (zf5 c R R.length R.length) (fun s=>zup c v (zkr R (ziu (nxR c R) R.length s)) base)]
  ·rfl
  ·intro k hk
   have hk':k<xh (nxR c R) R.length:=by simpa using hk
   have hw:IntKind.i64.wrap ((k:Int)+1)=((k+1:Nat):Int):=by rw[za (by omega) (by omega)];omega
   have h1:=zlm hR R.length k (Nat.le_refl _)
   dsimp only
   simp (disch:=omega) only[if_pos,decide_eq_true_eq,hlen,Int.toNat_natCast,zpr hk',hw]
   rw[zxt hc hcv.symm (zt0 hR hk') (by omega) (zni hR (Nat.le_refl _))]
   simp only[Option.bind_some]
   rw[if_pos (by unfold zk;simp;omega)]
   simp
  ·dsimp only
   rw[if_neg (by rw[decide_eq_true_eq,hlen];simp)]
 refine zfc (z9 (Q:=fun e=>e=zf5 c R R.length R.length) ?_ fun e he=>⟨_,second e he,rfl⟩)
 clear second
 refine zm (I:=fun(s:Int×List (Int×Int)×List (Bool×List Int))=> ∃ (k:Nat) (W:List (Int×Int)),k≤R.length∧s=((k:Int),W,zf5 c R k k)∧ ∀ p,zd5 (K:= .int .i64) (V:= .int .i64) W p=wS c R k p) (fun s=>(R.length - s.1).toNat) ?_ _ ⟨0, [],Nat.zero_le _,rfl,fun p=>rfl⟩
 rintro _ ⟨k,W,hk,rfl,hW⟩
 by_cases hkl:k<R.length
 rotate_left
 ·have:k=R.length:=by omega
  subst this
  right
  dsimp only
  rw[if_neg (by rw[decide_eq_true_eq];omega)]
  exact⟨_,rfl,rfl⟩
 left
 obtain⟨hr1,hr2,hr3⟩:=hR.run hkl
 have hrl:(R.getD k []).length≤c.length:=by
  have h1:(R.getD k []).length≤R.flatten.length:=by
   rw[List.length_flatten]
   exact zjs hr1
  have:=hR.small;omega
 have hw:IntKind.i64.wrap ((k:Int)+1)=((k+1:Nat):Int):=by rw[za (by omega) (by omega)];omega
 have hwl:IntKind.i64.wrap (((R.getD k []).length:Int) - 1)=(((R.getD k []).length - 1:Nat):Int):=by rw[za (by omega) (by omega)];omega
 have hrk:xh (nxR c R) k≤k:=by unfold xh;exact Nat.le_trans (List.length_filter_le _ _) (by simp)
 have hrk1:xh (nxR c R) (k+1)≤k+1:=by unfold xh;exact Nat.le_trans (List.length_filter_le _ _) (by simp)
 have hal: ∀ m j,(zf5 c R m j).length=xh (nxR c R) m:=fun m j=>by simp[zf5]
 have hfst:(R.getD k []).getD 0 0=zn3 R k:=rfl
 have hlst:(R.getD k []).getD ((R.getD k []).length - 1) 0=zrw R k:=rfl
 have hz:Int.toNat (0:Int)=0:=rfl
 have hget:zo4 (.int .i64) (.int .i64) W (zn3 R k)=(qP (nxR c R) k).map fun i=>(zh9 (nxR c R) i:Int):=by
  show zd5 (K:= .int .i64) (V:= .int .i64) W (zn3 R k)=_
  rw[hW]
  unfold wS
  rw[hR.prev_find hkl]
 have hjoin: ∀ (T:Type) (K:Int×List (Int×Int)×List (Bool×List Int)→Option T),
   (Option.bind (if(!((qP (nxR c R) k).map fun i=>(zh9 (nxR c R) i:Int)).isSome)=true then
    if zk ((zf5 c R k k).length+1) 24 then some (((zf5 c R k k).length:Int),W,zf5 c R k k++ [(true, [])]) else none
   else some (Option.getD ((qP (nxR c R) k).map fun i=>(zh9 (nxR c R) i:Int)) 0,W,zf5 c R k k)) K)=K ((zh9 (nxR c R) k:Int),W,zf5 c R (k+1) k):=by
  intro T K
  cases hp:qP (nxR c R) k with
  |none=>
   simp only[Option.map_none,Option.isSome_none,Bool.not_false,if_true]
   rw[if_pos (by unfold zk;rw[hal];omega),zsm hp,hal,zaa hp];rfl
  |some i=>
   simp only[Option.map_some,Option.isSome_some,Bool.not_true,Bool.false_eq_true,if_false,Option.getD_some]
   rw[znv hp,zsn hp];rfl
 have hsx:=zus (nxR c R) k
 have hcl:=zlm hR k (zh9 (nxR c R) k) (by omega)
 obtain⟨j,hj,hj1,_⟩:=xD (hR.lst_seen hkl)
 dsimp only
 rw[if_pos (by rw[decide_eq_true_eq];omega),if_pos (by omega)]
 simp only[Int.toNat_natCast,hz]
 rw[if_pos (by omega)]
 simp only[hfst,hget,hwl,Int.toNat_natCast,hlst,hw]
 rw[hjoin]
 dsimp only
 rw[hal,if_pos (by omega)]
 simp only[Int.toNat_natCast,zpr hsx,List.length_set,hal,List.set_set,zu9,hw]
 rw[if_pos (by rfl),if_pos (by unfold zk;omega),if_pos (by omega),if_pos (by omega),if_pos (by rw[hj];omega)]
 simp only[zjk,Option.bind_some,hj,Int.toNat_natCast,hml]
 have hsucc:=hR.w_succ hkl
 cases ho:opens (c.getD j 0) with
 |false=>
  simp only[Bool.false_eq_true,if_false,Option.bind_some]
  refine⟨_,rfl,⟨k+1,W,hkl,rfl,fun p=> ?_⟩,by simp;omega⟩
  rw[hsucc,hW,if_neg (by unfold zpk;rw[hj,Int.toNat_natCast,ho];simp)]
 |true=>
  simp only[if_true]
  rw[if_pos (by omega)]
  simp only[Option.bind_some]
  have hme:=zho hj1 ho
  by_cases hm:(ji c).getD j 0= -1
  ·rw[hm,if_neg (by decide)]
   refine⟨_,rfl,⟨k+1,W,hkl,rfl,fun p=> ?_⟩,by simp;omega⟩
   rw[hsucc,hW,if_neg (by unfold zpk;rw[hj,Int.toNat_natCast,hm];simp)]
  ·rw[if_pos (by simpa using hm),if_pos (by omega)]
   have hpos:0≤(ji c).getD j 0:=by
    rw[hme] at hm ⊢
    rcases jC c j with h2|h2
    ·exact absurd h2 hm
    ·omega
   refine⟨_,rfl,⟨k+1,_,hkl,rfl,fun p=> ?_⟩,by simp;omega⟩
   show zd5 (K:= .int .i64) (V:= .int .i64) (zo6 (K:= .int .i64) (V:= .int .i64) W _ _) p=_
   rw[zt1,hsucc,hW]
   have ht:zpk c R k=some ((ji c).getD j 0):=by unfold zpk;rw[hj,Int.toNat_natCast,if_pos ⟨ho,hpos⟩]
   rw[ht]
   by_cases hpm:p=(ji c).getD j 0
   ·rw[if_pos hpm,if_pos (by rw[hpm])]
   ·rw[if_neg hpm,if_neg (fun e=>hpm (Option.some.inj e).symm)]
end Go.Sx
