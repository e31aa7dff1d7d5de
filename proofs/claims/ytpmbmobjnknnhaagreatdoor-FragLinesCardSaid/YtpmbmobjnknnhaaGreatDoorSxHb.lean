import Derived.Test.YtpmbmobjnknnhaaGreatDoorSxHa
set_option linter.unusedVariables false
set_option linter.unusedSimpArgs false
namespace Go.Sx
theorem zay {A:Type} {l:List A} (h:l≠ []):0<l.length:=by
 cases l with
 |nil=>exact absurd rfl h
 |cons a r=>simp
theorem zkp {A:Type}: ∀ {R:List (List A)} {r:List A},r∈R→r.length≤(R.map List.length).sum
 | [],_,h=>by simp at h
 |s::R,r,h=>by
  rw[List.map_cons,List.sum_cons]
  rcases List.mem_cons.1 h with rfl|h
  ·omega
  ·have:=zkp h;omega
theorem zi7 {A:Type} {x:Option A} {y:A} (h: ∃ r,x=some r∧r=y):x=some y:=by
 obtain⟨r,h1,rfl⟩:=h;exact h1
def zgb (c:Int):Bool:=c==9||c==14||c==15||c==16||c==17||c==18
theorem zz9:R.f80F [14,15,16,17,18,9]=some 508416:=by
 unfold R.f80F
 rw[qo (n:=7) (e:=508416) (by rfl)]
 rfl
theorem zz5: ∀ n:Nat,n<23→R.f79F ((n:Int),508416)=some (zgb n):=by
 unfold R.f79F
 decide+kernel
theorem zrc (c:Int):R.f54F c=some (zgb c):=by
 unfold R.f54F
 rw[zz9]
 show(R.f79F (c,508416)).bind _=_
 by_cases h0:0≤c
 ·by_cases h1:c<23
  ·obtain⟨n,rfl⟩:=Int.eq_ofNat_of_zero_le h0
   rw[zz5 n (by omega)];rfl
  ·have:R.f79F (c,508416)=some false:=by
    unfold R.f79F
    simp[show c≥0 by omega,show ¬ c≤22 by omega]
   rw[this]
   simp[zgb];omega
 ·have:R.f79F (c,508416)=some false:=by
   unfold R.f79F
   simp[h0]
  rw[this]
  simp[zgb];omega
def sN (c:List Int) (k:Nat):List Int:=((List.range k).filter fun j=> !zgb (c.getD j 0)).map fun(j:Nat)=>(j:Int)
def seenS (c:List Int):List Int:=sN c c.length
theorem ziz (c:List Int) (k:Nat):sN c (k+1)=if zgb (c.getD k 0)=true then sN c k else sN c k++ [(k:Int)]:=by
 unfold sN
 rw[List.range_succ,List.filter_append,List.map_append]
 cases h:zgb (c.getD k 0) with
 |true=>simp only[List.filter_cons,List.filter_nil,h,Bool.not_true,Bool.false_eq_true,if_false,List.map_nil,List.append_nil,if_true]
 |false=>simp only[List.filter_cons,List.filter_nil,h,Bool.not_false,if_true,List.map_cons,List.map_nil,Bool.false_eq_true,if_false]
theorem zsa (c:List Int) (k:Nat):(sN c k).length≤k:=by
 unfold sN
 rw[List.length_map]
 exact Nat.le_trans (List.length_filter_le _ _) (by simp)
theorem z2f {c:List Int} {k:Nat} {p:Int}:p∈sN c k↔ ∃ j:Nat,p=j∧j<k∧zgb (c.getD j 0)=false:=by
 unfold sN
 simp only[List.mem_map,List.mem_filter,List.mem_range,Bool.not_eq_true']
 constructor
 ·rintro ⟨j,⟨h1,h2⟩,rfl⟩;exact⟨j,rfl,h1,h2⟩
 ·rintro ⟨j,rfl,h1,h2⟩;exact⟨j,⟨h1,h2⟩,rfl⟩
theorem z2e (c:List Int) (k:Nat):(sN c k).Pairwise (· < ·):=by
 unfold sN
 rw[List.pairwise_map]
 refine List.Pairwise.imp ?_ ((List.pairwise_lt_range (n:=k)).filter _)
 intro a b h;omega
theorem xG {c:List Int} {p:Int} (h:p∈seenS c): ∃ j:Nat,p=j∧j<c.length∧zgb (c.getD j 0)=false:=z2f.1 h
def zgo (c:List Int):List Int:=(List.range c.length).map fun k=>if zgb (c.getD k 0)=true then -1 else((sN c k).length:Int)
theorem z1d {c v:List Int} (hl:c.length≤100000):R.f70F (c,v)=some (c,v,seenS c,zgo c):=by
 unfold R.f70F
 dsimp only
 rw[if_pos (by simp only[zi];omega)]
 refine zi7 (z4 (Q:=fun e=>e=(zgo c,c,v,seenS c)) (zq (I:=fun s=> ∃ (k:Nat) (m:List Int),k≤c.length∧m.length=c.length∧(∀ j,j<k→m.getD j 0=if zgb (c.getD j 0)=true then -1 else((sN c j).length:Int))∧s=((k:Int),m,c,v,sN c k))
  (fun s=>(c.length - s.1).toNat) ?_ _ ⟨0,_,by omega,by simp,fun j hj=>by omega,rfl⟩) fun e he=>⟨_,rfl,by rw[he]⟩)
 rintro _ ⟨k,m,hk,hm,hr,rfl⟩
 by_cases hkl:k<c.length
 ·have hlen:=zsa c k
  dsimp only
  simp (disch:=omega) only[if_pos,za,decide_eq_true_eq,zrc,Option.bind_some,Int.toNat_natCast,zi,List.length_set]
  left
  have hset: ∀ (m:List Int) (x:Int) (j:Nat),m.length=c.length→(m.set k x).getD j 0=if k=j then x else m.getD j 0:=fun m x j hm=>qT m k j x (by omega)
  cases ho:zgb (c.getD k 0) with
  |true=>
   refine⟨_,rfl,⟨k+1,m.set k (-1),hkl,by simpa using hm,fun j hj=> ?_,by rw[ziz,ho];rfl⟩,by simp;omega⟩
   rw[hset _ _ _ hm]
   split
   ·rename_i h;subst h;rw[ho];rfl
   ·exact hr j (by omega)
  |false=>
   refine⟨_,rfl,⟨k+1,(m.set k (-1)).set k ((sN c k).length:Int),hkl,by simpa using hm,fun j hj=> ?_,by rw[ziz,ho];rfl⟩,by simp;omega⟩
   rw[hset _ _ _ (by simpa using hm),hset _ _ _ hm]
   split
   ·rename_i h;subst h;rw[ho];rfl
   ·exact hr j (by omega)
 ·have:k=c.length:=by omega
  subst this
  right
  rw[if_neg (by rw[decide_eq_true_eq];omega)]
  refine⟨_,rfl, ?_⟩
  congr 1
  apply List.ext_getElem
  ·simp[zgo,hm]
  ·intro j h1 h2
   have h1':j<m.length:=h1
   have:=hr j (by omega)
   rw[List.getD_eq_getElem?_getD,List.getElem?_eq_getElem h1'] at this
   simp only[Option.getD_some] at this
   rw[this]
   simp[zgo]
def zj9 (c v:List Int) (p q:Int):Bool:=v.getD q.toNat 0 !=v.getD p.toNat 0||c.getD p.toNat 0==10
def zj0 (b:Int→Int→Bool) (acc:List (List Int)) (q:Int):List (List Int):=
 match acc.getLast? with
 |none=>acc++ [[q]]
 |some r=>match r.getLast? with
  |none=>acc++ [[q]]
  |some p=>if b p q=true then acc++ [[q]] else acc.dropLast++ [r++ [q]]
def zbh (b:Int→Int→Bool) (l:List Int):List (List Int):=l.foldl (zj0 b) []
def zjy (c v:List Int):List (List Int):=zbh (zj9 c v) (seenS c)
theorem zk7 (b:Int→Int→Bool) (l:List Int) (q:Int):zbh b (l++ [q])=zj0 b (zbh b l) q:=by
 unfold zbh;rw[List.foldl_append];rfl
theorem zfw (b:Int→Int→Bool) (A:List (List Int)) (r:List Int) (p q:Int):zj0 b (A++ [r++ [p]]) q=if b p q=true then A++ [r++ [p]]++ [[q]] else A++ [r++ [p]++ [q]]:=by
 unfold zj0
 simp only[List.getLast?_append,List.getLast?_singleton,Option.some_or,List.dropLast_concat]
structure RunsOk (b:Int→Int→Bool) (l:List Int) (R:List (List Int)):Prop where
 all:R.flatten=l
 ne: ∀ r∈R,r≠ []
 within: ∀ r∈R, ∀ i p q,r[i]? =some p→r[i+1]? =some q→b p q=false
 between: ∀ i r s p q,R[i]? =some r→R[i+1]? =some s→r.getLast?=some p→s.head?=some q→b p q=true
theorem RunsOk.nil (b:Int→Int→Bool):RunsOk b [] []:=⟨rfl,by simp,by simp,by simp⟩
theorem RunsOk.snoc {b:Int→Int→Bool} {l:List Int} {R:List (List Int)} (h:RunsOk b l R) (q:Int):RunsOk b (l++ [q]) (zj0 b R q):=by
 rcases List.eq_nil_or_concat R with rfl|⟨A,r,rfl⟩
 ·have hl:l= []:=by rw[← h.all];rfl
  subst hl
  refine⟨rfl,by simp[zj0],fun r hr i p q h1 h2=> ?_,fun i r s p q h1 h2=> ?_⟩
  ·simp[zj0] at hr;subst hr;simp at h2
  ·simp[zj0] at h2
 ·have hr:r≠ []:=h.ne r (by simp)
  rcases List.eq_nil_or_concat r with rfl|⟨r',p,rfl⟩
  ·exact absurd rfl hr
  simp only[List.concat_eq_append] at h ⊢
  rw[zfw]
  cases hb:b p q with
  |true=>
   rw[if_pos rfl]
   refine⟨by rw[List.flatten_append,h.all];simp,fun s hs=> ?_,fun s hs i x y h1 h2=> ?_,fun i s t x y h1 h2 h3 h4=> ?_⟩
   ·rcases List.mem_append.1 hs with hs|hs
    ·exact h.ne s hs
    ·simp at hs;subst hs;simp
   ·rcases List.mem_append.1 hs with hs|hs
    ·exact h.within s hs i x y h1 h2
    ·simp at hs;subst hs;simp at h2
   ·by_cases hi:i+1<(A++ [r'++ [p]]).length
    ·rw[List.getElem?_append_left (by omega)] at h1
     rw[List.getElem?_append_left hi] at h2
     exact h.between i s t x y h1 h2 h3 h4
    ·have hi':i+1=(A++ [r'++ [p]]).length:=by
      have:=(List.getElem?_eq_some_iff.1 h2).1
      simp at this hi ⊢;omega
     rw[hi'] at h2
     simp at h2
     subst h2
     have hia:i=A.length:=by simp at hi';omega
     subst hia
     simp at h1
     subst h1
     simp at h3 h4
     subst h3;subst h4
     exact hb
  |false=>
   rw[if_neg (by simp)]
   refine⟨by have:=h.all;simp at this ⊢;rw[← this];simp,fun s hs=> ?_,fun s hs i x y h1 h2=> ?_,fun i s t x y h1 h2 h3 h4=> ?_⟩
   ·rcases List.mem_append.1 hs with hs|hs
    ·exact h.ne s (by simp[hs])
    ·simp at hs;subst hs;simp
   ·rcases List.mem_append.1 hs with hs|hs
    ·exact h.within s (by simp[hs]) i x y h1 h2
    ·simp at hs;subst hs
     have e0: ∀ j:Nat,(r'++ [p,q])[j]? =((r'++ [p])++ [q])[j]? :=fun j=>by simp
     by_cases hi:i+1<(r'++ [p]).length
     ·refine h.within (r'++ [p]) (by simp) i x y ?_ ?_
      ·rw[e0] at h1
       rw[List.getElem?_append_left (l₁:=r'++ [p]) (by omega)] at h1;exact h1
      ·rw[e0] at h2
       rw[List.getElem?_append_left (l₁:=r'++ [p]) hi] at h2;exact h2
     ·have hi':i=r'.length:=by
       have:=(List.getElem?_eq_some_iff.1 h2).1
       simp at this hi;omega
      subst hi'
      simp at h1 h2
      subst h1;subst h2
      exact hb
   ·by_cases hi:i+1<A.length
    ·rw[List.getElem?_append_left (by omega)] at h1
     rw[List.getElem?_append_left hi] at h2
     exact h.between i s t x y (by rw[List.getElem?_append_left (by omega)];exact h1) (by rw[List.getElem?_append_left hi];exact h2) h3 h4
    ·have hi':i+1=A.length:=by
      have:=(List.getElem?_eq_some_iff.1 h2).1
      simp at this;omega
     rw[hi'] at h2
     rw[List.getElem?_append_left (by omega)] at h1
     simp at h2
     subst h2
     refine h.between i s (r'++ [p]) x y (by rw[List.getElem?_append_left (by omega)];exact h1) (by rw[hi'];simp) h3 ?_
     cases r'<;>simpa using h4
theorem zyh (b:Int→Int→Bool) (l:List Int):RunsOk b l (zbh b l):=by
 suffices h: ∀ (m l0:List Int) (R:List (List Int)),RunsOk b l0 R→RunsOk b (l0++m) (m.foldl (zj0 b) R) from by
  have:=h l [] [] (RunsOk.nil b)
  simpa [zbh] using this
 intro m
 induction m with
 |nil=>intro l0 R h;simpa using h
 |cons q m ih=>
  intro l0 R h
  have:=ih (l0++ [q]) _ (h.snoc q)
  simpa using this
theorem zmg {A B:Type} (R:List A) (g:A→B) (f:Int×List B→Option ((Int×List B) ⊕ List B)) (h: ∀ (k:Nat) (hk:k<R.length),f ((k:Int),(R.take k).map g)=some (.inl (((k+1:Nat):Int),(R.take k).map g++ [g R[k]])))
  (he:f ((R.length:Int),R.map g)=some (.inr (R.map g))):iter f (0, [])=some (R.map g):=by
 refine zi7 (zq (I:=fun s=> ∃ k:Nat,k≤R.length∧s=((k:Int),(R.take k).map g)) (Q:=fun r=>r=R.map g) (fun s=>(R.length - s.1).toNat) ?_ _ ⟨0,Nat.zero_le _,rfl⟩)
 rintro _ ⟨k,hk,rfl⟩
 by_cases hkn:k<R.length
 ·refine .inl ⟨_,h k hkn,⟨k+1,hkn, ?_⟩,by simp;omega⟩
  rw[List.take_succ_eq_append_getElem hkn,List.map_append];rfl
 ·have:k=R.length:=by omega
  subst this
  rw[List.take_length]
  exact .inr ⟨_,he,rfl⟩
theorem zo {A:Type} {l:List A} {k:Nat} (d:A) (h:k<l.length):l.getD k d=l[k]:=by simp[List.getD_eq_getElem?_getD,h]
theorem qG {A:Type} (l:List A) (k:Nat) (d:A) (h:k<l.length):l.take (k+1)=l.take k++ [l.getD k d]:=by
 rw[List.take_succ_eq_append_getElem h,zo d h]
theorem z1e {c v L k:List Int} (hv:v.length=c.length) (hL: ∀ p∈L,0≤p∧p<c.length) (hl:L.length≤100000) (hc:c.length≤100000):R.f72F (c,v,L,k)=some (zbh (zj9 c v) L):=by
 unfold R.f72F
 dsimp only
 have hg: ∀ i,i<L.length→0≤L.getD i 0∧L.getD i 0<(c.length:Int):=fun i hi=>by rw[zo 0 hi];exact hL _ (List.getElem_mem hi)
 refine zi7 (z4 (Q:=fun A=>A.map Prod.snd=zbh (zj9 c v) L) (zq (I:=fun(s:Int×Int×List (Bool×List Int))=> ∃ (f i:Nat) (A:List (Bool×List Int)),s=((f:Int),((i+1:Nat):Int),A)∧i≤L.length∧f≤i∧A.length≤i∧
   (i<L.length→zbh (zj9 c v) (L.take (i+1))=A.map Prod.snd++ [(L.take (i+1)).drop f])∧(i=L.length→zbh (zj9 c v) L=A.map Prod.snd)) (fun s=>(L.length+1 - s.2.1).toNat) ?_ _ ?_) fun A hA=>⟨_,rfl,by rw[← hA];rfl⟩)
 rotate_left
 ·refine⟨0,0, [],rfl,Nat.zero_le _,Nat.le_refl _,Nat.le_refl _,fun h=> ?_,fun h=> ?_⟩
  ·rw[qG L 0 0 h];rfl
  ·have:L= []:=List.eq_nil_of_length_eq_zero h.symm
   subst this;rfl
 rintro _ ⟨f,i,A,rfl,hi,hf,hA,h1,h2⟩
 dsimp only
 by_cases hil:i<L.length
 rotate_left
 ·right
  rw[if_neg (by rw[decide_eq_true_eq];omega)]
  exact⟨_,rfl,(h2 (by omega)).symm⟩
 left
 have hw:IntKind.i64.wrap (((i+1:Nat):Int) - 1)=(i:Int):=by rw[za (by omega) (by omega)];omega
 have hw2:IntKind.i64.wrap (((i+1:Nat):Int)+1)=((i+1+1:Nat):Int):=by rw[za (by omega) (by omega)];omega
 have hgi:=hg i hil
 have hseg:(L.take (i+1)).drop f=(L.take i).drop f++ [L.getD i 0]:=by
  rw[qG L i 0 hil,List.drop_append_of_le_length (by rw[List.length_take];omega)]
 have hr:=h1 hil
 simp (disch:=omega) only[if_pos,decide_eq_true_eq,hw,hw2,Int.toNat_natCast]
 by_cases hil2:i+1<L.length
 ·have hg2:=hg (i+1) hil2
  have hn:zbh (zj9 c v) (L.take (i+1+1))=zj0 (zj9 c v) (zbh (zj9 c v) (L.take (i+1))) (L.getD (i+1) 0):=by
   rw[qG L (i+1) 0 hil2,zk7]
  rw[hr,hseg,zfw] at hn
  have hseg2:(L.take (i+1+1)).drop f=(L.take i).drop f++ [L.getD i 0]++ [L.getD (i+1) 0]:=by
   rw[qG L (i+1) 0 hil2,List.drop_append_of_le_length (by rw[List.length_take];omega),hseg]
  have hseg3:(L.take (i+1+1)).drop (i+1)= [L.getD (i+1) 0]:=by
   rw[qG L (i+1) 0 hil2,List.drop_left' (by rw[List.length_take];omega)]
  simp (disch:=omega) only[if_pos]
  have hb: ∀ K:Bool×List (Bool×List Int)→Option ((Int×Int×List (Bool×List Int)) ⊕ List (Bool×List Int)),(Option.bind (if(v.getD (L.getD (i+1) 0).toNat 0==v.getD (L.getD i 0).toNat 0)=true then some (c.getD (L.getD i 0).toNat 0 !=10,A) else some (false,A)) K)=K (!zj9 c v (L.getD i 0) (L.getD (i+1) 0),A):=by
   intro K
   unfold zj9
   cases h:(v.getD (L.getD (i+1) 0).toNat 0==v.getD (L.getD i 0).toNat 0) with
   |true=>simp only[bne,h,if_true,Option.bind_some,Bool.not_true,Bool.false_or]
   |false=>simp only[bne,h,Bool.false_eq_true,if_false,Option.bind_some,Bool.not_false,Bool.true_or,Bool.not_true]
  rw[hb]
  cases hbr:zj9 c v (L.getD i 0) (L.getD (i+1) 0) with
  |false=>
   rw[hbr,if_neg (by simp)] at hn
   simp only[Bool.not_false,if_true]
   exact⟨_,rfl,⟨f,i+1,A,rfl,by omega,by omega,by omega,fun _=>by rw[hn,hseg2],fun h=>by omega⟩,by simp;omega⟩
  |true=>
   rw[hbr,if_pos rfl] at hn
   simp only[Bool.not_true,Bool.false_eq_true,if_false]
   rw[if_pos (by unfold zi;omega)]
   exact⟨_,rfl,⟨i+1,i+1,A++ [(false,(L.take (i+1)).drop f)],rfl,by omega,by omega,by simp;omega,fun _=>by rw[hn,hseg3,List.map_append,hseg];rfl,fun h=>by omega⟩,by simp;omega⟩
 ·have hil3:i+1=L.length:=by omega
  simp (disch:=omega) only[if_neg,if_pos,Option.bind_some,Bool.false_eq_true,not_false_eq_true,if_false]
  rw[if_pos (by unfold zi;omega)]
  exact⟨_,rfl,⟨i+1,i+1,A++ [(false,(L.take (i+1)).drop f)],rfl,by omega,by omega,by simp;omega,fun h=>by omega,fun h=>by
   rw[hil3,List.take_length] at hr
   rw[hr,List.map_append,hil3,List.take_length];rfl⟩,by simp;omega⟩
section
variable (nx:Nat→Option Nat)
def qQ (k:Nat):Option Nat:=(List.range k).find? fun i=>nx i==some k
def xk (k:Nat):Nat:=((List.range k).filter fun i=>(qQ nx i).isNone).length
theorem ziq {k i:Nat} (h:qQ nx k=some i):i<k∧nx i=some k:=by
 unfold qQ at h
 have h1:=List.mem_of_find?_eq_some h
 have h2:=List.find?_some h
 exact⟨by simpa using h1,by simpa using h2⟩
def zi6 (k:Nat):Nat:=match h:qQ nx k with
 |some i=>zi6 i
 |none=>xk nx k
termination_by k
decreasing_by exact(ziq nx h).1
variable {nx} {N:Nat}
theorem zaj {k:Nat} (h:qQ nx k=none):zi6 nx k=xk nx k:=by
 rw[zi6]
 split
 ·rename_i i hi;rw[h] at hi;cases hi
 ·rfl
theorem zoz {k i:Nat} (h:qQ nx k=some i):zi6 nx k=zi6 nx i:=by
 rw[zi6]
 split
 ·rename_i j hj;rw[h] at hj;cases hj;rfl
 ·rename_i hj;rw[h] at hj;cases hj
theorem zaf (nx:Nat→Option Nat) (k:Nat):xk nx (k+1)=xk nx k+if(qQ nx k).isNone=true then 1 else 0:=by
 unfold xk
 rw[List.range_succ,List.filter_append,List.length_append]
 cases h:(qQ nx k).isNone with
 |true=>simp[List.filter_cons,h]
 |false=>simp[List.filter_cons,h]
theorem zk2 {i k:Nat} (h:i≤k):xk nx i≤xk nx k:=by
 induction k with
 |zero=>have:i=0:=by omega
        subst this;exact Nat.le_refl _
 |succ k ih=>
  by_cases hk:i=k+1
  ·subst hk;exact Nat.le_refl _
  ·rw[zaf];have:=ih (by omega);omega
theorem zwl (nx:Nat→Option Nat) (k:Nat):zi6 nx k<xk nx (k+1):=by
 induction k using Nat.strongRecOn with
 |ind k ih=>
  cases hp:qQ nx k with
  |none=>rw[zaj hp,zaf,hp];simp
  |some i=>
   have hi:=(ziq nx hp).1
   rw[zoz hp]
   exact Nat.lt_of_lt_of_le (ih i hi) (zk2 (by omega))
def zjv (nx:Nat→Option Nat) (k s:Nat):List Nat:=(List.range k).filter fun i=>zi6 nx i==s
theorem zih (k s:Nat):zjv nx (k+1) s=zjv nx k s++if(zi6 nx k==s)=true then [k] else []:=by
 unfold zjv
 rw[List.range_succ,List.filter_append]
 congr 1
 simp only[List.filter_cons,List.filter_nil]
theorem z0e {k d s:Nat} (h: ∀ x,k≤x→x<k+d→zi6 nx x≠s):zjv nx (k+d) s=zjv nx k s:=by
 induction d with
 |zero=>rfl
 |succ d ih=>
  rw[← Nat.add_assoc,zih,ih (fun x h1 h2=>h x h1 (by omega)),if_neg (by simpa using h (k+d) (by omega) (by omega)),List.append_nil]
theorem zvq {k:Nat} (hp:qQ nx k=none):zjv nx k (zi6 nx k)= []:=by
 have:=z0e (nx:=nx) (k:=0) (d:=k) (s:=zi6 nx k) (fun x _ hx he=>by
  have h1:=zwl nx x
  have h2:xk nx (x+1)≤xk nx k:=zk2 (by omega)
  rw[zaj hp] at he
  omega)
 rw[Nat.zero_add] at this
 exact this
theorem zs4 (k:Nat):((List.range k).filter fun i=>(qQ nx i).isNone).map (xk nx)=List.range (xk nx k):=by
 induction k with
 |zero=>rfl
 |succ k ih=>
  rw[List.range_succ,List.filter_append,List.map_append,ih,zaf]
  cases hp:(qQ nx k).isNone with
  |true=>rw[if_pos rfl,List.range_succ];simp[List.filter_cons,hp]
  |false=>simp[List.filter_cons,hp]
end
def zc0 (x:Int):Int:=if x % 2=1 then 1 else 0
theorem zd6 (x:Int):R.f104F x=some (zc0 x):=by
 unfold R.f104F zc0
 have hb:(BitVec.toNat (BitVec.ofInt (IntKind.bits IntKind.i64) x &&& BitVec.ofInt (IntKind.bits IntKind.i64) 1):Int)=x % 2:=by
  show((BitVec.toNat (BitVec.ofInt 64 x &&& BitVec.ofInt 64 1):Nat):Int)=x % 2
  have h1:BitVec.ofInt 64 1=1#64:=rfl
  rw[h1,BitVec.toNat_and]
  have h2:(1#64).toNat=1:=rfl
  rw[h2,Nat.and_one_is_mod,BitVec.toNat_ofInt]
  omega
 rw[hb]
 rcases Int.emod_two_eq x with h|h
 ·rw[h];rfl
 ·rw[h];rfl
theorem zwc (c:List Int) (k d:Nat): ∃ t,sN c (k+d)=sN c k++t:=by
 induction d with
 |zero=>exact⟨[],by simp⟩
 |succ d ih=>
  obtain⟨t,h⟩:=ih
  rw[← Nat.add_assoc,ziz,h]
  split
  ·exact⟨t,rfl⟩
  ·exact⟨t++ [((k+d:Nat):Int)],by simp⟩
def zv6 (c:List Int) (p:Int):Nat:=(sN c p.toNat).length
theorem zyi {c:List Int} {p:Int} (h:p∈seenS c):zv6 c p<(seenS c).length∧(seenS c).getD (zv6 c p) 0=p:=by
 obtain⟨j,rfl,h1,h2⟩:=xG h
 obtain⟨d,hd⟩: ∃ d,c.length=j+1+d:=⟨c.length - (j+1),by omega⟩
 obtain⟨t,ht⟩:=zwc c (j+1) d
 have hs:seenS c=sN c j++ [(j:Int)]++t:=by
  unfold seenS
  rw[hd,ht,ziz,if_neg (by rw[h2];simp)]
 unfold zv6
 rw[Int.toNat_natCast,hs]
 refine⟨by simp, ?_⟩
 rw[List.getD_eq_getElem?_getD,List.append_assoc,List.getElem?_append_right (Nat.le_refl _)]
 simp
theorem zx8 {c:List Int} {p:Int} (h:p∈seenS c):(zgo c).getD p.toNat 0=(zv6 c p:Int):=by
 obtain⟨j,rfl,h1,h2⟩:=xG h
 rw[Int.toNat_natCast,zo 0 (by simp[zgo];exact h1)]
 simp only[zgo,List.getElem_map,List.getElem_range,h2,Bool.false_eq_true,if_false,zv6,Int.toNat_natCast]
def z2m (c v:List Int) (p d base:Int):Int:=
 if(zv6 c p:Int)+d<0∨(zv6 c p:Int)+d≥((seenS c).length:Int) then base else v.getD ((seenS c).getD ((zv6 c p:Int)+d).toNat 0).toNat 0
theorem zgx {c v:List Int} (hc:c.length≤100000) (hv:v.length=c.length) {p d base:Int} (hp:p∈seenS c) (hd1: -1≤d) (hd2:d≤1):R.f103F ((c,v,seenS c,zgo c),p,d,base)=some (z2m c v p d base):=by
 unfold R.f103F z2m
 dsimp only
 obtain⟨j,hj,h1,h2⟩:=xG hp
 have hrl:(zgo c).length=c.length:=by simp[zgo]
 have hsl:(seenS c).length≤c.length:=zsa _ _
 obtain⟨h3,_⟩:=zyi hp
 rw[if_pos (by omega),zx8 hp,za (by omega) (by omega)]
 by_cases ha:(zv6 c p:Int)+d<0
 ·rw[if_pos (by rw[decide_eq_true_eq];exact ha),if_pos (Or.inl ha)]
  rfl
 ·rw[if_neg (by rw[decide_eq_true_eq];exact ha)]
  simp only[Option.bind_some,decide_eq_true_eq]
  by_cases hb:(zv6 c p:Int)+d≥((seenS c).length:Int)
  ·rw[if_pos hb,if_pos (Or.inr hb)]
  ·have hm:(seenS c).getD ((zv6 c p:Int)+d).toNat 0∈seenS c:=by rw[zo 0 (by omega)];exact List.getElem_mem _
   obtain⟨j2,hj2,h12,_⟩:=xG hm
   rw[if_neg hb,if_pos (by omega),if_pos (by omega),if_neg (by omega)]
def zwi (c v at_:List Int) (base:Int):List Int×Int×Int×Int:=
 (at_,v.getD (at_.getD 0 0).toNat 0,zc0 (zif (v.getD (at_.getD 0 0).toNat 0) (z2m c v (at_.getD 0 0) (-1) base)),
  zc0 (zif (v.getD (at_.getD (at_.length - 1) 0).toNat 0) (if c.getD (at_.getD (at_.length - 1) 0).toNat 0≠10∧opens (c.getD (at_.getD (at_.length - 1) 0).toNat 0)=false then z2m c v (at_.getD (at_.length - 1) 0) 1 base else base)))
theorem zz2 {c v at_:List Int} {base:Int} (hc:c.length≤100000) (hv:v.length=c.length) (h0:at_≠ []) (hl:at_.length≤100000) (hs: ∀ p∈at_,p∈seenS c):R.f73F ((c,v,seenS c,zgo c),at_,base)=some (zwi c v at_ base):=by
 unfold R.f73F zwi
 dsimp only
 have hp:0<at_.length:=zay h0
 have hw:IntKind.i64.wrap ((at_.length:Int) - 1)=((at_.length - 1:Nat):Int):=by rw[za (by omega) (by omega)];omega
 have hf:at_.getD 0 0∈seenS c:=by rw[zo 0 hp];exact hs _ (List.getElem_mem _)
 have hla:at_.getD (at_.length - 1) 0∈seenS c:=by rw[zo 0 (by omega)];exact hs _ (List.getElem_mem _)
 have hz:Int.toNat (0:Int)=0:=rfl
 simp only[hw,Int.toNat_natCast,hz]
 generalize at_.getD 0 0=f at*
 generalize hgl:at_.getD (at_.length - 1) 0=l at*
 obtain⟨jf,hjf,hf1,_⟩:=xG hf
 obtain⟨jl,hjl,hl1,_⟩:=xG hla
 simp (disch:=omega) only[if_pos,zf8,Option.bind_some]
 cases h10:(c.getD l.toNat 0 !=10) with
 |false=>
  have h10':c.getD l.toNat 0=10:=by simpa using h10
  simp only[Bool.false_eq_true,if_false,Option.bind_some]
  rw[zgx hc hv hf (by omega) (by omega),if_neg (by rw[h10'];simp)]
  simp only[Option.bind_some,zd6]
 |true=>
  have h10':c.getD l.toNat 0≠10:=by simpa using h10
  simp only[if_true,Option.bind_some]
  cases ho:opens (c.getD l.toNat 0) with
  |true=>
   simp only[Bool.not_true,Bool.false_eq_true,if_false,Option.bind_some]
   rw[zgx hc hv hf (by omega) (by omega),if_neg (by simp)]
   simp only[Option.bind_some,zd6]
  |false=>
   simp only[Bool.not_false,if_true]
   rw[zgx hc hv hla (by omega) (by omega)]
   simp only[Option.bind_some]
   rw[zgx hc hv hf (by omega) (by omega),if_pos ⟨h10',trivial⟩]
   simp only[Option.bind_some,zd6]
theorem zkj {A:Type} {p q:A→Bool}: ∀ {l:List A},(∀ x∈l,p x=q x)→l.find? p=l.find? q
 | [],_=>rfl
 |a::l,h=>by
  rw[List.find?_cons,List.find?_cons,h a (by simp),zkj fun x hx=>h x (by simp[hx])]
theorem zvs {kk:IntKind} {V:Ty} (k p:Int) (v:V.den) (es:List (Int×V.den)):zem (K:= .int kk) (V:=V) (zqb (K:= .int kk) (V:=V) es k v) p=if p=k then some v else zem (K:= .int kk) (V:=V) es p:=by
 induction es with
 |nil=>
  show(bif (p==k) then some v else none)=_
  by_cases h:p=k
  ·subst h;simp
  ·have:(p==k)=false:=by simpa using h
   rw[this,if_neg h];rfl
 |cons e l ih=>
  obtain⟨a,b⟩:=e
  show zem (K:= .int kk) (V:=V) (bif (k==a) then(a,v)::l else(a,b)::zqb (K:= .int kk) (V:=V) l k v) p=if p=k then some v else(bif (p==a) then some b else zem (K:= .int kk) (V:=V) l p)
  by_cases h:k=a
  ·subst h
   rw[beq_self_eq_true]
   show(bif (p==k) then some v else zem (K:= .int kk) (V:=V) l p)=_
   by_cases h2:p=k
   ·subst h2;simp
   ·have:(p==k)=false:=by simpa using h2
    rw[this,if_neg h2];rfl
  ·have hka:(k==a)=false:=by simpa using h
   rw[hka]
   show(bif (p==a) then some b else zem (K:= .int kk) (V:=V) (zqb (K:= .int kk) (V:=V) l k v) p)=_
   by_cases h2:p=a
   ·subst h2
    have: ¬ p=k:=fun e=>h e.symm
    rw[beq_self_eq_true,if_neg this];rfl
   ·have hpa:(p==a)=false:=by simpa using h2
    rw[hpa]
    exact ih
def zo7 (R:List (List Int)) (k:Nat):Int:=(R.getD k []).getD 0 0
def ztc (R:List (List Int)) (k:Nat):Int:=(R.getD k []).getD ((R.getD k []).length - 1) 0
structure RF (c:List Int) (R:List (List Int)):Prop where
 ne: ∀ r∈R,r≠ []
 mem: ∀ r∈R, ∀ p∈r,p∈seenS c
 asc:R.flatten.Pairwise (· < ·)
 small:R.flatten.length≤c.length
theorem zm1 (c v:List Int):RF c (zjy c v):=by
 have h:=zyh (zj9 c v) (seenS c)
 refine⟨h.ne,fun r hr p hp=> ?_, ?_, ?_⟩
 ·have:p∈(zbh (zj9 c v) (seenS c)).flatten:=List.mem_flatten.2 ⟨r,hr,hp⟩
  rwa [h.all] at this
 ·show(zbh (zj9 c v) (seenS c)).flatten.Pairwise _
  rw[h.all];exact z2e _ _
 ·show(zbh (zj9 c v) (seenS c)).flatten.length≤_
  rw[h.all];exact zsa _ _
section
variable {c:List Int} {R:List (List Int)} (h:RF c R)
include h
theorem RF.run {k:Nat} (hk:k<R.length):R.getD k []∈R∧R.getD k []≠ []∧0<(R.getD k []).length:=by
 rw[zo [] hk]
 have h1:=List.getElem_mem hk
 exact⟨h1,h.ne _ h1,zay (h.ne _ h1)⟩
theorem RF.fst_mem {k:Nat} (hk:k<R.length):zo7 R k∈R.getD k []:=by
 obtain⟨h1,h2,h3⟩:=h.run hk
 unfold zo7
 rw[zo 0 h3];exact List.getElem_mem _
theorem RF.lst_mem {k:Nat} (hk:k<R.length):ztc R k∈R.getD k []:=by
 obtain⟨h1,h2,h3⟩:=h.run hk
 unfold ztc
 rw[zo 0 (by omega)];exact List.getElem_mem _
theorem RF.lst_seen {k:Nat} (hk:k<R.length):ztc R k∈seenS c:=h.mem _ (h.run hk).1 _ (h.lst_mem hk)
theorem RF.apart {i j:Nat} (hij:i<j) (hj:j<R.length): ∀ p∈R.getD i [], ∀ q∈R.getD j [],p<q:=by
 have:=(List.pairwise_flatten.1 h.asc).2
 rw[zo [] (by omega),zo [] hj]
 exact List.pairwise_iff_getElem.1 this i j (by omega) hj hij
theorem RF.fst_le {k:Nat} (hk:k<R.length):zo7 R k≤ztc R k:=by
 obtain⟨h1,h2,h3⟩:=h.run hk
 have hp:=(List.pairwise_flatten.1 h.asc).1 _ h1
 unfold zo7 ztc
 rw[zo 0 h3,zo 0 (by omega)]
 by_cases h0:(R.getD k []).length - 1=0
 ·simp only[h0];omega
 ·have:=List.pairwise_iff_getElem.1 hp 0 ((R.getD k []).length - 1) h3 (by omega) (by omega)
  omega
theorem RF.lst_lt {i j:Nat} (hij:i<j) (hj:j<R.length):ztc R i<zo7 R j:=h.apart hij hj _ (h.lst_mem (by omega)) _ (h.fst_mem hj)
theorem RF.fst_inj {i j:Nat} (hi:i<R.length) (hj:j<R.length) (he:zo7 R i=zo7 R j):i=j:=by
 rcases Nat.lt_trichotomy i j with h1|h1|h1
 ·have:=h.lst_lt h1 hj;have:=h.fst_le hi;omega
 ·exact h1
 ·have:=h.lst_lt h1 hi;have:=h.fst_le hj;omega
theorem RF.lst_inj {i j:Nat} (hi:i<R.length) (hj:j<R.length) (he:ztc R i=ztc R j):i=j:=by
 rcases Nat.lt_trichotomy i j with h1|h1|h1
 ·have:=h.lst_lt h1 hj;have:=h.fst_le hj;omega
 ·exact h1
 ·have:=h.lst_lt h1 hi;have:=h.fst_le hi;omega
theorem RF.count:R.length≤c.length:=by
 refine Nat.le_trans ?_ h.small
 have: ∀ (S:List (List Int)),(∀ r∈S,r≠ [])→S.length≤S.flatten.length:=by
  intro S
  induction S with
  |nil=>simp
  |cons r S ih=>
   intro hS
   have h1:=zay (hS r (by simp))
   have h2:=ih (fun r hr=>hS r (by simp[hr]))
   simp at h2 ⊢
   omega
 exact this R h.ne
omit h
def zqr (c:List Int) (R:List (List Int)) (k:Nat):Option Int:=
 if opens (c.getD (ztc R k).toNat 0)=true∧0≤(jp c).getD (ztc R k).toNat 0 then some ((jp c).getD (ztc R k).toNat 0) else none
def nxR (c:List Int) (R:List (List Int)) (k:Nat):Option Nat:=
 if k<R.length then(match zqr c R k with
  |none=>none
  |some p=>(List.range R.length).find? fun j=>zo7 R j==p) else none
theorem zie {c:List Int} {j:Nat} (hj:j<c.length) (ho:opens (c.getD j 0)=true):(jp c).getD j 0=endOf c j:=by
 unfold jp
 rw[zo 0 (by simpa using hj)]
 simp only[List.getElem_map,List.getElem_range,ho,if_true]
include h
theorem RF.tgt {k:Nat} (hk:k<R.length) {p:Int} (ht:zqr c R k=some p): ∃ j:Nat,ztc R k=j∧j<c.length∧opens (c.getD j 0)=true∧endOf c j=p∧(j:Int)<p∧p<c.length:=by
 obtain⟨j,hj,h1,_⟩:=xG (h.lst_seen hk)
 unfold zqr at ht
 rw[hj] at ht
 simp only[Int.toNat_natCast] at ht
 split at ht
 case isFalse=>cases ht
 case isTrue hc=>
  have he:=zie h1 hc.1
  rw[he] at ht hc
  simp only[Option.some.injEq] at ht
  subst ht
  rcases jH c j with h2|h2
  ·have:=hc.2;omega
  ·exact⟨j,hj,h1,hc.1,rfl,h2.1,h2.2⟩
theorem RF.tgt_inj {i k:Nat} (hi:i<R.length) (hk:k<R.length) {p:Int} (h1:zqr c R i=some p) (h2:zqr c R k=some p):i=k:=by
 obtain⟨a,a1,a2,a3,a4,a5,_⟩:=h.tgt hi h1
 obtain⟨b,b1,b2,b3,b4,_,_⟩:=h.tgt hk h2
 have:a=b:=by
  obtain⟨q,rfl⟩:=Int.eq_ofNat_of_zero_le (show 0≤p by omega)
  rw[zo 0 a2] at a3
  rw[zo 0 b2] at b3
  exact znv a2 b2 a3 b3 a4 b4
 exact h.lst_inj hi hk (by rw[a1,b1,this])
theorem RF.nx_iff {i k:Nat} (hi:i<R.length) (hk:k<R.length):nxR c R i=some k↔zqr c R i=some (zo7 R k):=by
 unfold nxR
 rw[if_pos hi]
 constructor
 ·intro hn
  split at hn
  ·cases hn
  ·rename_i p hp
   have:=List.find?_some hn
   rw[beq_iff_eq] at this
   rw[hp,this]
 ·intro ht
  rw[ht]
  simp only
  cases hf:(List.range R.length).find? fun j=>zo7 R j==zo7 R k with
  |none=>
   have:=List.find?_eq_none.1 hf k (by simpa using hk)
   simp at this
  |some j=>
   have h1:=List.find?_some hf
   have h2:=List.mem_of_find?_eq_some hf
   rw[beq_iff_eq] at h1
   rw[h.fst_inj (by simpa using h2) hk h1]
theorem RF.prev_find {k:Nat} (hk:k<R.length):(List.range k).find? (fun i=>zqr c R i==some (zo7 R k))=qQ (nxR c R) k:=by
 unfold qQ
 apply zkj
 intro i hi
 have hik:i<k:=by simpa using hi
 rw[Bool.eq_iff_iff,beq_iff_eq,beq_iff_eq]
 exact(h.nx_iff (by omega) hk).symm
end
def wS (c:List Int) (R:List (List Int)) (k:Nat) (p:Int):Option Int:=((List.range k).find? fun i=>zqr c R i==some p).map fun i=>(zi6 (nxR c R) i:Int)
theorem RF.w_succ {c:List Int} {R:List (List Int)} (h:RF c R) {k:Nat} (hk:k<R.length) (p:Int):wS c R (k+1) p=if zqr c R k=some p then some (zi6 (nxR c R) k:Int) else wS c R k p:=by
 unfold wS
 rw[List.range_succ,List.find?_append]
 cases hf:(List.range k).find? fun i=>zqr c R i==some p with
 |none=>
  rw[Option.none_or]
  by_cases ht:zqr c R k=some p
  ·rw[if_pos ht,List.find?_cons_of_pos (by simpa using ht)];rfl
  ·rw[if_neg ht,List.find?_cons_of_neg (by simpa using ht)];rfl
 |some i=>
  rw[Option.some_or]
  have h1:=List.find?_some hf
  have h2:=List.mem_of_find?_eq_some hf
  rw[beq_iff_eq] at h1
  have hik:i<k:=by simpa using h2
  rw[if_neg (fun ht=>by have:=h.tgt_inj (by omega) hk h1 ht;omega)]
def zls (R:List (List Int)) (l:List Nat):List Int:=l.flatMap fun i=>R.getD i []
theorem zw5 (R:List (List Int)) (k:Nat) (hk:k≤R.length):zls R (List.range k)=(R.take k).flatten:=by
 induction k with
 |zero=>rfl
 |succ k ih=>
  have:=ih (by omega)
  unfold zls at this ⊢
  rw[List.range_succ,List.flatMap_append,this,qG R k [] (by omega),List.flatten_append]
  simp
theorem zhh (R:List (List Int)) (q:Nat→Bool) (l:List Nat):(zls R (l.filter q)).length≤(zls R l).length:=by
 unfold zls
 induction l with
 |nil=>simp
 |cons x l ih=>
  rw[List.filter_cons]
  split
  ·simp only[List.flatMap_cons,List.length_append];omega
  ·simp only[List.flatMap_cons,List.length_append];omega
theorem zmk {c:List Int} {R:List (List Int)} (h:RF c R) (k s:Nat) (hk:k≤R.length):(zls R (zjv (nxR c R) k s)).length≤c.length:=by
 refine Nat.le_trans (zhh R _ _) ?_
 rw[zw5 R k hk]
 refine Nat.le_trans ?_ h.small
 have:(R.take k).flatten.length+(R.drop k).flatten.length=R.flatten.length:=by
  rw[← List.length_append, ← List.flatten_append,List.take_append_drop]
 omega
theorem zol {c:List Int} {R:List (List Int)} (h:RF c R) {k s:Nat} (hk:k≤R.length): ∀ p∈zls R (zjv (nxR c R) k s),p∈seenS c:=by
 intro p hp
 unfold zls at hp
 obtain⟨i,h1,h2⟩:=List.mem_flatMap.1 hp
 have hi:i<k:=by
  unfold zjv at h1
  simpa using(List.mem_filter.1 h1).1
 exact h.mem _ (h.run (by omega)).1 _ h2
theorem zvr {c:List Int} {R:List (List Int)} (h:RF c R) {s:Nat} (hs:s<xk (nxR c R) R.length):zls R (zjv (nxR c R) R.length s)≠ []:=by
 have h1:s∈List.range (xk (nxR c R) R.length):=by simpa using hs
 rw[← zs4] at h1
 obtain⟨i,h2,h3⟩:=List.mem_map.1 h1
 simp only[List.mem_filter,List.mem_range,Option.isNone_iff_eq_none] at h2
 have h4:=zaj h2.2
 intro he
 have h5:i∈zjv (nxR c R) R.length s:=by
  unfold zjv
  simp only[List.mem_filter,List.mem_range,beq_iff_eq]
  exact⟨h2.1,by rw[h4,h3]⟩
 have h6:zo7 R i∈zls R (zjv (nxR c R) R.length s):=List.mem_flatMap.2 ⟨i,h5,h.fst_mem h2.1⟩
 rw[he] at h6;simp at h6
def zjz (c v:List Int) (base:Int):List (List Int×Int×Int×Int):=
 (List.range (xk (nxR c (zjy c v)) (zjy c v).length)).map fun s=>zwi c v (zls (zjy c v) (zjv (nxR c (zjy c v)) (zjy c v).length s)) base
theorem zvg {A B C:Type} (R:List A) (z:C) (g:A→B) (f:Int×C×List B→Option ((Int×C×List B) ⊕ List B)) (h: ∀ (k:Nat) (hk:k<R.length),f ((k:Int),z,(R.take k).map g)=some (.inl (((k+1:Nat):Int),z,(R.take k).map g++ [g R[k]])))
  (he:f ((R.length:Int),z,R.map g)=some (.inr (R.map g))):iter f (0,z, [])=some (R.map g):=by
 refine zi7 (zq (I:=fun s=> ∃ k:Nat,k≤R.length∧s=((k:Int),z,(R.take k).map g)) (Q:=fun r=>r=R.map g) (fun s=>(R.length - s.1).toNat) ?_ _ ⟨0,Nat.zero_le _,rfl⟩)
 rintro _ ⟨k,hk,rfl⟩
 by_cases hkn:k<R.length
 ·refine .inl ⟨_,h k hkn,⟨k+1,hkn, ?_⟩,by simp;omega⟩
  rw[List.take_succ_eq_append_getElem hkn,List.map_append];rfl
 ·have:k=R.length:=by omega
  subst this
  rw[List.take_length]
  exact .inr ⟨_,he,rfl⟩
def zgt (c:List Int) (R:List (List Int)) (m k:Nat):List (Bool×List Int):=(List.range (xk (nxR c R) m)).map fun s=>(true,zls R (zjv (nxR c R) k s))
theorem zqy {c:List Int} {R:List (List Int)} {m k s:Nat} (h:s<xk (nxR c R) m):(zgt c R m k).getD s (false, [])=(true,zls R (zjv (nxR c R) k s)):=by
 unfold zgt
 rw[zo _ (by simpa using h)]
 simp
theorem zt4 {c:List Int} {R:List (List Int)} {k:Nat} (hp:qQ (nxR c R) k=none):zgt c R k k++ [(true, [])]=zgt c R (k+1) k:=by
 unfold zgt
 rw[zaf,hp]
 simp only[Option.isNone_none,if_true]
 rw[List.range_succ,List.map_append,List.map_singleton]
 have:=zvq (nx:=nxR c R) hp
 rw[zaj hp] at this
 rw[this];rfl
theorem zt5 {c:List Int} {R:List (List Int)} {k i:Nat} (hp:qQ (nxR c R) k=some i):zgt c R k k=zgt c R (k+1) k:=by
 unfold zgt
 rw[zaf,hp]
 simp
theorem zw2 {c:List Int} {R:List (List Int)} (k:Nat):(zgt c R (k+1) k).set (zi6 (nxR c R) k) (true,zls R (zjv (nxR c R) k (zi6 (nxR c R) k))++R.getD k [])=zgt c R (k+1) (k+1):=by
 unfold zgt
 apply List.ext_getElem
 ·simp
 ·intro n h1 h2
  rw[List.getElem_set]
  split
  ·rename_i hn
   subst hn
   simp only[List.getElem_map,List.getElem_range]
   rw[zih,if_pos (by simp)]
   simp[zls]
  ·rename_i hn
   simp only[List.getElem_map,List.getElem_range]
   rw[zih,if_neg (by simpa using hn),List.append_nil]
theorem z07 {c v:List Int} {base:Int} (hc:c.length≤100000):R.f48F (c,v,base)=some (if c.length=v.length then zjz c v base else []):=by
 unfold R.f48F
 dsimp only
 by_cases hcv:c.length=v.length
 rotate_left
 ·rw[if_pos (by simp;omega),if_neg hcv]
 rw[if_neg (by simp;omega),if_pos hcv,z1d hc,zyz hc]
 simp only[Option.bind_some]
 have hsl:(seenS c).length≤100000:=Nat.le_trans (zsa _ _) hc
 rw[z1e hcv.symm (fun p hp=>by obtain⟨j,rfl,h1,_⟩:=xG hp;omega) hsl hc]
 simp only[Option.bind_some]
 have hR:RF c (zbh (zj9 c v) (seenS c)):=zm1 c v
 unfold zjz zjy
 generalize hRe:zbh (zj9 c v) (seenS c)=R at*
 have hcount:=hR.count
 have hml:(jp c).length=c.length:=by simp[jp]
 have second: ∀ x,x=zgt c R R.length R.length→(Option.bind (iter (fun(s5:Int×List (Bool×List Int)×List (List Int×Int×Int×Int))=>
   if decide (s5.1<(x.length:Int))=true then
    if 0≤s5.1∧s5.1<(s5.2.1.length:Int) then
     Option.bind (Go.Sx.R.f73F ((c,v,seenS c,zgo c),(s5.2.1.getD s5.1.toNat (false, [])).2,base)) fun v6=>
      if zi (s5.2.2.length+1) 48 then some (Sum.inl (IntKind.i64.wrap (s5.1+1),s5.2.1,s5.2.2++ [v6])) else none
    else none
   else some (Sum.inr s5.2.2)) (0,x, [])) fun v5=>some v5)=some ((List.range (xk (nxR c R) R.length)).map fun s=>zwi c v (zls R (zjv (nxR c R) R.length s)) base):=by
  rintro _ rfl
  have hlen:(zgt c R R.length R.length).length=xk (nxR c R) R.length:=by simp[zgt]
  have hrk:xk (nxR c R) R.length≤R.length:=by unfold xk;exact Nat.le_trans (List.length_filter_le _ _) (by simp)
  rw[zvg (List.range (xk (nxR c R) R.length)) (zgt c R R.length R.length) (fun s=>zwi c v (zls R (zjv (nxR c R) R.length s)) base)]
  ·rfl
  ·intro k hk
   have hk':k<xk (nxR c R) R.length:=by simpa using hk
   have hw:IntKind.i64.wrap ((k:Int)+1)=((k+1:Nat):Int):=by rw[za (by omega) (by omega)];omega
   have h1:=zmk hR R.length k (Nat.le_refl _)
   dsimp only
   simp (disch:=omega) only[if_pos,decide_eq_true_eq,hlen,Int.toNat_natCast,zqy hk',hw]
   rw[zz2 hc hcv.symm (zvr hR hk') (by omega) (zol hR (Nat.le_refl _))]
   simp only[Option.bind_some]
   rw[if_pos (by unfold zi;simp;omega)]
   simp
  ·dsimp only
   rw[if_neg (by rw[decide_eq_true_eq,hlen];simp)]
 refine zi7 (z4 (Q:=fun e=>e=zgt c R R.length R.length) ?_ fun e he=>⟨_,second e he,rfl⟩)
 clear second
 refine zq (I:=fun(s:Int×List (Int×Int)×List (Bool×List Int))=> ∃ (k:Nat) (W:List (Int×Int)),k≤R.length∧s=((k:Int),W,zgt c R k k)∧ ∀ p,zem (K:= .int .i64) (V:= .int .i64) W p=wS c R k p) (fun s=>(R.length - s.1).toNat) ?_ _ ⟨0, [],Nat.zero_le _,rfl,fun p=>rfl⟩
 rintro _ ⟨k,W,hk,rfl,hW⟩
 by_cases hkl:k<R.length
 rotate_left
 ·have:k=R.length:=by omega
  subst this
  right
  dsimp only
  rw[if_neg (by rw[decide_eq_true_eq];omega)]
  exact⟨_,rfl,rfl⟩
 left
 obtain⟨hr1,hr2,hr3⟩:=hR.run hkl
 have hrl:(R.getD k []).length≤c.length:=by
  have h1:(R.getD k []).length≤R.flatten.length:=by
   rw[List.length_flatten]
   exact zkp hr1
  have:=hR.small;omega
 have hw:IntKind.i64.wrap ((k:Int)+1)=((k+1:Nat):Int):=by rw[za (by omega) (by omega)];omega
 have hwl:IntKind.i64.wrap (((R.getD k []).length:Int) - 1)=(((R.getD k []).length - 1:Nat):Int):=by rw[za (by omega) (by omega)];omega
 have hrk:xk (nxR c R) k≤k:=by unfold xk;exact Nat.le_trans (List.length_filter_le _ _) (by simp)
 have hrk1:xk (nxR c R) (k+1)≤k+1:=by unfold xk;exact Nat.le_trans (List.length_filter_le _ _) (by simp)
 have hal: ∀ m j,(zgt c R m j).length=xk (nxR c R) m:=fun m j=>by simp[zgt]
 have hfst:(R.getD k []).getD 0 0=zo7 R k:=rfl
 have hlst:(R.getD k []).getD ((R.getD k []).length - 1) 0=ztc R k:=rfl
 have hz:Int.toNat (0:Int)=0:=rfl
 have hget:zp9 (.int .i64) (.int .i64) W (zo7 R k)=(qQ (nxR c R) k).map fun i=>(zi6 (nxR c R) i:Int):=by
  show zem (K:= .int .i64) (V:= .int .i64) W (zo7 R k)=_
  rw[hW]
  unfold wS
  rw[hR.prev_find hkl]
 have hjoin: ∀ (T:Type) (K:Int×List (Int×Int)×List (Bool×List Int)→Option T),
   (Option.bind (if(!((qQ (nxR c R) k).map fun i=>(zi6 (nxR c R) i:Int)).isSome)=true then
    if zi ((zgt c R k k).length+1) 24 then some (((zgt c R k k).length:Int),W,zgt c R k k++ [(true, [])]) else none
   else some (Option.getD ((qQ (nxR c R) k).map fun i=>(zi6 (nxR c R) i:Int)) 0,W,zgt c R k k)) K)=K ((zi6 (nxR c R) k:Int),W,zgt c R (k+1) k):=by
  intro T K
  cases hp:qQ (nxR c R) k with
  |none=>
   simp only[Option.map_none,Option.isSome_none,Bool.not_false,if_true]
   rw[if_pos (by unfold zi;rw[hal];omega),zt4 hp,hal,zaj hp];rfl
  |some i=>
   simp only[Option.map_some,Option.isSome_some,Bool.not_true,Bool.false_eq_true,if_false,Option.getD_some]
   rw[zoz hp,zt5 hp];rfl
 have hsx:=zwl (nxR c R) k
 have hcl:=zmk hR k (zi6 (nxR c R) k) (by omega)
 obtain⟨j,hj,hj1,_⟩:=xG (hR.lst_seen hkl)
 dsimp only
 rw[if_pos (by rw[decide_eq_true_eq];omega),if_pos (by omega)]
 simp only[Int.toNat_natCast,hz]
 rw[if_pos (by omega)]
 simp only[hfst,hget,hwl,Int.toNat_natCast,hlst,hw]
 rw[hjoin]
 dsimp only
 rw[hal,if_pos (by omega)]
 simp only[Int.toNat_natCast,zqy hsx,List.length_set,hal,List.set_set,zw2,hw]
 rw[if_pos (by rfl),if_pos (by unfold zi;omega),if_pos (by omega),if_pos (by omega),if_pos (by rw[hj];omega)]
 simp only[zf8,Option.bind_some,hj,Int.toNat_natCast,hml]
 have hsucc:=hR.w_succ hkl
 cases ho:opens (c.getD j 0) with
 |false=>
  simp only[Bool.false_eq_true,if_false,Option.bind_some]
  refine⟨_,rfl,⟨k+1,W,hkl,rfl,fun p=> ?_⟩,by simp;omega⟩
  rw[hsucc,hW,if_neg (by unfold zqr;rw[hj,Int.toNat_natCast,ho];simp)]
 |true=>
  simp only[if_true]
  rw[if_pos (by omega)]
  simp only[Option.bind_some]
  have hme:=zie hj1 ho
  by_cases hm:(jp c).getD j 0= -1
  ·rw[hm,if_neg (by decide)]
   refine⟨_,rfl,⟨k+1,W,hkl,rfl,fun p=> ?_⟩,by simp;omega⟩
   rw[hsucc,hW,if_neg (by unfold zqr;rw[hj,Int.toNat_natCast,hm];simp)]
  ·rw[if_pos (by simpa using hm),if_pos (by omega)]
   have hpos:0≤(jp c).getD j 0:=by
    rw[hme] at hm ⊢
    rcases jH c j with h2|h2
    ·exact absurd h2 hm
    ·omega
   refine⟨_,rfl,⟨k+1,_,hkl,rfl,fun p=> ?_⟩,by simp;omega⟩
   show zem (K:= .int .i64) (V:= .int .i64) (zqb (K:= .int .i64) (V:= .int .i64) W _ _) p=_
   rw[zvs,hsucc,hW]
   have ht:zqr c R k=some ((jp c).getD j 0):=by unfold zqr;rw[hj,Int.toNat_natCast,if_pos ⟨ho,hpos⟩]
   rw[ht]
   by_cases hpm:p=(jp c).getD j 0
   ·rw[if_pos hpm,if_pos (by rw[hpm])]
   ·rw[if_neg hpm,if_neg (fun e=>hpm (Option.some.inj e).symm)]
end Go.Sx
