import Derived.Test.YtlppdabhaipbkaaGreatDoorSxMa
set_option linter.unusedVariables false
set_option linter.unusedSimpArgs false
namespace Go.Sx
theorem xW {A:Type} {l:List A} (h:l≠ []):0<l.length:=by
 cases l with
 |nil=>exact absurd rfl h
 |cons a r=>simp
theorem zj4 {A:Type}: ∀ {R:List (List A)} {r:List A},r∈R→r.length≤(R.map List.length).sum
 | [],_,h=>by simp at h
 |s::R,r,h=>by
  rw[List.map_cons,List.sum_cons]
  rcases List.mem_cons.1 h with rfl|h
  ·omega
  ·have:=zj4 h;omega
theorem zio {A:Type} {x:Option A} {y:A} (h: ∃ r,x=some r∧r=y):x=some y:=by
 obtain⟨r,h1,rfl⟩:=h;exact h1
def zfv (c:Int):Bool:=c==9||c==14||c==15||c==16||c==17||c==18
theorem zyp:Lz.f77F [14,15,16,17,18,9]=some 508416:=by
 unfold Lz.f77F
 rw[qp (n:=7) (e:=508416) (by rfl)]
 rfl
theorem zyl: ∀ n:Nat,n<23→Lz.f76F ((n:Int),508416)=some (zfv n):=by
 unfold Lz.f76F
 decide+kernel
theorem zxk (c:Int):Lz.f54F c=some (zfv c):=by
 unfold Lz.f54F
 rw[zyp]
 show(Lz.f76F (c,508416)).bind _=_
 by_cases h0:0≤c
 ·by_cases h1:c<23
  ·obtain⟨n,rfl⟩:=Int.eq_ofNat_of_zero_le h0
   rw[zyl n (by omega)];rfl
  ·have:Lz.f76F (c,508416)=some false:=by
    unfold Lz.f76F
    simp[show c≥0 by omega,show ¬ c≤22 by omega]
   rw[this]
   simp[zfv];omega
 ·have:Lz.f76F (c,508416)=some false:=by
   unfold Lz.f76F
   simp[h0]
  rw[this]
  simp[zfv];omega
def sN (c:List Int) (k:Nat):List Int:=((List.range k).filter fun j=> !zfv (c.getD j 0)).map fun(j:Nat)=>(j:Int)
def seenS (c:List Int):List Int:=sN c c.length
theorem za1 (c:List Int) (k:Nat):sN c (k+1)=if zfv (c.getD k 0)=true then sN c k else sN c k++ [(k:Int)]:=by
 unfold sN
 rw[List.range_succ,List.filter_append,List.map_append]
 cases h:zfv (c.getD k 0) with
 |true=>simp only[List.filter_cons,List.filter_nil,h,Bool.not_true,Bool.false_eq_true,if_false,List.map_nil,List.append_nil,if_true]
 |false=>simp only[List.filter_cons,List.filter_nil,h,Bool.not_false,if_true,List.map_cons,List.map_nil,Bool.false_eq_true,if_false]
theorem zki (c:List Int) (k:Nat):(sN c k).length≤k:=by
 unfold sN
 rw[List.length_map]
 exact Nat.le_trans (List.length_filter_le _ _) (by simp)
theorem z00 {c:List Int} {k:Nat} {p:Int}:p∈sN c k↔ ∃ j:Nat,p=j∧j<k∧zfv (c.getD j 0)=false:=by
 unfold sN
 simp only[List.mem_map,List.mem_filter,List.mem_range,Bool.not_eq_true']
 constructor
 ·rintro ⟨j,⟨h1,h2⟩,rfl⟩;exact⟨j,rfl,h1,h2⟩
 ·rintro ⟨j,rfl,h1,h2⟩;exact⟨j,⟨h1,h2⟩,rfl⟩
theorem z0z (c:List Int) (k:Nat):(sN c k).Pairwise (· < ·):=by
 unfold sN
 rw[List.pairwise_map]
 refine List.Pairwise.imp ?_ ((List.pairwise_lt_range (n:=k)).filter _)
 intro a b h;omega
theorem zV {c:List Int} {p:Int} (h:p∈seenS c): ∃ j:Nat,p=j∧j<c.length∧zfv (c.getD j 0)=false:=z00.1 h
def zf8 (c:List Int):List Int:=(List.range c.length).map fun k=>if zfv (c.getD k 0)=true then -1 else((sN c k).length:Int)
theorem zzu {c v:List Int} (hl:c.length≤100000):Lz.f44F (c,v)=some (c,v,seenS c,zf8 c):=by
 unfold Lz.f44F
 dsimp only
 rw[if_pos (by simp only[zj];omega)]
 refine zio (qf (Q:=fun e=>e=(zf8 c,c,v,seenS c)) (zv (I:=fun s=> ∃ (k:Nat) (m:List Int),k≤c.length∧m.length=c.length∧(∀ j,j<k→m.getD j 0=if zfv (c.getD j 0)=true then -1 else((sN c j).length:Int))∧s=((k:Int),m,c,v,sN c k))
  (fun s=>(c.length - s.1).toNat) ?_ _ ⟨0,_,by omega,by simp,fun j hj=>by omega,rfl⟩) fun e he=>⟨_,rfl,by rw[he]⟩)
 rintro _ ⟨k,m,hk,hm,hr,rfl⟩
 by_cases hkl:k<c.length
 ·have hlen:=zki c k
  dsimp only
  simp (disch:=omega) only[if_pos,za,decide_eq_true_eq,zxk,Option.bind_some,Int.toNat_natCast,zj,List.length_set]
  left
  have hset: ∀ (m:List Int) (x:Int) (j:Nat),m.length=c.length→(m.set k x).getD j 0=if k=j then x else m.getD j 0:=fun m x j hm=>qQ m k j x (by omega)
  cases ho:zfv (c.getD k 0) with
  |true=>
   refine⟨_,rfl,⟨k+1,m.set k (-1),hkl,by simpa using hm,fun j hj=> ?_,by rw[za1,ho];rfl⟩,by simp;omega⟩
   rw[hset _ _ _ hm]
   split
   ·rename_i h;subst h;rw[ho];rfl
   ·exact hr j (by omega)
  |false=>
   refine⟨_,rfl,⟨k+1,(m.set k (-1)).set k ((sN c k).length:Int),hkl,by simpa using hm,fun j hj=> ?_,by rw[za1,ho];rfl⟩,by simp;omega⟩
   rw[hset _ _ _ (by simpa using hm),hset _ _ _ hm]
   split
   ·rename_i h;subst h;rw[ho];rfl
   ·exact hr j (by omega)
 ·have:k=c.length:=by omega
  subst this
  right
  rw[if_neg (by rw[decide_eq_true_eq];omega)]
  refine⟨_,rfl, ?_⟩
  congr 1
  apply List.ext_getElem
  ·simp[zf8,hm]
  ·intro j h1 h2
   have h1':j<m.length:=h1
   have:=hr j (by omega)
   rw[List.getD_eq_getElem?_getD,List.getElem?_eq_getElem h1'] at this
   simp only[Option.getD_some] at this
   rw[this]
   simp[zf8]
def zmg (c v:List Int) (p q:Int):Bool:=v.getD q.toNat 0 !=v.getD p.toNat 0||c.getD p.toNat 0==10
def zbh (b:Int→Int→Bool) (acc:List (List Int)) (q:Int):List (List Int):=
 match acc.getLast? with
 |none=>acc++ [[q]]
 |some r=>match r.getLast? with
  |none=>acc++ [[q]]
  |some p=>if b p q=true then acc++ [[q]] else acc.dropLast++ [r++ [q]]
def zac (b:Int→Int→Bool) (l:List Int):List (List Int):=l.foldl (zbh b) []
def zij (c v:List Int):List (List Int):=zac (zmg c v) (seenS c)
theorem zsk (b:Int→Int→Bool) (l:List Int) (q:Int):zac b (l++ [q])=zbh b (zac b l) q:=by
 unfold zac;rw[List.foldl_append];rfl
theorem zad (b:Int→Int→Bool) (A:List (List Int)) (r:List Int) (p q:Int):zbh b (A++ [r++ [p]]) q=if b p q=true then A++ [r++ [p]]++ [[q]] else A++ [r++ [p]++ [q]]:=by
 unfold zbh
 simp only[List.getLast?_append,List.getLast?_singleton,Option.some_or,List.dropLast_concat]
structure RunsOk (b:Int→Int→Bool) (l:List Int) (R:List (List Int)):Prop where
 all:R.flatten=l
 ne: ∀ r∈R,r≠ []
 within: ∀ r∈R, ∀ i p q,r[i]? =some p→r[i+1]? =some q→b p q=false
 between: ∀ i r s p q,R[i]? =some r→R[i+1]? =some s→r.getLast?=some p→s.head?=some q→b p q=true
theorem RunsOk.nil (b:Int→Int→Bool):RunsOk b [] []:=⟨rfl,by simp,by simp,by simp⟩
theorem RunsOk.snoc {b:Int→Int→Bool} {l:List Int} {R:List (List Int)} (h:RunsOk b l R) (q:Int):RunsOk b (l++ [q]) (zbh b R q):=by
 rcases List.eq_nil_or_concat R with rfl|⟨A,r,rfl⟩
 ·have hl:l= []:=by rw[← h.all];rfl
  subst hl
  refine⟨rfl,by simp[zbh],fun r hr i p q h1 h2=> ?_,fun i r s p q h1 h2=> ?_⟩
  ·simp[zbh] at hr;subst hr;simp at h2
  ·simp[zbh] at h2
 ·have hr:r≠ []:=h.ne r (by simp)
  rcases List.eq_nil_or_concat r with rfl|⟨r',p,rfl⟩
  ·exact absurd rfl hr
  simp only[List.concat_eq_append] at h ⊢
  rw[zad]
  cases hb:b p q with
  |true=>
   rw[if_pos rfl]
   refine⟨by rw[List.flatten_append,h.all];simp,fun s hs=> ?_,fun s hs i x y h1 h2=> ?_,fun i s t x y h1 h2 h3 h4=> ?_⟩
   ·rcases List.mem_append.1 hs with hs|hs
    ·exact h.ne s hs
    ·simp at hs;subst hs;simp
   ·rcases List.mem_append.1 hs with hs|hs
    ·exact h.within s hs i x y h1 h2
    ·simp at hs;subst hs;simp at h2
   ·by_cases hi:i+1<(A++ [r'++ [p]]).length
    ·rw[List.getElem?_append_left (by omega)] at h1
     rw[List.getElem?_append_left hi] at h2
     exact h.between i s t x y h1 h2 h3 h4
    ·have hi':i+1=(A++ [r'++ [p]]).length:=by
      have:=(List.getElem?_eq_some_iff.1 h2).1
      simp at this hi ⊢;omega
     rw[hi'] at h2
     simp at h2
     subst h2
     have hia:i=A.length:=by simp at hi';omega
     subst hia
     simp at h1
     subst h1
     simp at h3 h4
     subst h3;subst h4
     exact hb
  |false=>
   rw[if_neg (by simp)]
   refine⟨by have:=h.all;simp at this ⊢;rw[← this];simp,fun s hs=> ?_,fun s hs i x y h1 h2=> ?_,fun i s t x y h1 h2 h3 h4=> ?_⟩
   ·rcases List.mem_append.1 hs with hs|hs
    ·exact h.ne s (by simp[hs])
    ·simp at hs;subst hs;simp
   ·rcases List.mem_append.1 hs with hs|hs
    ·exact h.within s (by simp[hs]) i x y h1 h2
    ·simp at hs;subst hs
     have e0: ∀ j:Nat,(r'++ [p,q])[j]? =((r'++ [p])++ [q])[j]? :=fun j=>by simp
     by_cases hi:i+1<(r'++ [p]).length
     ·refine h.within (r'++ [p]) (by simp) i x y ?_ ?_
      ·rw[e0] at h1
       rw[List.getElem?_append_left (l₁:=r'++ [p]) (by omega)] at h1;exact h1
      ·rw[e0] at h2
       rw[List.getElem?_append_left (l₁:=r'++ [p]) hi] at h2;exact h2
     ·have hi':i=r'.length:=by
       have:=(List.getElem?_eq_some_iff.1 h2).1
       simp at this hi;omega
      subst hi'
      simp at h1 h2
      subst h1;subst h2
      exact hb
   ·by_cases hi:i+1<A.length
    ·rw[List.getElem?_append_left (by omega)] at h1
     rw[List.getElem?_append_left hi] at h2
     exact h.between i s t x y (by rw[List.getElem?_append_left (by omega)];exact h1) (by rw[List.getElem?_append_left hi];exact h2) h3 h4
    ·have hi':i+1=A.length:=by
      have:=(List.getElem?_eq_some_iff.1 h2).1
      simp at this;omega
     rw[hi'] at h2
     rw[List.getElem?_append_left (by omega)] at h1
     simp at h2
     subst h2
     refine h.between i s (r'++ [p]) x y (by rw[List.getElem?_append_left (by omega)];exact h1) (by rw[hi'];simp) h3 ?_
     cases r'<;>simpa using h4
theorem zw5 (b:Int→Int→Bool) (l:List Int):RunsOk b l (zac b l):=by
 suffices h: ∀ (m l0:List Int) (R:List (List Int)),RunsOk b l0 R→RunsOk b (l0++m) (m.foldl (zbh b) R) from by
  have:=h l [] [] (RunsOk.nil b)
  simpa [zac] using this
 intro m
 induction m with
 |nil=>intro l0 R h;simpa using h
 |cons q m ih=>
  intro l0 R h
  have:=ih (l0++ [q]) _ (h.snoc q)
  simpa using this
theorem zqj {A B:Type} (R:List A) (g:A→B) (f:Int×List B→Option ((Int×List B) ⊕ List B)) (h: ∀ (k:Nat) (hk:k<R.length),f ((k:Int),(R.take k).map g)=some (.inl (((k+1:Nat):Int),(R.take k).map g++ [g R[k]])))
  (he:f ((R.length:Int),R.map g)=some (.inr (R.map g))):iter f (0, [])=some (R.map g):=by
 refine zio (zv (I:=fun s=> ∃ k:Nat,k≤R.length∧s=((k:Int),(R.take k).map g)) (Q:=fun r=>r=R.map g) (fun s=>(R.length - s.1).toNat) ?_ _ ⟨0,Nat.zero_le _,rfl⟩)
 rintro _ ⟨k,hk,rfl⟩
 by_cases hkn:k<R.length
 ·refine .inl ⟨_,h k hkn,⟨k+1,hkn, ?_⟩,by simp;omega⟩
  rw[List.take_succ_eq_append_getElem hkn,List.map_append];rfl
 ·have:k=R.length:=by omega
  subst this
  rw[List.take_length]
  exact .inr ⟨_,he,rfl⟩
theorem zm {A:Type} {l:List A} {k:Nat} (d:A) (h:k<l.length):l.getD k d=l[k]:=by simp[List.getD_eq_getElem?_getD,h]
theorem qF {A:Type} (l:List A) (k:Nat) (d:A) (h:k<l.length):l.take (k+1)=l.take k++ [l.getD k d]:=by
 rw[List.take_succ_eq_append_getElem h,zm d h]
theorem zzv {c v L k:List Int} (hv:v.length=c.length) (hL: ∀ p∈L,0≤p∧p<c.length) (hl:L.length≤100000) (hc:c.length≤100000):Lz.f46F (c,v,L,k)=some (zac (zmg c v) L):=by
 unfold Lz.f46F
 dsimp only
 have hg: ∀ i,i<L.length→0≤L.getD i 0∧L.getD i 0<(c.length:Int):=fun i hi=>by rw[zm 0 hi];exact hL _ (List.getElem_mem hi)
 refine zio (qf (Q:=fun A=>A.map Prod.snd=zac (zmg c v) L) (zv (I:=fun(s:Int×Int×List (Bool×List Int))=> ∃ (f i:Nat) (A:List (Bool×List Int)),s=((f:Int),((i+1:Nat):Int),A)∧i≤L.length∧f≤i∧A.length≤i∧
   (i<L.length→zac (zmg c v) (L.take (i+1))=A.map Prod.snd++ [(L.take (i+1)).drop f])∧(i=L.length→zac (zmg c v) L=A.map Prod.snd)) (fun s=>(L.length+1 - s.2.1).toNat) ?_ _ ?_) fun A hA=>⟨_,rfl,by rw[← hA];rfl⟩)
 rotate_left
 ·refine⟨0,0, [],rfl,Nat.zero_le _,Nat.le_refl _,Nat.le_refl _,fun h=> ?_,fun h=> ?_⟩
  ·rw[qF L 0 0 h];rfl
  ·have:L= []:=List.eq_nil_of_length_eq_zero h.symm
   subst this;rfl
 rintro _ ⟨f,i,A,rfl,hi,hf,hA,h1,h2⟩
 dsimp only
 by_cases hil:i<L.length
 rotate_left
 ·right
  rw[if_neg (by rw[decide_eq_true_eq];omega)]
  exact⟨_,rfl,(h2 (by omega)).symm⟩
 left
 have hw:IntKind.i64.wrap (((i+1:Nat):Int) - 1)=(i:Int):=by rw[za (by omega) (by omega)];omega
 have hw2:IntKind.i64.wrap (((i+1:Nat):Int)+1)=((i+1+1:Nat):Int):=by rw[za (by omega) (by omega)];omega
 have hgi:=hg i hil
 have hseg:(L.take (i+1)).drop f=(L.take i).drop f++ [L.getD i 0]:=by
  rw[qF L i 0 hil,List.drop_append_of_le_length (by rw[List.length_take];omega)]
 have hr:=h1 hil
 simp (disch:=omega) only[if_pos,decide_eq_true_eq,hw,hw2,Int.toNat_natCast]
 by_cases hil2:i+1<L.length
 ·have hg2:=hg (i+1) hil2
  have hn:zac (zmg c v) (L.take (i+1+1))=zbh (zmg c v) (zac (zmg c v) (L.take (i+1))) (L.getD (i+1) 0):=by
   rw[qF L (i+1) 0 hil2,zsk]
  rw[hr,hseg,zad] at hn
  have hseg2:(L.take (i+1+1)).drop f=(L.take i).drop f++ [L.getD i 0]++ [L.getD (i+1) 0]:=by
   rw[qF L (i+1) 0 hil2,List.drop_append_of_le_length (by rw[List.length_take];omega),hseg]
  have hseg3:(L.take (i+1+1)).drop (i+1)= [L.getD (i+1) 0]:=by
   rw[qF L (i+1) 0 hil2,List.drop_left' (by rw[List.length_take];omega)]
  simp (disch:=omega) only[if_pos]
  have hb: ∀ K:Bool×List (Bool×List Int)→Option ((Int×Int×List (Bool×List Int)) ⊕ List (Bool×List Int)),(Option.bind (if(v.getD (L.getD (i+1) 0).toNat 0==v.getD (L.getD i 0).toNat 0)=true then some (c.getD (L.getD i 0).toNat 0 !=10,A) else some (false,A)) K)=K (!zmg c v (L.getD i 0) (L.getD (i+1) 0),A):=by
   intro K
   unfold zmg
   cases h:(v.getD (L.getD (i+1) 0).toNat 0==v.getD (L.getD i 0).toNat 0) with
   |true=>simp only[bne,h,if_true,Option.bind_some,Bool.not_true,Bool.false_or]
   |false=>simp only[bne,h,Bool.false_eq_true,if_false,Option.bind_some,Bool.not_false,Bool.true_or,Bool.not_true]
  rw[hb]
  cases hbr:zmg c v (L.getD i 0) (L.getD (i+1) 0) with
  |false=>
   rw[hbr,if_neg (by simp)] at hn
   simp only[Bool.not_false,if_true]
   exact⟨_,rfl,⟨f,i+1,A,rfl,by omega,by omega,by omega,fun _=>by rw[hn,hseg2],fun h=>by omega⟩,by simp;omega⟩
  |true=>
   rw[hbr,if_pos rfl] at hn
   simp only[Bool.not_true,Bool.false_eq_true,if_false]
   rw[if_pos (by unfold zj;omega)]
   exact⟨_,rfl,⟨i+1,i+1,A++ [(false,(L.take (i+1)).drop f)],rfl,by omega,by omega,by simp;omega,fun _=>by rw[hn,hseg3,List.map_append,hseg];rfl,fun h=>by omega⟩,by simp;omega⟩
 ·have hil3:i+1=L.length:=by omega
  simp (disch:=omega) only[if_neg,if_pos,Option.bind_some,Bool.false_eq_true,not_false_eq_true,if_false]
  rw[if_pos (by unfold zj;omega)]
  exact⟨_,rfl,⟨i+1,i+1,A++ [(false,(L.take (i+1)).drop f)],rfl,by omega,by omega,by simp;omega,fun h=>by omega,fun h=>by
   rw[hil3,List.take_length] at hr
   rw[hr,List.map_append,hil3,List.take_length];rfl⟩,by simp;omega⟩
section
variable (nx:Nat→Option Nat)
def xf (k:Nat):Option Nat:=(List.range k).find? fun i=>nx i==some k
def xl (k:Nat):Nat:=((List.range k).filter fun i=>(xf nx i).isNone).length
theorem zib {k i:Nat} (h:xf nx k=some i):i<k∧nx i=some k:=by
 unfold xf at h
 have h1:=List.mem_of_find?_eq_some h
 have h2:=List.find?_some h
 exact⟨by simpa using h1,by simpa using h2⟩
def zje (k:Nat):Nat:=match h:xf nx k with
 |some i=>zje i
 |none=>xl nx k
termination_by k
decreasing_by exact(zib nx h).1
variable {nx} {N:Nat}
theorem zcf {k:Nat} (h:xf nx k=none):zje nx k=xl nx k:=by
 rw[zje]
 split
 ·rename_i i hi;rw[h] at hi;cases hi
 ·rfl
theorem zn3 {k i:Nat} (h:xf nx k=some i):zje nx k=zje nx i:=by
 rw[zje]
 split
 ·rename_i j hj;rw[h] at hj;cases hj;rfl
 ·rename_i hj;rw[h] at hj;cases hj
theorem j8 (nx:Nat→Option Nat) (k:Nat):xl nx (k+1)=xl nx k+if(xf nx k).isNone=true then 1 else 0:=by
 unfold xl
 rw[List.range_succ,List.filter_append,List.length_append]
 cases h:(xf nx k).isNone with
 |true=>simp[List.filter_cons,h]
 |false=>simp[List.filter_cons,h]
theorem zkg {i k:Nat} (h:i≤k):xl nx i≤xl nx k:=by
 induction k with
 |zero=>have:i=0:=by omega
        subst this;exact Nat.le_refl _
 |succ k ih=>
  by_cases hk:i=k+1
  ·subst hk;exact Nat.le_refl _
  ·rw[j8];have:=ih (by omega);omega
theorem zu8 (nx:Nat→Option Nat) (k:Nat):zje nx k<xl nx (k+1):=by
 induction k using Nat.strongRecOn with
 |ind k ih=>
  cases hp:xf nx k with
  |none=>rw[zcf hp,j8,hp];simp
  |some i=>
   have hi:=(zib nx hp).1
   rw[zn3 hp]
   exact Nat.lt_of_lt_of_le (ih i hi) (zkg (by omega))
def zls (nx:Nat→Option Nat) (k s:Nat):List Nat:=(List.range k).filter fun i=>zje nx i==s
theorem zh3 (k s:Nat):zls nx (k+1) s=zls nx k s++if(zje nx k==s)=true then [k] else []:=by
 unfold zls
 rw[List.range_succ,List.filter_append]
 congr 1
 simp only[List.filter_cons,List.filter_nil]
theorem zyv {k d s:Nat} (h: ∀ x,k≤x→x<k+d→zje nx x≠s):zls nx (k+d) s=zls nx k s:=by
 induction d with
 |zero=>rfl
 |succ d ih=>
  rw[← Nat.add_assoc,zh3,ih (fun x h1 h2=>h x h1 (by omega)),if_neg (by simpa using h (k+d) (by omega) (by omega)),List.append_nil]
theorem zuj {k:Nat} (hp:xf nx k=none):zls nx k (zje nx k)= []:=by
 have:=zyv (nx:=nx) (k:=0) (d:=k) (s:=zje nx k) (fun x _ hx he=>by
  have h1:=zu8 nx x
  have h2:xl nx (x+1)≤xl nx k:=zkg (by omega)
  rw[zcf hp] at he
  omega)
 rw[Nat.zero_add] at this
 exact this
theorem zrz (k:Nat):((List.range k).filter fun i=>(xf nx i).isNone).map (xl nx)=List.range (xl nx k):=by
 induction k with
 |zero=>rfl
 |succ k ih=>
  rw[List.range_succ,List.filter_append,List.map_append,ih,j8]
  cases hp:(xf nx k).isNone with
  |true=>rw[if_pos rfl,List.range_succ];simp[List.filter_cons,hp]
  |false=>simp[List.filter_cons,hp]
end
def zcy (x:Int):Int:=if x % 2=1 then 1 else 0
theorem zhl (x:Int):Lz.f79F x=some (zcy x):=by
 unfold Lz.f79F zcy
 have hb:(BitVec.toNat (BitVec.ofInt (IntKind.bits IntKind.i64) x &&& BitVec.ofInt (IntKind.bits IntKind.i64) 1):Int)=x % 2:=by
  show((BitVec.toNat (BitVec.ofInt 64 x &&& BitVec.ofInt 64 1):Nat):Int)=x % 2
  have h1:BitVec.ofInt 64 1=1#64:=rfl
  rw[h1,BitVec.toNat_and]
  have h2:(1#64).toNat=1:=rfl
  rw[h2,Nat.and_one_is_mod,BitVec.toNat_ofInt]
  omega
 rw[hb]
 rcases Int.emod_two_eq x with h|h
 ·rw[h];rfl
 ·rw[h];rfl
theorem zu3 (c:List Int) (k d:Nat): ∃ t,sN c (k+d)=sN c k++t:=by
 induction d with
 |zero=>exact⟨[],by simp⟩
 |succ d ih=>
  obtain⟨t,h⟩:=ih
  rw[← Nat.add_assoc,za1,h]
  split
  ·exact⟨t,rfl⟩
  ·exact⟨t++ [((k+d:Nat):Int)],by simp⟩
def zoc (c:List Int) (p:Int):Nat:=(sN c p.toNat).length
theorem zw6 {c:List Int} {p:Int} (h:p∈seenS c):zoc c p<(seenS c).length∧(seenS c).getD (zoc c p) 0=p:=by
 obtain⟨j,rfl,h1,h2⟩:=zV h
 obtain⟨d,hd⟩: ∃ d,c.length=j+1+d:=⟨c.length - (j+1),by omega⟩
 obtain⟨t,ht⟩:=zu3 c (j+1) d
 have hs:seenS c=sN c j++ [(j:Int)]++t:=by
  unfold seenS
  rw[hd,ht,za1,if_neg (by rw[h2];simp)]
 unfold zoc
 rw[Int.toNat_natCast,hs]
 refine⟨by simp, ?_⟩
 rw[List.getD_eq_getElem?_getD,List.append_assoc,List.getElem?_append_right (Nat.le_refl _)]
 simp
theorem zw0 {c:List Int} {p:Int} (h:p∈seenS c):(zf8 c).getD p.toNat 0=(zoc c p:Int):=by
 obtain⟨j,rfl,h1,h2⟩:=zV h
 rw[Int.toNat_natCast,zm 0 (by simp[zf8];exact h1)]
 simp only[zf8,List.getElem_map,List.getElem_range,h2,Bool.false_eq_true,if_false,zoc,Int.toNat_natCast]
def zyu (c v:List Int) (p d base:Int):Int:=
 if(zoc c p:Int)+d<0∨(zoc c p:Int)+d≥((seenS c).length:Int) then base else v.getD ((seenS c).getD ((zoc c p:Int)+d).toNat 0).toNat 0
theorem zlh {c v:List Int} (hc:c.length≤100000) (hv:v.length=c.length) {p d base:Int} (hp:p∈seenS c) (hd1: -1≤d) (hd2:d≤1):Lz.f78F ((c,v,seenS c,zf8 c),p,d,base)=some (zyu c v p d base):=by
 unfold Lz.f78F zyu
 dsimp only
 obtain⟨j,hj,h1,h2⟩:=zV hp
 have hrl:(zf8 c).length=c.length:=by simp[zf8]
 have hsl:(seenS c).length≤c.length:=zki _ _
 obtain⟨h3,_⟩:=zw6 hp
 rw[if_pos (by omega),zw0 hp,za (by omega) (by omega)]
 by_cases ha:(zoc c p:Int)+d<0
 ·rw[if_pos (by rw[decide_eq_true_eq];exact ha),if_pos (Or.inl ha)]
  rfl
 ·rw[if_neg (by rw[decide_eq_true_eq];exact ha)]
  simp only[Option.bind_some,decide_eq_true_eq]
  by_cases hb:(zoc c p:Int)+d≥((seenS c).length:Int)
  ·rw[if_pos hb,if_pos (Or.inr hb)]
  ·have hm:(seenS c).getD ((zoc c p:Int)+d).toNat 0∈seenS c:=by rw[zm 0 (by omega)];exact List.getElem_mem _
   obtain⟨j2,hj2,h12,_⟩:=zV hm
   rw[if_neg hb,if_pos (by omega),if_pos (by omega),if_neg (by omega)]
def zxv (c v at_:List Int) (base:Int):List Int×Int×Int×Int:=
 (at_,v.getD (at_.getD 0 0).toNat 0,zcy (zlr (v.getD (at_.getD 0 0).toNat 0) (zyu c v (at_.getD 0 0) (-1) base)),
  zcy (zlr (v.getD (at_.getD (at_.length - 1) 0).toNat 0) (if c.getD (at_.getD (at_.length - 1) 0).toNat 0≠10∧opens (c.getD (at_.getD (at_.length - 1) 0).toNat 0)=false then zyu c v (at_.getD (at_.length - 1) 0) 1 base else base)))
theorem zyi {c v at_:List Int} {base:Int} (hc:c.length≤100000) (hv:v.length=c.length) (h0:at_≠ []) (hl:at_.length≤100000) (hs: ∀ p∈at_,p∈seenS c):Lz.f48F ((c,v,seenS c,zf8 c),at_,base)=some (zxv c v at_ base):=by
 unfold Lz.f48F zxv
 dsimp only
 have hp:0<at_.length:=xW h0
 have hw:IntKind.i64.wrap ((at_.length:Int) - 1)=((at_.length - 1:Nat):Int):=by rw[za (by omega) (by omega)];omega
 have hf:at_.getD 0 0∈seenS c:=by rw[zm 0 hp];exact hs _ (List.getElem_mem _)
 have hla:at_.getD (at_.length - 1) 0∈seenS c:=by rw[zm 0 (by omega)];exact hs _ (List.getElem_mem _)
 have hz:Int.toNat (0:Int)=0:=rfl
 simp only[hw,Int.toNat_natCast,hz]
 generalize at_.getD 0 0=f at*
 generalize hgl:at_.getD (at_.length - 1) 0=l at*
 obtain⟨jf,hjf,hf1,_⟩:=zV hf
 obtain⟨jl,hjl,hl1,_⟩:=zV hla
 simp (disch:=omega) only[if_pos,zjw,Option.bind_some]
 cases h10:(c.getD l.toNat 0 !=10) with
 |false=>
  have h10':c.getD l.toNat 0=10:=by simpa using h10
  simp only[Bool.false_eq_true,if_false,Option.bind_some]
  rw[zlh hc hv hf (by omega) (by omega),if_neg (by rw[h10'];simp)]
  simp only[Option.bind_some,zhl]
 |true=>
  have h10':c.getD l.toNat 0≠10:=by simpa using h10
  simp only[if_true,Option.bind_some]
  cases ho:opens (c.getD l.toNat 0) with
  |true=>
   simp only[Bool.not_true,Bool.false_eq_true,if_false,Option.bind_some]
   rw[zlh hc hv hf (by omega) (by omega),if_neg (by simp)]
   simp only[Option.bind_some,zhl]
  |false=>
   simp only[Bool.not_false,if_true]
   rw[zlh hc hv hla (by omega) (by omega)]
   simp only[Option.bind_some]
   rw[zlh hc hv hf (by omega) (by omega),if_pos ⟨h10',trivial⟩]
   simp only[Option.bind_some,zhl]
theorem ze4 {A:Type} {p q:A→Bool}: ∀ {l:List A},(∀ x∈l,p x=q x)→l.find? p=l.find? q
 | [],_=>rfl
 |a::l,h=>by
  rw[List.find?_cons,List.find?_cons,h a (by simp),ze4 fun x hx=>h x (by simp[hx])]
theorem zuk {kk:IntKind} {V:Ty} (k p:Int) (v:V.den) (es:List (Int×V.den)):zef (K:= .int kk) (V:=V) (zpd (K:= .int kk) (V:=V) es k v) p=if p=k then some v else zef (K:= .int kk) (V:=V) es p:=by
 induction es with
 |nil=>
  show(bif (p==k) then some v else none)=_
  by_cases h:p=k
  ·subst h;simp
  ·have:(p==k)=false:=by simpa using h
   rw[this,if_neg h];rfl
 |cons e l ih=>
  obtain⟨a,b⟩:=e
  show zef (K:= .int kk) (V:=V) (bif (k==a) then(a,v)::l else(a,b)::zpd (K:= .int kk) (V:=V) l k v) p=if p=k then some v else(bif (p==a) then some b else zef (K:= .int kk) (V:=V) l p)
  by_cases h:k=a
  ·subst h
   rw[beq_self_eq_true]
   show(bif (p==k) then some v else zef (K:= .int kk) (V:=V) l p)=_
   by_cases h2:p=k
   ·subst h2;simp
   ·have:(p==k)=false:=by simpa using h2
    rw[this,if_neg h2];rfl
  ·have hka:(k==a)=false:=by simpa using h
   rw[hka]
   show(bif (p==a) then some b else zef (K:= .int kk) (V:=V) (zpd (K:= .int kk) (V:=V) l k v) p)=_
   by_cases h2:p=a
   ·subst h2
    have: ¬ p=k:=fun e=>h e.symm
    rw[beq_self_eq_true,if_neg this];rfl
   ·have hpa:(p==a)=false:=by simpa using h2
    rw[hpa]
    exact ih
def zli (R:List (List Int)) (k:Nat):Int:=(R.getD k []).getD 0 0
def zoa (R:List (List Int)) (k:Nat):Int:=(R.getD k []).getD ((R.getD k []).length - 1) 0
structure RF (c:List Int) (R:List (List Int)):Prop where
 ne: ∀ r∈R,r≠ []
 mem: ∀ r∈R, ∀ p∈r,p∈seenS c
 asc:R.flatten.Pairwise (· < ·)
 small:R.flatten.length≤c.length
theorem zgs (c v:List Int):RF c (zij c v):=by
 have h:=zw5 (zmg c v) (seenS c)
 refine⟨h.ne,fun r hr p hp=> ?_, ?_, ?_⟩
 ·have:p∈(zac (zmg c v) (seenS c)).flatten:=List.mem_flatten.2 ⟨r,hr,hp⟩
  rwa [h.all] at this
 ·show(zac (zmg c v) (seenS c)).flatten.Pairwise _
  rw[h.all];exact z0z _ _
 ·show(zac (zmg c v) (seenS c)).flatten.length≤_
  rw[h.all];exact zki _ _
section
variable {c:List Int} {R:List (List Int)} (h:RF c R)
include h
theorem RF.run {k:Nat} (hk:k<R.length):R.getD k []∈R∧R.getD k []≠ []∧0<(R.getD k []).length:=by
 rw[zm [] hk]
 have h1:=List.getElem_mem hk
 exact⟨h1,h.ne _ h1,xW (h.ne _ h1)⟩
theorem RF.fst_mem {k:Nat} (hk:k<R.length):zli R k∈R.getD k []:=by
 obtain⟨h1,h2,h3⟩:=h.run hk
 unfold zli
 rw[zm 0 h3];exact List.getElem_mem _
theorem RF.lst_mem {k:Nat} (hk:k<R.length):zoa R k∈R.getD k []:=by
 obtain⟨h1,h2,h3⟩:=h.run hk
 unfold zoa
 rw[zm 0 (by omega)];exact List.getElem_mem _
theorem RF.lst_seen {k:Nat} (hk:k<R.length):zoa R k∈seenS c:=h.mem _ (h.run hk).1 _ (h.lst_mem hk)
theorem RF.apart {i j:Nat} (hij:i<j) (hj:j<R.length): ∀ p∈R.getD i [], ∀ q∈R.getD j [],p<q:=by
 have:=(List.pairwise_flatten.1 h.asc).2
 rw[zm [] (by omega),zm [] hj]
 exact List.pairwise_iff_getElem.1 this i j (by omega) hj hij
theorem RF.fst_le {k:Nat} (hk:k<R.length):zli R k≤zoa R k:=by
 obtain⟨h1,h2,h3⟩:=h.run hk
 have hp:=(List.pairwise_flatten.1 h.asc).1 _ h1
 unfold zli zoa
 rw[zm 0 h3,zm 0 (by omega)]
 by_cases h0:(R.getD k []).length - 1=0
 ·simp only[h0];omega
 ·have:=List.pairwise_iff_getElem.1 hp 0 ((R.getD k []).length - 1) h3 (by omega) (by omega)
  omega
theorem RF.lst_lt {i j:Nat} (hij:i<j) (hj:j<R.length):zoa R i<zli R j:=h.apart hij hj _ (h.lst_mem (by omega)) _ (h.fst_mem hj)
theorem RF.fst_inj {i j:Nat} (hi:i<R.length) (hj:j<R.length) (he:zli R i=zli R j):i=j:=by
 rcases Nat.lt_trichotomy i j with h1|h1|h1
 ·have:=h.lst_lt h1 hj;have:=h.fst_le hi;omega
 ·exact h1
 ·have:=h.lst_lt h1 hi;have:=h.fst_le hj;omega
theorem RF.lst_inj {i j:Nat} (hi:i<R.length) (hj:j<R.length) (he:zoa R i=zoa R j):i=j:=by
 rcases Nat.lt_trichotomy i j with h1|h1|h1
 ·have:=h.lst_lt h1 hj;have:=h.fst_le hj;omega
 ·exact h1
 ·have:=h.lst_lt h1 hi;have:=h.fst_le hi;omega
theorem RF.count:R.length≤c.length:=by
 refine Nat.le_trans ?_ h.small
 have: ∀ (S:List (List Int)),(∀ r∈S,r≠ [])→S.length≤S.flatten.length:=by
  intro S
  induction S with
  |nil=>simp
  |cons r S ih=>
   intro hS
   have h1:=xW (hS r (by simp))
   have h2:=ih (fun r hr=>hS r (by simp[hr]))
   simp at h2 ⊢
   omega
 exact this R h.ne
omit h
def zmb (c:List Int) (R:List (List Int)) (k:Nat):Option Int:=
 if opens (c.getD (zoa R k).toNat 0)=true∧0≤(jj c).getD (zoa R k).toNat 0 then some ((jj c).getD (zoa R k).toNat 0) else none
def nxR (c:List Int) (R:List (List Int)) (k:Nat):Option Nat:=
 if k<R.length then(match zmb c R k with
  |none=>none
  |some p=>(List.range R.length).find? fun j=>zli R j==p) else none
theorem zau {c:List Int} {j:Nat} (hj:j<c.length) (ho:opens (c.getD j 0)=true):(jj c).getD j 0=endOf c j:=by
 unfold jj
 rw[zm 0 (by simpa using hj)]
 simp only[List.getElem_map,List.getElem_range,ho,if_true]
include h
theorem RF.tgt {k:Nat} (hk:k<R.length) {p:Int} (ht:zmb c R k=some p): ∃ j:Nat,zoa R k=j∧j<c.length∧opens (c.getD j 0)=true∧endOf c j=p∧(j:Int)<p∧p<c.length:=by
 obtain⟨j,hj,h1,_⟩:=zV (h.lst_seen hk)
 unfold zmb at ht
 rw[hj] at ht
 simp only[Int.toNat_natCast] at ht
 split at ht
 case isFalse=>cases ht
 case isTrue hc=>
  have he:=zau h1 hc.1
  rw[he] at ht hc
  simp only[Option.some.injEq] at ht
  subst ht
  rcases qP c j with h2|h2
  ·have:=hc.2;omega
  ·exact⟨j,hj,h1,hc.1,rfl,h2.1,h2.2⟩
theorem RF.tgt_inj {i k:Nat} (hi:i<R.length) (hk:k<R.length) {p:Int} (h1:zmb c R i=some p) (h2:zmb c R k=some p):i=k:=by
 obtain⟨a,a1,a2,a3,a4,a5,_⟩:=h.tgt hi h1
 obtain⟨b,b1,b2,b3,b4,_,_⟩:=h.tgt hk h2
 have:a=b:=by
  obtain⟨q,rfl⟩:=Int.eq_ofNat_of_zero_le (show 0≤p by omega)
  rw[zm 0 a2] at a3
  rw[zm 0 b2] at b3
  exact zm3 a2 b2 a3 b3 a4 b4
 exact h.lst_inj hi hk (by rw[a1,b1,this])
theorem RF.nx_iff {i k:Nat} (hi:i<R.length) (hk:k<R.length):nxR c R i=some k↔zmb c R i=some (zli R k):=by
 unfold nxR
 rw[if_pos hi]
 constructor
 ·intro hn
  split at hn
  ·cases hn
  ·rename_i p hp
   have:=List.find?_some hn
   rw[beq_iff_eq] at this
   rw[hp,this]
 ·intro ht
  rw[ht]
  simp only
  cases hf:(List.range R.length).find? fun j=>zli R j==zli R k with
  |none=>
   have:=List.find?_eq_none.1 hf k (by simpa using hk)
   simp at this
  |some j=>
   have h1:=List.find?_some hf
   have h2:=List.mem_of_find?_eq_some hf
   rw[beq_iff_eq] at h1
   rw[h.fst_inj (by simpa using h2) hk h1]
theorem RF.prev_find {k:Nat} (hk:k<R.length):(List.range k).find? (fun i=>zmb c R i==some (zli R k))=xf (nxR c R) k:=by
 unfold xf
 apply ze4
 intro i hi
 have hik:i<k:=by simpa using hi
 rw[Bool.eq_iff_iff,beq_iff_eq,beq_iff_eq]
 exact(h.nx_iff (by omega) hk).symm
end
def wS (c:List Int) (R:List (List Int)) (k:Nat) (p:Int):Option Int:=((List.range k).find? fun i=>zmb c R i==some p).map fun i=>(zje (nxR c R) i:Int)
theorem RF.w_succ {c:List Int} {R:List (List Int)} (h:RF c R) {k:Nat} (hk:k<R.length) (p:Int):wS c R (k+1) p=if zmb c R k=some p then some (zje (nxR c R) k:Int) else wS c R k p:=by
 unfold wS
 rw[List.range_succ,List.find?_append]
 cases hf:(List.range k).find? fun i=>zmb c R i==some p with
 |none=>
  rw[Option.none_or]
  by_cases ht:zmb c R k=some p
  ·rw[if_pos ht,List.find?_cons_of_pos (by simpa using ht)];rfl
  ·rw[if_neg ht,List.find?_cons_of_neg (by simpa using ht)];rfl
 |some i=>
  rw[Option.some_or]
  have h1:=List.find?_some hf
  have h2:=List.mem_of_find?_eq_some hf
  rw[beq_iff_eq] at h1
  have hik:i<k:=by simpa using h2
  rw[if_neg (fun ht=>by have:=h.tgt_inj (by omega) hk h1 ht;omega)]
def zjn (R:List (List Int)) (l:List Nat):List Int:=l.flatMap fun i=>R.getD i []
theorem zvu (R:List (List Int)) (k:Nat) (hk:k≤R.length):zjn R (List.range k)=(R.take k).flatten:=by
 induction k with
 |zero=>rfl
 |succ k ih=>
  have:=ih (by omega)
  unfold zjn at this ⊢
  rw[List.range_succ,List.flatMap_append,this,qF R k [] (by omega),List.flatten_append]
  simp
theorem zg4 (R:List (List Int)) (q:Nat→Bool) (l:List Nat):(zjn R (l.filter q)).length≤(zjn R l).length:=by
 unfold zjn
 induction l with
 |nil=>simp
 |cons x l ih=>
  rw[List.filter_cons]
  split
  ·simp only[List.flatMap_cons,List.length_append];omega
  ·simp only[List.flatMap_cons,List.length_append];omega
theorem zlt {c:List Int} {R:List (List Int)} (h:RF c R) (k s:Nat) (hk:k≤R.length):(zjn R (zls (nxR c R) k s)).length≤c.length:=by
 refine Nat.le_trans (zg4 R _ _) ?_
 rw[zvu R k hk]
 refine Nat.le_trans ?_ h.small
 have:(R.take k).flatten.length+(R.drop k).flatten.length=R.flatten.length:=by
  rw[← List.length_append, ← List.flatten_append,List.take_append_drop]
 omega
theorem zh2 {c:List Int} {R:List (List Int)} (h:RF c R) {k s:Nat} (hk:k≤R.length): ∀ p∈zjn R (zls (nxR c R) k s),p∈seenS c:=by
 intro p hp
 unfold zjn at hp
 obtain⟨i,h1,h2⟩:=List.mem_flatMap.1 hp
 have hi:i<k:=by
  unfold zls at h1
  simpa using(List.mem_filter.1 h1).1
 exact h.mem _ (h.run (by omega)).1 _ h2
theorem zpa {c:List Int} {R:List (List Int)} (h:RF c R) {s:Nat} (hs:s<xl (nxR c R) R.length):zjn R (zls (nxR c R) R.length s)≠ []:=by
 have h1:s∈List.range (xl (nxR c R) R.length):=by simpa using hs
 rw[← zrz] at h1
 obtain⟨i,h2,h3⟩:=List.mem_map.1 h1
 simp only[List.mem_filter,List.mem_range,Option.isNone_iff_eq_none] at h2
 have h4:=zcf h2.2
 intro he
 have h5:i∈zls (nxR c R) R.length s:=by
  unfold zls
  simp only[List.mem_filter,List.mem_range,beq_iff_eq]
  exact⟨h2.1,by rw[h4,h3]⟩
 have h6:zli R i∈zjn R (zls (nxR c R) R.length s):=List.mem_flatMap.2 ⟨i,h5,h.fst_mem h2.1⟩
 rw[he] at h6;simp at h6
def zga (c v:List Int) (base:Int):List (List Int×Int×Int×Int):=
 (List.range (xl (nxR c (zij c v)) (zij c v).length)).map fun s=>zxv c v (zjn (zij c v) (zls (nxR c (zij c v)) (zij c v).length s)) base
theorem zt9 {A B C:Type} (R:List A) (z:C) (g:A→B) (f:Int×C×List B→Option ((Int×C×List B) ⊕ List B)) (h: ∀ (k:Nat) (hk:k<R.length),f ((k:Int),z,(R.take k).map g)=some (.inl (((k+1:Nat):Int),z,(R.take k).map g++ [g R[k]])))
  (he:f ((R.length:Int),z,R.map g)=some (.inr (R.map g))):iter f (0,z, [])=some (R.map g):=by
 refine zio (zv (I:=fun s=> ∃ k:Nat,k≤R.length∧s=((k:Int),z,(R.take k).map g)) (Q:=fun r=>r=R.map g) (fun s=>(R.length - s.1).toNat) ?_ _ ⟨0,Nat.zero_le _,rfl⟩)
 rintro _ ⟨k,hk,rfl⟩
 by_cases hkn:k<R.length
 ·refine .inl ⟨_,h k hkn,⟨k+1,hkn, ?_⟩,by simp;omega⟩
  rw[List.take_succ_eq_append_getElem hkn,List.map_append];rfl
 ·have:k=R.length:=by omega
  subst this
  rw[List.take_length]
  exact .inr ⟨_,he,rfl⟩
def zge (c:List Int) (R:List (List Int)) (m k:Nat):List (Bool×List Int):=(List.range (xl (nxR c R) m)).map fun s=>(true,zjn R (zls (nxR c R) k s))
theorem zpy {c:List Int} {R:List (List Int)} {m k s:Nat} (h:s<xl (nxR c R) m):(zge c R m k).getD s (false, [])=(true,zjn R (zls (nxR c R) k s)):=by
 unfold zge
 rw[zm _ (by simpa using h)]
 simp
theorem zs0 {c:List Int} {R:List (List Int)} {k:Nat} (hp:xf (nxR c R) k=none):zge c R k k++ [(true, [])]=zge c R (k+1) k:=by
 unfold zge
 rw[j8,hp]
 simp only[Option.isNone_none,if_true]
 rw[List.range_succ,List.map_append,List.map_singleton]
 have:=zuj (nx:=nxR c R) hp
 rw[zcf hp] at this
 rw[this];rfl
theorem zs1 {c:List Int} {R:List (List Int)} {k i:Nat} (hp:xf (nxR c R) k=some i):zge c R k k=zge c R (k+1) k:=by
 unfold zge
 rw[j8,hp]
 simp
theorem zvr {c:List Int} {R:List (List Int)} (k:Nat):(zge c R (k+1) k).set (zje (nxR c R) k) (true,zjn R (zls (nxR c R) k (zje (nxR c R) k))++R.getD k [])=zge c R (k+1) (k+1):=by
 unfold zge
 apply List.ext_getElem
 ·simp
 ·intro n h1 h2
  rw[List.getElem_set]
  split
  ·rename_i hn
   subst hn
   simp only[List.getElem_map,List.getElem_range]
   rw[zh3,if_pos (by simp)]
   simp[zjn]
  ·rename_i hn
   simp only[List.getElem_map,List.getElem_range]
   rw[zh3,if_neg (by simpa using hn),List.append_nil]
theorem zzn {c v:List Int} {base:Int} (hc:c.length≤100000):Lz.f28F (c,v,base)=some (if c.length=v.length then zga c v base else []):=by
 unfold Lz.f28F
 dsimp only
 by_cases hcv:c.length=v.length
 rotate_left
 ·rw[if_pos (by simp;omega),if_neg hcv]
 rw[if_neg (by simp;omega),if_pos hcv,zzu hc,zxi hc]
 simp only[Option.bind_some]
 have hsl:(seenS c).length≤100000:=Nat.le_trans (zki _ _) hc
 rw[zzv hcv.symm (fun p hp=>by obtain⟨j,rfl,h1,_⟩:=zV hp;omega) hsl hc]
 simp only[Option.bind_some]
 have hR:RF c (zac (zmg c v) (seenS c)):=zgs c v
 unfold zga zij
 generalize hRe:zac (zmg c v) (seenS c)=R at*
 have hcount:=hR.count
 have hml:(jj c).length=c.length:=by simp[jj]
 have second: ∀ x,x=zge c R R.length R.length→(Option.bind (iter (fun(s5:Int×List (Bool×List Int)×List (List Int×Int×Int×Int))=>
   if decide (s5.1<(x.length:Int))=true then
    if 0≤s5.1∧s5.1<(s5.2.1.length:Int) then
     Option.bind (Go.Sx.Lz.f48F ((c,v,seenS c,zf8 c),(s5.2.1.getD s5.1.toNat (false, [])).2,base)) fun v6=>
      if zj (s5.2.2.length+1) 48 then some (Sum.inl (IntKind.i64.wrap (s5.1+1),s5.2.1,s5.2.2++ [v6])) else none
    else none
   else some (Sum.inr s5.2.2)) (0,x, [])) fun v5=>some v5)=some ((List.range (xl (nxR c R) R.length)).map fun s=>zxv c v (zjn R (zls (nxR c R) R.length s)) base):=by
  rintro _ rfl
  have hlen:(zge c R R.length R.length).length=xl (nxR c R) R.length:=by simp[zge]
  have hrk:xl (nxR c R) R.length≤R.length:=by unfold xl;exact Nat.le_trans (List.length_filter_le _ _) (by simp)
  rw[zt9 (List.range (xl (nxR c R) R.length)) (zge c R R.length R.length) (fun s=>zxv c v (zjn R (zls (nxR c R) R.length s)) base)]
  ·rfl
  ·intro k hk
   have hk':k<xl (nxR c R) R.length:=by simpa using hk
   have hw:IntKind.i64.wrap ((k:Int)+1)=((k+1:Nat):Int):=by rw[za (by omega) (by omega)];omega
   have h1:=zlt hR R.length k (Nat.le_refl _)
   dsimp only
   simp (disch:=omega) only[if_pos,decide_eq_true_eq,hlen,Int.toNat_natCast,zpy hk',hw]
   rw[zyi hc hcv.symm (zpa hR hk') (by omega) (zh2 hR (Nat.le_refl _))]
   simp only[Option.bind_some]
   rw[if_pos (by unfold zj;simp;omega)]
   simp
  ·dsimp only
   rw[if_neg (by rw[decide_eq_true_eq,hlen];simp)]
 refine zio (qf (Q:=fun e=>e=zge c R R.length R.length) ?_ fun e he=>⟨_,second e he,rfl⟩)
 clear second
 refine zv (I:=fun(s:Int×List (Int×Int)×List (Bool×List Int))=> ∃ (k:Nat) (W:List (Int×Int)),k≤R.length∧s=((k:Int),W,zge c R k k)∧ ∀ p,zef (K:= .int .i64) (V:= .int .i64) W p=wS c R k p) (fun s=>(R.length - s.1).toNat) ?_ _ ⟨0, [],Nat.zero_le _,rfl,fun p=>rfl⟩
 rintro _ ⟨k,W,hk,rfl,hW⟩
 by_cases hkl:k<R.length
 rotate_left
 ·have:k=R.length:=by omega
  subst this
  right
  dsimp only
  rw[if_neg (by rw[decide_eq_true_eq];omega)]
  exact⟨_,rfl,rfl⟩
 left
 obtain⟨hr1,hr2,hr3⟩:=hR.run hkl
 have hrl:(R.getD k []).length≤c.length:=by
  have h1:(R.getD k []).length≤R.flatten.length:=by
   rw[List.length_flatten]
   exact zj4 hr1
  have:=hR.small;omega
 have hw:IntKind.i64.wrap ((k:Int)+1)=((k+1:Nat):Int):=by rw[za (by omega) (by omega)];omega
 have hwl:IntKind.i64.wrap (((R.getD k []).length:Int) - 1)=(((R.getD k []).length - 1:Nat):Int):=by rw[za (by omega) (by omega)];omega
 have hrk:xl (nxR c R) k≤k:=by unfold xl;exact Nat.le_trans (List.length_filter_le _ _) (by simp)
 have hrk1:xl (nxR c R) (k+1)≤k+1:=by unfold xl;exact Nat.le_trans (List.length_filter_le _ _) (by simp)
 have hal: ∀ m j,(zge c R m j).length=xl (nxR c R) m:=fun m j=>by simp[zge]
 have hfst:(R.getD k []).getD 0 0=zli R k:=rfl
 have hlst:(R.getD k []).getD ((R.getD k []).length - 1) 0=zoa R k:=rfl
 have hz:Int.toNat (0:Int)=0:=rfl
 have hget:zpb (.int .i64) (.int .i64) W (zli R k)=(xf (nxR c R) k).map fun i=>(zje (nxR c R) i:Int):=by
  show zef (K:= .int .i64) (V:= .int .i64) W (zli R k)=_
  rw[hW]
  unfold wS
  rw[hR.prev_find hkl]
 have hjoin: ∀ (T:Type) (K:Int×List (Int×Int)×List (Bool×List Int)→Option T),
   (Option.bind (if(!((xf (nxR c R) k).map fun i=>(zje (nxR c R) i:Int)).isSome)=true then
    if zj ((zge c R k k).length+1) 24 then some (((zge c R k k).length:Int),W,zge c R k k++ [(true, [])]) else none
   else some (Option.getD ((xf (nxR c R) k).map fun i=>(zje (nxR c R) i:Int)) 0,W,zge c R k k)) K)=K ((zje (nxR c R) k:Int),W,zge c R (k+1) k):=by
  intro T K
  cases hp:xf (nxR c R) k with
  |none=>
   simp only[Option.map_none,Option.isSome_none,Bool.not_false,if_true]
   rw[if_pos (by unfold zj;rw[hal];omega),zs0 hp,hal,zcf hp];rfl
  |some i=>
   simp only[Option.map_some,Option.isSome_some,Bool.not_true,Bool.false_eq_true,if_false,Option.getD_some]
   rw[zn3 hp,zs1 hp];rfl
 have hsx:=zu8 (nxR c R) k
 have hcl:=zlt hR k (zje (nxR c R) k) (by omega)
 obtain⟨j,hj,hj1,_⟩:=zV (hR.lst_seen hkl)
 dsimp only
 rw[if_pos (by rw[decide_eq_true_eq];omega),if_pos (by omega)]
 simp only[Int.toNat_natCast,hz]
 rw[if_pos (by omega)]
 simp only[hfst,hget,hwl,Int.toNat_natCast,hlst,hw]
 rw[hjoin]
 dsimp only
 rw[hal,if_pos (by omega)]
 simp only[Int.toNat_natCast,zpy hsx,List.length_set,hal,List.set_set,zvr,hw]
 rw[if_pos (by rfl),if_pos (by unfold zj;omega),if_pos (by omega),if_pos (by omega),if_pos (by rw[hj];omega)]
 simp only[zjw,Option.bind_some,hj,Int.toNat_natCast,hml]
 have hsucc:=hR.w_succ hkl
 cases ho:opens (c.getD j 0) with
 |false=>
  simp only[Bool.false_eq_true,if_false,Option.bind_some]
  refine⟨_,rfl,⟨k+1,W,hkl,rfl,fun p=> ?_⟩,by simp;omega⟩
  rw[hsucc,hW,if_neg (by unfold zmb;rw[hj,Int.toNat_natCast,ho];simp)]
 |true=>
  simp only[if_true]
  rw[if_pos (by omega)]
  simp only[Option.bind_some]
  have hme:=zau hj1 ho
  by_cases hm:(jj c).getD j 0= -1
  ·rw[hm,if_neg (by decide)]
   refine⟨_,rfl,⟨k+1,W,hkl,rfl,fun p=> ?_⟩,by simp;omega⟩
   rw[hsucc,hW,if_neg (by unfold zmb;rw[hj,Int.toNat_natCast,hm];simp)]
  ·rw[if_pos (by simpa using hm),if_pos (by omega)]
   have hpos:0≤(jj c).getD j 0:=by
    rw[hme] at hm ⊢
    rcases qP c j with h2|h2
    ·exact absurd h2 hm
    ·omega
   refine⟨_,rfl,⟨k+1,_,hkl,rfl,fun p=> ?_⟩,by simp;omega⟩
   show zef (K:= .int .i64) (V:= .int .i64) (zpd (K:= .int .i64) (V:= .int .i64) W _ _) p=_
   rw[zuk,hsucc,hW]
   have ht:zmb c R k=some ((jj c).getD j 0):=by unfold zmb;rw[hj,Int.toNat_natCast,if_pos ⟨ho,hpos⟩]
   rw[ht]
   by_cases hpm:p=(jj c).getD j 0
   ·rw[if_pos hpm,if_pos (by rw[hpm])]
   ·rw[if_neg hpm,if_neg (fun e=>hpm (Option.some.inj e).symm)]
end Go.Sx
