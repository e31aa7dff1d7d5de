import Derived.Test.YtlppdabhaipbkaaGreatDoorSxTMb
import Derived.Test.YtlppdabhaipbkaaGreatDoorSxS
set_option linter.unusedVariables false
set_option linter.unusedSimpArgs false
namespace Go.Sx
theorem zyn:Lz.f77F [19,20,21]=some 3670016:=by
 unfold Lz.f77F
 rw[qp (n:=4) (e:=3670016) (by rfl)]
 rfl
theorem zyj: ∀ n:Nat,n<23→Lz.f76F ((n:Int),3670016)=some (n==19||n==20||n==21):=by
 unfold Lz.f76F
 decide+kernel
def opens (c:Int):Bool:=c==19||c==20||c==21
theorem zjw (c:Int):Lz.f47F c=some (opens c):=by
 unfold Lz.f47F
 rw[zyn]
 show(Lz.f76F (c,3670016)).bind _=_
 by_cases h0:0≤c
 ·by_cases h1:c<23
  ·obtain⟨n,rfl⟩:=Int.eq_ofNat_of_zero_le h0
   have hn:n<23:=by omega
   rw[zyj n hn]
   simp only[Option.bind_some,opens]
   congr 1
   have e1:((n:Int)==19)=(n==19):=by rw[Bool.eq_iff_iff];simp;omega
   have e2:((n:Int)==20)=(n==20):=by rw[Bool.eq_iff_iff];simp;omega
   have e3:((n:Int)==21)=(n==21):=by rw[Bool.eq_iff_iff];simp;omega
   rw[e1,e2,e3]
  ·have:Lz.f76F (c,3670016)=some false:=by
    unfold Lz.f76F
    simp[show c≥0 by omega,show ¬ c≤22 by omega]
   rw[this]
   simp[opens]
   omega
 ·have:Lz.f76F (c,3670016)=some false:=by
   unfold Lz.f76F
   simp[h0]
  rw[this]
  simp[opens]
  omega
theorem qZ (b:ByteArray):b.toList=b.data.toList:=by
 unfold ByteArray.toList
 have hsz:b.data.toList.length=b.size:=Array.length_toList
 have key: ∀ (n i:Nat) (r:List UInt8),b.size - i=n→ByteArray.toList.loop b i r=r.reverse++b.data.toList.drop i:=by
  intro n
  induction n with
  |zero=>
   intro i r h
   unfold ByteArray.toList.loop
   rw[if_neg (by omega),List.drop_of_length_le (by rw[hsz];omega)]
   simp
  |succ n ih=>
   intro i r h
   unfold ByteArray.toList.loop
   rw[if_pos (by omega),ih (i+1) _ (by omega)]
   have hi:i<b.data.toList.length:=by rw[hsz];omega
   rw[List.drop_eq_getElem_cons hi]
   simp[ByteArray.get!,getElem!_pos b.data i (by simpa using hi)]
 simpa using key b.size 0 [] rfl
def xR (c:Int):Int:=if c=1∨c=2 then 1 else if c=0∨c<0∨23≤c then 0 else -1
theorem zwa: ∀ n:Nat,n<23→Lz.f109F (n:Int)=some (xR n):=by
 have hw: ∀ n:Nat,n<23→(Lz.words[n]?.getD ByteArray.empty).data.isEmpty=false:=by decide+kernel
 intro n hn
 unfold Lz.f109F Lz.f118F
 have h1:=hw n hn
 simp only[qZ]
 by_cases a1:n=1
 ·subst a1;simp[xR]
 ·by_cases a2:n=2
  ·subst a2;simp[xR]
  ·by_cases a0:n=0
   ·subst a0;simp[xR]
   ·have b0: ¬ (n:Int)=0:=by omega
    have b1: ¬ (n:Int)=1:=by omega
    have b2: ¬ (n:Int)=2:=by omega
    have b3: ¬ (n:Int)<0:=by omega
    have b4: ¬ (23:Int)≤n:=by omega
    have b5:(n:Int)<23:=by omega
    simp[xR,b0,b1,b2,b3,b4,b5,h1,a0]
theorem zx7 (c:Int):Lz.f109F c=some (xR c):=by
 by_cases h0:0≤c
 ·by_cases h1:c<23
  ·obtain⟨n,rfl⟩:=Int.eq_ofNat_of_zero_le h0
   exact zwa n (by omega)
  ·unfold Lz.f109F Lz.f118F
   have b1: ¬ c=1:=by omega
   have b2: ¬ c=2:=by omega
   have b0: ¬ c=0:=by omega
   simp[xR,b0,b1,b2,show ¬ c<0 by omega,show 23≤c by omega,qZ]
 ·unfold Lz.f109F Lz.f118F
  have b1: ¬ c=1:=by omega
  have b2: ¬ c=2:=by omega
  have b0: ¬ c=0:=by omega
  simp[xR,b0,b1,b2,show c<0 by omega,qZ]
def scan:List Int→Nat→Nat→Int
 | [],_,_=> -1
 |c::l,d,k=>if c=10 then -1 else if opens c then scan l (d+1) (k+1) else if c=22 then(if d=1 then(k:Int) else scan l (d - 1) (k+1)) else scan l d (k+1)
def endOf (l:List Int) (j:Nat):Int:=scan (l.drop (j+1)) 1 (j+1)
theorem za3: ∀ (l:List Int) (d k:Nat),scan l d k= -1∨((k:Int)≤scan l d k∧scan l d k<k+l.length)
 | [],d,k=> .inl rfl
 |c::l,d,k=>by
  have h1:=za3 l (d+1) (k+1)
  have h2:=za3 l (d - 1) (k+1)
  have h3:=za3 l d (k+1)
  unfold scan
  simp only[List.length_cons]
  split
  ·exact .inl rfl
  ·split
   ·omega
   ·split
    ·split
     ·omega
     ·omega
    ·omega
theorem zu4: ∀ (l:List Int) (d k i:Nat),scan l d k=(k+i:Nat)→l[i]? =some 22
 | [],d,k,i,h=>by simp[scan] at h;omega
 |c::l,d,k,i,h=>by
  unfold scan at h
  have go: ∀ d',scan l d' (k+1)=((k+i:Nat):Int)→(c::l)[i]? =some 22:=by
   intro d' h'
   cases i with
   |zero=>
    rcases za3 l d' (k+1) with h2|h2
    ·omega
    ·omega
   |succ i=>
    have:=zu4 l d' (k+1) i (by rw[h'];congr 1;omega)
    simpa using this
  split at h
  ·omega
  ·split at h
   ·exact go _ h
   ·split at h
    ·rename_i hc
     split at h
     ·have:i=0:=by omega
      subst this
      simp[hc]
     ·exact go _ h
    ·exact go _ h
theorem zcr: ∀ (l:List Int) (d e k:Nat),1≤d→d<e→0≤scan l d k→scan l e k≠scan l d k
 | [],d,e,k,_,_,h=>by simp[scan] at h
 |c::l,d,e,k,h1,h2,h=>by
  unfold scan at h ⊢
  split
  ·rename_i hc;rw[if_pos hc] at h;omega
  ·rename_i hc
   rw[if_neg hc] at h
   split
   ·rename_i ho
    rw[if_pos ho] at h
    exact zcr l _ _ _ (by omega) (by omega) h
   ·rename_i ho
    rw[if_neg ho] at h
    split
    ·rename_i hp
     rw[if_pos hp] at h
     rw[if_neg (show ¬ e=1 by omega)]
     split
     ·rcases za3 l (e - 1) (k+1) with h3|h3<;>omega
     ·rename_i hd
      rw[if_neg hd] at h
      exact zcr l _ _ _ (by omega) (by omega) h
    ·rename_i hp
     rw[if_neg hp] at h
     exact zcr l _ _ _ h1 h2 h
structure IsMatch (l m:List Int):Prop where
 len:m.length=l.length
 op: ∀ j (h:j<l.length),opens l[j]=true→m.getD j 0=endOf l j
 no: ∀ k (h:k<l.length),opens l[k]=false→(∃ j,j<k∧(∃ hj:j<l.length,opens l[j]=true)∧endOf l j=k∧m.getD k 0=j)∨(m.getD k 0= -1∧ ∀ j (hj:j<l.length),opens l[j]=true→endOf l j≠k)
structure MInv (l:List Int) (k:Nat) (m:List Int) (rs:List Nat):Prop where
 le:k≤l.length
 len:m.length=l.length
 st: ∀ t (h:t<rs.length),rs[t]<k∧(∃ hj:rs[t]<l.length,opens l[rs[t]]=true)∧endOf l rs[t]=scan (l.drop k) (t+1) k
 nd:rs.Nodup
 opIn: ∀ j (h:j<l.length),j<k→opens l[j]=true→j∈rs→m.getD j 0= -1
 opOut: ∀ j (h:j<l.length),j<k→opens l[j]=true→j∉rs→m.getD j 0=endOf l j∧endOf l j<k
 no: ∀ i (h:i<l.length),i<k→opens l[i]=false→(∃ j,j<i∧(∃ hj:j<l.length,opens l[j]=true)∧endOf l j=i∧m.getD i 0=j)∨(m.getD i 0= -1∧ ∀ j (hj:j<l.length),opens l[j]=true→endOf l j≠i)
theorem qP (l:List Int) (j:Nat):endOf l j= -1∨((j:Int)<endOf l j∧endOf l j<l.length):=by
 unfold endOf
 rcases za3 (l.drop (j+1)) 1 (j+1) with h|⟨h1,h2⟩
 ·exact .inl h
 ·right
  rw[List.length_drop] at h2
  refine⟨by omega, ?_⟩
  by_cases hj:j+1≤l.length
  ·omega
  ·rw[List.drop_of_length_le (by omega)] at h1 ⊢
   simp[scan] at h1
   omega
theorem zp7 {l:List Int} {j k:Nat} (h:endOf l j=k):l[k]? =some 22:=by
 unfold endOf at h
 rcases za3 (l.drop (j+1)) 1 (j+1) with h1|h1
 ·omega
 ·have:=zu4 (l.drop (j+1)) 1 (j+1) (k - (j+1)) (by rw[h];congr 1;omega)
  rw[List.getElem?_drop] at this
  rw[← this]
  congr 1
  omega
theorem qQ (m:List Int) (i j:Nat) (v:Int) (h:i<m.length):(m.set i v).getD j 0=if i=j then v else m.getD j 0:=by
 simp only[List.getD_eq_getElem?_getD,List.getElem?_set]
 split
 ·rename_i hij
  subst hij
  simp[h]
 ·rfl
theorem MInv.done {l m:List Int} {rs:List Nat} (h:MInv l l.length m rs):IsMatch l m where
 len:=h.len
 op:=fun j hj ho=>by
  by_cases hm:j∈rs
  ·rw[h.opIn j hj hj ho hm]
   obtain⟨t,ht,rfl⟩:=List.mem_iff_getElem.1 hm
   obtain⟨_,_,h3⟩:=h.st t ht
   rw[h3,List.drop_of_length_le (by omega)]
   rfl
  ·exact(h.opOut j hj hj ho hm).1
 no:=fun k hk ho=>h.no k hk hk ho
theorem jY {l:List Int} {k:Nat} (h:k<l.length):l.drop k=l[k]::l.drop (k+1):=List.drop_eq_getElem_cons h
theorem MInv.onB {l m:List Int} {rs:List Nat} {k:Nat} (h:MInv l k m rs) (hk:k<l.length) (hc:l[k]=10):MInv l (k+1) (m.set k (-1)) [] where
 le:=hk
 len:=by simp[h.len]
 st:=fun t ht=>by simp at ht
 nd:=List.nodup_nil
 opIn:=fun j hj hlt ho hm=>by simp at hm
 opOut:=fun j hj hlt ho _=>by
  have hjk:j≠k:=by intro e;subst e;rw[hc] at ho;simp[opens] at ho
  rw[qQ _ _ _ _ (by rw[h.len];exact hk),if_neg (Ne.symm hjk)]
  by_cases hm:j∈rs
  ·rw[h.opIn j hj (by omega) ho hm]
   obtain⟨t,ht,rfl⟩:=List.mem_iff_getElem.1 hm
   obtain⟨_,_,h3⟩:=h.st t ht
   rw[h3,jY hk,hc]
   simp[scan]
   omega
  ·obtain⟨h1,h2⟩:=h.opOut j hj (by omega) ho hm
   exact⟨h1,by omega⟩
 no:=fun i hi hlt ho=>by
  rw[qQ _ _ _ _ (by rw[h.len];exact hk)]
  by_cases hik:k=i
  ·subst hik
   right
   refine⟨by simp,fun j hj ho' he=> ?_⟩
   have:=zp7 he
   rw[List.getElem?_eq_getElem hk,hc] at this
   simp at this
  ·rw[if_neg hik]
   exact h.no i hi (by omega) ho
theorem MInv.onOpen {l m:List Int} {rs:List Nat} {k:Nat} (h:MInv l k m rs) (hk:k<l.length) (hc:opens l[k]=true):MInv l (k+1) (m.set k (-1)) (k::rs) where
 le:=hk
 len:=by simp[h.len]
 st:=fun t ht=>by
  have h10: ¬ l[k]=10:=by intro e;rw[e] at hc;simp[opens] at hc
  cases t with
  |zero=>exact⟨by simp,⟨hk,hc⟩,rfl⟩
  |succ t=>
   have ht':t<rs.length:=by simpa using ht
   obtain⟨h1,h2,h3⟩:=h.st t ht'
   refine⟨?_,h2, ?_⟩
   ·show rs[t]<k+1
    omega
   ·show endOf l rs[t]=_
    rw[h3,jY hk]
    conv=>lhs;unfold scan
    rw[if_neg h10,if_pos hc]
 nd:=by
  rw[List.nodup_cons]
  refine⟨fun hm=> ?_,h.nd⟩
  obtain⟨t,ht,e⟩:=List.mem_iff_getElem.1 hm
  have:=(h.st t ht).1
  omega
 opIn:=fun j hj hlt ho hm=>by
  rw[qQ _ _ _ _ (by rw[h.len];exact hk)]
  by_cases hjk:k=j
  ·rw[if_pos hjk]
  ·rw[if_neg hjk]
   refine h.opIn j hj (by omega) ho ?_
   rcases List.mem_cons.1 hm with rfl|hm
   ·exact absurd rfl hjk
   ·exact hm
 opOut:=fun j hj hlt ho hm=>by
  rw[List.mem_cons,not_or] at hm
  rw[qQ _ _ _ _ (by rw[h.len];exact hk),if_neg (fun e=>hm.1 e.symm)]
  obtain⟨h1,h2⟩:=h.opOut j hj (by omega) ho hm.2
  exact⟨h1,by omega⟩
 no:=fun i hi hlt ho=>by
  have hik: ¬ k=i:=by intro e;subst e;rw[ho] at hc;cases hc
  rw[qQ _ _ _ _ (by rw[h.len];exact hk),if_neg hik]
  exact h.no i hi (by omega) ho
theorem MInv.onPop {l m:List Int} {r:Nat} {rs:List Nat} {k:Nat} (h:MInv l k m (r::rs)) (hk:k<l.length) (hc:l[k]=22):MInv l (k+1) (((m.set k (-1)).set k r).set r k) rs:=by
 have h10: ¬ l[k]=10:=by rw[hc];omega
 have hno:opens l[k]=false:=by rw[hc];rfl
 obtain⟨hr1,⟨hr2,hr3⟩,hr4⟩:=h.st 0 (by simp)
 have hr1':r<k:=hr1
 have hr3':opens l[r]=true:=hr3
 have hend:endOf l r=k:=by
  have:endOf l r=scan (l.drop k) 1 k:=hr4
  rw[this,jY hk]
  unfold scan
  rw[if_neg h10,if_neg (by rw[hno];simp),if_pos hc,if_pos rfl]
 have hget: ∀ j,(((m.set k (-1)).set k r).set r (k:Int)).getD j 0=if r=j then(k:Int) else if k=j then(r:Int) else m.getD j 0:=by
  intro j
  rw[qQ _ _ _ _ (by simp[h.len];omega),qQ _ _ _ _ (by simp[h.len];omega),qQ _ _ _ _ (by simp[h.len];omega)]
  split
  ·rfl
  ·split<;>rfl
 have hnd:=List.nodup_cons.1 h.nd
 exact {
  le:=hk
  len:=by simp[h.len]
  st:=fun t ht=>by
   obtain⟨h1,h2,h3⟩:=h.st (t+1) (by simpa using ht)
   refine⟨?_,h2, ?_⟩
   ·have:rs[t]<k:=h1
    omega
   ·have h3':endOf l rs[t]=scan (l.drop k) (t+1+1) k:=h3
    rw[h3',jY hk]
    conv=>lhs;unfold scan
    rw[if_neg h10,if_neg (by rw[hno];simp),if_pos hc,if_neg (by omega)]
    rfl
  nd:=hnd.2
  opIn:=fun j hj hlt ho hm=>by
   have hjk: ¬ k=j:=by intro e;subst e;rw[ho] at hno;cases hno
   have hjr: ¬ r=j:=by intro e;subst e;exact hnd.1 hm
   rw[hget,if_neg hjr,if_neg hjk]
   exact h.opIn j hj (by omega) ho (List.mem_cons_of_mem _ hm)
  opOut:=fun j hj hlt ho hm=>by
   have hjk: ¬ k=j:=by intro e;subst e;rw[ho] at hno;cases hno
   rw[hget]
   by_cases hjr:r=j
   ·subst hjr
    rw[if_pos rfl,hend]
    exact⟨rfl,by omega⟩
   ·rw[if_neg hjr,if_neg hjk]
    obtain⟨h1,h2⟩:=h.opOut j hj (by omega) ho (by rw[List.mem_cons,not_or];exact⟨fun e=>hjr e.symm,hm⟩)
    exact⟨h1,by omega⟩
  no:=fun i hi hlt ho=>by
   have hir: ¬ r=i:=by intro e;subst e;rw[ho] at hr3';cases hr3'
   rw[hget,if_neg hir]
   by_cases hik:k=i
   ·subst hik
    rw[if_pos rfl]
    exact .inl ⟨r,hr1',⟨hr2,hr3'⟩,hend,rfl⟩
   ·rw[if_neg hik]
    exact h.no i hi (by omega) ho}
theorem MInv.onElse {l m:List Int} {rs:List Nat} {k:Nat} (h:MInv l k m rs) (hk:k<l.length) (h10: ¬ l[k]=10) (hno:opens l[k]=false) (h22:l[k]=22→rs= []):MInv l (k+1) (m.set k (-1)) rs where
 le:=hk
 len:=by simp[h.len]
 st:=fun t ht=>by
  obtain⟨h1,h2,h3⟩:=h.st t ht
  refine⟨by omega,h2, ?_⟩
  rw[h3,jY hk]
  conv=>lhs;unfold scan
  rw[if_neg h10,if_neg (by rw[hno];simp),if_neg (fun e=>by have:=h22 e;subst this;simp at ht)]
 nd:=h.nd
 opIn:=fun j hj hlt ho hm=>by
  have hjk: ¬ k=j:=by intro e;subst e;rw[ho] at hno;cases hno
  rw[qQ _ _ _ _ (by rw[h.len];exact hk),if_neg hjk]
  exact h.opIn j hj (by omega) ho hm
 opOut:=fun j hj hlt ho hm=>by
  have hjk: ¬ k=j:=by intro e;subst e;rw[ho] at hno;cases hno
  rw[qQ _ _ _ _ (by rw[h.len];exact hk),if_neg hjk]
  obtain⟨h1,h2⟩:=h.opOut j hj (by omega) ho hm
  exact⟨h1,by omega⟩
 no:=fun i hi hlt ho=>by
  rw[qQ _ _ _ _ (by rw[h.len];exact hk)]
  by_cases hik:k=i
  ·subst hik
   rw[if_pos rfl]
   right
   refine⟨rfl,fun j hj ho' he=> ?_⟩
   have h1:=zp7 he
   rw[List.getElem?_eq_getElem hk] at h1
   have h2:l[k]=22:=by simpa using h1
   have h3:=h22 h2
   subst h3
   by_cases hjk:j<k
   ·have:=(h.opOut j hj hjk ho' (by simp)).2
    omega
   ·rcases qP l j with h4|h4<;>omega
  ·rw[if_neg hik]
   exact h.no i hi (by omega) ho
def zsw (rs:List Nat):List Int:=(rs.map fun(j:Nat)=>(j:Int)).reverse
theorem zeb (rs:List Nat):(zsw rs).length=rs.length:=by simp[zsw]
theorem zhw (rs:List Nat) (r:Nat):zsw (r::rs)=zsw rs++ [(r:Int)]:=by simp[zsw]
theorem zve (rs:List Nat) (r:Nat):(zsw (r::rs)).take rs.length=zsw rs:=by
 rw[zhw,List.take_left' (zeb rs)]
theorem zwf (rs:List Nat) (r:Nat):(zsw (r::rs)).getD rs.length 0=(r:Int):=by
 rw[zhw,List.getD_eq_getElem?_getD,List.getElem?_append_right (by rw[zeb];omega),zeb]
 simp
theorem zxj (l:List Int) (hl:l.length≤100000): ∃ m,Lz.f45F l=some m∧IsMatch l m:=by
 unfold Lz.f45F
 rw[if_pos (by refine⟨by omega,Int.le_refl _, ?_⟩;unfold zj;simp;omega)]
 refine qf (zv (I:=fun s=> ∃ (k:Nat) (m:List Int) (rs:List Nat),s=((k:Int),m,zsw rs)∧MInv l k m rs) (Q:=fun m=>IsMatch l m)
  (fun s=>(l.length - s.1).toNat) ?_ _ ?_) fun m hm=>⟨m,rfl,hm⟩
 ·rintro _ ⟨k,m,rs,rfl,h⟩
  have hle:=h.le
  dsimp only
  by_cases hk:k<l.length
  ·have hk':(k:Int)<l.length:=by omega
   have hb:(0:Int)≤k∧(k:Int)<l.length:=⟨by omega,hk'⟩
   have hbm:(0:Int)≤k∧(k:Int)<m.length:=⟨by omega,by rw[h.len];exact hk'⟩
   have hget:l.getD k 0=l[k]:=by simp[List.getD_eq_getElem?_getD,hk]
   have hwr:IntKind.i64.wrap ((k:Int)+1)=((k+1:Nat):Int):=by rw[za (by omega) (by omega)];rfl
   have hrs:rs.length≤l.length:=by
    have:=h.nd
    have hsub: ∀ x∈rs,x∈List.range l.length:=by
     intro x hx
     obtain⟨t,ht,rfl⟩:=List.mem_iff_getElem.1 hx
     obtain⟨_,⟨hj,_⟩,_⟩:=h.st t ht
     exact List.mem_range.2 hj
    have:=this.length_le_of_subset hsub
    simpa using this
   simp only[hk',decide_true,if_true,hb,hbm,and_self,hget,hwr,zjw,Option.bind_some,Int.toNat_natCast]
   by_cases h10:l[k]=10
   ·simp only[h10,beq_self_eq_true,if_true]
    exact .inl ⟨_,rfl,⟨k+1,_, [],rfl,h.onB hk h10⟩,by simp;omega⟩
   ·simp only[show(l[k]==(10:Int))=false by simpa using h10,Bool.false_eq_true,if_false]
    cases ho:opens l[k] with
    |true=>
     simp only[if_true]
     rw[if_pos (by unfold zj;simp[zeb];omega)]
     exact .inl ⟨_,rfl,⟨k+1,_,k::rs,by rw[zhw],h.onOpen hk ho⟩,by simp;omega⟩
    |false=>
     simp only[Bool.false_eq_true,if_false]
     by_cases h22:l[k]=22
     ·simp only[h22,beq_self_eq_true,if_true,Option.bind_some]
      cases rs with
      |nil=>
       rw[if_neg (by simp[zsw])]
       exact .inl ⟨_,rfl,⟨k+1,_, [],rfl,h.onElse hk h10 ho (fun _=>rfl)⟩,by simp;omega⟩
      |cons r rs=>
       have hlen:((zsw (r::rs)).length:Int)=(rs.length:Int)+1:=by rw[zeb];simp
       have hlr:rs.length<l.length:=by simp at hrs;omega
       have hw2:IntKind.i64.wrap (((zsw (r::rs)).length:Int) - 1)=(rs.length:Int):=by rw[hlen,za (by omega) (by omega)];omega
       rw[if_pos (by rw[hlen];simp<;>omega)]
       simp only[hw2,Int.toNat_natCast]
       have hlast:=zwf rs r
       obtain⟨hr1,_,_⟩:=h.st 0 (by simp)
       have hr1':r<k:=hr1
       rw[if_pos ⟨by omega,by rw[hlen];omega⟩,if_pos ⟨by omega,by rw[hlen];omega⟩,if_pos ⟨trivial,by rw[List.length_set];exact hbm.2⟩]
       simp only[hlast,Int.toNat_natCast]
       rw[if_pos (by simp only[List.length_set,h.len];omega)]
       refine .inl ⟨_,rfl,⟨k+1,_,rs,by rw[zve],h.onPop hk h22⟩,by simp;omega⟩
     ·simp only[show(l[k]==(22:Int))=false by simpa using h22,Bool.false_eq_true,if_false,Option.bind_some]
      exact .inl ⟨_,rfl,⟨k+1,_,rs,rfl,h.onElse hk h10 ho (fun e=>absurd e h22)⟩,by simp;omega⟩
  ·have:k=l.length:=by omega
   subst this
   right
   simp only[show ¬ ((l.length:Int)<l.length) by omega,decide_false,Bool.false_eq_true,if_false]
   exact⟨m,rfl,h.done⟩
 ·refine⟨0,_, [],rfl, ?_⟩
  exact { le:=Nat.zero_le _,len:=by simp,st:=fun t ht=>by simp at ht,nd:=List.nodup_nil,opIn:=fun j _ hj=>by omega,opOut:=fun j _ hj=>by omega,no:=fun j _ hj=>by omega}
def zU (l:List Int) (to:Int) (i:Nat):Int:=
 if h:i<l.length then
  if(i:Int)<to then
   if l[i]=10 then -1
   else if opens l[i]=true then(if he:endOf l i= -1 then -1 else zU l to ((endOf l i).toNat+1))
   else if xR l[i]= -1 then zU l to (i+1) else xR l[i]
  else -1
 else -1
termination_by l.length - i
decreasing_by
 ·have:=qP l i
  omega
 ·omega
theorem zt1 {l m:List Int} (hm:IsMatch l m) (hl:l.length≤100000) (from_ to:Int):Lz.f73F (l,m,from_,to)=some (zU l to from_.toNat):=by
 suffices h: ∃ r,Lz.f73F (l,m,from_,to)=some r∧r=zU l to from_.toNat by
  obtain⟨r,h1,rfl⟩:=h
  exact h1
 obtain⟨R0,hR⟩: ∃ R0,zU l to from_.toNat=R0:=⟨_,rfl⟩
 rw[hR]
 unfold Lz.f73F
 refine qf (zv (I:=fun(s:Int)=> ∃ i:Nat,s=(i:Int)∧zU l to i=R0) (Q:=fun e=>Sum.elim (fun _=>(-1:Int)) (fun v=>v) e=R0)
  (fun(s:Int)=>((l.length:Int) - s).toNat) ?_ _ ?_) ?_
 ·rintro _ ⟨i,rfl,h⟩
  dsimp only
  have hmin:((i:Int)<zgn to l.length)↔(i:Int)<to∧i<l.length:=by
   unfold zgn
   split<;>omega
  by_cases hi:i<l.length
  ·have hb:(0:Int)≤i∧(i:Int)<l.length:=⟨by omega,by omega⟩
   have hbm:(0:Int)≤i∧(i:Int)<m.length:=⟨by omega,by rw[hm.len];omega⟩
   have hget:l.getD i 0=l[i]:=by simp[List.getD_eq_getElem?_getD,hi]
   have hwr:IntKind.i64.wrap ((i:Int)+1)=((i+1:Nat):Int):=by rw[za (by omega) (by omega)];rfl
   by_cases hto:(i:Int)<to
   ·have hmin':(i:Int)<zgn to l.length:=hmin.2 ⟨hto,hi⟩
    rw[if_pos (decide_eq_true hmin'),if_pos hb,if_pos hb,if_pos hb,if_pos hbm]
    simp only[Int.toNat_natCast,hget,Option.bind_some,zjw,zx7,hwr]
    unfold zU at h
    rw[dif_pos hi,if_pos hto] at h
    by_cases h10:l[i]=10
    ·rw[if_pos h10] at h
     simp only[h10,bne_self_eq_false,Bool.false_eq_true,if_false]
     exact .inr ⟨_,rfl,h⟩
    ·rw[if_neg h10] at h
     simp only[show(l[i]!=(10:Int))=true by simpa using h10,if_true]
     cases ho:opens l[i] with
     |true=>
      rw[if_pos ho] at h
      simp only[if_true,hm.op i hi ho]
      by_cases he:endOf l i= -1
      ·rw[dif_pos he] at h
       simp only[he,beq_self_eq_true,if_true]
       exact .inr ⟨_,rfl,h⟩
      ·rw[dif_neg he] at h
       simp only[show(endOf l i==(-1:Int))=false by simpa using he,Bool.false_eq_true,if_false]
       have hgt:=qP l i
       rw[za (by omega) (by omega)]
       exact .inl ⟨_,rfl,⟨(endOf l i).toNat+1,by omega,h⟩,by omega⟩
     |false=>
      rw[if_neg (by rw[ho];simp)] at h
      simp only[Bool.false_eq_true,if_false]
      by_cases hs:xR l[i]= -1
      ·rw[if_pos hs] at h
       simp only[hs,bne_self_eq_false,Bool.false_eq_true,if_false]
       exact .inl ⟨_,rfl,⟨i+1,rfl,h⟩,by omega⟩
      ·rw[if_neg hs] at h
       simp only[show(xR l[i]!=(-1:Int))=true by simpa using hs,if_true]
       exact .inr ⟨_,rfl,h⟩
   ·unfold zU at h
    rw[dif_pos hi,if_neg hto] at h
    have hno: ¬ (i:Int)<zgn to l.length:=fun h'=>hto (hmin.1 h').1
    rw[if_neg (by simpa using hno)]
    exact .inr ⟨_,rfl,h⟩
  ·unfold zU at h
   rw[dif_neg hi] at h
   have hno: ¬ (i:Int)<zgn to l.length:=fun h'=>hi (hmin.1 h').2
   rw[if_neg (by simpa using hno)]
   exact .inr ⟨_,rfl,h⟩
 ·refine⟨from_.toNat, ?_,hR⟩
  dsimp only
  unfold zlr;split<;>omega
 ·intro e he
  cases e with
  |inl u=>exact⟨_,rfl,he⟩
  |inr v=>exact⟨_,rfl,he⟩
theorem zzs {l:List Int} (hl:l.length≤100000) (from_ to:Int):Lz.f42F (l,from_,to)=some (zU l to from_.toNat):=by
 unfold Lz.f42F
 obtain⟨m,h1,h2⟩:=zxj l hl
 simp only[h1,Option.bind_some]
 rw[zt1 h2 hl]
 rfl
theorem zhp (l:List Int) (to:Int) (i:Nat) (h:to≤i):zU l to i= -1:=by
 unfold zU
 split
 ·rw[if_neg (by omega)]
 ·rfl
theorem zik (c:Int) (l:List Int) (d k:Nat):scan (c::l) d k=if c=10 then -1 else if opens c then scan l (d+1) (k+1) else if c=22 then(if d=1 then(k:Int) else scan l (d - 1) (k+1)) else scan l d (k+1):=rfl
theorem zep: ∀ (i:Nat) (l:List Int) (d k:Nat),1≤d→((k+i:Nat):Int)≤scan l d k→ ∃ d',1≤d'∧scan l d k=scan (l.drop i) d' (k+i)
 |0,l,d,k,hd,_=>⟨d,hd,rfl⟩
 |i+1, [],d,k,_,h=>by simp[scan] at h;omega
 |i+1,c::l,d,k,hd,h=>by
  have e:k+(i+1)=k+1+i:=by omega
  rw[e] at h ⊢
  simp only[List.drop_succ_cons]
  rw[zik] at h ⊢
  split
  ·rename_i hc;rw[if_pos hc] at h;omega
  ·rename_i hc
   rw[if_neg hc] at h
   split
   ·rename_i ho
    rw[if_pos ho] at h
    exact zep i l _ _ (by omega) h
   ·rename_i ho
    rw[if_neg ho] at h
    split
    ·rename_i hp
     rw[if_pos hp] at h
     split
     ·rename_i h1
      rw[if_pos h1] at h
      omega
     ·rename_i h1
      rw[if_neg h1] at h
      exact zep i l _ _ (by omega) h
    ·rename_i hp
     rw[if_neg hp] at h
     exact zep i l _ _ hd h
theorem zhd {l:List Int} {i j:Nat} (hij:i<j) (hj:j<l.length) (ho:opens l[j]=true) (h:(j:Int)<endOf l i):endOf l j≠endOf l i:=by
 intro he
 unfold endOf at h he
 obtain⟨d,hd,e⟩:=zep (j - (i+1)) (l.drop (i+1)) 1 (i+1) (Nat.le_refl 1) (by omega)
 rw[List.drop_drop,show i+1+(j - (i+1))=j by omega,jY hj] at e
 have h10: ¬ l[j]=10:=by intro e;rw[e] at ho;simp[opens] at ho
 conv at e=>rhs;unfold scan
 rw[if_neg h10,if_pos ho] at e
 rw[e] at he
 exact zcr _ _ (d+1) _ (by omega) (by omega) (by rw[he, ← e];omega) he.symm
theorem zm3 {l:List Int} {i j k:Nat} (hi:i<l.length) (hj:j<l.length) (hoi:opens l[i]=true) (hoj:opens l[j]=true) (h1:endOf l i=k) (h2:endOf l j=k):i=j:=by
 rcases Nat.lt_trichotomy i j with h|h|h
 ·rcases qP l j with h3|h3
  ·omega
  ·exact absurd (h2.trans h1.symm) (zhd h hj hoj (by omega))
 ·exact h
 ·rcases qP l i with h3|h3
  ·omega
  ·exact absurd (h1.trans h2.symm) (zhd h hi hoi (by omega))
theorem IsMatch.unique {l m m':List Int} (h:IsMatch l m) (h':IsMatch l m'):m=m':=by
 apply List.ext_getElem (by rw[h.len,h'.len])
 intro k h1 h2
 have hk:k<l.length:=by rw[← h.len];exact h1
 have e1:m.getD k 0=m[k]:=by simp[List.getD_eq_getElem?_getD,h1]
 have e2:m'.getD k 0=m'[k]:=by simp[List.getD_eq_getElem?_getD,h2]
 rw[← e1, ← e2]
 cases ho:opens l[k] with
 |true=>rw[h.op k hk ho,h'.op k hk ho]
 |false=>
  rcases h.no k hk ho with ⟨j,a1,⟨a2,a3⟩,a4,a5⟩|⟨a1,a2⟩
  ·rcases h'.no k hk ho with ⟨j',b1,⟨b2,b3⟩,b4,b5⟩|⟨b1,b2⟩
   ·rw[a5,b5,zm3 a2 b2 a3 b3 a4 b4]
   ·exact absurd a4 (b2 j a2 a3)
  ·rcases h'.no k hk ho with ⟨j',b1,⟨b2,b3⟩,b4,b5⟩|⟨b1,b2⟩
   ·exact absurd b4 (a2 j' b2 b3)
   ·rw[a1,b1]
def zoi (l:List Int) (k:Nat):Int:=
 match (List.range k).find? fun j=>opens (l.getD j 0)&&endOf l j==k with
 |some j=>j
 |none=> -1
def jj (l:List Int):List Int:=(List.range l.length).map fun k=>if opens (l.getD k 0)=true then endOf l k else zoi l k
theorem znp (l:List Int):IsMatch l (jj l):=by
 have hg: ∀ k (h:k<l.length),(jj l).getD k 0=if opens (l.getD k 0)=true then endOf l k else zoi l k:=by
  intro k h
  simp[jj,List.getD_eq_getElem?_getD,h]
 have hl: ∀ k (h:k<l.length),l.getD k 0=l[k]:=fun k h=>by simp[List.getD_eq_getElem?_getD,h]
 refine⟨by simp[jj],fun j h ho=> ?_,fun k h ho=> ?_⟩
 ·rw[hg j h,hl j h,if_pos ho]
 ·rw[hg k h,hl k h,if_neg (by rw[ho];simp)]
  unfold zoi
  split
  ·rename_i j hj
   have h1:=List.find?_some hj
   have h2:=List.mem_range.1 (List.mem_of_find?_eq_some hj)
   simp only[Bool.and_eq_true,beq_iff_eq] at h1
   have hjl:j<l.length:=by omega
   rw[hl j hjl] at h1
   exact .inl ⟨j,h2,⟨hjl,h1.1⟩,h1.2,rfl⟩
  ·rename_i hn
   refine .inr ⟨rfl,fun j hj ho' he=> ?_⟩
   have hlt:j<k:=by rcases qP l j with h3|h3<;>omega
   have:=List.find?_eq_none.1 hn j (List.mem_range.2 hlt)
   simp only[Bool.and_eq_true,beq_iff_eq,not_and] at this
   exact this (by rw[hl j hj];exact ho') he
theorem zxi {l:List Int} (hl:l.length≤100000):Lz.f45F l=some (jj l):=by
 obtain⟨m,h1,h2⟩:=zxj l hl
 rw[h1,h2.unique (znp l)]
def zY (l:List Int) (dir:Int):Int:=if dir=1∨dir=2 then dir - 1 else max 0 (zU l l.length 0)
theorem z1f (v:Int):zlr 0 v=max 0 v:=by unfold zlr;omega
theorem zzl {l:List Int} (hl:l.length≤100000) (dir:Int):Lz.f26F (l,dir)=some (zY l dir):=by
 unfold Lz.f26F zY
 simp only[zzs hl,Option.bind_some,z1f]
 by_cases h1:dir=1
 ·subst h1;simp;rfl
 ·by_cases h2:dir=2
  ·subst h2;simp;rfl
  ·simp[h1,h2]
def zll (l:List Int) (i:Int):Int:=
 if i<0∨(l.length:Int)≤i∨opens (l.getD i.toNat 0)=false then -1
 else if l.getD i.toNat 0≠21 then l.getD i.toNat 0 - 19
 else max 0 (zU l (if endOf l i.toNat= -1 then(l.length:Int) else endOf l i.toNat) (i.toNat+1))
theorem zyb {l:List Int} (hl:l.length≤100000) (i:Int):Lz.f116F (l,i)=some (zll l i):=by
 unfold Lz.f116F
 by_cases h0:i<0
 ·simp[zll,h0]
 ·by_cases h1:(l.length:Int)≤i
  ·simp[zll,h0,h1]
  ·have hb:(0:Int)≤i∧i<l.length:=by omega
   have hi:i.toNat<l.length:=by omega
   have hg:l.getD i.toNat 0=l[i.toNat]:=by simp[List.getD_eq_getElem?_getD,hi]
   rw[if_neg (by simpa using h0),if_neg (by simpa using h1),if_pos hb,if_pos hb,if_pos hb]
   simp only[zjw,Option.bind_some]
   cases ho:opens (l.getD i.toNat 0) with
   |false=>
    rw[show zll l i= -1 by unfold zll;rw[if_pos (.inr (.inr ho))]]
    rfl
   |true=>
    have hne: ¬ (i<0∨(l.length:Int)≤i∨opens (l.getD i.toNat 0)=false):=by
     rw[ho]
     simp
     omega
    rw[if_neg (by simp)]
    by_cases h21:l.getD i.toNat 0=21
    ·rw[if_neg (by rw[h21];simp)]
     rw[show zll l i=max 0 (zU l (if endOf l i.toNat= -1 then(l.length:Int) else endOf l i.toNat) (i.toNat+1)) by
      unfold zll
      rw[if_neg hne,if_neg (by rw[h21];simp)]]
     simp only[zxi hl,Option.bind_some]
     have hm:=znp l
     have hop:=hm.op i.toNat hi (by rw[← hg];exact ho)
     rw[if_pos (by rw[hm.len];exact hb)]
     simp only[hop]
     have hn:(IntKind.i64.wrap (i+1)).toNat=i.toNat+1:=by rw[za (by omega) (by omega)];omega
     by_cases he:endOf l i.toNat= -1
     ·simp only[he,beq_self_eq_true,if_true,Option.bind_some,zt1 hm hl,z1f,hn]
     ·simp only[show(endOf l i.toNat==(-1:Int))=false by simpa using he,Bool.false_eq_true,if_false,Option.bind_some,zt1 hm hl,z1f,hn,he]
    ·rw[if_pos (by rw[bne_iff_ne];exact h21)]
     rw[show zll l i=l.getD i.toNat 0 - 19 by
      unfold zll
      rw[if_neg hne,if_pos h21]]
     have:19≤l.getD i.toNat 0∧l.getD i.toNat 0≤21:=by
      unfold opens at ho
      simp only[Bool.or_eq_true,beq_iff_eq] at ho
      omega
     rw[za (by omega) (by omega)]
end Go.Sx
