/- Level, plain: the law LevelBounds. -/
import Derived.Test.YtlppdabhaipbkaaGreatDoorSxMs
import Derived.Test.YtlppdabhaipbkaaGreatDoorSxME
import Derived.Test.YtlppdabhaipbkaaGreatDoorSxR
set_option linter.unusedVariables false
set_option linter.unusedSimpArgs false
namespace Go.Sx
theorem z0o {l:List Int} (hl:l.length≤100000): ∃ m,Lz.f13F l=some m∧(l= []→m= -1)∧(∀ i,i<l.length→l.getD i 0≤m)∧(l≠ []→ ∃ i,i<l.length∧l.getD i 0=m):=by
 unfold Lz.f13F
 by_cases h0:l.length=0
 ·have:l= []:=List.eq_nil_of_length_eq_zero h0
  subst this
  exact⟨-1,rfl,fun _=>rfl,fun i hi=>by simp at hi,fun h=>absurd rfl h⟩
 rw[if_neg (by simp;intro e;exact h0 (by rw[e];rfl))]
 unfold Lz.f22F
 rw[if_neg (by rw[decide_eq_true_eq];omega),if_pos (by omega)]
 suffices h: ∃ m,(Option.bind (iter _ (List.getD l (Int.toNat 0) 0,(1:Int))) fun v1=>some v1)=some m∧((∀ i,i<l.length→l.getD i 0≤m)∧ ∃ i,i<l.length∧l.getD i 0=m) by
  obtain⟨m,h1,h2,h3⟩:=h
  refine⟨m, ?_,fun h=>absurd (by rw[h];rfl) h0,h2,fun _=>h3⟩
  rw[h1];rfl
 refine qb (Q:=fun m=>(∀ i,i<l.length→l.getD i 0≤m)∧ ∃ i,i<l.length∧l.getD i 0=m) (zq (I:=fun(s:Int×Int)=> ∃ k:Nat,s.2=(k:Int)∧1≤k∧k≤l.length∧(∀ i,i<k→l.getD i 0≤s.1)∧ ∃ i,i<k∧l.getD i 0=s.1) (fun s=>((l.length:Int) - s.2).toNat) ?_ _ ⟨1,rfl,by omega,by omega,fun i hi=>by
  have:i=0:=by omega
  subst this
  exact Int.le_refl _,0,by omega,rfl⟩) fun e he=>⟨e,rfl,he⟩
 rintro ⟨m,_⟩ ⟨k,rfl,hk1,hk2,hle,j,hj,hjm⟩
 dsimp only at*
 by_cases hk:k<l.length
 ·left
  rw[if_pos (by rw[decide_eq_true_eq];omega),if_pos (by omega),Int.toNat_natCast,za (by omega) (by omega)]
  refine⟨_,rfl,⟨k+1,by simp,by omega,by omega,fun i hi=> ?_, ?_⟩,by simp;omega⟩
  ·dsimp only
   unfold zi8
   by_cases hik:i=k
   ·subst hik;split<;>omega
   ·have:=hle i (by omega);split<;>omega
  ·dsimp only
   unfold zi8
   split
   ·exact⟨k,by omega,rfl⟩
   ·exact⟨j,by omega,hjm⟩
 ·right
  rw[if_neg (by rw[decide_eq_true_eq];omega)]
  have:k=l.length:=by omega
  subst this
  exact⟨_,rfl,hle,j,hj,hjm⟩
def zvs:List Rch→Int→Int
 | [],_=>0
 |r::t,c=>if r.1≤c∧c≤r.2.1 then r.2.2 else zvs t c
theorem zmr (c:Int): ∀ l:List Rch,znk l c=zvs l c
 | []=>rfl
 |r::t=>by
  have ih:=zmr c t
  unfold znk at ih ⊢
  rw[List.find?_cons]
  by_cases h:r.1≤c∧c≤r.2.1
  ·rw[decide_eq_true h.1,decide_eq_true h.2,zvs,if_pos h];rfl
  ·rw[zvs,if_neg h]
   have:(decide (r.1≤c)&&decide (c≤r.2.1))=false:=by
    rw[Bool.and_eq_false_iff,decide_eq_false_iff_not,decide_eq_false_iff_not]
    omega
   rw[this]
   exact ih
theorem zy8 {a k c:Int} {t:List Rch} {y:Option Int} (hy:y=some (zvs t c)):(if(c==a)=true then some k else y)=some (zvs ((a,a,k)::t) c):=by
 rw[zvs]
 by_cases h:c=a
 ·rw[if_pos (by rw[h];exact beq_self_eq_true a),if_pos (show a≤c∧c≤a by omega)]
 ·rw[if_neg (by simpa using h),if_neg (show ¬ (a≤c∧c≤a) by omega),hy]
theorem zy7 {a b k c:Int} {t:List Rch} {y:Option Int} (hy:y=some (zvs t c)):(Option.bind (if decide (c≥a)=true then some (decide (c≤b)) else some false) fun v=>if v=true then some k else y)=some (zvs ((a,b,k)::t) c):=by
 rw[zvs]
 by_cases h:c≥a
 ·rw[if_pos (decide_eq_true h),Option.bind_some]
  by_cases h2:c≤b
  ·rw[if_pos (decide_eq_true h2),if_pos (show a≤c∧c≤b from⟨h,h2⟩)]
  ·rw[if_neg (by rw[decide_eq_true_eq];exact h2),if_neg (fun q=>h2 q.2),hy]
 ·rw[if_neg (by rw[decide_eq_true_eq];exact h),Option.bind_some,if_neg (by decide),if_neg (fun q=>h q.1),hy]
theorem zzb (c:Int):Lz.f17F c=some (qn c):=by
 unfold qn
 rw[zmr]
 unfold Lz.f17F
 repeat first|refine zy8 ?_|refine zy7 ?_
 rfl
theorem zty (k:Int):Lz.f18F k=some (outC k):=by
 unfold Lz.f18F outC
 by_cases h1:k=9; · subst h1;rfl
 by_cases h2:k=14; · subst h2;rfl
 by_cases h3:k=15; · subst h3;rfl
 by_cases h4:k=16; · subst h4;rfl
 by_cases h5:k=17; · subst h5;rfl
 simp[h1,h2,h3,h4,h5]
theorem zgd (chars:List Int) (dir:Int):Lz.f5F (chars,dir)=some true:=by
 unfold Lz.f5F
 rw[zuj]
 simp only[Option.bind_some,Bool.not_true,Bool.false_eq_true,if_false]
 by_cases hl:chars.length≤200
 case neg=>rw[if_pos (by rw[decide_eq_true_eq];omega)]
 rw[if_neg (by rw[decide_eq_true_eq];omega),z02 (by omega) dir,Option.bind_some]
 have hcl:Lz.f11F (chars,dir)=some (zst chars dir).2:=by
  unfold Lz.f11F
  dsimp only
  rw[zxj (by omega) dir]
  rfl
 rw[hcl,Option.bind_some]
 have hf:=zqb chars dir
 obtain⟨hc,hall⟩:=zuf (chars:=chars) dir
 have hlv:=zgu (chars.map qn) dir
 have hLR:zY (chars.map qn) dir=0→(∀ i,i<chars.length→qn (chars.getD i 0)=0)→ ∀ i,i<chars.length→(zrw chars dir).getD i 0=0:=by
  intro hb h0 i hi
  have hlr:LR (chars.map qn):=fun c hc=>by
   obtain⟨x,hx,rfl⟩:=List.mem_map.1 hc
   obtain⟨j,hj,rfl⟩:=List.getElem_of_mem hx
   have:=h0 j hj
   rw[zp 0 hj] at this
   exact .inl this
  rw[zyr (by omega) hlr dir,hb,zp 0 (by simpa using hi),List.getElem_map,List.getElem_map]
  have:=h0 i hi
  rw[zp 0 hi] at this
  rw[this]
  rfl
 dsimp only
 generalize zY (chars.map qn) dir=base at*
 generalize zrw chars dir=L at*
 generalize (zst chars dir).2=C at*
 rw[hf,hc,if_neg (by simp),if_neg (by simp),if_neg (by rw[decide_eq_true_eq];omega),Option.bind_some,if_neg (by rw[decide_eq_true_eq];omega)]
 suffices key: ∃ b,iter _ (base==0,(0:Int))=some (Sum.inl b:Bool ⊕ Bool)∧(b=true→base=0∧ ∀ i,i<chars.length→qn (chars.getD i 0)=0) by
  obtain⟨b,h1,h2⟩:=key
  refine zx h1 ?_
  dsimp only[Sum.elim_inl]
  cases b with
  |false=>rfl
  |true=>
   obtain⟨g1,g2⟩:=h2 rfl
   obtain⟨m,hm,m0,m1,m2⟩:=z0o (l:=L) (by omega)
   rw[if_neg (by decide),hm,Option.bind_some]
   congr 1
   rw[decide_eq_true_eq]
   by_cases hL:L= []
   ·have:=m0 hL;omega
   ·obtain⟨i,q1,q2⟩:=m2 hL
    have:=hLR g1 g2 i (by omega)
    omega
 suffices key: ∀ (j k:Nat) (b:Bool),k+j=chars.length→(b=true→base=0∧ ∀ i,i<k→qn (chars.getD i 0)=0)→ ∃ b',iter _ (b,(k:Int))=some (Sum.inl b':Bool ⊕ Bool)∧(b'=true→base=0∧ ∀ i,i<chars.length→qn (chars.getD i 0)=0) from
  key chars.length 0 (base==0) (by omega) (fun h=>⟨by simpa using h,fun i hi=>by omega⟩)
 intro j
 induction j with
 |zero=>
  intro k b hk hb
  have hk:k=chars.length:=hk
  subst hk
  refine⟨b,zn ?_,hb⟩
  dsimp only
  rw[if_neg (by rw[decide_eq_true_eq];omega)]
 |succ j ih=>
  intro k b hk hb
  have hkn:k<chars.length:=by omega
  obtain⟨a1,a2,a3,a4⟩:=hall k hkn
  have ht2:Int.tmod (L.getD k 0) 2=L.getD k 0 % 2:=Int.tmod_eq_emod_of_nonneg (by omega)
  obtain⟨b',h1,h2⟩:=ih (k+1) (b&&(qn (chars.getD k 0)==0)) (by omega) (fun h=>by
   rw[Bool.and_eq_true,beq_iff_eq] at h
   refine⟨(hb h.1).1,fun i hi=> ?_⟩
   by_cases hik:i=k
   ·rw[hik];exact h.2
   ·exact(hb h.1).2 i (by omega))
  refine⟨b', ?_,h2⟩
  rw[zy (s':=(b&&(qn (chars.getD k 0)==0),((k+1:Nat):Int)))]
  ·exact h1
  ·have hkc:0≤(k:Int)∧(k:Int)<(chars.length:Int):=by omega
   have hkL:0≤(k:Int)∧(k:Int)<(L.length:Int):=by omega
   have hkC:0≤(k:Int)∧(k:Int)<(C.length:Int):=by omega
   dsimp only
   rw[hf] at hkL
   rw[hc] at hkC
   rw[if_pos (by rw[decide_eq_true_eq];omega),if_pos hkc,Int.toNat_natCast,zzb,Option.bind_some]
   refine zx (e:=b&&(qn (chars.getD k 0)==0)) (by cases b<;>rfl) ?_
   refine zx (e:=false) ?_ ?_
   ·rw[if_pos hkc,if_neg (by rw[decide_eq_true_eq];omega),if_pos hkc,if_neg (by rw[decide_eq_true_eq];omega),zty,Option.bind_some,if_pos hkc,zty,a3]
    cases outC (qn (chars.getD k 0))<;>rfl
   ·rw[if_neg (by decide)]
    refine zx (e:=false) ?_ (by rw[if_neg (by decide),za (by omega) (by omega)];rfl)
    rw[zty,Option.bind_some]
    cases ho:outC (qn (chars.getD k 0)) with
    |true=>rfl
    |false=>
     obtain⟨q1,_,_,q2,q3,q4⟩:=a4 ho
     simp only[if_pos hkc,ht2,Bool.not_false,if_true]
     generalize L.getD k 0=l at*
     generalize C.getD k 0=c at*
     rcases q1 with e|e|e|e
     ·have:=q2 e;subst e;rw[this];rfl
     ·have:=q3 e;subst e;rw[this];rfl
     ·have:=q4 (.inl e);subst e;rw[this];rfl
     ·have:=q4 (.inr e);subst e;rw[this];rfl
theorem zge (x:List Int×Int) (hw:zvr [.sl (.int .i64), .int .i64] x):Lz.f5F x=some true:=by
 obtain⟨chars,dir⟩:=x
 exact zgd chars dir
end Go.Sx
