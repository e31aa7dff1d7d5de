/- Level, plain: classes of characters. -/
import Derived.Test.YtlppdabhaipbkaaGreatDoorSxMd
import Derived.Test.YtlppdabhaipbkaaGreatDoorSxTMb
set_option linter.unusedVariables false
set_option linter.unusedSimpArgs false
namespace Go.Sx
abbrev Rch:=Int×Int×Int
noncomputable def zy8:List Rch:=(Lz.f40F ()).getD []
theorem zzq:Lz.f40F ()=some zy8:=rfl
theorem zys {a b:Nat} (ha:a≤100000) (hb:b≤100000):IntKind.i64.wrap (Int.fdiv (IntKind.wrap IntKind.u64 (IntKind.i64.wrap ((a:Int)+(b:Int)))) ((2:Int) ^ Min.min (Int.toNat 1) (IntKind.bits IntKind.u64)))=(((a+b) / 2:Nat):Int):=by
 have h2:((2:Int) ^ Min.min (Int.toNat 1) (IntKind.bits IntKind.u64))=2:=by decide
 have h3:IntKind.i64.wrap ((a:Int)+(b:Int))=(a:Int)+(b:Int):=za (by omega) (by omega)
 have h4:IntKind.wrap IntKind.u64 ((a:Int)+(b:Int))=(a:Int)+(b:Int):=zme (by omega) (by omega)
 rw[h2,h3,h4,Int.fdiv_eq_ediv_of_nonneg _ (by omega),za (by omega) (by omega)]
 omega
theorem zxl (r:Rch) (c:Int):Lz.f72F (r,c)=some (if r.2.1<c then -1 else if r.1 > c then 1 else 0):=by
 unfold Lz.f72F
 by_cases h:r.2.1<c
 ·simp[h]
 ·by_cases h2:r.1 > c<;>simp[h,h2]
def zq8 (l:List Rch):Prop:=l.Pairwise (fun a b=>a.2.1<b.1)∧ ∀ a∈l,a.1≤a.2.1
def znm (l:List Rch) (c:Int):Int:=match l.find? (fun r=>decide (r.1≤c)&&decide (c≤r.2.1)) with
 |some r=>r.2.2
 |none=>0
theorem zq8.mono {l:List Rch} (h:zq8 l) {i j:Nat} (hij:i<j) (hj:j<l.length):(l.getD i (0,0,0)).2.1<(l.getD j (0,0,0)).1∧(l.getD j (0,0,0)).1≤(l.getD j (0,0,0)).2.1:=by
 rw[zm _ hj,zm _ (by omega:i<l.length)]
 exact⟨List.pairwise_iff_getElem.1 h.1 i j (by omega) hj hij,h.2 _ (List.getElem_mem hj)⟩
theorem zwr {l:List Rch} {c:Int} {i:Nat} (hi:i<l.length) (h1: ∀ k,k<i→(l.getD k (0,0,0)).2.1<c) (h2:(l.getD i (0,0,0)).1≤c) (h3:c≤(l.getD i (0,0,0)).2.1):znm l c=(l.getD i (0,0,0)).2.2:=by
 unfold znm
 have:l.find? (fun r=>decide (r.1≤c)&&decide (c≤r.2.1))=some (l.getD i (0,0,0)):=by
  rw[List.find?_eq_some_iff_getElem]
  refine⟨by rw[decide_eq_true h2,decide_eq_true h3];rfl,i,hi,(zm _ hi).symm,fun k hk=> ?_⟩
  have:=h1 k hk
  rw[zm _ (by omega:k<l.length)] at this
  rw[decide_eq_false (p:=c≤l[k].2.1) (by omega),Bool.and_false]
  rfl
 rw[this]
theorem zqo {l:List Rch} {c:Int} {i:Nat} (h:zq8 l) (h1: ∀ k,k<i→k<l.length→(l.getD k (0,0,0)).2.1<c) (h2:i<l.length→c<(l.getD i (0,0,0)).1):znm l c=0:=by
 unfold znm
 have:l.find? (fun r=>decide (r.1≤c)&&decide (c≤r.2.1))=none:=by
  rw[List.find?_eq_none]
  intro r hr
  obtain⟨k,hk,rfl⟩:=List.getElem_of_mem hr
  rw[← zm (0,0,0) hk]
  rw[Bool.and_eq_true,decide_eq_true_eq,decide_eq_true_eq]
  by_cases hki:k<i
  ·have:=h1 k hki hk
   omega
  ·by_cases he:k=i
   ·subst he
    have:=h2 hk
    omega
   ·have q1:=h2 (by omega)
    have q2:=(h.mono (i:=i) (j:=k) (by omega) hk).1
    have q3:(l.getD i (0,0,0)).1≤(l.getD i (0,0,0)).2.1:=by
     rw[zm _ (by omega:i<l.length)]
     exact h.2 _ (List.getElem_mem _)
    omega
 rw[this]
theorem zx6 {A B I:Type} {x:Option A} {k:A→Option B} {Q:A→Prop} {P:I→Prop} {g:I→B} (h: ∃ e,x=some e∧Q e) (hk: ∀ e,Q e→ ∃ i,P i∧k e=some (g i)): ∃ i,P i∧x.bind k=some (g i):=by
 obtain⟨e,rfl,h2⟩:=h
 exact hk e h2
theorem zzr {l:List Rch} (hT:zq8 l) (hl:l.length≤1000) (c:Int):Lz.f41F (l,c)=some (znm l c):=by
 unfold Lz.f41F
 dsimp only
 have hs: ∃ i:Nat,(i≤l.length∧(∀ k,k<i→(l.getD k (0,0,0)).2.1<c)∧(i<l.length→c≤(l.getD i (0,0,0)).2.1))∧Lz.f71F (l,c)=some ((i:Int),decide (i<l.length)&&decide ((l.getD i (0,0,0)).1≤c)):=by
  unfold Lz.f71F
  dsimp only
  refine zx6 (Q:=fun(e:Int)=> ∃ i:Nat,e=(i:Int)∧i≤l.length∧(∀ k,k<i→(l.getD k (0,0,0)).2.1<c)∧(i<l.length→c≤(l.getD i (0,0,0)).2.1)) (zv (I:=fun(s:Int×Int)=> ∃ a b:Nat,s=((a:Int),(b:Int))∧a≤b∧b≤l.length∧(∀ k,k<a→(l.getD k (0,0,0)).2.1<c)∧(b<l.length→c≤(l.getD b (0,0,0)).2.1))
   (fun s=>(s.2 - s.1).toNat) ?_ (0,(l.length:Int)) ⟨0,l.length,rfl,by omega,by omega,fun k hk=>by omega,fun h=>by omega⟩) ?_
  rotate_left
  ·rintro e ⟨i,rfl,q1,q2,q3⟩
   refine⟨i,⟨q1,q2,q3⟩, ?_⟩
   by_cases hi:i<l.length
   ·rw[if_pos (by rw[decide_eq_true_eq];omega),if_pos (by omega),Int.toNat_natCast,zxl,Option.bind_some,if_neg (by have:=q3 hi;omega)]
    by_cases hc:(l.getD i (0,0,0)).1 > c
    ·rw[if_pos hc,decide_eq_false (p:=(l.getD i (0,0,0)).1≤c) (by omega),Bool.and_false]
     rfl
    ·rw[if_neg hc,decide_eq_true hi,decide_eq_true (p:=(l.getD i (0,0,0)).1≤c) (by omega)]
     rfl
   ·rw[if_neg (by rw[decide_eq_true_eq];omega),decide_eq_false hi]
    rfl
  ·rintro _ ⟨a,b,rfl,hab,hbl,h1,h2⟩
   dsimp only
   by_cases hlt:a<b
   ·left
    have hm1:(a+b) / 2<b:=by omega
    have hm2:a≤(a+b) / 2:=by omega
    rw[if_pos (by rw[decide_eq_true_eq];omega),zys (by omega) (by omega),if_pos (by omega),Int.toNat_natCast,zxl]
    simp only[Option.bind_some]
    by_cases hc:(l.getD ((a+b) / 2) (0,0,0)).2.1<c
    ·rw[if_pos hc,if_pos (by decide),za (by omega) (by omega)]
     refine⟨_,rfl,⟨(a+b) / 2+1,b,by simp,by omega,hbl,fun k hk=> ?_,h2⟩,by simp;omega⟩
     by_cases hke:k=(a+b) / 2
     ·rw[hke];exact hc
     ·have:=(hT.mono (i:=k) (j:=(a+b) / 2) (by omega) (by omega));omega
    ·rw[if_neg hc,if_neg (by split<;>decide)]
     exact⟨_,rfl,⟨a,(a+b) / 2,rfl,by omega,by omega,h1,fun _=>by omega⟩,by simp;omega⟩
   ·right
    have:a=b:=by omega
    subst this
    rw[if_neg (by rw[decide_eq_true_eq];omega)]
    exact⟨_,rfl,a,rfl,hbl,h1,h2⟩
 obtain⟨i,⟨q1,q2,q3⟩,q4⟩:=hs
 refine zx q4 ?_
 dsimp only
 by_cases hi:i<l.length
 ·by_cases hc:(l.getD i (0,0,0)).1≤c
  ·rw[if_neg (by simp only[hi,hc,decide_true,Bool.and_self];decide),if_pos (by omega),Int.toNat_natCast,zwr hi q2 hc (q3 hi)]
  ·rw[if_pos (by simp only[hi,hc,decide_true,decide_false,Bool.and_false];decide),zqo hT (fun k hk _=>q2 k hk) (fun _=>by omega)]
 ·rw[if_pos (by simp only[hi,decide_false,Bool.false_and];decide),zqo hT (fun k hk _=>q2 k hk) (fun h=>absurd h hi)]
theorem z01:zq8 zy8:=by
 unfold zq8 zy8
 exact⟨by decide+kernel,by decide+kernel⟩
theorem zy2:zy8.length≤1000:=by
 unfold zy8
 decide+kernel
noncomputable def zE (c:Int):Int:=znm zy8 c
theorem zzk {l:List Int} (hl:l.length≤100000):Lz.f25F l=some (l.map zE):=by
 unfold Lz.f25F
 rw[zzq,Option.bind_some]
 refine zx (zqj l zE _ ?_ ?_) rfl
 ·intro k hk
  dsimp only
  have hlen:((l.take k).map zE).length=k:=by rw[List.length_map,List.length_take];omega
  rw[if_pos (by rw[decide_eq_true_eq];omega),if_pos (by omega),Int.toNat_natCast,zzr z01 zy2,Option.bind_some,if_pos (by simp only[zj,hlen];omega),za (by omega) (by omega),zm 0 hk]
  rfl
 ·dsimp only
  rw[if_neg (by rw[decide_eq_true_eq];omega)]
end Go.Sx
