/- Frag, plain: what rows hold, what fragments are. -/
import Derived.Test.YtpmbmobjnknnhaaGreatDoorSxHk
import Derived.Test.YtpmbmobjnknnhaaGreatDoorSxFc
set_option linter.unusedVariables false
set_option linter.unusedSimpArgs false
namespace Go.Sx
theorem zw4 (q:Int→Bool) {l m:List Int} (h:l.Perm m):cnt q l=cnt q m:=by
 induction h with
 |nil=>rfl
 |cons x _ ih=>simp only[cnt,ih]
 |swap x y l=>simp only[cnt];omega
 |trans _ _ h1 h2=>exact h1.trans h2
theorem zud (q:Int→Bool): ∀ (l m:List Int),cnt q (l++m)=cnt q l+cnt q m
 | [],m=>by simp[cnt]
 |x::l,m=>by simp only[List.cons_append,cnt,zud q l m];omega
noncomputable def cntC (q:Int→Bool) (chars:List Int) (a:Nat):Nat→Int
 |0=>0
 |m+1=>cntC q chars a m+if(q ((a+m:Nat):Int)&& !ctlC (chars.getD (a+m) 0))=true then 1 else 0
theorem zgk (q:Int→Bool) (chars:List Int) (a m:Nat): ∀ k,cntC q chars a (m+k)=cntC q chars a m+cntC q chars (a+m) k
 |0=>by simp[cntC]
 |k+1=>by
  rw[← Nat.add_assoc,cntC,zgk q chars a m k,cntC,Nat.add_assoc a m k]
  omega
theorem zjw {q r:Int→Bool} {chars:List Int} {a:Nat}: ∀ (m:Nat),(∀ k,k<m→q ((a+k:Nat):Int)=r ((a+k:Nat):Int))→cntC q chars a m=cntC r chars a m
 |0,_=>rfl
 |m+1,h=>by rw[cntC,cntC,h m (by omega),zjw m fun k hk=>h k (by omega)]
theorem zg9 {q:Int→Bool} {chars:List Int} {a:Nat}: ∀ (m:Nat),(∀ k,k<m→q ((a+k:Nat):Int)=false)→cntC q chars a m=0
 |0,_=>rfl
 |m+1,h=>by rw[cntC,h m (by omega),zg9 m fun k hk=>h k (by omega)];rfl
theorem zly {chars:List Int} {a m k:Nat} (h:k<m):(zdh chars a m).getD k false= !ctlC (chars.getD (a+k) 0):=by
 unfold zdh
 rw[List.getD_eq_getElem?_getD,List.getElem?_map,List.getElem?_range h]
 rfl
theorem znz (chars:List Int) (a m:Nat):(zdh chars a m).length=m:=by simp[zdh]
theorem zkp {chars levels:List Int} {base:Int} {a b:Nat} (hb:b≤levels.length):
  (zfn chars levels base a b).Perm ((zat ((List.range (b - a)).map fun(k:Nat)=>(k:Int)) (zdh chars a (b - a))).map fun p=>(a:Int)+p):=by
 unfold zfn zat
 refine List.Perm.map _ (List.Perm.filter _ ?_)
 have:=zod (zjc chars levels base a b)
 rw[zed hb] at this
 exact this
theorem zue (q:Int→Bool) {chars levels:List Int} {base:Int} {a b:Nat} (hb:b≤levels.length):cnt q (zfn chars levels base a b)=cntC q chars a (b - a):=by
 rw[zw4 q (zkp hb)]
 suffices key: ∀ j,j≤b - a→cnt q ((zat ((List.range j).map fun(k:Nat)=>(k:Int)) (zdh chars a (b - a))).map fun p=>(a:Int)+p)=cntC q chars a j from key _ (Nat.le_refl _)
 intro j
 induction j with
 |zero=>intro _;rfl
 |succ j ih=>
  intro hj
  have hs:zat ((List.range (j+1)).map fun(k:Nat)=>(k:Int)) (zdh chars a (b - a))=zat ((List.range j).map fun(k:Nat)=>(k:Int)) (zdh chars a (b - a))++if ctlC (chars.getD (a+j) 0)=true then [] else [(j:Int)]:=by
   unfold zat
   rw[List.range_succ,List.map_append,List.filter_append]
   congr 1
   rw[List.map_singleton,List.filter_cons,List.filter_nil,Int.toNat_natCast,zly (by omega),znz,decide_eq_true (by omega:(0:Int)≤(j:Int)),decide_eq_true (by omega:(j:Int)<((b - a:Nat):Int))]
   cases ctlC (chars.getD (a+j) 0)<;>rfl
  rw[hs,List.map_append,zud,ih (by omega),cntC]
  congr 1
  cases ctlC (chars.getD (a+j) 0) with
  |true=>simp[cnt]
  |false=>
   simp only[Bool.false_eq_true,if_false,List.map_cons,List.map_nil,cnt,Bool.not_false,Bool.and_true]
   rw[show(a:Int)+(j:Int)=((a+j:Nat):Int) by omega]
   omega
theorem zn8 {chars levels:List Int} {base:Int} {a b:Nat} (hb:b≤levels.length) (hab:a≤b) (p:Int):p∈zfn chars levels base a b↔ ∃ k:Nat,p=(k:Int)∧a≤k∧k<b∧ctlC (chars.getD k 0)=false:=by
 rw[(zkp hb).mem_iff]
 unfold zat
 rw[List.mem_map]
 constructor
 ·rintro ⟨c,hc,rfl⟩
  obtain⟨h1,h2⟩:=List.mem_filter.1 hc
  obtain⟨k,hk,rfl⟩:=List.mem_map.1 h1
  have hk:=List.mem_range.1 hk
  rw[Int.toNat_natCast,zly hk] at h2
  refine⟨a+k,by omega,by omega,by omega, ?_⟩
  simp only[Bool.and_eq_true,Bool.not_eq_true'] at h2
  exact h2.2.2
 ·rintro ⟨k,rfl,h1,h2,h3⟩
  refine⟨((k - a:Nat):Int),List.mem_filter.2 ⟨List.mem_map.2 ⟨k - a,List.mem_range.2 (by omega),rfl⟩, ?_⟩,by omega⟩
  rw[Int.toNat_natCast,zly (by omega),show a+(k - a)=k by omega,h3,znz,decide_eq_true (by omega:(0:Int)≤((k - a:Nat):Int)),decide_eq_true (by omega:((k - a:Nat):Int)<((b - a:Nat):Int))]
  rfl
theorem zv4 {chars levels:List Int} {base:Int} {a b:Nat} (hb:b≤levels.length):(zfn chars levels base a b).length≤b - a:=by
 unfold zfn
 rw[List.length_map]
 refine Nat.le_trans (List.length_filter_le ..) ?_
 rw[zrj,zed hb]
 exact Nat.le_refl _
noncomputable def zgd (chars levels:List Int) (base b:Int) (l:List Int):List RowT:=(xL b l).map fun s=>(s.1,s.2,zfn chars levels base s.1.toNat s.2.toNat)
theorem zru (q:Int→Bool) {chars levels:List Int} (base:Int) {n:Nat} (hn:n≤levels.length): ∀ (l:List Int) (b:Nat),xl (b:Int) (n:Int) l→((zgd chars levels base b l).map fun r=>cnt q r.2.2).sum=cntC q chars b (n - b)
 | [],b,h=>by
  have h:(b:Int)=(n:Int):=h
  rw[show n - b=0 by omega];rfl
 |c::t,b,h=>by
  have hc:=zep t c n h.2
  have hbc:(b:Int)<c:=h.1
  obtain⟨k,rfl⟩:=Int.eq_ofNat_of_zero_le (show 0≤c by omega)
  have ih:=zru q (chars:=chars) base hn t k h.2
  have e:zgd chars levels base b ((k:Int)::t)=((b:Int),(k:Int),zfn chars levels base b k)::zgd chars levels base k t:=rfl
  rw[e,List.map_cons,List.sum_cons,ih,zue q (by omega),show n - b=(k - b)+(n - k) by omega,zgk,show b+(k - b)=k by omega]
theorem zko {chars levels:List Int} (base:Int) {n:Nat} (hn:n≤levels.length): ∀ (l:List Int) (b:Nat),xl (b:Int) (n:Int) l→(zgd chars levels base b l).length+heavy (zgd chars levels base b l)≤2*(n - b)
 | [],b,h=>by simp[zgd,xL,heavy]
 |c::t,b,h=>by
  have hc:=zep t c n h.2
  have hbc:(b:Int)<c:=h.1
  obtain⟨k,rfl⟩:=Int.eq_ofNat_of_zero_le (show 0≤c by omega)
  have ih:=zko (chars:=chars) base hn t k h.2
  have e:zgd chars levels base b ((k:Int)::t)=((b:Int),(k:Int),zfn chars levels base b k)::zgd chars levels base k t:=rfl
  have hl:=zv4 (chars:=chars) (levels:=levels) (base:=base) (a:=b) (b:=k) (by omega)
  rw[e]
  simp only[heavy,List.map_cons,List.sum_cons,List.length_cons] at ih ⊢
  omega
theorem zrw (q:Int→Bool): ∀ (l:List Int) (k:Nat),(∀ x∈z7 q l k none, ∀ j,x.1≤j→j<x.2→q (l.getD (j - k) 0)=true)∧ ∀ s,s≤k→ ∀ x∈z7 q l k (some s), ∀ j,k≤j→x.1≤j→j<x.2→q (l.getD (j - k) 0)=true
 | [],k=>⟨by simp[z7],fun s hs x hx j h1 h2 h3=>by simp[z7] at hx;subst hx;simp at h3;omega⟩
 |p::l,k=>by
  obtain⟨h1,h2⟩:=zrw q l (k+1)
  have hsh: ∀ j,k+1≤j→(p::l).getD (j - k) 0=l.getD (j - (k+1)) 0:=fun j hj=>by rw[show j - k=(j - (k+1))+1 by omega];rfl
  have hp1:=(zax q l (k+1)).1
  refine⟨fun x hx j hj1 hj2=> ?_,fun s hs x hx j hj0 hj1 hj2=> ?_⟩
  ·simp only[z7] at hx
   split at hx
   ·rename_i hq
    by_cases hjk:j=k
    ·subst hjk;simpa using hq
    ·have:=((zax q l (k+1)).2 k (by omega) x hx).1
     rw[hsh j (by omega)]
     exact h2 k (by omega) x hx j (by omega) hj1 hj2
   ·have:=(hp1 x hx).1
    rw[hsh j (by omega)]
    exact h1 x hx j hj1 hj2
  ·simp only[z7] at hx
   split at hx
   ·rename_i hq
    by_cases hjk:j=k
    ·subst hjk;simpa using hq
    ·rw[hsh j (by omega)]
     exact h2 s (by omega) x hx j (by omega) hj1 hj2
   ·rcases List.mem_cons.1 hx with rfl|hx
    ·simp at hj2;omega
    ·have:=(hp1 x hx).1
     rw[hsh j (by omega)]
     exact h1 x hx j hj1 hj2
theorem zvz (q:Int→Bool): ∀ (l:List Int) (k:Nat),(z7 q l k none).Pairwise (fun x y=>x.2<y.1)∧ ∀ s,(z7 q l k (some s)).Pairwise (fun x y=>x.2<y.1)
 | [],k=>⟨by simp[z7],fun s=>by simp[z7]⟩
 |p::l,k=>by
  obtain⟨h1,h2⟩:=zvz q l (k+1)
  refine⟨?_,fun s=> ?_⟩
  ·simp only[z7]
   split
   ·exact h2 k
   ·exact h1
  ·simp only[z7]
   split
   ·exact h2 s
   ·refine List.pairwise_cons.2 ⟨fun y hy=> ?_,h1⟩
    have:=((zax q l (k+1)).1 y hy).1
    dsimp only;omega
theorem zq1 (a b:Int): ∀ (rows:List RowT) (i:Nat),(∀ f∈qn a b rows i, ∃ j,f.1=((i+j:Nat):Int)∧j<rows.length∧ ∃ x y:Nat,f.2.1=(x:Int)∧f.2.2=(y:Int)∧x<y∧y≤(rows.getD j (0,0, [])).2.2.length∧ ∀ k,x≤k→k<y→inSp a b ((rows.getD j (0,0, [])).2.2.getD k 0)=true)∧
  (qn a b rows i).Pairwise (fun f g=>f.1<g.1∨f.1=g.1∧f.2.2<g.2.1)
 | [],i=>⟨by simp[qn],by simp[qn]⟩
 |r::rows,i=>by
  obtain⟨h1,h2⟩:=zq1 a b rows (i+1)
  have hp:=(zax (inSp a b) r.2.2 0).1
  have hw:=(zvz (inSp a b) r.2.2 0).1
  have ha:=(zrw (inSp a b) r.2.2 0).1
  refine⟨fun f hf=> ?_, ?_⟩
  ·rw[qn] at hf
   rcases List.mem_append.1 hf with hf|hf
   ·obtain⟨x,hx,rfl⟩:=List.mem_map.1 hf
    have:=hp x hx
    exact⟨0,rfl,by simp,x.1,x.2,rfl,rfl,this.2.1,by simpa using this.2.2,fun k hk1 hk2=>ha x hx k hk1 hk2⟩
   ·obtain⟨j,e1,e2,e3⟩:=h1 f hf
    exact⟨j+1,by rw[e1];congr 1;omega,by simp;omega,e3⟩
  ·rw[qn,List.pairwise_append]
   refine⟨?_,h2,fun f hf g hg=> ?_⟩
   ·rw[List.pairwise_map]
    refine hw.imp fun {x y} h=> .inr ⟨rfl, ?_⟩
    dsimp only;omega
   ·obtain⟨x,hx,rfl⟩:=List.mem_map.1 hf
    obtain⟨j,e1,_⟩:=h1 g hg
    left
    rw[e1]
    dsimp only;omega
end Go.Sx
