/- Frag, plain: what rows hold, what fragments are. -/
import Derived.Test.YtpmbmobjnknnhaaGreatDoorSxHk
import Derived.Test.YtpmbmobjnknnhaaGreatDoorSxFc
set_option linter.unusedVariables false
set_option linter.unusedSimpArgs false
namespace Go.Sx
theorem zxf (q:Int→Bool) {l m:List Int} (h:l.Perm m):cnt q l=cnt q m:=by
 induction h with
 |nil=>rfl
 |cons x _ ih=>simp only[cnt,ih]
 |swap x y l=>simp only[cnt];omega
 |trans _ _ h1 h2=>exact h1.trans h2
theorem zun (q:Int→Bool): ∀ (l m:List Int),cnt q (l++m)=cnt q l+cnt q m
 | [],m=>by simp[cnt]
 |x::l,m=>by simp only[List.cons_append,cnt,zun q l m];omega
noncomputable def cntC (q:Int→Bool) (chars:List Int) (a:Nat):Nat→Int
 |0=>0
 |m+1=>cntC q chars a m+if(q ((a+m:Nat):Int)&& !ctlC (chars.getD (a+m) 0))=true then 1 else 0
theorem zq5 (q:Int→Bool) (chars:List Int) (a m:Nat): ∀ k,cntC q chars a (m+k)=cntC q chars a m+cntC q chars (a+m) k
 |0=>by simp[cntC]
 |k+1=>by
  rw[← Nat.add_assoc,cntC,zq5 q chars a m k,cntC,Nat.add_assoc a m k]
  omega
theorem zg2 {chars:List Int} {a m k:Nat} (h:k<m):(zdl chars a m).getD k false= !ctlC (chars.getD (a+k) 0):=by
 unfold zdl
 rw[List.getD_eq_getElem?_getD,List.getElem?_map,List.getElem?_range h]
 rfl
theorem zh8 (chars:List Int) (a m:Nat):(zdl chars a m).length=m:=by simp[zdl]
theorem zk8 {chars levels:List Int} {base:Int} {a b:Nat} (hb:b≤levels.length):
  (qu chars levels base a b).Perm ((zac ((List.range (b - a)).map fun(k:Nat)=>(k:Int)) (zdl chars a (b - a))).map fun p=>(a:Int)+p):=by
 unfold qu zac
 refine List.Perm.map _ (List.Perm.filter _ ?_)
 have:=zep (zic chars levels base a b)
 rw[zej hb] at this
 exact this
theorem zuo (q:Int→Bool) {chars levels:List Int} {base:Int} {a b:Nat} (hb:b≤levels.length):cnt q (qu chars levels base a b)=cntC q chars a (b - a):=by
 rw[zxf q (zk8 hb)]
 suffices key: ∀ j,j≤b - a→cnt q ((zac ((List.range j).map fun(k:Nat)=>(k:Int)) (zdl chars a (b - a))).map fun p=>(a:Int)+p)=cntC q chars a j from key _ (Nat.le_refl _)
 intro j
 induction j with
 |zero=>intro _;rfl
 |succ j ih=>
  intro hj
  have hs:zac ((List.range (j+1)).map fun(k:Nat)=>(k:Int)) (zdl chars a (b - a))=zac ((List.range j).map fun(k:Nat)=>(k:Int)) (zdl chars a (b - a))++if ctlC (chars.getD (a+j) 0)=true then [] else [(j:Int)]:=by
   unfold zac
   rw[List.range_succ,List.map_append,List.filter_append]
   congr 1
   rw[List.map_singleton,List.filter_cons,List.filter_nil,Int.toNat_natCast,zg2 (by omega),zh8,decide_eq_true (by omega:(0:Int)≤(j:Int)),decide_eq_true (by omega:(j:Int)<((b - a:Nat):Int))]
   cases ctlC (chars.getD (a+j) 0)<;>rfl
  rw[hs,List.map_append,zun,ih (by omega),cntC]
  congr 1
  cases ctlC (chars.getD (a+j) 0) with
  |true=>simp[cnt]
  |false=>
   simp only[Bool.false_eq_true,if_false,List.map_cons,List.map_nil,cnt,Bool.not_false,Bool.and_true]
   rw[show(a:Int)+(j:Int)=((a+j:Nat):Int) by omega]
   omega
theorem zig {chars levels:List Int} {base:Int} {a b:Nat} (hb:b≤levels.length) (hab:a≤b) (p:Int):p∈qu chars levels base a b↔ ∃ k:Nat,p=(k:Int)∧a≤k∧k<b∧ctlC (chars.getD k 0)=false:=by
 rw[(zk8 hb).mem_iff]
 unfold zac
 rw[List.mem_map]
 constructor
 ·rintro ⟨c,hc,rfl⟩
  obtain⟨h1,h2⟩:=List.mem_filter.1 hc
  obtain⟨k,hk,rfl⟩:=List.mem_map.1 h1
  have hk:=List.mem_range.1 hk
  rw[Int.toNat_natCast,zg2 hk] at h2
  refine⟨a+k,by omega,by omega,by omega, ?_⟩
  simp only[Bool.and_eq_true,Bool.not_eq_true'] at h2
  exact h2.2.2
 ·rintro ⟨k,rfl,h1,h2,h3⟩
  refine⟨((k - a:Nat):Int),List.mem_filter.2 ⟨List.mem_map.2 ⟨k - a,List.mem_range.2 (by omega),rfl⟩, ?_⟩,by omega⟩
  rw[Int.toNat_natCast,zg2 (by omega),show a+(k - a)=k by omega,h3,zh8,decide_eq_true (by omega:(0:Int)≤((k - a:Nat):Int)),decide_eq_true (by omega:((k - a:Nat):Int)<((b - a:Nat):Int))]
  rfl
theorem zwg {chars levels:List Int} {base:Int} {a b:Nat} (hb:b≤levels.length):(qu chars levels base a b).length≤b - a:=by
 unfold qu
 rw[List.length_map]
 refine Nat.le_trans (List.length_filter_le ..) ?_
 rw[zmp,zej hb]
 exact Nat.le_refl _
noncomputable def jS (chars levels:List Int) (base b:Int) (l:List Int):List RowT:=(qh b l).map fun s=>(s.1,s.2,qu chars levels base s.1.toNat s.2.toNat)
theorem zr8 (q:Int→Bool) {chars levels:List Int} (base:Int) {n:Nat} (hn:n≤levels.length): ∀ (l:List Int) (b:Nat),qR (b:Int) (n:Int) l→((jS chars levels base b l).map fun r=>cnt q r.2.2).sum=cntC q chars b (n - b)
 | [],b,h=>by
  have h:(b:Int)=(n:Int):=h
  rw[show n - b=0 by omega];rfl
 |c::t,b,h=>by
  have hc:=zai t c n h.2
  have hbc:(b:Int)<c:=h.1
  obtain⟨k,rfl⟩:=Int.eq_ofNat_of_zero_le (show 0≤c by omega)
  have ih:=zr8 q (chars:=chars) base hn t k h.2
  have e:jS chars levels base b ((k:Int)::t)=((b:Int),(k:Int),qu chars levels base b k)::jS chars levels base k t:=rfl
  rw[e,List.map_cons,List.sum_cons,ih,zuo q (by omega),show n - b=(k - b)+(n - k) by omega,zq5,show b+(k - b)=k by omega]
theorem zk5 {chars levels:List Int} (base:Int) {n:Nat} (hn:n≤levels.length): ∀ (l:List Int) (b:Nat),qR (b:Int) (n:Int) l→(jS chars levels base b l).length+heavy (jS chars levels base b l)≤2*(n - b)
 | [],b,h=>by simp[jS,qh,heavy]
 |c::t,b,h=>by
  have hc:=zai t c n h.2
  have hbc:(b:Int)<c:=h.1
  obtain⟨k,rfl⟩:=Int.eq_ofNat_of_zero_le (show 0≤c by omega)
  have ih:=zk5 (chars:=chars) base hn t k h.2
  have e:jS chars levels base b ((k:Int)::t)=((b:Int),(k:Int),qu chars levels base b k)::jS chars levels base k t:=rfl
  have hl:=zwg (chars:=chars) (levels:=levels) (base:=base) (a:=b) (b:=k) (by omega)
  rw[e]
  simp only[heavy,List.map_cons,List.sum_cons,List.length_cons] at ih ⊢
  omega
theorem zp0 (p:Int): ∀ (l:List Int) (k:Nat),(zdt p l k=none∧p∉l)∨ ∃ j,zdt p l k=some (k+j)∧j<l.length∧l.getD j 0=p
 | [],k=> .inl ⟨rfl,by simp⟩
 |x::l,k=>by
  unfold zdt
  by_cases h:x=p
  ·rw[if_pos h]
   exact .inr ⟨0,rfl,by simp,by simpa using h⟩
  ·rw[if_neg h]
   rcases zp0 p l (k+1) with ⟨h1,h2⟩|⟨j,h1,h2,h3⟩
   ·exact .inl ⟨h1,by simp[h2,Ne.symm h]⟩
   ·exact .inr ⟨j+1,by rw[h1];congr 1;omega,by simp;omega,by simpa using h3⟩
end Go.Sx
