/- Frag, plain: what rows hold, what fragments are. -/
import Derived.Test.YtpmbmobjnknnhaaGreatDoorSxHk
import Derived.Test.YtpmbmobjnknnhaaGreatDoorSxFc
set_option linter.unusedVariables false
set_option linter.unusedSimpArgs false
namespace Go.Sx
theorem zx8 (q:Int→Bool) {l m:List Int} (h:l.Perm m):cnt q l=cnt q m:=by
 induction h with
 |nil=>rfl
 |cons x _ ih=>simp only[cnt,ih]
 |swap x y l=>simp only[cnt];omega
 |trans _ _ h1 h2=>exact h1.trans h2
theorem zwg (q:Int→Bool): ∀ (l m:List Int),cnt q (l++m)=cnt q l+cnt q m
 | [],m=>by simp[cnt]
 |x::l,m=>by simp only[List.cons_append,cnt,zwg q l m];omega
noncomputable def cntC (q:Int→Bool) (chars:List Int) (a:Nat):Nat→Int
 |0=>0
 |m+1=>cntC q chars a m+if(q ((a+m:Nat):Int)&& !ctlC (chars.getD (a+m) 0))=true then 1 else 0
theorem zrx (q:Int→Bool) (chars:List Int) (a m:Nat): ∀ k,cntC q chars a (m+k)=cntC q chars a m+cntC q chars (a+m) k
 |0=>by simp[cntC]
 |k+1=>by
  rw[← Nat.add_assoc,cntC,zrx q chars a m k,cntC,Nat.add_assoc a m k]
  omega
theorem zku {q r:Int→Bool} {chars:List Int} {a:Nat}: ∀ (m:Nat),(∀ k,k<m→q ((a+k:Nat):Int)=r ((a+k:Nat):Int))→cntC q chars a m=cntC r chars a m
 |0,_=>rfl
 |m+1,h=>by rw[cntC,cntC,h m (by omega),zku m fun k hk=>h k (by omega)]
theorem zmi {chars:List Int} {a m k:Nat} (h:k<m):(zdm chars a m).getD k false= !ctlC (chars.getD (a+k) 0):=by
 unfold zdm
 rw[List.getD_eq_getElem?_getD,List.getElem?_map,List.getElem?_range h]
 rfl
theorem zoo (chars:List Int) (a m:Nat):(zdm chars a m).length=m:=by simp[zdm]
theorem zkv {chars levels:List Int} {base:Int} {a b:Nat} (hb:b≤levels.length):
  (zfo chars levels base a b).Perm ((za2 ((List.range (b - a)).map fun(k:Nat)=>(k:Int)) (zdm chars a (b - a))).map fun p=>(a:Int)+p):=by
 unfold zfo za2
 refine List.Perm.map _ (List.Perm.filter _ ?_)
 have:=zom (zjd chars levels base a b)
 rw[zet hb] at this
 exact this
theorem zwh (q:Int→Bool) {chars levels:List Int} {base:Int} {a b:Nat} (hb:b≤levels.length):cnt q (zfo chars levels base a b)=cntC q chars a (b - a):=by
 rw[zx8 q (zkv hb)]
 suffices key: ∀ j,j≤b - a→cnt q ((za2 ((List.range j).map fun(k:Nat)=>(k:Int)) (zdm chars a (b - a))).map fun p=>(a:Int)+p)=cntC q chars a j from key _ (Nat.le_refl _)
 intro j
 induction j with
 |zero=>intro _;rfl
 |succ j ih=>
  intro hj
  have hs:za2 ((List.range (j+1)).map fun(k:Nat)=>(k:Int)) (zdm chars a (b - a))=za2 ((List.range j).map fun(k:Nat)=>(k:Int)) (zdm chars a (b - a))++if ctlC (chars.getD (a+j) 0)=true then [] else [(j:Int)]:=by
   unfold za2
   rw[List.range_succ,List.map_append,List.filter_append]
   congr 1
   rw[List.map_singleton,List.filter_cons,List.filter_nil,Int.toNat_natCast,zmi (by omega),zoo,decide_eq_true (by omega:(0:Int)≤(j:Int)),decide_eq_true (by omega:(j:Int)<((b - a:Nat):Int))]
   cases ctlC (chars.getD (a+j) 0)<;>rfl
  rw[hs,List.map_append,zwg,ih (by omega),cntC]
  congr 1
  cases ctlC (chars.getD (a+j) 0) with
  |true=>simp[cnt]
  |false=>
   simp only[Bool.false_eq_true,if_false,List.map_cons,List.map_nil,cnt,Bool.not_false,Bool.and_true]
   rw[show(a:Int)+(j:Int)=((a+j:Nat):Int) by omega]
   omega
theorem zop {chars levels:List Int} {base:Int} {a b:Nat} (hb:b≤levels.length) (hab:a≤b) (p:Int):p∈zfo chars levels base a b↔ ∃ k:Nat,p=(k:Int)∧a≤k∧k<b∧ctlC (chars.getD k 0)=false:=by
 rw[(zkv hb).mem_iff]
 unfold za2
 rw[List.mem_map]
 constructor
 ·rintro ⟨c,hc,rfl⟩
  obtain⟨h1,h2⟩:=List.mem_filter.1 hc
  obtain⟨k,hk,rfl⟩:=List.mem_map.1 h1
  have hk:=List.mem_range.1 hk
  rw[Int.toNat_natCast,zmi hk] at h2
  refine⟨a+k,by omega,by omega,by omega, ?_⟩
  simp only[Bool.and_eq_true,Bool.not_eq_true'] at h2
  exact h2.2.2
 ·rintro ⟨k,rfl,h1,h2,h3⟩
  refine⟨((k - a:Nat):Int),List.mem_filter.2 ⟨List.mem_map.2 ⟨k - a,List.mem_range.2 (by omega),rfl⟩, ?_⟩,by omega⟩
  rw[Int.toNat_natCast,zmi (by omega),show a+(k - a)=k by omega,h3,zoo,decide_eq_true (by omega:(0:Int)≤((k - a:Nat):Int)),decide_eq_true (by omega:((k - a:Nat):Int)<((b - a:Nat):Int))]
  rfl
theorem zwi {chars levels:List Int} {base:Int} {a b:Nat} (hb:b≤levels.length):(zfo chars levels base a b).length≤b - a:=by
 unfold zfo
 rw[List.length_map]
 refine Nat.le_trans (List.length_filter_le ..) ?_
 rw[zrw,zet hb]
 exact Nat.le_refl _
noncomputable def zgd (chars levels:List Int) (base b:Int) (l:List Int):List RowT:=(xL b l).map fun s=>(s.1,s.2,zfo chars levels base s.1.toNat s.2.toNat)
theorem zry (q:Int→Bool) {chars levels:List Int} (base:Int) {n:Nat} (hn:n≤levels.length): ∀ (l:List Int) (b:Nat),xk (b:Int) (n:Int) l→((zgd chars levels base b l).map fun r=>cnt q r.2.2).sum=cntC q chars b (n - b)
 | [],b,h=>by
  have h:(b:Int)=(n:Int):=h
  rw[show n - b=0 by omega];rfl
 |c::t,b,h=>by
  have hc:=zeu t c n h.2
  have hbc:(b:Int)<c:=h.1
  obtain⟨k,rfl⟩:=Int.eq_ofNat_of_zero_le (show 0≤c by omega)
  have ih:=zry q (chars:=chars) base hn t k h.2
  have e:zgd chars levels base b ((k:Int)::t)=((b:Int),(k:Int),zfo chars levels base b k)::zgd chars levels base k t:=rfl
  rw[e,List.map_cons,List.sum_cons,ih,zwh q (by omega),show n - b=(k - b)+(n - k) by omega,zrx,show b+(k - b)=k by omega]
theorem zkw {chars levels:List Int} (base:Int) {n:Nat} (hn:n≤levels.length): ∀ (l:List Int) (b:Nat),xk (b:Int) (n:Int) l→(zgd chars levels base b l).length+heavy (zgd chars levels base b l)≤2*(n - b)
 | [],b,h=>by simp[zgd,xL,heavy]
 |c::t,b,h=>by
  have hc:=zeu t c n h.2
  have hbc:(b:Int)<c:=h.1
  obtain⟨k,rfl⟩:=Int.eq_ofNat_of_zero_le (show 0≤c by omega)
  have ih:=zkw (chars:=chars) base hn t k h.2
  have e:zgd chars levels base b ((k:Int)::t)=((b:Int),(k:Int),zfo chars levels base b k)::zgd chars levels base k t:=rfl
  have hl:=zwi (chars:=chars) (levels:=levels) (base:=base) (a:=b) (b:=k) (by omega)
  rw[e]
  simp only[heavy,List.map_cons,List.sum_cons,List.length_cons] at ih ⊢
  omega
theorem zwj (p:Int): ∀ (l:List Int) (k:Nat),(zs6 p l k=none∧p∉l)∨ ∃ j,zs6 p l k=some (k+j)∧j<l.length∧l.getD j 0=p
 | [],k=> .inl ⟨rfl,by simp⟩
 |x::l,k=>by
  unfold zs6
  by_cases h:x=p
  ·rw[if_pos h]
   exact .inr ⟨0,rfl,by simp,by simpa using h⟩
  ·rw[if_neg h]
   rcases zwj p l (k+1) with ⟨h1,h2⟩|⟨j,h1,h2,h3⟩
   ·exact .inl ⟨h1,by simp[h2,Ne.symm h]⟩
   ·exact .inr ⟨j+1,by rw[h1];congr 1;omega,by simp;omega,by simpa using h3⟩
theorem zoq (p:Int): ∀ (rows:List RowT) (i:Nat),(zc1 p rows i=(-1, -1)∧ ∀ r∈rows,p∉r.2.2)∨ ∃ j k:Nat,zc1 p rows i=(((i+j:Nat):Int),(k:Int))∧j<rows.length∧k<(rows.getD j (0,0, [])).2.2.length∧(rows.getD j (0,0, [])).2.2.getD k 0=p
 | [],i=> .inl ⟨rfl,by simp⟩
 |r::rows,i=>by
  unfold zc1
  rcases zwj p r.2.2 0 with ⟨h1,h2⟩|⟨k,h1,h2,h3⟩
  ·rw[h1]
   rcases zoq p rows (i+1) with ⟨g1,g2⟩|⟨j,k,g1,g2,g3,g4⟩
   ·exact .inl ⟨g1,fun x hx=>(List.mem_cons.1 hx).elim (fun e=>e▸h2) (g2 x)⟩
   ·exact .inr ⟨j+1,k,by dsimp only;rw[g1];congr 2;omega,by simp;omega,g3,g4⟩
  ·rw[h1]
   exact .inr ⟨0,k,by simp,by simp,h2,h3⟩
end Go.Sx
