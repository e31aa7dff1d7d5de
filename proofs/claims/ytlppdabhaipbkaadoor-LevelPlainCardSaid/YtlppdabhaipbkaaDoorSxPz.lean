import Derived.Test.YtlppdabhaipbkaaDoorSxPi
set_option linter.unusedVariables false
set_option linter.unusedSimpArgs false
namespace Go.Sx
def qa:List Int→List Int
 | []=> []
 | [x]=> [x]
 |x::y::t=>if x=y then qa (y::t) else x::qa (y::t)
theorem zds: ∀ {l:List Int} {k:Int},k∈qa l↔k∈l
 | [],k=>by simp[qa]
 | [x],k=>by simp[qa]
 |x::y::t,k=>by
  unfold qa
  split
  ·rename_i h
   rw[zds (l:=y::t),h]
   simp
  ·rw[List.mem_cons,zds (l:=y::t),List.mem_cons (a:=k) (b:=x)]
theorem zjf: ∀ (l:List Int) (x:Int),qa (l++ [x])=if l.getLast?=some x then qa l else qa l++ [x]
 | [],x=>by simp[qa]
 | [y],x=>by
  show qa [y,x]=_
  unfold qa
  by_cases h:y=x
  ·subst h;simp[qa]
  ·rw[if_neg h,if_neg (by simpa using h)];simp[qa]
 |y::z::t,x=>by
  have ih:=zjf (z::t) x
  show qa (y::z::(t++ [x]))=_
  have e1:qa (y::z::(t++ [x]))=if y=z then qa (z::(t++ [x])) else y::qa (z::(t++ [x])):=by rw[qa]
  have e2:qa (y::z::t)=if y=z then qa (z::t) else y::qa (z::t):=by rw[qa]
  have e3:(y::z::t).getLast?=(z::t).getLast?:=by simp[List.getLast?_cons]
  have ih':qa (z::(t++ [x]))=if(z::t).getLast?=some x then qa (z::t) else qa (z::t)++ [x]:=ih
  rw[e1,e2,e3,ih']
  by_cases h:y=z
  ·rw[if_pos h,if_pos h]
  ·rw[if_neg h,if_neg h]
   split
   ·rfl
   ·rfl
theorem zjg {l:List Int} {m:Nat} (h0:0<m) (hm:m<l.length):qa (l.take (m+1))=if l.getD m 0=l.getD (m - 1) 0 then qa (l.take m) else qa (l.take m)++ [l.getD m 0]:=by
 have e1:l.getD m 0=l[m]:=by simp[List.getD_eq_getElem?_getD,hm]
 have e2:l.getD (m - 1) 0=l[m - 1]:=by simp[List.getD_eq_getElem?_getD,show m - 1<l.length by omega]
 rw[List.take_succ_eq_append_getElem hm,zjf,e1,e2]
 have e3:(l.take m).getLast?=some l[m - 1]:=by
  rw[List.getLast?_eq_getElem?,List.length_take,Nat.min_eq_left (by omega),List.getElem?_take,if_pos (by omega),List.getElem?_eq_getElem (by omega)]
 rw[e3]
 by_cases h:l[m]=l[m - 1]
 ·rw[if_pos (by rw[h]),if_pos h]
 ·rw[if_neg (by simpa using fun e=>h e.symm),if_neg h]
theorem z0f (l:List Int) (hl:l.length≤100000):Ld.f11F l=some (qa l):=by
 unfold Ld.f11F
 by_cases h2:(l.length:Int)<2
 ·rw[if_pos (by rw[decide_eq_true_eq];exact h2)]
  match l,h2 with
  | [],_=>rfl
  | [x],_=>rfl
  |x::y::t,h=>simp at h;omega
 rw[if_neg (by rw[decide_eq_true_eq];exact h2)]
 suffices hh: ∃ r,Option.bind _ _=some r∧r=qa l by
  obtain⟨r,h1,rfl⟩:=hh
  exact h1
 refine z9 (Q:=fun(e:List Int ⊕ List Int)=>e= .inl (qa l)∨e= .inr (qa l)) (zm (I:=fun(s:Int×List Int)=> ∃ i:Nat,s=((i:Int),l)∧1≤i∧i≤l.length∧qa (l.take i)=l.take i) (fun s=>((l.length:Int) - s.1).toNat) ?_ _ ⟨1,rfl,Nat.le_refl _,by omega, ?_⟩) ?_
 rotate_left
 ·match l with
  | []=>rfl
  |x::t=>rfl
 ·rintro _ (rfl|rfl)<;>exact⟨_,rfl,rfl⟩
 rintro _ ⟨i,rfl,h1,hi,hc⟩
 dsimp only
 by_cases hil:i<l.length
 ·have hct:=zjg (l:=l) h1 hil
  rw[za (x:=(i:Int) - 1) (by omega) (by omega),if_pos (by rw[decide_eq_true_eq];omega),if_pos (by omega),if_pos (by omega),show((i:Int) - 1).toNat=i - 1 by omega,Int.toNat_natCast]
  by_cases he:l.getD i 0=l.getD (i - 1) 0
  ·rw[if_pos (by rw[beq_iff_eq];exact he),if_pos (by omega)]
   rw[if_pos he] at hct
   refine qD (R:=fun(r:Int×List Int)=> ∃ k:Nat,r.1=(k:Int)∧k≤r.2.length∧r.2.length=l.length∧r.2.take k=qa l) (zm (I:=fun(s:Int×Int×List Int)=> ∃ (k q:Nat) (l':List Int),s=((k:Int),(q:Int),l')∧1≤q∧i+q≤l.length∧i≤k∧k<i+q∧l'.length=l.length∧l'.take k=qa (l.take (i+q))∧ ∀ j,i+q≤j+1→l'.getD j 0=l.getD j 0) (fun s=>((l.length:Int) - s.2.1).toNat) ?_ _
    ⟨i,1,l,rfl,Nat.le_refl _,by omega,Nat.le_refl _,by omega,rfl,by rw[hct,hc],fun j _=>rfl⟩) ?_
   ·rintro _ ⟨k,q,l',rfl,q1,q2,k1,k2,hlen,htk,hrest⟩
    dsimp only
    by_cases hq:i+q<l.length
    ·have hct2:=zjg (l:=l) (m:=i+q) (by omega) hq
     rw[if_pos (by rw[decide_eq_true_eq];omega),if_pos (by omega),za (x:=(q:Int) - 1) (by omega) (by omega),if_pos (by omega),Int.toNat_natCast,Int.toNat_natCast,show((q:Int) - 1).toNat=q - 1 by omega,hrest (i+q) (by omega),show i+(q - 1)=i+q - 1 by omega,hrest (i+q - 1) (by omega),za (x:=(q:Int)+1) (by omega) (by omega)]
     left
     by_cases hne:l.getD (i+q) 0=l.getD (i+q - 1) 0
     ·rw[if_neg (by simpa using hne)]
      rw[if_pos hne] at hct2
      exact⟨_,rfl,⟨k,q+1,l',rfl,by omega,by omega,k1,by omega,hlen,by rw[htk, ← Nat.add_assoc,hct2],fun j hj=>hrest j (by omega)⟩,by show((l.length:Int) - ((q:Int)+1)).toNat<((l.length:Int) - (q:Int)).toNat;omega⟩
     ·rw[if_pos (by simpa using hne),if_pos (by omega),if_pos (by omega),za (by omega) (by omega)]
      rw[if_neg hne] at hct2
      refine⟨_,rfl,⟨k+1,q+1,l'.set k (l.getD (i+q) 0),rfl,by omega,by omega,by omega,by omega,by rw[List.length_set];exact hlen, ?_,fun j hj=> ?_⟩,by show((l.length:Int) - ((q:Int)+1)).toNat<((l.length:Int) - (q:Int)).toNat;omega⟩
      ·rw[← Nat.add_assoc,hct2, ← htk,List.take_succ_eq_append_getElem (by rw[List.length_set];omega),List.getElem_set_self,List.take_set_of_le (Nat.le_refl _)]
      ·rw[zhg,if_neg (by omega)]
       exact hrest j (by omega)
    ·rw[if_neg (by rw[decide_eq_true_eq];omega)]
     refine .inr ⟨_,rfl,k,rfl,by dsimp only;omega,hlen, ?_⟩
     dsimp only
     rw[htk,List.take_of_length_le (by omega)]
   ·rintro ⟨v1,v2⟩ ⟨k,hk,hkl,hvl,htk⟩
    dsimp only at hk hkl hvl htk ⊢
    subst hk
    rw[if_pos (by omega),if_pos (by rw[Int.toNat_natCast];simp;omega),Int.toNat_natCast]
    refine .inr ⟨_,rfl, .inr ?_⟩
    congr 1
    rw[List.take_append_of_le_length (by rw[List.length_take];omega),List.take_take,Nat.min_self,htk]
  ·rw[if_neg (by rw[beq_iff_eq];exact he),za (by omega) (by omega)]
   rw[if_neg he,hc] at hct
   refine .inl ⟨_,rfl,⟨i+1,rfl,by omega,hil, ?_⟩,by show((l.length:Int) - ((i:Int)+1)).toNat<((l.length:Int) - (i:Int)).toNat;omega⟩
   rw[hct,List.take_succ_eq_append_getElem hil]
   simp[List.getD_eq_getElem?_getD,hil]
 ·rw[if_neg (by rw[decide_eq_true_eq];omega)]
  rw[List.take_of_length_le (by omega)] at hc
  exact .inr ⟨_,rfl, .inl (by rw[hc])⟩
end Go.Sx
