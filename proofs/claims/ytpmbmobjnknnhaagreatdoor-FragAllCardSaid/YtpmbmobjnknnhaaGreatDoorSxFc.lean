/- Frag: the reference's fragments and places; the law FragAnswers. -/
import Derived.Test.YtpmbmobjnknnhaaGreatDoorSxFb
import Derived.Test.YtpmbmobjnknnhaaGreatDoorSxRz
set_option linter.unusedVariables false
set_option linter.unusedSimpArgs false
namespace Go.Sx
def zs6 (p:Int):List Int→Nat→Option Nat
 | [],_=>none
 |x::l,k=>if x=p then some k else zs6 p l (k+1)
def zc1 (p:Int):List RowT→Nat→Int×Int
 | [],_=>(-1, -1)
 |r::rows,i=>match zs6 p r.2.2 0 with
  |some k=>((i:Int),(k:Int))
  |none=>zc1 p rows (i+1)
theorem z0t {l:List Int} (hl:l.length≤500) (p:Int):R.f32F (l,p)=some (match zs6 p l 0 with
  |some k=>(k:Int)
  |none=> -1):=by
 unfold R.f32F
 dsimp only
 refine zq7 ?_
 refine zV (Q:=fun e:PUnit ⊕ Int=>e=match zs6 p l 0 with
  |some k=> .inr (k:Int)
  |none=> .inl ()) (zl (I:=fun s:Int=> ∃ i:Nat,s=(i:Int)∧i≤l.length∧zs6 p (l.drop i) i=zs6 p l 0) (fun s=>((l.length:Int) - s).toNat) ?_ _ ⟨0,rfl,Nat.zero_le _,rfl⟩) ?_
 ·rintro _ ⟨i,rfl,hi,h⟩
  by_cases hil:i<l.length
  ·rw[if_pos (by rw[decide_eq_true_eq];omega),if_pos (by omega),Int.toNat_natCast,zu1 l _ hil]
   rw[List.drop_eq_getElem_cons hil,zs6] at h
   by_cases he:l[i]=p
   ·rw[if_pos he] at h
    rw[if_pos (by rw[beq_iff_eq];exact he.symm), ← h]
    exact .inr ⟨_,rfl,rfl⟩
   ·rw[if_neg he] at h
    rw[if_neg (by rw[beq_iff_eq];exact fun h=>he h.symm),za (by omega) (by omega)]
    exact .inl ⟨_,rfl,⟨i+1,by push_cast;rfl,hil,h⟩,by omega⟩
  ·rw[if_neg (by rw[decide_eq_true_eq];omega)]
   rw[List.drop_of_length_le (by omega),zs6] at h
   rw[← h]
   exact .inr ⟨_,rfl,rfl⟩
 ·rintro _ rfl
  cases zs6 p l 0<;>exact⟨_,rfl,rfl⟩
theorem z0u {rows:List RowT} (hr:rows.length+heavy rows≤500) (p:Int):R.f16F (rows,p)=some (zc1 p rows 0):=by
 unfold R.f16F
 dsimp only
 refine zq7 ?_
 refine zV (Q:=fun e:PUnit ⊕ (Int×Int)=>Sum.elim (fun _=>((-1:Int),(-1:Int))) (fun q=>q) e=zc1 p rows 0) (zl (I:=fun s:Int=> ∃ i:Nat,s=(i:Int)∧i≤rows.length∧zc1 p (rows.drop i) i=zc1 p rows 0) (fun s=>((rows.length:Int) - s).toNat) ?_ _ ⟨0,rfl,Nat.zero_le _,rfl⟩) ?_
 ·rintro _ ⟨i,rfl,hi,h⟩
  by_cases hil:i<rows.length
  ·have hlm:=zh4 (List.getElem_mem hil)
   rw[if_pos (by rw[decide_eq_true_eq];omega),if_pos (by omega),Int.toNat_natCast,zu1 rows _ hil,z0t (by omega)]
   rw[List.drop_eq_getElem_cons hil,zc1] at h
   simp only[Option.bind_some]
   cases hx:zs6 p rows[i].2.2 0 with
   |some k=>
    rw[hx] at h
    dsimp only at h ⊢
    rw[if_pos (by rw[decide_eq_true_eq];exact Int.natCast_nonneg k)]
    exact .inr ⟨_,rfl,h⟩
   |none=>
    rw[hx] at h
    dsimp only at h ⊢
    rw[if_neg (by decide),za (by omega) (by omega)]
    exact .inl ⟨_,rfl,⟨i+1,by push_cast;rfl,hil,h⟩,by omega⟩
  ·rw[if_neg (by rw[decide_eq_true_eq];omega)]
   rw[List.drop_of_length_le (by omega),zc1] at h
   exact .inr ⟨_,rfl,h⟩
 ·rintro e he
  rw[← he]
  cases e<;>exact⟨_,rfl,rfl⟩
end Go.Sx
