/- Frag: the reference's fragments and places; the law FragAnswers. -/
import Derived.Test.YtpmbmobjnknnhaaGreatDoorSxFb
import Derived.Test.YtpmbmobjnknnhaaGreatDoorSxRz
set_option linter.unusedVariables false
set_option linter.unusedSimpArgs false
namespace Go.Sx
def zdt (p:Int):List Int→Nat→Option Nat
 | [],_=>none
 |x::l,k=>if x=p then some k else zdt p l (k+1)
def zbe (p:Int):List RowT→Nat→Int×Int
 | [],_=>(-1, -1)
 |r::rows,i=>match zdt p r.2.2 0 with
  |some k=>((i:Int),(k:Int))
  |none=>zbe p rows (i+1)
theorem z2d {l:List Int} (hl:l.length≤500) (p:Int):R.f32F (l,p)=some (match zdt p l 0 with
  |some k=>(k:Int)
  |none=> -1):=by
 unfold R.f32F
 dsimp only
 refine zy2 ?_
 refine z4 (Q:=fun e:PUnit ⊕ Int=>e=match zdt p l 0 with
  |some k=> .inr (k:Int)
  |none=> .inl ()) (zq (I:=fun s:Int=> ∃ i:Nat,s=(i:Int)∧i≤l.length∧zdt p (l.drop i) i=zdt p l 0) (fun s=>((l.length:Int) - s).toNat) ?_ _ ⟨0,rfl,Nat.zero_le _,rfl⟩) ?_
 ·rintro _ ⟨i,rfl,hi,h⟩
  by_cases hil:i<l.length
  ·rw[if_pos (by rw[decide_eq_true_eq];omega),if_pos (by omega),Int.toNat_natCast,z1k l _ hil]
   rw[List.drop_eq_getElem_cons hil,zdt] at h
   by_cases he:l[i]=p
   ·rw[if_pos he] at h
    rw[if_pos (by rw[beq_iff_eq];exact he.symm), ← h]
    exact .inr ⟨_,rfl,rfl⟩
   ·rw[if_neg he] at h
    rw[if_neg (by rw[beq_iff_eq];exact fun h=>he h.symm),za (by omega) (by omega)]
    exact .inl ⟨_,rfl,⟨i+1,by push_cast;rfl,hil,h⟩,by omega⟩
  ·rw[if_neg (by rw[decide_eq_true_eq];omega)]
   rw[List.drop_of_length_le (by omega),zdt] at h
   rw[← h]
   exact .inr ⟨_,rfl,rfl⟩
 ·rintro _ rfl
  cases zdt p l 0<;>exact⟨_,rfl,rfl⟩
theorem zy7 {rows:List RowT} (hr:rows.length+heavy rows≤500) (p:Int):R.f16F (rows,p)=some (zbe p rows 0):=by
 unfold R.f16F
 dsimp only
 refine zy2 ?_
 refine z4 (Q:=fun e:PUnit ⊕ (Int×Int)=>Sum.elim (fun _=>((-1:Int),(-1:Int))) (fun q=>q) e=zbe p rows 0) (zq (I:=fun s:Int=> ∃ i:Nat,s=(i:Int)∧i≤rows.length∧zbe p (rows.drop i) i=zbe p rows 0) (fun s=>((rows.length:Int) - s).toNat) ?_ _ ⟨0,rfl,Nat.zero_le _,rfl⟩) ?_
 ·rintro _ ⟨i,rfl,hi,h⟩
  by_cases hil:i<rows.length
  ·have hlm:=zob (List.getElem_mem hil)
   rw[if_pos (by rw[decide_eq_true_eq];omega),if_pos (by omega),Int.toNat_natCast,z1k rows _ hil,z2d (by omega)]
   rw[List.drop_eq_getElem_cons hil,zbe] at h
   simp only[Option.bind_some]
   cases hx:zdt p rows[i].2.2 0 with
   |some k=>
    rw[hx] at h
    dsimp only at h ⊢
    rw[if_pos (by rw[decide_eq_true_eq];exact Int.natCast_nonneg k)]
    exact .inr ⟨_,rfl,h⟩
   |none=>
    rw[hx] at h
    dsimp only at h ⊢
    rw[if_neg (by decide),za (by omega) (by omega)]
    exact .inl ⟨_,rfl,⟨i+1,by push_cast;rfl,hil,h⟩,by omega⟩
  ·rw[if_neg (by rw[decide_eq_true_eq];omega)]
   rw[List.drop_of_length_le (by omega),zbe] at h
   exact .inr ⟨_,rfl,h⟩
 ·rintro e he
  rw[← he]
  cases e<;>exact⟨_,rfl,rfl⟩
end Go.Sx
