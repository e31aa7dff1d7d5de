/- Level, plain: marks that are nothing to direction. -/
import Derived.Test.YtlppdabhaipbkaaGreatDoorSxMs
set_option linter.unusedVariables false
set_option linter.unusedSimpArgs false
namespace Go.Sx
def up (a:Nat) (p:Int):Int:=if p<(a:Int) then p else p+1
def upN (a i:Nat):Nat:=if i<a then i else i+1
theorem zvi (a i:Nat):up a (i:Int)=((upN a i:Nat):Int):=by
 unfold up upN
 by_cases h:i<a
 ·rw[if_pos (by omega),if_pos h]
 ·rw[if_neg (by omega),if_neg h];omega
theorem z02 {a:Nat} {p q:Int} (h:up a p=up a q):p=q:=by
 unfold up at h
 split at h<;>split at h<;>omega
theorem zgx {a:Nat} {p:Int} (h:0≤p):(up a p).toNat=upN a p.toNat:=by
 obtain⟨n,rfl⟩:=Int.eq_ofNat_of_zero_le h
 rw[zvi,Int.toNat_natCast,Int.toNat_natCast]
theorem jq: ∀ (l:List Int) (d k:Nat),scan l d (k+1)=if scan l d k<0 then scan l d k else scan l d k+1
 | [],d,k=>rfl
 |c::l,d,k=>by
  rw[scan,scan]
  split
  ·rfl
  ·split
   ·exact jq l (d+1) (k+1)
   ·split
    ·split
     ·rw[if_neg (by omega)];omega
     ·exact jq l (d - 1) (k+1)
    ·exact jq l d (k+1)
theorem zgu (B:List Int): ∀ (A:List Int) (d k:Nat),scan (A++9::B) d k=up (k+A.length) (scan (A++B) d k)
 | [],d,k=>by
  have h9:scan (9::B) d k=scan B d (k+1):=by rw[scan,if_neg (by decide),if_neg (by decide),if_neg (by decide)]
  rw[List.nil_append,List.nil_append,h9,jq]
  unfold up
  rcases za3 B d k with h|⟨h,_⟩
  ·rw[h,if_pos (by decide),if_pos (by omega)]
  ·rw[if_neg (by omega),if_neg (by show ¬ scan B d k<((k+0:Nat):Int);omega)]
 |c::A,d,k=>by
  have e:k+(c::A).length=k+1+A.length:=by simp;omega
  rw[List.cons_append,List.cons_append,scan,scan,e]
  split
  ·unfold up;rw[if_pos (by omega)]
  ·split
   ·exact zgu B A (d+1) (k+1)
   ·split
    ·split
     ·unfold up;rw[if_pos (by omega)]
     ·exact zgu B A (d - 1) (k+1)
    ·exact zgu B A d (k+1)
structure Ins (a:Nat) (c c':List Int):Prop where
 len:c'.length=c.length+1
 le:a≤c.length
 at_: ∀ i,c'.getD (upN a i) 0=c.getD i 0
theorem Ins.mk' (A B:List Int) (x:Int):Ins A.length (A++B) (A++x::B):=by
 refine⟨by simp;omega,by simp,fun i=> ?_⟩
 unfold upN
 by_cases h:i<A.length
 ·rw[if_pos h,List.getD_eq_getElem?_getD,List.getD_eq_getElem?_getD,List.getElem?_append_left h,List.getElem?_append_left h]
 ·rw[if_neg h,List.getD_eq_getElem?_getD,List.getD_eq_getElem?_getD,List.getElem?_append_right (by omega),List.getElem?_append_right (by omega),show i+1 - A.length=(i - A.length)+1 by omega,List.getElem?_cons_succ]
theorem Ins.set {a:Nat} {m m':List Int} (h:Ins a m m') (i:Nat) (v:Int) (hi:i<m.length):Ins a (m.set i v) (m'.set (upN a i) v):=by
 refine⟨by simp[h.len],by simp[h.le],fun j=> ?_⟩
 by_cases hij:j=i
 ·subst hij
  rw[zaq _ _ _ hi,zaq]
  rw[h.len];unfold upN;split<;>omega
 ·have hne:upN a i≠upN a j:=by unfold upN;split<;>split<;>omega
  rw[List.getD_eq_getElem?_getD,List.getD_eq_getElem?_getD,List.getElem?_set_ne hne,List.getElem?_set_ne (fun e=>hij e.symm), ← List.getD_eq_getElem?_getD, ← List.getD_eq_getElem?_getD,h.at_]
section
variable (A B:List Int)
theorem zhe (j:Nat) (hj:j<(A++B).length):endOf (A++9::B) (upN A.length j)=up A.length (endOf (A++B) j):=by
 unfold endOf upN
 by_cases h:j<A.length
 ·rw[if_pos h]
  have e1:(A++9::B).drop (j+1)=A.drop (j+1)++9::B:=List.drop_append_of_le_length (by omega)
  have e2:(A++B).drop (j+1)=A.drop (j+1)++B:=List.drop_append_of_le_length (by omega)
  rw[e1,e2,zgu,List.length_drop,show j+1+(A.length - (j+1))=A.length by omega]
 ·rw[if_neg h]
  have e1:(A++9::B).drop (j+1+1)=(A++B).drop (j+1):=by
   rw[List.drop_append,List.drop_append,List.drop_of_length_le (l:=A) (i:=j+1+1) (by omega),List.drop_of_length_le (l:=A) (i:=j+1) (by omega),show j+1+1 - A.length=(j+1 - A.length)+1 by omega,List.drop_succ_cons]
  rw[e1,jq]
  unfold up
  rcases za3 ((A++B).drop (j+1)) 1 (j+1) with e|⟨e,_⟩
  ·rw[e,if_pos (by decide),if_pos (by omega)]
  ·rw[if_neg (by omega),if_neg (by omega)]
theorem z1b:(A++9::B).getD A.length 0=9:=by simp[List.getD_eq_getElem?_getD]
theorem z1c (i:Nat):(A++9::B).getD (upN A.length i) 0=(A++B).getD i 0:=(Ins.mk' A B 9).at_ i
theorem zdi (t:Int):zU (A++9::B) t A.length=zU (A++9::B) t (A.length+1):=by
 have hl:A.length<(A++9::B).length:=by simp
 by_cases ht:(A.length:Int)<t
 ·have hg:=z1b A B
  rw[zm 0 hl] at hg
  rw[zU,dif_pos hl,if_pos ht,hg,if_neg (by decide),if_neg (by decide),if_pos (by decide)]
 ·rw[zhp _ _ _ (by omega),zhp _ _ _ (by omega)]
theorem ziy {i:Nat}:upN A.length i<(A++9::B).length↔i<(A++B).length:=by
 unfold upN
 simp
 split<;>omega
theorem z03 {a i:Nat} {t:Int}:((upN a i:Nat):Int)<up a t↔(i:Int)<t:=by
 unfold upN up
 split<;>split<;>omega
theorem zjz (t:Int): ∀ (n i:Nat),(A++B).length - i≤n→zU (A++9::B) (up A.length t) (upN A.length i)=zU (A++B) t i:=by
 intro n
 induction n with
 |zero=>
  intro i hi
  conv=>lhs;rw[zU,dif_neg (by rw[ziy];omega)]
  conv=>rhs;rw[zU,dif_neg (by omega)]
 |succ n ih=>
  intro i hi
  by_cases hl:i<(A++B).length
  case neg=>
   conv=>lhs;rw[zU,dif_neg (by rw[ziy];exact hl)]
   conv=>rhs;rw[zU,dif_neg hl]
  have hl':upN A.length i<(A++9::B).length:=(ziy A B).2 hl
  have hnext: ∀ j,zU (A++9::B) (up A.length t) (upN A.length j+1)=zU (A++9::B) (up A.length t) (upN A.length (j+1)):=by
   intro j
   unfold upN
   by_cases h1:j<A.length
   ·by_cases h2:j+1<A.length
    ·rw[if_pos h1,if_pos h2]
    ·rw[if_pos h1,if_neg h2,show j+1=A.length by omega,zdi]
   ·rw[if_neg h1,if_neg (by omega)]
  conv=>lhs;rw[zU,dif_pos hl']
  conv=>rhs;rw[zU,dif_pos hl]
  have hg:=z1c A B i
  rw[zm 0 hl',zm 0 hl] at hg
  rw[hg]
  by_cases ht:(i:Int)<t
  case neg=>rw[if_neg (by rw[z03];exact ht),if_neg ht]
  rw[if_pos (z03.2 ht),if_pos ht]
  split
  ·rfl
  ·split
   ·rename_i ho
    have he:=zhe A B i hl
    have hgt:=qP (A++B) i
    by_cases h1:endOf (A++B) i= -1
    ·rw[dif_pos (by rw[he,h1];unfold up;rw[if_pos (by omega)]),dif_pos h1]
    ·have h0:0≤endOf (A++B) i:=by omega
     rw[dif_neg (by rw[he];unfold up;split<;>omega),dif_neg h1,he,zgx h0,hnext]
     exact ih _ (by omega)
   ·split
    ·rw[hnext]
     exact ih _ (by omega)
    ·rfl
theorem zwi (i:Nat):zll (A++9::B) ((upN A.length i:Nat):Int)=zll (A++B) (i:Int):=by
 unfold zll
 rw[Int.toNat_natCast,Int.toNat_natCast,z1c]
 by_cases hl:i<(A++B).length
 case neg=>
  have: ¬ upN A.length i<(A++9::B).length:=fun h=>hl ((ziy A B).1 h)
  rw[if_pos (by omega),if_pos (by omega)]
 have hl':=(ziy A B).2 hl
 have hlen:((A++9::B).length:Int)=up A.length ((A++B).length:Int):=by
  unfold up
  rw[if_neg (by rw[List.length_append];omega)]
  simp;omega
 cases ho:opens ((A++B).getD i 0) with
 |false=>rw[if_pos (.inr (.inr rfl)),if_pos (.inr (.inr rfl))]
 |true=>
  have n1: ¬ (((upN A.length i:Nat):Int)<0∨((A++9::B).length:Int)≤((upN A.length i:Nat):Int)∨true=false):=by
   rintro (h|h|h)
   ·omega
   ·omega
   ·cases h
  have n2: ¬ ((i:Int)<0∨((A++B).length:Int)≤(i:Int)∨true=false):=by
   rintro (h|h|h)
   ·omega
   ·omega
   ·cases h
  rw[if_neg n1,if_neg n2]
  split
  ·rfl
  ·have he:=zhe A B i hl
   have hgt:=qP (A++B) i
   have hn: ∀ t,zU (A++9::B) (up A.length t) (upN A.length i+1)=zU (A++B) t (i+1):=by
    intro t
    rw[← zjz A B t _ (i+1) (Nat.le_refl _)]
    unfold upN
    by_cases h1:i<A.length
    ·by_cases h2:i+1<A.length
     ·rw[if_pos h1,if_pos h2]
     ·rw[if_pos h1,if_neg h2,show i+1=A.length by omega,zdi]
    ·rw[if_neg h1,if_neg (by omega)]
   by_cases h1:endOf (A++B) i= -1
   ·rw[if_pos (by rw[he,h1];unfold up;rw[if_pos (by omega)]),if_pos h1,hlen,hn]
   ·rw[if_neg (by rw[he];unfold up;split<;>omega),if_neg h1,he,hn]
theorem zr1 (dir:Int):zY (A++9::B) dir=zY (A++B) dir:=by
 unfold zY
 split
 ·rfl
 ·have hlen:((A++9::B).length:Int)=up A.length ((A++B).length:Int):=by
   unfold up
   rw[if_neg (by rw[List.length_append];omega)]
   simp;omega
  congr 1
  rw[hlen, ← zjz A B _ _ 0 (Nat.le_refl _)]
  unfold upN
  by_cases h:0<A.length
  ·rw[if_pos h]
  ·have h0:A.length=0:=by omega
   have:=zdi A B (up A.length ((A++B).length:Int))
   rw[h0] at this ⊢
   rw[if_neg (by omega)]
   exact this
end
end Go.Sx
