/- Frag, plain: runs of places of a span. -/
import Derived.Test.YtpmbmobjnknnhaaGreatDoorSxS
set_option linter.unusedVariables false
set_option linter.unusedSimpArgs false
namespace Go.Sx
def inSp (a b p:Int):Bool:=decide (p≥a)&&decide (p<b)
def z7 (q:Int→Bool):List Int→Nat→Option Nat→List (Nat×Nat)
 | [],_,none=> []
 | [],k,some s=> [(s,k)]
 |p::l,k,none=>if q p=true then z7 q l (k+1) (some k) else z7 q l (k+1) none
 |p::l,k,some s=>if q p=true then z7 q l (k+1) (some s) else(s,k)::z7 q l (k+1) none
def znd (l:List (Nat×Nat)):Int:=(l.map fun r=>(r.2:Int) - r.1).sum
def cnt (q:Int→Bool):List Int→Int
 | []=>0
 |p::l=>(if q p=true then 1 else 0)+cnt q l
theorem zne (q:Int→Bool): ∀ (l:List Int) (k:Nat),znd (z7 q l k none)=cnt q l∧ ∀ s,znd (z7 q l k (some s))=(k:Int) - s+cnt q l
 | [],k=>⟨rfl,fun s=>by simp[z7,znd,cnt]⟩
 |p::l,k=>by
  obtain⟨h1,h2⟩:=zne q l (k+1)
  refine⟨?_,fun s=> ?_⟩
  ·simp only[z7,cnt]
   split
   ·rw[h2 k];omega
   ·rw[h1];omega
  ·simp only[z7,cnt]
   split
   ·rw[h2 s];omega
   ·have:znd ((s,k)::z7 q l (k+1) none)=((k:Int) - s)+znd (z7 q l (k+1) none):=by simp[znd]
    rw[this,h1];omega
def zyy (q:Int→Bool):List Int→Bool→Nat
 | [],_=>0
 |p::l,pr=>(if q p=true∧pr=false then 1 else 0)+zyy q l (q p)
theorem zrd (q:Int→Bool): ∀ (l:List Int) (k:Nat),(z7 q l k none).length=zyy q l false∧ ∀ s,(z7 q l k (some s)).length=1+zyy q l true
 | [],k=>⟨rfl,fun s=>rfl⟩
 |p::l,k=>by
  obtain⟨h1,h2⟩:=zrd q l (k+1)
  refine⟨?_,fun s=> ?_⟩
  ·simp only[z7,zyy]
   cases hq:q p with
   |true=>simp[h2 k]
   |false=>simp[h1]
  ·simp only[z7,zyy]
   cases hq:q p with
   |true=>simp[h2 s]
   |false=>simp[h1];omega
def zf8 (q:Int→Bool):List Int→Nat→Nat
 | [],k=>k
 |p::l,k=>if q p=true then zf8 q l (k+1) else k
theorem zlm (q:Int→Bool): ∀ (l:List Int) (k:Nat),k≤zf8 q l k∧zf8 q l k≤k+l.length
 | [],k=>⟨Nat.le_refl _,Nat.le_refl _⟩
 |p::l,k=>by
  have:=zlm q l (k+1)
  simp only[zf8,List.length_cons]
  split<;>omega
theorem zrx (q:Int→Bool): ∀ (l:List Int) (k s:Nat),z7 q l k (some s)=(s,zf8 q l k)::z7 q (l.drop (zf8 q l k+1 - k)) (zf8 q l k+1) none
 | [],k,s=>by simp[z7,zf8]
 |p::l,k,s=>by
  simp only[z7,zf8]
  by_cases hq:q p=true
  ·rw[if_pos hq,if_pos hq,zrx q l (k+1) s]
   have:=zlm q l (k+1)
   congr 2
   rw[show zf8 q l (k+1)+1 - k=(zf8 q l (k+1)+1 - (k+1))+1 by omega,List.drop_succ_cons]
  ·rw[if_neg hq,if_neg hq,show k+1 - k=1 by omega,List.drop_succ_cons,List.drop_zero]
def qn (a b:Int):List (Int×Int×List Int)→Nat→List (Int×Int×Int)
 | [],_=> []
 |r::rows,i=>(z7 (inSp a b) r.2.2 0 none).map (fun x=>((i:Int),(x.1:Int),(x.2:Int)))++qn a b rows (i+1)
def zba (l:List (Int×Int×Int)):Int:=(l.map fun f=>max 0 (f.2.2 - f.2.1)).sum
theorem zax (q:Int→Bool): ∀ (l:List Int) (k:Nat),(∀ x∈z7 q l k none,k≤x.1∧x.1<x.2∧x.2≤k+l.length)∧ ∀ s,s<k→ ∀ x∈z7 q l k (some s),s≤x.1∧x.1<x.2∧x.2≤k+l.length
 | [],k=>⟨by simp[z7],fun s hs x hx=>by simp[z7] at hx;subst hx;simp;omega⟩
 |p::l,k=>by
  obtain⟨h1,h2⟩:=zax q l (k+1)
  refine⟨fun x hx=> ?_,fun s hs x hx=> ?_⟩
  ·simp only[z7] at hx
   rw[List.length_cons]
   split at hx
   ·have:=h2 k (by omega) x hx;omega
   ·have:=h1 x hx;omega
  ·simp only[z7] at hx
   rw[List.length_cons]
   split at hx
   ·have:=h2 s (by omega) x hx;omega
   ·rcases List.mem_cons.1 hx with rfl|hx
    ·dsimp only;omega
    ·have:=h1 x hx;omega
theorem znc (l m:List (Int×Int×Int)):zba (l++m)=zba l+zba m:=by simp[zba]
theorem zsf (i:Nat) (l:List (Nat×Nat)) (h: ∀ x∈l,x.1<x.2):zba (l.map (fun x=>((i:Int),(x.1:Int),(x.2:Int))))=znd l:=by
 unfold zba znd
 rw[List.map_map]
 congr 1
 apply List.map_congr_left
 intro x hx
 have:=h x hx
 show max 0 ((x.2:Int) - x.1)=_
 omega
def cntR (a b:Int) (rows:List (Int×Int×List Int)):Int:=(rows.map fun r=>cnt (inSp a b) r.2.2).sum
theorem zha (a b:Int): ∀ (rows:List (Int×Int×List Int)) (i:Nat),zba (qn a b rows i)=cntR a b rows
 | [],_=>rfl
 |r::rows,i=>by
  have hp:=(zax (inSp a b) r.2.2 0).1
  rw[qn,znc,zha a b rows (i+1),zsf i _ (fun x hx=>(hp x hx).2.1),(zne (inSp a b) r.2.2 0).1]
  simp[cntR]
def heavy (rows:List (Int×Int×List Int)):Nat:=(rows.map fun r=>r.2.2.length).sum
end Go.Sx
