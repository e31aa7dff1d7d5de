/- Frag, plain: runs of places of a span. -/
import Derived.Test.YtpmbmobjnknnhaaGreatDoorSxS
set_option linter.unusedVariables false
set_option linter.unusedSimpArgs false
namespace Go.Sx
def inSp (a b p:Int):Bool:=decide (p≥a)&&decide (p<b)
def qA (q:Int→Bool):List Int→Nat→Option Nat→List (Nat×Nat)
 | [],_,none=> []
 | [],k,some s=> [(s,k)]
 |p::l,k,none=>if q p=true then qA q l (k+1) (some k) else qA q l (k+1) none
 |p::l,k,some s=>if q p=true then qA q l (k+1) (some s) else(s,k)::qA q l (k+1) none
def zny (l:List (Nat×Nat)):Int:=(l.map fun r=>(r.2:Int) - r.1).sum
def cnt (q:Int→Bool):List Int→Int
 | []=>0
 |p::l=>(if q p=true then 1 else 0)+cnt q l
theorem znz (q:Int→Bool): ∀ (l:List Int) (k:Nat),zny (qA q l k none)=cnt q l∧ ∀ s,zny (qA q l k (some s))=(k:Int) - s+cnt q l
 | [],k=>⟨rfl,fun s=>by simp[qA,zny,cnt]⟩
 |p::l,k=>by
  obtain⟨h1,h2⟩:=znz q l (k+1)
  refine⟨?_,fun s=> ?_⟩
  ·simp only[qA,cnt]
   split
   ·rw[h2 k];omega
   ·rw[h1];omega
  ·simp only[qA,cnt]
   split
   ·rw[h2 s];omega
   ·have:zny ((s,k)::qA q l (k+1) none)=((k:Int) - s)+zny (qA q l (k+1) none):=by simp[zny]
    rw[this,h1];omega
def zy5 (q:Int→Bool):List Int→Bool→Nat
 | [],_=>0
 |p::l,pr=>(if q p=true∧pr=false then 1 else 0)+zy5 q l (q p)
theorem zq5 (q:Int→Bool): ∀ (l:List Int) (k:Nat),(qA q l k none).length=zy5 q l false∧ ∀ s,(qA q l k (some s)).length=1+zy5 q l true
 | [],k=>⟨rfl,fun s=>rfl⟩
 |p::l,k=>by
  obtain⟨h1,h2⟩:=zq5 q l (k+1)
  refine⟨?_,fun s=> ?_⟩
  ·simp only[qA,zy5]
   cases hq:q p with
   |true=>simp[h2 k]
   |false=>simp[h1]
  ·simp only[qA,zy5]
   cases hq:q p with
   |true=>simp[h2 s]
   |false=>simp[h1];omega
def zgb (q:Int→Bool):List Int→Nat→Nat
 | [],k=>k
 |p::l,k=>if q p=true then zgb q l (k+1) else k
theorem zl2 (q:Int→Bool): ∀ (l:List Int) (k:Nat),k≤zgb q l k∧zgb q l k≤k+l.length
 | [],k=>⟨Nat.le_refl _,Nat.le_refl _⟩
 |p::l,k=>by
  have:=zl2 q l (k+1)
  simp only[zgb,List.length_cons]
  split<;>omega
theorem zq6 (q:Int→Bool): ∀ (l:List Int) (k s:Nat),qA q l k (some s)=(s,zgb q l k)::qA q (l.drop (zgb q l k+1 - k)) (zgb q l k+1) none
 | [],k,s=>by simp[qA,zgb]
 |p::l,k,s=>by
  simp only[qA,zgb]
  by_cases hq:q p=true
  ·rw[if_pos hq,if_pos hq,zq6 q l (k+1) s]
   have:=zl2 q l (k+1)
   congr 2
   rw[show zgb q l (k+1)+1 - k=(zgb q l (k+1)+1 - (k+1))+1 by omega,List.drop_succ_cons]
  ·rw[if_neg hq,if_neg hq,show k+1 - k=1 by omega,List.drop_succ_cons,List.drop_zero]
def xp (a b:Int):List (Int×Int×List Int)→Nat→List (Int×Int×Int)
 | [],_=> []
 |r::rows,i=>(qA (inSp a b) r.2.2 0 none).map (fun x=>((i:Int),(x.1:Int),(x.2:Int)))++xp a b rows (i+1)
def za8 (l:List (Int×Int×Int)):Int:=(l.map fun f=>max 0 (f.2.2 - f.2.1)).sum
theorem zl3 (q:Int→Bool): ∀ (l:List Int) (k:Nat),(∀ x∈qA q l k none,k≤x.1∧x.1<x.2∧x.2≤k+l.length)∧ ∀ s,s<k→ ∀ x∈qA q l k (some s),s≤x.1∧x.1<x.2∧x.2≤k+l.length
 | [],k=>⟨by simp[qA],fun s hs x hx=>by simp[qA] at hx;subst hx;simp;omega⟩
 |p::l,k=>by
  obtain⟨h1,h2⟩:=zl3 q l (k+1)
  refine⟨fun x hx=> ?_,fun s hs x hx=> ?_⟩
  ·simp only[qA] at hx
   rw[List.length_cons]
   split at hx
   ·have:=h2 k (by omega) x hx;omega
   ·have:=h1 x hx;omega
  ·simp only[qA] at hx
   rw[List.length_cons]
   split at hx
   ·have:=h2 s (by omega) x hx;omega
   ·rcases List.mem_cons.1 hx with rfl|hx
    ·dsimp only;omega
    ·have:=h1 x hx;omega
theorem zn0 (l m:List (Int×Int×Int)):za8 (l++m)=za8 l+za8 m:=by simp[za8]
theorem zs5 (i:Nat) (l:List (Nat×Nat)) (h: ∀ x∈l,x.1<x.2):za8 (l.map (fun x=>((i:Int),(x.1:Int),(x.2:Int))))=zny l:=by
 unfold za8 zny
 rw[List.map_map]
 congr 1
 apply List.map_congr_left
 intro x hx
 have:=h x hx
 show max 0 ((x.2:Int) - x.1)=_
 omega
def cntR (a b:Int) (rows:List (Int×Int×List Int)):Int:=(rows.map fun r=>cnt (inSp a b) r.2.2).sum
theorem zh3 (a b:Int): ∀ (rows:List (Int×Int×List Int)) (i:Nat),za8 (xp a b rows i)=cntR a b rows
 | [],_=>rfl
 |r::rows,i=>by
  have hp:=(zl3 (inSp a b) r.2.2 0).1
  rw[xp,zn0,zh3 a b rows (i+1),zs5 i _ (fun x hx=>(hp x hx).2.1),(znz (inSp a b) r.2.2 0).1]
  simp[cntR]
def heavy (rows:List (Int×Int×List Int)):Nat:=(rows.map fun r=>r.2.2.length).sum
end Go.Sx
