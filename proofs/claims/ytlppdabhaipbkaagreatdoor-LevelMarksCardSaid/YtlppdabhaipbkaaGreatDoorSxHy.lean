/- Lists that are sorted by swaps: plain Lean. -/
import Derived.Test.YtlppdabhaipbkaaGreatDoorSxS
set_option linter.unusedVariables false
set_option linter.unusedSimpArgs false
namespace Go.Sx
section
variable {α:Type} {d:α} {key:α→Int}
def swp (d:α) (l:List α) (i j:Nat):List α:=(l.set i (l.getD j d)).set j (l.getD i d)
@[simp] theorem zcg (l:List α) (i j:Nat):(swp d l i j).length=l.length:=by simp[swp]
theorem zng (l:List α) (i k:Nat) (x:α):(l.set i x).getD k d=if i=k∧i<l.length then x else l.getD k d:=by
 simp only[List.getD_eq_getElem?_getD,List.getElem?_set]
 by_cases h:i=k
 ·subst h
  by_cases h2:i<l.length
  ·simp[h2]
  ·simp[h2]
 ·simp[h]
theorem zl9 (l:List α) {i j:Nat} (hi:i<l.length) (hj:j<l.length) (k:Nat):(swp d l i j).getD k d=if k=j then l.getD i d else if k=i then l.getD j d else l.getD k d:=by
 unfold swp
 rw[zng,zng,List.length_set]
 by_cases h1:k=j
 ·subst h1;simp[hj]
 ·rw[if_neg (by omega),if_neg h1]
  by_cases h2:k=i
  ·subst h2;simp[hi]
  ·rw[if_neg (by omega),if_neg h2]
theorem zxb (l:List α) {i j:Nat} (hi:i<l.length) (hj:j<l.length):(swp d l i j).Perm l:=by
 have e1:l.getD j d=l[j]:=by simp[List.getD_eq_getElem?_getD,hj]
 have e2:l.getD i d=l[i]:=by simp[List.getD_eq_getElem?_getD,hi]
 unfold swp
 rw[e1,e2]
 exact List.set_set_perm hi hj
inductive Sw (d:α) (a b:Nat):List α→List α→Prop
 |refl (l):Sw d a b l l
 |step {l l' i j}:Sw d a b l l'→a≤i→i<b→a≤j→j<b→b≤l'.length→Sw d a b l (swp d l' i j)
theorem Sw.len {a b:Nat} {l l':List α} (h:Sw d a b l l'):l'.length=l.length:=by
 induction h with
 |refl=>rfl
 |step _ _ _ _ _ _ ih=>rw[zcg,ih]
theorem Sw.perm {a b:Nat} {l l':List α} (h:Sw d a b l l'):l'.Perm l:=by
 induction h with
 |refl=>exact List.Perm.refl _
 |step _ _ _ _ _ _ ih=>exact(zxb _ (by omega) (by omega)).trans ih
theorem Sw.out {a b:Nat} {l l':List α} (h:Sw d a b l l') {k:Nat} (hk:k<a∨b≤k):l'.getD k d=l.getD k d:=by
 induction h with
 |refl=>rfl
 |step _ _ _ _ _ _ ih=>rw[zl9 _ (by omega) (by omega),if_neg (by omega),if_neg (by omega),ih]
theorem Sw.all {a b:Nat} {l l':List α} (h:Sw d a b l l') (P:α→Prop) (hP: ∀ k,a≤k→k<b→P (l.getD k d)): ∀ k,a≤k→k<b→P (l'.getD k d):=by
 induction h with
 |refl=>exact hP
 | @step l' i j _ h1 h2 h3 h4 h5 ih=>
  intro k hk1 hk2
  rw[zl9 _ (by omega) (by omega)]
  split
  ·exact ih i h1 h2
  ·split
   ·exact ih j h3 h4
   ·exact ih k hk1 hk2
theorem Sw.trans {a b:Nat} {l1 l2 l3:List α} (h:Sw d a b l1 l2) (k:Sw d a b l2 l3):Sw d a b l1 l3:=by
 induction k with
 |refl=>exact h
 |step _ h1 h2 h3 h4 h5 ih=>exact .step ih h1 h2 h3 h4 h5
theorem Sw.mono {a b a' b':Nat} {l l':List α} (h:Sw d a b l l') (h1:a'≤a) (h2:b≤b') (h3:b'≤l.length):Sw d a' b' l l':=by
 induction h with
 |refl=>exact .refl _
 |step hs k1 k2 k3 k4 k5 ih=>exact .step ih (by omega) (by omega) (by omega) (by omega) (by rw[hs.len];omega)
theorem Sw.one {a b i j:Nat} {l:List α} (h1:a≤i) (h2:i<b) (h3:a≤j) (h4:j<b) (h5:b≤l.length):Sw d a b l (swp d l i j):= .step (.refl _) h1 h2 h3 h4 h5
def vk (d:α) (key:α→Int) (l:List α) (i:Nat):Int:=key (l.getD i d)
theorem z05 (l:List α) {i j:Nat} (hi:i<l.length) (hj:j<l.length) (k:Nat):vk d key (swp d l i j) k=if k=j then vk d key l i else if k=i then vk d key l j else vk d key l k:=by
 unfold vk
 rw[zl9 l hi hj k]
 split
 ·rfl
 ·split<;>rfl
theorem Sw.vout {a b:Nat} {l l':List α} (h:Sw d a b l l') {k:Nat} (hk:k<a∨b≤k):vk d key l' k=vk d key l k:=by
 unfold vk;rw[h.out hk]
theorem Sw.vall {a b:Nat} {l l':List α} (h:Sw d a b l l') (P:Int→Prop) (hP: ∀ k,a≤k→k<b→P (vk d key l k)): ∀ k,a≤k→k<b→P (vk d key l' k):=h.all (fun x=>P (key x)) hP
def Srt (d:α) (key:α→Int) (a b:Nat) (l:List α):Prop:= ∀ i,a≤i→i+1<b→vk d key l i≤vk d key l (i+1)
theorem Srt.le {a b:Nat} {l:List α} (h:Srt d key a b l) {i j:Nat} (h1:a≤i) (h2:i≤j) (h3:j<b):vk d key l i≤vk d key l j:=by
 induction j with
 |zero=>have:i=0:=by omega
        subst this;exact Int.le_refl _
 |succ j ih=>
  by_cases h4:i=j+1
  ·subst h4;exact Int.le_refl _
  ·have:=ih (by omega) (by omega)
   have:=h j (by omega) h3
   omega
theorem Srt.pairwise {l:List α} (h:Srt d key 0 l.length l):l.Pairwise (fun x y=>key x≤key y):=by
 rw[List.pairwise_iff_getElem]
 intro i j hi hj hij
 have:=h.le (Nat.zero_le i) (Nat.le_of_lt hij) hj
 unfold vk at this
 simpa [List.getD_eq_getElem?_getD,hi,hj] using this
end
end Go.Sx
