/- Frag: what the functions tell is what the plain ones are. -/
import Derived.Test.YtpmbmobjnknnhaaGreatDoorSxFa
import Derived.Test.YtpmbmobjnknnhaaGreatDoorSxEA
set_option linter.unusedVariables false
set_option linter.unusedSimpArgs false
namespace Go.Sx
abbrev RowT:=Int×Int×List Int
abbrev ztl:=Int×Int×Int
theorem zzw {α:Type} (l:List α) (d:α) {i:Nat} (h:i<l.length):l.getD i d=l[i]:=by simp[List.getD_eq_getElem?_getD,h]
theorem zyo {A:Type} {x:Option A} {v:A} (h: ∃ r,x=some r∧r=v):x=some v:=by
 obtain⟨r,h,rfl⟩:=h
 exact h
theorem zhw: ∀ {rows:List RowT} {r:RowT},r∈rows→r.2.2.length≤heavy rows
 |x::rows,r,h=>by
  have e:heavy (x::rows)=x.2.2.length+heavy rows:=by simp[heavy]
  rcases List.mem_cons.1 h with rfl|h
  ·omega
  ·have:=zhw h
   omega
theorem z18 (p a b:Int):R.f31F (p,a,b)=some (inSp a b p,a,b):=by
 unfold R.f31F inSp
 dsimp only
 by_cases h:p≥a
 ·rw[if_pos (by rw[decide_eq_true_eq];exact h),decide_eq_true h];rfl
 ·rw[if_neg (by rw[decide_eq_true_eq];exact h),decide_eq_false h];rfl
theorem ztz (q:Int→Bool): ∀ (l:List Int) (b:Bool),zyy q l b≤l.length
 | [],_=>Nat.le_refl _
 |p::l,b=>by
  have:=ztz q l (q p)
  simp only[zyy,List.length_cons]
  split<;>omega
theorem jG (a b:Int): ∀ (rows:List RowT) (i:Nat),(qn a b rows i).length≤heavy rows
 | [],_=>Nat.zero_le _
 |r::rows,i=>by
  have ih:=jG a b rows (i+1)
  have h1:=(zrd (inSp a b) r.2.2 0).1
  have h2:=ztz (inSp a b) r.2.2 false
  have e:heavy (r::rows)=r.2.2.length+heavy rows:=by simp[heavy]
  simp only[qn,List.length_append,List.length_map]
  omega
theorem zz5 {q:Int→Bool} {l:List Int} {k:Nat} (hk:k<l.length) (h:q l[k]=true):z7 q (l.drop k) k none=(k,zf8 q (l.drop k) k)::z7 q (l.drop (zf8 q (l.drop k) k+1)) (zf8 q (l.drop k) k+1) none∧k<zf8 q (l.drop k) k:=by
 rw[List.drop_eq_getElem_cons hk]
 have hge:=zlm q (l.drop (k+1)) (k+1)
 constructor
 ·rw[z7,if_pos h,zrx q (l.drop (k+1)) (k+1) k,zf8,if_pos h,List.drop_drop]
  congr 2
  congr 1
  omega
 ·rw[zf8,if_pos h]
  omega
def fm (i:Nat) (l:List (Nat×Nat)):List ztl:=l.map fun x=>((i:Int),(x.1:Int),(x.2:Int))
theorem z16 {rows:List RowT} (hr:rows.length+heavy rows≤500) (a b:Int):R.f14F (rows,a,b)=some (qn a b rows 0):=by
 unfold R.f14F
 dsimp only
 generalize hR:qn a b rows 0=T
 have hT:T.length≤500:=by have:=jG a b rows 0;rw[hR] at this;omega
 refine zyo ?_
 refine zZ (Q:=fun e:List ztl=>e=T) (zp (I:=fun s:Int×Int×Int×List ztl=> ∃ i:Nat, ∃ f:List ztl,s=((i:Int),a,b,f)∧i≤rows.length∧f++qn a b (rows.drop i) i=T) (fun s=>((rows.length:Int) - s.1).toNat) ?_ _ ⟨0, [],rfl,Nat.zero_le _,hR⟩) ?_
 rotate_left
 ·rintro _ rfl
  exact⟨_,rfl,rfl⟩
 rintro _ ⟨i,f,rfl,hi,hf⟩
 dsimp only
 by_cases hil:i<rows.length
 rotate_left
 ·rw[if_neg (by rw[decide_eq_true_eq];omega)]
  rw[List.drop_of_length_le (by omega)] at hf
  refine .inr ⟨_,rfl, ?_⟩
  rw[← hf]
  simp[qn]
 have hlm:=zhw (List.getElem_mem hil)
 rw[if_pos (by rw[decide_eq_true_eq];omega),if_pos (by omega),Int.toNat_natCast,zzw rows _ hil]
 rw[List.drop_eq_getElem_cons hil,qn] at hf
 generalize rows[i]=r at*
 obtain⟨r1,r2,l⟩:=r
 dsimp only at hf hlm ⊢
 refine qs (R:=fun v:Int×Int×List ztl=> ∃ f:List ztl,v=(a,b,f)∧f++qn a b (rows.drop (i+1)) (i+1)=T)
  (zp (I:=fun s:Int×Int×Int×Int×Int×List Int×List ztl=> ∃ k:Nat, ∃ f:List ztl,s=((k:Int),a,b,r1,r2,l,f)∧k≤l.length+1∧f++(fm i (z7 (inSp a b) (l.drop k) k none)++qn a b (rows.drop (i+1)) (i+1))=T) (fun s=>((l.length:Int)+1 - s.1).toNat) ?_ _ ⟨0,f,rfl,Nat.zero_le _,by rw[← hf];simp[fm,List.append_assoc]⟩) ?_
 rotate_left
 ·rintro _ ⟨f',rfl,hf'⟩
  dsimp only
  rw[za (by omega) (by omega)]
  exact .inl ⟨_,rfl,⟨i+1,f',rfl,hil,hf'⟩,by show((rows.length:Int) - ((i:Int)+1)).toNat<((rows.length:Int) - (i:Int)).toNat;omega⟩
 clear hf f
 rintro _ ⟨k,f,rfl,hk,hf⟩
 dsimp only
 by_cases hkl:k<l.length
 rotate_left
 ·rw[if_neg (by rw[decide_eq_true_eq];omega)]
  rw[List.drop_of_length_le (by omega)] at hf
  exact .inr ⟨_,rfl,f,rfl,by rw[← hf];simp[fm,z7]⟩
 rw[if_pos (by rw[decide_eq_true_eq];omega)]
 have hge:=zlm (inSp a b) (l.drop k) k
 rw[List.length_drop] at hge
 refine qs (R:=fun v:Int×Int×Int×Int×Int×List Int×List ztl=>v=(((zf8 (inSp a b) (l.drop k) k:Nat):Int),a,b,r1,r2,l,f))
  (zp (I:=fun s:Int×Int×Int×Int×Int×List Int×List ztl=> ∃ t:Nat,s=((t:Int),a,b,r1,r2,l,f)∧k≤t∧t≤l.length∧zf8 (inSp a b) (l.drop t) t=zf8 (inSp a b) (l.drop k) k) (fun s=>((l.length:Int) - s.1).toNat) ?_ _ ⟨k,rfl,Nat.le_refl _,by omega,rfl⟩) ?_
 ·rintro _ ⟨t,rfl,ht1,ht2,ht3⟩
  dsimp only
  by_cases htl:t<l.length
  ·rw[if_pos (by rw[decide_eq_true_eq];omega),if_pos (by omega),Int.toNat_natCast,zzw l _ htl,z18]
   simp only[Option.bind_some]
   rw[List.drop_eq_getElem_cons htl,zf8] at ht3
   cases hq:inSp a b l[t] with
   |true=>
    rw[if_pos hq] at ht3
    rw[if_pos rfl,za (by omega) (by omega)]
    exact .inl ⟨_,rfl,⟨t+1,rfl,by omega,htl,ht3⟩,by show((l.length:Int) - ((t:Int)+1)).toNat<((l.length:Int) - (t:Int)).toNat;omega⟩
   |false=>
    rw[if_neg (by rw[hq];decide)] at ht3
    rw[if_neg (by decide), ← ht3]
    exact .inr ⟨_,rfl,rfl⟩
  ·rw[if_neg (by rw[decide_eq_true_eq];omega)]
   simp only[Option.bind_some,Bool.false_eq_true,if_false]
   rw[List.drop_of_length_le (by omega),zf8] at ht3
   rw[← ht3]
   exact .inr ⟨_,rfl,rfl⟩
 rintro _ rfl
 dsimp only
 cases hq:inSp a b l[k] with
 |true=>
  obtain⟨e1,e2⟩:=zz5 hkl hq
  rw[e1] at hf
  generalize zf8 (inSp a b) (l.drop k) k=E at*
  have hlen:=congrArg List.length hf
  simp only[List.length_append,fm,List.map_cons,List.length_cons] at hlen
  rw[if_pos (by rw[decide_eq_true_eq];omega),if_pos (by unfold zi;omega),za (by omega) (by omega)]
  refine .inl ⟨_,rfl,⟨E+1,f++ [((i:Int),(k:Int),(E:Int))],rfl,by omega, ?_⟩,by show((l.length:Int)+1 - ((E:Int)+1)).toNat<((l.length:Int)+1 - (k:Int)).toNat;omega⟩
  rw[← hf]
  simp[fm,List.append_assoc]
 |false=>
  have e1:zf8 (inSp a b) (l.drop k) k=k:=by rw[List.drop_eq_getElem_cons hkl,zf8,if_neg (by rw[hq];decide)]
  have e2:z7 (inSp a b) (l.drop k) k none=z7 (inSp a b) (l.drop (k+1)) (k+1) none:=by rw[List.drop_eq_getElem_cons hkl,z7,if_neg (by rw[hq];decide)]
  rw[e1,if_neg (by rw[decide_eq_true_eq];omega),za (by omega) (by omega)]
  rw[e2] at hf
  exact .inl ⟨_,rfl,⟨k+1,f,rfl,by omega,hf⟩,by show((l.length:Int)+1 - ((k:Int)+1)).toNat<((l.length:Int)+1 - (k:Int)).toNat;omega⟩
theorem zht (a b:Int): ∀ (rows:List RowT) (i:Nat), ∀ f∈qn a b rows i,0≤f.2.1∧f.2.1≤f.2.2∧f.2.2≤heavy rows
 | [],_,f,h=>by simp[qn] at h
 |r::rows,i,f,h=>by
  have e:heavy (r::rows)=r.2.2.length+heavy rows:=by simp[heavy]
  rw[qn] at h
  rcases List.mem_append.1 h with h|h
  ·obtain⟨x,hx,rfl⟩:=List.mem_map.1 h
   have:=(zax (inSp a b) r.2.2 0).1 x hx
   dsimp only
   omega
  ·have:=zht a b rows (i+1) f h
   omega
theorem zjx {F:List ztl} {i:Nat} (h:i<F.length):zba (F.take (i+1))=zba (F.take i)+max 0 (F[i].2.2 - F[i].2.1):=by
 rw[List.take_succ_eq_append_getElem h,znc]
 simp[zba]
theorem z2m (a b:Int):zef a b=max a b:=by
 unfold zef
 split<;>omega
theorem z17 {F:List ztl} (hl:F.length≤500) (hs: ∀ f∈F,0≤f.2.1∧f.2.1≤f.2.2∧f.2.2≤500):R.f19F F=some (zba F)∧0≤zba F∧zba F≤250000:=by
 have hb: ∀ i:Nat,i≤F.length→0≤zba (F.take i)∧zba (F.take i)≤i*500:=by
  intro i
  induction i with
  |zero=>intro _;simp[zba]
  |succ i ih=>
   intro hi
   have h1:=ih (by omega)
   have h2:=hs F[i] (List.getElem_mem (by omega))
   rw[zjx (by omega)]
   omega
 have hall:=hb F.length (Nat.le_refl _)
 rw[List.take_length] at hall
 refine⟨?_,by omega,by omega⟩
 unfold R.f19F
 refine zyo ?_
 refine zZ (Q:=fun e:Int=>e=zba F) (zp (I:=fun s:Int×Int=> ∃ i:Nat,s=(zba (F.take i),(i:Int))∧i≤F.length) (fun s=>((F.length:Int) - s.2).toNat) ?_ _ ⟨0,rfl,Nat.zero_le _⟩) ?_
 ·rintro _ ⟨i,rfl,hi⟩
  dsimp only
  by_cases hil:i<F.length
  ·have h1:=hb i hi
   have h2:=hs F[i] (List.getElem_mem hil)
   rw[if_pos (by rw[decide_eq_true_eq];omega),if_pos (by omega),Int.toNat_natCast,zzw F _ hil,za (x:=F[i].2.2 - F[i].2.1) (by omega) (by omega),z2m,za (by omega) (by omega),za (x:=(i:Int)+1) (by omega) (by omega)]
   exact .inl ⟨_,rfl,⟨i+1,by rw[zjx hil];rfl,hil⟩,by show((F.length:Int) - ((i:Int)+1)).toNat<((F.length:Int) - (i:Int)).toNat;omega⟩
  ·rw[if_neg (by rw[decide_eq_true_eq];omega)]
   refine .inr ⟨_,rfl, ?_⟩
   rw[List.take_of_length_le (by omega)]
 ·rintro _ rfl
  exact⟨_,rfl,rfl⟩
end Go.Sx
