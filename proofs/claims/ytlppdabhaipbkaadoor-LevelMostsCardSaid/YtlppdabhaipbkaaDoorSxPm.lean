/- Level, plain: the laws LevelMosts, LevelPlain. -/
import Derived.Test.YtlppdabhaipbkaaDoorSxPs
import Derived.Test.YtlppdabhaipbkaaDoorSxPz
import Derived.Test.YtlppdabhaipbkaaDoorSxPE
import Derived.Test.YtlppdabhaipbkaaDoorSxR
set_option linter.unusedVariables false
set_option linter.unusedSimpArgs false
namespace Go.Sx
theorem zsu: ∀ {l:List Int},(z9 l).length≤1↔ ∀ i,i<l.length→l.getD i 0=l.getD 0 0:=by
 intro l
 constructor
 ·intro h i hi
  have h0:0<l.length:=by omega
  have a1:l.getD i 0∈z9 l:=zdo.2 (by rw[zH 0 hi];exact List.getElem_mem hi)
  have a2:l.getD 0 0∈z9 l:=zdo.2 (by rw[zH 0 h0];exact List.getElem_mem h0)
  match hc:z9 l,h with
  | [],_=>rw[hc] at a1;cases a1
  | [z],_=>
   rw[hc,List.mem_singleton] at a1 a2
   rw[a1,a2]
 ·induction l with
  |nil=>intro _;decide
  |cons x t ih=>
   intro h
   cases t with
   |nil=>simp[z9]
   |cons y t=>
    have hxy:y=x:=h 1 (by simp)
    rw[z9,if_pos hxy.symm]
    refine ih fun i hi=> ?_
    have:=h (i+1) (by simpa using hi)
    exact Eq.trans this hxy.symm
def zzt (l:List Int):Bool:=decide ((z9 l).length≤1)
theorem zv8 {chars:List Int} (hl:chars.length≤1000) (dir:Int):Ld.f7F (chars,dir)=some (zzt (zxf chars dir)):=by
 unfold Ld.f7F zzt
 have hf:=zpp chars dir
 dsimp only
 rw[zyx hl dir,Option.bind_some]
 dsimp only
 rw[ztf _ (by omega),Option.bind_some,zzv _ (by omega),Option.bind_some]
 congr 1
 rw[Bool.eq_iff_iff,decide_eq_true_eq,decide_eq_true_eq]
 omega
theorem zzr {l:List Int} (hl:l.length≤100000): ∃ m,Ld.f8F l=some m∧(l= []→m= -1)∧(∀ i,i<l.length→l.getD i 0≤m)∧(l≠ []→ ∃ i,i<l.length∧l.getD i 0=m):=by
 unfold Ld.f8F
 by_cases h0:l.length=0
 ·have:l= []:=List.eq_nil_of_length_eq_zero h0
  subst this
  exact⟨-1,rfl,fun _=>rfl,fun i hi=>by simp at hi,fun h=>absurd rfl h⟩
 rw[if_neg (by simp;intro e;exact h0 (by rw[e];rfl))]
 unfold Ld.f13F
 rw[if_neg (by rw[decide_eq_true_eq];omega),if_pos (by omega)]
 suffices h: ∃ m,(Option.bind (iter _ (List.getD l (Int.toNat 0) 0,(1:Int))) fun v1=>some v1)=some m∧((∀ i,i<l.length→l.getD i 0≤m)∧ ∃ i,i<l.length∧l.getD i 0=m) by
  obtain⟨m,h1,h2,h3⟩:=h
  refine⟨m, ?_,fun h=>absurd (by rw[h];rfl) h0,h2,fun _=>h3⟩
  rw[h1];rfl
 refine z7 (Q:=fun m=>(∀ i,i<l.length→l.getD i 0≤m)∧ ∃ i,i<l.length∧l.getD i 0=m) (zm (I:=fun(s:Int×Int)=> ∃ k:Nat,s.2=(k:Int)∧1≤k∧k≤l.length∧(∀ i,i<k→l.getD i 0≤s.1)∧ ∃ i,i<k∧l.getD i 0=s.1) (fun s=>((l.length:Int) - s.2).toNat) ?_ _ ⟨1,rfl,by omega,by omega,fun i hi=>by
  have:i=0:=by omega
  subst this
  exact Int.le_refl _,0,by omega,rfl⟩) fun e he=>⟨e,rfl,he⟩
 rintro ⟨m,_⟩ ⟨k,rfl,hk1,hk2,hle,j,hj,hjm⟩
 dsimp only at*
 by_cases hk:k<l.length
 ·left
  rw[if_pos (by rw[decide_eq_true_eq];omega),if_pos (by omega),Int.toNat_natCast,za (by omega) (by omega)]
  refine⟨_,rfl,⟨k+1,by simp,by omega,by omega,fun i hi=> ?_, ?_⟩,by simp;omega⟩
  ·dsimp only
   unfold zik
   by_cases hik:i=k
   ·subst hik;split<;>omega
   ·have:=hle i (by omega);split<;>omega
  ·dsimp only
   unfold zik
   split
   ·exact⟨k,by omega,rfl⟩
   ·exact⟨j,by omega,hjm⟩
 ·right
  rw[if_neg (by rw[decide_eq_true_eq];omega)]
  have:k=l.length:=by omega
  subst this
  exact⟨_,rfl,hle,j,hj,hjm⟩
theorem zhc (chars:List Int) (dir:Int) (levels:List Int):Ld.f4F (chars,dir,levels)=some true:=by
 unfold Ld.f4F
 rw[zti]
 simp only[Option.bind_some,Bool.not_true,Bool.false_eq_true,if_false]
 by_cases hl:chars.length≤200
 case neg=>rw[if_pos (by rw[decide_eq_true_eq];omega),Option.bind_some,if_pos rfl]
 rw[if_neg (by rw[decide_eq_true_eq];omega),Option.bind_some]
 by_cases hv:levels.length≤200
 case neg=>rw[if_pos (by rw[decide_eq_true_eq];omega)]
 rw[if_neg (by rw[decide_eq_true_eq];omega)]
 obtain⟨m,hm,m0,m1,m2⟩:=zzr (l:=levels) (by omega)
 rw[hm,Option.bind_some]
 refine zy (e:=decide (levels= [])) ?_ ?_
 ·by_cases h:levels= []
  ·rw[m0 h,h];rfl
  ·rw[if_neg (by simp;exact h),decide_eq_false h]
 refine zy (e:=Sum.inl true) ?_ ?_
 ·suffices key: ∀ (j k:Nat) (b:Bool),k+j=levels.length→(b=true∨ ∃ i,k≤i∧i<levels.length∧levels.getD i 0=m)→iter _ (b,(k:Int))=some (Sum.inl true:Bool ⊕ Bool) from
   key levels.length 0 _ (by omega) (by
    by_cases h:levels= []
    ·exact .inl (decide_eq_true h)
    ·obtain⟨i,h1,h2⟩:=m2 h
     exact .inr ⟨i,by omega,h1,h2⟩)
  intro j
  induction j with
  |zero=>
   intro k b hk hb
   have hb:b=true:=by
    rcases hb with h|⟨i,h1,h2,_⟩
    ·exact h
    ·omega
   refine zo ?_
   dsimp only
   rw[if_neg (by rw[decide_eq_true_eq];omega),hb]
  |succ j ih=>
   intro k b hk hb
   have hkl:k<levels.length:=by omega
   have hle:=m1 k hkl
   cases b with
   |true=>
    rw[zu (s':=(true,((k+1:Nat):Int)))]
    ·exact ih (k+1) true (by omega) (.inl rfl)
    ·dsimp only
     rw[if_pos (by rw[decide_eq_true_eq];omega),if_pos (by omega),Int.toNat_natCast,if_neg (by rw[decide_eq_true_eq];omega),if_pos rfl,za (by omega) (by omega)]
     rfl
   |false=>
    rw[zu (s':=(levels.getD k 0==m,((k+1:Nat):Int)))]
    ·refine ih (k+1) _ (by omega) ?_
     rcases hb with h|⟨i,h1,h2,h3⟩
     ·cases h
     ·by_cases hik:i=k
      ·left;rw[← hik,h3,beq_self_eq_true]
      ·exact .inr ⟨i,by omega,h2,h3⟩
    ·dsimp only
     rw[if_pos (by rw[decide_eq_true_eq];omega),if_pos (by omega),Int.toNat_natCast,if_neg (by rw[decide_eq_true_eq];omega),if_neg (by decide),if_pos (by omega),za (by omega) (by omega)]
     rfl
 dsimp only[Sum.elim_inl]
 rw[zyx (by omega) dir,Option.bind_some]
 have hf:=zpp chars dir
 have hb:=zvl (chars.map zbb) dir
 dsimp only
 generalize hL:zxf chars dir=L at hf
 refine zy (e:=zzt L) ?_ ?_
 ·suffices key: ∀ (j k:Nat) (b:Bool),k+j=L.length→(b=true↔ ∀ i,i<k→L.getD i 0=L.getD 0 0)→iter _ (b,(k:Int))=some (zzt L) from
   key L.length 0 true (by omega) ⟨fun _ i hi=>by omega,fun _=>rfl⟩
  intro j
  induction j with
  |zero=>
   intro k b hk hb
   have hk:k=L.length:=hk
   subst hk
   refine zo ?_
   dsimp only
   rw[if_neg (by rw[decide_eq_true_eq];omega)]
   congr 2
   rw[Bool.eq_iff_iff,hb]
   unfold zzt
   rw[decide_eq_true_eq,zsu]
  |succ j ih=>
   intro k b hk hb
   cases b with
   |true=>
    rw[zu (s':=(L.getD k 0==L.getD 0 0,((k+1:Nat):Int)))]
    ·refine ih (k+1) _ (by omega) ⟨fun h i hi=> ?_,fun h=> ?_⟩
     ·by_cases hik:i=k
      ·rw[hik];simpa using h
      ·exact hb.1 rfl i (by omega)
     ·rw[h k (by omega),beq_self_eq_true]
    ·dsimp only
     rw[if_pos (by rw[decide_eq_true_eq];omega),if_pos rfl,if_pos (by omega),if_pos (by omega),Int.toNat_natCast,za (by omega) (by omega)]
     rfl
   |false=>
    rw[zu (s':=(false,((k+1:Nat):Int)))]
    ·refine ih (k+1) false (by omega) ⟨fun h=>(by cases h),fun h=> ?_⟩
     exact hb.2 fun i hi=>h i (by omega)
    ·dsimp only
     rw[if_pos (by rw[decide_eq_true_eq];omega),if_neg (by decide),za (by omega) (by omega)]
     rfl
 rw[if_pos rfl,zv8 (by omega) dir,hL,Option.bind_some,if_pos (beq_self_eq_true _),if_pos (by rw[decide_eq_true_eq];omega),if_pos (by rw[decide_eq_true_eq];omega),hf,beq_self_eq_true]
theorem zhd (x:List Int×Int×List Int) (hw:zun [.sl (.int .i64), .int .i64, .sl (.int .i64)] x):Ld.f4F x=some true:=by
 obtain⟨chars,dir,levels⟩:=x
 exact zhc chars dir levels
end Go.Sx
