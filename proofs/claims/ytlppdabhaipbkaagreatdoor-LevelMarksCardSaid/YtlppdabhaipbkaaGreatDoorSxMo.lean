/- LevelMarks: marks that are put in turn no level. Own work. -/
import Derived.Test.YtlppdabhaipbkaaGreatDoorSxMl
import Derived.Test.YtlppdabhaipbkaaGreatDoorSxMn
import Derived.Test.YtlppdabhaipbkaaGreatDoorSxTMc
import Derived.Test.YtlppdabhaipbkaaGreatDoorSxR
set_option maxHeartbeats 1000000
set_option linter.unusedVariables false
set_option linter.unusedSimpArgs false
namespace Go.Sx
theorem zzj (c:Int):Lz.f20F c=some (zfv (zE c)):=by
 unfold Lz.f20F
 rw[zzg,Option.bind_some,zzh]
 rfl
theorem zz7 {chars:List Int} (hl:chars.length≤100000):Lz.f8F chars=some (seenS (chars.map zE)):=by
 unfold Lz.f8F
 have hlen:(chars.map zE).length=chars.length:=List.length_map ..
 refine zx (e:=seenS (chars.map zE)) ?_ rfl
 suffices key: ∀ (j k:Nat),k+j=chars.length→iter _ ((k:Int),sN (chars.map zE) k)=some (seenS (chars.map zE)) from
  key chars.length 0 (by omega)
 intro j
 induction j with
 |zero=>
  intro k hk
  have hk:k=chars.length:=hk
  subst hk
  refine zn ?_
  dsimp only
  rw[if_neg (by rw[decide_eq_true_eq];omega),seenS,hlen]
 |succ j ih=>
  intro k hk
  have hkn:k<chars.length:=by omega
  rw[zw (s':=(((k+1:Nat):Int),sN (chars.map zE) (k+1)))]
  ·exact ih (k+1) (by omega)
  ·have hkc:0≤(k:Int)∧(k:Int)<(chars.length:Int):=by omega
   have hlm:=zki (chars.map zE) k
   have hcl:(chars.map zE).getD k 0=zE (chars.getD k 0):=by
    rw[zm 0 (by omega),zm 0 hkn,List.getElem_map]
   dsimp only
   rw[if_pos (by rw[decide_eq_true_eq];omega),if_pos hkc,Int.toNat_natCast,zzj,Option.bind_some,za1,hcl,za (by omega) (by omega)]
   cases zfv (zE (chars.getD k 0)) with
   |true=>rfl
   |false=>
    rw[if_pos (by decide),if_pos (by unfold zj;omega)]
    rfl
theorem zhz (chars at_:List Int) (dir:Int) (hat: ∀ y∈at_,0≤y∧y≤255):Lz.f3F (chars,at_,dir)=some true:=by
 unfold Lz.f3F
 rw[zug]
 simp only[Option.bind_some,Bool.not_true,Bool.false_eq_true,if_false]
 by_cases hl:chars.length≤100
 case neg=>rw[if_pos (by rw[decide_eq_true_eq];omega),Option.bind_some,if_pos rfl]
 rw[if_neg (by rw[decide_eq_true_eq];omega),Option.bind_some]
 by_cases hm:at_.length≤20
 case neg=>rw[if_pos (by rw[decide_eq_true_eq];omega)]
 rw[if_neg (by rw[decide_eq_true_eq];omega),if_pos (by unfold zj;omega)]
 refine zx (e:= ?more) (r:=some true) ?h1 ?h2
 case more=>exact(List.range at_.length).foldl (fun m i=>m.take (at_.getD i 0 % (m.length+1:Int)).toNat++65279::m.drop (at_.getD i 0 % (m.length+1:Int)).toNat) chars
 all_goals
  have hI: ∀ k,k≤at_.length→((List.range k).foldl (fun m i=>m.take (at_.getD i 0 % (m.length+1:Int)).toNat++65279::m.drop (at_.getD i 0 % (m.length+1:Int)).toNat) chars).length=chars.length+k∧
    zY (((List.range k).foldl (fun m i=>m.take (at_.getD i 0 % (m.length+1:Int)).toNat++65279::m.drop (at_.getD i 0 % (m.length+1:Int)).toNat) chars).map zE) dir=zY (chars.map zE) dir∧
    klS ((List.range k).foldl (fun m i=>m.take (at_.getD i 0 % (m.length+1:Int)).toNat++65279::m.drop (at_.getD i 0 % (m.length+1:Int)).toNat) chars) dir=klS chars dir:=by
   intro k hk
   induction k with
   |zero=>exact⟨rfl,rfl,rfl⟩
   |succ k ih=>
    obtain⟨q1,q2,q3⟩:=ih (by omega)
    rw[List.range_succ,List.foldl_append,List.foldl_cons,List.foldl_nil]
    generalize (List.range k).foldl _ chars=m at*
    have h0:=(hat (at_.getD k 0) (by rw[zm 0 (by omega)];exact List.getElem_mem _)).1
    generalize hp:(at_.getD k 0 % (m.length+1:Int)).toNat=p
    have hp1:=Int.emod_nonneg (at_.getD k 0) (b:=(m.length+1:Int)) (by omega)
    have hp3:=Int.emod_lt_of_pos (at_.getD k 0) (b:=(m.length+1:Int)) (by omega)
    have hp2:p≤m.length:=by omega
    obtain⟨r1,r2⟩:=zwt (m.take p) (m.drop p) dir
    rw[List.take_append_drop] at r1 r2
    refine⟨by simp;omega,r1.trans q2,r2.trans q3⟩
 case h1=>
  suffices key: ∀ (j k:Nat),k+j=at_.length→iter _ ((k:Int),(List.range k).foldl (fun m i=>m.take (at_.getD i 0 % (m.length+1:Int)).toNat++65279::m.drop (at_.getD i 0 % (m.length+1:Int)).toNat) chars)=some _ from
   key at_.length 0 (by omega)
  intro j
  induction j with
  |zero=>
   intro k hk
   have hk:k=at_.length:=hk
   subst hk
   refine zn ?_
   dsimp only
   rw[if_neg (by rw[decide_eq_true_eq];omega)]
  |succ j ih=>
   intro k hk
   have hkn:k<at_.length:=by omega
   obtain⟨q1,_,_⟩:=hI k (by omega)
   have h0:=hat (at_.getD k 0) (by rw[zm 0 (by omega)];exact List.getElem_mem _)
   have hih:=ih (k+1) (by omega)
   rw[List.range_succ,List.foldl_append,List.foldl_cons,List.foldl_nil] at hih
   generalize (List.range k).foldl _ chars=m at*
   rw[zw (s':=(((k+1:Nat):Int),m.take (at_.getD k 0 % (m.length+1:Int)).toNat++65279::m.drop (at_.getD k 0 % (m.length+1:Int)).toNat))]
   ·exact hih
   ·have hkc:0≤(k:Int)∧(k:Int)<(at_.length:Int):=by omega
    dsimp only
    have hw:IntKind.i64.wrap (m.length+1:Int)=(m.length+1:Int):=za (by omega) (by omega)
    have hw2:IntKind.i64.wrap (at_.getD k 0)=at_.getD k 0:=za (by omega) (by omega)
    have hmod:Int.tmod (at_.getD k 0) (m.length+1:Int)=at_.getD k 0 % (m.length+1:Int):=Int.tmod_eq_emod_of_nonneg h0.1
    rw[if_pos (by rw[decide_eq_true_eq];omega),if_pos hkc,Int.toNat_natCast,hw,hw2,hmod,if_neg (by omega)]
    have hp1:0≤at_.getD k 0 % (m.length+1:Int):=Int.emod_nonneg _ (by omega)
    have hp2:at_.getD k 0 % (m.length+1:Int)<(m.length+1:Int):=Int.emod_lt_of_pos _ (by omega)
    generalize at_.getD k 0 % (m.length+1:Int)=p at*
    rw[if_pos ⟨hp1,by omega⟩,if_pos (by simp only[zj,List.length_take];omega),if_pos (by simp only[zj,List.nil_append,List.length_take];omega),if_pos ⟨hp1,by omega⟩,
     if_pos (by simp only[zj,List.nil_append,List.length_append,List.length_take,List.length_drop,List.length_cons,List.length_nil];omega),za (by omega) (by omega)]
    simp
 case h2=>
  obtain⟨q1,q2,q3⟩:=hI at_.length (Nat.le_refl _)
  generalize (List.range at_.length).foldl _ chars=m at*
  have hf1:=zqb chars dir
  have hf2:=zqb m dir
  rw[zz1 (by omega) dir,Option.bind_some,zz1 (by omega) dir,Option.bind_some]
  dsimp only
  rw[q2,hf1,hf2,if_neg (by simp),if_neg (by simp)]
  refine zx (e:=false) (by simp) ?_
  rw[if_neg (by decide),zz7 (by omega),Option.bind_some,zz7 (by omega),Option.bind_some]
  unfold klS at q3
  have hs1: ∀ p∈seenS (chars.map zE),0≤p∧p<(chars.length:Int):=fun p hp=>by
   obtain⟨j,rfl,hj,_⟩:=zV hp
   rw[List.length_map] at hj
   omega
  have hs2: ∀ p∈seenS (m.map zE),0≤p∧p<(m.length:Int):=fun p hp=>by
   obtain⟨j,rfl,hj,_⟩:=zV hp
   rw[List.length_map] at hj
   omega
  have hlen:(seenS (m.map zE)).length=(seenS (chars.map zE)).length:=by
   have:=congrArg List.length q3
   rwa [List.length_map,List.length_map] at this
  have hA:(seenS (chars.map zE)).length≤1000:=by
   have:=zki (chars.map zE) (chars.map zE).length
   rw[List.length_map] at this
   unfold seenS
   rw[List.length_map]
   omega
  generalize seenS (chars.map zE)=S at*
  generalize seenS (m.map zE)=S' at*
  have hk: ∀ i,i<S.length→(zrx chars dir).getD (S.getD i 0).toNat 0=(zrx m dir).getD (S'.getD i 0).toNat 0:=fun i hi=>by
   have:(List.map (fun p=>(zrx m dir).getD p.toNat 0) S').getD i 0=(List.map (fun p=>(zrx chars dir).getD p.toNat 0) S).getD i 0:=congrArg (fun l:List Int=>l.getD i 0) q3
   rw[zm 0 (by rw[List.length_map];omega),zm 0 (by rw[List.length_map];omega),List.getElem_map,List.getElem_map] at this
   rw[zm 0 hi,zm (l:=S') 0 (by omega)]
   exact this.symm
  generalize zrx chars dir=L at*
  generalize zrx m dir=L' at*
  refine zx (e:=Sum.inl ()) ?_ ?_
  ·suffices key: ∀ (j k:Nat),k+j=S.length→iter _ (k:Int)=some (Sum.inl ():Unit ⊕ Bool) from key S.length 0 (by omega)
   intro j
   induction j with
   |zero=>
    intro k hkk
    have hkk:k=S.length:=hkk
    subst hkk
    refine zn ?_
    refine zx (e:=false) ?_ rfl
    rw[if_neg (by rw[decide_eq_true_eq];omega)]
   |succ j ih=>
    intro k hkk
    rw[zw (s':=((k+1:Nat):Int))]
    ·exact ih (k+1) (by omega)
    ·have hk1:0≤(k:Int)∧(k:Int)<(S.length:Int):=by omega
     have hk2:0≤(k:Int)∧(k:Int)<(S'.length:Int):=by omega
     have hs1k:=hs1 (S.getD k 0) (by rw[zm 0 (by omega)];exact List.getElem_mem _)
     have hs2k:=hs2 (S'.getD k 0) (by rw[zm 0 (by omega)];exact List.getElem_mem _)
     refine zx (e:=true) ?_ ?_
     ·rw[if_pos (by rw[decide_eq_true_eq];omega)]
      congr 1
      rw[decide_eq_true_eq];omega
     ·rw[if_pos rfl,if_pos hk1,Int.toNat_natCast,if_pos hs1k,if_pos hk2,if_pos hs2k,hk k (by omega),if_neg (by simp),za (by omega) (by omega)]
      rfl
  ·dsimp only[Sum.elim_inl]
   rw[hlen]
   simp
theorem zh0 (x:List Int×List Int×Int) (hw:zvl [.sl (.int .i64), .sl (.int .u8), .int .i64] x):Lz.f3F x=some true:=by
 obtain⟨chars,at_,dir⟩:=x
 exact zhz chars at_ dir fun y hy=>hw.2.1.2 y hy
end Go.Sx
