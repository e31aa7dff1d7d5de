/- Frag, plain: the law FragJust. -/
import Derived.Test.YtpmbmobjnknnhaaGreatDoorSxHn
set_option linter.unusedVariables false
set_option linter.unusedSimpArgs false
namespace Go.Sx
theorem zw3 {chars:List Int} {a b n:Nat} (hab:a≤b) (hb:b≤n):cntC (inSp (a:Int) (b:Int)) chars 0 n=cntC (fun _=>true) chars a (b - a):=by
 have e:n=a+((b - a)+(n - b)):=by omega
 rw[e,zgk,zgk,zg9 a (fun k hk=>by unfold inSp;rw[decide_eq_false (by omega),Bool.false_and]),zg9 (a:=0+a+(b - a)) _ (fun k hk=>by unfold inSp;rw[decide_eq_false (p:=((0+a+(b - a)+k:Nat):Int)<(b:Int)) (by omega),Bool.and_false]),
  Nat.zero_add,zjw (r:=fun _=>true) (b - a) (fun k hk=>by unfold inSp;rw[decide_eq_true (by omega),decide_eq_true (by omega)];rfl)]
 omega
theorem zls (chars:List Int) (dir:Int) (three:List Int) (h3: ∀ k,0≤three.getD k 0∧three.getD k 0≤255):R.f5F (chars,dir,three)=some true:=by
 unfold R.f5F
 rw[zxv]
 simp only[Option.bind_some,Bool.not_true,Bool.false_eq_true,if_false]
 by_cases hl:chars.length≤120
 case neg=>rw[if_pos (by rw[decide_eq_true_eq];omega)]
 rw[if_neg (by rw[decide_eq_true_eq];omega),if_pos (by decide)]
 have w0:=h3 0
 have w1:=h3 1
 have w2:=h3 2
 have e0:three.getD (nat_lit 0) 0=three.getD 0 0:=rfl
 have e1:three.getD (nat_lit 1) 0=three.getD 1 0:=rfl
 have e2:three.getD (nat_lit 2) 0=three.getD 2 0:=rfl
 rw[e0,e1,e2]
 generalize three.getD 0 0=t0 at*
 generalize three.getD 1 0=t1 at*
 generalize three.getD 2 0=t2 at*
 rw[za (x:=t0) (by omega) (by omega),za (x:=1+t0) (by omega) (by omega),za (x:=t1) (by omega) (by omega),za (x:=t2) (by omega) (by omega),za (x:=(chars.length:Int)+1) (by omega) (by omega)]
 obtain⟨l,hl1,hl2⟩:=z0m (n:=chars.length) (by omega) (w:=1+t0) (by omega)
 rw[hl1,Option.bind_some,z0l (by omega) dir hl2,Option.bind_some]
 dsimp only
 rw[if_neg (by decide),if_pos (by decide),if_neg (by omega),if_pos (by decide),if_neg (by omega)]
 have hR:=zxz hl dir hl2
 generalize zz4 chars dir l=rows at hR ⊢
 obtain⟨a,b,hab,hb,hmin,hmax⟩: ∃ a b:Nat,a≤b∧b≤chars.length∧zck (Int.tmod t1 ((chars.length:Int)+1)) (Int.tmod t2 ((chars.length:Int)+1))=(a:Int)∧zef (Int.tmod t1 ((chars.length:Int)+1)) (Int.tmod t2 ((chars.length:Int)+1))=(b:Int):=by
  have q1:=ziw (a:=t1) (b:=(chars.length:Int)+1) w1.1 (by omega)
  have q2:=ziw (a:=t2) (b:=(chars.length:Int)+1) w2.1 (by omega)
  generalize Int.tmod t1 ((chars.length:Int)+1)=x at*
  generalize Int.tmod t2 ((chars.length:Int)+1)=y at*
  refine⟨(zck x y).toNat,(zef x y).toNat, ?_, ?_, ?_, ?_⟩<;>simp only[zck,zef]<;>split<;>try split
  all_goals omega
 rw[hmin,hmax]
 obtain⟨hF,hC⟩:=hR.count (a:Int) (b:Int)
 rw[hF,Option.bind_some]
 have hlen:=jG (a:Int) (b:Int) rows 0
 have hsm:=hR.small
 obtain⟨hok,hpw⟩:=zq1 (a:Int) (b:Int) rows 0
 generalize qn (a:Int) (b:Int) rows 0=F at hF hC hlen hok hpw ⊢
 refine zn (e:=(cntC (fun _=>true) chars a (b - a),(a:Int),(b:Int))) ?_ ?_
 ·suffices key: ∀ (j k:Nat),a+k+j=b→iter _ (cntC (fun _=>true) chars a k,((a+k:Nat):Int),(a:Int),(b:Int))=some (cntC (fun _=>true) chars a (b - a),(a:Int),(b:Int)) from by
   have:=key (b - a) 0 (by omega)
   exact this
  have hcb: ∀ k,0≤cntC (fun _=>true) chars a k∧cntC (fun _=>true) chars a k≤k:=by
   intro k
   induction k with
   |zero=>exact⟨Int.le_refl _,Int.le_refl _⟩
   |succ k ih=>rw[cntC];split<;>omega
  intro j
  induction j with
  |zero=>
   intro k hk
   refine zl ?_
   dsimp only
   rw[if_neg (by rw[decide_eq_true_eq];omega),show b - a=k by omega]
  |succ j ih=>
   intro k hk
   have hck:=hcb k
   rw[zo (s':=(cntC (fun _=>true) chars a (k+1),((a+(k+1):Nat):Int),(a:Int),(b:Int)))]
   ·exact ih (k+1) (by omega)
   ·dsimp only
    rw[if_pos (by rw[decide_eq_true_eq];omega),if_pos (by omega),Int.toNat_natCast,z0n,Option.bind_some,za (by omega) (by omega),za (by omega) (by omega),cntC]
    cases ctlC (chars.getD (a+k) 0)<;>simp<;>omega
 ·dsimp only
  refine zn (e:= .inl ()) ?_ ?_
  ·suffices key: ∀ (j i:Nat),i+j=F.length→iter _ ((i:Int),(a:Int),(b:Int))=some (Sum.inl ():PUnit ⊕ Bool) from key F.length 0 (by omega)
   intro j
   induction j with
   |zero=>
    intro i hi
    refine zl ?_
    dsimp only
    rw[if_neg (by rw[decide_eq_true_eq];omega)]
   |succ j ih=>
    intro i hi
    have hiF:i<F.length:=by omega
    rw[zo (s':=(((i+1:Nat):Int),(a:Int),(b:Int)))]
    ·exact ih (i+1) (by omega)
    ·dsimp only
     rw[if_pos (by rw[decide_eq_true_eq];omega),if_pos (by omega),Int.toNat_natCast]
     obtain⟨ln,g1,g2,x,y,g3,g4,g5,g6,g7⟩:=hok _ (List.getElem_mem hiF)
     rw[← zy (0,0,0) hiF] at g1 g3 g4
     generalize hf:F.getD i (0,0,0)=f at g1 g3 g4 ⊢
     rw[Nat.zero_add] at g1
     have hyb:(rows.getD ln (0,0, [])).2.2.length≤heavy rows:=zhw (by rw[zy _ g2];exact List.getElem_mem g2)
     refine zn (e:=(false,(a:Int),(b:Int),(ln:Int),(x:Int),(y:Int))) ?_ ?_
     ·rw[g1,g3,g4,if_neg (by rw[decide_eq_true_eq];omega),if_neg (by rw[decide_eq_true_eq];omega),if_neg (by rw[decide_eq_true_eq];omega),if_neg (by rw[decide_eq_true_eq];omega),if_pos (by omega),Int.toNat_natCast,if_neg (by rw[decide_eq_true_eq];omega)]
      by_cases hi0:(i:Int) > 0
      ·rw[if_pos (by rw[decide_eq_true_eq];exact hi0)]
       have hw:IntKind.i64.wrap ((i:Int) - 1)=((i - 1:Nat):Int):=by rw[za (by omega) (by omega)];omega
       have hp:=List.pairwise_iff_getElem.1 hpw (i - 1) i (by omega) hiF (by omega)
       rw[← zy (0,0,0) (by omega:i - 1<F.length), ← zy (0,0,0) hiF,hf,g1,g3] at hp
       rw[hw,if_pos (by omega),Int.toNat_natCast,if_neg (by rw[decide_eq_true_eq];omega),if_pos (by omega)]
       by_cases he:(F.getD (i - 1) (0,0,0)).1=(ln:Int)
       ·rw[if_pos (by rw[he];exact beq_self_eq_true _),if_pos (by omega),decide_eq_false (by omega)]
       ·rw[if_neg (by simpa using he)]
      ·rw[if_neg (by rw[decide_eq_true_eq];exact hi0)]
     ·dsimp only
      rw[if_neg (by decide)]
      refine zn (e:= .inl ((a:Int),(b:Int))) ?_ (by dsimp only[Sum.elim_inl];rw[za (by omega) (by omega)];rfl)
      suffices kk: ∀ (j k:Nat),k+j=y→x≤k→iter _ ((k:Int),(a:Int),(b:Int),(ln:Int),(x:Int),(y:Int))=some (Sum.inl ((a:Int),(b:Int)):(Int×Int) ⊕ Bool) from kk (y - x) x (by omega) (Nat.le_refl _)
      intro j
      induction j with
      |zero=>
       intro k hk _
       refine zl ?_
       dsimp only
       rw[if_neg (by rw[decide_eq_true_eq];omega)]
      |succ j ihj=>
       intro k hk hxk
       rw[zo (s':=(((k+1:Nat):Int),(a:Int),(b:Int),(ln:Int),(x:Int),(y:Int)))]
       ·exact ihj (k+1) (by omega) (by omega)
       ·have hin:=g7 k hxk (by omega)
        unfold inSp at hin
        rw[Bool.and_eq_true,decide_eq_true_eq,decide_eq_true_eq] at hin
        dsimp only
        rw[if_pos (by rw[decide_eq_true_eq];omega),if_pos (by omega),Int.toNat_natCast,if_pos (by omega),Int.toNat_natCast,if_neg (by rw[decide_eq_true_eq];omega),Option.bind_some]
        dsimp only
        rw[if_neg (by rw[decide_eq_true_eq];omega),za (by omega) (by omega)]
        rfl
  ·dsimp only[Sum.elim_inl]
   rw[hC,Option.bind_some,zw3 hab hb,beq_self_eq_true]
theorem zlt (x:List Int×Int×List Int) (hw:zwj [.sl (.int .i64), .int .i64, .arr 3 (.int .u8)] x):R.f5F x=some true:=by
 obtain⟨chars,dir,three⟩:=x
 refine zls chars dir three fun k=> ?_
 by_cases hk:k<three.length
 ·rw[zy 0 hk]
  exact hw.2.2.2 _ (List.getElem_mem hk)
 ·rw[List.getD_eq_getElem?_getD,List.getElem?_eq_none (by omega)]
  decide
end Go.Sx
