/- Level, plain: weak classes, rules 4 and 5, and all of them. -/
import Derived.Test.YtlppdabhaipbkaaGreatDoorSxMd
set_option linter.unusedVariables false
set_option linter.unusedSimpArgs false
namespace Go.Sx
def zyy (a b c:Int):Bool:=a==b&&(a==3&&(c==4||c==7)||a==6&&c==7)
def zy7:Int→List Int→List Int
 |a,c::b::t=>(if zyy a b c=true then a else c)::zy7 (if zyy a b c=true then a else c) (b::t)
 |_,l=>l
def zqw:List Int→List Int
 | []=> []
 |a::t=>a::zy7 a t
theorem zqy: ∀ (t:List Int) (a:Int),(zy7 a t).length=t.length
 | [],_=>rfl
 | [_],_=>rfl
 |c::b::t,a=>by simp only[zy7,List.length_cons];rw[zqy (b::t)];rfl
theorem zsa (l:List Int):(zqw l).length=l.length:=by
 cases l with
 |nil=>rfl
 |cons a t=>simp[zqw,zqy]
theorem zwz (a b c:Int) (m:List Int):(if(a==b)=true then if(a==(3:Int))=true then if(c==(4:Int))=true then some (true,m) else if(c==(7:Int))=true then some (true,m) else if(a==(6:Int))=true then some (c==(7:Int),m) else some (false,m) else if(a==(6:Int))=true then some (c==(7:Int),m) else some (false,m) else some (false,m))=some (zyy a b c,m):=by
 unfold zyy
 cases h1:a==b with
 |false=>simp
 |true=>
  cases h2:a==(3:Int) with
  |true=>
   have:a=3:=by simpa using h2
   subst this
   cases h3:c==(4:Int)<;>cases h4:c==(7:Int)<;>simp
  |false=>cases h5:a==(6:Int)<;>simp
theorem zye {l:List Int} (hl:l.length≤100000):Lz.f122F l=some (zqw l):=by
 unfold Lz.f122F
 cases l with
 |nil=>
  refine zx (e:= []) (zn ?_) rfl
  rfl
 |cons a0 t0=>
  suffices key: ∀ (t d:List Int) (a:Int),(d++a::t).length=(a0::t0).length→iter _ (((d.length+1:Nat):Int),d++a::t)=some (d++a::zy7 a t) from
   zx (key t0 [] a0 rfl) rfl
  intro t
  induction t with
  |nil=>
   intro d a hd
   refine zn ?_
   dsimp only
   rw[if_neg ?_]
   ·rfl
   ·rw[decide_eq_true_eq,za (by simp at hl hd;omega) (by simp at hl hd;omega)]
    simp
    omega
  |cons c t ih=>
   intro d a hd
   cases t with
   |nil=>
    refine zn ?_
    dsimp only
    rw[if_neg ?_]
    ·rfl
    ·rw[decide_eq_true_eq,za (by simp at hl hd;omega) (by simp at hl hd;omega)]
     simp
     omega
   |cons b t=>
    have hlen:(d++a::c::b::t).length=d.length+t.length+3:=by simp;omega
    have hln:d.length+t.length+3≤100000:=by rw[← hlen,hd];exact hl
    have ea:(d++a::c::b::t).getD d.length 0=a:=by simp[List.getD_eq_getElem?_getD]
    have ec:(d++a::c::b::t).getD (d.length+1) 0=c:=by simp[List.getD_eq_getElem?_getD]
    have eb:(d++a::c::b::t).getD (d.length+2) 0=b:=by simp[List.getD_eq_getElem?_getD]
    have w1:IntKind.i64.wrap (((d.length+1:Nat):Int)+1)=((d.length+2:Nat):Int):=by rw[za (by omega) (by omega)];omega
    have w2:IntKind.i64.wrap (((d.length+1:Nat):Int) - 1)=(d.length:Int):=by rw[za (by omega) (by omega)];omega
    rw[zw (s':=(((d.length+2:Nat):Int),d++a::(if zyy a b c=true then a else c)::b::t))]
    ·have:=ih (d++ [a]) (if zyy a b c=true then a else c) (by rw[← hd];simp)
     simp only[List.length_append,List.length_cons,List.length_nil,List.append_assoc,List.cons_append,List.nil_append,Nat.zero_add] at this
     simp only[zy7]
     exact this
    ·dsimp only
     rw[w1,w2]
     simp only[Int.toNat_natCast,ea,eb,ec,zwz,Option.bind_some]
     rw[if_pos (by rw[decide_eq_true_eq,hlen];omega),if_pos (by rw[hlen];omega),if_pos (by rw[hlen];omega),if_pos (by rw[hlen];omega)]
     cases h:zyy a b c with
     |false=>rfl
     |true=>
      simp only[if_true]
      rw[if_pos (by rw[hlen];omega)]
      have:(d++a::c::b::t).set (d.length+1) a=d++a::a::b::t:=by
       rw[List.set_append_right _ _ (by omega),show d.length+1 - d.length=1 by omega];rfl
      rw[this]
def zi4:List Int→Bool
 | []=>false
 |c::t=>if c=5 then zi4 t else c==3
def etS:Bool→List Int→List Int
 |_, []=> []
 |p,c::t=>if c=5 then(if(p||zi4 t)=true then 3 else 5)::etS (p||zi4 t) t else c::etS (c==3) t
theorem ztn: ∀ (t:List Int) (p:Bool),(etS p t).length=t.length
 | [],_=>rfl
 |c::t,p=>by unfold etS;split<;>simp[ztn t]
def z6 (n:Nat):List Int:=List.replicate n 5
theorem zup (n:Nat) (t:List Int):zi4 (z6 n++t)=zi4 t:=by
 induction n with
 |zero=>rfl
 |succ n ih=>show zi4 (5::(z6 n++t))=_;rw[zi4,if_pos rfl,ih]
theorem zuq {t:List Int} (h:t.head?≠some 5):zi4 t=(t.head?==some 3):=by
 cases t with
 |nil=>rfl
 |cons c t=>
  unfold zi4
  have: ¬ c=5:=by simpa using h
  rw[if_neg this];simp
theorem zv6 (n:Nat) (t:List Int) (p:Bool):etS p (z6 n++t)=List.replicate n (if(p||zi4 t)=true then(3:Int) else 5)++etS (if n=0 then p else p||zi4 t) t:=by
 induction n generalizing p with
 |zero=>rfl
 |succ n ih=>
  show etS p (5::(z6 n++t))=_
  rw[etS,if_pos rfl,zup,ih]
  have e:((p||zi4 t)||zi4 t)=(p||zi4 t):=by cases p<;>cases zi4 t<;>rfl
  rw[e,List.replicate_succ,if_neg (Nat.succ_ne_zero n),ite_self,List.cons_append]
theorem zkl: ∀ (t:List Int), ∃ n t',t=z6 n++t'∧t'.head?≠some 5
 | []=>⟨0, [],rfl,by simp⟩
 |c::t=>by
  by_cases h:c=5
  ·obtain⟨n,t',h1,h2⟩:=zkl t
   exact⟨n+1,t',by rw[h,h1];rfl,h2⟩
  ·exact⟨0,c::t,rfl,by simpa using h⟩
theorem zto (p:Bool) {t:List Int} (h:t.head?≠some 5) (q:Bool):etS p t=etS q t:=by
 cases t with
 |nil=>rfl
 |cons c t=>unfold etS;rw[if_neg (by simpa using h),if_neg (by simpa using h)]
theorem zyf {l:List Int} (hl:l.length≤100000):Lz.f123F l=some (etS false l):=by
 unfold Lz.f123F
 suffices key: ∀ (n:Nat) (t d:List Int),t.length≤n→(d++t).length=l.length→iter _ ((d.length:Int),d++t)=some (d++etS (d.getLast?==some 3) t) from
  zx (key l.length l [] (Nat.le_refl _) rfl) rfl
 intro n
 induction n with
 |zero=>
  intro t d ht hd
  have:t= []:=List.eq_nil_of_length_eq_zero (by omega)
  subst this
  refine zn ?_
  dsimp only
  rw[if_neg (by rw[decide_eq_true_eq];simp)]
  simp[etS]
 |succ n ih=>
  intro t d ht hd
  cases t with
  |nil=>
   refine zn ?_
   dsimp only
   rw[if_neg (by rw[decide_eq_true_eq];simp)]
   simp[etS]
  |cons c t=>
   have ec:(d++c::t).getD d.length 0=c:=by simp[List.getD_eq_getElem?_getD]
   have hlen:(d++c::t).length=d.length+t.length+1:=by simp;omega
   have hln:d.length+t.length+1≤100000:=by rw[← hlen,hd];exact hl
   by_cases h5:c=5
   case neg=>
    rw[zw (s':=(((d++ [c]).length:Int),d++ [c]++t))]
    ·rw[ih t (d++ [c]) (by simp at ht;omega) (by rw[← hd];simp)]
     simp[etS,h5]
    ·dsimp only
     rw[if_pos (by rw[decide_eq_true_eq,hlen];omega),if_pos (by rw[hlen];omega),Int.toNat_natCast,ec,if_pos (by simpa using h5),za (by omega) (by omega)]
     simp
   case pos=>
    subst h5
    obtain⟨r,t2,h1,h2⟩:=zkl t
    have hlt:t.length=r+t2.length:=by rw[h1];simp[z6]
    have e0:d++5::t=d++z6 (r+1)++t2:=by rw[h1,List.append_assoc];rfl
    have hlen2:(d++z6 (r+1)++t2).length=d.length+(r+1)+t2.length:=by simp[z6];omega
    have hrun: ∀ (f:Int×List Int→Option (Int×List Int ⊕ Int×List Int)),(∀ (k:Nat),k<d.length+(r+1)+t2.length→(d++z6 (r+1)++t2).getD k 0=5→f ((k:Int),d++z6 (r+1)++t2)=some (.inl (((k+1:Nat):Int),d++z6 (r+1)++t2)))→
      (∀ (k:Nat),(k<d.length+(r+1)+t2.length→(d++z6 (r+1)++t2).getD k 0≠5)→k≤d.length+(r+1)+t2.length→f ((k:Int),d++z6 (r+1)++t2)=some (.inr ((k:Int),d++z6 (r+1)++t2)))→
      iter f ((d.length:Int),d++z6 (r+1)++t2)=some (((d.length+(r+1):Nat):Int),d++z6 (r+1)++t2):=by
     intro f q1 q2
     suffices kk: ∀ (j i:Nat),i+j=r+1→iter f (((d.length+i:Nat):Int),d++z6 (r+1)++t2)=some (((d.length+(r+1):Nat):Int),d++z6 (r+1)++t2) from kk (r+1) 0 (by omega)
     intro j
     induction j with
     |zero=>
      intro i hi
      have hi:i=r+1:=hi
      subst hi
      refine zn (q2 _ (fun hk=> ?_) (by omega))
      cases t2 with
      |nil=>simp at hk
      |cons c2 t2=>
       have e:d++z6 (r+1)++c2::t2=(d++z6 (r+1))++c2::t2:=rfl
       have hd2:(d++z6 (r+1)).length=d.length+(r+1):=by simp[z6]
       rw[← hd2]
       have:(d++z6 (r+1)++c2::t2).getD (d++z6 (r+1)).length 0=c2:=by simp[List.getD_eq_getElem?_getD]
       rw[this]
       simpa using h2
     |succ j ihj=>
      intro i hi
      rw[zw (q1 (d.length+i) (by omega) ?_)]
      ·exact ihj (i+1) (by omega)
      ·rw[List.append_assoc,List.getD_eq_getElem?_getD,List.getElem?_append_right (by omega),List.getElem?_append_left (by simp[z6];omega)]
       simp[z6,show d.length+i - d.length=i by omega,show i<r+1 by omega]
    have hprev: ∀ (hd0:0<d.length),(d++z6 (r+1)++t2).getD (d.length - 1) 0=d.getLast (List.ne_nil_of_length_pos hd0):=by
     intro hd0
     rw[List.append_assoc,List.getD_eq_getElem?_getD,List.getElem?_append_left (by omega),List.getElem?_eq_getElem (by omega),Option.getD_some,List.getLast_eq_getElem]
    have hnext: ∀ (h0:0<t2.length),(d++z6 (r+1)++t2).getD (d.length+(r+1)) 0=t2[0]:=by
     intro h0
     have hd2:(d++z6 (r+1)).length=d.length+(r+1):=by simp[z6]
     rw[List.getD_eq_getElem?_getD,List.getElem?_append_right (by omega),hd2,Nat.sub_self,List.getElem?_eq_getElem h0,Option.getD_some]
    have hbes:((d.getLast?==some 3)||zi4 t2)=((d.getLast?==some 3)||(t2.head?==some 3)):=by rw[zuq h2]
    have hspec:etS (d.getLast?==some 3) (5::t)=List.replicate (r+1) (if((d.getLast?==some 3)||zi4 t2)=true then(3:Int) else 5)++etS ((d.getLast?==some 3)||zi4 t2) t2:=by
     have:5::t=z6 (r+1)++t2:=by rw[h1];rfl
     rw[this,zv6,if_neg (Nat.succ_ne_zero r)]
    rw[hspec]
    rw[zw (s':=(((d++List.replicate (r+1) (if((d.getLast?==some 3)||zi4 t2)=true then(3:Int) else 5)).length:Int),d++List.replicate (r+1) (if((d.getLast?==some 3)||zi4 t2)=true then(3:Int) else 5)++t2))]
    ·rw[ih t2 _ (by simp at ht;omega) (by rw[← hd,hlen,List.length_append,List.length_append,List.length_replicate];omega),List.append_assoc,zto _ h2]
    ·rw[e0] at ec ⊢
     dsimp only
     rw[if_pos (by rw[decide_eq_true_eq,hlen2];omega),if_pos (by rw[hlen2];omega),Int.toNat_natCast,ec,if_neg (by simp)]
     refine zx (hrun _ ?_ ?_) ?_
     ·intro k hk he
      dsimp only
      simp (disch:=omega) only[if_pos,decide_eq_true_eq,Int.toNat_natCast,he,beq_self_eq_true,Option.bind_some,hlen2,za]
      rfl
     ·intro k hk he
      dsimp only
      by_cases hkl:k<d.length+(r+1)+t2.length
      ·have:=hk hkl
       simp (disch:=omega) only[if_pos,decide_eq_true_eq,Int.toNat_natCast,Option.bind_some,hlen2]
       rw[if_neg (by simpa using this)]
      ·rw[if_neg (by rw[decide_eq_true_eq,hlen2];omega)]
       rfl
     dsimp only
     have hb:(if decide (((d.length+(r+1):Nat):Int)<((d++z6 (r+1)++t2).length:Int))=true then if 0≤((d.length+(r+1):Nat):Int)∧((d.length+(r+1):Nat):Int)<((d++z6 (r+1)++t2).length:Int) then some ((d++z6 (r+1)++t2).getD (((d.length+(r+1):Nat):Int)).toNat 0==(3:Int),d++z6 (r+1)++t2) else none else some (false,d++z6 (r+1)++t2))=some (t2.head?==some 3,d++z6 (r+1)++t2):=by
      cases t2 with
      |nil=>rw[if_neg (by rw[decide_eq_true_eq,hlen2];simp)];rfl
      |cons c2 t2=>
       rw[if_pos (by rw[decide_eq_true_eq,hlen2];simp;omega),if_pos (by rw[hlen2];simp;omega),Int.toNat_natCast,hnext (by simp)]
       simp
     refine zx (e:=((d.getLast?==some 3)||zi4 t2,d++z6 (r+1)++t2)) ?_ ?_
     ·rw[hb,hbes]
      by_cases hd0:0<d.length
      ·rw[if_pos (by rw[decide_eq_true_eq];omega),za (by omega) (by omega),if_pos (by rw[hlen2];omega),show((d.length:Int) - 1).toNat=d.length - 1 by omega,hprev hd0]
       have:d.getLast?=some (d.getLast (List.ne_nil_of_length_pos hd0)):=List.getLast?_eq_some_getLast _
       rw[this]
       by_cases h3:d.getLast (List.ne_nil_of_length_pos hd0)=3
       ·simp[h3]
       ·rw[if_neg (by simpa using h3)]
        simp[h3]
      ·have:d= []:=List.eq_nil_of_length_eq_zero (by omega)
       rw[if_neg (by rw[decide_eq_true_eq];omega)]
       subst this
       rfl
     dsimp only
     cases hbb:((d.getLast?==some 3)||zi4 t2) with
     |false=>
      refine zx (e:= .inr (((d.length+(r+1):Nat):Int),d++z6 (r+1)++t2)) (zn ?_) ?_
      ·dsimp only
       rw[if_pos (by rw[decide_eq_true_eq];omega)];rfl
      ·simp[z6]
     |true=>
      refine zx (e:= .inl (((d.length+(r+1):Nat):Int),d++List.replicate (r+1) 3++t2)) ?_ (by simp)
      suffices kk: ∀ (j i:Nat),i+j=r+1→iter _ (((d.length+i:Nat):Int),d++List.replicate i 3++(z6 j++t2))=some (Sum.inl (((d.length+(r+1):Nat):Int),d++List.replicate (r+1) 3++t2):(Int×List Int) ⊕ (Int×List Int)) from by
       have:=kk (r+1) 0 (by omega)
       simp only[List.replicate_zero,List.append_nil,Nat.add_zero] at this
       rw[List.append_assoc]
       exact this
      intro j
      induction j with
      |zero=>
       intro i hi
       have hi:i=r+1:=hi
       subst hi
       refine zn ?_
       dsimp only
       rw[if_neg (by rw[decide_eq_true_eq];omega)]
       rfl
      |succ j ihj=>
       intro i hi
       have hl3:(d++List.replicate i 3++(z6 (j+1)++t2)).length=d.length+(r+1)+t2.length:=by simp[z6];omega
       rw[zw (s':=(((d.length+(i+1):Nat):Int),d++List.replicate (i+1) 3++(z6 j++t2)))]
       ·exact ihj (i+1) (by omega)
       ·dsimp only
        rw[if_pos (by rw[decide_eq_true_eq];omega),if_neg (by simp),if_pos (by rw[hl3];omega),Int.toNat_natCast,za (by omega) (by omega)]
        have:(d++List.replicate i 3++(z6 (j+1)++t2)).set (d.length+i) 3=d++List.replicate (i+1) 3++(z6 j++t2):=by
         rw[List.set_append_right _ _ (by simp)]
         simp only[List.length_append,List.length_replicate,Nat.sub_self]
         rw[List.replicate_succ', ← List.append_assoc d,List.append_assoc (d++_)]
         rfl
        rw[this]
        rfl
def zux (s:Int) (k:Nat) (l:List Int):List Int:=match k with
 |0=>zqp s l
 |1=>zg2 s 3 6 2 l
 |2=>l.map (swC 1 [2])
 |3=>zqw l
 |4=>etS false l
 |5=>l.map (swC 13 [4,5,7])
 |_=>zg2 s 3 0 0 l
theorem zuy (s:Int) (k:Nat) (l:List Int):(zux s k l).length=l.length:=by
 unfold zux
 split<;>simp[zqp,zg2,zpw,zsa,ztn]
theorem zz3 {l:List Int} (hl:l.length≤100000) (s:Int) (k:Nat) (hk:k<7):Lz.f81F (s,((k+1:Nat):Int),l)=some (zux s k l):=by
 unfold Lz.f81F zux
 match k,hk with
 |0,_=>simp[zyd hl]
 |1,_=>simp[ztw hl]
 |2,_=>simp[ztx hl]
 |3,_=>simp[zye hl]
 |4,_=>simp[zyf hl]
 |5,_=>simp[ztx hl]
 |6,_=>simp[ztw hl]
def zsq (s:Int):Nat→List Int→List Int
 |0,l=>l
 |k+1,l=>zux s k (zsq s k l)
def zsr (l:List Int) (s:Int):List Int:=zsq (zpp s) 7 (l.map zy6)
theorem zi1 (s:Int) (l:List Int): ∀ k,(zsq s k l).length=l.length
 |0=>rfl
 |k+1=>by rw[zsq,zuy,zi1 s l k]
theorem zi2 (l:List Int) (s:Int):(zsr l s).length=l.length:=by rw[zsr,zi1,List.length_map]
theorem zzx {l:List Int} (hl:l.length≤100000) (s:Int):Lz.f50F (l,s)=some (zsr l s):=by
 unfold Lz.f50F
 dsimp only
 refine zx (zz2 hl) ?_
 suffices key: ∀ (j k:Nat),k+j=7→iter _ ((k:Int),zsq (zpp s) k (l.map zy6))=some (zsr l s) from zx (key 7 0 (by omega)) rfl
 intro j
 induction j with
 |zero=>
  intro k hk
  have hk:k=7:=hk
  subst hk
  exact zn rfl
 |succ j ih=>
  intro k hk
  rw[zw (s':=(((k+1:Nat):Int),zsq (zpp s) (k+1) (l.map zy6)))]
  ·exact ih (k+1) (by omega)
  ·dsimp only
   rw[if_pos (by rw[decide_eq_true_eq];omega),zz4,Option.bind_some,za (by omega) (by omega)]
   rw[show((k:Int)+1)=((k+1:Nat):Int) by omega,zz3 (by rw[zi1,List.length_map];exact hl) _ _ (by omega)]
   rfl
end Go.Sx
