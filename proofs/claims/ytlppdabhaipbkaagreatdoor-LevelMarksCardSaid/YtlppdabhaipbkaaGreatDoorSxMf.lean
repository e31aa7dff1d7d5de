/- Level, plain: neutral classes, and levels of classes. -/
import Derived.Test.YtlppdabhaipbkaaGreatDoorSxMe
import Derived.Test.YtlppdabhaipbkaaGreatDoorSxMg
set_option linter.unusedVariables false
set_option linter.unusedSimpArgs false
namespace Go.Sx
def zaw (c:Int):Bool:=c==10||c==11||c==12||c==13||c==19||c==20||c==21||c==22
theorem zyo:Lz.f77F [10,11,12,13,19,20,21,22]=some 7879680:=by
 unfold Lz.f77F
 rw[qp (n:=9) (e:=7879680) (by rfl)]
 rfl
theorem zyk: ∀ n:Nat,n<23→Lz.f76F ((n:Int),7879680)=some (zaw n):=by
 unfold Lz.f76F
 decide+kernel
theorem ze1 (c:Int):Lz.f130F c=some (zaw c):=by
 unfold Lz.f130F
 rw[zyo]
 show(Lz.f76F (c,7879680)).bind _=_
 by_cases h0:0≤c
 ·by_cases h1:c<23
  ·obtain⟨n,rfl⟩:=Int.eq_ofNat_of_zero_le h0
   rw[zyk n (by omega)]
   rfl
  ·have:Lz.f76F (c,7879680)=some false:=by
    unfold Lz.f76F
    simp[show c≥0 by omega,show ¬ c≤22 by omega]
   rw[this]
   simp[zaw]
   omega
 ·have:Lz.f76F (c,7879680)=some false:=by
   unfold Lz.f76F
   simp[h0]
  rw[this]
  simp[zaw]
  omega
theorem zir (p:Int→Bool): ∀ (t:List Int), ∃ a b,t=a++b∧(∀ c∈a,p c=true)∧(∀ c,b.head?=some c→p c=false)
 | []=>⟨[], [],rfl,by simp,by simp⟩
 |c::t=>by
  cases h:p c with
  |true=>
   obtain⟨a,b,h1,h2,h3⟩:=zir p t
   exact⟨c::a,b,by rw[h1];rfl,fun x hx=>(List.mem_cons.1 hx).elim (fun e=>e▸h) (h2 x),h3⟩
  |false=>exact⟨[],c::t,rfl,by simp,fun x hx=>by simp at hx;rw[← hx];exact h⟩
theorem zwl {B:Type} {f:Int×B→Option (Int×B ⊕ Int×B)} (p:Int→Bool) (l d a t:List Int) (b:B) (hl:l=d++(a++t)) (ha: ∀ c∈a,p c=true) (ht: ∀ c,t.head?=some c→p c=false)
  (h1: ∀ k:Nat,k<l.length→p (l.getD k 0)=true→f ((k:Int),b)=some (.inl (((k+1:Nat):Int),b)))
  (h2: ∀ k:Nat,k≤l.length→(k<l.length→p (l.getD k 0)=false)→f ((k:Int),b)=some (.inr ((k:Int),b))):
  iter f ((d.length:Int),b)=some (((d.length+a.length:Nat):Int),b):=by
 induction a generalizing d with
 |nil=>
  refine zn (h2 _ (by rw[hl];simp) fun hk=> ?_)
  cases t with
  |nil=>rw[hl] at hk;simp at hk
  |cons c t=>rw[hl];simp only[List.nil_append,List.getD_eq_getElem?_getD,List.getElem?_append_right (Nat.le_refl _),Nat.sub_self];exact ht c rfl
 |cons c a ih=>
  rw[zw (h1 d.length (by rw[hl];simp) (by rw[hl];simp only[List.cons_append,List.getD_eq_getElem?_getD,List.getElem?_append_right (Nat.le_refl _),Nat.sub_self];exact ha c (by simp)))]
  have:=ih (d++ [c]) (by rw[hl];simp) (fun x hx=>ha x (by simp[hx]))
  simp only[List.length_append,List.length_cons,List.length_nil] at this
  rw[show d.length+(c::a).length=d.length+1+a.length by simp;omega]
  exact this
def zbf:Nat→Option Nat→List Int→List (List Int)
 |_,none, []=> []
 |k,some a, []=> [[(a:Int),(k:Int)]]
 |k,o,c::t=>if zaw c=true then zbf (k+1) (some (o.getD k)) t else match o with
  |none=>zbf (k+1) none t
  |some a=> [(a:Int),(k:Int)]::zbf (k+1) none t
theorem zqf (a t:List Int) (k j:Nat) (ha: ∀ c∈a,zaw c=true) (ht: ∀ c,t.head?=some c→zaw c=false):zbf k (some j) (a++t)= [(j:Int),((k+a.length:Nat):Int)]::zbf (k+a.length) none t:=by
 induction a generalizing k with
 |nil=>
  cases t with
  |nil=>rfl
  |cons c t=>
   have:=ht c rfl
   simp[zbf,this]
 |cons c a ih=>
  have:=ha c (by simp)
  simp only[List.cons_append,zbf,this,if_true,Option.getD_some,List.length_cons]
  rw[ih (k+1) (fun x hx=>ha x (by simp[hx])),show k+1+a.length=k+(a.length+1) by omega]
theorem zhu: ∀ (t:List Int) (k:Nat) (o:Option Nat),(zbf k o t).length≤t.length+(if o.isSome then 1 else 0)
 | [],_,none=>by simp[zbf]
 | [],_,some _=>by simp[zbf]
 |c::t,k,none=>by
  simp only[zbf,Option.getD_none]
  cases zaw c with
  |true=>have:=zhu t (k+1) (some k);simp at this ⊢;omega
  |false=>have:=zhu t (k+1) none;simp at this ⊢;omega
 |c::t,k,some a=>by
  simp only[zbf,Option.getD_some]
  cases zaw c with
  |true=>have:=zhu t (k+1) (some a);simp at this ⊢;omega
  |false=>have:=zhu t (k+1) none;simp at this ⊢;omega
theorem zwg (l:List Int):(zbf 0 none l).length≤l.length:=by simpa using zhu l 0 none
theorem zz5 {l:List Int} (hl:l.length≤100000):Lz.f86F l=some (zbf 0 none l):=by
 unfold Lz.f86F
 suffices key: ∀ (n:Nat) (t d:List Int) (G:List (List Int)),t.length≤n→d++t=l→G.length≤d.length→iter _ ((d.length:Int),G)=some (G++zbf d.length none t) from
  zx (key l.length l [] [] (Nat.le_refl _) rfl (Nat.le_refl _)) rfl
 intro n
 induction n with
 |zero=>
  intro t d G ht hd hG
  have:t= []:=List.eq_nil_of_length_eq_zero (by omega)
  subst this
  have hdl:d.length=l.length:=by rw[← hd];simp
  refine zn ?_
  dsimp only
  rw[if_neg (by rw[decide_eq_true_eq];omega)]
  simp[zbf]
 |succ n ih=>
  intro t d G ht hd hG
  have hlen:d.length+t.length=l.length:=by rw[← hd];simp
  cases t with
  |nil=>
   refine zn ?_
   dsimp only
   rw[if_neg (by rw[decide_eq_true_eq];simp at hlen;omega)]
   simp[zbf]
  |cons c t=>
   have hlen':d.length+t.length+1=l.length:=by rw[← hlen];simp;omega
   obtain⟨a,b,h1,h2,h3⟩:=zir zaw (c::t)
   have hrun: ∀ (f:Int×List (List Int)→Option (Int×List (List Int) ⊕ Int×List (List Int))),_→_→iter f ((d.length:Int),G)=_:=fun f=>zwl (f:=f) zaw l d a b G (by rw[← hd,h1]) h2 h3
   cases hc:zaw c with
   |false=>
    have ha:a= []:=by
     cases a with
     |nil=>rfl
     |cons x a=>
      have e:c=x:=by simpa using congrArg List.head? h1
      have:=h2 x (by simp)
      rw[← e,hc] at this;cases this
    subst ha
    rw[zw (s':=(((d++ [c]).length:Int),G))]
    ·rw[ih t (d++ [c]) G (by simp at ht;omega) (by rw[← hd];simp) (by simp;omega)]
     simp[zbf,hc]
    ·dsimp only
     rw[if_pos (by rw[decide_eq_true_eq];omega)]
     refine zx (hrun _ ?_ ?_) ?_
     ·intro k hk hp
      dsimp only
      simp (disch:=omega) only[if_pos,decide_eq_true_eq,Int.toNat_natCast,ze1,hp,Option.bind_some,za]
      rfl
     ·intro k hk hp
      dsimp only
      by_cases hkl:k<l.length
      ·simp (disch:=omega) only[if_pos,decide_eq_true_eq,Int.toNat_natCast,ze1,hp hkl,Option.bind_some]
       rfl
      ·rw[if_neg (by rw[decide_eq_true_eq];omega)];rfl
     ·dsimp only
      rw[if_neg (by rw[decide_eq_true_eq];simp),za (by omega) (by omega)]
      simp
   |true=>
    have ha:0<a.length:=by
     cases a with
     |nil=>
      have:b.head?=some c:=by rw[← (by simpa using h1:c::t=b)];rfl
      rw[h3 c this] at hc;cases hc
     |cons x a=>simp
    have hab:a.length+b.length=t.length+1:=by have:=congrArg List.length h1;simp at this;omega
    have hg:zbf d.length none (c::t)= [(d.length:Int),((d.length+a.length:Nat):Int)]::zbf (d.length+a.length) none b:=by
     obtain⟨x,a',rfl⟩: ∃ x a',a=x::a':=by cases a with
      |nil=>simp at ha
      |cons x a'=>exact⟨x,a',rfl⟩
     rw[h1]
     have:=h2 x (by simp)
     simp only[List.cons_append,zbf,this,if_true,Option.getD_none]
     rw[zqf _ _ _ _ (fun y hy=>h2 y (by simp[hy])) h3,show d.length+1+a'.length=d.length+(x::a').length by simp;omega]
    rw[hg]
    cases b with
    |nil=>
     have hn:(d.length+a.length)=l.length:=by simp at hab;omega
     rw[zw (s':=(((d.length+a.length+1:Nat):Int),G++ [[(d.length:Int),((d.length+a.length:Nat):Int)]]))]
     ·refine zn ?_
      dsimp only
      rw[if_neg (by rw[decide_eq_true_eq];omega)]
      simp[zbf]
     ·dsimp only
      rw[if_pos (by rw[decide_eq_true_eq];omega)]
      refine zx (hrun _ ?_ ?_) ?_
      ·intro k hk hp
       dsimp only
       simp (disch:=omega) only[if_pos,decide_eq_true_eq,Int.toNat_natCast,ze1,hp,Option.bind_some,za]
       rfl
      ·intro k hk hp
       dsimp only
       by_cases hkl:k<l.length
       ·simp (disch:=omega) only[if_pos,decide_eq_true_eq,Int.toNat_natCast,ze1,hp hkl,Option.bind_some]
        rfl
       ·rw[if_neg (by rw[decide_eq_true_eq];omega)];rfl
      ·dsimp only
       rw[if_pos (by rw[decide_eq_true_eq];omega),if_pos (by simp only[zj];omega),za (by omega) (by omega)]
       rfl
    |cons c2 t2=>
     have hc2:=h3 c2 rfl
     have e1:d++a++ [c2]++t2=l:=by rw[← hd,h1];simp
     have hab':a.length+t2.length+1=t.length+1:=by simp at hab;omega
     rw[zw (s':=(((d++a++ [c2]).length:Int),G++ [[(d.length:Int),((d.length+a.length:Nat):Int)]]))]
     ·rw[ih t2 (d++a++ [c2]) _ (by simp at ht;omega) e1 (by simp;omega)]
      simp[zbf,hc2,Nat.add_assoc]
     ·dsimp only
      rw[if_pos (by rw[decide_eq_true_eq];omega)]
      refine zx (hrun _ ?_ ?_) ?_
      ·intro k hk hp
       dsimp only
       simp (disch:=omega) only[if_pos,decide_eq_true_eq,Int.toNat_natCast,ze1,hp,Option.bind_some,za]
       rfl
      ·intro k hk hp
       dsimp only
       by_cases hkl:k<l.length
       ·simp (disch:=omega) only[if_pos,decide_eq_true_eq,Int.toNat_natCast,ze1,hp hkl,Option.bind_some]
        rfl
       ·rw[if_neg (by rw[decide_eq_true_eq];omega)];rfl
      ·dsimp only
       rw[if_pos (by rw[decide_eq_true_eq];omega),if_pos (by simp only[zj];omega),za (by omega) (by omega)]
       simp
       omega
def zvo (lev c:Int):Int:=if zbg c≥0 then zbg c else zcy lev
theorem zxn {l:List Int} (i lev e:Int):Lz.f87F (l,i,lev,e)=some (if 0≤i∧i<(l.length:Int) then zvo lev (l.getD i.toNat 0) else zpp e):=by
 unfold Lz.f87F
 dsimp only
 have hse:(if(e==(1:Int))=true then some (1:Int) else some 0)=some (zpp e):=by
  unfold zpp
  by_cases h:e=1<;>simp[h]
 by_cases h0:i<0
 ·rw[if_pos (by rw[decide_eq_true_eq];exact h0),Option.bind_some,if_pos rfl,hse,if_neg (by omega)]
 ·rw[if_neg (by rw[decide_eq_true_eq];exact h0),Option.bind_some]
  by_cases h1:i≥(l.length:Int)
  ·rw[if_pos (by rw[decide_eq_true_eq];exact h1),hse,if_neg (by omega)]
  ·rw[show(if 0≤i∧i<(l.length:Int) then zvo lev (l.getD i.toNat 0) else zpp e)=zvo lev (l.getD i.toNat 0) from if_pos (by omega)]
   rw[if_neg (by rw[decide_eq_true_eq];exact h1),if_pos (by omega),zqk,Option.bind_some]
   unfold zvo
   by_cases h2:zbg (l.getD i.toNat 0)≥0
   ·rw[if_pos (by rw[decide_eq_true_eq];exact h2),if_pos h2]
   ·rw[if_neg (by rw[decide_eq_true_eq];exact h2),if_neg h2,zhl];rfl
def zr9 (lev eos:Int):List Int→Int
 | []=>zpp eos
 |c::t=>if zaw c=true then zr9 lev eos t else zvo lev c
def znq (lev eos:Int):Int→List Int→List Int
 |_, []=> []
 |p,c::t=>if zaw c=true then(if p=zr9 lev eos t then p else zcy lev)::znq lev eos p t else c::znq lev eos (zvo lev c) t
theorem zqr (lev eos:Int): ∀ (t:List Int) (p:Int),(znq lev eos p t).length=t.length
 | [],_=>rfl
 |c::t,p=>by unfold znq;split<;>simp[zqr lev eos t]
theorem zwx (lev eos:Int) (a t:List Int) (ha: ∀ c∈a,zaw c=true):zr9 lev eos (a++t)=zr9 lev eos t:=by
 induction a with
 |nil=>rfl
 |cons c a ih=>simp only[List.cons_append,zr9,ha c (by simp),if_true];exact ih fun x hx=>ha x (by simp[hx])
theorem zwu (lev eos p:Int) (a t:List Int) (ha: ∀ c∈a,zaw c=true):znq lev eos p (a++t)=List.replicate a.length (if p=zr9 lev eos t then p else zcy lev)++znq lev eos p t:=by
 induction a with
 |nil=>rfl
 |cons c a ih=>
  simp only[List.cons_append,znq,ha c (by simp),if_true,List.length_cons,List.replicate_succ]
  rw[ih fun x hx=>ha x (by simp[hx]),zwx _ _ _ _ fun x hx=>ha x (by simp[hx])]
theorem zr8 (lev eos p q:Int) {t:List Int} (ht: ∀ c,t.head?=some c→zaw c=false):znq lev eos p t=znq lev eos q t:=by
 cases t with
 |nil=>rfl
 |cons c t=>simp[znq,ht c rfl]
def zec (lev sos:Int) (d:List Int):Int:=match d.getLast? with
 |none=>zpp sos
 |some c=>zvo lev c
def zwv (l:List Int) (lev sos eos:Int):List Int:=znq lev eos (zpp sos) l
theorem zul (l:List Int) (lev sos eos:Int):(zwv l lev sos eos).length=l.length:=zqr ..
theorem zzy {l:List Int} (hl:l.length≤100000) (lev sos eos:Int):Lz.f52F (l,lev,sos,eos)=some (zwv l lev sos eos):=by
 unfold Lz.f52F
 dsimp only
 refine zx (zxo l hl) (zx (zz5 hl) ?_)
 suffices key: ∀ (n:Nat) (t d0 d:List Int) (G:List (List Int)),t.length≤n→d.length=d0.length→d0++t=l→G++zbf d.length none t=zbf 0 none l→iter _ ((G.length:Int),d++t)=some (d++znq lev eos (zec lev sos d0) t) from
  zx (key l.length l [] [] [] (Nat.le_refl _) rfl rfl rfl) rfl
 have hend: ∀ (G:List (List Int)),G=zbf 0 none l→ ¬ ((G.length:Int)<((zbf 0 none l).length:Int)):=by intro G h;rw[h];omega
 intro n
 induction n with
 |zero=>
  intro t d0 d G ht hd0 hd hG
  have:t= []:=List.eq_nil_of_length_eq_zero (by omega)
  subst this
  refine zn ?_
  dsimp only
  rw[if_neg (by rw[decide_eq_true_eq];exact hend G (by rw[← hG];simp[zbf]))]
  simp[znq]
 |succ n ih=>
  intro t d0 d G ht hd0 hd hG
  cases t with
  |nil=>
   refine zn ?_
   dsimp only
   rw[if_neg (by rw[decide_eq_true_eq];exact hend G (by rw[← hG];simp[zbf]))]
   simp[znq]
  |cons c t=>
   have hlen:d0.length+t.length+1=l.length:=by rw[← hd];simp;omega
   cases hc:zaw c with
   |false=>
    have e1:zbf d.length none (c::t)=zbf (d.length+1) none t:=by simp[zbf,hc]
    have e2:d++c::t=(d++ [c])++t:=by simp
    rw[e2,ih t (d0++ [c]) (d++ [c]) G (by simp at ht;omega) (by simp[hd0]) (by rw[← hd];simp) (by rw[← hG,e1];simp)]
    simp[znq,hc,zec]
   |true=>
    obtain⟨a,b,h1,h2,h3⟩:=zir zaw (c::t)
    have ha:0<a.length:=by
     cases a with
     |nil=>
      have:b.head?=some c:=by rw[← (by simpa using h1:c::t=b)];rfl
      rw[h3 c this] at hc;cases hc
     |cons x a=>simp
    have hab:a.length+b.length=t.length+1:=by have:=congrArg List.length h1;simp at this;omega
    have hg:zbf d.length none (c::t)= [(d.length:Int),((d.length+a.length:Nat):Int)]::zbf (d.length+a.length) none b:=by
     obtain⟨x,a',rfl⟩: ∃ x a',a=x::a':=by cases a with
      |nil=>simp at ha
      |cons x a'=>exact⟨x,a',rfl⟩
     rw[h1]
     have:=h2 x (by simp)
     simp only[List.cons_append,zbf,this,if_true,Option.getD_none]
     rw[zqf _ _ _ _ (fun y hy=>h2 y (by simp[hy])) h3,show d.length+1+a'.length=d.length+(x::a').length by simp;omega]
    have hgd:(zbf 0 none l).getD G.length [0,0]= [(d.length:Int),((d.length+a.length:Nat):Int)]:=by
     rw[← hG,hg]
     simp[List.getD_eq_getElem?_getD]
    have hgl:G.length<(zbf 0 none l).length:=by rw[← hG,hg];simp
    have hnx:zr9 lev eos b=if((d.length+a.length:Nat):Int)<(l.length:Int) then zvo lev (l.getD (d.length+a.length) 0) else zpp eos:=by
     cases b with
     |nil=>rw[if_neg (by simp at hab;omega)];rfl
     |cons c2 b=>
      have hbl:a.length+b.length+1=t.length+1:=by simp at hab;omega
      rw[if_pos (by omega)]
      have:l.getD (d.length+a.length) 0=c2:=by
       rw[← hd,h1,hd0, ← List.append_assoc,List.getD_eq_getElem?_getD,List.getElem?_append_right (by simp)]
       simp
      rw[this]
      simp[zr9,h3 c2 rfl]
    have hpv:zec lev sos d0=if 0≤(d.length:Int) - 1∧(d.length:Int) - 1<(l.length:Int) then zvo lev (l.getD ((d.length:Int) - 1).toNat 0) else zpp sos:=by
     unfold zec
     rcases List.eq_nil_or_concat d0 with h|⟨d1,z,h⟩
     ·subst h
      rw[if_neg (by simp at hd0;subst hd0;simp)];rfl
     ·rw[List.concat_eq_append] at h
      subst h
      have hz:d.length=d1.length+1:=by rw[hd0];simp
      rw[if_pos (by rw[hz];simp at hlen;omega)]
      have:l.getD ((d.length:Int) - 1).toNat 0=z:=by
       rw[hz,show(((d1.length+1:Nat):Int) - 1).toNat=d1.length by omega, ← hd]
       simp[List.getD_eq_getElem?_getD]
      rw[this];simp
    have e0:d++c::t=d++a++b:=by rw[h1];simp
    have hv:znq lev eos (zec lev sos d0) (c::t)=List.replicate a.length (if zec lev sos d0=zr9 lev eos b then zec lev sos d0 else zcy lev)++znq lev eos (zec lev sos d0) b:=by rw[h1,zwu _ _ _ _ _ h2]
    rw[hv,e0]
    generalize hvv:(if zec lev sos d0=zr9 lev eos b then zec lev sos d0 else zcy lev)=v
    rw[zw (s':=(((G++ [[(d.length:Int),((d.length+a.length:Nat):Int)]]).length:Int),d++List.replicate a.length v++b))]
    ·rw[ih b (d0++a) (d++List.replicate a.length v) _ (by simp at ht;omega) (by simp[hd0]) (by rw[← hd,h1];simp) (by rw[← hG,hg];simp),zr8 _ _ _ (zec lev sos d0) h3]
     simp
    ·dsimp only
     rw[if_pos (by rw[decide_eq_true_eq];omega),if_pos (by omega),zhl,Option.bind_some,if_pos (by decide),Int.toNat_natCast]
     have hrep:(List.replicate 2 (0:Int))= [0,0]:=rfl
     rw[hrep,hgd]
     have hg0: [(d.length:Int),((d.length+a.length:Nat):Int)].getD (nat_lit 0) 0=(d.length:Int):=rfl
     have hg1: [(d.length:Int),((d.length+a.length:Nat):Int)].getD (nat_lit 1) 0=((d.length+a.length:Nat):Int):=rfl
     rw[hg0,hg1,za (by omega) (by omega),zxn, ← hpv,Option.bind_some,if_pos (by decide),zxn]
     have hnx':(if 0≤((d.length+a.length:Nat):Int)∧((d.length+a.length:Nat):Int)<(l.length:Int) then zvo lev (l.getD (((d.length+a.length:Nat):Int)).toNat 0) else zpp eos)=zr9 lev eos b:=by
      rw[hnx,Int.toNat_natCast]
      by_cases h:((d.length+a.length:Nat):Int)<(l.length:Int)
      ·rw[if_pos h,if_pos ⟨by omega,h⟩]
      ·rw[if_neg h,if_neg (fun q=>h q.2)]
     rw[hnx',Option.bind_some]
     have hpick:(if(zec lev sos d0==zr9 lev eos b)=true then some (zec lev sos d0,d++a++b,(d.length:Int),((d.length+a.length:Nat):Int)) else some (zcy lev,d++a++b,(d.length:Int),((d.length+a.length:Nat):Int)))=some (v,d++a++b,(d.length:Int),((d.length+a.length:Nat):Int)):=by
      rw[← hvv]
      by_cases h:zec lev sos d0=zr9 lev eos b
      ·rw[if_pos (by rw[h];exact beq_self_eq_true _),if_pos h]
      ·rw[if_neg (by simpa using h),if_neg h]
     rw[hpick,Option.bind_some]
     dsimp only
     rw[if_pos (by decide)]
     refine zx (e:=d++List.replicate a.length v++b) ?_ (by have hgg:=zwg l;rw[za (by omega) (by omega)];simp)
     suffices kk: ∀ (j i:Nat),i+j=a.length→iter _ (((d.length+i:Nat):Int),d++List.replicate i v++(a.drop i++b),(d.length:Int),((d.length+a.length:Nat):Int))=some (d++List.replicate a.length v++b) from by
      have:=kk a.length 0 (by omega)
      simp only[List.replicate_zero,List.append_nil,Nat.add_zero,List.drop_zero] at this
      rw[List.append_assoc]
      exact this
     intro j
     induction j with
     |zero=>
      intro i hi
      have hi:i=a.length:=hi
      subst hi
      refine zn ?_
      dsimp only
      rw[if_pos (by decide),if_neg (by rw[decide_eq_true_eq];omega)]
      simp
     |succ j ihj=>
      intro i hi
      have hil:i<a.length:=by omega
      have hl3:(d++List.replicate i v++(a.drop i++b)).length=d.length+a.length+b.length:=by simp;omega
      rw[zw (s':=(((d.length+(i+1):Nat):Int),d++List.replicate (i+1) v++(a.drop (i+1)++b),(d.length:Int),((d.length+a.length:Nat):Int)))]
      ·exact ihj (i+1) (by omega)
      ·dsimp only
       rw[if_pos (by decide),if_pos (by rw[decide_eq_true_eq];omega),if_pos (by rw[hl3];omega),Int.toNat_natCast,za (by omega) (by omega)]
       have:(d++List.replicate i v++(a.drop i++b)).set (d.length+i) v=d++List.replicate (i+1) v++(a.drop (i+1)++b):=by
        rw[List.set_append_right _ _ (by simp)]
        simp only[List.length_append,List.length_replicate,Nat.sub_self]
        rw[List.drop_eq_getElem_cons hil,List.replicate_succ', ← List.append_assoc d,List.append_assoc (d++_)]
        rfl
       rw[this]
       rfl
def lvC (lev c:Int):Int:=if c=0 then lev+lev % 2 else if c=1 then lev+1 - lev % 2 else if c=6∨c=3 then lev+2 - lev % 2 else lev
theorem zz6 {lev:Int} (h0: -1000000≤lev) (h1:lev≤1000000) (c:Int):Lz.f88F (c,lev)=some (lvC lev c):=by
 unfold Lz.f88F lvC
 have hb:(BitVec.toNat (BitVec.ofInt (IntKind.bits IntKind.i64) lev &&& BitVec.ofInt (IntKind.bits IntKind.i64) 1):Int)=lev % 2:=by
  show((BitVec.toNat (BitVec.ofInt 64 lev &&& BitVec.ofInt 64 1):Nat):Int)=lev % 2
  have h1:BitVec.ofInt 64 1=1#64:=rfl
  rw[h1,BitVec.toNat_and]
  have h2:(1#64).toNat=1:=rfl
  rw[h2,Nat.and_one_is_mod,BitVec.toNat_ofInt]
  omega
 dsimp only
 simp only[hb]
 have hm:=Int.emod_nonneg lev (by decide:(2:Int)≠0)
 have hm2:=Int.emod_lt_of_pos lev (by decide:(0:Int)<2)
 rw[za (x:=lev % 2) (by omega) (by omega),za (x:=lev+lev % 2) (by omega) (by omega),za (x:=lev+1) (by omega) (by omega),za (x:=lev+2) (by omega) (by omega),za (x:=lev+1 - lev % 2) (by omega) (by omega),za (x:=lev+2 - lev % 2) (by omega) (by omega)]
 by_cases c0:c=0
 ·simp[c0]
 ·by_cases c1:c=1
  ·simp[c1]
  ·by_cases c6:c=6
   ·simp[c6]
   ·by_cases c3:c=3
    ·simp[c3]
    ·simp[c0,c1,c6,c3]
theorem zzz {lev:Int} (h0: -1000000≤lev) (h1:lev≤1000000) {l:List Int} (hl:l.length≤100000):Lz.f53F (l,lev)=some (l.map (lvC lev)):=by
 unfold Lz.f53F
 dsimp only
 refine zx (zqj l (lvC lev) _ ?_ ?_) rfl
 ·intro k hk
  dsimp only
  have hlen:((l.take k).map (lvC lev)).length=k:=by rw[List.length_map,List.length_take];omega
  rw[if_pos (by rw[decide_eq_true_eq];omega),if_pos (by omega),Int.toNat_natCast,zz6 h0 h1,Option.bind_some,if_pos (by simp only[zj,hlen];omega),za (by omega) (by omega),zm 0 hk]
  rfl
 ·dsimp only
  rw[if_neg (by rw[decide_eq_true_eq];omega)]
end Go.Sx
