/- Level, plain: neutral classes, and levels of classes. -/
import Derived.Test.YtpmbmobjnknnhaaGreatDoorSxHe
import Derived.Test.YtpmbmobjnknnhaaGreatDoorSxHg
set_option linter.unusedVariables false
set_option linter.unusedSimpArgs false
namespace Go.Sx
def zaa (c:Int):Bool:=c==10||c==11||c==12||c==13||c==19||c==20||c==21||c==22
theorem zz8:R.f80F [10,11,12,13,19,20,21,22]=some 7879680:=by
 unfold R.f80F
 rw[qo (n:=9) (e:=7879680) (by rfl)]
 rfl
theorem zz4: ∀ n:Nat,n<23→R.f79F ((n:Int),7879680)=some (zaa n):=by
 unfold R.f79F
 decide+kernel
theorem zfe (c:Int):R.f154F c=some (zaa c):=by
 unfold R.f154F
 rw[zz8]
 show(R.f79F (c,7879680)).bind _=_
 by_cases h0:0≤c
 ·by_cases h1:c<23
  ·obtain⟨n,rfl⟩:=Int.eq_ofNat_of_zero_le h0
   rw[zz4 n (by omega)]
   rfl
  ·have:R.f79F (c,7879680)=some false:=by
    unfold R.f79F
    simp[show c≥0 by omega,show ¬ c≤22 by omega]
   rw[this]
   simp[zaa]
   omega
 ·have:R.f79F (c,7879680)=some false:=by
   unfold R.f79F
   simp[h0]
  rw[this]
  simp[zaa]
  omega
theorem ze2 (p:Int→Bool): ∀ (t:List Int), ∃ a b,t=a++b∧(∀ c∈a,p c=true)∧(∀ c,b.head?=some c→p c=false)
 | []=>⟨[], [],rfl,by simp,by simp⟩
 |c::t=>by
  cases h:p c with
  |true=>
   obtain⟨a,b,h1,h2,h3⟩:=ze2 p t
   exact⟨c::a,b,by rw[h1];rfl,fun x hx=>(List.mem_cons.1 hx).elim (fun e=>e▸h) (h2 x),h3⟩
  |false=>exact⟨[],c::t,rfl,by simp,fun x hx=>by simp at hx;rw[← hx];exact h⟩
theorem zri {B:Type} {f:Int×B→Option (Int×B ⊕ Int×B)} (p:Int→Bool) (l d a t:List Int) (b:B) (hl:l=d++(a++t)) (ha: ∀ c∈a,p c=true) (ht: ∀ c,t.head?=some c→p c=false)
  (h1: ∀ k:Nat,k<l.length→p (l.getD k 0)=true→f ((k:Int),b)=some (.inl (((k+1:Nat):Int),b)))
  (h2: ∀ k:Nat,k≤l.length→(k<l.length→p (l.getD k 0)=false)→f ((k:Int),b)=some (.inr ((k:Int),b))):
  iter f ((d.length:Int),b)=some (((d.length+a.length:Nat):Int),b):=by
 induction a generalizing d with
 |nil=>
  refine zl (h2 _ (by rw[hl];simp) fun hk=> ?_)
  cases t with
  |nil=>rw[hl] at hk;simp at hk
  |cons c t=>rw[hl];simp only[List.nil_append,List.getD_eq_getElem?_getD,List.getElem?_append_right (Nat.le_refl _),Nat.sub_self];exact ht c rfl
 |cons c a ih=>
  rw[zp (h1 d.length (by rw[hl];simp) (by rw[hl];simp only[List.cons_append,List.getD_eq_getElem?_getD,List.getElem?_append_right (Nat.le_refl _),Nat.sub_self];exact ha c (by simp)))]
  have:=ih (d++ [c]) (by rw[hl];simp) (fun x hx=>ha x (by simp[hx]))
  simp only[List.length_append,List.length_cons,List.length_nil] at this
  rw[show d.length+(c::a).length=d.length+1+a.length by simp;omega]
  exact this
def zbg:Nat→Option Nat→List Int→List (List Int)
 |_,none, []=> []
 |k,some a, []=> [[(a:Int),(k:Int)]]
 |k,o,c::t=>if zaa c=true then zbg (k+1) (some (o.getD k)) t else match o with
  |none=>zbg (k+1) none t
  |some a=> [(a:Int),(k:Int)]::zbg (k+1) none t
theorem zrf (a t:List Int) (k j:Nat) (ha: ∀ c∈a,zaa c=true) (ht: ∀ c,t.head?=some c→zaa c=false):zbg k (some j) (a++t)= [(j:Int),((k+a.length:Nat):Int)]::zbg (k+a.length) none t:=by
 induction a generalizing k with
 |nil=>
  cases t with
  |nil=>rfl
  |cons c t=>
   have:=ht c rfl
   simp[zbg,this]
 |cons c a ih=>
  have:=ha c (by simp)
  simp only[List.cons_append,zbg,this,if_true,Option.getD_some,List.length_cons]
  rw[ih (k+1) (fun x hx=>ha x (by simp[hx])),show k+1+a.length=k+(a.length+1) by omega]
theorem zh4: ∀ (t:List Int) (k:Nat) (o:Option Nat),(zbg k o t).length≤t.length+(if o.isSome then 1 else 0)
 | [],_,none=>by simp[zbg]
 | [],_,some _=>by simp[zbg]
 |c::t,k,none=>by
  simp only[zbg,Option.getD_none]
  cases zaa c with
  |true=>have:=zh4 t (k+1) (some k);simp at this ⊢;omega
  |false=>have:=zh4 t (k+1) none;simp at this ⊢;omega
 |c::t,k,some a=>by
  simp only[zbg,Option.getD_some]
  cases zaa c with
  |true=>have:=zh4 t (k+1) (some a);simp at this ⊢;omega
  |false=>have:=zh4 t (k+1) none;simp at this ⊢;omega
theorem zxq (l:List Int):(zbg 0 none l).length≤l.length:=by simpa using zh4 l 0 none
theorem zzp {l:List Int} (hl:l.length≤100000):R.f111F l=some (zbg 0 none l):=by
 unfold R.f111F
 suffices key: ∀ (n:Nat) (t d:List Int) (G:List (List Int)),t.length≤n→d++t=l→G.length≤d.length→iter _ ((d.length:Int),G)=some (G++zbg d.length none t) from
  zm (key l.length l [] [] (Nat.le_refl _) rfl (Nat.le_refl _)) rfl
 intro n
 induction n with
 |zero=>
  intro t d G ht hd hG
  have:t= []:=List.eq_nil_of_length_eq_zero (by omega)
  subst this
  have hdl:d.length=l.length:=by rw[← hd];simp
  refine zl ?_
  dsimp only
  rw[if_neg (by rw[decide_eq_true_eq];omega)]
  simp[zbg]
 |succ n ih=>
  intro t d G ht hd hG
  have hlen:d.length+t.length=l.length:=by rw[← hd];simp
  cases t with
  |nil=>
   refine zl ?_
   dsimp only
   rw[if_neg (by rw[decide_eq_true_eq];simp at hlen;omega)]
   simp[zbg]
  |cons c t=>
   have hlen':d.length+t.length+1=l.length:=by rw[← hlen];simp;omega
   obtain⟨a,b,h1,h2,h3⟩:=ze2 zaa (c::t)
   have hrun: ∀ (f:Int×List (List Int)→Option (Int×List (List Int) ⊕ Int×List (List Int))),_→_→iter f ((d.length:Int),G)=_:=fun f=>zri (f:=f) zaa l d a b G (by rw[← hd,h1]) h2 h3
   cases hc:zaa c with
   |false=>
    have ha:a= []:=by
     cases a with
     |nil=>rfl
     |cons x a=>
      have e:c=x:=by simpa using congrArg List.head? h1
      have:=h2 x (by simp)
      rw[← e,hc] at this;cases this
    subst ha
    rw[zp (s':=(((d++ [c]).length:Int),G))]
    ·rw[ih t (d++ [c]) G (by simp at ht;omega) (by rw[← hd];simp) (by simp;omega)]
     simp[zbg,hc]
    ·dsimp only
     rw[if_pos (by rw[decide_eq_true_eq];omega)]
     refine zm (hrun _ ?_ ?_) ?_
     ·intro k hk hp
      dsimp only
      simp (disch:=omega) only[if_pos,decide_eq_true_eq,Int.toNat_natCast,zfe,hp,Option.bind_some,za]
      rfl
     ·intro k hk hp
      dsimp only
      by_cases hkl:k<l.length
      ·simp (disch:=omega) only[if_pos,decide_eq_true_eq,Int.toNat_natCast,zfe,hp hkl,Option.bind_some]
       rfl
      ·rw[if_neg (by rw[decide_eq_true_eq];omega)];rfl
     ·dsimp only
      rw[if_neg (by rw[decide_eq_true_eq];simp),za (by omega) (by omega)]
      simp
   |true=>
    have ha:0<a.length:=by
     cases a with
     |nil=>
      have:b.head?=some c:=by rw[← (by simpa using h1:c::t=b)];rfl
      rw[h3 c this] at hc;cases hc
     |cons x a=>simp
    have hab:a.length+b.length=t.length+1:=by have:=congrArg List.length h1;simp at this;omega
    have hg:zbg d.length none (c::t)= [(d.length:Int),((d.length+a.length:Nat):Int)]::zbg (d.length+a.length) none b:=by
     obtain⟨x,a',rfl⟩: ∃ x a',a=x::a':=by cases a with
      |nil=>simp at ha
      |cons x a'=>exact⟨x,a',rfl⟩
     rw[h1]
     have:=h2 x (by simp)
     simp only[List.cons_append,zbg,this,if_true,Option.getD_none]
     rw[zrf _ _ _ _ (fun y hy=>h2 y (by simp[hy])) h3,show d.length+1+a'.length=d.length+(x::a').length by simp;omega]
    rw[hg]
    cases b with
    |nil=>
     have hn:(d.length+a.length)=l.length:=by simp at hab;omega
     rw[zp (s':=(((d.length+a.length+1:Nat):Int),G++ [[(d.length:Int),((d.length+a.length:Nat):Int)]]))]
     ·refine zl ?_
      dsimp only
      rw[if_neg (by rw[decide_eq_true_eq];omega)]
      simp[zbg]
     ·dsimp only
      rw[if_pos (by rw[decide_eq_true_eq];omega)]
      refine zm (hrun _ ?_ ?_) ?_
      ·intro k hk hp
       dsimp only
       simp (disch:=omega) only[if_pos,decide_eq_true_eq,Int.toNat_natCast,zfe,hp,Option.bind_some,za]
       rfl
      ·intro k hk hp
       dsimp only
       by_cases hkl:k<l.length
       ·simp (disch:=omega) only[if_pos,decide_eq_true_eq,Int.toNat_natCast,zfe,hp hkl,Option.bind_some]
        rfl
       ·rw[if_neg (by rw[decide_eq_true_eq];omega)];rfl
      ·dsimp only
       rw[if_pos (by rw[decide_eq_true_eq];omega),if_pos (by simp only[zi];omega),za (by omega) (by omega)]
       rfl
    |cons c2 t2=>
     have hc2:=h3 c2 rfl
     have e1:d++a++ [c2]++t2=l:=by rw[← hd,h1];simp
     have hab':a.length+t2.length+1=t.length+1:=by simp at hab;omega
     rw[zp (s':=(((d++a++ [c2]).length:Int),G++ [[(d.length:Int),((d.length+a.length:Nat):Int)]]))]
     ·rw[ih t2 (d++a++ [c2]) _ (by simp at ht;omega) e1 (by simp;omega)]
      simp[zbg,hc2,Nat.add_assoc]
     ·dsimp only
      rw[if_pos (by rw[decide_eq_true_eq];omega)]
      refine zm (hrun _ ?_ ?_) ?_
      ·intro k hk hp
       dsimp only
       simp (disch:=omega) only[if_pos,decide_eq_true_eq,Int.toNat_natCast,zfe,hp,Option.bind_some,za]
       rfl
      ·intro k hk hp
       dsimp only
       by_cases hkl:k<l.length
       ·simp (disch:=omega) only[if_pos,decide_eq_true_eq,Int.toNat_natCast,zfe,hp hkl,Option.bind_some]
        rfl
       ·rw[if_neg (by rw[decide_eq_true_eq];omega)];rfl
      ·dsimp only
       rw[if_pos (by rw[decide_eq_true_eq];omega),if_pos (by simp only[zi];omega),za (by omega) (by omega)]
       simp
       omega
def zwz (lev c:Int):Int:=if zbi c≥0 then zbi c else zc0 lev
theorem zuz {l:List Int} (i lev e:Int):R.f112F (l,i,lev,e)=some (if 0≤i∧i<(l.length:Int) then zwz lev (l.getD i.toNat 0) else zqp e):=by
 unfold R.f112F
 dsimp only
 have hse:(if(e==(1:Int))=true then some (1:Int) else some 0)=some (zqp e):=by
  unfold zqp
  by_cases h:e=1<;>simp[h]
 by_cases h0:i<0
 ·rw[if_pos (by rw[decide_eq_true_eq];exact h0),Option.bind_some,if_pos rfl,hse,if_neg (by omega)]
 ·rw[if_neg (by rw[decide_eq_true_eq];exact h0),Option.bind_some]
  by_cases h1:i≥(l.length:Int)
  ·rw[if_pos (by rw[decide_eq_true_eq];exact h1),hse,if_neg (by omega)]
  ·rw[show(if 0≤i∧i<(l.length:Int) then zwz lev (l.getD i.toNat 0) else zqp e)=zwz lev (l.getD i.toNat 0) from if_pos (by omega)]
   rw[if_neg (by rw[decide_eq_true_eq];exact h1),if_pos (by omega),zrj,Option.bind_some]
   unfold zwz
   by_cases h2:zbi (l.getD i.toNat 0)≥0
   ·rw[if_pos (by rw[decide_eq_true_eq];exact h2),if_pos h2]
   ·rw[if_neg (by rw[decide_eq_true_eq];exact h2),if_neg h2,zd6];rfl
def ztf (lev eos:Int):List Int→Int
 | []=>zqp eos
 |c::t=>if zaa c=true then ztf lev eos t else zwz lev c
def zml (lev eos:Int):Int→List Int→List Int
 |_, []=> []
 |p,c::t=>if zaa c=true then(if p=ztf lev eos t then p else zc0 lev)::zml lev eos p t else c::zml lev eos (zwz lev c) t
theorem zrt (lev eos:Int): ∀ (t:List Int) (p:Int),(zml lev eos p t).length=t.length
 | [],_=>rfl
 |c::t,p=>by unfold zml;split<;>simp[zrt lev eos t]
theorem zx2 (lev eos:Int) (a t:List Int) (ha: ∀ c∈a,zaa c=true):ztf lev eos (a++t)=ztf lev eos t:=by
 induction a with
 |nil=>rfl
 |cons c a ih=>simp only[List.cons_append,ztf,ha c (by simp),if_true];exact ih fun x hx=>ha x (by simp[hx])
theorem zxz (lev eos p:Int) (a t:List Int) (ha: ∀ c∈a,zaa c=true):zml lev eos p (a++t)=List.replicate a.length (if p=ztf lev eos t then p else zc0 lev)++zml lev eos p t:=by
 induction a with
 |nil=>rfl
 |cons c a ih=>
  simp only[List.cons_append,zml,ha c (by simp),if_true,List.length_cons,List.replicate_succ]
  rw[ih fun x hx=>ha x (by simp[hx]),zx2 _ _ _ _ fun x hx=>ha x (by simp[hx])]
theorem zte (lev eos p q:Int) {t:List Int} (ht: ∀ c,t.head?=some c→zaa c=false):zml lev eos p t=zml lev eos q t:=by
 cases t with
 |nil=>rfl
 |cons c t=>simp[zml,ht c rfl]
def zei (lev sos:Int) (d:List Int):Int:=match d.getLast? with
 |none=>zqp sos
 |some c=>zwz lev c
def zx0 (l:List Int) (lev sos eos:Int):List Int:=zml lev eos (zqp sos) l
theorem zvu (l:List Int) (lev sos eos:Int):(zx0 l lev sos eos).length=l.length:=zrt ..
theorem z1h {l:List Int} (hl:l.length≤100000) (lev sos eos:Int):R.f77F (l,lev,sos,eos)=some (zx0 l lev sos eos):=by
 unfold R.f77F
 dsimp only
 refine zm (zvj l hl) (zm (zzp hl) ?_)
 suffices key: ∀ (n:Nat) (t d0 d:List Int) (G:List (List Int)),t.length≤n→d.length=d0.length→d0++t=l→G++zbg d.length none t=zbg 0 none l→iter _ ((G.length:Int),d++t)=some (d++zml lev eos (zei lev sos d0) t) from
  zm (key l.length l [] [] [] (Nat.le_refl _) rfl rfl rfl) rfl
 have hend: ∀ (G:List (List Int)),G=zbg 0 none l→ ¬ ((G.length:Int)<((zbg 0 none l).length:Int)):=by intro G h;rw[h];omega
 intro n
 induction n with
 |zero=>
  intro t d0 d G ht hd0 hd hG
  have:t= []:=List.eq_nil_of_length_eq_zero (by omega)
  subst this
  refine zl ?_
  dsimp only
  rw[if_neg (by rw[decide_eq_true_eq];exact hend G (by rw[← hG];simp[zbg]))]
  simp[zml]
 |succ n ih=>
  intro t d0 d G ht hd0 hd hG
  cases t with
  |nil=>
   refine zl ?_
   dsimp only
   rw[if_neg (by rw[decide_eq_true_eq];exact hend G (by rw[← hG];simp[zbg]))]
   simp[zml]
  |cons c t=>
   have hlen:d0.length+t.length+1=l.length:=by rw[← hd];simp;omega
   cases hc:zaa c with
   |false=>
    have e1:zbg d.length none (c::t)=zbg (d.length+1) none t:=by simp[zbg,hc]
    have e2:d++c::t=(d++ [c])++t:=by simp
    rw[e2,ih t (d0++ [c]) (d++ [c]) G (by simp at ht;omega) (by simp[hd0]) (by rw[← hd];simp) (by rw[← hG,e1];simp)]
    simp[zml,hc,zei]
   |true=>
    obtain⟨a,b,h1,h2,h3⟩:=ze2 zaa (c::t)
    have ha:0<a.length:=by
     cases a with
     |nil=>
      have:b.head?=some c:=by rw[← (by simpa using h1:c::t=b)];rfl
      rw[h3 c this] at hc;cases hc
     |cons x a=>simp
    have hab:a.length+b.length=t.length+1:=by have:=congrArg List.length h1;simp at this;omega
    have hg:zbg d.length none (c::t)= [(d.length:Int),((d.length+a.length:Nat):Int)]::zbg (d.length+a.length) none b:=by
     obtain⟨x,a',rfl⟩: ∃ x a',a=x::a':=by cases a with
      |nil=>simp at ha
      |cons x a'=>exact⟨x,a',rfl⟩
     rw[h1]
     have:=h2 x (by simp)
     simp only[List.cons_append,zbg,this,if_true,Option.getD_none]
     rw[zrf _ _ _ _ (fun y hy=>h2 y (by simp[hy])) h3,show d.length+1+a'.length=d.length+(x::a').length by simp;omega]
    have hgd:(zbg 0 none l).getD G.length [0,0]= [(d.length:Int),((d.length+a.length:Nat):Int)]:=by
     rw[← hG,hg]
     simp[List.getD_eq_getElem?_getD]
    have hgl:G.length<(zbg 0 none l).length:=by rw[← hG,hg];simp
    have hnx:ztf lev eos b=if((d.length+a.length:Nat):Int)<(l.length:Int) then zwz lev (l.getD (d.length+a.length) 0) else zqp eos:=by
     cases b with
     |nil=>rw[if_neg (by simp at hab;omega)];rfl
     |cons c2 b=>
      have hbl:a.length+b.length+1=t.length+1:=by simp at hab;omega
      rw[if_pos (by omega)]
      have:l.getD (d.length+a.length) 0=c2:=by
       rw[← hd,h1,hd0, ← List.append_assoc,List.getD_eq_getElem?_getD,List.getElem?_append_right (by simp)]
       simp
      rw[this]
      simp[ztf,h3 c2 rfl]
    have hpv:zei lev sos d0=if 0≤(d.length:Int) - 1∧(d.length:Int) - 1<(l.length:Int) then zwz lev (l.getD ((d.length:Int) - 1).toNat 0) else zqp sos:=by
     unfold zei
     rcases List.eq_nil_or_concat d0 with h|⟨d1,z,h⟩
     ·subst h
      rw[if_neg (by simp at hd0;subst hd0;simp)];rfl
     ·rw[List.concat_eq_append] at h
      subst h
      have hz:d.length=d1.length+1:=by rw[hd0];simp
      rw[if_pos (by rw[hz];simp at hlen;omega)]
      have:l.getD ((d.length:Int) - 1).toNat 0=z:=by
       rw[hz,show(((d1.length+1:Nat):Int) - 1).toNat=d1.length by omega, ← hd]
       simp[List.getD_eq_getElem?_getD]
      rw[this];simp
    have e0:d++c::t=d++a++b:=by rw[h1];simp
    have hv:zml lev eos (zei lev sos d0) (c::t)=List.replicate a.length (if zei lev sos d0=ztf lev eos b then zei lev sos d0 else zc0 lev)++zml lev eos (zei lev sos d0) b:=by rw[h1,zxz _ _ _ _ _ h2]
    rw[hv,e0]
    generalize hvv:(if zei lev sos d0=ztf lev eos b then zei lev sos d0 else zc0 lev)=v
    rw[zp (s':=(((G++ [[(d.length:Int),((d.length+a.length:Nat):Int)]]).length:Int),d++List.replicate a.length v++b))]
    ·rw[ih b (d0++a) (d++List.replicate a.length v) _ (by simp at ht;omega) (by simp[hd0]) (by rw[← hd,h1];simp) (by rw[← hG,hg];simp),zte _ _ _ (zei lev sos d0) h3]
     simp
    ·dsimp only
     rw[if_pos (by rw[decide_eq_true_eq];omega),if_pos (by omega),zd6,Option.bind_some,if_pos (by decide),Int.toNat_natCast]
     have hrep:(List.replicate 2 (0:Int))= [0,0]:=rfl
     rw[hrep,hgd]
     have hg0: [(d.length:Int),((d.length+a.length:Nat):Int)].getD (nat_lit 0) 0=(d.length:Int):=rfl
     have hg1: [(d.length:Int),((d.length+a.length:Nat):Int)].getD (nat_lit 1) 0=((d.length+a.length:Nat):Int):=rfl
     rw[hg0,hg1,za (by omega) (by omega),zuz, ← hpv,Option.bind_some,if_pos (by decide),zuz]
     have hnx':(if 0≤((d.length+a.length:Nat):Int)∧((d.length+a.length:Nat):Int)<(l.length:Int) then zwz lev (l.getD (((d.length+a.length:Nat):Int)).toNat 0) else zqp eos)=ztf lev eos b:=by
      rw[hnx,Int.toNat_natCast]
      by_cases h:((d.length+a.length:Nat):Int)<(l.length:Int)
      ·rw[if_pos h,if_pos ⟨by omega,h⟩]
      ·rw[if_neg h,if_neg (fun q=>h q.2)]
     rw[hnx',Option.bind_some]
     have hpick:(if(zei lev sos d0==ztf lev eos b)=true then some (zei lev sos d0,d++a++b,(d.length:Int),((d.length+a.length:Nat):Int)) else some (zc0 lev,d++a++b,(d.length:Int),((d.length+a.length:Nat):Int)))=some (v,d++a++b,(d.length:Int),((d.length+a.length:Nat):Int)):=by
      rw[← hvv]
      by_cases h:zei lev sos d0=ztf lev eos b
      ·rw[if_pos (by rw[h];exact beq_self_eq_true _),if_pos h]
      ·rw[if_neg (by simpa using h),if_neg h]
     rw[hpick,Option.bind_some]
     dsimp only
     rw[if_pos (by decide)]
     refine zm (e:=d++List.replicate a.length v++b) ?_ (by have hgg:=zxq l;rw[za (by omega) (by omega)];simp)
     suffices kk: ∀ (j i:Nat),i+j=a.length→iter _ (((d.length+i:Nat):Int),d++List.replicate i v++(a.drop i++b),(d.length:Int),((d.length+a.length:Nat):Int))=some (d++List.replicate a.length v++b) from by
      have:=kk a.length 0 (by omega)
      simp only[List.replicate_zero,List.append_nil,Nat.add_zero,List.drop_zero] at this
      rw[List.append_assoc]
      exact this
     intro j
     induction j with
     |zero=>
      intro i hi
      have hi:i=a.length:=hi
      subst hi
      refine zl ?_
      dsimp only
      rw[if_pos (by decide),if_neg (by rw[decide_eq_true_eq];omega)]
      simp
     |succ j ihj=>
      intro i hi
      have hil:i<a.length:=by omega
      have hl3:(d++List.replicate i v++(a.drop i++b)).length=d.length+a.length+b.length:=by simp;omega
      rw[zp (s':=(((d.length+(i+1):Nat):Int),d++List.replicate (i+1) v++(a.drop (i+1)++b),(d.length:Int),((d.length+a.length:Nat):Int)))]
      ·exact ihj (i+1) (by omega)
      ·dsimp only
       rw[if_pos (by decide),if_pos (by rw[decide_eq_true_eq];omega),if_pos (by rw[hl3];omega),Int.toNat_natCast,za (by omega) (by omega)]
       have:(d++List.replicate i v++(a.drop i++b)).set (d.length+i) v=d++List.replicate (i+1) v++(a.drop (i+1)++b):=by
        rw[List.set_append_right _ _ (by simp)]
        simp only[List.length_append,List.length_replicate,Nat.sub_self]
        rw[List.drop_eq_getElem_cons hil,List.replicate_succ', ← List.append_assoc d,List.append_assoc (d++_)]
        rfl
       rw[this]
       rfl
def lvC (lev c:Int):Int:=if c=0 then lev+lev % 2 else if c=1 then lev+1 - lev % 2 else if c=6∨c=3 then lev+2 - lev % 2 else lev
theorem zzq {lev:Int} (h0: -1000000≤lev) (h1:lev≤1000000) (c:Int):R.f113F (c,lev)=some (lvC lev c):=by
 unfold R.f113F lvC
 have hb:(BitVec.toNat (BitVec.ofInt (IntKind.bits IntKind.i64) lev &&& BitVec.ofInt (IntKind.bits IntKind.i64) 1):Int)=lev % 2:=by
  show((BitVec.toNat (BitVec.ofInt 64 lev &&& BitVec.ofInt 64 1):Nat):Int)=lev % 2
  have h1:BitVec.ofInt 64 1=1#64:=rfl
  rw[h1,BitVec.toNat_and]
  have h2:(1#64).toNat=1:=rfl
  rw[h2,Nat.and_one_is_mod,BitVec.toNat_ofInt]
  omega
 dsimp only
 simp only[hb]
 have hm:=Int.emod_nonneg lev (by decide:(2:Int)≠0)
 have hm2:=Int.emod_lt_of_pos lev (by decide:(0:Int)<2)
 rw[za (x:=lev % 2) (by omega) (by omega),za (x:=lev+lev % 2) (by omega) (by omega),za (x:=lev+1) (by omega) (by omega),za (x:=lev+2) (by omega) (by omega),za (x:=lev+1 - lev % 2) (by omega) (by omega),za (x:=lev+2 - lev % 2) (by omega) (by omega)]
 by_cases c0:c=0
 ·simp[c0]
 ·by_cases c1:c=1
  ·simp[c1]
  ·by_cases c6:c=6
   ·simp[c6]
   ·by_cases c3:c=3
    ·simp[c3]
    ·simp[c0,c1,c6,c3]
theorem z1i {lev:Int} (h0: -1000000≤lev) (h1:lev≤1000000) {l:List Int} (hl:l.length≤100000):R.f78F (l,lev)=some (l.map (lvC lev)):=by
 unfold R.f78F
 dsimp only
 refine zm (zmg l (lvC lev) _ ?_ ?_) rfl
 ·intro k hk
  dsimp only
  have hlen:((l.take k).map (lvC lev)).length=k:=by rw[List.length_map,List.length_take];omega
  rw[if_pos (by rw[decide_eq_true_eq];omega),if_pos (by omega),Int.toNat_natCast,zzq h0 h1,Option.bind_some,if_pos (by simp only[zi,hlen];omega),za (by omega) (by omega),zo 0 hk]
  rfl
 ·dsimp only
  rw[if_neg (by rw[decide_eq_true_eq];omega)]
end Go.Sx
