/- Frag, plain: a line's levels, its order, its rows. -/
import Derived.Test.YtpmbmobjnknnhaaGreatDoorSxHi
import Derived.Test.YtpmbmobjnknnhaaGreatDoorSxTAc
set_option linter.unusedVariables false
set_option linter.unusedSimpArgs false
namespace Go.Sx
theorem z00 (c:Int):R.f37F c=some (zX c==22||(opens (zX c)||zgb (zX c))):=by
 unfold R.f37F
 rw[zyv,Option.bind_some,zf8,zrc]
 by_cases h:zX c=22
 ·rw[if_pos (by rw[h];rfl),h];rfl
 ·rw[if_neg (by simpa using h),show(zX c==22)=false by simpa using h]
  cases opens (zX c)<;>cases zgb (zX c)<;>rfl
def zib (c:Int):Bool:=c==12||(c==22||(opens c||zgb c))
theorem z1a (c:Int):R.f56F c=some (zib c):=by
 unfold R.f56F zib
 rw[zf8,zrc]
 by_cases h:c=12
 ·subst h;rfl
 ·by_cases h2:c=22
  ·subst h2;rfl
  ·rw[if_neg (by simpa using h),if_neg (by simpa using h2),show(c==12)=false by simpa using h,show(c==22)=false by simpa using h2]
   cases opens c<;>cases zgb c<;>rfl
noncomputable def zju (chars:List Int) (base:Int) (fr:Nat):Nat→Bool→List Int→List Int
 |0,_,l=>l
 |k+1,e,l=>
  let c:=zX (chars.getD (fr+k) 0)
  let e':=if c=11∨c=10 then true else if zib c=true then e else false
  zju chars base fr k e' (if e'=true then l.set k base else l)
theorem zoh (chars:List Int) (base:Int) (fr:Nat): ∀ (k:Nat) (e:Bool) (l:List Int),(zju chars base fr k e l).length=l.length
 |0,_,_=>rfl
 |k+1,e,l=>by
  rw[zju]
  rw[zoh]
  generalize (if zX (chars.getD (fr+k) 0)=11∨zX (chars.getD (fr+k) 0)=10 then true else if zib (zX (chars.getD (fr+k) 0))=true then e else false)=e'
  cases e'<;>simp
noncomputable def zic (chars levels:List Int) (base:Int) (a b:Nat):List Int:=zju chars base a (b - a) true ((levels.take b).drop a)
theorem zej {chars levels:List Int} {base:Int} {a b:Nat} (hb:b≤levels.length):(zic chars levels base a b).length=b - a:=by
 unfold zic
 rw[zoh,List.length_drop,List.length_take]
 omega
theorem z03 {chars levels:List Int} (hl:chars.length≤100000) (hv:levels.length=chars.length) {a b:Nat} (hab:a≤b) (hb:b≤chars.length) (base:Int):R.f40F (chars,levels,base,(a:Int),(b:Int))=some (zic chars levels base a b):=by
 unfold R.f40F
 dsimp only
 rw[if_neg (by simp[hv]),if_neg (by rw[decide_eq_true_eq];omega),if_neg (by rw[decide_eq_true_eq];omega),Option.bind_some]
 dsimp only
 rw[if_neg (by rw[decide_eq_true_eq];omega),if_pos (by omega),if_pos (by omega),Int.toNat_natCast,Int.toNat_natCast,zvj _ (by rw[List.length_drop,List.length_take];omega),Option.bind_some]
 have hlen:((levels.take b).drop a).length=b - a:=by rw[List.length_drop,List.length_take];omega
 have hw:IntKind.i64.wrap ((((levels.take b).drop a).length:Int) - 1)=((b - a:Nat):Int) - 1:=by rw[hlen,za (by omega) (by omega)]
 rw[hw]
 unfold zic
 generalize (levels.take b).drop a=l at hlen ⊢
 suffices key: ∀ (k:Nat) (e:Bool) (m:List Int),k≤b - a→m.length=b - a→iter _ (e,(k:Int) - 1,(a:Int),(b:Int),m)=some (zju chars base a k e m) from
  zm (key (b - a) true l (Nat.le_refl _) hlen) rfl
 intro k
 induction k with
 |zero=>
  intro e m hk hm
  refine zl ?_
  dsimp only
  rw[if_neg (by rw[decide_eq_true_eq];omega)]
  rfl
 |succ k ih=>
  intro e m hk hm
  have e1:((k+1:Nat):Int) - 1=(k:Int):=by omega
  have e2:IntKind.i64.wrap ((a:Int)+(k:Int))=((a+k:Nat):Int):=by rw[za (by omega) (by omega)];omega
  have e3:IntKind.i64.wrap ((k:Int) - 1)=(k:Int) - 1:=za (by omega) (by omega)
  rw[e1]
  generalize hc:zX (chars.getD (a+k) 0)=c
  generalize he:(if c=11∨c=10 then true else if zib c=true then e else false)=e'
  have hG:zju chars base a (k+1) e m=zju chars base a k e' (if e'=true then m.set k base else m):=by
   rw[zju,hc]
   simp only[he]
  rw[hG,zp (s':=(e',(k:Int) - 1,(a:Int),(b:Int),if e'=true then m.set k base else m))]
  ·exact ih e' _ (by omega) (by split<;>simp[hm])
  ·dsimp only
   rw[if_pos (by rw[decide_eq_true_eq];omega)]
   refine zm (e:=(e',(a:Int),(b:Int),m)) ?_ ?_
   ·rw[e2,if_pos (by omega),Int.toNat_natCast,zyv,hc,Option.bind_some]
    have h1:(if(c==(11:Int))=true then some (true,(a:Int),(b:Int),m) else some (c==(10:Int),(a:Int),(b:Int),m))=some (decide (c=11∨c=10),(a:Int),(b:Int),m):=by
     by_cases h:c=11
     ·rw[if_pos (by rw[h];rfl),decide_eq_true (.inl h)]
     ·rw[if_neg (by simpa using h)]
      by_cases h2:c=10
      ·simp[h2]
      ·simp[h,h2]
    rw[h1,Option.bind_some,z1a]
    dsimp only
    by_cases h:c=11∨c=10
    ·rw[if_pos (decide_eq_true h)]
     rw[if_pos h] at he
     rw[← he]
    ·rw[if_neg (by simpa using h),Option.bind_some]
     rw[if_neg h] at he
     cases hL:zib c with
     |true=>rw[hL,if_pos rfl] at he;rw[← he];rfl
     |false=>rw[hL,if_neg (by decide)] at he;rw[← he];rfl
   ·dsimp only
    rw[e3]
    cases e' with
    |true=>rw[if_pos rfl,if_pos (by omega),Int.toNat_natCast];rfl
    |false=>rfl
theorem z1j {l:List Int} (hl:l.length≤100000):R.f81F l=some l.reverse:=by
 unfold R.f81F
 suffices key: ∀ (n:Nat) (a m b:List Int),m.length≤n→(a++m++b).length≤100000→iter _ ((a.length:Int),(a.length:Int)+m.length - 1,a++m++b)=some (a++m.reverse++b) from by
  have:=key l.length [] l [] (Nat.le_refl _) (by simpa using hl)
  simp only[List.length_nil,List.nil_append,List.append_nil] at this
  have hw:IntKind.i64.wrap ((l.length:Int) - 1)=((0:Nat):Int)+(l.length:Int) - 1:=by rw[za (by omega) (by omega)];omega
  rw[hw]
  exact zm this rfl
 intro n
 induction n using Nat.strongRecOn with
 |ind n ih=>
  intro a m b hm hl
  by_cases h2:m.length<2
  ·refine zl ?_
   dsimp only
   rw[if_neg (by rw[decide_eq_true_eq];omega)]
   match m,h2 with
   | [],_=>rfl
   | [x],_=>rfl
  ·obtain⟨x,m',y,rfl⟩: ∃ x m' y,m=x::(m'++ [y]):=by
    cases m with
    |nil=>simp at h2
    |cons x t=>
     rcases List.eq_nil_or_concat t with h|⟨m',y,h⟩
     ·subst h;simp at h2
     ·exact⟨x,m',y,by rw[h,List.concat_eq_append]⟩
   have hla:(a++x::(m'++ [y])++b).length=a.length+m'.length+2+b.length:=by simp;omega
   have hn:m'.length+2≤n:=by simpa using hm
   have e1:(a.length:Int)+((x::(m'++ [y])).length:Int) - 1=((a.length+m'.length+1:Nat):Int):=by simp;omega
   have gx:(a++x::(m'++ [y])++b).getD a.length 0=x:=by simp[List.getD_eq_getElem?_getD]
   have gy:(a++x::(m'++ [y])++b).getD (a.length+m'.length+1) 0=y:=by
    have:a++x::(m'++ [y])++b=(a++x::m')++y::b:=by simp
    rw[this,List.getD_eq_getElem?_getD,List.getElem?_append_right (by simp;omega)]
    have:a.length+m'.length+1 - (a++x::m').length=0:=by simp;omega
    rw[this];rfl
   have s1:(a++x::(m'++ [y])++b).set a.length y=a++y::(m'++ [y])++b:=by simp
   have s2:(a++y::(m'++ [y])++b).set (a.length+m'.length+1) x=(a++ [y])++m'++(x::b):=by
    have:a++y::(m'++ [y])++b=(a++y::m')++y::b:=by simp
    rw[this,List.set_append_right _ _ (by simp;omega)]
    have:a.length+m'.length+1 - (a++y::m').length=0:=by simp;omega
    rw[this];simp
   have hl':(a++y::(m'++ [y])++b).length=a.length+m'.length+2+b.length:=by simp;omega
   rw[e1,zp (s':=(((a++ [y]).length:Int),((a++ [y]).length:Int)+(m'.length:Int) - 1,(a++ [y])++m'++(x::b)))]
   ·rw[ih (n - 2) (by omega) (a++ [y]) m' (x::b) (by omega) (by simp at hl ⊢;omega)]
    simp
   ·dsimp only
    rw[if_pos (by rw[decide_eq_true_eq];omega),if_pos (by rw[hla];omega),if_pos (by rw[hla];omega),if_pos (by rw[hla];omega),Int.toNat_natCast,Int.toNat_natCast,gx,gy,s1,s2,if_pos (by rw[hl'];omega),za (by omega) (by omega),za (by omega) (by omega)]
    simp
    omega
def jT (p:Int→Bool) (f:List Int→List Int):List Int→List Int→List Int
 |pend, []=>f pend
 |pend,c::t=>if p c=true then jT p f (pend++ [c]) t else f pend++c::jT p f [] t
theorem zyj (p:Int→Bool) (f:List Int→List Int) (hf:f []= []) (a b pend:List Int) (ha: ∀ c∈a,p c=true) (hb: ∀ c,b.head?=some c→p c=false):jT p f pend (a++b)=f (pend++a)++jT p f [] b:=by
 induction a generalizing pend with
 |nil=>
  cases b with
  |nil=>simp[jT,hf]
  |cons c b=>simp[jT,hb c rfl,hf]
 |cons c a ih=>
  simp only[List.cons_append,jT,ha c (by simp),if_true]
  rw[ih _ fun x hx=>ha x (by simp[hx])]
  simp
theorem zi2 (p:Int→Bool) (f:List Int→List Int) (hf: ∀ l,(f l).Perm l): ∀ (t pend:List Int),(jT p f pend t).Perm (pend++t)
 | [],pend=>by simp only[jT,List.append_nil];exact hf pend
 |c::t,pend=>by
  unfold jT
  split
  ·have:=zi2 p f hf t (pend++ [c])
   simpa using this
  ·exact(hf pend).append ((zi2 p f hf t []).cons c)
theorem zi1 (p:Int→Bool) (f:List Int→List Int) (hf:f []= []): ∀ (t:List Int),(∀ c∈t,p c=false)→jT p f [] t=t
 | [],_=>hf
 |c::t,h=>by
  unfold jT
  rw[if_neg (by rw[h c (by simp)];decide),hf,zi1 p f hf t fun x hx=>h x (by simp[hx])]
  rfl
def zr6 (lv:List Int):Nat→Int→List Int→List Int
 |0,_,a=>a
 |e+1,lev,a=>jT (fun q=>decide (lv.getD q.toNat 0 > lev)) (fun r=>(zr6 lv e (lev+1) r).reverse) [] a
theorem zr7 (lv:List Int): ∀ (e:Nat) (lev:Int),zr6 lv e lev []= []
 |0,_=>rfl
 |e+1,lev=>by simp[zr6,jT,zr7 lv e]
theorem ziw (lv:List Int): ∀ (e:Nat) (lev:Int) (a:List Int),(zr6 lv e lev a).Perm a
 |0,_,a=>List.Perm.refl a
 |e+1,lev,a=>zi2 _ _ (fun l=>(List.reverse_perm _).trans (ziw lv e (lev+1) l)) a []
theorem zrd {lv:List Int} {lev:Int} (hlev: -1000≤lev) (hlev2:lev≤1000) (r55:List Int×List Int×Int→Option (List Int)) (g:List Int→List Int) (hg: ∀ l,(g l).length=l.length) (a:List Int) (ha:a.length≤100000) (hr: ∀ p∈a,0≤p∧p<(lv.length:Int))
  (h: ∀ r,r≠ []→(∀ q∈r,q∈a)→(∀ q∈r,lv.getD q.toNat 0 > lev)→r.length≤a.length→r55 (lv,r,lev+1)=some (g r)):
  R.f55S r55 (lv,a,lev)=some (jT (fun q=>decide (lv.getD q.toNat 0 > lev)) (fun r=>(g r).reverse) [] a):=by
 have hg0:g []= []:=List.eq_nil_of_length_eq_zero (hg [])
 unfold R.f55S
 dsimp only
 suffices key: ∀ (n:Nat) (t d out:List Int),t.length≤n→d++t=a→out.length=d.length→iter _ ((d.length:Int),out)=some (out++jT (fun q=>decide (lv.getD q.toNat 0 > lev)) (fun r=>(g r).reverse) [] t) from
  zm (key a.length a [] [] (Nat.le_refl _) rfl rfl) rfl
 have h0: ∀ out:List Int,out++jT (fun q=>decide (lv.getD q.toNat 0 > lev)) (fun r=>(g r).reverse) [] []=out:=fun out=>by simp[jT,hg0]
 intro n
 induction n using Nat.strongRecOn with
 |ind n ih=>
  intro t d out ht hd ho
  have hlen:d.length+t.length=a.length:=by rw[← hd];simp
  cases t with
  |nil=>
   refine zl ?_
   dsimp only
   rw[if_neg (by rw[decide_eq_true_eq];simp at hlen;omega),h0]
  |cons c t=>
   have hlen':d.length+t.length+1=a.length:=by rw[← hlen];simp;omega
   have hc:a.getD d.length 0=c:=by rw[← hd];simp[List.getD_eq_getElem?_getD]
   have hcm:c∈a:=by rw[← hd];simp
   have hcr:=hr c hcm
   cases hp:decide (lv.getD c.toNat 0 > lev) with
   |false=>
    have hp': ¬ lv.getD c.toNat 0 > lev:=of_decide_eq_false hp
    rw[zp (s':=(((d++ [c]).length:Int),out++ [c]))]
    ·rw[ih (n - 1) (by simp at ht;omega) t (d++ [c]) (out++ [c]) (by simp at ht;omega) (by rw[← hd];simp) (by simp[ho])]
     rw[jT,if_neg (by rw[hp];decide),hg0]
     simp
    ·dsimp only
     rw[if_pos (by rw[decide_eq_true_eq];omega),if_pos (by omega),Int.toNat_natCast,hc,if_pos (by omega),if_pos (by rw[decide_eq_true_eq];omega),if_pos (by omega),if_pos (by simp only[zi];omega),za (by omega) (by omega)]
     simp
   |true=>
    obtain⟨x,y,h1,h2,h3⟩:=ze2 (fun q=>decide (lv.getD q.toNat 0 > lev)) (c::t)
    have hx:0<x.length:=by
     cases x with
     |nil=>
      have:y.head?=some c:=by rw[← (by simpa using h1:c::t=y)];rfl
      have:=h3 c this
      rw[hp] at this;cases this
     |cons z x=>simp
    have hxy:x.length+y.length=t.length+1:=by have:=congrArg List.length h1;simp at this;omega
    have hxa: ∀ q∈x,q∈a:=fun q hq=>by rw[← hd,h1];simp[hq]
    have hsl:(a.take (d.length+x.length)).drop d.length=x:=by rw[← hd,h1, ← List.append_assoc,List.take_left' (by simp),List.drop_left' rfl]
    rw[h1,zyj _ _ (by simp[hg0]) x y [] h2 h3,List.nil_append]
    rw[zp (s':=(((d++x).length:Int),out++(g x).reverse))]
    ·rw[ih (n - 1) (by simp at ht;omega) y (d++x) (out++(g x).reverse) (by simp at ht;omega) (by rw[← hd,h1];simp) (by simp[ho,hg])]
     simp
    ·dsimp only
     have hp':=of_decide_eq_true hp
     rw[if_pos (by rw[decide_eq_true_eq];omega),if_pos (by omega),Int.toNat_natCast,hc,if_pos (by omega),if_neg (by rw[decide_eq_true_eq];omega)]
     refine zm (zri (fun q=>decide (lv.getD q.toNat 0 > lev)) a d x y out (by rw[← hd,h1]) h2 h3 ?_ ?_) ?_
     ·intro k hk hq
      have:=hr _ (List.getElem_mem hk)
      rw[← zo 0 hk] at this
      dsimp only
      rw[if_pos (by rw[decide_eq_true_eq];omega),if_pos (by omega),Int.toNat_natCast,if_pos (by omega),hq,Option.bind_some]
      dsimp only
      rw[if_pos rfl,za (by omega) (by omega)]
      rfl
     ·intro k hk hq
      dsimp only
      by_cases hkl:k<a.length
      ·have:=hr _ (List.getElem_mem hkl)
       rw[← zo 0 hkl] at this
       rw[if_pos (by rw[decide_eq_true_eq];omega),if_pos (by omega),Int.toNat_natCast,if_pos (by omega),hq hkl,Option.bind_some]
       rfl
      ·rw[if_neg (by rw[decide_eq_true_eq];omega)];rfl
     ·dsimp only
      rw[if_pos (by omega),if_pos (by omega),Int.toNat_natCast,hsl,za (by omega) (by omega)]
      rw[h x (List.ne_nil_of_length_pos hx) hxa (fun q hq=>of_decide_eq_true (h2 q hq)) (by omega),Option.bind_some,z1j (by rw[hg];omega),Option.bind_some,if_pos (by simp only[zi,List.length_reverse,hg];omega)]
      simp
theorem zyw {lv:List Int} (hlv: ∀ i,lv.getD i 0≤127): ∀ (e n:Nat) (lev:Int) (a:List Int),e<n→127 - lev≤e→ -1000≤lev→lev≤127→a.length≤100000→(∀ p∈a,0≤p∧p<(lv.length:Int))→R.f55N n (lv,a,lev)=some (zr6 lv e lev a)
 |_,0,_,_,h,_,_,_,_,_=>absurd h (Nat.not_lt_zero _)
 |0,n+1,lev,a,_,h1,h2,h2',h3,h4=>by
  show R.f55S (R.f55N n) (lv,a,lev)=_
  rw[zrd h2 (by omega) (R.f55N n) id (fun _=>rfl) a h3 h4 (fun r hr _ hq _=>by
   obtain⟨q,hq2⟩:=List.exists_mem_of_ne_nil r hr
   have:=hq q hq2
   have:=hlv q.toNat
   omega)]
  rw[zi1 _ _ (by rfl) a (fun c hc=>by have:=hlv c.toNat;exact decide_eq_false (by omega))]
  rfl
 |e+1,n+1,lev,a,h,h1,h2,h2',h3,h4=>by
  show R.f55S (R.f55N n) (lv,a,lev)=_
  rw[zrd h2 (by omega) (R.f55N n) (fun r=>zr6 lv e (lev+1) r) (fun l=>(ziw lv e (lev+1) l).length_eq) a h3 h4 (fun r hr hm hq hl=>by
   obtain⟨q,hq2⟩:=List.exists_mem_of_ne_nil r hr
   have h5:=hq q hq2
   have h6:=hlv q.toNat
   exact zyw hlv e n (lev+1) r (by omega) (by omega) (by omega) (by omega) (by omega) fun p hp=>h4 p (hm p hp))]
  rfl
def zf5 (x:Int):Int:=zen 127 (zif 0 x)
def zqd (lv:List Int):List Int:=zr6 (lv.map zf5) 127 0 ((List.range lv.length).map fun(k:Nat)=>(k:Int))
theorem zep (lv:List Int):(zqd lv).Perm ((List.range lv.length).map fun(k:Nat)=>(k:Int)):=ziw _ _ _ _
theorem z02 {lv:List Int} (hl:lv.length≤100000):R.f39F lv=some (zqd lv):=by
 unfold R.f39F
 have hroom:(0:Int)≤(lv.length:Int)∧(lv.length:Int)≤(lv.length:Int)∧zi (Int.toNat (lv.length:Int)) 8:=by simp only[zi];omega
 refine zm (e:=(List.replicate lv.length 0,List.replicate lv.length 0)) ?_ ?_
 ·rw[if_pos hroom,if_pos hroom]
  simp[agree]
 dsimp only
 have hrep:((List.replicate lv.length (0:Int)),(List.replicate lv.length (0:Int)))=((List.replicate lv.length ((0:Int),(0:Int))).map Prod.fst,(List.replicate lv.length ((0:Int),(0:Int))).map Prod.snd):=by simp
 have h1:(List.replicate lv.length (0:Int))=(List.replicate lv.length ((0:Int),(0:Int))).map Prod.fst:=by simp
 have h2:(List.replicate lv.length (0:Int))=(List.replicate lv.length ((0:Int),(0:Int))).map Prod.snd:=by simp
 refine zm (e:=((List.range lv.length).map (fun(k:Nat)=>(k:Int)),lv.map zf5)) ?_ ?_
 ·have:=zeh (A:=Int×Int) (X:=Int×List Int×List Int) (E:=List Int×List Int) (f:=fun s2=>if decide (s2.1<(lv.length:Int))=true then if 0≤s2.1∧s2.1<(lv.length:Int) then if 0≤s2.1∧s2.1<(s2.2.1.length:Int) then if 0≤s2.1∧s2.1<(s2.2.2.length:Int) then some (Sum.inl (IntKind.i64.wrap (s2.1+1),List.set s2.2.1 (Int.toNat s2.1) s2.1,List.set s2.2.2 (Int.toNat s2.1) (zen (127:Int) (zif 0 (List.getD lv (Int.toNat s2.1) 0))))) else none else none else none else some (Sum.inr (s2.2.1,s2.2.2)))
   (fun k m=>(k,m.map Prod.fst,m.map Prod.snd)) (fun m=>(m.map Prod.fst,m.map Prod.snd)) lv.length (fun k=>((k:Int),zf5 (lv.getD k 0))) ?_ ?_ (l:=List.replicate lv.length (0,0)) (by simp)
  ·rw[← h1, ← h2] at this
   refine this.trans ?_
   rw[List.map_map,List.map_map]
   congr 2
   exact zek lv zf5
  ·intro k m hm hk
   dsimp only
   rw[if_pos (by rw[decide_eq_true_eq];omega),if_pos (by omega),if_pos (by rw[List.length_map];omega),if_pos (by rw[List.length_map];omega),za (by omega) (by omega),Int.toNat_natCast,List.map_set,List.map_set]
   rfl
  ·intro m hm
   dsimp only
   rw[if_neg (by rw[decide_eq_true_eq];omega)]
 ·dsimp only
  have hcl: ∀ i,(lv.map zf5).getD i 0≤127:=by
   intro i
   rw[List.getD_eq_getElem?_getD,List.getElem?_map]
   cases lv[i]? with
   |none=>decide
   |some x=>simp only[Option.map_some,Option.getD_some,zf5,zen];split<;>omega
  have:=zyw hcl 127 R.fuel 0 ((List.range lv.length).map fun(k:Nat)=>(k:Int)) (by unfold R.fuel;omega) (by omega) (by omega) (by omega) (by simpa using hl) (fun p hp=>by
   obtain⟨k,hk,rfl⟩:=List.mem_map.1 hp
   rw[List.mem_range] at hk
   simp
   omega)
  unfold R.f55F
  rw[this]
  rfl
def zac (l:List Int) (kp:List Bool):List Int:=l.filter fun p=>decide (0≤p)&&(decide (p<(kp.length:Int))&&kp.getD p.toNat false)
theorem z01 {l:List Int} {kp:List Bool} (hl:l.length≤100000) (hk:kp.length≤100000):R.f38F (l,kp)=some (zac l kp):=by
 unfold R.f38F
 dsimp only
 suffices key: ∀ (t d out:List Int),d++t=l→out.length≤d.length→iter _ ((d.length:Int),out)=some (out++zac t kp) from zm (key l [] [] rfl (Nat.le_refl _)) rfl
 intro t
 induction t with
 |nil=>
  intro d out hd ho
  rw[List.append_nil] at hd
  refine zl ?_
  dsimp only
  rw[if_neg (by rw[decide_eq_true_eq,hd];omega)]
  simp[zac]
 |cons c t ih=>
  intro d out hd ho
  have hlen:d.length+t.length+1=l.length:=by rw[← hd];simp;omega
  have hc:l.getD d.length 0=c:=by rw[← hd];simp[List.getD_eq_getElem?_getD]
  generalize hb:(decide (0≤c)&&(decide (c<(kp.length:Int))&&kp.getD c.toNat false))=b
  have hsp:zac (c::t) kp=if b=true then c::zac t kp else zac t kp:=by
   unfold zac
   rw[List.filter_cons,hb]
  rw[hsp,zp (s':=(((d++ [c]).length:Int),if b=true then out++ [c] else out))]
  ·rw[ih (d++ [c]) _ (by rw[← hd];simp) (by split<;>simp<;>omega)]
   cases b<;>simp
  ·dsimp only
   rw[if_pos (by rw[decide_eq_true_eq];omega),if_pos (by omega),Int.toNat_natCast,hc]
   refine zm (e:=(b,out)) ?_ ?_
   ·by_cases h0:0≤c
    ·rw[if_pos (by rw[decide_eq_true_eq];exact h0)]
     by_cases h1:c<(kp.length:Int)
     ·rw[if_pos (by rw[decide_eq_true_eq];exact h1),if_pos ⟨h0,h1⟩, ← hb,decide_eq_true h0,decide_eq_true h1]
      rfl
     ·rw[if_neg (by rw[decide_eq_true_eq];exact h1), ← hb,decide_eq_false h1,Bool.false_and,Bool.and_false]
    ·rw[if_neg (by rw[decide_eq_true_eq];omega), ← hb,decide_eq_false h0,Bool.false_and]
   ·dsimp only
    cases b with
    |true=>
     rw[if_pos rfl,if_pos (by simp only[zi];omega),za (by omega) (by omega)]
     simp
    |false=>
     rw[za (by omega) (by omega)]
     simp
end Go.Sx
