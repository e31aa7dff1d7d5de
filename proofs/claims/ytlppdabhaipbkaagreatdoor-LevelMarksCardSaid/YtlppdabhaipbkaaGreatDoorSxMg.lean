import Derived.Test.YtlppdabhaipbkaaGreatDoorSxMb
import Derived.Test.YtlppdabhaipbkaaGreatDoorSxHy
import Derived.Test.YtlppdabhaipbkaaGreatDoorSxTMb
set_option linter.unusedVariables false
set_option linter.unusedSimpArgs false
namespace Go.Sx
noncomputable def Lz.sd0F:List Int×Int×Int→Option (Bool×Bool):=
 fun(x:List Int×Int×Int)=>
 Option.bind
  (Go.Sx.iter
   (fun(s1:Bool×Bool×Int)=>
    if Decidable.decide (s1.snd.snd<Go.Sx.zgn x.snd.snd (↑(List.length x.fst):Int))=Bool.true then
     if(0:Int)≤s1.snd.snd∧s1.snd.snd<(↑(List.length x.fst):Int) then
      Option.bind (Go.Sx.Lz.f131F (List.getD x.fst (Int.toNat s1.snd.snd) (0:Int))) fun(v2:Int)=>
       if(v2==(0:Int))=Bool.true then Option.some (Sum.inl (Bool.true,s1.snd.1,Go.IntKind.wrap Go.IntKind.i64 (s1.snd.snd+(1:Int))))
       else
        if(v2==(1:Int))=Bool.true then Option.some (Sum.inl (s1.1,Bool.true,Go.IntKind.wrap Go.IntKind.i64 (s1.snd.snd+(1:Int))))
        else Option.some (Sum.inl (s1.1,s1.snd.1,Go.IntKind.wrap Go.IntKind.i64 (s1.snd.snd+(1:Int))))
     else Option.none
    else Option.some (Sum.inr (s1.1,s1.snd.1)))
   (Bool.false,Bool.false,if x.snd.fst > (0:Int) then x.snd.fst else(0:Int)))
  fun(v1:Bool×Bool)=>Option.some (v1.1,v1.2)
abbrev kd:List Int:=List.replicate 2 0
def kk (p:List Int):Int:=p.getD 0 0
theorem zap {α:Type} (l:List α) (d:α) {i:Nat} (h:i<l.length):l.getD i d=l[i]:=by simp[List.getD_eq_getElem?_getD,h]
abbrev VV (l:List (List Int)) (i:Nat):Int:=vk kd kk l i
def Kb (l:List (List Int)):Prop:= ∀ p∈l, -1000000≤kk p∧kk p≤1000000
theorem Kb.at {l:List (List Int)} (h:Kb l) (i:Nat): -1000000≤VV l i∧VV l i≤1000000:=by
 show -1000000≤kk (l.getD i kd)∧kk (l.getD i kd)≤1000000
 by_cases hi:i<l.length
 ·rw[zap _ _ hi];exact h _ (List.getElem_mem hi)
 ·rw[List.getD_eq_getElem?_getD,List.getElem?_eq_none (by omega)]
  show -1000000≤(0:Int)∧(0:Int)≤1000000
  omega
theorem Kb.sw {a b:Nat} {l l':List (List Int)} (h:Kb l) (hS:Sw kd a b l l'):Kb l':=fun p hp=>h p (hS.perm.mem_iff.1 hp)
theorem xP {l:List (List Int)} (h:Kb l) (i j:Nat):Lz.f127F (l.getD i kd,l.getD j kd)=some (VV l i - VV l j):=by
 have h1:=h.at i
 have h2:=h.at j
 unfold Lz.f127F
 dsimp only
 rw[if_pos (by decide),if_pos (by decide)]
 have e:IntKind.i64.wrap (VV l i - VV l j)=VV l i - VV l j:=za (by omega) (by omega)
 exact congrArg some e
theorem zk7 (x y:Int):decide (x - y<0)=decide (x<y):=decide_eq_decide.2 (by omega)
theorem xZ {l:List (List Int)} {i j:Nat} (hi:i<l.length) (hj:j<l.length) (k:Nat):VV (swp kd l i j) k=if k=j then VV l i else if k=i then VV l j else VV l k:=z05 l hi hj k
structure InsJ (a i:Nat) (l:List (List Int)) (j:Nat):Prop where
 le:a≤j∧j≤i
 ord: ∀ x y,a≤x→x<y→y≤i→x≠j→y≠j→VV l x≤VV l y
 behind: ∀ y,j<y→y≤i→VV l j≤VV l y
theorem InsJ.done {a i j:Nat} {l:List (List Int)} (h:InsJ a i l j) (hj:j=a∨VV l (j - 1)≤VV l j):Srt kd kk a (i+1) l:=by
 intro x hx hb
 show VV l x≤VV l (x+1)
 have h2:=h.le
 by_cases c1:x=j
 ·subst c1;exact h.behind _ (by omega) (by omega)
 by_cases c2:x+1=j
 ·rcases hj with hj|hj
  ·omega
  ·rw[show j - 1=x by omega] at hj;rw[c2];exact hj
 ·exact h.ord x (x+1) hx (by omega) (by omega) c1 c2
theorem InsJ.step {a i j:Nat} {l:List (List Int)} (h:InsJ a i l j) (hi:i<l.length) (hj:a<j) (hlt:VV l j<VV l (j - 1)):InsJ a i (swp kd l j (j - 1)) (j - 1):=by
 have h2:=h.le
 have hs:=fun k=>xZ (l:=l) (i:=j) (j:=j - 1) (by omega) (by omega) k
 refine⟨by omega,fun x y h1 h3 h4 h5 h6=> ?_,fun y h1 h3=> ?_⟩
 ·rw[hs x,hs y,if_neg h5,if_neg h6]
  by_cases c1:x=j
  ·rw[if_pos c1,if_neg (by omega)]
   exact h.ord (j - 1) y (by omega) (by omega) h4 (by omega) (by omega)
  ·rw[if_neg c1]
   by_cases c2:y=j
   ·rw[if_pos c2]
    exact h.ord x (j - 1) h1 (by omega) (by omega) c1 (by omega)
   ·rw[if_neg c2]
    exact h.ord x y h1 h3 h4 c1 c2
 ·rw[hs (j - 1),hs y,if_pos rfl,if_neg (by omega)]
  by_cases c:y=j
  ·rw[if_pos c];omega
  ·rw[if_neg c];exact h.behind y (by omega) h3
theorem z0m {a b:Nat} {l:List (List Int)} (hab:a≤b) (hb:b≤l.length) (hl:l.length≤100000) (hk:Kb l:=by first|assumption|(refine Kb.sw ?_ (by assumption)<;>first|assumption|(refine Kb.sw ?_ (by assumption)<;>first|assumption|(refine Kb.sw ?_ (by assumption)<;>assumption)))): ∃ l',Lz.f151F ((a:Int),(b:Int),l)=some l'∧Sw kd a b l l'∧Srt kd kk a b l':=by
 unfold Lz.f151F
 refine qf (zv (I:=fun(s:Int×List (List Int))=> ∃ (i:Nat) (l':List (List Int)),s=((i:Int),l')∧a+1≤i∧(i≤b∨i=a+1)∧Sw kd a b l l'∧Srt kd kk a i l') (Q:=fun l'=>Sw kd a b l l'∧Srt kd kk a b l')
  (fun s=>((b:Int) - s.1).toNat) ?_ _ ⟨a+1,l,by rw[za (by omega) (by omega)];rfl,Nat.le_refl _, .inr rfl, .refl _,fun x h1 h2=>by omega⟩) fun l' h=>⟨_,rfl,h⟩
 rintro _ ⟨i,l1,rfl,hi,hi2,hS,hSr⟩
 dsimp only
 have hlen:=hS.len
 by_cases hib:i<b
 ·rw[if_pos (by rw[decide_eq_true_eq];omega)]
  refine qR (R:=fun l'=>Sw kd a b l l'∧Srt kd kk a (i+1) l') (zv (I:=fun(s:Int×List (List Int))=> ∃ (j:Nat) (l':List (List Int)),s=((j:Int),l')∧InsJ a i l' j∧Sw kd a b l l') (Q:=fun l'=>Sw kd a b l l'∧Srt kd kk a (i+1) l')
   (fun s=>s.1.toNat) ?_ _ ⟨i,l1,rfl,⟨by omega,fun x y h1 h2 h3 h4 h5=>hSr.le h1 (by omega) (by omega),fun y h1 h2=>by omega⟩,hS⟩) ?_
  ·rintro _ ⟨j,l2,rfl,hJ,hS2⟩
   dsimp only
   have hlen2:=hS2.len
   have h2:=hJ.le
   by_cases hja:a<j
   ·rw[if_pos (by rw[decide_eq_true_eq];omega),za (by omega) (by omega),if_pos (by omega),if_pos (by omega),Int.toNat_natCast,show((j:Int) - 1).toNat=j - 1 by omega,xP (by first|assumption|(refine Kb.sw ?_ (by assumption)<;>first|assumption|(refine Kb.sw ?_ (by assumption)<;>first|assumption|(refine Kb.sw ?_ (by assumption)<;>assumption))))]
    simp only[Option.bind_some]
    by_cases hlt:VV l2 j<VV l2 (j - 1)
    ·rw[if_pos (by rw[decide_eq_true_eq];omega),if_pos (by omega),if_pos (by omega),if_pos (by omega),if_pos (by rw[List.length_set];omega)]
     exact .inl ⟨_,rfl,⟨j - 1,swp kd l2 j (j - 1),by rw[show((j:Int) - 1)=((j - 1:Nat):Int) by omega];rfl,hJ.step (by omega) hja hlt, .step hS2 (by omega) (by omega) (by omega) (by omega) (by omega)⟩,by show((j:Int) - 1).toNat<(j:Int).toNat;omega⟩
    ·rw[if_neg (by rw[decide_eq_true_eq];omega)]
     exact .inr ⟨_,rfl,hS2,hJ.done (.inr (by omega))⟩
   ·rw[if_neg (by rw[decide_eq_true_eq];omega)]
    simp only[Option.bind_some,Bool.false_eq_true,if_false]
    exact .inr ⟨_,rfl,hS2,hJ.done (.inl (by omega))⟩
  ·rintro l2 ⟨h1,h2⟩
   left
   exact⟨_,rfl,⟨i+1,l2,by rw[za (by omega) (by omega)];rfl,by omega, .inl hib,h1,h2⟩,by show((b:Int) - IntKind.i64.wrap ((i:Int)+1)).toNat<((b:Int) - (i:Int)).toNat;rw[za (by omega) (by omega)];omega⟩
 ·rw[if_neg (by rw[decide_eq_true_eq];omega)]
  exact .inr ⟨_,rfl,hS,fun x h1 h2=>hSr x h1 (by omega)⟩
theorem zdj {a b:Nat} {l:List (List Int)} (ha:a<l.length) (hb:b<l.length) (w:Int) (hk:Kb l:=by first|assumption|(refine Kb.sw ?_ (by assumption)<;>first|assumption|(refine Kb.sw ?_ (by assumption)<;>first|assumption|(refine Kb.sw ?_ (by assumption)<;>assumption)))): ∃ w',Lz.f166F ((a:Int),(b:Int),l,w)=some ((a:Int),(b:Int),l,w')∨Lz.f166F ((a:Int),(b:Int),l,w)=some ((b:Int),(a:Int),l,w'):=by
 unfold Lz.f166F
 dsimp only
 rw[if_pos (by omega),if_pos (by omega),Int.toNat_natCast,Int.toNat_natCast,xP (by first|assumption|(refine Kb.sw ?_ (by assumption)<;>first|assumption|(refine Kb.sw ?_ (by assumption)<;>first|assumption|(refine Kb.sw ?_ (by assumption)<;>assumption))))]
 simp only[Option.bind_some]
 split
 ·exact⟨_, .inr rfl⟩
 ·exact⟨_, .inl rfl⟩
theorem zo6 {a b c:Nat} {l:List (List Int)} (ha:a<l.length) (hb:b<l.length) (hc:c<l.length) (w:Int) (hk:Kb l:=by first|assumption|(refine Kb.sw ?_ (by assumption)<;>first|assumption|(refine Kb.sw ?_ (by assumption)<;>first|assumption|(refine Kb.sw ?_ (by assumption)<;>assumption)))): ∃ (m:Nat) (w':Int),Lz.f165F ((a:Int),(b:Int),(c:Int),l,w)=some ((m:Int),l,w')∧(m=a∨m=b∨m=c):=by
 unfold Lz.f165F
 dsimp only
 obtain⟨w1,h1⟩:=zdj ha hb w
 rcases h1 with h1|h1<;>rw[h1]<;>simp only[Option.bind_some]
 ·obtain⟨w2,h2⟩:=zdj hb hc w1
  rcases h2 with h2|h2<;>rw[h2]<;>simp only[Option.bind_some]
  ·obtain⟨w3,h3⟩:=zdj ha hb w2
   rcases h3 with h3|h3<;>rw[h3]<;>exact⟨_,_,rfl,by simp⟩
  ·obtain⟨w3,h3⟩:=zdj ha hc w2
   rcases h3 with h3|h3<;>rw[h3]<;>exact⟨_,_,rfl,by simp⟩
 ·obtain⟨w2,h2⟩:=zdj ha hc w1
  rcases h2 with h2|h2<;>rw[h2]<;>simp only[Option.bind_some]
  ·obtain⟨w3,h3⟩:=zdj hb ha w2
   rcases h3 with h3|h3<;>rw[h3]<;>exact⟨_,_,rfl,by simp⟩
  ·obtain⟨w3,h3⟩:=zdj hb hc w2
   rcases h3 with h3|h3<;>rw[h3]<;>exact⟨_,_,rfl,by simp⟩
theorem zo5 {a:Nat} {l:List (List Int)} (h1:1≤a) (ha:a+1<l.length) (hl:l.length≤100000) (w:Int) (hk:Kb l:=by first|assumption|(refine Kb.sw ?_ (by assumption)<;>first|assumption|(refine Kb.sw ?_ (by assumption)<;>first|assumption|(refine Kb.sw ?_ (by assumption)<;>assumption)))): ∃ (m:Nat) (w':Int),Lz.f164F ((a:Int),l,w)=some ((m:Int),l,w')∧a - 1≤m∧m≤a+1:=by
 unfold Lz.f164F
 dsimp only
 rw[za (by omega) (by omega),za (by omega) (by omega),show(a:Int) - 1=((a - 1:Nat):Int) by omega,show(a:Int)+1=((a+1:Nat):Int) by omega]
 obtain⟨m,w',h2,h3⟩:=zo6 (l:=l) (a:=a - 1) (b:=a) (c:=a+1) (by omega) (by omega) ha w
 rw[h2]
 exact⟨_,_,rfl,by omega⟩
theorem z0p {a b:Nat} {l:List (List Int)} (hab:a+12<b) (hb:b≤l.length) (hl:l.length≤100000) (hk:Kb l:=by first|assumption|(refine Kb.sw ?_ (by assumption)<;>first|assumption|(refine Kb.sw ?_ (by assumption)<;>first|assumption|(refine Kb.sw ?_ (by assumption)<;>assumption)))): ∃ (m:Nat) (w:Int),Lz.f154F ((a:Int),(b:Int),l)=some ((m:Int),w,l)∧a≤m∧m<b:=by
 unfold Lz.f154F
 dsimp only
 have hw:IntKind.i64.wrap ((b:Int) - (a:Int))=((b - a:Nat):Int):=by rw[za (by omega) (by omega)];omega
 have hq:Int.tdiv ((b - a:Nat):Int) 4=(((b - a) / 4:Nat):Int):=by
  rw[Int.tdiv_eq_ediv_of_nonneg (by omega)];omega
 rw[hw,hq]
 have e0:IntKind.i64.wrap (((b - a) / 4:Nat):Int)=(((b - a) / 4:Nat):Int):=za (by omega) (by omega)
 have e1:IntKind.i64.wrap ((a:Int)+IntKind.i64.wrap (IntKind.i64.wrap (((b - a) / 4:Nat):Int)*1))=((a+(b - a) / 4:Nat):Int):=by rw[e0,za (x:=_*1) (by omega) (by omega),za (by omega) (by omega)];omega
 have e2:IntKind.i64.wrap ((a:Int)+IntKind.i64.wrap (IntKind.i64.wrap (((b - a) / 4:Nat):Int)*2))=((a+(b - a) / 4*2:Nat):Int):=by rw[e0,za (x:=_*2) (by omega) (by omega),za (by omega) (by omega)];omega
 have e3:IntKind.i64.wrap ((a:Int)+IntKind.i64.wrap (IntKind.i64.wrap (((b - a) / 4:Nat):Int)*3))=((a+(b - a) / 4*3:Nat):Int):=by rw[e0,za (x:=_*3) (by omega) (by omega),za (by omega) (by omega)];omega
 rw[e1,e2,e3,if_pos (by rw[decide_eq_true_eq];omega)]
 have last: ∀ (m:Nat) (w:Int), ∃ (m':Nat) (w':Int),(if(w==(0:Int))=true then some ((m:Int),(1:Int),l) else if(w==(12:Int))=true then some ((m:Int),(2:Int),l) else some ((m:Int),(0:Int),l))=some ((m':Int),w',l)∧m'=m:=fun m w=>by
  split
  ·exact⟨_,_,rfl,rfl⟩
  ·split<;>exact⟨_,_,rfl,rfl⟩
 by_cases h50:50≤b - a
 ·rw[if_pos (by rw[decide_eq_true_eq];omega)]
  obtain⟨m1,w1,k1,r1⟩:=zo5 (l:=l) (a:=a+(b - a) / 4) (by omega) (by omega) hl 0
  rw[k1]
  simp only[Option.bind_some]
  obtain⟨m2,w2,k2,r2⟩:=zo5 (l:=l) (a:=a+(b - a) / 4*2) (by omega) (by omega) hl w1
  rw[k2]
  simp only[Option.bind_some]
  obtain⟨m3,w3,k3,r3⟩:=zo5 (l:=l) (a:=a+(b - a) / 4*3) (by omega) (by omega) hl w2
  rw[k3]
  simp only[Option.bind_some]
  obtain⟨m,w,k,r⟩:=zo6 (l:=l) (a:=m1) (b:=m2) (c:=m3) (by omega) (by omega) (by omega) w3
  rw[k]
  simp only[Option.bind_some]
  obtain⟨m',w',q,rfl⟩:=last m w
  exact⟨_,_,q,by omega⟩
 ·rw[if_neg (by rw[decide_eq_true_eq];omega)]
  obtain⟨m,w,k,r⟩:=zo6 (l:=l) (a:=a+(b - a) / 4) (b:=a+(b - a) / 4*2) (c:=a+(b - a) / 4*3) (by omega) (by omega) (by omega) 0
  simp only[Option.bind_some]
  rw[k]
  simp only[Option.bind_some]
  obtain⟨m',w',q,rfl⟩:=last m w
  exact⟨_,_,q,by omega⟩
theorem z0q {a b:Nat} {l:List (List Int)} (hab:a<b) (hb:b≤l.length) (hl:l.length≤100000): ∃ l',Lz.f155F ((a:Int),(b:Int),l)=some l'∧Sw kd a b l l':=by
 unfold Lz.f155F
 refine qf (zv (I:=fun(s:Int×Int×List (List Int))=> ∃ (i j:Nat) (l':List (List Int)),s=((i:Int),(j:Int),l')∧a≤i∧j<b∧Sw kd a b l l') (Q:=fun l'=>Sw kd a b l l')
  (fun s=>(s.2.1 - s.1).toNat) ?_ _ ⟨a,b - 1,l,by dsimp only;rw[za (by omega) (by omega),show(b:Int) - 1=((b - 1:Nat):Int) by omega],Nat.le_refl _,by omega, .refl _⟩) fun l' h=>⟨_,rfl,h⟩
 rintro _ ⟨i,j,l1,rfl,hi,hj,hS⟩
 dsimp only
 have hlen:=hS.len
 by_cases hij:i<j
 ·rw[if_pos (by rw[decide_eq_true_eq];omega),if_pos (by omega),if_pos (by omega),if_pos (by omega),if_pos (by rw[List.length_set];omega),za (by omega) (by omega),za (by omega) (by omega),Int.toNat_natCast,Int.toNat_natCast]
  exact .inl ⟨_,rfl,⟨i+1,j - 1,swp kd l1 i j,by rw[show(j:Int) - 1=((j - 1:Nat):Int) by omega];rfl,by omega,by omega, .step hS (by omega) (by omega) (by omega) (by omega) (by omega)⟩,by show(((j:Int) - 1) - ((i:Int)+1)).toNat<((j:Int) - (i:Int)).toNat;omega⟩
 ·rw[if_neg (by rw[decide_eq_true_eq];omega)]
  exact .inr ⟨_,rfl,hS⟩
def zmj (f n k:Nat) (l:List (List Int)):Prop:= ∀ c,0<c→c<n→k≤(c - 1) / 2→VV l (f+c)≤VV l (f+(c - 1) / 2)
structure Sift (f n lo:Nat) (l:List (List Int)) (r:Nat):Prop where
 ge:lo≤r
 heap: ∀ c,0<c→c<n→lo≤(c - 1) / 2→(c - 1) / 2≠r→VV l (f+c)≤VV l (f+(c - 1) / 2)
 grand: ∀ c,0<c→c<n→(c - 1) / 2=r→lo<r→lo≤(r - 1) / 2→VV l (f+c)≤VV l (f+(r - 1) / 2)
theorem zua {lo hi f:Nat} {l:List (List Int)} (hb:f+hi≤l.length) (hlo:lo≤hi) (hl:l.length≤100000) (h:zmj f hi (lo+1) l) (hk:Kb l:=by first|assumption|(refine Kb.sw ?_ (by assumption)<;>first|assumption|(refine Kb.sw ?_ (by assumption)<;>first|assumption|(refine Kb.sw ?_ (by assumption)<;>assumption)))): ∃ l',Lz.f161F ((lo:Int),(hi:Int),(f:Int),l)=some l'∧Sw kd (f+lo) (f+hi) l l'∧zmj f hi lo l':=by
 unfold Lz.f161F
 refine qf (zv (I:=fun(s:Int×List (List Int))=> ∃ (r:Nat) (l':List (List Int)),s=((r:Int),l')∧r≤hi∧Sift f hi lo l' r∧Sw kd (f+lo) (f+hi) l l') (Q:=fun(e:List (List Int) ⊕ List (List Int))=> ∃ l',(e= .inl l'∨e= .inr l')∧Sw kd (f+lo) (f+hi) l l'∧zmj f hi lo l')
  (fun s=>((hi:Int) - s.1).toNat) ?_ _ ⟨lo,l,rfl,hlo,⟨Nat.le_refl _,fun c h1 h2 h3 h4=>h c h1 h2 (by omega),fun c h1 h2 h3 h4=>by omega⟩, .refl _⟩) ?_
 ·rintro _ ⟨r,l1,rfl,hr,hS,hW⟩
  dsimp only
  have hlen:=hW.len
  have hge:=hS.ge
  rw[za (x:=2*(r:Int)) (by omega) (by omega),za (x:=2*(r:Int)+1) (by omega) (by omega),za (x:=2*(r:Int)+1+1) (by omega) (by omega)]
  by_cases hc:hi≤2*r+1
  ·rw[if_pos (by rw[decide_eq_true_eq];omega)]
   exact .inr ⟨_,rfl,l1, .inl rfl,hW,fun c h1 h2 h3=>hS.heap c h1 h2 h3 (by omega)⟩
  rw[if_neg (by rw[decide_eq_true_eq];omega),za (x:=(f:Int)+(2*(r:Int)+1)) (by omega) (by omega),za (x:=(f:Int)+(r:Int)) (by omega) (by omega)]
  have hch: ∃ ch:Nat,(ch=2*r+1∨ch=2*r+2)∧ch<hi∧(∀ c,0<c→c<hi→(c - 1) / 2=r→VV l1 (f+c)≤VV l1 (f+ch))∧
    Option.bind (if decide (2*(r:Int)+1+1<(hi:Int))=true then(if(0:Int)≤(f:Int)+(2*(r:Int)+1)∧(f:Int)+(2*(r:Int)+1)<(l1.length:Int) then(if(0:Int)≤IntKind.i64.wrap ((f:Int)+(2*(r:Int)+1)+1)∧IntKind.i64.wrap ((f:Int)+(2*(r:Int)+1)+1)<(l1.length:Int) then
      Option.bind (Lz.f127F (l1.getD ((f:Int)+(2*(r:Int)+1)).toNat kd,l1.getD (IntKind.i64.wrap ((f:Int)+(2*(r:Int)+1)+1)).toNat kd)) fun(v2:Int)=>some (decide (v2<(0:Int)),l1) else none) else none) else some (false,l1))
     (fun(v2:Bool×List (List Int))=>if v2.1=true then some (2*(r:Int)+1+1,v2.2) else some (2*(r:Int)+1,v2.2))=some ((ch:Int),l1):=by
   have hpar: ∀ c,0<c→(c - 1) / 2=r→c=2*r+1∨c=2*r+2:=fun c h1 h2=>by omega
   by_cases h2:2*r+2<hi
   ·rw[if_pos (by rw[decide_eq_true_eq];omega),if_pos (by omega),za (by omega) (by omega),if_pos (by omega),show((f:Int)+(2*(r:Int)+1)).toNat=f+(2*r+1) by omega,show((f:Int)+(2*(r:Int)+1)+1).toNat=f+(2*r+2) by omega,xP (by first|assumption|(refine Kb.sw ?_ (by assumption)<;>first|assumption|(refine Kb.sw ?_ (by assumption)<;>first|assumption|(refine Kb.sw ?_ (by assumption)<;>assumption))))]
    simp only[Option.bind_some]
    by_cases hlt:VV l1 (f+(2*r+1))<VV l1 (f+(2*r+2))
    ·refine⟨2*r+2, .inr rfl,h2,fun c h3 h4 h5=> ?_,by rw[if_pos (by rw[decide_eq_true_eq];omega)];congr 1⟩
     rcases hpar c h3 h5 with rfl|rfl
     ·omega
     ·exact Int.le_refl _
    ·refine⟨2*r+1, .inl rfl,by omega,fun c h3 h4 h5=> ?_,by rw[if_neg (by rw[decide_eq_true_eq];omega)];rfl⟩
     rcases hpar c h3 h5 with rfl|rfl
     ·exact Int.le_refl _
     ·omega
   ·rw[if_neg (by rw[decide_eq_true_eq];omega)]
    refine⟨2*r+1, .inl rfl,by omega,fun c h3 h4 h5=> ?_,rfl⟩
    rcases hpar c h3 h5 with rfl|rfl
    ·exact Int.le_refl _
    ·omega
  obtain⟨ch,hch1,hch2,hmax,heq⟩:=hch
  rw[heq]
  simp only[Option.bind_some]
  rw[if_pos (by omega),za (x:=(f:Int)+(ch:Int)) (by omega) (by omega),if_pos (by omega),show((f:Int)+(r:Int)).toNat=f+r by omega,show((f:Int)+(ch:Int)).toNat=f+ch by omega,xP (by first|assumption|(refine Kb.sw ?_ (by assumption)<;>first|assumption|(refine Kb.sw ?_ (by assumption)<;>first|assumption|(refine Kb.sw ?_ (by assumption)<;>assumption))))]
  simp only[Option.bind_some]
  have hpc:(ch - 1) / 2=r:=by omega
  by_cases hlt:VV l1 (f+r)<VV l1 (f+ch)
  ·rw[if_neg (by simp;omega),if_pos (by omega),if_pos (by omega),if_pos (by omega),if_pos (by rw[List.length_set];omega)]
   have hs:=fun k=>xZ (l:=l1) (i:=f+r) (j:=f+ch) (by omega) (by omega) k
   refine .inl ⟨_,rfl,⟨ch,swp kd l1 (f+r) (f+ch),rfl,by omega,⟨by omega,fun c h1 h2 h3 h4=> ?_,fun c h1 h2 h3 h4 h5=> ?_⟩, .step hW (by omega) (by omega) (by omega) (by omega) (by omega)⟩,by show((hi:Int) - (ch:Int)).toNat<((hi:Int) - (r:Int)).toNat;omega⟩
   ·
    rw[hs (f+c),hs (f+(c - 1) / 2)]
    by_cases e1:(c - 1) / 2=r
    ·
     rw[if_neg (show ¬ f+(c - 1) / 2=f+ch by omega),if_pos (show f+(c - 1) / 2=f+r by omega)]
     by_cases e2:c=ch
     ·rw[if_pos (by omega)];omega
     ·rw[if_neg (by omega),if_neg (by omega)];exact hmax c h1 h2 e1
    ·rw[if_neg (show ¬ f+(c - 1) / 2=f+ch by omega),if_neg (show ¬ f+(c - 1) / 2=f+r by omega)]
     by_cases e2:c=ch
     ·omega
     ·by_cases e3:c=r
      ·rw[if_neg (by omega),if_pos (by omega)]
       have:=hS.grand ch (by omega) hch2 hpc (by omega) (by rw[← e3];exact h3)
       rw[e3];exact this
      ·rw[if_neg (by omega),if_neg (by omega)];exact hS.heap c h1 h2 h3 e1
   ·rw[hs (f+c),hs (f+(ch - 1) / 2),hpc,if_neg (show ¬ f+r=f+ch by omega),if_pos rfl,if_neg (by omega),if_neg (by omega)]
    have:=hS.heap c h1 h2 (by omega) (by omega)
    rw[h3] at this
    exact this
  ·rw[if_pos (by simp;omega)]
   refine .inr ⟨_,rfl,l1, .inr rfl,hW,fun c h1 h2 h3=> ?_⟩
   by_cases e:(c - 1) / 2=r
   ·have:=hmax c h1 h2 e;rw[e];omega
   ·exact hS.heap c h1 h2 h3 e
 ·rintro _ ⟨l',rfl|rfl,h1,h2⟩
  ·exact⟨_,rfl,h1,h2⟩
  ·exact⟨_,rfl,h1,h2⟩
theorem zmj.top {f n:Nat} {l:List (List Int)} (h:zmj f n 0 l): ∀ c,c<n→VV l (f+c)≤VV l f:=by
 intro c
 induction c using Nat.strongRecOn with
 |ind c ih=>
  intro hc
  by_cases h0:c=0
  ·subst h0;exact Int.le_refl _
  ·have h1:=h c (by omega) hc (Nat.zero_le _)
   have h2:=ih ((c - 1) / 2) (by omega) (by omega)
   omega
theorem z0n {a b:Nat} {l:List (List Int)} (hab:a<b) (hb:b≤l.length) (hl:l.length≤100000) (hk:Kb l:=by first|assumption|(refine Kb.sw ?_ (by assumption)<;>first|assumption|(refine Kb.sw ?_ (by assumption)<;>first|assumption|(refine Kb.sw ?_ (by assumption)<;>assumption)))): ∃ l',Lz.f152F ((a:Int),(b:Int),l)=some l'∧Sw kd a b l l'∧Srt kd kk a b l':=by
 unfold Lz.f152F
 dsimp only
 have hw:IntKind.i64.wrap ((b:Int) - (a:Int))=((b - a:Nat):Int):=by rw[za (by omega) (by omega)];omega
 have hw1:IntKind.i64.wrap (((b - a:Nat):Int) - 1)=((b - a - 1:Nat):Int):=by rw[za (by omega) (by omega)];omega
 have hq:Int.tdiv ((b - a - 1:Nat):Int) 2=(((b - a - 1) / 2:Nat):Int):=by
  rw[Int.tdiv_eq_ediv_of_nonneg (by omega)];omega
 rw[hw,hw1,hq,za (x:=(((b - a - 1) / 2:Nat):Int)) (by omega) (by omega)]
 refine qf (zv (I:=fun(s:Int×List (List Int))=> ∃ (i:Int) (l':List (List Int)),s=(i,l')∧ -1≤i∧i≤(((b - a - 1) / 2:Nat):Int)∧Sw kd a b l l'∧zmj a (b - a) (i+1).toNat l') (Q:=fun l'=>Sw kd a b l l'∧zmj a (b - a) 0 l')
  (fun s=>(s.1+1).toNat) ?_ _ ⟨_,l,rfl,by omega,Int.le_refl _, .refl _,fun c h1 h2 h3=>by omega⟩) ?_
 ·rintro _ ⟨i,l1,rfl,hi0,hi1,hW,hH⟩
  dsimp only
  have hlen:=hW.len
  by_cases hi:0≤i
  ·obtain⟨i,rfl⟩:=Int.eq_ofNat_of_zero_le hi
   obtain⟨l2,k1,k2,k3⟩:=zua (lo:=i) (hi:=b - a) (f:=a) (l:=l1) (by omega) (by omega) (by omega) (by rw[show((i:Int)+1).toNat=i+1 by omega] at hH;exact hH)
   rw[if_pos (by rw[decide_eq_true_eq];omega),k1]
   simp only[Option.bind_some]
   rw[za (by omega) (by omega)]
   exact .inl ⟨_,rfl,⟨_,l2,rfl,by omega,by omega,hW.trans (k2.mono (by omega) (by omega) (by omega)),by rw[show((i:Int) - 1+1).toNat=i by omega];exact k3⟩,by show((i:Int) - 1+1).toNat<((i:Int)+1).toNat;omega⟩
  ·rw[if_neg (by rw[decide_eq_true_eq];exact hi)]
   rw[show(i+1).toNat=0 by omega] at hH
   exact .inr ⟨_,rfl,hW,hH⟩
 rintro l0 ⟨hW0,hH0⟩
 refine qf (zv (I:=fun(s:Int×List (List Int))=> ∃ (n:Nat) (l':List (List Int)),s=((n:Int) - 1,l')∧n≤b - a∧Sw kd a b l l'∧zmj a n 0 l'∧Srt kd kk (a+n) b l'∧ ∀ i j,a≤i→i<a+n→a+n≤j→j<b→VV l' i≤VV l' j) (Q:=fun l'=>Sw kd a b l l'∧Srt kd kk a b l')
  (fun s=>(s.1+1).toNat) ?_ _ ⟨b - a,l0,by rw[show((b - a - 1:Nat):Int)=((b - a:Nat):Int) - 1 by omega],Nat.le_refl _,hW0,hH0,fun x h1 h2=>by omega,fun i j h1 h2 h3 h4=>by omega⟩) fun l' h=>⟨_,rfl,h⟩
 rintro _ ⟨n,l1,rfl,hn,hW,hH,hSr,hlt⟩
 dsimp only
 have hlen:=hW.len
 by_cases h0:n=0
 ·subst h0
  rw[if_neg (by rw[decide_eq_true_eq];omega)]
  exact .inr ⟨_,rfl,hW,hSr⟩
 ·obtain⟨n,rfl⟩: ∃ m,n=m+1:=⟨n - 1,by omega⟩
  rw[show((n+1:Nat):Int) - 1=(n:Int) by omega,if_pos (by rw[decide_eq_true_eq];omega),za (x:=(a:Int)+(n:Int)) (by omega) (by omega),if_pos (by omega),if_pos (by omega),if_pos (by omega),if_pos (by rw[List.length_set];omega),show((a:Int)+(n:Int)).toNat=a+n by omega,Int.toNat_natCast]
  have hs:=fun k=>xZ (l:=l1) (i:=a) (j:=a+n) (by omega) (by omega) k
  have hsw:Sw kd a b l1 (swp kd l1 a (a+n)):=Sw.one (by omega) (by omega) (by omega) (by omega) (by omega)
  obtain⟨l2,k1,k2,k3⟩:=zua (lo:=0) (hi:=n) (f:=a) (l:=swp kd l1 a (a+n)) (by rw[zcg];omega) (Nat.zero_le _) (by rw[zcg];omega) (fun c h1 h2 h3=>by
   rw[hs (a+c),hs (a+(c - 1) / 2),if_neg (by omega),if_neg (by omega),if_neg (by omega),if_neg (by omega)]
   exact hH c h1 (by omega) (Nat.zero_le _))
  have k1':Lz.f161F ((0:Int),(n:Int),(a:Int),(l1.set a (l1.getD (a+n) kd)).set (a+n) (l1.getD a kd))=some l2:=k1
  rw[k1']
  simp only[Option.bind_some]
  rw[za (by omega) (by omega)]
  have htop:=hH.top
  have hout: ∀ k,a+n≤k→VV l2 k=VV (swp kd l1 a (a+n)) k:=fun k hk=>k2.vout (.inr (by omega))
  have hmaxn:VV l2 (a+n)=VV l1 a:=by rw[hout _ (Nat.le_refl _),hs,if_pos rfl]
  have hold: ∀ k,a+n<k→VV l2 k=VV l1 k:=fun k hk=>by rw[hout k (by omega),hs,if_neg (by omega),if_neg (by omega)]
  have hin: ∀ i,a≤i→i<a+n→VV l2 i≤VV l1 a:=by
   refine k2.vall (fun x=>x≤VV l1 a) fun k h1 h2=> ?_
   show VV (swp kd l1 a (a+n)) k≤VV l1 a
   rw[hs k,if_neg (by omega)]
   split
   ·exact htop n (by omega)
   ·have:=htop (k - a) (by omega)
    rw[show a+(k - a)=k by omega] at this
    exact this
  refine .inl ⟨_,rfl,⟨n,l2,rfl,by omega,(hW.trans hsw).trans (k2.mono (by omega) (by omega) (by rw[zcg];omega)),k3,fun x h1 h2=> ?_,fun i j h1 h2 h3 h4=> ?_⟩,by show((n:Int) - 1+1).toNat<((n:Int)+1).toNat;omega⟩
  ·show VV l2 x≤VV l2 (x+1)
   by_cases e:x=a+n
   ·subst e;rw[hmaxn,hold _ (by omega)];exact hlt a (a+n+1) (Nat.le_refl _) (by omega) (by omega) h2
   ·rw[hold x (by omega),hold (x+1) (by omega)];exact hSr x (by omega) h2
  ·by_cases e:j=a+n
   ·subst e;rw[hmaxn];exact hin i h1 h2
   ·rw[hold j (by omega)]
    have:=hin i h1 h2
    have:=hlt a j (Nat.le_refl _) (by omega) (by omega) h4
    omega
theorem zwm: ∀ n:Nat,8≤n→n<1100→ ∃ m:Nat,Lz.f162F (n:Int)=some (m:Int)∧1≤m∧m≤2*n:=by
 have h: ∀ n:Nat,n<1100→(8≤n→(match Lz.f162F (n:Int) with|some v=>decide (1≤v∧v≤2*(n:Int))|none=>false)=true):=by decide+kernel
 intro n h8 hn
 have:=h n hn h8
 split at this
 ·rename_i v hv
  have h2:=of_decide_eq_true this
  obtain⟨m,rfl⟩:=Int.eq_ofNat_of_zero_le (show 0≤v by omega)
  exact⟨m,hv,by omega,by omega⟩
 ·cases this
theorem zza (x:Int) {m:Nat} (h1:1≤m) (h2:m≤100000): ∃ k:Nat,k<m∧IntKind.i64.wrap (IntKind.u64.wrap (((BitVec.ofInt (IntKind.bits .u64) x &&& BitVec.ofInt (IntKind.bits .u64) (IntKind.u64.wrap ((m:Int) - 1))).toNat:Nat):Int))=(k:Int):=by
 have e1:IntKind.u64.wrap ((m:Int) - 1)=((m - 1:Nat):Int):=by rw[zme (by omega) (by omega)];omega
 have e2:(BitVec.ofInt (IntKind.bits .u64) ((m - 1:Nat):Int)).toNat=m - 1:=by
  rw[BitVec.ofInt_natCast,BitVec.toNat_ofNat]
  exact Nat.mod_eq_of_lt (by show m - 1<2 ^ 64;omega)
 have e3:(BitVec.ofInt (IntKind.bits .u64) x &&& BitVec.ofInt (IntKind.bits .u64) ((m - 1:Nat):Int)).toNat≤m - 1:=by
  rw[BitVec.toNat_and,e2]
  exact Nat.and_le_right
 rw[e1]
 generalize (BitVec.ofInt (IntKind.bits .u64) x &&& BitVec.ofInt (IntKind.bits .u64) ((m - 1:Nat):Int)).toNat=k at*
 exact⟨k,by omega,by rw[zme (by omega) (by omega),za (by omega) (by omega)]⟩
theorem z0o {a b:Nat} {l:List (List Int)} (hab:a<b) (hb:b≤l.length) (hl:l.length<1100): ∃ l',Lz.f153F ((a:Int),(b:Int),l)=some l'∧Sw kd a b l l':=by
 unfold Lz.f153F
 dsimp only
 have hw:IntKind.i64.wrap ((b:Int) - (a:Int))=((b - a:Nat):Int):=by rw[za (by omega) (by omega)];omega
 rw[hw]
 by_cases h8: ¬ 8≤b - a
 ·rw[if_neg (by rw[decide_eq_true_eq];omega)]
  exact⟨_,rfl, .refl _⟩
 have h8:8≤b - a:=by omega
 rw[if_pos (by rw[decide_eq_true_eq];omega)]
 obtain⟨m,hm,hm1,hm2⟩:=zwm (b - a) h8 (by omega)
 rw[hm]
 simp only[Option.bind_some]
 have hq:Int.tdiv ((b - a:Nat):Int) 4=(((b - a) / 4:Nat):Int):=by
  rw[Int.tdiv_eq_ediv_of_nonneg (by omega)];omega
 have e2:IntKind.i64.wrap ((a:Int)+IntKind.i64.wrap (IntKind.i64.wrap (Int.tdiv ((b - a:Nat):Int) 4)*2))=((a+(b - a) / 4*2:Nat):Int):=by rw[hq,za (x:=(((b - a) / 4:Nat):Int)) (by omega) (by omega),za (x:=_*2) (by omega) (by omega),za (by omega) (by omega)];omega
 rw[e2,za (x:=((a+(b - a) / 4*2:Nat):Int)+1) (by omega) (by omega),za (x:=((a+(b - a) / 4*2:Nat):Int) - 1) (by omega) (by omega)]
 refine qf (zv (I:=fun(s:Int×List (List Int)×Int)=> ∃ (i:Nat) (l':List (List Int)),s.1=(i:Int)∧s.2.1=l'∧a+(b - a) / 4*2 - 1≤i∧i≤a+(b - a) / 4*2+2∧Sw kd a b l l') (Q:=fun l'=>Sw kd a b l l')
  (fun s=>(((a+(b - a) / 4*2+2:Nat):Int) - s.1).toNat) ?_ _ ⟨a+(b - a) / 4*2 - 1,l,by dsimp only;omega,rfl,Nat.le_refl _,by omega, .refl _⟩) fun l' h=>⟨_,rfl,h⟩
 rintro ⟨s1,s2,rr⟩ ⟨i,l1,h1,h2,hi1,hi2,hW⟩
 dsimp only at h1 h2 ⊢
 subst h1
 subst h2
 have hlen:=hW.len
 by_cases hi:i≤a+(b - a) / 4*2+1
 ·rw[if_pos (by rw[decide_eq_true_eq];omega)]
  have hx: ∃ v v',Lz.f163F rr=some (v,v'):=⟨_,_,rfl⟩
  obtain⟨v,v',hx⟩:=hx
  rw[hx]
  simp only[Option.bind_some]
  obtain⟨k,hk1,hk2⟩:=zza v (m:=m) hm1 (by omega)
  rw[hk2]
  have hv4: ∃ o:Nat,o<b - a∧(if decide ((k:Int)≥((b - a:Nat):Int))=true then some (IntKind.i64.wrap ((k:Int) - ((b - a:Nat):Int)),s2,v') else some ((k:Int),s2,v'))=some ((o:Int),s2,v'):=by
   by_cases hkb:b - a≤k
   ·refine⟨k - (b - a),by omega, ?_⟩
    rw[if_pos (by rw[decide_eq_true_eq];omega),za (by omega) (by omega),show(k:Int) - ((b - a:Nat):Int)=((k - (b - a):Nat):Int) by omega]
   ·exact⟨k,by omega,by rw[if_neg (by rw[decide_eq_true_eq];omega)]⟩
  obtain⟨o,ho1,ho2⟩:=hv4
  rw[ho2]
  simp only[Option.bind_some]
  rw[za (x:=(a:Int)+(o:Int)) (by omega) (by omega),if_pos (by omega),if_pos (by omega),if_pos (by omega),if_pos (by rw[List.length_set];omega),za (by omega) (by omega),show((a:Int)+(o:Int)).toNat=a+o by omega,Int.toNat_natCast]
  exact .inl ⟨_,rfl,⟨i+1,swp kd s2 i (a+o),rfl,rfl,by omega,by omega, .step hW (by omega) (by omega) (by omega) (by omega) (by omega)⟩,by show(((a+(b - a) / 4*2+2:Nat):Int) - ((i:Int)+1)).toNat<(((a+(b - a) / 4*2+2:Nat):Int) - (i:Int)).toNat;omega⟩
 ·rw[if_neg (by rw[decide_eq_true_eq];omega)]
  exact .inr ⟨_,rfl,hW⟩
theorem zu5 {f:Int×List (List Int)→Option ((Int×List (List Int)) ⊕ (Int×List (List Int)))} {l:List (List Int)} {j:Nat} (p:Nat→Bool)
  (hf: ∀ i:Nat,i≤j→f ((i:Int),l)=if p i=true then some (.inl (((i+1:Nat):Int),l)) else some (.inr ((i:Int),l)))
  (hs: ∀ i:Nat,j<i→f ((i:Int),l)=some (.inr ((i:Int),l))) (i0:Nat) (h0:i0≤j+1):
  ∃ i:Nat,iter f ((i0:Int),l)=some ((i:Int),l)∧i0≤i∧i≤j+1∧(∀ k,i0≤k→k<i→p k=true)∧(i≤j→p i=false):=by
 suffices key: ∀ n i0,j+1 - i0=n→i0≤j+1→ ∃ i:Nat,iter f ((i0:Int),l)=some ((i:Int),l)∧i0≤i∧i≤j+1∧(∀ k,i0≤k→k<i→p k=true)∧(i≤j→p i=false) from key _ i0 rfl h0
 intro n
 induction n with
 |zero=>
  intro i0 hn h0
  exact⟨i0,zn (hs i0 (by omega)),Nat.le_refl _,h0,fun k h1 h2=>by omega,fun h=>by omega⟩
 |succ n ih=>
  intro i0 hn h0
  have hij:i0≤j:=by omega
  have h:=hf i0 hij
  cases hp:p i0 with
  |false=>
   rw[hp,if_neg (by simp)] at h
   exact⟨i0,zn h,Nat.le_refl _,h0,fun k h1 h2=>by omega,fun _=>hp⟩
  |true=>
   rw[hp,if_pos rfl] at h
   obtain⟨i,e1,e2,e3,e4,e5⟩:=ih (i0+1) (by omega) (by omega)
   refine⟨i,by rw[zw h];exact e1,by omega,e3,fun k h1 h2=> ?_,e5⟩
   by_cases hk:k=i0
   ·subst hk;exact hp
   ·exact e4 k (by omega) h2
theorem zn1 {f:Int×List (List Int)→Option ((Int×List (List Int)) ⊕ (Int×List (List Int)))} {l:List (List Int)} {i J:Nat} (p:Nat→Bool) (hi:1≤i)
  (hf: ∀ j:Nat,i≤j→j≤J→f ((j:Int),l)=if p j=true then some (.inl (((j - 1:Nat):Int),l)) else some (.inr ((j:Int),l)))
  (hs: ∀ j:Nat,j<i→f ((j:Int),l)=some (.inr ((j:Int),l))): ∀ (j0:Nat) (h0:i≤j0+1) (hJ:j0≤J),
  ∃ j:Nat,iter f ((j0:Int),l)=some ((j:Int),l)∧j≤j0∧i≤j+1∧(∀ k,j<k→k≤j0→p k=true)∧(i≤j→p j=false):=by
 intro j0
 induction j0 with
 |zero=>intro h0 _;exact⟨0,zn (hs 0 (by omega)),Nat.le_refl _,h0,fun k h1 h2=>by omega,fun h=>by omega⟩
 |succ j0 ih=>
  intro h0 hJ
  by_cases hij:i≤j0+1
  ·have h:=hf (j0+1) hij hJ
   cases hp:p (j0+1) with
   |false=>
    rw[hp,if_neg (by simp)] at h
    exact⟨j0+1,zn h,Nat.le_refl _,by omega,fun k h1 h2=>by omega,fun _=>hp⟩
   |true=>
    rw[hp,if_pos rfl] at h
    obtain⟨j,e1,e2,e3,e4,e5⟩:=ih hij (by omega)
    refine⟨j,by rw[zw h];exact e1,by omega,e3,fun k h1 h2=> ?_,e5⟩
    by_cases hk:k=j0+1
    ·subst hk;exact hp
    ·exact e4 k h1 (by omega)
  ·exact⟨j0+1,zn (hs _ (by omega)),Nat.le_refl _,by omega,fun k h1 h2=>by omega,fun h=>by omega⟩
theorem z0s {a b m:Nat} {l:List (List Int)} (ham:a≤m) (hmb:m<b) (hb:b≤l.length) (hl:l.length≤100000) (hk:Kb l:=by first|assumption|(refine Kb.sw ?_ (by assumption)<;>first|assumption|(refine Kb.sw ?_ (by assumption)<;>first|assumption|(refine Kb.sw ?_ (by assumption)<;>assumption)))): ∃ (i:Nat) (l':List (List Int)),Lz.f157F ((a:Int),(b:Int),(m:Int),l)=some ((i:Int),l')∧Sw kd a b l l'∧a<i∧i≤b∧
  VV l' a=VV l m∧(∀ k,a≤k→k<i→VV l' k≤VV l m)∧(∀ k,i≤k→k<b→VV l m<VV l' k):=by
 suffices hh: ∃ r,Lz.f157F ((a:Int),(b:Int),(m:Int),l)=some r∧ ∃ (i:Nat) (l':List (List Int)),r=((i:Int),l')∧Sw kd a b l l'∧a<i∧i≤b∧
   VV l' a=VV l m∧(∀ k,a≤k→k<i→VV l' k≤VV l m)∧(∀ k,i≤k→k<b→VV l m<VV l' k) by
  obtain⟨r,h1,i,l',rfl,h2⟩:=hh
  exact⟨i,l',h1,h2⟩
 unfold Lz.f157F
 dsimp only
 rw[if_pos (by omega),if_pos (by omega),if_pos (by omega),if_pos (by rw[List.length_set];omega),Int.toNat_natCast,Int.toNat_natCast,za (x:=(a:Int)+1) (by omega) (by omega),za (x:=(b:Int) - 1) (by omega) (by omega)]
 have hsw:(l.set a (l.getD m kd)).set m (l.getD a kd)=swp kd l a m:=rfl
 rw[hsw,show(a:Int)+1=((a+1:Nat):Int) by omega,show(b:Int) - 1=((b - 1:Nat):Int) by omega]
 have hS0:Sw kd a b l (swp kd l a m):=Sw.one (by omega) (by omega) (by omega) (by omega) (by omega)
 have hv0:VV (swp kd l a m) a=VV l m:=by
  rw[xZ (by omega) (by omega)]
  by_cases h:a=m
  ·rw[if_pos h,h]
  ·rw[if_neg h,if_pos rfl]
 refine qf (Q:=fun(r:Int×List (List Int))=> ∃ (i:Nat) (l':List (List Int)),r=((i:Int),l')∧Sw kd (a+1) b (swp kd l a m) l'∧a<i∧i≤b∧
   (∀ k,a<k→k<i→VV l' k≤VV l m)∧(∀ k,i≤k→k<b→VV l m<VV l' k)) ?_ ?_
 rotate_left
 ·rintro _ ⟨i,l',rfl,h2,h3,h4,h5,h6⟩
  have hva:VV l' a=VV l m:=(h2.vout (key:=kk) (k:=a) (.inl (by omega))).trans hv0
  refine⟨_,rfl,i,l',rfl,hS0.trans (h2.mono (by omega) (by omega) (by rw[zcg];omega)),h3,h4,hva,fun k k1 k2=> ?_,h6⟩
  by_cases hk:k=a
  ·subst hk;rw[hva];exact Int.le_refl _
  ·exact h5 k (by omega) k2
 refine zv (I:=fun(s:Int×Int×List (List Int))=> ∃ (i j:Nat) (l':List (List Int)),s=((i:Int),(j:Int),l')∧a+1≤i∧i≤j+1∧j<b∧Sw kd (a+1) b (swp kd l a m) l'∧
   (∀ k,a<k→k<i→VV l' k≤VV l m)∧(∀ k,j<k→k<b→VV l m<VV l' k)) (fun s=>(s.2.1+1 - s.1).toNat) ?_ _ ⟨a+1,b - 1,_,rfl,Nat.le_refl _,by omega,by omega, .refl _,fun k h1 h2=>by omega,fun k h1 h2=>by omega⟩
 rintro _ ⟨i,j,l1,rfl,hi,hij,hj,hS,hlo,hhi⟩
 dsimp only
 have hlen:l1.length=l.length:=by rw[hS.len,zcg]
 have hva:VV l1 a=VV l m:=(hS.vout (key:=kk) (k:=a) (.inl (by omega))).trans hv0
 refine qR (R:=fun(r:Int×List (List Int))=> ∃ i':Nat,r=((i':Int),l1)∧i≤i'∧i'≤j+1∧(∀ k,i≤k→k<i'→VV l1 k≤VV l m)∧(i'≤j→VV l m<VV l1 i')) ?_ ?_
 ·obtain⟨i',e1,e2,e3,e4,e5⟩:=zu5 (l:=l1) (j:=j) (f:=fun(s2:Int×List (List Int))=>Option.bind (if decide (s2.1≤(j:Int))=true then(if(0:Int)≤(a:Int)∧(a:Int)<(s2.2.length:Int) then(if(0:Int)≤s2.1∧s2.1<(s2.2.length:Int) then
     Option.bind (Lz.f127F (s2.2.getD (a:Int).toNat kd,s2.2.getD s2.1.toNat kd)) fun(v3:Int)=>some (!decide (v3<(0:Int)),s2.2) else none) else none) else some (false,s2.2))
     fun(v3:Bool×List (List Int))=>if v3.1=true then some (.inl (IntKind.i64.wrap (s2.1+1),v3.2)) else some (.inr (s2.1,v3.2))) (fun k=> !decide (VV l1 a<VV l1 k)) (fun k hk=>by
    dsimp only
    rw[if_pos (by rw[decide_eq_true_eq];omega),if_pos (by omega),if_pos (by omega),Int.toNat_natCast,Int.toNat_natCast,xP (by first|assumption|(refine Kb.sw ?_ (by assumption)<;>first|assumption|(refine Kb.sw ?_ (by assumption)<;>first|assumption|(refine Kb.sw ?_ (by assumption)<;>assumption)))),za (by omega) (by omega)]
    simp only[Option.bind_some,zk7]
    rfl) (fun k hk=>by
    dsimp only
    rw[if_neg (by rw[decide_eq_true_eq];omega)]
    rfl) i hij
  refine⟨_,e1,i',rfl,e2,e3,fun k k1 k2=> ?_,fun h=> ?_⟩
  ·have:=e4 k k1 k2
   simp at this
   omega
  ·have:=e5 h
   simp at this
   omega
 rintro _ ⟨i',rfl,hi1,hi2,hi3,hi4⟩
 refine qR (R:=fun(r:Int×List (List Int))=> ∃ j':Nat,r=((j':Int),l1)∧j'≤j∧i'≤j'+1∧(∀ k,j'<k→k≤j→VV l m<VV l1 k)∧(i'≤j'→VV l1 j'≤VV l m)) ?_ ?_
 ·obtain⟨j',e1,e2,e3,e4,e5⟩:=zn1 (l:=l1) (i:=i') (f:=fun(s3:Int×List (List Int))=>Option.bind (if decide ((i':Int)≤s3.1)=true then(if(0:Int)≤(a:Int)∧(a:Int)<(s3.2.length:Int) then(if(0:Int)≤s3.1∧s3.1<(s3.2.length:Int) then
     Option.bind (Lz.f127F (s3.2.getD (a:Int).toNat kd,s3.2.getD s3.1.toNat kd)) fun(v4:Int)=>some (decide (v4<(0:Int)),s3.2) else none) else none) else some (false,s3.2))
     fun(v4:Bool×List (List Int))=>if v4.1=true then some (.inl (IntKind.i64.wrap (s3.1 - 1),v4.2)) else some (.inr (s3.1,v4.2))) (J:=j) (fun k=>decide (VV l1 a<VV l1 k)) (by omega) (fun k hk hkJ=>by
    dsimp only
    rw[if_pos (by rw[decide_eq_true_eq];omega),if_pos (by omega),if_pos (by omega),Int.toNat_natCast,Int.toNat_natCast,xP (by first|assumption|(refine Kb.sw ?_ (by assumption)<;>first|assumption|(refine Kb.sw ?_ (by assumption)<;>first|assumption|(refine Kb.sw ?_ (by assumption)<;>assumption)))),za (by omega) (by omega),show(k:Int) - 1=((k - 1:Nat):Int) by omega]
    simp only[Option.bind_some,zk7]) (fun k hk=>by
    dsimp only
    rw[if_neg (by rw[decide_eq_true_eq];omega)]
    rfl) j hi2 (Nat.le_refl _)
  refine⟨_,e1,j',rfl,e2,e3,fun k k1 k2=> ?_,fun h=> ?_⟩
  ·have:=e4 k k1 k2
   simp at this
   omega
  ·have:=e5 h
   simp at this
   omega
 rintro _ ⟨j',rfl,hj1,hj2,hj3,hj4⟩
 dsimp only
 by_cases hgt:j'<i'
 ·rw[if_pos (by rw[decide_eq_true_eq];omega)]
  right
  refine⟨_,rfl,i',l1,rfl,hS,by omega,by omega,fun k k1 k2=> ?_,fun k k1 k2=> ?_⟩
  ·by_cases hk:k<i
   ·exact hlo k k1 hk
   ·exact hi3 k (by omega) k2
  ·by_cases hk:j<k
   ·exact hhi k hk k2
   ·exact hj3 k (by omega) (by omega)
 ·rw[if_neg (by rw[decide_eq_true_eq];omega),if_pos (by omega),if_pos (by omega),if_pos (by omega),if_pos (by rw[List.length_set];omega),Int.toNat_natCast,Int.toNat_natCast,za (by omega) (by omega),za (by omega) (by omega)]
  have hne:i'<j':=by
   by_cases he:i'=j'
   ·subst he
    have h1:=hi4 (by omega)
    have h2:=hj4 (by omega)
    omega
   ·omega
  left
  have hs:=fun k=>xZ (l:=l1) (i:=i') (j:=j') (by omega) (by omega) k
  refine⟨_,rfl,⟨i'+1,j' - 1,swp kd l1 i' j',by rw[show(j':Int) - 1=((j' - 1:Nat):Int) by omega];rfl,by omega,by omega,by omega, .step hS (by omega) (by omega) (by omega) (by omega) (by omega),fun k k1 k2=> ?_,fun k k1 k2=> ?_⟩,by
   show(((j':Int) - 1)+1 - ((i':Int)+1)).toNat<((j:Int)+1 - (i:Int)).toNat
   omega⟩
  ·rw[hs k,if_neg (by omega)]
   by_cases hk:k=i'
   ·rw[if_pos hk];exact hj4 (by omega)
   ·rw[if_neg hk]
    by_cases hk2:k<i
    ·exact hlo k k1 hk2
    ·exact hi3 k (by omega) (by omega)
  ·rw[hs k]
   by_cases hk:k=j'
   ·rw[if_pos hk];exact hi4 (by omega)
   ·rw[if_neg hk,if_neg (by omega)]
    by_cases hk2:j<k
    ·exact hhi k hk2 k2
    ·exact hj3 k (by omega) (by omega)
theorem z0t {a b m:Nat} {l:List (List Int)} (ham:a≤m) (hmb:m<b) (hb:b≤l.length) (hl:l.length≤100000) (hk:Kb l:=by first|assumption|(refine Kb.sw ?_ (by assumption)<;>first|assumption|(refine Kb.sw ?_ (by assumption)<;>first|assumption|(refine Kb.sw ?_ (by assumption)<;>assumption)))): ∃ (i:Nat) (w:Bool) (l':List (List Int)),Lz.f158F ((a:Int),(b:Int),(m:Int),l)=some ((i:Int),w,l')∧Sw kd a b l l'∧a≤i∧i<b∧
  (∀ k,a≤k→k<i→VV l' k≤VV l' i)∧(∀ k,i≤k→k<b→VV l' i≤VV l' k):=by
 suffices hh: ∃ r,Lz.f158F ((a:Int),(b:Int),(m:Int),l)=some r∧ ∃ (i:Nat) (w:Bool) (l':List (List Int)),r=((i:Int),w,l')∧Sw kd a b l l'∧a≤i∧i<b∧
   (∀ k,a≤k→k<i→VV l' k≤VV l' i)∧(∀ k,i≤k→k<b→VV l' i≤VV l' k) by
  obtain⟨r,h1,i,w,l',rfl,h2⟩:=hh
  exact⟨i,w,l',h1,h2⟩
 unfold Lz.f158F
 dsimp only
 rw[if_pos (by omega),if_pos (by omega),if_pos (by omega),if_pos (by rw[List.length_set];omega),Int.toNat_natCast,Int.toNat_natCast,za (x:=(a:Int)+1) (by omega) (by omega),za (x:=(b:Int) - 1) (by omega) (by omega)]
 have hsw:(l.set a (l.getD m kd)).set m (l.getD a kd)=swp kd l a m:=rfl
 rw[hsw,show(a:Int)+1=((a+1:Nat):Int) by omega,show(b:Int) - 1=((b - 1:Nat):Int) by omega]
 have hS0:Sw kd a b l (swp kd l a m):=Sw.one (by omega) (by omega) (by omega) (by omega) (by omega)
 have hlen0:(swp kd l a m).length=l.length:=zcg _ _ _
 generalize swp kd l a m=l0 at*
 have up: ∀ (J:Nat) (l1:List (List Int)) (i0:Nat),l1.length=l.length→Kb l1→J<b→i0≤J+1→a<i0→ ∃ i:Nat,iter (fun(s4:Int×List (List Int))=>Option.bind (if decide (s4.1≤(J:Int))=true then(if(0:Int)≤s4.1∧s4.1<(s4.2.length:Int) then(if(0:Int)≤(a:Int)∧(a:Int)<(s4.2.length:Int) then
     Option.bind (Lz.f127F (s4.2.getD s4.1.toNat kd,s4.2.getD a kd)) fun(v5:Int)=>some (decide (v5<(0:Int)),s4.2) else none) else none) else some (false,s4.2))
     fun(v5:Bool×List (List Int))=>if v5.1=true then some (.inl (IntKind.i64.wrap (s4.1+1),v5.2)) else some (.inr (s4.1,v5.2))) ((i0:Int),l1)=some ((i:Int),l1)∧i0≤i∧i≤J+1∧(∀ k,i0≤k→k<i→VV l1 k<VV l1 a)∧(i≤J→VV l1 a≤VV l1 i):=by
  intro J l1 i0 hl1 hkl hJ h0 ha0
  obtain⟨i,e1,e2,e3,e4,e5⟩:=zu5 (l:=l1) (j:=J) (f:=fun(s4:Int×List (List Int))=>Option.bind (if decide (s4.1≤(J:Int))=true then(if(0:Int)≤s4.1∧s4.1<(s4.2.length:Int) then(if(0:Int)≤(a:Int)∧(a:Int)<(s4.2.length:Int) then
     Option.bind (Lz.f127F (s4.2.getD s4.1.toNat kd,s4.2.getD a kd)) fun(v5:Int)=>some (decide (v5<(0:Int)),s4.2) else none) else none) else some (false,s4.2))
     fun(v5:Bool×List (List Int))=>if v5.1=true then some (.inl (IntKind.i64.wrap (s4.1+1),v5.2)) else some (.inr (s4.1,v5.2))) (fun k=>decide (VV l1 k<VV l1 a)) (fun k hk=>by
    dsimp only
    rw[if_pos (by rw[decide_eq_true_eq];omega),if_pos (by omega),if_pos (by omega),Int.toNat_natCast,xP (by first|assumption|(refine Kb.sw ?_ (by assumption)<;>first|assumption|(refine Kb.sw ?_ (by assumption)<;>first|assumption|(refine Kb.sw ?_ (by assumption)<;>assumption)))),za (by omega) (by omega)]
    simp only[Option.bind_some,zk7]
    rfl) (fun k hk=>by
    dsimp only
    rw[if_neg (by rw[decide_eq_true_eq];omega)]
    rfl) i0 h0
  refine⟨i,e1,e2,e3,fun k k1 k2=> ?_,fun h=> ?_⟩
  ·have:=e4 k k1 k2
   simpa using this
  ·have:=e5 h
   simpa using this
 have down: ∀ (i:Nat) (l1:List (List Int)) (j0:Nat),l1.length=l.length→Kb l1→j0<b→i≤j0+1→a<i→ ∃ j:Nat,iter (fun(s5:Int×List (List Int))=>Option.bind (if decide ((i:Int)≤s5.1)=true then(if(0:Int)≤s5.1∧s5.1<(s5.2.length:Int) then(if(0:Int)≤(a:Int)∧(a:Int)<(s5.2.length:Int) then
     Option.bind (Lz.f127F (s5.2.getD s5.1.toNat kd,s5.2.getD a kd)) fun(v6:Int)=>some (!decide (v6<(0:Int)),s5.2) else none) else none) else some (false,s5.2))
     fun(v6:Bool×List (List Int))=>if v6.1=true then some (.inl (IntKind.i64.wrap (s5.1 - 1),v6.2)) else some (.inr (s5.1,v6.2))) ((j0:Int),l1)=some ((j:Int),l1)∧j≤j0∧i≤j+1∧(∀ k,j<k→k≤j0→VV l1 a≤VV l1 k)∧(i≤j→VV l1 j<VV l1 a):=by
  intro i l1 j0 hl1 hkl hJ h0 ha0
  obtain⟨j',e1,e2,e3,e4,e5⟩:=zn1 (l:=l1) (i:=i) (J:=j0) (f:=fun(s5:Int×List (List Int))=>Option.bind (if decide ((i:Int)≤s5.1)=true then(if(0:Int)≤s5.1∧s5.1<(s5.2.length:Int) then(if(0:Int)≤(a:Int)∧(a:Int)<(s5.2.length:Int) then
     Option.bind (Lz.f127F (s5.2.getD s5.1.toNat kd,s5.2.getD a kd)) fun(v6:Int)=>some (!decide (v6<(0:Int)),s5.2) else none) else none) else some (false,s5.2))
     fun(v6:Bool×List (List Int))=>if v6.1=true then some (.inl (IntKind.i64.wrap (s5.1 - 1),v6.2)) else some (.inr (s5.1,v6.2))) (fun k=> !decide (VV l1 k<VV l1 a)) (by omega) (fun k hk hkJ=>by
    dsimp only
    rw[if_pos (by rw[decide_eq_true_eq];omega),if_pos (by omega),if_pos (by omega),Int.toNat_natCast,xP (by first|assumption|(refine Kb.sw ?_ (by assumption)<;>first|assumption|(refine Kb.sw ?_ (by assumption)<;>first|assumption|(refine Kb.sw ?_ (by assumption)<;>assumption)))),za (by omega) (by omega),show(k:Int) - 1=((k - 1:Nat):Int) by omega]
    simp only[Option.bind_some,zk7]) (fun k hk=>by
    dsimp only
    rw[if_neg (by rw[decide_eq_true_eq];omega)]
    rfl) j0 h0 (Nat.le_refl _)
  refine⟨j',e1,e2,e3,fun k k1 k2=> ?_,fun h=> ?_⟩
  ·have:=e4 k k1 k2
   simpa using this
  ·have:=e5 h
   simpa using this
 obtain⟨i1,u1,u2,u3,u4,u5⟩:=up (b - 1) l0 (a+1) hlen0 (by first|assumption|(refine Kb.sw ?_ (by assumption)<;>first|assumption|(refine Kb.sw ?_ (by assumption)<;>first|assumption|(refine Kb.sw ?_ (by assumption)<;>assumption)))) (by omega) (by omega) (by omega)
 rw[u1]
 simp only[Option.bind_some]
 obtain⟨j1,d1,d2,d3,d4,d5⟩:=down i1 l0 (b - 1) hlen0 (by first|assumption|(refine Kb.sw ?_ (by assumption)<;>first|assumption|(refine Kb.sw ?_ (by assumption)<;>first|assumption|(refine Kb.sw ?_ (by assumption)<;>assumption)))) (by omega) (by omega) (by omega)
 rw[d1]
 simp only[Option.bind_some]
 have fin: ∀ (j:Nat) (l1:List (List Int)),Sw kd (a+1) b l0 l1→a≤j→j<b→(∀ k,a<k→k≤j→VV l1 k≤VV l1 a)→(∀ k,j<k→k<b→VV l1 a≤VV l1 k)→
   Sw kd a b l (swp kd l1 j a)∧(∀ k,a≤k→k<j→VV (swp kd l1 j a) k≤VV (swp kd l1 j a) j)∧(∀ k,j≤k→k<b→VV (swp kd l1 j a) j≤VV (swp kd l1 j a) k):=by
  intro j l1 hS haj hjb hlo hhi
  have hlen:l1.length=l.length:=by rw[hS.len,hlen0]
  have hs:=fun k=>xZ (l:=l1) (i:=j) (j:=a) (by omega) (by omega) k
  have hvj:VV (swp kd l1 j a) j=VV l1 a:=by
   rw[hs j]
   by_cases h:j=a
   ·rw[if_pos h,h]
   ·rw[if_neg h,if_pos rfl]
  refine⟨.step (hS0.trans (hS.mono (by omega) (by omega) (by omega))) (by omega) (by omega) (by omega) (by omega) (by omega),fun k k1 k2=> ?_,fun k k1 k2=> ?_⟩
  ·rw[hvj,hs k]
   by_cases hk:k=a
   ·rw[if_pos hk];exact hlo j (by omega) (Nat.le_refl _)
   ·rw[if_neg hk,if_neg (by omega)];exact hlo k (by omega) (by omega)
  ·rw[hvj]
   by_cases hk:k=j
   ·subst hk;rw[hvj];exact Int.le_refl _
   ·rw[hs k,if_neg (by omega),if_neg hk];exact hhi k (by omega) k2
 by_cases hgt:j1<i1
 ·rw[if_pos (by rw[decide_eq_true_eq];omega),if_pos (by omega),if_pos (by omega),if_pos (by omega),if_pos (by rw[List.length_set];omega),Int.toNat_natCast]
  obtain⟨q1,q2,q3⟩:=fin j1 l0 (.refl _) (by omega) (by omega) (fun k k1 k2=>Int.le_of_lt (u4 k (by omega) (by omega))) (fun k k1 k2=>d4 k k1 (by omega))
  exact⟨_,rfl,j1,_,_,rfl,q1,by omega,by omega,q2,q3⟩
 rw[if_neg (by rw[decide_eq_true_eq];omega),if_pos (by omega),if_pos (by omega),if_pos (by omega),if_pos (by rw[List.length_set];omega),Int.toNat_natCast,Int.toNat_natCast,za (x:=(i1:Int)+1) (by omega) (by omega),za (x:=(j1:Int) - 1) (by omega) (by omega)]
 have hne1:i1<j1:=by
  by_cases he:i1=j1
  ·subst he
   have h1:=u5 (by omega)
   have h2:=d5 (by omega)
   omega
  ·omega
 have hs1:=fun k=>xZ (l:=l0) (i:=i1) (j:=j1) (by omega) (by omega) k
 refine qf (Q:=fun(r:Int×List (List Int))=> ∃ (j:Nat) (l':List (List Int)),r=((j:Int),l')∧Sw kd (a+1) b l0 l'∧a≤j∧j<b∧
   (∀ k,a<k→k≤j→VV l' k≤VV l' a)∧(∀ k,j<k→k<b→VV l' a≤VV l' k)) ?_ ?_
 rotate_left
 ·rintro _ ⟨j,l1,rfl,m2,m3,m4,m5,m6⟩
  have hlen:l1.length=l.length:=by rw[m2.len,hlen0]
  dsimp only
  rw[if_pos (by omega),if_pos (by omega),if_pos (by omega),if_pos (by rw[List.length_set];omega),Int.toNat_natCast]
  obtain⟨q1,q2,q3⟩:=fin j l1 m2 m3 m4 m5 m6
  exact⟨_,rfl,j,_,_,rfl,q1,m3,m4,q2,q3⟩
 ·skip
  refine zv (I:=fun(s:Int×Int×List (List Int))=> ∃ (i j:Nat) (l':List (List Int)),s=((i:Int),(j:Int),l')∧a+1≤i∧i≤j+1∧j<b∧Sw kd (a+1) b l0 l'∧
   (∀ k,a<k→k<i→VV l' k≤VV l' a)∧(∀ k,j<k→k<b→VV l' a≤VV l' k)) (fun s=>(s.2.1+1 - s.1).toNat) ?_ _ ⟨i1+1,j1 - 1,swp kd l0 i1 j1,by rw[show(j1:Int) - 1=((j1 - 1:Nat):Int) by omega];rfl,by omega,by omega,by omega, .step (.refl _) (by omega) (by omega) (by omega) (by omega) (by omega),fun k k1 k2=> ?_,fun k k1 k2=> ?_⟩
  ·rintro _ ⟨i,j,l1,rfl,hi,hij,hj,hS,hlo,hhi⟩
   dsimp only
   have hlen:l1.length=l.length:=by rw[hS.len,hlen0]
   obtain⟨i',e1,e2,e3,e4,e5⟩:=up j l1 i hlen (by first|assumption|(refine Kb.sw ?_ (by assumption)<;>first|assumption|(refine Kb.sw ?_ (by assumption)<;>first|assumption|(refine Kb.sw ?_ (by assumption)<;>assumption)))) hj hij (by omega)
   obtain⟨j',g1,g2,g3,g4,g5⟩:=down i' l1 j hlen (by first|assumption|(refine Kb.sw ?_ (by assumption)<;>first|assumption|(refine Kb.sw ?_ (by assumption)<;>first|assumption|(refine Kb.sw ?_ (by assumption)<;>assumption)))) hj e3 (by omega)
   refine qR (R:=fun r=>r=((i':Int),l1)) ⟨_,e1,rfl⟩ ?_
   rintro _ rfl
   refine qR (R:=fun r=>r=((j':Int),l1)) ⟨_,g1,rfl⟩ ?_
   rintro _ rfl
   dsimp only
   by_cases hgt:j'<i'
   ·rw[if_pos (by rw[decide_eq_true_eq];omega)]
    right
    refine⟨_,rfl,j',l1,rfl,hS,by omega,by omega,fun k k1 k2=> ?_,fun k k1 k2=> ?_⟩
    ·by_cases hk:k<i
     ·exact hlo k k1 hk
     ·exact Int.le_of_lt (e4 k (by omega) (by omega))
    ·by_cases hk:j<k
     ·exact hhi k hk k2
     ·exact g4 k k1 (by omega)
   ·rw[if_neg (by rw[decide_eq_true_eq];omega),if_pos (by omega),if_pos (by omega),if_pos (by omega),if_pos (by rw[List.length_set];omega),Int.toNat_natCast,Int.toNat_natCast,za (by omega) (by omega),za (by omega) (by omega)]
    have hne:i'<j':=by
     by_cases he:i'=j'
     ·subst he
      have h1:=e5 (by omega)
      have h2:=g5 (by omega)
      omega
     ·omega
    left
    have hs:=fun k=>xZ (l:=l1) (i:=i') (j:=j') (by omega) (by omega) k
    have hva:VV (swp kd l1 i' j') a=VV l1 a:=by rw[hs a,if_neg (by omega),if_neg (by omega)]
    refine⟨_,rfl,⟨i'+1,j' - 1,swp kd l1 i' j',by rw[show(j':Int) - 1=((j' - 1:Nat):Int) by omega];rfl,by omega,by omega,by omega, .step hS (by omega) (by omega) (by omega) (by omega) (by omega),fun k k1 k2=> ?_,fun k k1 k2=> ?_⟩,by
     show(((j':Int) - 1)+1 - ((i':Int)+1)).toNat<((j:Int)+1 - (i:Int)).toNat
     omega⟩
    ·rw[hva,hs k,if_neg (by omega)]
     by_cases hk:k=i'
     ·rw[if_pos hk];exact Int.le_of_lt (g5 (by omega))
     ·rw[if_neg hk]
      by_cases hk2:k<i
      ·exact hlo k k1 hk2
      ·exact Int.le_of_lt (e4 k (by omega) (by omega))
    ·rw[hva,hs k]
     by_cases hk:k=j'
     ·rw[if_pos hk];exact e5 (by omega)
     ·rw[if_neg hk,if_neg (by omega)]
      by_cases hk2:j<k
      ·exact hhi k hk2 k2
      ·exact g4 k (by omega) (by omega)
  ·rw[hs1 a,if_neg (by omega),if_neg (by omega),hs1 k,if_neg (by omega)]
   by_cases hk:k=i1
   ·rw[if_pos hk];exact Int.le_of_lt (d5 (by omega))
   ·rw[if_neg hk];exact Int.le_of_lt (u4 k (by omega) (by omega))
  ·rw[hs1 a,if_neg (by omega),if_neg (by omega),hs1 k]
   by_cases hk:k=j1
   ·rw[if_pos hk];exact u5 (by omega)
   ·rw[if_neg hk,if_neg (by omega)];exact d4 k (by omega) (by omega)
def zvq (a b:Nat) (l:List (List Int)):Prop:=a=0∨ ∀ k,a≤k→k<b→VV l (a - 1)≤VV l k
theorem zvq.sw {a b:Nat} {l l':List (List Int)} (h:zvq a b l) (hS:Sw kd a b l l'):zvq a b l':=by
 rcases Nat.eq_zero_or_pos a with h0|h0
 ·exact .inl h0
 ·right
  have h1:=h.resolve_left (by omega)
  have h2:VV l' (a - 1)=VV l (a - 1):=hS.vout (key:=kk) (k:=a - 1) (.inl (by omega))
  rw[h2]
  exact hS.vall (key:=kk) (fun x=>VV l (a - 1)≤x) h1
theorem Srt.sw {a i b:Nat} {l l':List (List Int)} (h:Srt kd kk a i l) (hS:Sw kd i b l l'):Srt kd kk a i l':=by
 intro x h1 h2
 rw[hS.vout (k:=x) (.inl (by omega)),hS.vout (k:=x+1) (.inl (by omega))]
 exact h x h1 h2
theorem z0r {a b:Nat} {l:List (List Int)} (hab:a<b) (hb:b≤l.length) (hl:l.length≤100000) (hpre:zvq a b l) (hk:Kb l:=by first|assumption|(refine Kb.sw ?_ (by assumption)<;>first|assumption|(refine Kb.sw ?_ (by assumption)<;>first|assumption|(refine Kb.sw ?_ (by assumption)<;>assumption)))): ∃ (w:Bool) (l':List (List Int)),Lz.f156F ((a:Int),(b:Int),l)=some (w,l')∧Sw kd a b l l'∧(w=true→Srt kd kk a b l'):=by
 suffices hh: ∃ r,Lz.f156F ((a:Int),(b:Int),l)=some r∧Sw kd a b l r.2∧(r.1=true→Srt kd kk a b r.2) by
  obtain⟨⟨w,l'⟩,h1,h2⟩:=hh
  exact⟨w,l',h1,h2⟩
 unfold Lz.f156F
 dsimp only
 refine qf (Q:=fun(e:List (List Int) ⊕ Bool×List (List Int))=>(∃ l',e= .inl l'∧Sw kd a b l l')∨ ∃ w l',e= .inr (w,l')∧Sw kd a b l l'∧(w=true→Srt kd kk a b l'))
  (zv (I:=fun(s:Int×Int×List (List Int))=> ∃ (i j:Nat) (l':List (List Int)),s=((i:Int),(j:Int),l')∧a+1≤i∧i≤b∧j≤5∧Sw kd a b l l'∧Srt kd kk a i l') (fun s=>(5 - s.2.1).toNat) ?_ _
   ⟨a+1,0,l,by rw[za (by omega) (by omega)];rfl,Nat.le_refl _,by omega,by omega, .refl _,fun x h1 h2=>by omega⟩) ?_
 rotate_left
 ·rintro _ (⟨l',rfl,h1⟩|⟨w,l',rfl,h1,h2⟩)
  ·exact⟨_,rfl,h1,fun h=>by cases h⟩
  ·exact⟨_,rfl,h1,h2⟩
 rintro _ ⟨i,j,l1,rfl,hi,hib,hj,hS,hSr⟩
 dsimp only
 have hlen:=hS.len
 have hpre1:=hpre.sw hS
 by_cases hj5:j<5
 ·rw[if_pos (by rw[decide_eq_true_eq];omega)]
  refine qR (R:=fun(r:Int×List (List Int))=> ∃ i':Nat,r=((i':Int),l1)∧i≤i'∧i'≤b∧Srt kd kk a i' l1∧(i'<b→VV l1 i'<VV l1 (i' - 1))) ?_ ?_
  ·refine zv (I:=fun(s:Int×List (List Int))=> ∃ i':Nat,s=((i':Int),l1)∧i≤i'∧i'≤b∧Srt kd kk a i' l1) (fun s=>((b:Int) - s.1).toNat) ?_ _ ⟨i,rfl,Nat.le_refl _,hib,hSr⟩
   rintro _ ⟨i',rfl,h1,h2,h3⟩
   dsimp only
   by_cases hb':i'<b
   ·rw[if_pos (by rw[decide_eq_true_eq];omega),if_pos (by omega),za (by omega) (by omega),if_pos (by omega),Int.toNat_natCast,show((i':Int) - 1).toNat=i' - 1 by omega,xP (by first|assumption|(refine Kb.sw ?_ (by assumption)<;>first|assumption|(refine Kb.sw ?_ (by assumption)<;>first|assumption|(refine Kb.sw ?_ (by assumption)<;>assumption))))]
    simp only[Option.bind_some]
    by_cases hlt:VV l1 i'<VV l1 (i' - 1)
    ·rw[if_neg (by simp;omega)]
     exact .inr ⟨_,rfl,i',rfl,h1,h2,h3,fun _=>hlt⟩
    ·rw[if_pos (by simp;omega),za (by omega) (by omega)]
     refine .inl ⟨_,rfl,⟨i'+1,rfl,by omega,by omega,fun x x1 x2=> ?_⟩,by show((b:Int) - ((i':Int)+1)).toNat<((b:Int) - (i':Int)).toNat;omega⟩
     by_cases hx:x+1<i'
     ·exact h3 x x1 hx
     ·have:i' - 1=x:=by omega
      rw[this] at hlt
      have hx':x+1=i':=by omega
      rw[hx']
      show VV l1 x≤VV l1 i'
      omega
   ·rw[if_neg (by rw[decide_eq_true_eq];omega)]
    simp only[Option.bind_some,Bool.false_eq_true,if_false]
    exact .inr ⟨_,rfl,i',rfl,h1,h2,h3,fun h=>absurd h hb'⟩
  rintro _ ⟨i',rfl,hi1,hi2,hi3,hi4⟩
  dsimp only
  by_cases hend:i'=b
  ·subst hend
   rw[if_pos (by simp)]
   exact .inr ⟨_,rfl, .inr ⟨_,_,rfl,hS,fun _=>hi3⟩⟩
  rw[if_neg (by rw[beq_iff_eq];omega),za (x:=(b:Int) - (a:Int)) (by omega) (by omega)]
  by_cases h50:b - a<50
  ·rw[if_pos (by rw[decide_eq_true_eq];omega)]
   exact .inr ⟨_,rfl, .inr ⟨_,_,rfl,hS,fun h=>by cases h⟩⟩
  have hlt:=hi4 (by omega)
  rw[if_neg (by rw[decide_eq_true_eq];omega),za (x:=(i':Int) - 1) (by omega) (by omega),if_pos (by omega),if_pos (by omega),if_pos (by omega),if_pos (by rw[List.length_set];omega),Int.toNat_natCast,show((i':Int) - 1).toNat=i' - 1 by omega,za (x:=(i':Int) - (a:Int)) (by omega) (by omega),za (x:=(b:Int) - (i':Int)) (by omega) (by omega),za (x:=(i':Int)+1) (by omega) (by omega)]
  have hsw:(l1.set i' (l1.getD (i' - 1) kd)).set (i' - 1) (l1.getD i' kd)=swp kd l1 i' (i' - 1):=rfl
  rw[hsw]
  have hs:=fun k=>xZ (l:=l1) (i:=i') (j:=i' - 1) (by omega) (by omega) k
  have hS2:Sw kd a b l (swp kd l1 i' (i' - 1)):= .step hS (by omega) (by omega) (by omega) (by omega) (by omega)
  have hl2:(swp kd l1 i' (i' - 1)).length=l.length:=by rw[zcg];omega
  have hJ0:InsJ a (i' - 1) (swp kd l1 i' (i' - 1)) (i' - 1):=⟨by omega,fun x y x1 x2 x3 x4 x5=>by
   rw[hs x,hs y,if_neg (by omega),if_neg (by omega),if_neg (by omega),if_neg (by omega)]
   exact hi3.le x1 (by omega) (by omega),fun y y1 y2=>by omega⟩
  generalize swp kd l1 i' (i' - 1)=l2 at*
  refine qR (R:=fun(r:List (List Int))=>Sw kd a b l r∧Srt kd kk a i' r) ?_ ?_
  ·by_cases hia:2≤i' - a
   ·rw[if_pos (by rw[decide_eq_true_eq];omega)]
    refine qf (zv (I:=fun(s:Int×List (List Int))=> ∃ (k:Nat) (l':List (List Int)),s=((k:Int),l')∧InsJ a (i' - 1) l' k∧Sw kd a b l l') (Q:=fun r=>Sw kd a b l r∧Srt kd kk a i' r) (fun s=>s.1.toNat) ?_ _ ⟨i' - 1,l2,by rw[show((i' - 1:Nat):Int)=(i':Int) - 1 by omega],hJ0,hS2⟩) fun e he=>⟨_,rfl,he⟩
    rintro _ ⟨k,l3,rfl,hJ,hS3⟩
    dsimp only
    have hlen3:=hS3.len
    have h2:=hJ.le
    have hpre3:=hpre.sw hS3
    have done:(k=a∨VV l3 (k - 1)≤VV l3 k)→Srt kd kk a i' l3:=fun h=>by
     have:=hJ.done h
     rwa [show i' - 1+1=i' by omega] at this
    by_cases hk1:1≤k
    ·rw[if_pos (by rw[decide_eq_true_eq];omega),if_pos (by omega),za (by omega) (by omega),if_pos (by omega),Int.toNat_natCast,show((k:Int) - 1).toNat=k - 1 by omega,xP (by first|assumption|(refine Kb.sw ?_ (by assumption)<;>first|assumption|(refine Kb.sw ?_ (by assumption)<;>first|assumption|(refine Kb.sw ?_ (by assumption)<;>assumption))))]
     simp only[Option.bind_some]
     by_cases hlt3:VV l3 k<VV l3 (k - 1)
     ·have hka:a<k:=by
       rcases Nat.lt_or_ge a k with h|h
       ·exact h
       ·have:k=a:=by omega
        subst this
        have:=hpre3.resolve_left (by omega) k (Nat.le_refl _) (by omega)
        omega
      rw[if_neg (by simp;omega),if_pos (by omega),if_pos (by omega),if_pos (by omega),if_pos (by rw[List.length_set];omega)]
      exact .inl ⟨_,rfl,⟨k - 1,swp kd l3 k (k - 1),by rw[show((k:Int) - 1)=((k - 1:Nat):Int) by omega];rfl,hJ.step (by omega) hka hlt3, .step hS3 (by omega) (by omega) (by omega) (by omega) (by omega)⟩,by show((k:Int) - 1).toNat<(k:Int).toNat;omega⟩
     ·rw[if_pos (by simp;omega)]
      exact .inr ⟨_,rfl,hS3,done (.inr (by omega))⟩
    ·rw[if_neg (by rw[decide_eq_true_eq];omega)]
     exact .inr ⟨_,rfl,hS3,done (.inl (by omega))⟩
   ·rw[if_neg (by rw[decide_eq_true_eq];omega)]
    exact⟨_,rfl,hS2,fun x x1 x2=>by omega⟩
  rintro l3 ⟨hS3,hSr3⟩
  have hlen3:=hS3.len
  have hw:IntKind.i64.wrap ((j:Int)+1)=((j+1:Nat):Int):=by rw[za (by omega) (by omega)];omega
  rw[hw]
  by_cases hbi:2≤b - i'
  ·rw[if_pos (by rw[decide_eq_true_eq];omega)]
   refine qR (R:=fun(r:List (List Int))=>Sw kd i' b l3 r) (zv (I:=fun(s:Int×List (List Int))=> ∃ (k:Nat) (l':List (List Int)),s=((k:Int),l')∧i'+1≤k∧k≤b∧Sw kd i' b l3 l') (fun s=>((b:Int) - s.1).toNat) ?_ _ ⟨i'+1,l3,rfl,Nat.le_refl _,by omega, .refl _⟩) ?_
   ·rintro _ ⟨k,l4,rfl,k1,k2,hS4⟩
    dsimp only
    have hlen4:=hS4.len
    by_cases hkb:k<b
    ·rw[if_pos (by rw[decide_eq_true_eq];omega),if_pos (by omega),za (x:=(k:Int) - 1) (by omega) (by omega),if_pos (by omega),Int.toNat_natCast,show((k:Int) - 1).toNat=k - 1 by omega,xP (by first|assumption|(refine Kb.sw ?_ (by assumption)<;>first|assumption|(refine Kb.sw ?_ (by assumption)<;>first|assumption|(refine Kb.sw ?_ (by assumption)<;>assumption))))]
     simp only[Option.bind_some]
     by_cases hlt3:VV l4 k<VV l4 (k - 1)
     ·rw[if_neg (by simp;omega),if_pos (by omega),if_pos (by omega),if_pos (by omega),if_pos (by rw[List.length_set];omega),za (by omega) (by omega)]
      exact .inl ⟨_,rfl,⟨k+1,swp kd l4 k (k - 1),rfl,by omega,by omega, .step hS4 (by omega) (by omega) (by omega) (by omega) (by omega)⟩,by show((b:Int) - ((k:Int)+1)).toNat<((b:Int) - (k:Int)).toNat;omega⟩
     ·rw[if_pos (by simp;omega)]
      exact .inr ⟨_,rfl,hS4⟩
    ·rw[if_neg (by rw[decide_eq_true_eq];omega)]
     exact .inr ⟨_,rfl,hS4⟩
   ·intro l4 hS4
    left
    exact⟨_,rfl,⟨i',j+1,l4,rfl,by omega,by omega,by omega,hS3.trans (hS4.mono (by omega) (Nat.le_refl _) (by omega)),hSr3.sw hS4⟩,by show(5 - ((j+1:Nat):Int)).toNat<(5 - (j:Int)).toNat;omega⟩
  ·rw[if_neg (by rw[decide_eq_true_eq];omega)]
   left
   exact⟨_,rfl,⟨i',j+1,l3,rfl,by omega,by omega,by omega,hS3,hSr3⟩,by show(5 - ((j+1:Nat):Int)).toNat<(5 - (j:Int)).toNat;omega⟩
 ·rw[if_neg (by rw[decide_eq_true_eq];omega)]
  exact .inr ⟨_,rfl, .inl ⟨_,rfl,hS⟩⟩
def Oth (A B a b:Nat) (l:List (List Int)):Prop:= ∀ x y,A≤x→x<y→y<B→(x<a∨b≤y)→VV l x≤VV l y
theorem Oth.sw {A B a b:Nat} {l l':List (List Int)} (h:Oth A B a b l) (hAa:A≤a) (hbB:b≤B) (hS:Sw kd a b l l'):Oth A B a b l':=by
 have hout: ∀ k,k<a∨b≤k→VV l' k=VV l k:=fun k hk=>hS.vout (key:=kk) hk
 intro x y h1 h2 h3 h4
 rcases h4 with h4|h4
 ·rw[hout x (.inl h4)]
  by_cases hy:y<a∨b≤y
  ·rw[hout y hy];exact h x y h1 h2 h3 (.inl h4)
  ·refine hS.vall (key:=kk) (fun v=>VV l x≤v) (fun k k1 k2=>h x k h1 (by omega) (by omega) (.inl h4)) y (by omega) (by omega)
 ·rw[hout y (.inr h4)]
  by_cases hx:x<a∨b≤x
  ·rw[hout x hx];exact h x y h1 h2 h3 (.inr h4)
  ·refine hS.vall (key:=kk) (fun v=>v≤VV l y) (fun k k1 k2=>h k y (by omega) (by omega) h3 (.inr h4)) x (by omega) (by omega)
theorem Oth.done {A B a b:Nat} {l:List (List Int)} (h:Oth A B a b l) (hS:Srt kd kk a b l):Srt kd kk A B l:=by
 intro x h1 h2
 by_cases hx:x<a∨b≤x+1
 ·exact h x (x+1) h1 (by omega) h2 hx
 ·exact hS x (by omega) (by omega)
theorem Oth.pre {A B a b:Nat} {l:List (List Int)} (h:Oth A B a b l) (hp:zvq A B l) (hAa:A≤a) (hbB:b≤B):zvq a b l:=by
 rcases Nat.eq_zero_or_pos a with h0|h0
 ·exact .inl h0
 ·right
  intro k h1 h2
  by_cases haA:a=A
  ·subst haA;exact hp.resolve_left (by omega) k h1 (by omega)
  ·exact h (a - 1) k (by omega) (by omega) (by omega) (.inl (by omega))
theorem zyt: ∀ n:Nat,n<1100→ ∃ v,Lz.f150F (IntKind.u64.wrap (n:Int))=some v∧(12<n→v≠0):=by
 have h: ∀ n:Nat,n<1100→(match Lz.f150F (IntKind.u64.wrap (n:Int)) with|some v=>decide (12<n→v≠0)|none=>false)=true:=by decide+kernel
 intro n hn
 have:=h n hn
 split at this
 ·rename_i v hv;exact⟨v,hv,of_decide_eq_true this⟩
 ·cases this
theorem zuc: ∀ (n:Nat) {A B:Nat} {l:List (List Int)} (lim:Int),A≤B→B - A<n→B≤l.length→l.length<1100→zvq A B l→Kb l→
  ∃ l',Lz.f149N n ((A:Int),(B:Int),lim,l)=some l'∧Sw kd A B l l'∧Srt kd kk A B l'
 |0,_,_,_,_,_,h,_,_,_,_=>by omega
 |n+1,A,B,l,lim,hAB,hn,hB,hl,hpre,hk=>by
  show ∃ l',Lz.f149S (Lz.f149N n) _=some l'∧_
  unfold Lz.f149S
  dsimp only
  refine qf (Q:=fun l'=>Sw kd A B l l'∧Srt kd kk A B l') (zv (I:=fun(s:Int×Int×Bool×Bool×Int×List (List Int))=> ∃ (a b:Nat) (l':List (List Int)),s.2.1=(a:Int)∧s.2.2.2.2.1=(b:Int)∧s.2.2.2.2.2=l'∧A≤a∧a≤b∧b≤B∧Sw kd A B l l'∧Oth A B a b l')
   (fun s=>(s.2.2.2.2.1 - s.2.1).toNat) ?_ _ ⟨A,B,l,rfl,rfl,rfl,Nat.le_refl _,hAB,Nat.le_refl _, .refl _,fun x y h1 h2 h3 h4=>by omega⟩) fun l' h=>⟨_,rfl,h⟩
  rintro ⟨lm,s1,wb,wp,s2,s3⟩ ⟨a,b,l1,h1,h2,h3,hAa,hab,hbB,hS,hO⟩
  dsimp only at h1 h2 h3 ⊢
  subst h1
  subst h2
  subst h3
  have hlen:=hS.len
  have hp1:=hpre.sw hS
  rw[za (x:=(b:Int) - (a:Int)) (by omega) (by omega)]
  have mono: ∀ {l2 l3:List (List Int)},l2.length=l.length→Sw kd a b l2 l3→Sw kd A B l2 l3:=fun hl2 h=>h.mono hAa hbB (by omega)
  have fin: ∀ {l2:List (List Int)},Sw kd a b s3 l2→Srt kd kk a b l2→Sw kd A B l l2∧Srt kd kk A B l2:=fun h1 h2=>⟨hS.trans (mono hlen h1),(hO.sw hAa hbB h1).done h2⟩
  by_cases h12:b - a≤12
  ·rw[if_pos (by rw[decide_eq_true_eq];omega)]
   obtain⟨l2,e1,e2,e3⟩:=z0m (a:=a) (b:=b) (l:=s3) hab (by omega) (by omega)
   rw[e1]
   exact .inr ⟨_,rfl,fin e2 e3⟩
  rw[if_neg (by rw[decide_eq_true_eq];omega)]
  by_cases hlm:lm=0
  ·rw[if_pos (by rw[beq_iff_eq];exact hlm)]
   obtain⟨l2,e1,e2,e3⟩:=z0n (a:=a) (b:=b) (l:=s3) (by omega) (by omega) (by omega)
   rw[e1]
   exact .inr ⟨_,rfl,fin e2 e3⟩
  rw[if_neg (by rw[beq_iff_eq];exact hlm)]
  refine qR (R:=fun(r:Int×List (List Int))=>Sw kd a b s3 r.2) ?_ ?_
  ·split
   ·obtain⟨l2,e1,e2⟩:=z0o (a:=a) (b:=b) (l:=s3) (by omega) (by omega) (by omega)
    rw[e1]
    exact⟨_,rfl,e2⟩
   ·exact⟨_,rfl, .refl _⟩
  rintro ⟨lm2,l2⟩ hS2
  dsimp only at hS2 ⊢
  have hlen2:=hS2.len
  obtain⟨m,w,e1,e2,e3⟩:=z0p (a:=a) (b:=b) (l:=l2) (by omega) (by omega) (by omega)
  rw[e1]
  simp only[Option.bind_some]
  refine qR (R:=fun(r:Int×Int×List (List Int))=> ∃ m':Nat,r.1=(m':Int)∧a≤m'∧m'<b∧Sw kd a b s3 r.2.2) ?_ ?_
  ·split
   ·obtain⟨l3,g1,g2⟩:=z0q (a:=a) (b:=b) (l:=l2) (by omega) (by omega) (by omega)
    rw[g1]
    refine⟨_,rfl,b - 1 - (m - a), ?_,by omega,by omega,hS2.trans g2⟩
    dsimp only
    rw[za (x:=(b:Int) - 1) (by omega) (by omega),za (x:=(m:Int) - (a:Int)) (by omega) (by omega),za (by omega) (by omega)]
    omega
   ·exact⟨_,rfl,m,rfl,e2,e3,hS2⟩
  rintro ⟨m',w',l3⟩ ⟨m2,hm',hm1,hm2,hS3⟩
  dsimp only at hm' hS3 ⊢
  subst hm'
  have hlen3:=hS3.len
  refine qR (R:=fun(r:List (List Int) ⊕ List (List Int))=>(∃ l4,r= .inl l4∧Sw kd a b s3 l4∧Srt kd kk a b l4)∨ ∃ l4,r= .inr l4∧Sw kd a b s3 l4) ?_ ?_
  ·refine qf (Q:=fun(r:Bool×List (List Int))=>r.2=l3) ?_ ?_
   ·split
    ·split
     ·exact⟨_,rfl,rfl⟩
     ·exact⟨_,rfl,rfl⟩
    ·exact⟨_,rfl,rfl⟩
   ·rintro ⟨bb,l3'⟩ h
    dsimp only at h ⊢
    subst h
    split
    ·obtain⟨ww,l4,g1,g2,g3⟩:=z0r (a:=a) (b:=b) (l:=l3') (by omega) (by omega) (by omega) ((hO.pre hp1 hAa hbB).sw hS3)
     rw[g1]
     simp only[Option.bind_some]
     split
     ·rename_i hw
      exact⟨_,rfl, .inl ⟨_,rfl,hS3.trans g2,g3 hw⟩⟩
     ·exact⟨_,rfl, .inr ⟨_,rfl,hS3.trans g2⟩⟩
    ·exact⟨_,rfl, .inr ⟨_,rfl,hS3⟩⟩
  rintro _ (⟨l4,rfl,hS4,hSr4⟩|⟨l4,rfl,hS4⟩)
  ·exact .inr ⟨_,rfl,fin hS4 hSr4⟩
  dsimp only[Sum.elim_inr]
  have hlen4:=hS4.len
  have hO4:=hO.sw hAa hbB hS4
  have hSA4:Sw kd A B l l4:=hS.trans (mono hlen hS4)
  have hp4:=hpre.sw hSA4
  refine qR (R:=fun(r:Bool×List (List Int))=>r.2=l4∧(r.1=true→0<a∧VV l4 m2≤VV l4 (a - 1))) ?_ ?_
  ·split
   ·rename_i ha
    rw[decide_eq_true_eq] at ha
    rw[za (by omega) (by omega),if_pos (by omega),if_pos (by omega),Int.toNat_natCast,show((a:Int) - 1).toNat=a - 1 by omega,xP (by first|assumption|(refine Kb.sw ?_ (by assumption)<;>first|assumption|(refine Kb.sw ?_ (by assumption)<;>first|assumption|(refine Kb.sw ?_ (by assumption)<;>assumption))))]
    refine⟨_,rfl,rfl,fun h=>⟨by omega, ?_⟩⟩
    simp at h
    omega
   ·exact⟨_,rfl,rfl,fun h=>by cases h⟩
  rintro ⟨bb,l4'⟩ ⟨h5,hbb⟩
  dsimp only at h5 hbb ⊢
  subst h5
  have hPa:=hO4.pre hp4 hAa hbB
  cases bb with
  |true=>
   rw[if_pos rfl]
   obtain⟨ha0,hmv⟩:=hbb rfl
   obtain⟨i,l5,g1,g2,g3,g4,g5,g6,g7⟩:=z0s (a:=a) (b:=b) (m:=m2) (l:=l4') hm1 hm2 (by omega) (by omega)
   rw[g1]
   simp only[Option.bind_some]
   left
   have hall:=hPa.resolve_left (by omega)
   have hlow: ∀ k,a≤k→k<b→VV l4' m2≤VV l5 k:=g2.vall (key:=kk) (fun v=>VV l4' m2≤v) (fun k k1 k2=>by have:=hall k k1 k2;show VV l4' m2≤VV l4' k;omega)
   have hO5:=hO4.sw hAa hbB g2
   refine⟨_,rfl,⟨i,b,l5,rfl,rfl,rfl,by omega,g4,hbB,hSA4.trans (mono (by omega) g2),fun x y x1 x2 x3 x4=> ?_⟩,by show((b:Int) - (i:Int)).toNat<((b:Int) - (a:Int)).toNat;omega⟩
   by_cases hxa:x<a
   ·exact hO5 x y x1 x2 x3 (.inl hxa)
   ·by_cases hyb:b≤y
    ·exact hO5 x y x1 x2 x3 (.inr hyb)
    ·have hxi:x<i:=by omega
     have h1:=g6 x (by omega) hxi
     have h2:=hlow y (by omega) (by omega)
     omega
  |false=>
   rw[if_neg (by simp)]
   obtain⟨i,ww,l5,g1,g2,g3,g4,g5,g6⟩:=z0t (a:=a) (b:=b) (m:=m2) (l:=l4') hm1 hm2 (by omega) (by omega)
   rw[g1]
   simp only[Option.bind_some]
   have hO5:=hO4.sw hAa hbB g2
   have hlen5:=g2.len
   have hSA5:Sw kd A B l l5:=hSA4.trans (mono (by omega) g2)
   have hp5:=hpre.sw hSA5
   rw[za (x:=(i:Int) - (a:Int)) (by omega) (by omega),za (x:=(b:Int) - (i:Int)) (by omega) (by omega),za (x:=(i:Int)+1) (by omega) (by omega)]
   have around: ∀ x y,A≤x→x<y→y<B→(x<a∨b≤y∨x=i∨y=i∨(x<i∧i<y))→VV l5 x≤VV l5 y:=by
    intro x y x1 x2 x3 x4
    by_cases hxa:x<a
    ·exact hO5 x y x1 x2 x3 (.inl hxa)
    ·by_cases hyb:b≤y
     ·exact hO5 x y x1 x2 x3 (.inr hyb)
     ·rcases x4 with x4|x4|x4|x4|x4
      ·omega
      ·omega
      ·subst x4;exact g6 y (by omega) (by omega)
      ·subst x4;exact g5 x (by omega) (by omega)
      ·have h1:=g5 x (by omega) x4.1
       have h2:=g6 y (by omega) (by omega)
       omega
   split
   ·
    have hOlo:Oth A i a i l5:=fun x y x1 x2 x3 x4=>around x y x1 x2 (by omega) (by omega)
    have hpl:zvq a i l5:=by
     rcases Nat.eq_zero_or_pos a with h0|h0
     ·exact .inl h0
     ·right
      have:=(hO5.pre hp5 hAa hbB).resolve_left (by omega)
      exact fun k k1 k2=>this k k1 (by omega)
    obtain⟨l6,q1,q2,q3⟩:=zuc n (A:=a) (B:=i) (l:=l5) lm2 (by omega) (by omega) (by omega) (by omega) hpl (by first|assumption|(refine Kb.sw ?_ (by assumption)<;>first|assumption|(refine Kb.sw ?_ (by assumption)<;>first|assumption|(refine Kb.sw ?_ (by assumption)<;>assumption))))
    rw[q1]
    simp only[Option.bind_some]
    left
    have hout: ∀ k,k<a∨i≤k→VV l6 k=VV l5 k:=fun k hk=>q2.vout (key:=kk) hk
    refine⟨_,rfl,⟨i+1,b,l6,by show(i:Int)+1=((i+1:Nat):Int);omega,rfl,rfl,by omega,by omega,hbB,hSA5.trans (q2.mono (by omega) (by omega) (by omega)),fun x y x1 x2 x3 x4=> ?_⟩,by show((b:Int) - ((i:Int)+1)).toNat<((b:Int) - (a:Int)).toNat;omega⟩
    by_cases hxl:a≤x∧x<i
    ·by_cases hyl:y<i
     ·exact q3.le (by omega) (by omega) hyl
     ·rw[hout y (.inr (by omega))]
      exact q2.vall (key:=kk) (fun v=>v≤VV l5 y) (fun k k1 k2=>around k y (by omega) (by omega) x3 (by omega)) x hxl.1 hxl.2
    ·rw[hout x (by omega)]
     by_cases hyl:a≤y∧y<i
     ·exact q2.vall (key:=kk) (fun v=>VV l5 x≤v) (fun k k1 k2=>around x k (by omega) (by omega) (by omega) (by omega)) y hyl.1 hyl.2
     ·rw[hout y (by omega)]
      exact around x y x1 x2 x3 (by omega)
   ·have hpl:zvq (i+1) b l5:= .inr fun k k1 k2=>g6 k (by omega) k2
    obtain⟨l6,q1,q2,q3⟩:=zuc n (A:=i+1) (B:=b) (l:=l5) lm2 (by omega) (by omega) (by omega) (by omega) hpl (by first|assumption|(refine Kb.sw ?_ (by assumption)<;>first|assumption|(refine Kb.sw ?_ (by assumption)<;>first|assumption|(refine Kb.sw ?_ (by assumption)<;>assumption))))
    rw[show((i+1:Nat):Int)=(i:Int)+1 by omega] at q1
    rw[q1]
    simp only[Option.bind_some]
    left
    have hout: ∀ k,k<i+1∨b≤k→VV l6 k=VV l5 k:=fun k hk=>q2.vout (key:=kk) hk
    refine⟨_,rfl,⟨a,i,l6,rfl,rfl,rfl,hAa,g3,by omega,hSA5.trans (q2.mono (by omega) (by omega) (by omega)),fun x y x1 x2 x3 x4=> ?_⟩,by show((i:Int) - (a:Int)).toNat<((b:Int) - (a:Int)).toNat;omega⟩
    by_cases hxl:i+1≤x∧x<b
    ·by_cases hyl:y<b
     ·exact q3.le (by omega) (by omega) hyl
     ·rw[hout y (.inr (by omega))]
      exact q2.vall (key:=kk) (fun v=>v≤VV l5 y) (fun k k1 k2=>around k y (by omega) (by omega) x3 (by omega)) x hxl.1 hxl.2
    ·rw[hout x (by omega)]
     by_cases hyl:i+1≤y∧y<b
     ·exact q2.vall (key:=kk) (fun v=>VV l5 x≤v) (fun k k1 k2=>around x k (by omega) (by omega) (by omega) (by omega)) y hyl.1 hyl.2
     ·rw[hout y (by omega)]
      exact around x y x1 x2 x3 (by omega)
theorem zub {l:List (List Int)} (hl:l.length<1100) (hk:Kb l:=by first|assumption|(refine Kb.sw ?_ (by assumption)<;>first|assumption|(refine Kb.sw ?_ (by assumption)<;>first|assumption|(refine Kb.sw ?_ (by assumption)<;>assumption)))): ∃ l',Lz.f126F l=some l'∧l'.Perm l∧l'.Pairwise (fun x y=>kk x≤kk y):=by
 obtain⟨v,h1,_⟩:=zyt l.length hl
 unfold Lz.f126F
 rw[h1]
 simp only[Option.bind_some]
 obtain⟨l',e1,e2,e3⟩:=zuc Lz.fuel (A:=0) (B:=l.length) (l:=l) v (Nat.zero_le _) (by show l.length - 0<1000000000;omega) (Nat.le_refl _) hl (.inl rfl) hk
 have e1':Lz.f149F ((0:Int),(l.length:Int),v,l)=some l':=e1
 rw[e1']
 refine⟨l',rfl,e2.perm, ?_⟩
 have:=e2.len
 rw[← this] at e3
 exact e3.pairwise
def zbg (c:Int):Int:=if c=0 then 0 else if c=1∨c=3∨c=6 then 1 else -1
theorem zqk (c:Int):Lz.f131F c=some (zbg c):=by
 unfold Lz.f131F zbg
 by_cases h0:c=0
 ·subst h0;rfl
 by_cases h1:c=1
 ·subst h1;rfl
 by_cases h3:c=3
 ·subst h3;rfl
 by_cases h6:c=6
 ·subst h6;rfl
 simp[h0,h1,h3,h6]
theorem zin (c:Int):zbg c=0∨zbg c=1∨zbg c= -1:=by
 unfold zbg
 split
 ·exact .inl rfl
 ·split
  ·exact .inr (.inl rfl)
  ·exact .inr (.inr rfl)
def zjb (v:Int) (l:List Int) (a b:Nat):Bool:=(List.range' a (b - a)).any fun k=>zbg (l.getD k 0)==v
theorem znh (v:Int) (l:List Int) {a i:Nat} (h:a≤i):zjb v l a (i+1)=(zjb v l a i||(zbg (l.getD i 0)==v)):=by
 unfold zjb
 rw[show i+1 - a=(i - a)+1 by omega,List.range'_concat,List.any_append]
 simp only[List.any_cons,List.any_nil,Bool.or_false,Nat.one_mul]
 rw[show a+(i - a)=i by omega]
theorem zcm (v:Int) (l:List Int) {a b:Nat} (h:b≤a):zjb v l a b=false:=by
 unfold zjb
 rw[show b - a=0 by omega];rfl
def loS (a:Int):Int:=if a > 0 then a else 0
theorem zr5 (a:Int):0≤loS a:=by unfold loS;split<;>omega
theorem zsl {l:List Int} (hl:l.length≤100000) (a b:Int) (f:Bool×Bool×Int→Option ((Bool×Bool×Int) ⊕ (Bool×Bool)))
  (hf: ∀ L R (i:Nat),(i:Int)<zgn b (l.length:Int)→i<l.length→f (L,R,(i:Int))=some (.inl (L||(zbg (l.getD i 0)==0),R||(zbg (l.getD i 0)==1),((i+1:Nat):Int))))
  (hx: ∀ L R (i:Nat), ¬ (i:Int)<zgn b (l.length:Int)→f (L,R,(i:Int))=some (.inr (L,R))):
  iter f (false,false,loS a)=some (zjb 0 l (loS a).toNat (zgn b (l.length:Int)).toNat,zjb 1 l (loS a).toNat (zgn b (l.length:Int)).toNat):=by
 have h0:=zr5 a
 generalize hA:(loS a).toNat=A
 have hA':loS a=(A:Int):=by omega
 rw[hA']
 have hm:zgn b (l.length:Int)≤(l.length:Int):=by unfold zgn;split<;>omega
 generalize hM:zgn b (l.length:Int)=M at*
 suffices hh: ∃ e,iter f (false,false,(A:Int))=some e∧e=(zjb 0 l A M.toNat,zjb 1 l A M.toNat) by
  obtain⟨e,h1,h2⟩:=hh;rw[h1,h2]
 refine zv (I:=fun(s:Bool×Bool×Int)=> ∃ i:Nat,A≤i∧(i=A∨(i:Int)≤M)∧s=(zjb 0 l A i,zjb 1 l A i,(i:Int))) (fun s=>(M - s.2.2).toNat) ?_ _ ⟨A,Nat.le_refl _, .inl rfl,by rw[zcm _ _ (Nat.le_refl _),zcm _ _ (Nat.le_refl _)]⟩
 rintro _ ⟨i,hi,hi2,rfl⟩
 by_cases him:(i:Int)<M
 ·rw[hf _ _ i him (by omega)]
  refine .inl ⟨_,rfl,⟨i+1,by omega, .inr (by omega), ?_⟩, ?_⟩
  ·rw[znh 0 l hi,znh 1 l hi]
  ·show(M - ((i+1:Nat):Int)).toNat<(M - (i:Int)).toNat;omega
 ·rw[hx _ _ i him]
  refine .inr ⟨_,rfl, ?_⟩
  by_cases hAM:i=A
  ·subst hAM
   rw[zcm 0 l (Nat.le_refl _),zcm 1 l (Nat.le_refl _),zcm 0 l (by omega),zcm 1 l (by omega)]
  ·rw[show i=M.toNat by omega]
theorem z0d {l:List Int} (hl:l.length≤100000) (a b:Int):Lz.sd0F (l,a,b)=some (zjb 0 l (loS a).toNat (zgn b (l.length:Int)).toNat,zjb 1 l (loS a).toNat (zgn b (l.length:Int)).toNat):=by
 unfold Lz.sd0F
 refine Eq.trans (congrArg (fun z=>Option.bind z _) (zsl hl a b _ ?_ ?_)) rfl
 ·intro L R i h1 h2
  dsimp only
  rw[if_pos (by rw[decide_eq_true_eq];exact h1),if_pos (by omega),Int.toNat_natCast,zqk,za (by omega) (by omega)]
  simp only[Option.bind_some]
  rcases zin (l.getD i 0) with h|h|h<;>rw[h]<;>simp
 ·intro L R i h1
  dsimp only
  rw[if_neg (by rw[decide_eq_true_eq];exact h1)]
theorem zu7 {l:List Int} {f:Bool×Bool×Int→Option ((Bool×Bool×Int) ⊕ (Bool×Bool))} {g:Bool×Bool×Int×List Int→Option ((Bool×Bool×Int×List Int) ⊕ (Bool×Bool×List Int))}
  (h: ∀ s,(∃ s',f s=some (.inl s')∧g (s.1,s.2.1,s.2.2,l)=some (.inl (s'.1,s'.2.1,s'.2.2,l)))∨(∃ e,f s=some (.inr e)∧g (s.1,s.2.1,s.2.2,l)=some (.inr (e.1,e.2,l)))∨f s=none) {s:Bool×Bool×Int} {e:Bool×Bool}
  (he:iter f s=some e):iter g (s.1,s.2.1,s.2.2,l)=some (e.1,e.2,l):=by
 obtain⟨n,hn⟩:=zas he
 clear he
 induction n generalizing s with
 |zero=>simp[xh] at hn
 |succ n ih=>
  unfold xh at hn
  rcases h s with ⟨s',h1,h2⟩|⟨e',h1,h2⟩|h1
  ·rw[h1] at hn
   rw[zw h2]
   exact ih hn
  ·rw[h1] at hn
   simp only[Option.some.injEq] at hn
   subst hn
   exact zn h2
  ·rw[h1] at hn;cases hn
theorem z0u {l:List Int} (hl:l.length≤100000) (a b:Int):Lz.f128F (a,b,l)=some (zjb 0 l (loS a).toNat (zgn b (l.length:Int)).toNat,zjb 1 l (loS a).toNat (zgn b (l.length:Int)).toNat,l):=by
 have h:=z0d hl a b
 unfold Lz.sd0F at h
 dsimp only at h
 rw[Option.bind_eq_some_iff] at h
 obtain⟨⟨L,R⟩,h1,h2⟩:=h
 simp only[Option.some.injEq,Prod.mk.injEq] at h2
 obtain⟨rfl,rfl⟩:=h2
 unfold Lz.f128F
 refine Eq.trans (congrArg (fun z=>Option.bind z _) (zu7 (l:=l) ?_ h1)) rfl
 rintro ⟨L,R,i⟩
 dsimp only
 split
 ·split
  ·rw[zqk]
   simp only[Option.bind_some]
   rcases zin (l.getD i.toNat 0) with h|h|h<;>rw[h]<;>exact .inl ⟨_,rfl,rfl⟩
  ·exact .inr (.inr rfl)
 ·exact .inr (.inl ⟨_,rfl,rfl⟩)
def otS (c:Int):Int×Bool×Bool:=match Lz.brk.find? (fun p=>p.1==c) with|some p=>(p.2,true,true)|none=>match Lz.brk.find? (fun p=>p.2==c) with|some p=>(p.1,false,true)|none=>(0,false,false)
theorem zpf (c:Int):Lz.otherF c=some (otS c):=rfl
def asS (c:Int):Int:=if c=9001 then 12296 else if c=9002 then 12297 else c
theorem z0k (c:Int):Lz.f148F c=some (asS c):=by
 unfold Lz.f148F asS
 by_cases h0:c=9001
 ·subst h0;rfl
 by_cases h1:c=9002
 ·subst h1;rfl
 simp[h0,h1]
def smS (a b:Int):Bool:=(otS a).2.2&&((otS b).2.2&&(asS a==asS b))
theorem z0h (a b:Int):Lz.f125F (a,b)=some (smS a b):=by
 unfold Lz.f125F smS
 simp only[zpf,Option.bind_some,z0k]
 cases (otS a).2.2<;>cases (otS b).2.2<;>simp
def xT (p:Nat→Bool):Nat→Option Nat
 |0=>none
 |n+1=>if p n=true then some n else xT p n
theorem xw {p:Nat→Bool}: ∀ {n k:Nat},xT p n=some k→k<n∧p k=true
 |0,_,h=>by cases h
 |n+1,k,h=>by
  unfold xT at h
  split at h
  ·cases h;exact⟨by omega,by assumption⟩
  ·have:=xw h;exact⟨by omega,this.2⟩
theorem zhx (p:Nat→Bool) (n:Nat):xT p (n+1)=if p n=true then some n else xT p n:=rfl
def lkI:Option Nat→Int
 |none=> -1
 |some k=>(k:Int)
def qe (ch:List Int) (ws:List Nat):List (Int×Int):=ws.map fun w=>(ch.getD w 0,(w:Int))
def pW (ch cl:List Int):Nat→Nat→List Nat→List (Nat×Nat)
 |0,_,_=> []
 |n+1,i,ws=>
  if(!(otS (ch.getD i 0)).2.2||cl.getD i 0 !=13)=true then pW ch cl n (i+1) ws
  else if(otS (ch.getD i 0)).2.1=true then(if ws.length=63 then [] else pW ch cl n (i+1) (ws++ [i]))
  else match xT (fun k=>smS (ch.getD (ws.getD k 0) 0) (otS (ch.getD i 0)).1) ws.length with
   |none=>pW ch cl n (i+1) ws
   |some k=>(ws.getD k 0,i)::pW ch cl n (i+1) (ws.take k)
theorem znt (ch cl:List Int): ∀ (n i:Nat) (ws:List Nat),(∀ w∈ws,w<i)→ ∀ p∈pW ch cl n i ws,p.1<p.2∧i≤p.2∧p.2<i+n
 |0,_,_,_,p,h=>by simp[pW] at h
 |n+1,i,ws,hw,p,h=>by
  have up: ∀ ws',(∀ w∈ws',w<i+1)→p∈pW ch cl n (i+1) ws'→p.1<p.2∧i≤p.2∧p.2<i+(n+1):=fun ws' h1 h2=>by
   have:=znt ch cl n (i+1) ws' h1 p h2;omega
  have hw1: ∀ w∈ws,w<i+1:=fun w hm=>by have:=hw w hm;omega
  unfold pW at h
  split at h
  ·exact up _ hw1 h
  ·split at h
   ·split at h
    ·simp at h
    ·refine up _ (fun w hm=> ?_) h
     rcases List.mem_append.1 hm with hm|hm
     ·exact hw1 w hm
     ·simp at hm;omega
   ·split at h
    ·exact up _ hw1 h
    ·rename_i k hk
     obtain⟨hk1,_⟩:=xw hk
     rcases List.mem_cons.1 h with rfl|h
     ·have:=hw (ws.getD k 0) (by rw[zap _ _ hk1];exact List.getElem_mem hk1)
      exact⟨this,Nat.le_refl _,by show i<i+(n+1);omega⟩
     ·exact up _ (fun w hm=>hw1 w (List.mem_of_mem_take hm)) h
def toP (p:Nat×Nat):List Int:= [(p.1:Int),(p.2:Int)]
noncomputable def zdo (l:List (List Int)):List (List Int):=(Lz.f126F l).getD []
theorem zq6 {l:List (List Int)} (h:Kb l) (hl:l.length<1100):Lz.f126F l=some (zdo l):=by
 obtain⟨l',h1,_⟩:=zub (l:=l) hl h
 unfold zdo
 rw[h1];rfl
theorem zh6 (ch cl:List Int): ∀ (n i:Nat) (ws:List Nat),(pW ch cl n i ws).length≤n
 |0,_,_=>by simp[pW]
 |n+1,i,ws=>by
  have:=zh6 ch cl n (i+1)
  unfold pW
  split
  ·exact Nat.le_succ_of_le (this _)
  ·split
   ·split
    ·simp
    ·exact Nat.le_succ_of_le (this _)
   ·split
    ·exact Nat.le_succ_of_le (this _)
    ·rw[List.length_cons];exact Nat.succ_le_succ (this _)
theorem zi0 (ch:List Int) (ws:List Nat) {k:Nat} (h:k<ws.length):(qe ch ws).getD k (0,0)=(ch.getD (ws.getD k 0) 0,((ws.getD k 0:Nat):Int)):=by
 rw[zap _ _ (by simpa [qe] using h),zap _ _ h]
 simp[qe]
theorem xg (ch:List Int) (ws:List Nat):(qe ch ws).length=ws.length:=by simp[qe]
theorem zs5 (ch:List Int) (ws:List Nat) (o:Int) (ps:List (List Int)) (hl:ws.length≤100000):
  iter (fun(s7:Int×List (List Int)×List (Int×Int))=>
                  Option.bind
                   (if decide (s7.fst≥(0:Int))=true then
                    if(0:Int)≤s7.fst∧s7.fst<(↑(List.length s7.snd.snd):Int) then
                     Option.bind (Lz.f125F ((List.getD s7.snd.2 (Int.toNat s7.fst) ((0:Int),(0:Int))).1,o)) fun(v8:Bool)=>some (!v8,s7.snd.1,s7.snd.2)
                    else none
                   else some (false,s7.snd.1,s7.snd.2))
                   fun(v8:Bool×List (List Int)×List (Int×Int))=>
                   if v8.fst=true then some (Sum.inl (IntKind.i64.wrap (s7.fst - (1:Int)),v8.snd.1,v8.snd.2))
                   else some (Sum.inr (s7.1,v8.snd.1,v8.snd.2))) ((ws.length:Int) - 1,ps,qe ch ws)=some (lkI (xT (fun k=>smS (ch.getD (ws.getD k 0) 0) o) ws.length),ps,qe ch ws):=by
 suffices hh: ∃ e,iter (fun(s7:Int×List (List Int)×List (Int×Int))=>
                  Option.bind
                   (if decide (s7.fst≥(0:Int))=true then
                    if(0:Int)≤s7.fst∧s7.fst<(↑(List.length s7.snd.snd):Int) then
                     Option.bind (Lz.f125F ((List.getD s7.snd.2 (Int.toNat s7.fst) ((0:Int),(0:Int))).1,o)) fun(v8:Bool)=>some (!v8,s7.snd.1,s7.snd.2)
                    else none
                   else some (false,s7.snd.1,s7.snd.2))
                   fun(v8:Bool×List (List Int)×List (Int×Int))=>
                   if v8.fst=true then some (Sum.inl (IntKind.i64.wrap (s7.fst - (1:Int)),v8.snd.1,v8.snd.2))
                   else some (Sum.inr (s7.1,v8.snd.1,v8.snd.2))) ((ws.length:Int) - 1,ps,qe ch ws)=some e∧e=(lkI (xT (fun k=>smS (ch.getD (ws.getD k 0) 0) o) ws.length),ps,qe ch ws) by
  obtain⟨e,h1,h2⟩:=hh;rw[h1,h2]
 refine zv (I:=fun s=> ∃ k:Nat,k≤ws.length∧s=((k:Int) - 1,ps,qe ch ws)∧xT (fun k=>smS (ch.getD (ws.getD k 0) 0) o) ws.length=xT (fun k=>smS (ch.getD (ws.getD k 0) 0) o) k) (fun s=>(s.1+1).toNat) ?_ _ ⟨ws.length,Nat.le_refl _,rfl,rfl⟩
 rintro _ ⟨k,hk,rfl,hI⟩
 have hwl:=xg ch ws
 cases k with
 |zero=>
  refine .inr ⟨_,rfl, ?_⟩
  rw[hI]
  rfl
 |succ k=>
  dsimp only
  rw[show((k+1:Nat):Int) - 1=(k:Int) by omega,if_pos (by rw[decide_eq_true_eq];omega),if_pos (by omega),Int.toNat_natCast,zi0 ch ws (by omega),z0h]
  simp only[Option.bind_some]
  rw[zhx] at hI
  by_cases hs:smS (ch.getD (ws.getD k 0) 0) o=true
  ·rw[if_pos hs] at hI
   rw[hs]
   refine .inr ⟨_,rfl, ?_⟩
   rw[hI];rfl
  ·rw[if_neg hs] at hI
   rw[Bool.not_eq_true] at hs
   rw[hs,za (by omega) (by omega)]
   exact .inl ⟨_,rfl,⟨k,by omega,rfl,hI⟩,by show((k:Int) - 1+1).toNat<((k:Int)+1).toNat;omega⟩
theorem zpu (ch:List Int) (ws:List Nat) (i:Nat):qe ch ws++ [(ch.getD i 0,(i:Int))]=qe ch (ws++ [i]):=by simp[qe]
theorem zpv (ch:List Int) (ws:List Nat) (k:Nat):(qe ch ws).take k=qe ch (ws.take k):=by simp[qe,List.map_take]
theorem zwn (ch cl:List Int) (hlen:ch.length=cl.length) (hl:ch.length≤1000) {f:Int×List (List Int)×List (Int×Int)→Option ((Int×List (List Int)×List (Int×Int)) ⊕ List (List Int))}
  (hend: ∀ (i:Int) ps op, ¬ i<(ch.length:Int)→f (i,ps,op)=(Lz.f126F ps).bind fun v=>some (.inr v))
  (hskip: ∀ (i:Nat) ps ws,i<ch.length→(!(otS (ch.getD i 0)).2.2||cl.getD i 0 !=13)=true→f ((i:Int),ps,qe ch ws)=some (.inl (((i+1:Nat):Int),ps,qe ch ws)))
  (hfull: ∀ (i:Nat) ps ws,i<ch.length→ ¬ (!(otS (ch.getD i 0)).2.2||cl.getD i 0 !=13)=true→(otS (ch.getD i 0)).2.1=true→ws.length=63→f ((i:Int),ps,qe ch ws)=some (.inl (((ch.length+1:Nat):Int),ps,qe ch ws)))
  (hpush: ∀ (i:Nat) ps ws,i<ch.length→ ¬ (!(otS (ch.getD i 0)).2.2||cl.getD i 0 !=13)=true→(otS (ch.getD i 0)).2.1=true→ws.length<63→f ((i:Int),ps,qe ch ws)=some (.inl (((i+1:Nat):Int),ps,qe ch (ws++ [i]))))
  (hnone: ∀ (i:Nat) ps ws,i<ch.length→ws.length≤63→ ¬ (!(otS (ch.getD i 0)).2.2||cl.getD i 0 !=13)=true→ ¬ (otS (ch.getD i 0)).2.1=true→xT (fun k=>smS (ch.getD (ws.getD k 0) 0) (otS (ch.getD i 0)).1) ws.length=none→f ((i:Int),ps,qe ch ws)=some (.inl (((i+1:Nat):Int),ps,qe ch ws)))
  (hsome: ∀ (i:Nat) ps ws k,i<ch.length→ws.length≤63→ps.length≤i→ ¬ (!(otS (ch.getD i 0)).2.2||cl.getD i 0 !=13)=true→ ¬ (otS (ch.getD i 0)).2.1=true→xT (fun k=>smS (ch.getD (ws.getD k 0) 0) (otS (ch.getD i 0)).1) ws.length=some k→f ((i:Int),ps,qe ch ws)=some (.inl (((i+1:Nat):Int),ps++ [toP (ws.getD k 0,i)],qe ch (ws.take k)))):
  ∀ (i:Nat) (ps:List (List Int)) (ws:List Nat),i≤ch.length+1→ps.length≤i→ws.length≤63→(∀ w∈ws,w<i)→Kb ps→iter f ((i:Int),ps,qe ch ws)=some (zdo (ps++(pW ch cl (ch.length - i) i ws).map toP)):=by
 suffices key: ∀ (n i:Nat) (ps:List (List Int)) (ws:List Nat),ch.length - i=n→i≤ch.length+1→ps.length≤i→ws.length≤63→(∀ w∈ws,w<i)→Kb ps→iter f ((i:Int),ps,qe ch ws)=some (zdo (ps++(pW ch cl n i ws).map toP)) by
  intro i ps ws h1 h2 h3 h4 h5
  exact key _ i ps ws rfl h1 h2 h3 h4 h5
 have fin: ∀ (i:Int) ps op, ¬ i<(ch.length:Int)→ps.length≤ch.length+1→Kb ps→iter f (i,ps,op)=some (zdo ps):=by
  intro i ps op h1 h2 h3
  refine zn ?_
  rw[hend i ps op h1,zq6 h3 (by omega)]
  rfl
 intro n
 induction n with
 |zero=>
  intro i ps ws hn h1 h2 h3 h4 h5
  rw[fin i ps _ (by omega) (by omega) h5]
  simp[pW]
 |succ n ih=>
  intro i ps ws hn h1 h2 h3 h4 h5
  have hi:i<ch.length:=by omega
  have hw1: ∀ w∈ws,w<i+1:=fun w hm=>by have:=h4 w hm;omega
  unfold pW
  by_cases c1:(!(otS (ch.getD i 0)).2.2||cl.getD i 0 !=13)=true
  ·rw[if_pos c1,zw (hskip i ps ws hi c1)]
   exact ih (i+1) ps ws (by omega) (by omega) (by omega) h3 hw1 h5
  rw[if_neg c1]
  by_cases c2:(otS (ch.getD i 0)).2.1=true
  ·rw[if_pos c2]
   by_cases c3:ws.length=63
   ·rw[if_pos c3,zw (hfull i ps ws hi c1 c2 c3),fin _ ps _ (by omega) (by omega) h5]
    simp
   ·rw[if_neg c3,zw (hpush i ps ws hi c1 c2 (by omega))]
    refine ih (i+1) ps (ws++ [i]) (by omega) (by omega) (by omega) (by simp;omega) (fun w hm=> ?_) h5
    rcases List.mem_append.1 hm with hm|hm
    ·exact hw1 w hm
    ·simp at hm;omega
  rw[if_neg c2]
  cases hk:xT (fun k=>smS (ch.getD (ws.getD k 0) 0) (otS (ch.getD i 0)).1) ws.length with
  |none=>
   rw[zw (hnone i ps ws hi h3 c1 c2 hk)]
   exact ih (i+1) ps ws (by omega) (by omega) (by omega) h3 hw1 h5
  |some k=>
   obtain⟨hk1,_⟩:=xw hk
   rw[zw (hsome i ps ws k hi h3 h2 c1 c2 hk)]
   have hmem:=h4 (ws.getD k 0) (by rw[zap _ _ hk1];exact List.getElem_mem hk1)
   have:=ih (i+1) (ps++ [toP (ws.getD k 0,i)]) (ws.take k) (by omega) (by omega) (by simp;omega) (by simp;omega) (fun w hm=>hw1 w (List.mem_of_mem_take hm)) (fun p hp=>by
    rcases List.mem_append.1 hp with hp|hp
    ·exact h5 p hp
    ·simp at hp
     subst hp
     show -1000000≤((ws.getD k 0:Nat):Int)∧((ws.getD k 0:Nat):Int)≤1000000
     omega)
   rw[this]
   simp
theorem zvb:zdo []= []:=by
 obtain⟨l',h1,h2,_⟩:=zub (l:= []) (by simp) (fun p h=>by simp at h)
 unfold zdo
 rw[h1]
 exact h2.eq_nil
theorem zpm {S E:Type} {X:Option (S ⊕ E)} {f:S→Option (S ⊕ E)} {s0:S} {e:E} (hX:X=f s0) (he:iter f s0=some e):
  Option.bind (Option.bind X (fun v=>Sum.elim (fun p=>iter f p) (fun q=>some q) v)) (fun v=>some v)=some e:=by
 rw[hX]
 cases h:f s0 with
 |none=>
  obtain⟨n,hn⟩:=zas he
  cases n with
  |zero=>simp[xh] at hn
  |succ n=>simp[xh,h] at hn
 |some x=>
  cases x with
  |inl s=>rw[zw h] at he;simp[he]
  |inr e'=>rw[zn h] at he;simp at he;simp[he]
theorem z0e (ch cl:List Int) (hl:ch.length≤1000):Lz.f83F (ch,cl)=some (if ch.length=cl.length then zdo ((pW ch cl ch.length 0 []).map toP) else []):=by
 unfold Lz.f83F
 dsimp only
 by_cases hlen:ch.length=cl.length
 rotate_left
 ·rw[if_pos (by simp;omega),if_neg hlen];rfl
 rw[if_neg (by simp;omega),if_pos hlen]
 by_cases h0:ch.length=0
 ·rw[if_neg (by rw[decide_eq_true_eq];omega),zq6 (fun p h=>by simp at h) (by simp)]
  rw[h0]
  simp only[Option.bind_some,Sum.elim_inr,pW,List.map_nil,zvb]
 have hc:(0:Int)≤(0:Int)∧(0:Int)<(ch.length:Int):=by omega
 have hc2:(0:Int)≤(0:Int)∧(0:Int)<(cl.length:Int):=by omega
 rw[if_pos (by rw[decide_eq_true_eq];omega),if_pos hc]
 refine zpm (s0:=((0:Int), [], [])) (e:=zdo ((pW ch cl ch.length 0 []).map toP)) ?_ ?_
 ·
  dsimp only
  rw[if_pos (show decide ((0:Int)<(ch.length:Int))=true by rw[decide_eq_true_eq];omega)]
  simp only[if_pos hc,if_pos hc2,zpf,Option.bind_some]
  cases (otS (ch.getD (Int.toNat 0) 0)).2.2
  ·rfl
  simp only[Bool.not_true,Bool.false_eq_true,if_false,Option.bind_some]
  cases (cl.getD (Int.toNat 0) 0 !=13)
  rotate_left
  ·rfl
  simp only[Bool.false_eq_true,if_false,Option.bind_some]
  cases (otS (ch.getD (Int.toNat 0) 0)).2.1
  rotate_left
  ·rfl
  simp only[Bool.false_eq_true,if_false,Option.bind_some]
  rw[zn (e:= -1) (by rfl),zn (e:=(-1, [], [])) (by rfl)]
  rfl
 ·refine(zwn ch cl hlen hl ?_ ?_ ?_ ?_ ?_ ?_ 0 [] [] (by omega) (by simp) (by simp) (by simp) (fun p h=>by simp at h)).trans ?_
  ·intro i ps op h
   dsimp only
   rw[if_neg (by rw[decide_eq_true_eq];exact h)]
  ·intro i ps ws hi c1
   dsimp only
   have hi1:(0:Int)≤(i:Int)∧(i:Int)<(ch.length:Int):=by omega
   have hi2:(0:Int)≤(i:Int)∧(i:Int)<(cl.length:Int):=by omega
   rw[if_pos (by rw[decide_eq_true_eq];omega),if_pos hi1,za (by omega) (by omega)]
   simp only[if_pos hi2,zpf,Option.bind_some,Int.toNat_natCast]
   cases h1:(otS (ch.getD i 0)).2.2
   ·rfl
   ·rw[h1] at c1
    simp only[Bool.not_true,Bool.false_or] at c1
    simp only[Bool.not_true,Bool.false_eq_true,if_false,Option.bind_some,c1,if_true]
    rfl
  ·intro i ps ws hi c1 c2 c3
   dsimp only
   have hi1:(0:Int)≤(i:Int)∧(i:Int)<(ch.length:Int):=by omega
   have hi2:(0:Int)≤(i:Int)∧(i:Int)<(cl.length:Int):=by omega
   rw[if_pos (by rw[decide_eq_true_eq];omega),if_pos hi1]
   simp only[if_pos hi2,zpf,Option.bind_some,Int.toNat_natCast]
   rw[Bool.or_eq_true,not_or,Bool.not_eq_true,Bool.not_eq_true] at c1
   simp only[c1.1,c1.2,c2,Bool.false_eq_true,if_false,if_true,Option.bind_some,xg,c3]
   rw[if_pos (by decide),za (by omega) (by omega)]
   rfl
  ·intro i ps ws hi c1 c2 c3
   dsimp only
   have hi1:(0:Int)≤(i:Int)∧(i:Int)<(ch.length:Int):=by omega
   have hi2:(0:Int)≤(i:Int)∧(i:Int)<(cl.length:Int):=by omega
   rw[if_pos (by rw[decide_eq_true_eq];omega),if_pos hi1,za (by omega) (by omega)]
   simp only[if_pos hi2,zpf,Option.bind_some,Int.toNat_natCast]
   rw[Bool.or_eq_true,not_or,Bool.not_eq_true,Bool.not_eq_true] at c1
   simp only[c1.1,c1.2,c2,Bool.false_eq_true,if_false,if_true,Option.bind_some,xg]
   rw[if_neg (by simp;omega),if_pos (by omega),if_pos (by simp only[zj,List.length_append,List.length_singleton,List.length_cons,List.length_nil,xg];omega),zpu]
   rfl
  ·intro i ps ws hi h3 c1 c2 hk
   dsimp only
   have hi1:(0:Int)≤(i:Int)∧(i:Int)<(ch.length:Int):=by omega
   have hi2:(0:Int)≤(i:Int)∧(i:Int)<(cl.length:Int):=by omega
   rw[if_pos (by rw[decide_eq_true_eq];omega),if_pos hi1,za (x:=(i:Int)+1) (by omega) (by omega)]
   simp only[if_pos hi2,zpf,Option.bind_some,Int.toNat_natCast]
   rw[Bool.or_eq_true,not_or,Bool.not_eq_true,Bool.not_eq_true] at c1
   simp only[c1.1,c1.2,c2,Bool.false_eq_true,if_false,if_true,Option.bind_some,xg]
   rw[za (by omega) (by omega),zs5 ch ws _ ps (by omega),hk]
   rfl
  ·intro i ps ws k hi h3 hps c1 c2 hk
   obtain⟨hk1,_⟩:=xw hk
   dsimp only
   have hi1:(0:Int)≤(i:Int)∧(i:Int)<(ch.length:Int):=by omega
   have hi2:(0:Int)≤(i:Int)∧(i:Int)<(cl.length:Int):=by omega
   rw[if_pos (by rw[decide_eq_true_eq];omega),if_pos hi1,za (x:=(i:Int)+1) (by omega) (by omega)]
   simp only[if_pos hi2,zpf,Option.bind_some,Int.toNat_natCast]
   rw[Bool.or_eq_true,not_or,Bool.not_eq_true,Bool.not_eq_true] at c1
   simp only[c1.1,c1.2,c2,Bool.false_eq_true,if_false,if_true,Option.bind_some,xg]
   rw[za (by omega) (by omega),zs5 ch ws _ ps (by omega),hk]
   simp only[Option.bind_some,lkI,xg,Int.toNat_natCast]
   rw[if_pos (by rw[decide_eq_true_eq];omega),if_pos (by omega),if_pos (by simp only[zj,List.length_append,List.length_singleton,List.length_cons,List.length_nil,xg];omega),if_pos (by omega),zi0 ch ws hk1,zpv]
   rfl
  ·simp
def zho (v:Int):List (List Int)→Nat
 | []=>0
 |q::l=>if kk q<v then zho v l+1 else 0
def zqz (l:List (List Int)) (p:List Int):List (List Int):=l.take (zho (kk p) l)++ [p]++l.drop (zho (kk p) l)
theorem zfy {l:List (List Int)} {p q:List Int} (h:kk q<kk p):zqz (q::l) p=q::zqz l p:=by
 simp[zqz,zho,h]
theorem zfx {l:List (List Int)} {p q:List Int} (h: ¬ kk q<kk p):zqz (q::l) p=p::q::l:=by
 simp[zqz,zho,h]
theorem zq1 {p:List Int}:zqz [] p= [p]:=rfl
theorem zif (p:List Int): ∀ l,(zqz l p).Perm (p::l)
 | []=>by rw[zq1]
 |q::l=>by
  by_cases h:kk q<kk p
  ·rw[zfy h]
   exact((zif p l).cons q).trans (.swap ..)
  ·rw[zfx h]
abbrev Asc (l:List (List Int)):Prop:=l.Pairwise fun x y=>kk x<kk y
theorem zq0 (p:List Int): ∀ l,Asc l→(∀ q∈l,kk q≠kk p)→Asc (zqz l p)
 | [],_,_=>by rw[zq1];exact List.pairwise_singleton _ _
 |q::l,h,hn=>by
  rw[Asc,List.pairwise_cons] at h
  by_cases hq:kk q<kk p
  ·rw[zfy hq,Asc,List.pairwise_cons]
   refine⟨fun x hx=> ?_,zq0 p l h.2 fun q hq=>hn q (by simp[hq])⟩
   rcases List.mem_cons.1 ((zif p l).mem_iff.1 hx) with rfl|hx
   ·exact hq
   ·exact h.1 x hx
  ·rw[zfx hq,Asc,List.pairwise_cons]
   have hpq:=hn q (by simp)
   refine⟨fun x hx=> ?_,by rw[List.pairwise_cons];exact h⟩
   rcases List.mem_cons.1 hx with rfl|hx
   ·omega
   ·have:=h.1 x hx;omega
theorem zxh: ∀ {l m:List (List Int)},Asc l→Asc m→l.Perm m→l=m
 | [],m,_,_,hp=>hp.symm.eq_nil.symm▸rfl
 |a::l, [],_,_,hp=>by have:=hp.length_eq;simp at this
 |a::l,b::m,h1,h2,hp=>by
  rw[Asc,List.pairwise_cons] at h1 h2
  have e:a=b:=by
   rcases List.mem_cons.1 (hp.mem_iff.1 (List.mem_cons_self)) with e|ha
   ·exact e
   ·rcases List.mem_cons.1 (hp.mem_iff.2 (List.mem_cons_self)) with e|hb
    ·exact e.symm
    ·have:=h2.1 a ha
     have:=h1.1 b hb
     omega
  subst e
  rw[zxh h1.2 h2.2 (hp.cons_inv)]
theorem zt3: ∀ (l acc:List (List Int)),Asc acc→(acc++l).Pairwise (fun x y=>kk x≠kk y)→Asc (l.foldl zqz acc)∧(l.foldl zqz acc).Perm (acc++l)
 | [],acc,h,_=>⟨h,by simp⟩
 |p::l,acc,h,hd=>by
  have hpm:=zif p acc
  have hne: ∀ q∈acc,kk q≠kk p:=fun q hq=>(List.pairwise_append.1 hd).2.2 q hq p (by simp)
  have hperm:(zqz acc p++l).Perm (acc++p::l):=(hpm.append_right l).trans (by rw[List.cons_append];exact List.perm_middle.symm)
  obtain⟨h1,h2⟩:=zt3 l (zqz acc p) (zq0 p acc h hne) (hperm.symm.pairwise hd fun hxy=>fun e=>hxy e.symm)
  exact⟨h1,h2.trans hperm⟩
theorem zvc {l:List (List Int)} (hk:Kb l) (hl:l.length<1100) (hd:l.Pairwise (fun x y=>kk x≠kk y)):zdo l=l.foldl zqz []∧Asc (zdo l)∧(zdo l).Perm l:=by
 obtain⟨l',h1,h2,h3⟩:=zub hl hk
 have e:zdo l=l':=by unfold zdo;rw[h1];rfl
 have hd':l'.Pairwise (fun x y=>kk x≠kk y):=h2.symm.pairwise hd fun hxy=>fun e=>hxy e.symm
 have hs:Asc l':=(h3.and hd').imp fun⟨a,b⟩=>by omega
 obtain⟨g1,g2⟩:=zt3 l [] List.Pairwise.nil (by simpa using hd)
 refine⟨?_,e▸hs,e▸h2⟩
 rw[e]
 exact zxh hs g1 (h2.trans (by simpa using g2.symm))
abbrev z1p (p q:Nat×Nat):Prop:=p.2<q.2∧(q.1<p.1∨p.2<q.1)
theorem zqt (ch cl:List Int): ∀ (n i:Nat) (ws:List Nat), ∀ p∈pW ch cl n i ws,p.1∈ws∨i≤p.1
 |0,_,_,p,h=>by simp[pW] at h
 |n+1,i,ws,p,h=>by
  have ih:=zqt ch cl n (i+1)
  unfold pW at h
  split at h
  ·rcases ih ws p h with h|h
   ·exact .inl h
   ·exact .inr (by omega)
  ·split at h
   ·split at h
    ·simp at h
    ·rcases ih _ p h with h|h
     ·rcases List.mem_append.1 h with h|h
      ·exact .inl h
      ·simp at h;exact .inr (by omega)
     ·exact .inr (by omega)
   ·split at h
    ·rcases ih ws p h with h|h
     ·exact .inl h
     ·exact .inr (by omega)
    ·rename_i k hk
     rcases List.mem_cons.1 h with rfl|h
     ·left
      show ws.getD k 0∈ws
      rw[zap _ _ (xw hk).1];exact List.getElem_mem _
     ·rcases ih _ p h with h|h
      ·exact .inl (List.mem_of_mem_take h)
      ·exact .inr (by omega)
theorem znu (ch cl:List Int): ∀ (n i:Nat) (ws:List Nat),ws.Pairwise (· < ·)→(∀ w∈ws,w<i)→(pW ch cl n i ws).Pairwise z1p
 |0,_,_,_,_=>by simp[pW]
 |n+1,i,ws,hs,hw=>by
  have hw1: ∀ w∈ws,w<i+1:=fun w hm=>by have:=hw w hm;omega
  unfold pW
  split
  ·exact znu ch cl n (i+1) ws hs hw1
  ·split
   ·split
    ·exact List.Pairwise.nil
    ·refine znu ch cl n (i+1) _ ?_ ?_
     ·rw[List.pairwise_append]
      exact⟨hs,List.pairwise_singleton _ _,fun a ha b hb=>by simp at hb;have:=hw a ha;omega⟩
     ·intro w hm
      rcases List.mem_append.1 hm with hm|hm
      ·exact hw1 w hm
      ·simp at hm;omega
   ·split
    ·exact znu ch cl n (i+1) ws hs hw1
    ·rename_i k hk
     obtain⟨hk1,_⟩:=xw hk
     have hs':(ws.take k).Pairwise (· < ·):=hs.sublist (List.take_sublist ..)
     have hw': ∀ w∈ws.take k,w<i+1:=fun w hm=>hw1 w (List.mem_of_mem_take hm)
     rw[List.pairwise_cons]
     refine⟨fun q hq=> ?_,znu ch cl n (i+1) _ hs' hw'⟩
     obtain⟨m1,m2,m3⟩:=znt ch cl n (i+1) (ws.take k) hw' q hq
     refine⟨by show i<q.2;omega, ?_⟩
     rcases zqt ch cl n (i+1) _ q hq with h|h
     ·left
      show q.1<ws.getD k 0
      rw[zap _ _ hk1]
      obtain⟨j,hj,e⟩:=List.mem_iff_getElem.1 h
      rw[List.length_take] at hj
      rw[← e,List.getElem_take]
      exact List.pairwise_iff_getElem.1 hs j k (by omega) hk1 (by omega)
     ·right
      show i<q.1
      omega
noncomputable def prS (ch cl:List Int):List (List Int):=if ch.length=cl.length then zdo ((pW ch cl ch.length 0 []).map toP) else []
theorem zyw (ch cl:List Int) (n:Nat):((pW ch cl n 0 []).map toP).Pairwise (fun x y=>kk x≠kk y):=by
 rw[List.pairwise_map]
 refine(List.Pairwise.and_mem.1 (znu ch cl n 0 [] List.Pairwise.nil (by simp))).imp fun {p q} h=> ?_
 obtain⟨hp,hq,h1,h2⟩:=h
 have:=znt ch cl n 0 [] (by simp) p hp
 show((p.1:Int))≠((q.1:Int))
 omega
theorem z1g (ch cl:List Int) {n:Nat} (hn:n≤1000):Kb ((pW ch cl n 0 []).map toP):=by
 intro p hp
 obtain⟨q,hq,rfl⟩:=List.mem_map.1 hp
 have:=znt ch cl n 0 [] (by simp) q hq
 show -1000000≤(q.1:Int)∧(q.1:Int)≤1000000
 omega
theorem zuv (ch cl:List Int) (hl:ch.length≤1000) (hlen:ch.length=cl.length):prS ch cl=((pW ch cl ch.length 0 []).map toP).foldl zqz []∧Asc (prS ch cl)∧(prS ch cl).Perm ((pW ch cl ch.length 0 []).map toP):=by
 have h1:(pW ch cl ch.length 0 []).length≤ch.length:=zh6 _ _ _ _ _
 unfold prS
 rw[if_pos hlen]
 exact zvc (z1g ch cl hl) (by simp;omega) (zyw ch cl _)
theorem z0f (ch cl:List Int) (hl:ch.length≤1000):Lz.f83F (ch,cl)=some (prS ch cl):=by
 rw[z0e ch cl hl];rfl
def zji (l:List Int) (a:Nat) (sos:Int):Int:=match xT (fun k=>zbg (l.getD k 0)!= -1) a with
 |none=>sos
 |some k=>zbg (l.getD k 0)
def zko (first:List Int) (side:Int):Nat→Nat→List Int→List Int
 |0,_,l=>l
 |n+1,k,l=>if first.getD k 0=8 then zko first side n (k+1) (l.set k side) else l
def zjf (first:List Int) (side:Int) (l:List Int) (i:Nat):List Int:=zko first side (l.length - (i+1)) (i+1) (l.set i side)
theorem zkp (first:List Int) (side:Int): ∀ (n k:Nat) (l:List Int),(zko first side n k l).length=l.length
 |0,_,_=>rfl
 |n+1,k,l=>by
  unfold zko
  split
  ·rw[zkp];simp
  ·rfl
theorem zch (first:List Int) (side:Int) (l:List Int) (i:Nat):(zjf first side l i).length=l.length:=by
 unfold zjf;rw[zkp];simp
theorem zxp (first l:List Int) (i:Nat) (side d s:Int) (hl:l.length≤100000) (hf:first.length=l.length) (hi:i<l.length):Lz.f85F ((i:Int),side,first,d,s,l)=some (first,d,s,zjf first side l i):=by
 unfold Lz.f85F
 dsimp only
 rw[if_pos (by omega),Int.toNat_natCast,za (x:=(i:Int)+1) (by omega) (by omega)]
 suffices hh: ∃ r,Option.bind _ _=some r∧r=(first,d,s,zjf first side l i) by
  obtain⟨r,h1,rfl⟩:=hh;exact h1
 refine qf (Q:=fun e=>e=(first,d,s,zjf first side l i)) (zv (I:=fun(x:Int×List Int×Int×Int×List Int)=> ∃ (k:Nat) (l':List Int),k≤l.length∧l'.length=l.length∧x=((k:Int),first,d,s,l')∧zjf first side l i=zko first side (l.length - k) k l') (fun x=>((l.length:Int) - x.1).toNat) ?_ _
  ⟨i+1,l.set i side,by omega,by simp,rfl,rfl⟩) ?_
 rotate_left
 ·rintro _ rfl;exact⟨_,rfl,rfl⟩
 rintro _ ⟨k,l',hk,hl',rfl,hI⟩
 dsimp only
 by_cases hkl:k<l.length
 ·rw[if_pos (by rw[decide_eq_true_eq];omega),if_pos (by omega),Int.toNat_natCast]
  simp only[Option.bind_some]
  rw[show l.length - k=(l.length - (k+1))+1 by omega] at hI
  unfold zko at hI
  by_cases h8:first.getD k 0=8
  ·rw[if_pos h8] at hI
   rw[if_pos (by simpa using h8),if_pos (by omega),za (by omega) (by omega)]
   exact .inl ⟨_,rfl,⟨k+1,l'.set k side,by omega,by simpa using hl',rfl,hI⟩,by show((l.length:Int) - ((k:Int)+1)).toNat<((l.length:Int) - (k:Int)).toNat;omega⟩
  ·rw[if_neg h8] at hI
   rw[if_neg (by simpa using h8)]
   exact .inr ⟨_,rfl,by rw[hI]⟩
 ·rw[if_neg (by rw[decide_eq_true_eq];omega)]
  simp only[Option.bind_some,Bool.false_eq_true,if_false]
  rw[show l.length - k=0 by omega] at hI
  exact .inr ⟨_,rfl,by rw[hI];rfl⟩
theorem z0l (l first:List Int) (d s:Int) (a:Nat) (ha:a≤l.length) (hl:l.length≤100000):Lz.f129F ((l,first,d,s),(a:Int))=some (zji l a s):=by
 unfold Lz.f129F
 dsimp only
 rw[za (by omega) (by omega)]
 suffices hh: ∃ r,Option.bind _ _=some r∧r=zji l a s by
  obtain⟨r,h1,rfl⟩:=hh;exact h1
 refine qf (Q:=fun e=>Sum.elim (fun _=>s) id e=zji l a s) (zv (I:=fun(x:Int)=> ∃ k:Nat,k≤a∧x=(k:Int) - 1∧xT (fun k=>zbg (l.getD k 0)!= -1) a=xT (fun k=>zbg (l.getD k 0)!= -1) k) (fun x=>(x+1).toNat) ?_ _ ⟨a,Nat.le_refl _,rfl,rfl⟩) ?_
 rotate_left
 ·rintro (e|e) h
  ·exact⟨_,rfl,h⟩
  ·exact⟨_,rfl,h⟩
 rintro _ ⟨k,hk,rfl,hI⟩
 cases k with
 |zero=>
  refine .inr ⟨_,rfl, ?_⟩
  unfold zji
  rw[hI];rfl
 |succ k=>
  rw[show((k+1:Nat):Int) - 1=(k:Int) by omega,if_pos (by rw[decide_eq_true_eq];omega),if_pos (by omega),Int.toNat_natCast,zqk]
  simp only[Option.bind_some]
  rw[zhx] at hI
  by_cases hs:(zbg (l.getD k 0)!= -1)=true
  ·rw[if_pos hs] at hI
   rw[if_pos hs]
   refine .inr ⟨_,rfl, ?_⟩
   unfold zji
   rw[hI];rfl
  ·rw[if_neg hs] at hI
   rw[if_neg hs,za (by omega) (by omega)]
   exact .inl ⟨_,rfl,⟨k,by omega,rfl,hI⟩,by omega⟩
theorem z0i (x:Int):Lz.f79F x=some (zcy x):=by
 unfold Lz.f79F zcy
 have h:(BitVec.toNat (BitVec.ofInt (IntKind.bits IntKind.i64) x &&& BitVec.ofInt (IntKind.bits IntKind.i64) (1:Int)))=(x % 2).toNat:=by
  rw[BitVec.toNat_and]
  show((BitVec.ofInt 64 x).toNat &&& 1)=_
  rw[Nat.and_one_is_mod,BitVec.toNat_ofInt]
  omega
 rw[h,za (by omega) (by omega)]
 by_cases h1:x % 2=1
 ·rw[if_pos (by simp;omega),if_pos h1]
 ·rw[if_neg (by simp;omega),if_neg h1]
def zly (e sos:Int) (l:List Int) (a b:Nat):Int:=
 if(!zjb 0 l (a+1) b&& !zjb 1 l (a+1) b)=true then -1
 else if(zjb 0 l (a+1) b&&e==0||zjb 1 l (a+1) b&&e==1)=true then e
 else zji l a sos
def zc2 (first:List Int) (e sos:Int) (l:List Int) (p:List Int):List Int:=
 if zly e sos l (p.getD 0 0).toNat (p.getD 1 0).toNat= -1 then l
 else zjf first (zly e sos l (p.getD 0 0).toNat (p.getD 1 0).toNat) (zjf first (zly e sos l (p.getD 0 0).toNat (p.getD 1 0).toNat) l (p.getD 0 0).toNat) (p.getD 1 0).toNat
theorem zka (first:List Int) (e sos:Int) (l p:List Int):(zc2 first e sos l p).length=l.length:=by
 unfold zc2
 split
 ·rfl
 ·rw[zch,zch]
theorem z0j (first l:List Int) (a b:Nat) (e sos:Int) (he:e=0∨e=1) (hab:a<b) (hb:b<l.length) (hl:l.length≤100000):
  Lz.f84F ([(a:Int),(b:Int)],first,e,sos,l)=some (zly e sos l a b,first,e,sos,l):=by
 unfold Lz.f84F
 dsimp only
 have g0:List.getD [(a:Int),(b:Int)] (nat_lit 0) (0:Int)=(a:Int):=rfl
 have g1:List.getD [(a:Int),(b:Int)] (nat_lit 1) (0:Int)=(b:Int):=rfl
 rw[if_pos (by decide),if_pos (by decide),g0,g1,za (by omega) (by omega),z0u hl]
 have e1:(loS ((a:Int)+1)).toNat=a+1:=by unfold loS;split<;>omega
 have e2:(zgn (b:Int) (l.length:Int)).toNat=b:=by unfold zgn;split<;>omega
 rw[e1,e2]
 unfold zly
 simp only[Option.bind_some]
 have hah:=z0l l first e sos a (by omega) hl
 have hd:(0:Int)≤(0:Int)∧(0:Int)<((2:Nat):Int):=by decide
 cases zjb 0 l (a+1) b<;>cases zjb 1 l (a+1) b
 ·rfl
 ·rcases he with rfl|rfl
  ·simp only[Bool.not_false,Bool.not_true,Bool.false_eq_true,if_true,if_false,Option.bind_some,if_pos hd,hah,Bool.and_false,Bool.false_and,Bool.true_and,Bool.or_false,Bool.false_or,show((0:Int)==1)=false from rfl,show((1:Int)==0)=false from rfl]
  ·rfl
 ·rcases he with rfl|rfl
  ·rfl
  ·simp only[Bool.not_false,Bool.not_true,Bool.false_eq_true,if_true,if_false,Option.bind_some,if_pos hd,hah,Bool.and_false,Bool.false_and,Bool.true_and,Bool.or_false,Bool.false_or,show((0:Int)==1)=false from rfl,show((1:Int)==0)=false from rfl]
 ·rcases he with rfl|rfl<;>rfl
theorem zyx {ch cl:List Int} (hl:ch.length≤1000) {p:List Int} (hp:p∈prS ch cl):ch.length=cl.length∧ ∃ a b:Nat,(a,b)∈pW ch cl ch.length 0 []∧p= [(a:Int),(b:Int)]∧a<b∧b<ch.length:=by
 by_cases hlen:ch.length=cl.length
 ·refine⟨hlen, ?_⟩
  have hq:=(zuv ch cl hl hlen).2.2.mem_iff.1 hp
  obtain⟨⟨a,b⟩,hq2,rfl⟩:=List.mem_map.1 hq
  have:=znt ch cl ch.length 0 [] (by simp) _ hq2
  exact⟨a,b,hq2,rfl,this.1,by have:=this.2.2;simp only at this;omega⟩
 ·unfold prS at hp
  rw[if_neg hlen] at hp
  simp at hp
theorem zsg (ch cl:List Int) (hl:ch.length≤1000):(prS ch cl).length≤ch.length:=by
 by_cases hlen:ch.length=cl.length
 ·rw[(zuv ch cl hl hlen).2.2.length_eq,List.length_map]
  exact zh6 _ _ _ _ _
 ·unfold prS
  rw[if_neg hlen]
  simp
theorem zxo (l:List Int) (hl:l.length≤100000):Lz.f24F l=some l:=by
 unfold Lz.f24F
 have hr:zj (0+l.length) 8:=by unfold zj;omega
 split
 ·rename_i h
  have h0:l= []:=List.eq_nil_of_length_eq_zero (Nat.eq_of_beq_eq_true h)
  subst h0
  unfold agree
  rw[if_pos (by first|rfl|(rw[if_pos hr];rfl))]
 ·first|rfl|(rw[if_pos hr];rfl)
def zod (sos:Int):Int:=if sos=1 then 1 else 0
noncomputable def ofS (ch cl first:List Int) (level sos:Int):List Int:=
 if ch.length=cl.length∧first.length=cl.length then(prS ch cl).foldl (zc2 first (zcy level) (zod sos)) cl else cl
theorem zro (x:Int):zcy x=0∨zcy x=1:=by unfold zcy;split<;>simp
theorem zhr {A B:Type} (f:B→A→B) (b:B) (l:List A) (d:A) {k:Nat} (hk:k<l.length):(l.take (k+1)).foldl f b=f ((l.take k).foldl f b) (l.getD k d):=by
 rw[List.take_add_one,List.getElem?_eq_getElem hk,List.foldl_append,zap _ _ hk];rfl
theorem zhq {A:Type} (f:List Int→A→List Int) (h: ∀ l a,(f l a).length=l.length): ∀ (ps:List A) (l:List Int),(ps.foldl f l).length=l.length
 | [],_=>rfl
 |p::ps,l=>by rw[List.foldl_cons,zhq f h ps,h]
theorem z0g (ch cl first:List Int) (level sos:Int) (hl:cl.length≤1000):Lz.f51F (ch,cl,first,level,sos)=some (ofS ch cl first level sos):=by
 unfold Lz.f51F
 dsimp only
 rw[zxo cl (by omega),z0i]
 simp only[Option.bind_some]
 unfold ofS
 by_cases h1:ch.length=cl.length
 rotate_left
 ·rw[if_pos (by simp;omega),if_neg (fun h=>h1 h.1)];rfl
 rw[if_neg (by simp;omega)]
 simp only[Option.bind_some]
 by_cases h2:first.length=cl.length
 rotate_left
 ·rw[if_pos (by simp;omega),if_neg (fun h=>h2 h.2)]
 rw[if_neg (by simp;omega),if_pos (show ch.length=cl.length∧first.length=cl.length from⟨h1,h2⟩)]
 have hs:(if(sos==(1:Int))=true then some (cl,first,zcy level,(1:Int)) else some (cl,first,zcy level,(0:Int)))=some (cl,first,zcy level,zod sos):=by
  unfold zod
  by_cases h:sos=1<;>simp[h]
 rw[hs,z0f ch cl (by omega)]
 simp only[Option.bind_some]
 have hpl:=zsg ch cl (by omega)
 have he:=zro level
 generalize hP:prS ch cl=P at*
 have hPm: ∀ k,k<P.length→ ∃ a b:Nat,P.getD k kd= [(a:Int),(b:Int)]∧a<b∧b<cl.length:=by
  intro k hk
  obtain⟨_,a,b,_,h4,h5,h6⟩:=zyx (ch:=ch) (cl:=cl) (by omega) (p:=P.getD k kd) (by rw[hP,zap _ _ hk];exact List.getElem_mem hk)
  exact⟨a,b,h4,h5,by omega⟩
 suffices hh: ∃ r,Option.bind _ _=some r∧r=P.foldl (zc2 first (zcy level) (zod sos)) cl by
  obtain⟨r,h1,rfl⟩:=hh;exact h1
 refine qf (Q:=fun e=>e=(first,zcy level,zod sos,P.foldl (zc2 first (zcy level) (zod sos)) cl)) (zv (I:=fun(s:Int×List Int×Int×Int×List Int)=> ∃ k:Nat,k≤P.length∧s=((k:Int),first,zcy level,zod sos,(P.take k).foldl (zc2 first (zcy level) (zod sos)) cl)) (fun s=>((P.length:Int) - s.1).toNat) ?_ _ ⟨0,Nat.zero_le _,rfl⟩) ?_
 rotate_left
 ·rintro _ rfl;exact⟨_,rfl,rfl⟩
 rintro _ ⟨k,hk,rfl⟩
 dsimp only
 by_cases hkl:k<P.length
 ·obtain⟨a,b,hab,h3,h4⟩:=hPm k hkl
  have hlen:=zhq (zc2 first (zcy level) (zod sos)) (zka _ _ _) (P.take k) cl
  have hstep:=zhr (zc2 first (zcy level) (zod sos)) cl P kd hkl
  generalize (P.take k).foldl (zc2 first (zcy level) (zod sos)) cl=l at*
  have hab':List.getD P k (List.replicate (2:Nat) (0:Int))= [(a:Int),(b:Int)]:=hab
  rw[if_pos (by rw[decide_eq_true_eq];omega),if_pos (by omega),Int.toNat_natCast,hab']
  have g0:List.getD [(a:Int),(b:Int)] (nat_lit 0) (0:Int)=(a:Int):=rfl
  have g1:List.getD [(a:Int),(b:Int)] (nat_lit 1) (0:Int)=(b:Int):=rfl
  rw[g0,g1,z0j first l a b _ _ he h3 (by omega) (by omega),za (by omega) (by omega)]
  simp only[Option.bind_some]
  rw[hab] at hstep
  have hst:zc2 first (zcy level) (zod sos) l [(a:Int),(b:Int)]=if zly (zcy level) (zod sos) l a b= -1 then l else zjf first (zly (zcy level) (zod sos) l a b) (zjf first (zly (zcy level) (zod sos) l a b) l a) b:=rfl
  rw[hst] at hstep
  by_cases hn:zly (zcy level) (zod sos) l a b= -1
  ·rw[if_neg (by simpa using hn)]
   rw[if_pos hn] at hstep
   exact .inl ⟨_,rfl,⟨k+1,hkl,by rw[hstep];rfl⟩,by show((P.length:Int) - ((k:Int)+1)).toNat<((P.length:Int) - (k:Int)).toNat;omega⟩
  ·rw[if_pos (by simpa using hn),if_pos (by decide),zxp first l a _ _ _ (by omega) (by omega) (by omega)]
   rw[if_neg hn] at hstep
   simp only[Option.bind_some]
   rw[if_pos (by decide),zxp first _ b _ _ _ (by rw[zch];omega) (by rw[zch];omega) (by rw[zch];omega)]
   simp only[Option.bind_some]
   exact .inl ⟨_,rfl,⟨k+1,hkl,by rw[hstep];rfl⟩,by show((P.length:Int) - ((k:Int)+1)).toNat<((P.length:Int) - (k:Int)).toNat;omega⟩
 ·rw[if_neg (by rw[decide_eq_true_eq];omega)]
  exact .inr ⟨_,rfl,by rw[show k=P.length by omega,List.take_length]⟩
end Go.Sx
