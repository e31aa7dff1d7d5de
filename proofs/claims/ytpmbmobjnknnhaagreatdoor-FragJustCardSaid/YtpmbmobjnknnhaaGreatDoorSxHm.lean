/- Frag, plain: wrapped lines, what isn't seen, which rows hold what. -/
import Derived.Test.YtpmbmobjnknnhaaGreatDoorSxHl
import Derived.Test.YtpmbmobjnknnhaaGreatDoorSxTAd
set_option linter.unusedVariables false
set_option linter.unusedSimpArgs false
namespace Go.Sx
theorem zkm: ∀ (l:List Int) (b m c:Int),xl b m l→m<c→xl b c (l++ [c])
 | [],b,m,c,h,hc=>by have h:b=m:=h;exact⟨by omega,rfl⟩
 |x::l,b,m,c,h,hc=>⟨h.1,zkm l x m c h.2 hc⟩
theorem z0m {n:Nat} (hn:n≤4000) {w:Int} (hw:1≤w): ∃ l,R.f21F ((n:Int),w)=some l∧xl 0 (n:Int) l:=by
 unfold R.f21F
 dsimp only
 by_cases h0:n=0
 ·subst h0
  exact⟨[],rfl,rfl⟩
 rw[if_neg (by rw[decide_eq_true_eq];omega),if_neg (by rw[decide_eq_true_eq];omega),Option.bind_some,if_neg (by rw[decide_eq_true_eq];omega)]
 refine zZ (Q:=fun e=>xl 0 (n:Int) e) (zp (I:=fun(s:Int×List Int)=> ∃ (k:Nat) (m:Int),s.1=((k+1:Nat):Int)∧k≤n∧m≤k∧xl 0 m s.2∧s.2.length≤k∧(k=n→m=n)) (fun s=>((n:Int)+1 - s.1).toNat) ?_ _ ⟨0,0,rfl,by omega,by omega,rfl,by simp,fun h=>absurd h.symm h0⟩) fun e he=>⟨e,rfl,he⟩
 rintro ⟨i,out⟩ ⟨k,m,hi,hk,hm,hr,hl,hend⟩
 dsimp only at hi hr hl ⊢
 subst hi
 by_cases hkn:k<n
 ·left
  rw[if_pos (by rw[decide_eq_true_eq];omega)]
  have hb: ∃ b,(if(((k+1:Nat):Int)==(n:Int))=true then some (true,out) else if w=0 then none else some (Int.tmod ((k+1:Nat):Int) w==0,out))=some (b,out)∧(k+1=n→b=true):=by
   by_cases h:k+1=n
   ·exact⟨true,by rw[if_pos (by rw[h];exact beq_self_eq_true _)],fun _=>rfl⟩
   ·exact⟨_,by rw[if_neg (by simp;omega),if_neg (by omega)],fun q=>absurd q h⟩
  obtain⟨b,hb1,hb2⟩:=hb
  rw[hb1,Option.bind_some]
  dsimp only
  rw[za (by omega) (by omega)]
  cases b with
  |true=>
   rw[if_pos rfl,if_pos (by simp only[zi];omega)]
   exact⟨_,rfl,⟨k+1,((k+1:Nat):Int),by simp,by omega,by omega,zkm out 0 m _ hr (by omega),by simp;omega,fun h=>by omega⟩,by simp;omega⟩
  |false=>
   exact⟨_,rfl,⟨k+1,m,by simp,by omega,by omega,hr,by dsimp only;omega,fun h=>by have:=hb2 h;cases this⟩,by simp;omega⟩
 ·right
  have hkn:k=n:=by omega
  rw[if_neg (by rw[decide_eq_true_eq];omega)]
  refine⟨_,rfl, ?_⟩
  have:=hend hkn
  rw[← this]
  exact hr
def zwk:List Rch→Int→Int
 | [],_=>0
 |r::t,c=>if r.1≤c∧c≤r.2.1 then r.2.2 else zwk t c
theorem zm5 (c:Int): ∀ l:List Rch,zn4 l c=zwk l c
 | []=>rfl
 |r::t=>by
  have ih:=zm5 c t
  unfold zn4 at ih ⊢
  rw[List.find?_cons]
  by_cases h:r.1≤c∧c≤r.2.1
  ·rw[decide_eq_true h.1,decide_eq_true h.2,zwk,if_pos h];rfl
  ·rw[zwk,if_neg h]
   have:(decide (r.1≤c)&&decide (c≤r.2.1))=false:=by
    rw[Bool.and_eq_false_iff,decide_eq_false_iff_not,decide_eq_false_iff_not]
    omega
   rw[this]
   exact ih
theorem z0i {a k c:Int} {t:List Rch} {y:Option Int} (hy:y=some (zwk t c)):(if(c==a)=true then some k else y)=some (zwk ((a,a,k)::t) c):=by
 rw[zwk]
 by_cases h:c=a
 ·rw[if_pos (by rw[h];exact beq_self_eq_true a),if_pos (show a≤c∧c≤a by omega)]
 ·rw[if_neg (by simpa using h),if_neg (show ¬ (a≤c∧c≤a) by omega),hy]
theorem z0h {a b k c:Int} {t:List Rch} {y:Option Int} (hy:y=some (zwk t c)):(Option.bind (if decide (c≥a)=true then some (decide (c≤b)) else some false) fun v=>if v=true then some k else y)=some (zwk ((a,b,k)::t) c):=by
 rw[zwk]
 by_cases h:c≥a
 ·rw[if_pos (decide_eq_true h),Option.bind_some]
  by_cases h2:c≤b
  ·rw[if_pos (decide_eq_true h2),if_pos (show a≤c∧c≤b from⟨h,h2⟩)]
  ·rw[if_neg (by rw[decide_eq_true_eq];exact h2),if_neg (fun q=>h2 q.2),hy]
 ·rw[if_neg (by rw[decide_eq_true_eq];exact h),Option.bind_some,if_neg (by decide),if_neg (fun q=>h q.1),hy]
theorem z0r (c:Int):R.f33F c=some (xo c):=by
 unfold xo
 rw[zm5]
 unfold R.f33F
 repeat first|refine z0i ?_|refine z0h ?_
 rfl
theorem z0n (c:Int):R.f22F c=some (ctlC c):=by
 unfold R.f22F ctlC
 rw[z0r,Option.bind_some]
 generalize xo c=k
 have h34:R.f34F k=some (zfh k):=by
  unfold R.f34F zfh
  by_cases h1:k=9; · subst h1;rfl
  by_cases h2:k=14; · subst h2;rfl
  by_cases h3:k=15; · subst h3;rfl
  by_cases h4:k=16; · subst h4;rfl
  by_cases h5:k=17; · subst h5;rfl
  simp[h1,h2,h3,h4,h5]
 have h35:R.f35F k=some (opens k):=by
  unfold R.f35F opens
  by_cases h1:k=19; · subst h1;rfl
  by_cases h2:k=20; · subst h2;rfl
  simp[h1,h2]
 rw[h34,h35]
 cases zfh k<;>cases opens k<;>cases h:(k==(22:Int))<;>simp[h]
theorem zir: ∀ (l:List Int) (b n:Int),xl b n l→ ∀ p,b≤p→p<n→ ∃ s∈xL b l,s.1≤p∧p<s.2
 | [],b,n,h,p,h1,h2=>by have h:b=n:=h;omega
 |c::t,b,n,h,p,h1,h2=>by
  by_cases hp:p<c
  ·exact⟨(b,c),by simp[xL],h1,hp⟩
  ·obtain⟨s,hs,q⟩:=zir t c n h.2 p (by omega) h2
   exact⟨s,by simp[xL,hs],q⟩
theorem zx1 {chars levels:List Int} {base:Int} {n:Nat} (hn:n≤levels.length) {l:List Int} (h:xl 0 (n:Int) l) {r:RowT} (hr:r∈zgd chars levels base 0 l) {p:Int} (hp:p∈r.2.2):
  ∃ k:Nat,p=(k:Int)∧k<n∧r.1≤p∧p<r.2.1∧ctlC (chars.getD k 0)=false:=by
 obtain⟨s,hs,rfl⟩:=List.mem_map.1 hr
 have hm:=zcr l 0 _ h s hs
 obtain⟨a,ha⟩:=Int.eq_ofNat_of_zero_le hm.1
 obtain⟨b,hb⟩:=Int.eq_ofNat_of_zero_le (show 0≤s.2 by omega)
 dsimp only at hp ⊢
 rw[ha,hb,Int.toNat_natCast,Int.toNat_natCast,zn8 (by omega) (by omega)] at hp
 obtain⟨k,rfl,h1,h2,h3⟩:=hp
 exact⟨k,rfl,by omega,by omega,by omega,h3⟩
theorem zx0 {chars levels:List Int} {base:Int} {n:Nat} (hn:n≤levels.length) {l:List Int} (h:xl 0 (n:Int) l) {k:Nat} (hk:k<n) (hc:ctlC (chars.getD k 0)=false): ∃ r∈zgd chars levels base 0 l,(k:Int)∈r.2.2:=by
 obtain⟨s,hs,h1,h2⟩:=zir l 0 _ h (k:Int) (by omega) (by omega)
 have hm:=zcr l 0 _ h s hs
 obtain⟨a,ha⟩:=Int.eq_ofNat_of_zero_le hm.1
 obtain⟨b,hb⟩:=Int.eq_ofNat_of_zero_le (show 0≤s.2 by omega)
 refine⟨_,List.mem_map.2 ⟨s,hs,rfl⟩, ?_⟩
 dsimp only
 rw[ha,hb,Int.toNat_natCast,Int.toNat_natCast,zn8 (by omega) (by omega)]
 exact⟨k,rfl,by omega,by omega,hc⟩
end Go.Sx
