/- Frag, plain: wrapped lines, what isn't seen, which rows hold what. -/
import Derived.Test.YtpmbmobjnknnhaaGreatDoorSxHl
import Derived.Test.YtpmbmobjnknnhaaGreatDoorSxTAd
set_option linter.unusedVariables false
set_option linter.unusedSimpArgs false
namespace Go.Sx
theorem zk3: ∀ (l:List Int) (b m c:Int),qR b m l→m<c→qR b c (l++ [c])
 | [],b,m,c,h,hc=>by have h:b=m:=h;exact⟨by omega,rfl⟩
 |x::l,b,m,c,h,hc=>⟨h.1,zk3 l x m c h.2 hc⟩
theorem z0v {n:Nat} (hn:n≤4000) {w:Int} (hw:1≤w): ∃ l,R.f21F ((n:Int),w)=some l∧qR 0 (n:Int) l:=by
 unfold R.f21F
 dsimp only
 by_cases h0:n=0
 ·subst h0
  exact⟨[],rfl,rfl⟩
 rw[if_neg (by rw[decide_eq_true_eq];omega),if_neg (by rw[decide_eq_true_eq];omega),Option.bind_some,if_neg (by rw[decide_eq_true_eq];omega)]
 refine z4 (Q:=fun e=>qR 0 (n:Int) e) (zq (I:=fun(s:Int×List Int)=> ∃ (k:Nat) (m:Int),s.1=((k+1:Nat):Int)∧k≤n∧m≤k∧qR 0 m s.2∧s.2.length≤k∧(k=n→m=n)) (fun s=>((n:Int)+1 - s.1).toNat) ?_ _ ⟨0,0,rfl,by omega,by omega,rfl,by simp,fun h=>absurd h.symm h0⟩) fun e he=>⟨e,rfl,he⟩
 rintro ⟨i,out⟩ ⟨k,m,hi,hk,hm,hr,hl,hend⟩
 dsimp only at hi hr hl ⊢
 subst hi
 by_cases hkn:k<n
 ·left
  rw[if_pos (by rw[decide_eq_true_eq];omega)]
  have hb: ∃ b,(if(((k+1:Nat):Int)==(n:Int))=true then some (true,out) else if w=0 then none else some (Int.tmod ((k+1:Nat):Int) w==0,out))=some (b,out)∧(k+1=n→b=true):=by
   by_cases h:k+1=n
   ·exact⟨true,by rw[if_pos (by rw[h];exact beq_self_eq_true _)],fun _=>rfl⟩
   ·exact⟨_,by rw[if_neg (by simp;omega),if_neg (by omega)],fun q=>absurd q h⟩
  obtain⟨b,hb1,hb2⟩:=hb
  rw[hb1,Option.bind_some]
  dsimp only
  rw[za (by omega) (by omega)]
  cases b with
  |true=>
   rw[if_pos rfl,if_pos (by simp only[zi];omega)]
   exact⟨_,rfl,⟨k+1,((k+1:Nat):Int),by simp,by omega,by omega,zk3 out 0 m _ hr (by omega),by simp;omega,fun h=>by omega⟩,by simp;omega⟩
  |false=>
   exact⟨_,rfl,⟨k+1,m,by simp,by omega,by omega,hr,by dsimp only;omega,fun h=>by have:=hb2 h;cases this⟩,by simp;omega⟩
 ·right
  have hkn:k=n:=by omega
  rw[if_neg (by rw[decide_eq_true_eq];omega)]
  refine⟨_,rfl, ?_⟩
  have:=hend hkn
  rw[← this]
  exact hr
theorem zi8: ∀ (l:List Int) (b n:Int),qR b n l→ ∀ p,b≤p→p<n→ ∃ s∈qh b l,s.1≤p∧p<s.2
 | [],b,n,h,p,h1,h2=>by have h:b=n:=h;omega
 |c::t,b,n,h,p,h1,h2=>by
  by_cases hp:p<c
  ·exact⟨(b,c),by simp[qh],h1,hp⟩
  ·obtain⟨s,hs,q⟩:=zi8 t c n h.2 p (by omega) h2
   exact⟨s,by simp[qh,hs],q⟩
theorem zye {chars levels:List Int} {base:Int} {n:Nat} (hn:n≤levels.length) {l:List Int} (h:qR 0 (n:Int) l) {r:RowT} (hr:r∈jS chars levels base 0 l) {p:Int} (hp:p∈r.2.2):
  ∃ k:Nat,p=(k:Int)∧k<n∧r.1≤p∧p<r.2.1∧ctlC (chars.getD k 0)=false:=by
 obtain⟨s,hs,rfl⟩:=List.mem_map.1 hr
 have hm:=ja l 0 _ h s hs
 obtain⟨a,ha⟩:=Int.eq_ofNat_of_zero_le hm.1
 obtain⟨b,hb⟩:=Int.eq_ofNat_of_zero_le (show 0≤s.2 by omega)
 dsimp only at hp ⊢
 rw[ha,hb,Int.toNat_natCast,Int.toNat_natCast,zig (by omega) (by omega)] at hp
 obtain⟨k,rfl,h1,h2,h3⟩:=hp
 exact⟨k,rfl,by omega,by omega,by omega,h3⟩
theorem zyd {chars levels:List Int} {base:Int} {n:Nat} (hn:n≤levels.length) {l:List Int} (h:qR 0 (n:Int) l) {k:Nat} (hk:k<n) (hc:ctlC (chars.getD k 0)=false): ∃ r∈jS chars levels base 0 l,(k:Int)∈r.2.2:=by
 obtain⟨s,hs,h1,h2⟩:=zi8 l 0 _ h (k:Int) (by omega) (by omega)
 have hm:=ja l 0 _ h s hs
 obtain⟨a,ha⟩:=Int.eq_ofNat_of_zero_le hm.1
 obtain⟨b,hb⟩:=Int.eq_ofNat_of_zero_le (show 0≤s.2 by omega)
 refine⟨_,List.mem_map.2 ⟨s,hs,rfl⟩, ?_⟩
 dsimp only
 rw[ha,hb,Int.toNat_natCast,Int.toNat_natCast,zig (by omega) (by omega)]
 exact⟨k,rfl,by omega,by omega,hc⟩
end Go.Sx
namespace Go.Sx
structure RowsOk (chars:List Int) (rows:List RowT):Prop where
 small:rows.length+heavy rows≤500
 mem: ∀ r∈rows, ∀ p∈r.2.2, ∃ k:Nat,p=(k:Int)∧k<chars.length∧r.1≤p∧p<r.2.1∧ctlC (chars.getD k 0)=false
 has: ∀ k,k<chars.length→ctlC (chars.getD k 0)=false→ ∃ r∈rows,(k:Int)∈r.2.2
 cnt: ∀ a b,cntR a b rows=cntC (inSp a b) chars 0 chars.length
theorem zyc {chars:List Int} (hl:chars.length≤120) (dir:Int) {l:List Int} (h:qR 0 (chars.length:Int) l):RowsOk chars (ztq chars dir l):=by
 have hv:chars.length≤(zcn chars dir).length:=Nat.le_of_eq (zd9 chars dir).symm
 refine⟨?_,fun r hr p hp=>zye hv h hr hp,fun k hk hc=>zyd hv h hk hc,fun a b=>zr8 (inSp a b) _ hv l 0 h⟩
 have:=zk5 (chars:=chars) (zU (chars.map zX) dir) hv l 0 h
 show(jS chars (zcn chars dir) (zU (chars.map zX) dir) 0 l).length+heavy (jS chars (zcn chars dir) (zU (chars.map zX) dir) 0 l)≤500
 have e:((0:Nat):Int)=0:=rfl
 rw[e] at this
 omega
end Go.Sx
