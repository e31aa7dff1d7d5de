/- The symbolic evaluator, part V4: regions that draw their order, with effects: these come in one order, all else in any. -/
import Derived.Test.YtlppdabhaipbkaaGreatDoorSxV3
set_option linter.unusedVariables false
set_option linter.unusedSimpArgs false
namespace Go.Sx
open Go.RowKit
section
variable {R:Type} {r:R} {P:Program} {C:Ctx} {Γ:List Con} {B:Base} {E:Env} {fr:List SV} {hp:List HO} {a:Act} {w w':World} {o:Oper}
theorem zvw {A D:Type} {m:(R:Type)→(A→D→Option R)→Option R} (hm:CN2 m) {k:A→D→Option R} (h:m R k=some r): ∃ x y,m (A×D) (fun a b=>some (a,b))=some (x,y)∧k x y=some r:=by
 rw[hm R k] at h
 cases hx:m (A×D) (fun a b=>some (a,b)) with
 |none=>rw[hx] at h;cases h
 |some p=>rw[hx] at h;exact⟨p.1,p.2,rfl,h⟩
def xj (T:List Nat):Nat→List HO→List HO
 |_, []=> []
 |i,o::l=>(bif memN i T then o else .gone)::xj T (i+1) l
theorem zlq (T:List Nat) (k:List HO→Option R): ∀ (i:Nat) (l:List HO),zo9 T i l k=k (xj T i l):=by
 intro i l
 induction l generalizing i k with
 |nil=>rfl
 |cons o l ih=>
  unfold zo9 xj
  cases memN i T with
  |true=>rw[cond_true,ih];rfl
  |false=>rw[cond_false,ih];rfl
theorem xk (T:List Nat): ∀ (i:Nat) (l:List HO),(xj T i l).length=l.length
 |_, []=>rfl
 |i,o::l=>by simp[xj,xk T (i+1) l]
theorem zee (T:List Nat): ∀ (i:Nat) (l:List HO) (x:Nat),(xj T i l)[x]? =(l[x]?).map fun o=>bif memN (i+x) T then o else .gone
 |_, [],x=>by simp[xj]
 |i,o::l,0=>by simp[xj]
 |i,o::l,x+1=>by
  simp only[xj,List.getElem?_cons_succ]
  rw[zee T (i+1) l x,show i+1+x=i+(x+1) by omega]
theorem qN {T:List Nat} {x:Nat} {o:HO} (h:(xj T 0 hp)[x]? =some o):(hp[x]? =some o∧memN x T=true)∨o= .gone:=by
 rw[zee,Nat.zero_add] at h
 cases hx:hp[x]? with
 |none=>rw[hx] at h;cases h
 |some o'=>
  rw[hx] at h
  simp only[Option.map_some,Option.some.injEq] at h
  cases hm:memN x T with
  |true=>rw[hm,cond_true] at h;exact .inl ⟨by rw[h],rfl⟩
  |false=>rw[hm,cond_false] at h;exact .inr h.symm
theorem Hp.mask (h:Hp B E hp w) (T:List Nat):Hp B E (xj T 0 hp) w where
 tok:=fun i o e h1 h2=>by
  rcases qN h1 with ⟨g,_⟩|g
  ·exact h.tok i o e g h2
  ·subst g;exact⟨trivial,List.nodup_nil,fun b hb=>by simp[HO.tails] at hb⟩
 tdist:=fun i j o o' e e' b h1 h3 h5 h6 h7 h8=>by
  rcases qN h1 with ⟨g,_⟩|g
  ·rcases qN h3 with ⟨g',_⟩|g'
   ·exact h.tdist i j o o' e e' b g g' h5 h6 h7 h8
   ·subst g';simp[HO.tails] at h8
  ·subst g;simp[HO.tails] at h7
 ag:=h.ag
 base:=h.base
 fresh:=h.fresh
 ok:=h.ok
 len:=by rw[xk];exact h.len
 free:=fun i o e b h1 h2 h3 h4=>by
  rcases qN h1 with ⟨g,_⟩|g
  ·exact h.free i o e b g h2 h3 h4
  ·subst g;simp[HO.live] at h2
 dist:=fun i j o o' e e' b h1 h2 h3 h4 h5 h6 h7 h8=>by
  rcases qN h1 with ⟨g,_⟩|g
  ·rcases qN h3 with ⟨g',_⟩|g'
   ·exact h.dist i j o o' e e' b g h2 g' h4 h5 h6 h7 h8
   ·subst g';simp[HO.live] at h4
  ·subst g;simp[HO.live] at h2
 ob:=fun i o e h1 h2=>by
  rcases qN h1 with ⟨g,_⟩|g
  ·exact h.ob i o e g h2
  ·subst g;trivial
def zs9 (E:Env) (hp:List HO) (w:World) (T:List Nat) (b:Nat):Prop:= ∃ (i:Nat) (o:HO) (e:LE),memN i T=true∧hp[i]? =some o∧E.L[i]? =some e∧((o.live=true∧e.blk=some b)∨b∈o.tails w e)
theorem Hp.sub (h:Hp B E hp w) (T:List Nat):Hp ⟨w,zs9 E hp w T,E.M⟩ E (xj T 0 hp) w where
 tok:=fun i o e h1 h2=>by
  rcases qN h1 with ⟨g,g2⟩|g
  ·obtain⟨t1,t2,t3⟩:=h.tok i o e g h2
   exact⟨t1,t2,fun b hb=>⟨(t3 b hb).1, .inr ⟨i,o,e,g2,g,h2, .inr hb⟩⟩⟩
  ·subst g;exact⟨trivial,List.nodup_nil,fun b hb=>by simp[HO.tails] at hb⟩
 tdist:=(h.mask T).tdist
 ag:=h.ag
 base:=Mem.le_refl _
 fresh:=fun b c hb=> .inl hb
 ok:=⟨rfl,rfl,rfl,Nat.le_refl _,fun _ _ _=>rfl⟩
 len:=by rw[xk];exact h.len
 free:=fun i o e b h1 h2 h3 h4=>by
  rcases qN h1 with ⟨g,g2⟩|g
  ·exact⟨(h.free i o e b g h2 h3 h4).1, .inr ⟨i,o,e,g2,g,h3, .inl ⟨h2,h4⟩⟩⟩
  ·subst g;simp[HO.live] at h2
 dist:=(h.mask T).dist
 ob:=(h.mask T).ob
def jI (T:List Nat):Nat→List HO→List HO→List HO
 |_, [],l'=>l'
 |i,o::l,o'::l'=>(bif memN i T then o' else o)::jI T (i+1) l l'
 |_,_::_, []=> []
theorem zh4 (T:List Nat): ∀ (l l':List HO) (i:Nat) (k:List HO→Option R),l.length≤l'.length→zj7 T i l l' k=k (jI T i l l')
 | [],l',i,k,_=>by unfold zj7 jI;rfl
 |o::l, [],i,k,h=>by simp at h
 |o::l,o'::l',i,k,h=>by
  unfold zj7 jI
  cases memN i T with
  |true=>rw[cond_true,zh4 T l l' (i+1) _ (by simpa using h)];rfl
  |false=>rw[cond_false,zh4 T l l' (i+1) _ (by simpa using h)];rfl
theorem zfb (T:List Nat): ∀ (l l':List HO) (i x:Nat),l.length≤l'.length→(jI T i l l')[x]? =if x<l.length∧memN (i+x) T=false then l[x]? else l'[x]?
 | [],l',i,x,_=>by simp[jI]
 |o::l, [],i,x,h=>by simp at h
 |o::l,o'::l',i,0,h=>by
  simp only[jI,List.getElem?_cons_zero,Nat.add_zero,List.length_cons,Nat.zero_lt_succ,true_and]
  cases memN i T<;>simp
 |o::l,o'::l',i,x+1,h=>by
  simp only[jI,List.getElem?_cons_succ,List.length_cons]
  rw[zfb T l l' (i+1) x (by simpa using h),show i+1+x=i+(x+1) by omega]
  simp
theorem zfc (T:List Nat): ∀ (l l':List HO) (i:Nat),l.length≤l'.length→(jI T i l l').length=l'.length
 | [],l',i,_=>by simp[jI]
 |o::l, [],i,h=>by simp at h
 |o::l,o'::l',i,h=>by simp[jI,zfc T l l' (i+1) (by simpa using h)]
theorem Hp.frame (h:Hp B E hp w) {T:List Nat} {E':Env} {hp':List HO} (hE:E.le E') (h':Hp ⟨w,zs9 E hp w T,E.M⟩ E' hp' w') (hlen:hp.length≤hp'.length):Hp B E' (jI T 0 hp hp') w':=by
 have hget:=fun x=>zfb T hp hp' 0 x hlen
 have from': ∀ {x:Nat} {o:HO},(jI T 0 hp hp')[x]? =some o→(hp[x]? =some o∧memN x T=false∧ ∃ e,E.L[x]? =some e∧E'.L[x]? =some e)∨(hp'[x]? =some o∧(memN x T=true∨hp.length≤x)):=by
  intro x o hx
  rw[hget,Nat.zero_add] at hx
  by_cases hc:x<hp.length∧memN x T=false
  ·rw[if_pos hc] at hx
   have hl:x<E.L.length:=by rw[h.len];exact hc.1
   exact .inl ⟨hx,hc.2,_,List.getElem?_eq_getElem hl,hE.2 _ _ (List.getElem?_eq_getElem hl)⟩
  ·rw[if_neg hc] at hx
   refine .inr ⟨hx, ?_⟩
   cases hm:memN x T with
   |true=>exact .inl rfl
   |false=>exact .inr (Nat.le_of_not_lt fun hl=>hc ⟨hl,hm⟩)
 have hW: ∀ b,zs9 E hp w T b→b<w.heap.size∧(B.w0.heap.size≤b∨B.W b):=by
  rintro b ⟨i,o,e,h1,h2,h4,⟨h3,h5⟩|h5⟩
  ·exact⟨HO.sat_lt h3 (h.ob i o e h2 h4) h5,(h.free i o e b h2 h3 h4 h5).2⟩
  ·exact⟨h.tail_lt h2 h4 h5,((h.tok i o e h2 h4).2.2 b h5).2⟩
 have hnot: ∀ {x:Nat} {o:HO} {e:LE} {b:Nat},hp[x]? =some o→o.live=true→E.L[x]? =some e→e.blk=some b→memN x T=false→ ¬ zs9 E hp w T b:=by
  rintro x o e b h1 h2 h3 h4 h5 ⟨i,o',e',g1,g2,g4,⟨g3,g5⟩|g5⟩
  ·have:=h.dist x i o o' e e' b h1 h2 g2 g3 h3 g4 h4 g5
   subst this
   rw[g1] at h5;cases h5
  ·obtain⟨c,hc⟩:=h.tail_some g2 g4 g5
   rw[(h.free x o e b h1 h2 h3 h4).1] at hc;cases hc
 have hnotT: ∀ {x:Nat} {o:HO} {e:LE} {b:Nat},hp[x]? =some o→E.L[x]? =some e→b∈o.tails w e→memN x T=false→ ¬ zs9 E hp w T b:=by
  rintro x o e b h1 h3 h4 h5 ⟨i,o',e',g1,g2,g4,⟨g3,g5⟩|g5⟩
  ·obtain⟨c,hc⟩:=h.tail_some h1 h3 h4
   rw[(h.free i o' e' b g2 g3 g4 g5).1] at hc;cases hc
  ·have:=h.tdist x i o o' e e' b h1 g2 h3 g4 h4 g5
   subst this
   rw[g1] at h5;cases h5
 have hblk: ∀ {x:Nat} {o:HO} {e:LE} {b:Nat},hp[x]? =some o→o.live=true→E.L[x]? =some e→e.blk=some b→memN x T=false→w'.heap[b]? =w.heap[b]? :=fun h1 h2 h3 h4 h5=>
  h'.ok.block _ (HO.sat_lt h2 (h.ob _ _ _ h1 h3) h4) (hnot h1 h2 h3 h4 h5)
 have htok: ∀ {x:Nat} {o:HO} {e:LE},hp[x]? =some o→E.L[x]? =some e→memN x T=false→o.tok E'.M w' e∧o.tails w' e=o.tails w e∧ ∀ b∈o.tails w e,E'.M b=E.M b:=by
  intro x o e h1 h3 h5
  have hsame: ∀ b∈o.tails w e,zbk E.M E'.M w w' b:=by
   intro b hb
   obtain⟨c,hc⟩:=h.tail_some h1 h3 hb
   have hlt:=h.tail_lt h1 h3 hb
   have hn:=hnotT h1 h3 hb h5
   refine⟨h'.ok.block _ hlt hn, ?_⟩
   obtain⟨c',q1,_⟩:=hE.1 b c hc
   rcases h'.fresh b c' q1 with q|q|q
   ·rw[q1];exact q.symm
   ·simp only at q;omega
   ·exact absurd q hn
  obtain⟨g1,g2⟩:=HO.tok_keep hE.1 (fun b hl hb=>hblk h1 hl h3 hb h5) hsame (h.tok x o e h1 h3).1
  exact⟨g1,g2,fun b hb=>(hsame b hb).2⟩
 have hapartT: ∀ {x y:Nat} {o o':HO} {e e':LE} {b:Nat},hp[x]? =some o→E.L[x]? =some e→b∈o.tails w e→memN x T=false→hp'[y]? =some o'→E'.L[y]? =some e'→b∈o'.tails w' e'→False:=by
  intro x y o o' e e' b h1 h3 h4 h5 g1 g3 g4
  rcases((h'.tok y o' e' g1 g3).2.2 b g4).2 with k|k
  ·have:=h.tail_lt h1 h3 h4
   simp only at k
   omega
  ·exact hnotT h1 h3 h4 h5 k
 have hapart: ∀ {x y:Nat} {o o':HO} {e e':LE} {b:Nat},hp[x]? =some o→o.live=true→E.L[x]? =some e→e.blk=some b→memN x T=false→hp'[y]? =some o'→o'.live=true→E'.L[y]? =some e'→e'.blk=some b→False:=by
  intro x y o o' e e' b h1 h2 h3 h4 h5 g1 g2 g3 g4
  rcases(h'.free y o' e' b g1 g2 g3 g4).2 with k|k
  ·have:=HO.sat_lt h2 (h.ob x o e h1 h3) h4
   simp only at k
   omega
  ·exact hnot h1 h2 h3 h4 h5 k
 exact {
  tok:=fun x o e h1 h2=>by
   rcases from' h1 with ⟨k1,k2,e1,k3,k4⟩|⟨k1,k2⟩
   ·rw[k4] at h2;cases h2
    obtain⟨_,t2,t3⟩:=h.tok x o _ k1 k3
    obtain⟨g1,g2,g3⟩:=htok k1 k3 k2
    refine⟨g1,g2▸t2,fun b hb=> ?_⟩
    rw[g2] at hb
    exact⟨by rw[g3 b hb];exact(t3 b hb).1,(t3 b hb).2⟩
   ·obtain⟨t1,t2,t3⟩:=h'.tok x o e k1 h2
    refine⟨t1,t2,fun b hb=>⟨(t3 b hb).1, ?_⟩⟩
    rcases(t3 b hb).2 with g|g
    ·exact .inl (Nat.le_trans h.ok.size g)
    ·exact(hW b g).2
  tdist:=fun x y o o' e e' b h1 h3 h5 h6 h7 h8=>by
   rcases from' h1 with ⟨k1,k2,e1,k3,k4⟩|⟨k1,k2⟩<;>rcases from' h3 with ⟨l1,l2,e2,l3,l4⟩|⟨l1,l2⟩
   ·rw[k4] at h5;cases h5;rw[l4] at h6;cases h6
    rw[(htok k1 k3 k2).2.1] at h7
    rw[(htok l1 l3 l2).2.1] at h8
    exact h.tdist x y o o' _ _ b k1 l1 k3 l3 h7 h8
   ·rw[k4] at h5;cases h5
    rw[(htok k1 k3 k2).2.1] at h7
    exact(hapartT k1 k3 h7 k2 l1 h6 h8).elim
   ·rw[l4] at h6;cases h6
    rw[(htok l1 l3 l2).2.1] at h8
    exact(hapartT l1 l3 h8 l2 k1 h5 h7).elim
   ·exact h'.tdist x y o o' e e' b k1 l1 h5 h6 h7 h8
  ag:=h'.ag
  base:=Mem.le_trans h.base h'.base
  fresh:=fun b c hb=>by
   rcases h'.fresh b c hb with k|k|k
   ·exact h.fresh b c k
   ·exact .inr (.inl (Nat.le_trans h.ok.size k))
   ·exact .inr ((hW b k).2)
  ok:=⟨h'.ok.os.trans h.ok.os,h'.ok.tape.trans h.ok.tape,h'.ok.output.trans h.ok.output,Nat.le_trans h.ok.size h'.ok.size,fun k hk hn=>by
   rw[h'.ok.block k (Nat.lt_of_lt_of_le hk h.ok.size) fun hb=>by
    rcases(hW k hb).2 with g|g
    ·omega
    ·exact hn g]
   exact h.ok.block k hk hn⟩
  len:=by rw[zfc T hp hp' 0 hlen];exact h'.len
  free:=fun x o e b h1 h2 h3 h4=>by
   rcases from' h1 with ⟨k1,k2,e',k3,k4⟩|⟨k1,k2⟩
   ·rw[k4] at h3;cases h3
    refine⟨?_,(h.free x o e b k1 h2 k3 h4).2⟩
    cases hm:E'.M b with
    |none=>rfl
    |some c=>
     exfalso
     rcases h'.fresh b c hm with g|g|g
     ·have g':E.M b=some c:=g
      rw[(h.free x o e b k1 h2 k3 h4).1] at g';cases g'
     ·have:=HO.sat_lt h2 (h.ob x o e k1 k3) h4
      simp only at g
      omega
     ·exact hnot k1 h2 k3 h4 k2 g
   ·obtain⟨g1,g2⟩:=h'.free x o e b k1 h2 h3 h4
    refine⟨g1, ?_⟩
    rcases g2 with g2|g2
    ·exact .inl (Nat.le_trans h.ok.size g2)
    ·exact(hW b g2).2
  dist:=fun x y o o' e e' b h1 h2 h3 h4 h5 h6 h7 h8=>by
   rcases from' h1 with ⟨k1,k2,e1,k3,k4⟩|⟨k1,k2⟩<;>rcases from' h3 with ⟨l1,l2,e2,l3,l4⟩|⟨l1,l2⟩
   ·rw[k4] at h5;cases h5;rw[l4] at h6;cases h6
    exact h.dist x y o o' _ _ b k1 h2 l1 h4 k3 l3 h7 h8
   ·rw[k4] at h5;cases h5
    exact(hapart k1 h2 k3 h7 k2 l1 h4 h6 h8).elim
   ·rw[l4] at h6;cases h6
    exact(hapart l1 h4 l3 h8 l2 k1 h2 h5 h7).elim
   ·exact h'.dist x y o o' e e' b k1 h2 l1 h4 h5 h6 h7 h8
  ob:=fun x o e h1 h2=>by
   rcases from' h1 with ⟨k1,k2,e1,k3,k4⟩|⟨k1,k2⟩
   ·rw[k4] at h2;cases h2
    exact HO.sat_keep hE (h.ob x o e k1 k3) fun b hl hb=>hblk k1 hl k3 hb k2
   ·exact h'.ob x o e k1 h2}
theorem zh7: ∀ (n:Nat) (l:List HO) (k:List HO→Option R),zwy n l k=k (l++List.replicate (n - l.length) .gone)
 |0,l,k=>by unfold zwy;simp
 |n+1, [],k=>by unfold zwy;rw[zh7 n];simp[List.replicate_succ]
 |n+1,o::l,k=>by unfold zwy;rw[zh7 n];simp[Nat.add_sub_add_right]
theorem xz {hp:List HO} {k:List Nat→Option R}: ∀ {n:Nat} {todo seen:List Nat},zfz hp n todo seen k=some r→ ∃ T,k T=some r
 |0,todo,seen,h=>⟨seen,h⟩
 |_+1, [],seen,h=>⟨seen,h⟩
 |n+1,i::todo,seen,h=>by
  unfold zfz at h
  cases hm:memN i seen with
  |true=>rw[hm] at h;exact xz (n:=n) h
  |false=>
   rw[hm,cond_false] at h
   split at h
   ·exact xz (n:=n) h
   ·exact xz (n:=n) h
theorem Hp.part (h:Hp B E hp w) (T:List Nat) {N:Nat} (hN:hp.length≤N):Hp B ⟨E.M,E.L++List.replicate (N - hp.length) ⟨none,0,0,none⟩⟩ (xj T 0 hp++List.replicate (N - hp.length) .gone) w:=by
 have:=(h.mask T).room (List.replicate (N - hp.length) ⟨none,0,0,none⟩)
 rw[List.length_replicate] at this
 exact this
theorem Env.le_pad (E:Env) (es:List LE):E.le ⟨E.M,E.L++es⟩:=⟨Mem.le_refl _,fun i e hi=>by
 show(E.L++es)[i]? =some e
 rw[List.getElem?_append_left (List.getElem?_eq_some_iff.1 hi).1]
 exact hi⟩
theorem jb {t:Nat}: ∀ {l m:List Nat},t∈zi3 l m↔t∈l∨t∈m
 | [],m=>by simp[zi3]
 |x::l,m=>by simp[zi3,jb (l:=l),or_assoc]
mutual
theorem SV.sat_ids {E:Env}: ∀ (s:SV) (v:Value),s.sat E v→ ∀ i∈s.ids, ∃ e,E.L[i]? =some e
 | .und,_,_,i,hi=>by simp[SV.ids] at hi
 | .skip,_,_,i,hi=>by simp[SV.ids] at hi
 | .bit _,_,_,i,hi=>by simp[SV.ids] at hi
 | .val _ _,_,_,i,hi=>by simp[SV.ids] at hi
 | .nils,_,_,i,hi=>by simp[SV.ids] at hi
 | .ub _ _,_,_,i,hi=>by simp[SV.ids] at hi
 | .nil0,_,_,i,hi=>by simp[SV.ids] at hi
 | .nilp,_,_,i,hi=>by simp[SV.ids] at hi
 | .ro _ _,_,_,i,hi=>by simp[SV.ids] at hi
 | .own id len,_,h,i,hi=>by
  simp only[SV.ids,List.mem_singleton] at hi
  simp only[SV.sat] at h
  obtain⟨e,h1,_⟩:=h
  subst hi;exact⟨e,h1⟩
 | .ptr id off,_,h,i,hi=>by
  simp only[SV.ids,List.mem_singleton] at hi
  simp only[SV.sat] at h
  obtain⟨e,b,h1,_⟩:=h
  subst hi;exact⟨e,h1⟩
 | .elt id t j p,_,h,i,hi=>by
  simp only[SV.ids,List.mem_singleton] at hi
  simp only[SV.sat] at h
  obtain⟨e,b,h1,_⟩:=h
  subst hi;exact⟨e,h1⟩
 | .vw id t off len,_,h,i,hi=>by
  simp only[SV.ids,List.mem_singleton] at hi
  simp only[SV.sat] at h
  obtain⟨e,ad,cap,h1,_⟩:=h
  subst hi;exact⟨e,h1⟩
 | .mp id,_,h,i,hi=>by
  simp only[SV.ids,List.mem_singleton] at hi
  simp only[SV.sat] at h
  obtain⟨e,b,h1,_⟩:=h
  subst hi;exact⟨e,h1⟩
 | .agg l,_,h,i,hi=>by
  simp only[SV.ids] at hi
  simp only[SV.sat] at h
  obtain⟨cs,_,h2⟩:=h
  exact zcq l cs h2 i hi
 | .tup l,_,h,i,hi=>by
  simp only[SV.ids] at hi
  simp only[SV.sat] at h
  obtain⟨cs,_,h2⟩:=h
  exact zcq l cs h2 i hi
 | .fn _ l,_,h,i,hi=>by
  simp only[SV.ids] at hi
  simp only[SV.sat] at h
  obtain⟨cs,_,h2⟩:=h
  exact zcq l cs h2 i hi
theorem zcq {E:Env}: ∀ (l:List SV) (vs:List Value),SV.satL E l vs→ ∀ i∈zc1 l, ∃ e,E.L[i]? =some e
 | [],_,_,i,hi=>by simp[zc1] at hi
 |s::l,_,h,i,hi=>by
  simp only[SV.satL] at h
  obtain⟨v,ws,_,h2,h3⟩:=h
  simp only[zc1,jb] at hi
  rcases hi with hi|hi
  ·exact SV.sat_ids s v h2 i hi
  ·exact zcq l ws h3 i hi
end
mutual
theorem SV.sat_shrink {E:Env} {es:List LE}: ∀ (s:SV) (v:Value),s.sat ⟨E.M,E.L++es⟩ v→(∀ i∈s.ids,i<E.L.length)→s.sat E v
 | .und,_,h,_=>by simp[SV.sat]
 | .skip,_,h,_=>by simpa [SV.sat] using h
 | .bit _,_,h,_=>by simpa [SV.sat] using h
 | .val _ _,_,h,_=>by simpa [SV.sat] using h
 | .nils,_,h,_=>by simpa [SV.sat] using h
 | .ub _ _,_,h,_=>by simpa [SV.sat] using h
 | .nil0,_,h,_=>by simpa [SV.sat] using h
 | .nilp,_,h,_=>by simpa [SV.sat] using h
 | .ro _ _,_,h,_=>by simpa [SV.sat] using h
 | .own id len,_,h,hi=>by
  simp only[SV.sat] at h ⊢
  obtain⟨e,h1,h2⟩:=h
  rw[List.getElem?_append_left (hi id (by simp[SV.ids]))] at h1
  exact⟨e,h1,h2⟩
 | .ptr id off,_,h,hi=>by
  simp only[SV.sat] at h ⊢
  obtain⟨e,b,h1,h2⟩:=h
  rw[List.getElem?_append_left (hi id (by simp[SV.ids]))] at h1
  exact⟨e,b,h1,h2⟩
 | .elt id t j p,_,h,hi=>by
  simp only[SV.sat] at h ⊢
  obtain⟨e,b,h1,h2⟩:=h
  rw[List.getElem?_append_left (hi id (by simp[SV.ids]))] at h1
  exact⟨e,b,h1,h2⟩
 | .vw id t off len,_,h,hi=>by
  simp only[SV.sat] at h ⊢
  obtain⟨e,ad,cap,h1,h2⟩:=h
  rw[List.getElem?_append_left (hi id (by simp[SV.ids]))] at h1
  exact⟨e,ad,cap,h1,h2⟩
 | .mp id,_,h,hi=>by
  simp only[SV.sat] at h ⊢
  obtain⟨e,b,h1,h2⟩:=h
  rw[List.getElem?_append_left (hi id (by simp[SV.ids]))] at h1
  exact⟨e,b,h1,h2⟩
 | .agg l,_,h,hi=>by
  simp only[SV.sat] at h ⊢
  obtain⟨cs,h1,h2⟩:=h
  exact⟨cs,h1,za2 l cs h2 fun i hi'=>hi i (by simpa only[SV.ids] using hi')⟩
 | .tup l,_,h,hi=>by
  simp only[SV.sat] at h ⊢
  obtain⟨cs,h1,h2⟩:=h
  exact⟨cs,h1,za2 l cs h2 fun i hi'=>hi i (by simpa only[SV.ids] using hi')⟩
 | .fn _ l,_,h,hi=>by
  simp only[SV.sat] at h ⊢
  obtain⟨cs,h1,h2⟩:=h
  exact⟨cs,h1,za2 l cs h2 fun i hi'=>hi i (by simpa only[SV.ids] using hi')⟩
theorem za2 {E:Env} {es:List LE}: ∀ (l:List SV) (vs:List Value),SV.satL ⟨E.M,E.L++es⟩ l vs→(∀ i∈zc1 l,i<E.L.length)→SV.satL E l vs
 | [],_,h,_=>by simpa [SV.satL] using h
 |s::l,_,h,hi=>by
  simp only[SV.satL] at h ⊢
  obtain⟨v,ws,h1,h2,h3⟩:=h
  exact⟨v,ws,h1,SV.sat_shrink s v h2 fun i hi'=>hi i (by simp only[zc1,jb];exact .inl hi'),za2 l ws h3 fun i hi'=>hi i (by simp only[zc1,jb];exact .inr hi')⟩
end
theorem zav {n:Nat}: ∀ {l:List Nat},memN n l=true↔n∈l
 | []=>by simp[memN]
 |m::l=>by
  unfold memN
  cases hb:Nat.beq n m with
  |true=>rw[cond_true];simp[Nat.eq_of_beq_eq_true hb]
  |false=>
   rw[cond_false,zav,List.mem_cons]
   constructor
   ·exact .inr
   ·rintro (h|h)
    ·subst h;simp at hb
    ·exact h
theorem zeq {m:List Nat}: ∀ {l:List Nat},zw9 l m=true→ ∀ i∈l,i∈m
 | [],_,i,hi=>by simp at hi
 |x::l,h,i,hi=>by
  unfold zw9 at h
  cases hm:memN x m with
  |false=>rw[hm] at h;cases h
  |true=>
   rw[hm,cond_true] at h
   rcases List.mem_cons.1 hi with hi|hi
   ·subst hi;exact zav.1 hm
   ·exact zeq h i hi
theorem xe {i:Nat}: ∀ {l:List HO},i∈zbc l→ ∃ (x:Nat) (c:List SV),l[x]? =some (.cells c)∧i∈zc1 c
 | [],h=>by simp[zbc] at h
 | .cells c::os,h=>by
  simp only[zbc,jb] at h
  rcases h with h|h
  ·exact⟨0,c,rfl,h⟩
  ·obtain⟨x,c',h1,h2⟩:=xe h
   exact⟨x+1,c',by simpa using h1,h2⟩
 | .gone::os,h=>by
  obtain⟨x,c',h1,h2⟩:=xe (l:=os) h
  exact⟨x+1,c',by simpa using h1,h2⟩
 | .arr _ _ _::os,h=>by
  obtain⟨x,c',h1,h2⟩:=xe (l:=os) h
  exact⟨x+1,c',by simpa using h1,h2⟩
 | .frs _ _::os,h=>by
  obtain⟨x,c',h1,h2⟩:=xe (l:=os) h
  exact⟨x+1,c',by simpa using h1,h2⟩
 | .map _ _ _::os,h=>by
  obtain⟨x,c',h1,h2⟩:=xe (l:=os) h
  exact⟨x+1,c',by simpa using h1,h2⟩
 | .tk _ _ _::os,h=>by
  obtain⟨x,c',h1,h2⟩:=xe (l:=os) h
  exact⟨x+1,c',by simpa using h1,h2⟩
 | .fro _ _::os,h=>by
  obtain⟨x,c',h1,h2⟩:=xe (l:=os) h
  exact⟨x+1,c',by simpa using h1,h2⟩
theorem z0v {i:Nat} (h: ∃ e,E.L[i]? =some e):i<E.L.length:=let ⟨_,h1⟩:=h;(List.getElem?_eq_some_iff.1 h1).1
theorem zlz (h:Hp B E hp w) {T:List Nat} {N:Nat} {fr:List SV} {vs:List Value} (hf:SV.satL E fr vs) {s:SV} {v:Value} (hs:s.sat ⟨E.M,E.L++List.replicate (N - hp.length) ⟨none,0,0,none⟩⟩ v)
  (hi: ∀ i∈s.ids,i∈zc1 fr∨i∈zbc (xj T 0 hp++List.replicate (N - hp.length) .gone)):s.sat E v:=by
 refine SV.sat_shrink s v hs fun i hi'=>z0v ?_
 rcases hi i hi' with g|g
 ·exact zcq fr vs hf i g
 ·obtain⟨x,c,g1,g2⟩:=xe g
  have hx:(xj T 0 hp)[x]? =some (.cells c):=by
   rcases Nat.lt_or_ge x (xj T 0 hp).length with hl|hl
   ·rwa [List.getElem?_append_left hl] at g1
   ·rw[List.getElem?_append_right hl,List.getElem?_replicate] at g1
    split at g1<;>cases g1
  rcases qN hx with ⟨q1,_⟩|q1
  ·have hl:x<E.L.length:=by rw[h.len];exact(List.getElem?_eq_some_iff.1 q1).1
   obtain⟨b,cc,T',k1,k2,k3⟩:=h.ob x _ _ q1 (List.getElem?_eq_getElem hl)
   exact zcq c _ k3 i g2
  ·cases q1
def wk (hp:List HO) (x:Nat):Option HO:=(hp[x]?).map HO.weak
theorem zmd: ∀ (l:List HO) (k:List HO→Option R),zvk l k=k (l.map HO.weak)
 | [],k=>rfl
 |o::l,k=>by
  unfold zvk
  rw[zmd l];rfl
theorem zds {M:Mem}: ∀ (t:Ty) (x:t.den) (cs:List Value),Rep M t x cs→Rep M t (t.weak x) cs
 | .osl _,_,_,h=>h
 | .arr _ e,_,_,⟨h1,h2⟩=>⟨by simpa [Ty.weak] using h1,xU (zds e) h2⟩
 | .pair a b,_,_,⟨c,d,e,h1,h2⟩=>⟨c,d,e,zds a _ _ h1,zds b _ _ h2⟩
 | .st f,_,_,h=>zds f _ _ h
 | .int _,_,_,h=>h
 | .bool,_,_,h=>h
 | .str,_,_,h=>h
 | .flt,_,_,h=>h
 | .cplx,_,_,h=>h
 | .unit,_,_,h=>h
 | .sl _,_,_,h=>h
theorem Ty.weak_plain: ∀ (t:Ty) (x:t.den),t.noOwn=true→t.weak x=x
 | .osl _,_,h=>by cases h
 | .arr _ e,xs,h=>by
  show List.map e.weak xs=xs
  rw[List.map_congr_left (g:=id) (fun x _=>Ty.weak_plain e x h),List.map_id]
 | .pair a b,x,h=>by
  simp only[Ty.noOwn,Bool.and_eq_true] at h
  show(a.weak x.1,b.weak x.2)=x
  rw[Ty.weak_plain a _ h.1,Ty.weak_plain b _ h.2]
 | .st f,x,h=>Ty.weak_plain f x h
 | .int _,_,_=>rfl
 | .bool,_,_=>rfl
 | .str,_,_=>rfl
 | .flt,_,_=>rfl
 | .cplx,_,_=>rfl
 | .unit,_,_=>rfl
 | .sl _,_,_=>rfl
theorem jt: ∀ (t:Ty) (x:t.den) (cs:List Value),tailsT t (t.weak x) cs= []
 | .osl _,_,_=>rfl
 | .pair a b,x,cs=>by rw[Ty.weak,tailsT,jt a,jt b];rfl
 | .st f,x,cs=>jt f x cs
 | .arr n e,xs,cs=>x7 (jt e) xs cs
 | .int _,_,_=>rfl
 | .bool,_,_=>rfl
 | .str,_,_=>rfl
 | .flt,_,_=>rfl
 | .cplx,_,_=>rfl
 | .unit,_,_=>rfl
 | .sl _,_,_=>rfl
theorem zbl {M:Mem} {w:World}: ∀ (t:Ty) (x:t.den) (cs:List Value),TokT M w t (t.weak x) cs
 | .osl _,_,_=>fun h=>by cases h
 | .pair a b,x,cs=>⟨zbl a _ _,zbl b _ _⟩
 | .st f,x,cs=>zbl f x cs
 | .arr n e,xs,cs=>zdt (zbl e) xs cs
 | .int _,_,_=>trivial
 | .bool,_,_=>trivial
 | .str,_,_=>trivial
 | .flt,_,_=>trivial
 | .cplx,_,_=>trivial
 | .unit,_,_=>trivial
 | .sl _,_,_=>trivial
theorem HO.weak_cases (o:HO):o.weak=o∨ ∃ T t xs,o= .arr T t xs∧t.noOwn=false∧o.weak= .arr T t (xs.map (Ty.weak t)):=by
 cases o with
 |arr T t xs=>
  cases hno:t.noOwn with
  |true=>left;simp[HO.weak,hno]
  |false=>right;exact⟨T,t,xs,rfl,hno,by simp[HO.weak,hno]⟩
 |_=>exact .inl rfl
theorem HO.weak_live (o:HO):o.weak.live=o.live:=by
 rcases o.weak_cases with h|⟨T,t,xs,rfl,_,h⟩<;>rw[h]
 rfl
theorem HO.weak_spec {E:Env} {w:World} {e:LE} (o:HO):(o.sat E w e→o.weak.sat E w e)∧(∀ M,o.tok M w e→o.weak.tok M w e)∧(o.weak.tails w e=o.tails w e∨o.weak.tails w e= []):=by
 rcases o.weak_cases with h|⟨T,t,xs,rfl,_,h⟩
 ·rw[h];exact⟨id,fun _=>id, .inl rfl⟩
 ·rw[h]
  refine⟨fun⟨g1,g2,g3,g4,g5⟩=>⟨by simpa using g1,g2,g3,g4,fun b hb=> ?_⟩,fun M _ b c U f _ _=>zdt (zbl t) _ _, .inr ?_⟩
  ·obtain⟨c,d,post,k1,k2,k3,k4⟩:=g5 b hb
   exact⟨c,d,post,k1,k2,xU (zds t) k3,k4⟩
  ·simp only[HO.tails]
   cases e.blk with
   |none=>rfl
   |some b=>
    dsimp only
    split
    ·exact x7 (jt t) _ _
    ·rfl
theorem Hp.weaken (h:Hp B E hp w):Hp B E (hp.map HO.weak) w:=by
 have get: ∀ {i:Nat} {o:HO},(hp.map HO.weak)[i]? =some o→ ∃ o',hp[i]? =some o'∧o=o'.weak:=by
  intro i o hi
  rw[List.getElem?_map] at hi
  cases ho:hp[i]? with
  |none=>rw[ho] at hi;cases hi
  |some o'=>rw[ho] at hi;simp at hi;exact⟨o',rfl,hi.symm⟩
 have sub: ∀ {o':HO} {e:LE} {b:Nat},b∈o'.weak.tails w e→b∈o'.tails w e:=by
  intro o' e b hb
  rcases(HO.weak_spec (E:=E) (w:=w) (e:=e) o').2.2 with h1|h1
  ·rwa [h1] at hb
  ·rw[h1] at hb;simp at hb
 exact {
  ag:=h.ag
  base:=h.base
  fresh:=h.fresh
  ok:=h.ok
  len:=by simp[h.len]
  free:=fun i o e b h1 h2 h3 h4=>by
   obtain⟨o',g1,rfl⟩:=get h1
   rw[HO.weak_live] at h2
   exact h.free i o' e b g1 h2 h3 h4
  dist:=fun i j o1 o2 e1 e2 b h1 h2 h3 h4 h5 h6 h7 h8=>by
   obtain⟨o1',g1,rfl⟩:=get h1
   obtain⟨o2',g2,rfl⟩:=get h3
   rw[HO.weak_live] at h2 h4
   exact h.dist i j o1' o2' e1 e2 b g1 h2 g2 h4 h5 h6 h7 h8
  ob:=fun i o e h1 h2=>by
   obtain⟨o',g1,rfl⟩:=get h1
   exact(HO.weak_spec o').1 (h.ob i o' e g1 h2)
  tok:=fun i o e h1 h2=>by
   obtain⟨o',g1,rfl⟩:=get h1
   obtain⟨t1,t2,t3⟩:=h.tok i o' e g1 h2
   refine⟨(HO.weak_spec (E:=E) o').2.1 _ t1, ?_,fun b hb=>t3 b (sub hb)⟩
   rcases(HO.weak_spec (E:=E) (w:=w) (e:=e) o').2.2 with k|k
   ·rw[k];exact t2
   ·rw[k];exact List.nodup_nil
  tdist:=fun i j o1 o2 e1 e2 b h1 h2 h3 h4 h5 h6=>by
   obtain⟨o1',g1,rfl⟩:=get h1
   obtain⟨o2',g2,rfl⟩:=get h2
   exact h.tdist i j o1' o2' e1 e2 b g1 g2 h3 h4 (sub h5) (sub h6)}
theorem qy: ∀ l:List HO,zbc (l.map HO.weak)=zbc l
 | []=>rfl
 | .cells c::os=>by
  show zi3 (zc1 c) (zbc (os.map HO.weak))=zi3 (zc1 c) (zbc os)
  rw[qy os]
 | .gone::os=>qy os
 | .arr T t xs::os=>by
  rcases HO.weak_cases (.arr T t xs) with h|⟨_,_,_,_,_,h⟩<;>(rw[List.map_cons,h];exact qy os)
 | .frs _ _::os=>qy os
 | .map _ _ _::os=>qy os
 | .tk _ _ _::os=>qy os
 | .fro _ _::os=>qy os
theorem zno {T:List Nat} {N:Nat} {hp hp2:List HO} (h1:hp.length≤N) (h2:hp2.length≤N) (hT: ∀ x,memN x T=true→wk hp x=wk hp2 x):
  (xj T 0 hp++List.replicate (N - hp.length) HO.gone).map HO.weak=(xj T 0 hp2++List.replicate (N - hp2.length) HO.gone).map HO.weak:=by
 apply List.ext_getElem?
 intro x
 have key: ∀ {l:List HO},l.length≤N→((xj T 0 l++List.replicate (N - l.length) HO.gone).map HO.weak)[x]? =if x<N then some (bif memN x T then(wk l x).getD .gone else .gone) else none:=by
  intro l hl
  rw[List.getElem?_map]
  by_cases hx:x<l.length
  ·rw[List.getElem?_append_left (by rw[xk];exact hx),zee,Nat.zero_add,if_pos (by omega),wk,List.getElem?_eq_getElem hx]
   cases memN x T<;>rfl
  ·rw[List.getElem?_append_right (by rw[xk];omega),xk,List.getElem?_replicate]
   by_cases hN:x<N
   ·rw[if_pos (by omega),if_pos hN,wk,List.getElem?_eq_none (by omega)]
    cases memN x T<;>rfl
   ·rw[if_neg (by omega),if_neg hN];rfl
 rw[key h1,key h2]
 cases hm:memN x T with
 |true=>rw[hT x hm]
 |false=>rfl
theorem zt6 {f:Ty}: ∀ {i:Nat} {x:f.den} {g:(u:Ty)→u.den→(u.den→Option R)→Option R} {k:f.den→Option R} {u:Ty} {x':u.den},zhm f i x=some ⟨u,x'⟩→znw.fsetAux i f x g k=some r→
  ∃ k',g u x' k'=some r∧ ∀ y,k' y=some r→u.weak y=u.weak x'→ ∃ z,k z=some r∧f.weak z=f.weak x:=by
 induction f with
 |pair a b iha ihb=>
  intro i x g k u x' hu hk
  cases i with
  |zero=>
   simp only[zhm,Option.some.injEq,DV.mk.injEq] at hu
   obtain⟨rfl,hu⟩:=hu
   have hu:=eq_of_heq hu
   subst hu
   exact⟨_,hk,fun y hy he=>⟨_,hy,by simp only[Ty.weak,he]⟩⟩
  |succ i=>
   simp only[zhm] at hu
   obtain⟨k',h1,h2⟩:=ihb hu hk
   refine⟨k',h1,fun y hy he=> ?_⟩
   obtain⟨z,h3,h4⟩:=h2 y hy he
   exact⟨_,h3,by simp only[Ty.weak,h4]⟩
 |_=>
  intro i x g k u x' hu hk
  cases i with
  |zero=>
   simp only[zhm,Option.some.injEq,DV.mk.injEq] at hu
   obtain⟨rfl,hu⟩:=hu
   have hu:=eq_of_heq hu
   subst hu
   exact⟨k,hk,fun y hy he=>⟨y,hy,he⟩⟩
  |succ i=>simp[zhm] at hu
theorem znx: ∀ {p:List Nat} {t:Ty} {x:t.den} {u:Ty} {x' y:u.den} {k:t.den→Option R},zc3 p t x=some ⟨u,x'⟩→znw p t x u y k=some r→u.weak y=u.weak x'→ ∃ z,k z=some r∧t.weak z=t.weak x
 | [],t,x,u,x',y,k,hg,hk,he=>by
  simp only[zc3,Option.some.injEq,DV.mk.injEq] at hg
  obtain⟨rfl,hg⟩:=hg
  have hg:=eq_of_heq hg
  subst hg
  simp only[znw,dif_pos] at hk
  exact⟨y,hk,he⟩
 |i::p, .st f,x,u,x',y,k,hg,hk,he=>by
  simp only[zc3] at hg
  split at hg
  case h_2=>cases hg
  case h_1 d hd=>
   simp only[znw] at hk
   obtain⟨v,xd⟩:=d
   obtain⟨k',h1,h2⟩:=zt6 hd hk
   obtain⟨z,h3,h4⟩:=znx hg h1 he
   exact h2 z h3 h4
 |i::p, .int _,x,u,x',y,k,hg,hk,he=>by simp[zc3] at hg
 |i::p, .bool,x,u,x',y,k,hg,hk,he=>by simp[zc3] at hg
 |i::p, .str,x,u,x',y,k,hg,hk,he=>by simp[zc3] at hg
 |i::p, .flt,x,u,x',y,k,hg,hk,he=>by simp[zc3] at hg
 |i::p, .cplx,x,u,x',y,k,hg,hk,he=>by simp[zc3] at hg
 |i::p, .unit,x,u,x',y,k,hg,hk,he=>by simp[zc3] at hg
 |i::p, .sl _,x,u,x',y,k,hg,hk,he=>by simp[zc3] at hg
 |i::p, .osl _,x,u,x',y,k,hg,hk,he=>by simp[zc3] at hg
 |i::p, .arr _ _,x,u,x',y,k,hg,hk,he=>by simp[zc3] at hg
 |i::p, .pair _ _,x,u,x',y,k,hg,hk,he=>by simp[zc3] at hg
theorem zoz {i:TI} {x s:SV} {hp':List HO} (h:zby i hp x (fun a b=>some (a,b))=some (s,hp')): ∀ y,y<hp.length→wk hp' y=wk hp y:=by
 have plain:(xG i hp x fun s=>some (s,hp))=some (s,hp')→ ∀ y,y<hp.length→wk hp' y=wk hp y:=fun h=>by
  obtain⟨s2,_,h2⟩:=xu (m:=fun R=>xG (R:=R) i hp x) (zg6 i hp x) h
  cases h2
  exact fun _ _=>rfl
 unfold zby at h
 split at h
 case h_2=>exact plain h
 case h_1 S id t j p hk=>
  replace h:=ze h;obtain⟨ob,h1,h⟩:=h
  split at h
  case h_2=>cases h
  case h_1 U t' xs=>
   replace h:=zB h;obtain⟨ht,h⟩:=h
   subst ht
   simp only at h
   split at h
   case h_2=>cases h
   case h_1 d hd=>
    split at h
    case h_2=>exact plain h
    case h_1 e y=>
     cases hfit:(fits i (.osl e)&&decide (qI p t'=some (.osl e))) with
     |false=>rw[hfit] at h;cases h
     |true=>
      rw[hfit,cond_true] at h
      replace h:=zy h;obtain⟨hy,h⟩:=h
      obtain⟨z,k1,k2⟩:=znx hd h (by simp[Ty.weak])
      rw[zo,z2] at k1
      simp only[Option.some.injEq,Prod.mk.injEq] at k1
      obtain⟨_,rfl⟩:=k1
      intro m hm
      have hidl:=(List.getElem?_eq_some_iff.1 h1).1
      unfold wk
      rw[List.getElem?_append_left (by simpa using hm),List.getElem?_set]
      split
      ·rename_i him
       subst him
       rw[h1]
       have hset:(xs.set j z).map (Ty.weak t')=xs.map (Ty.weak t'):=by
        rw[List.map_set,k2]
        apply List.ext_getElem?
        intro n
        rw[List.getElem?_set]
        split
        ·rename_i hn
         subst hn
         by_cases hjl:j<xs.length
         ·simp[hjl,List.getD_eq_getElem?_getD]
         ·simp[hjl]
        ·rfl
       cases hno:t'.noOwn with
       |true=>
        have hid: ∀ l:List t'.den,l.map (Ty.weak t')=l:=fun l=>by
         rw[List.map_congr_left (g:=_root_.id) (fun x _=>Ty.weak_plain t' x hno),List.map_id]
        rw[hid,hid] at hset
        rw[hset]
       |false=>simp[HO.weak,hno,hset]
      ·rfl
theorem zqq: ∀ (i:Nat) (l:List HO),xj [] i l=List.replicate l.length .gone
 |_, []=>rfl
 |i,o::l=>by simp[xj,memN,zqq (i+1) l,List.replicate_succ]
def z1s (P:Program) (C:Ctx) (B:Base) (N:Nat) (h0:List HO) (T:List Nat) (fF:List SV) (o:Oper) (s:SV):Prop:=
 ∀ (E:Env) (hp:List HO) (a:Act) (w:World) (K:Act→World→Prop) (Q:Exit→Act→World→Prop),Hp B E hp w→C.globsOk E.M→a.tmps.size=fF.length→(∀ t∈qO o.op.operands.toList,SatAt E fF a t)→
  hp.length≤N→(∀ x,memN x T=true→wk hp x=wk h0 x)→
  (∀ E' v w',E.le E'→Hp B E' hp w'→s.sat E' v→K (a.put o.dst v) w')→o.wp P a w K Q
def z1q (P:Program) (C:Ctx) (B:Base) (h0 h1:List HO) (fF:List SV) (o:Oper) (s:SV):Prop:=
 ∀ (E:Env) (a:Act) (w:World) (K:Act→World→Prop) (Q:Exit→Act→World→Prop),Hp B E h0 w→C.globsOk E.M→a.tmps.size=fF.length→(∀ t∈qO o.op.operands.toList,SatAt E fF a t)→
  (∀ E' v w',E.le E'→Hp B E' h1 w'→s.sat E' v→K (a.put o.dst v) w')→o.wp P a w K Q
theorem zce {fr fr' fF:List SV} (hs:zil fr (zxy fr) (qO o.op.operands.toList) some=some fr') (hl:fF.length=fr.length) (hF: ∀ t∈qO o.op.operands.toList,fF[t]? =fr[t]?)
  (hsz:a.tmps.size=fF.length) (hsat: ∀ t∈qO o.op.operands.toList,SatAt E fF a t):SV.satL E fr' a.tmps.toList:=by
 refine zim (zmc (by simpa [hl] using hsz)) (fun t ht s hs'=> ?_) hs
 obtain⟨v,h5,h6⟩:=hsat t ht s (by rw[hF t ht];exact hs')
 exact⟨v,by simpa using h5,h6⟩
theorem zow {k:SV→Option R} (hG:Given P C Γ) (h:zov C Γ fr o.op k=some r): ∃ s,k s=some r∧ ∀ (E:Env) (hp:List HO) (a:Act) (w:World) (K:Act→World→Prop) (Q:Exit→Act→World→Prop),Hp B E hp w→C.globsOk E.M→SV.satL E fr a.tmps.toList→
  (∀ E' v w',E.le E'→Hp B E' hp w'→s.sat E' v→K (a.put o.dst v) w')→o.wp P a w K Q:=by
 unfold zov at h
 split at h
 case h_1 x args argTypes ho=>
  obtain⟨c,vs,h1,h⟩:=xV h
  obtain⟨c',vs',hm,hcv⟩:=zdw h1
  simp only[Option.some.injEq,Prod.mk.injEq] at hcv
  obtain⟨rfl,rfl⟩:=hcv
  have hc:=hG.con _ hm
  obtain⟨s,h4,h5⟩:=zjv (B:=B) hc h
  refine⟨s,h4,fun E hp a w K Q hh hg hf hn=> ?_⟩
  obtain⟨c2,vs2,vals,_,g1,g2,hrun⟩:=jS hG hf hg ho h1
  simp only[Option.some.injEq,Prod.mk.injEq] at g2
  obtain⟨rfl,rfl⟩:=g2
  refine zcd (hrun w) ((h5 hp E w _ hh hg g1).mono ?_)
  rintro e w' ⟨v,rfl,E',q1,q2,q3⟩
  exact⟨v,rfl,hn E' v w' q1 q2 q3⟩
 case h_2=>
  cases hd:zsu fr with
  |false=>rw[hd] at h;cases h
  |true=>
   rw[hd,cond_true] at h
   obtain⟨s,h1,h⟩:=zba h
   cases hs:s.isD with
   |false=>rw[hs] at h;cases h
   |true=>
    rw[hs,cond_true] at h
    refine⟨s,h,fun E hp a w K Q hh hg hf hn=> ?_⟩
    refine zgg hG (zoh hh) (zah fr _ hd hf) hg (fun E' hp' s' v w' q1 q2 q3 q4=> ?_) h1
    obtain⟨E2,hp2,s2,f1,f2,f3⟩:=zhs q2 q3 q4
    cases f3
    have hmv:=(hh.move (Bc:=⟨w,fun _=>False,E.M⟩) rfl f1.heap.ok (fun b hb=>hb.elim) f1.heap.base f1.heap.ag f1.heap.fresh).1
    exact hn ⟨E2.M,E.L⟩ v w' ⟨f1.heap.base,fun i e hi=>hi⟩ hmv (SV.isD_sat s v hs f2)
theorem zx1 (n0:Nat) (sk:Skel) (vs:List SV) (hp:List HO):CN3 fun R=>zqu (R:=R) n0 sk vs hp:=fun R k=>znv n0 sk vs hp fun _ _ _=>rfl
theorem zvx {A D F:Type} {m:(R:Type)→(A→D→F→Option R)→Option R} (hm:CN3 m) {k:A→D→F→Option R} (h:m R k=some r): ∃ x y z,m (A×D×F) (fun a b c=>some (a,b,c))=some (x,y,z)∧k x y z=some r:=by
 rw[hm R k] at h
 cases hx:m (A×D×F) (fun a b c=>some (a,b,c)) with
 |none=>rw[hx] at h;cases h
 |some p=>rw[hx] at h;exact⟨p.1,p.2.1,p.2.2,rfl,h⟩
theorem zrr {c:Con} {args:List SV} {k:SV→Option R} (hc:c.Ok P C) (h:ztr c args hp k=some r): ∃ s,k s=some r∧ ∀ (B:Base) (E:Env) (w:World) (vals:List Value),Hp B E hp w→C.globsOk E.M→SV.satL E args vals→
  Calls P c.f vals.toArray w fun e w'=> ∃ v,e= .returned v∧s.sat E v∧Below w.heap.size w w':=by
 unfold ztr at h
 cases hq:zq2 c with
 |false=>rw[hq] at h;cases h
 |true=>
  rw[hq,cond_true] at h
  simp only[zq2,Bool.and_eq_true] at hq
  obtain⟨hq1,hq2,hq3,hwf⟩:=hq
  have hio:c.sig.ins.objs= []:=by
   unfold zun at hq1
   split at hq1
   ·assumption
   ·cases hq1
  have hoo:c.sig.outs.objs= []:=by
   cases hx:c.sig.outs.objs with
   |nil=>rfl
   |cons s l=>rw[hx] at hq2;simp at hq2
  obtain⟨ds,mp,hp1,hpack,h⟩:=zvx (m:=fun R=>zqu (R:=R) 0 c.sig.ins args hp) (zx1 0 c.sig.ins args hp) h
  replace h:=xC h;obtain⟨x,hx,h⟩:=h
  subst hx
  cases hF:c.F x with
  |none=>rw[hF] at h;cases h
  |some y=>
   rw[hF,Option.bind_some] at h
   replace h:=zT h
   refine⟨_,h,fun B E w vals hh hg hs=> ?_⟩
   obtain⟨E1,hp2,ds2,mp2,hpk,h2⟩:=j7 (n0:=0) hh hs (Nat.zero_le _) hpack
   simp only[Option.some.injEq,Prod.mk.injEq] at h2
   obtain⟨rfl,rfl,rfl⟩:=h2
   obtain⟨hHin,hSin⟩:=hpk.heap
   have hin0:c.inO x= []:=by unfold Con.inO;rw[hio];rfl
   have hL0:(zbd E E1 mp2).L= []:=by
    have:=hHin.len
    have h0:(bO (zO c.sig.ins.objs.length 0) c.sig.ins.objs (bL (zO c.sig.ins.objs.length 0) c.sig.ins.slots (qE c.sig.ins.tys x)).2)= []:=hin0
    rw[h0] at this
    exact List.eq_nil_of_length_eq_zero this
   have hHin':Hp ⟨w,fun _=>False,(zbd E E1 mp2).M⟩ (zbd E E1 mp2) (c.inO x) w:=by
    rw[hin0]
    exact { ag:=hHin.ag,base:=Mem.le_refl _,fresh:=fun b c hb=> .inl hb,ok:=⟨rfl,rfl,rfl,Nat.le_refl _,fun _ _ _=>rfl⟩,len:=by rw[hL0];rfl,
            free:=fun i o e b h1=>by simp at h1,dist:=fun i j o o' e e' b h1=>by simp at h1,ob:=fun i o e h1=>by simp at h1,tok:=fun i o e h1=>by simp at h1,tdist:=fun i j o o' e e' b h1=>by simp at h1}
   have hdv:qh (qE c.sig.outs.tys y)=z9 c.sig.outs.slots++qa c.sig.outs.objs:=by rw[j5,Skel.tys,qL]
   refine(hc.calls (zbd E E1 mp2) w vals x y _ (C.globsOk_mono hpk.frz.le.1 hg) hSin hHin' hF).mono ?_
   rintro e w'' ⟨E',vs',rfl,hS',hH',_⟩
   refine⟨_,rfl,zel (zbb (E1:=E') (E2:=E) (n:=0) (ρ1:=zO c.sig.outs.objs.length 0) (ρ2:= []) (fun j e hj=>by omega) hdv hwf (.inr hq3) hS'),⟨hH'.ok.os,hH'.ok.tape,hH'.ok.output,hH'.ok.size,fun b hb=>hH'.ok.block b hb id⟩⟩
theorem ztm {hp:List HO} {fr:List SV} {op:Op} {k:List Nat→Option R} (h:z09 hp fr op k=some r): ∃ T,k T=some r:=by
 unfold z09 at h
 split at h
 ·split at h
  ·exact⟨_,h⟩
  ·exact xz h
 ·exact xz h
theorem zv8 {N:Nat} {fl:List Nat} {an i:Nat} {h0:Acc} {k:SV→Acc→Option R} (hG:Given P C Γ) (hN:h0.hp.length≤N) {all:List Oper} (h:evE C Γ all N fl an i fr h0 o k=some r):
  ∃ s h1,k s h1=some r∧
   ((h1.hp=h0.hp∧h1.cs=h0.cs∧ ∃ T,((T= []∧h1.ps=h0.ps)∨h1.ps=(i,T)::h0.ps)∧okC an T h0.cs=true∧
     ∀ fF:List SV,fF.length=fr.length→(∀ t∈qO o.op.operands.toList,fF[t]? =fr[t]?)→z1s P C B N h0.hp T fF o s)∨
    (isEffX C all o=true∧memN i fl=false∧h1.ps=h0.ps∧h1.hp.length≤N∧ ∃ U,h1.cs=(i,U)::h0.cs∧okC an U h0.ps=true∧(∀ x,memN x U=false→wk h1.hp x=wk h0.hp x)∧
      ∀ fF:List SV,fF.length=fr.length→(∀ t∈qO o.op.operands.toList,fF[t]? =fr[t]?)→z1q P C B h0.hp h1.hp fF o s)):=by
 unfold evE at h
 obtain⟨fr',hsh,h⟩:=xu (m:=fun R=>zil (R:=R) fr (zxy fr) (qO o.op.operands.toList)) (zk5 fr _ _) h
 cases he:isEffX C all o with
 |true=>
  rw[he,cond_true] at h
  cases hqt:zni C Γ fr' o.op with
  |true=>
   rw[hqt,cond_true] at h
   obtain⟨T,h⟩:=xz h
   cases hc:okC an T h0.cs with
   |false=>rw[hc] at h;cases h
   |true=>
    rw[hc,cond_true,zlq,zh7,zmd,xk] at h
    obtain⟨fr2,hth,h⟩:=xu (m:=fun R=>za7 (R:=R) ((xj T 0 h0.hp++List.replicate (N - h0.hp.length) HO.gone).map HO.weak) fr') (zk6 _ fr') h
    unfold ztq at h
    split at h
    case h_2=>cases h
    case h_1 x args argTypes ho=>
     obtain⟨c,vs,h1,hc'⟩:=xV h
     obtain⟨c',vs',hmem,hcv⟩:=zdw h1
     simp only[Option.some.injEq,Prod.mk.injEq] at hcv
     obtain⟨rfl,rfl⟩:=hcv
     have hcok:=hG.con _ hmem
     obtain⟨s,h,hcall⟩:=zrr hcok hc'
     cases hsub:zw9 s.ids [] with
     |false=>rw[hsub] at h;cases h
     |true=>
      rw[hsub,cond_true] at h
      refine⟨s,_,h, .inl ⟨rfl,rfl,T, .inr rfl,hc,fun fF hl hF=> ?_⟩⟩
      intro E hp a w K Q hh hg hsz hs hlen hT hn
      have hsh':=zce hsh hl hF hsz hs
      have hpart:=(hh.part T hlen).weaken
      rw[← zno (hp:=hp) hlen hN hT] at hth hcall
      obtain⟨fr3,q1,q2⟩:=x8 hpart (SV.satL_mono (Env.le_pad E _) _ _ hsh') hth
      cases q2
      obtain⟨c2,vs2,vals,_,g1,g2,hrun⟩:=jS hG q1 hg ho h1
      simp only[Option.some.injEq,Prod.mk.injEq] at g2
      obtain⟨rfl,rfl⟩:=g2
      refine zcd (hrun w) ((hcall B _ w _ hpart hg g1).mono ?_)
      rintro e w' ⟨v,rfl,k1,k2⟩
      exact⟨v,rfl,hn E v w' (Env.le_refl E) (hh.grow k2) (zlz (T:= []) hh hsh' k1 fun i hi=>by simpa using zeq hsub i hi)⟩
  |false=>
   rw[hqt,cond_false] at h
   cases hm:memN i fl with
   |true=>
    rw[hm,cond_true] at h
    obtain⟨s,h1,h2⟩:=zow (B:=B) hG h
    refine⟨s,h0,h1, .inl ⟨rfl,rfl, [], .inl ⟨rfl,rfl⟩, ?_,fun fF hl hF=> ?_⟩⟩
    ·generalize h0.cs=l
     induction l with
     |nil=>rfl
     |cons x l ih=>simp[okC,apartN,ih]
    ·intro E hp a w K Q hh hg hsz hs _ _ hn
     exact h2 E hp a w K Q hh hg (zce hsh hl hF hsz hs) hn
   |false=>
   rw[hm,cond_false] at h
   obtain⟨T,h⟩:=ztm h
   rw[zlq] at h
   obtain⟨fr2,hth,h⟩:=xu (m:=fun R=>za7 (R:=R) (xj T 0 h0.hp) fr') (zk6 _ fr') h
   obtain⟨s,hp',hev,h⟩:=zvw (m:=fun R=>zhh (R:=R) C Γ fr2 (xj T 0 h0.hp) o.op) (zv0 C Γ fr2 _ o.op) h
   cases hchk:(Nat.ble h0.hp.length hp'.length&&(Nat.ble hp'.length N&&okC an (zps (!ze8 o.op) T (xE h0.hp.length (hp'.length - h0.hp.length))) h0.ps)) with
   |false=>rw[hchk] at h;cases h
   |true=>
    rw[hchk,cond_true] at h
    simp only[Bool.and_eq_true] at hchk
    obtain⟨c1,c2,c3⟩:=hchk
    have c1':=Nat.le_of_ble_eq_true c1
    have c2':=Nat.le_of_ble_eq_true c2
    rw[zh4 T _ _ _ _ c1'] at h
    refine⟨s,_,h, .inr ⟨rfl,rfl,rfl,by rw[zfc T _ _ _ c1'];exact c2',_,rfl,c3,fun x hx=> ?_,fun fF hl hF=> ?_⟩⟩
    ·have hr: ∀ (n b:Nat),(∀ y,b≤y→y<b+n→y∈xE b n):=by
      intro n
      induction n with
      |zero=>intro b y h1 h2;omega
      |succ n ih=>
       intro b y h1 h2
       simp only[xE,List.mem_cons]
       by_cases hy:y=b
       ·exact .inl hy
       ·exact .inr (ih (b+1) y (by omega) (by omega))
     have hx':x∉xE h0.hp.length (hp'.length - h0.hp.length)∧(ze8 o.op=true→memN x T=false):=by
      cases hie:ze8 o.op with
      |true=>
       rw[hie] at hx
       have hx':x∉zi3 T (xE h0.hp.length (hp'.length - h0.hp.length)):=fun hm=>by
        have hx2:memN x (zi3 T (xE h0.hp.length (hp'.length - h0.hp.length)))=false:=hx
        rw[zav.2 hm] at hx2;cases hx2
       rw[jb,not_or] at hx'
       exact⟨hx'.2,fun _=>by
        cases hb:memN x T with
        |false=>rfl
        |true=>exact absurd (zav.1 hb) hx'.1⟩
      |false=>
       rw[hie] at hx
       have hx2:memN x (xE h0.hp.length (hp'.length - h0.hp.length))=false:=hx
       exact⟨(fun hm=>by rw[zav.2 hm] at hx2;cases hx2),fun h=>by cases h⟩
     show wk (jI T 0 h0.hp hp') x=wk h0.hp x
     unfold wk
     rw[zfb T _ _ _ _ c1',Nat.zero_add]
     by_cases hxl:x<h0.hp.length
     ·cases hT:memN x T with
      |false=>rw[if_pos ⟨hxl,rfl⟩]
      |true=>
       rw[if_neg (fun hc=>by cases hc.2)]
       have hie:ze8 o.op=false:=by
        cases hie:ze8 o.op with
        |false=>rfl
        |true=>rw[hx'.2 hie] at hT;cases hT
       have hmv:z1e C all o=true:=by
        unfold isEffX at he
        rw[hie,Bool.false_or] at he;exact he
       obtain⟨U,y,hop⟩: ∃ U y,o.op= .load U y:=by
        unfold z1e at hmv
        split at hmv
        ·cases hmv
        ·split at hmv
         case h_1 hop _=>exact⟨_,_,hop⟩
         case h_2=>cases hmv
       rw[hop] at hev
       have hev':(zq C.TT U fun i=>opd C fr2 y fun x=>zby i (xj T 0 h0.hp) x fun a b=>some (a,b))=some (s,hp'):=hev
       replace hev':=zd hev';obtain⟨i2,_,hev'⟩:=hev'
       obtain⟨sy,_,hev'⟩:=xu (m:=fun R=>opd (R:=R) C fr2 y) (zd0 C fr2 y) hev'
       have:=zoz hev' x (by rw[xk];exact hxl)
       unfold wk at this
       rw[this,zee,Nat.zero_add,hT]
       simp
     ·rw[if_neg (fun hc=>hxl hc.1)]
      have: ¬ x<hp'.length:=fun hlt=>hx'.1 (hr _ _ x (by omega) (by omega))
      rw[List.getElem?_eq_none (by omega),List.getElem?_eq_none (by omega)]
    ·intro E a w K Q hh hg hsz hs hn
     have hsub:=hh.sub T
     obtain⟨fr3,q1,q2⟩:=x8 hsub (zce hsh hl hF hsz hs) hth
     cases q2
     refine zgg hG hsub q1 hg (fun E' hp2 s2 v w' g1 g2 g3 g4=> ?_) hev
     simp only[Option.some.injEq,Prod.mk.injEq] at g4
     obtain⟨rfl,rfl⟩:=g4
     exact hn E' v w' g1 (hh.frame g1 g2 c1') g3
 |false=>
  rw[he,cond_false] at h
  cases hr:zxu o.op with
  |true=>
   rw[hr,cond_true] at h
   cases hc:okC an (zc1 fr') h0.cs with
   |false=>rw[hc] at h;cases h
   |true=>
    rw[hc,cond_true,zlq,zh7,zmd,xk] at h
    obtain⟨fr2,hth,h⟩:=xu (m:=fun R=>za7 (R:=R) ((xj (zc1 fr') 0 h0.hp++List.replicate (N - h0.hp.length) HO.gone).map HO.weak) fr') (zk6 _ fr') h
    obtain⟨s,hev,h⟩:=xu (m:=fun R=>jZ (R:=R) C fr2 ((xj (zc1 fr') 0 h0.hp++List.replicate (N - h0.hp.length) HO.gone).map HO.weak) o.op) (zg7 C fr2 _ o.op) h
    cases hsub:zw9 s.ids (zi3 (zc1 fr') (zbc ((xj (zc1 fr') 0 h0.hp++List.replicate (N - h0.hp.length) HO.gone).map HO.weak))) with
    |false=>rw[hsub] at h;cases h
    |true=>
     rw[hsub,cond_true] at h
     refine⟨s,_,h, .inl ⟨rfl,rfl,zc1 fr', .inr rfl,hc,fun fF hl hF=> ?_⟩⟩
     intro E hp a w K Q hh hg hsz hs hlen hT hn
     have hsh':=zce hsh hl hF hsz hs
     have hpart:=(hh.part (zc1 fr') hlen).weaken
     rw[← zno (hp:=hp) hlen hN hT] at hth hev hsub
     rw[qy] at hsub
     obtain⟨fr3,q1,q2⟩:=x8 hpart (SV.satL_mono (Env.le_pad E _) _ _ hsh') hth
     cases q2
     obtain⟨v,s2,g1,g2,g3⟩:=xb hG.ctx hpart q1 hg hev
     cases g2
     unfold Oper.wp
     rw[g3 w (Below.refl _ _)]
     exact hn E v w (Env.le_refl E) hh (zlz hh hsh' g1 fun i hi=>jb.1 (zeq hsub i hi))
  |false=>
   rw[hr,cond_false,zh7] at h
   simp only[List.nil_append,List.length_nil,Nat.sub_zero] at h
   obtain⟨s,hev,h⟩:=xu (m:=fun R=>jZ (R:=R) C fr' (List.replicate N .gone) o.op) (zg7 C fr' _ o.op) h
   cases hsub:zw9 s.ids (zc1 fr') with
   |false=>rw[hsub] at h;cases h
   |true=>
    rw[hsub,cond_true] at h
    refine⟨s,h0,h, .inl ⟨rfl,rfl, [], .inl ⟨rfl,rfl⟩, ?_,fun fF hl hF=> ?_⟩⟩
    ·generalize h0.cs=l
     induction l with
     |nil=>rfl
     |cons x l ih=>simp[okC,apartN,ih]
    ·intro E hp a w K Q hh hg hsz hs hlen hT hn
     have hsh':=zce hsh hl hF hsz hs
     have hpart:=hh.part [] hlen
     have e:xj [] 0 hp++List.replicate (N - hp.length) HO.gone=List.replicate N HO.gone:=by
      rw[zqq,List.replicate_append_replicate];congr 1;omega
     rw[← e] at hev
     obtain⟨v,s2,g1,g2,g3⟩:=xb hG.ctx hpart (SV.satL_mono (Env.le_pad E _) _ _ hsh') hg hev
     cases g2
     unfold Oper.wp
     rw[g3 w (Below.refl _ _)]
     exact hn E v w (Env.le_refl E) hh (zlz (T:= []) hh hsh' g1 fun i hi=> .inl (zeq hsub i hi))
end
end Go.Sx
