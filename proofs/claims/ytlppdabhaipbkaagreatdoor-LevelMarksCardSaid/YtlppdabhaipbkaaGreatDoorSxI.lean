/- The symbolic evaluator, part I: what becomes of objects; an own array that is frozen. -/
import Derived.Test.YtlppdabhaipbkaaGreatDoorSxH
set_option linter.unusedVariables false
set_option linter.unusedSimpArgs false
namespace Go.Sx
open Go.RowKit
section
variable {R:Type} {r:R} {P:Program} {C:Ctx} {B:Base} {E:Env} {fr:List SV} {hp:List HO} {a:Act} {w w':World} {o:Oper} {k:SV→Option R}
theorem Base.ok_grown {T:Option Nat} (h:B.ok w) (k:w.grownBy w' T) (hT: ∀ b,T=some b→B.w0.heap.size≤b∨B.W b):B.ok w':=
 ⟨k.os.trans h.os,k.tape.trans h.tape,k.output.trans h.output,Nat.le_trans h.size k.size,fun i hi hn=>
  (k.block i (Nat.lt_of_lt_of_le hi h.size) (fun e=>by
   rcases hT i e.symm with h1|h1
   ·omega
   ·exact hn h1)).trans (h.block i hi hn)⟩
theorem zfn {M:Mem} {T:Option Nat} (h:M.agrees w) (k:w.grownBy w' T) (hT: ∀ b,T=some b→M b=none):M.agrees w':=fun b c hb=>by
 obtain⟨cs,U,f,hh,hpr⟩:=h b c hb
 refine⟨cs,U,f, ?_,hpr⟩
 rw[k.block b (qb hh) (fun e=>by rw[hT b e.symm] at hb;cases hb)]
 exact hh
theorem qo {α:Type} {l:List α} {x y:α} {i:Nat} (h:(l++ [x])[i]? =some y):(l[i]? =some y∧i<l.length)∨(i=l.length∧y=x):=by
 rcases Nat.lt_trichotomy i l.length with hi|hi|hi
 ·rw[List.getElem?_append_left hi] at h;exact .inl ⟨h,hi⟩
 ·subst hi
  simp at h
  exact .inr ⟨rfl,h.symm⟩
 ·rw[List.getElem?_eq_none (by simp;omega)] at h;cases h
structure MayTurn (B:Base) (E:Env) (hp:List HO) (b:Nat):Prop where
 base:B.w0.heap.size≤b∨B.W b
 mem:E.M b=none
 obj: ∀ (j:Nat) (o:HO) (e:LE),hp[j]? =some o→o.live=true→E.L[j]? =some e→e.blk≠some b
theorem MayTurn.tail {b:Nat} (hm:MayTurn B E hp b) (h:Hp B E hp w) {j:Nat} {o:HO} {e:LE} (h1:hp[j]? =some o) (h2:E.L[j]? =some e):b∉o.tails w e:=fun hb=>by
 obtain⟨c,hc⟩:=h.tail_some h1 h2 hb
 rw[hm.mem] at hc;cases hc
theorem Hp.tok_grown (h:Hp B E hp w) {T:Option Nat} (k:w.grownBy w' T) (hT: ∀ b,T=some b→MayTurn B E hp b) {i:Nat} {o:HO} {e:LE} (h1:hp[i]? =some o) (h2:E.L[i]? =some e):o.tok E.M w' e∧o.tails w' e=o.tails w e:=
 HO.tok_keep (Mem.le_refl E.M) (fun b hl hb=>k.block b (HO.sat_lt hl (h.ob i o e h1 h2) hb) (fun e1=>(hT b e1.symm).obj i o e h1 hl h2 hb))
  (fun b hb=>⟨k.block b (h.tail_lt h1 h2 hb) (fun e1=>(hT b e1.symm).tail h h1 h2 hb),rfl⟩) (h.tok i o e h1 h2).1
def Env.snoc (E:Env) (e:LE):Env:=⟨E.M,E.L++ [e]⟩
theorem Env.le_snoc (E:Env) (e:LE):E.le (E.snoc e):=⟨Mem.le_refl _,fun i x h=>by
 have hi:i<E.L.length:=(List.getElem?_eq_some_iff.1 h).1
 show(E.L++ [e])[i]? =some x
 rw[List.getElem?_append_left hi];exact h⟩
def FreeT (B:Base) (E:Env) (hp:List HO) (w:World) (l:List Nat):Prop:=
 l.Nodup∧ ∀ x∈l,(E.M x≠none∧(B.w0.heap.size≤x∨B.W x))∧ ∀ (j:Nat) (o:HO) (e:LE),hp[j]? =some o→E.L[j]? =some e→x∉o.tails w e
theorem Hp.pushO (h:Hp B E hp w) {T:Option Nat} (k:w.grownBy w' T) (hT: ∀ b,T=some b→MayTurn B E hp b) {o':HO} {e':LE} (he: ∀ b,e'.blk=some b→w.heap.size≤b∨T=some b)
  (hs:o'.sat (E.snoc e') w' e') (ht:o'.tok E.M w' e'∧FreeT B E hp w (o'.tails w' e')):Hp B (E.snoc e') (hp++ [o']) w' where
 tok:=fun i o e h1 h2=>by
  have hl:=h.len
  rcases qo h1 with ⟨p1,l1⟩|⟨l1,s1⟩<;>rcases qo h2 with ⟨p2,l2⟩|⟨l2,s2⟩
  ·obtain⟨t1,t2,t3⟩:=h.tok i o e p1 p2
   obtain⟨g1,g2⟩:=h.tok_grown k hT p1 p2
   exact⟨g1,g2▸t2,g2▸t3⟩
  ·omega
  ·omega
  ·rw[s1,s2]
   exact⟨ht.1,ht.2.1,fun b hb=>(ht.2.2 b hb).1⟩
 tdist:=fun i j o1 o2 e1 e2 b h1 h3 h5 h6 h7 h8=>by
  have hl:=h.len
  rcases qo h1 with ⟨p1,l1⟩|⟨l1,s1⟩<;>rcases qo h3 with ⟨p3,l3⟩|⟨l3,s3⟩<;>rcases qo h5 with ⟨p5,l5⟩|⟨l5,s5⟩<;>rcases qo h6 with ⟨p6,l6⟩|⟨l6,s6⟩<;>try omega
  ·rw[(h.tok_grown k hT p1 p5).2] at h7
   rw[(h.tok_grown k hT p3 p6).2] at h8
   exact h.tdist i j o1 o2 e1 e2 b p1 p3 p5 p6 h7 h8
  ·rw[s3,s6] at h8
   rw[(h.tok_grown k hT p1 p5).2] at h7
   exact absurd h7 ((ht.2.2 b h8).2 i o1 e1 p1 p5)
  ·rw[s1,s5] at h7
   rw[(h.tok_grown k hT p3 p6).2] at h8
   exact absurd h8 ((ht.2.2 b h7).2 j o2 e2 p3 p6)
 ag:=zfn h.ag k fun b hb=>(hT b hb).mem
 base:=h.base
 fresh:=h.fresh
 ok:=Base.ok_grown h.ok k fun b hb=>(hT b hb).base
 len:=by simp[Env.snoc,h.len]
 free:=fun i o e b h1 h2 h3 h4=>by
  have hl:=h.len
  rcases qo h1 with ⟨p1,q1⟩|⟨q1,s1⟩<;>rcases qo h3 with ⟨p3,q3⟩|⟨q3,s3⟩
  ·exact h.free i o e b p1 h2 p3 h4
  ·omega
  ·omega
  ·subst s3
   rcases he b h4 with h5|h5
   ·refine⟨?_, .inl (Nat.le_trans h.ok.size h5)⟩
    show E.M b=none
    cases hm:E.M b with
    |none=>rfl
    |some c=>have:=Mem.agrees_lt h.ag hm;omega
   ·exact⟨(hT b h5).mem,(hT b h5).base⟩
 dist:=fun i j o1 o2 e1 e2 b h1 h2 h3 h4 h5 h6 h7 h8=>by
  have key: ∀ {i:Nat} {o:HO} {e:LE},hp[i]? =some o→o.live=true→E.L[i]? =some e→e.blk=some b→e'.blk=some b→False:=by
   intro i o e g1 g2 g3 g4 g5
   rcases he b g5 with h9|h9
   ·have:=HO.sat_lt g2 (h.ob i o e g1 g3) g4;omega
   ·exact(hT b h9).obj i o e g1 g2 g3 g4
  have hl:=h.len
  rcases qo h1 with ⟨p1,l1⟩|⟨l1,s1⟩<;>rcases qo h3 with ⟨p3,l3⟩|⟨l3,s3⟩<;>rcases qo h5 with ⟨p5,l5⟩|⟨l5,s5⟩<;>rcases qo h6 with ⟨p6,l6⟩|⟨l6,s6⟩<;>try omega
  ·exact h.dist i j o1 o2 e1 e2 b p1 h2 p3 h4 p5 p6 h7 h8
  ·exact(key p1 h2 p5 h7 (s6▸h8)).elim
  ·exact(key p3 h4 p6 h8 (s5▸h7)).elim
 ob:=fun i o e h1 h2=>by
  have hl:=h.len
  rcases qo h1 with ⟨p1,l1⟩|⟨l1,s1⟩<;>rcases qo h2 with ⟨p2,l2⟩|⟨l2,s2⟩
  ·refine HO.sat_keep (Env.le_snoc E e') (h.ob i o e p1 p2) fun b hlv hb=> ?_
   exact k.block b (HO.sat_lt hlv (h.ob i o e p1 p2) hb) (fun e1=>(hT b e1.symm).obj i o e p1 hlv p2 hb)
  ·omega
  ·omega
  ·rw[s1,s2];exact hs
theorem Hp.push (h:Hp B E hp w) {T:Option Nat} (k:w.grownBy w' T) (hT: ∀ b,T=some b→MayTurn B E hp b) {o':HO} {e':LE} (he: ∀ b,e'.blk=some b→w.heap.size≤b∨T=some b)
  (hs:o'.sat (E.snoc e') w' e') (ht:o'.tok E.M w' e'∧o'.tails w' e'= []):Hp B (E.snoc e') (hp++ [o']) w':=
 h.pushO k hT he hs ⟨ht.1,by rw[ht.2];exact⟨List.nodup_nil,fun x hx=>by simp at hx⟩⟩
theorem Hp.dropTo (h:Hp B E hp w) (i:Nat) {o':HO} (hl:o'.live=false) (hs: ∀ e,E.L[i]? =some e→o'.sat E w e) (ht: ∀ e,o'.tok E.M w e∧o'.tails w e= []:=by exact fun _=>⟨trivial,rfl⟩):Hp B E (hp.set i o') w where
 tok:=fun j o e h1 h2=>by
  rw[List.getElem?_set] at h1
  split at h1
  ·split at h1
   ·cases h1
    exact⟨(ht e).1,by rw[(ht e).2];exact List.nodup_nil,by rw[(ht e).2];intro b hb;simp at hb⟩
   ·cases h1
  ·exact h.tok j o e h1 h2
 tdist:=fun i1 j o1 o2 e1 e2 b h1 h3 h5 h6 h7 h8=>by
  rw[List.getElem?_set] at h1 h3
  split at h1
  ·split at h1
   ·cases h1;rw[(ht e1).2] at h7;simp at h7
   ·cases h1
  ·split at h3
   ·split at h3
    ·cases h3;rw[(ht e2).2] at h8;simp at h8
    ·cases h3
   ·exact h.tdist i1 j o1 o2 e1 e2 b h1 h3 h5 h6 h7 h8
 ag:=h.ag
 base:=h.base
 fresh:=h.fresh
 ok:=h.ok
 len:=by simp[h.len]
 free:=fun j o e b h1 h2 h3 h4=>by
  rw[List.getElem?_set] at h1
  split at h1
  ·split at h1
   ·cases h1;rw[hl] at h2;cases h2
   ·cases h1
  ·exact h.free j o e b h1 h2 h3 h4
 dist:=fun i1 j o1 o2 e1 e2 b h1 h2 h3 h4 h5 h6 h7 h8=>by
  rw[List.getElem?_set] at h1 h3
  split at h1
  ·split at h1
   ·cases h1;rw[hl] at h2;cases h2
   ·cases h1
  ·split at h3
   ·split at h3
    ·cases h3;rw[hl] at h4;cases h4
    ·cases h3
   ·exact h.dist i1 j o1 o2 e1 e2 b h1 h2 h3 h4 h5 h6 h7 h8
 ob:=fun j o e h1 h2=>by
  rw[List.getElem?_set] at h1
  split at h1
  ·rename_i hij
   split at h1
   ·cases h1;subst hij;exact hs e h2
   ·cases h1
  ·exact h.ob j o e h1 h2
theorem Hp.drop (h:Hp B E hp w) (i:Nat):Hp B E (hp.set i .gone) w:=h.dropTo i rfl fun _ _=>trivial
theorem Hp.mayTurn (h:Hp B E hp w) {i:Nat} {o:HO} {e:LE} {b:Nat} (h1:hp[i]? =some o) (h2:o.live=true) (h3:E.L[i]? =some e) (h4:e.blk=some b):MayTurn B E (hp.set i .gone) b where
 base:=(h.free i o e b h1 h2 h3 h4).2
 mem:=(h.free i o e b h1 h2 h3 h4).1
 obj:=fun j o' e' g1 g2 g3 g4=>by
  rw[List.getElem?_set] at g1
  split at g1
  ·split at g1
   ·cases g1;simp[HO.live] at g2
   ·cases g1
  ·rename_i hne
   exact hne (h.dist i j o o' e e' b h1 h2 g1 g2 h3 g3 h4 g4)
theorem Hp.tok_turn (h:Hp B E hp w) {i:Nat} {o:HO} {e:LE} {b:Nat} (h1:hp[i]? =some o) (h2:o.live=true) (h3:E.L[i]? =some e) (h4:e.blk=some b) (k:w.grownBy w' (some b)) {j:Nat} (hij: ¬ i=j) {o1:HO} {e1:LE} (g1:hp[j]? =some o1) (g2:E.L[j]? =some e1):
  o1.tok E.M w' e1∧o1.tails w' e1=o1.tails w e1:=
 HO.tok_keep (Mem.le_refl E.M) (fun b1 hl hb=>k.block b1 (HO.sat_lt hl (h.ob j o1 e1 g1 g2) hb) (fun eb=>hij (by cases eb;exact h.dist i j o o1 e e1 b h1 h2 g1 hl h3 g2 h4 hb)))
  (fun b1 hb=>⟨k.block b1 (h.tail_lt g1 g2 hb) (fun eb=>by
   cases eb
   obtain⟨c,hc⟩:=h.tail_some g1 g2 hb
   rw[(h.free i o e b h1 h2 h3 h4).1] at hc;cases hc),rfl⟩) (h.tok j o1 e1 g1 g2).1
theorem Hp.turn (h:Hp B E hp w) {i:Nat} {o o':HO} {e:LE} {b:Nat} (h1:hp[i]? =some o) (h2:o.live=true) (h3:E.L[i]? =some e) (h4:e.blk=some b) (k:w.grownBy w' (some b)) (hs:o'.sat E w' e)
  (ht:o'.tok E.M w' e∧(o'.tails w' e).Nodup∧ ∀ x∈o'.tails w' e,x∈o.tails w e∨((B.w0.heap.size≤x∨B.W x)∧E.M x≠none∧ ∀ (j:Nat) (o2:HO) (e2:LE),hp[j]? =some o2→E.L[j]? =some e2→x∉o2.tails w e2)):
  Hp B E (hp.set i o') w' where
 tok:=fun j o1 e1 g1 g2=>by
  rw[List.getElem?_set] at g1
  split at g1
  ·split at g1
   ·cases g1
    rename_i hij _
    subst hij
    rw[h3] at g2
    cases g2
    refine⟨ht.1,ht.2.1,fun x hx=> ?_⟩
    rcases ht.2.2 x hx with hx|⟨q1,q2,_⟩
    ·exact(h.tok i o e h1 h3).2.2 x hx
    ·exact⟨q2,q1⟩
   ·cases g1
  ·rename_i hij
   obtain⟨t1,t2,t3⟩:=h.tok j o1 e1 g1 g2
   obtain⟨q1,q2⟩:=h.tok_turn h1 h2 h3 h4 k hij g1 g2
   exact⟨q1,q2▸t2,q2▸t3⟩
 tdist:=fun i1 j o1 o2 e1 e2 b1 g1 g3 g5 g6 g7 g8=>by
  have other: ∀ {m:Nat} {om:HO} {em:LE},hp[m]? =some om→E.L[m]? =some em→i≠m→b1∈o'.tails w' e→b1∉om.tails w em:=by
   intro m om em q1 q2 q3 q4 q5
   rcases ht.2.2 b1 q4 with hx|⟨_,_,hx⟩
   ·exact q3 (h.tdist i m o om e em b1 h1 q1 h3 q2 hx q5)
   ·exact hx m om em q1 q2 q5
  rw[List.getElem?_set] at g1 g3
  split at g1
  ·rename_i hi1
   subst hi1
   split at g1
   ·cases g1
    rw[h3] at g5
    cases g5
    split at g3
    ·assumption
    ·rename_i hj
     rw[(h.tok_turn h1 h2 h3 h4 k hj g3 g6).2] at g8
     exact absurd g8 (other g3 g6 hj g7)
   ·cases g1
  ·rename_i hi1
   rw[(h.tok_turn h1 h2 h3 h4 k hi1 g1 g5).2] at g7
   split at g3
   ·rename_i hj
    subst hj
    split at g3
    ·cases g3
     rw[h3] at g6
     cases g6
     exact absurd g7 (other g1 g5 hi1 g8)
    ·cases g3
   ·rename_i hj
    rw[(h.tok_turn h1 h2 h3 h4 k hj g3 g6).2] at g8
    exact h.tdist i1 j o1 o2 e1 e2 b1 g1 g3 g5 g6 g7 g8
 ag:=zfn h.ag k fun b' hb=>by cases hb;exact(h.free i o e b h1 h2 h3 h4).1
 base:=h.base
 fresh:=h.fresh
 ok:=Base.ok_grown h.ok k fun b' hb=>by cases hb;exact(h.free i o e b h1 h2 h3 h4).2
 len:=by simp[h.len]
 free:=fun j o1 e1 b1 g1 g2 g3 g4=>by
  rw[List.getElem?_set] at g1
  split at g1
  ·split at g1
   ·cases g1
    rename_i hij _
    subst hij
    rw[h3] at g3
    cases g3
    exact h.free i o e b1 h1 h2 h3 g4
   ·cases g1
  ·exact h.free j o1 e1 b1 g1 g2 g3 g4
 dist:=fun i1 j o1 o2 e1 e2 b1 g1 g2 g3 g4 g5 g6 g7 g8=>by
  have key: ∀ {m:Nat} {om:HO},(hp.set i o')[m]? =some om→om.live=true→ ∃ om',hp[m]? =some om'∧om'.live=true:=by
   intro m om hm hl
   rw[List.getElem?_set] at hm
   split at hm
   ·rename_i him
    subst him
    exact⟨o,h1,h2⟩
   ·exact⟨om,hm,hl⟩
  obtain⟨p1,q1,q2⟩:=key g1 g2
  obtain⟨p2,q3,q4⟩:=key g3 g4
  exact h.dist i1 j p1 p2 e1 e2 b1 q1 q2 q3 q4 g5 g6 g7 g8
 ob:=fun j o1 e1 g1 g2=>by
  rw[List.getElem?_set] at g1
  split at g1
  ·split at g1
   ·cases g1
    rename_i hij _
    subst hij
    rw[h3] at g2
    cases g2
    exact hs
   ·cases g1
  ·rename_i hij
   refine HO.sat_keep (Env.le_refl E) (h.ob j o1 e1 g1 g2) fun b1 hl hb=> ?_
   refine k.block b1 (HO.sat_lt hl (h.ob j o1 e1 g1 g2) hb) (fun eb=>hij ?_)
   cases eb
   exact h.dist i j o o1 e e1 b h1 h2 g1 hl h3 g2 h4 hb
theorem Hp.tok_memo (h:Hp B E hp w) {M':Mem} (hs: ∀ b c,E.M b=some c→M' b=some c) {j:Nat} {o:HO} {e:LE} (g1:hp[j]? =some o) (g2:E.L[j]? =some e):
  o.tok M' w e∧(o.tails w e).Nodup∧ ∀ b∈o.tails w e,M' b≠none∧(B.w0.heap.size≤b∨B.W b):=by
 obtain⟨t1,t2,t3⟩:=h.tok j o e g1 g2
 have hb: ∀ b∈o.tails w e, ∃ c,E.M b=some c∧M' b=some c:=fun b hm=>by
  obtain⟨c,hc⟩:=h.tail_some g1 g2 hm
  exact⟨c,hc,hs b c hc⟩
 refine⟨(HO.tok_keep (Mem.le_of hs) (fun _ _ _=>rfl) (fun b hm=> ?_) t1).1,t2,fun b hm=>⟨?_,(t3 b hm).2⟩⟩
 ·obtain⟨c,h1,h2⟩:=hb b hm
  exact⟨rfl,h2.trans h1.symm⟩
 ·obtain⟨c,h1,h2⟩:=hb b hm
  rw[h2];simp
theorem qC {α:Type} (xs:List α) (len:Option Nat) (h:len.getD xs.length≤xs.length):(zL xs len).length=len.getD xs.length:=by
 cases len with
 |none=>rfl
 |some n=>simp only[zL,List.length_take,Option.getD_some] at *; omega
theorem Hp.freeze (h:Hp B E hp w) {i:Nat} {T:TypeId} {t:Ty} {xs:List t.den} {len:Option Nat} {v:Value} (h1:hp[i]? =some (.arr T t xs)) (hs:SV.sat E (.own i len) v) {u:Ty} {ys:List u.den} (hyl:ys.length=xs.length) (hy: ∀ (M:Mem) d,xp (Rep M t) xs d→xp (Rep M u) ys d):
  ∃ E':Env,E.le E'∧E'.L=E.L∧(∀ b c,E.M b=some c→E'.M b=some c)∧Hp B E' (hp.set i (.fro u ys)) w∧ ∃ cs,Rep E'.M (.sl u) (zL ys len) cs∧v=zG (.sl u) cs:=by
 simp only[SV.sat] at hs
 obtain⟨e,e1,e2,e3⟩:=hs
 have hob:=h.ob _ _ _ h1 e1
 obtain⟨g1,g2,g3,g4,g5⟩:=hob
 have hd:=h.drop i
 have hlen:(zL ys len).length=len.getD e.len:=by
  rw[qC ys len (by rw[hyl,g1];exact e2),hyl,g1]
 cases hb:e.blk with
 |none=>
  have:=g4 hb
  have hnil:ys= []:=List.eq_nil_of_length_eq_zero (by omega)
  refine⟨E,Env.le_refl E,rfl,fun _ _ hh=>hh,h.dropTo i rfl (fun e' he'=> ?_),_,⟨e.addr,e.cap,rfl,by omega, .inl (List.eq_nil_of_length_eq_zero (by omega))⟩,by rw[e3,hlen];rfl⟩
  rw[e1] at he'
  cases he'
  exact⟨hyl.trans g1,g2, .inl hnil⟩
 |some b=>
  obtain⟨c,d,post,f1,f2,f3,f4⟩:=g5 b hb
  obtain⟨hm,hbase⟩:=h.free _ _ _ _ h1 rfl e1 hb
  let M':Mem:=fun j=>if j=b then some d.toArray else E.M j
  have hmm: ∀ j c',E.M j=some c'→M' j=some c':=fun j c' hj=>by
   show(if j=b then some d.toArray else E.M j)=some c'
   split
   ·rename_i hjb;subst hjb;rw[hm] at hj;cases hj
   ·exact hj
  have hle:E.M.le M':=Mem.le_of hmm
  have hEle:E.le ⟨M',E.L⟩:=⟨hle,fun _ _ hh=>hh⟩
  have hmt:=h.mayTurn h1 rfl e1 hb
  have hgone:Hp B ⟨M',E.L⟩ (hp.set i .gone) w:={
   ag:=fun j c' hj=>by
    change (if j=b then some d.toArray else E.M j)=some c' at hj
    split at hj
    ·rename_i hjb;subst hjb;cases hj;exact⟨c,T,_,f1,⟨post,by rw[f2]⟩⟩
    ·exact h.ag j c' hj
   base:=Mem.le_trans h.base hle
   fresh:=fun j c' hj=>by
    change (if j=b then some d.toArray else E.M j)=some c' at hj
    split at hj
    ·rename_i hjb;subst hjb;exact .inr hbase
    ·exact h.fresh j c' hj
   ok:=h.ok
   len:=hd.len
   free:=fun j o' e' b' k1 k2 k3 k4=>by
    obtain⟨k5,k6⟩:=hd.free j o' e' b' k1 k2 k3 k4
    refine⟨?_,k6⟩
    show(if b'=b then some d.toArray else E.M b')=none
    rw[if_neg (fun(hbb:b'=b)=>hmt.obj j o' e' k1 k2 k3 (by rw[k4,hbb]))]
    exact k5
   dist:=hd.dist
   tok:=fun j o' e' k1 k2=>hd.tok_memo hmm k1 k2
   tdist:=hd.tdist
   ob:=fun j o' e' k1 k2=>HO.sat_keep hEle (hd.ob j o' e' k1 k2) fun _ _ _=>rfl}
  have hfro:(HO.fro u ys).sat ⟨M',E.L⟩ w e:=
   ⟨hyl.trans g1,g2, .inr ⟨b,d,hb,⟨d.toArray, [], [],by simp[M'],by simp,rfl⟩,zR (fun x cs hx=>zz hle u x cs hx) (hy _ _ f3)⟩⟩
  refine⟨⟨M',E.L⟩,hEle,rfl,hmm, ?_, ?_⟩
  ·have:=hgone.dropTo i (o':= .fro u ys) rfl (fun e' he'=>by
    rw[show E.L[i]? =some e' from he'] at e1
    cases e1
    exact hfro)
   rwa [List.set_set] at this
  ·obtain⟨c1,d1,p1,p2,p3,p4⟩:=qc (zc u) (len.getD e.len) (hy _ _ f3)
   have htk:zL ys len=ys.take (len.getD e.len):=by
    cases len with
    |none=>simp[zL, ← g1, ← hyl]
    |some n=>rfl
   refine⟨_,⟨e.addr,e.cap,rfl,by rw[hlen];omega, .inr ⟨b,0,c1,by simp[LE.addr,hb],⟨d.toArray, [],d1,by simp[M'],by rw[p1];simp,rfl⟩, ?_⟩⟩,by rw[e3,hlen];rfl⟩
   rw[htk]
   exact zR (fun x cs hx=>zz hle u x cs hx) p2
theorem zgk (h:Hp B E hp w) {i:Nat} {t:Ty} {xs:List t.den} {len:Option Nat} {v:Value} (h1:hp[i]? =some (.fro t xs)) (hs:SV.sat E (.own i len) v):
  ∃ cs,Rep E.M (.sl t) (zL xs len) cs∧v=zG (.sl t) cs:=by
 simp only[SV.sat] at hs
 obtain⟨e,e1,e2,e3⟩:=hs
 obtain⟨g1,g2,g3⟩:=h.ob _ _ _ h1 e1
 have hlen:(zL xs len).length=len.getD e.len:=by
  rw[qC xs len (by rw[g1];exact e2),g1]
 have htk:zL xs len=xs.take (len.getD e.len):=by
  cases len with
  |none=>simp[zL, ← g1]
  |some n=>rfl
 rcases g3 with rfl|⟨b,d,hb,⟨c,pre,post,m1,m2,m3⟩,f3⟩
 ·refine⟨_,⟨e.addr,e.cap,rfl,by rw[hlen];omega, .inl (by rw[htk];simp)⟩,by rw[e3,hlen];rfl⟩
 ·obtain⟨c1,d1,p1,p2,p3,p4⟩:=qc (zc t) (len.getD e.len) f3
  refine⟨_,⟨e.addr,e.cap,rfl,by rw[hlen];omega, .inr ⟨b,0,c1,by simp[LE.addr,hb],⟨c,pre,d1++post,m1,by rw[m2,p1];simp,m3⟩, ?_⟩⟩,by rw[e3,hlen];rfl⟩
  rw[htk]
  exact p2
theorem zvf (h:Hp B E hp w) {i:Nat} {T:TypeId} {t:Ty} {xs:List t.den} {len:Option Nat} {v:Value} (h1:hp[i]? =some (.tk T t xs)) (hs:SV.sat E (.own i len) v):
  ∃ cs,Rep E.M (.sl t) (zL xs len) cs∧v=zG (.sl t) cs:=by
 simp only[SV.sat] at hs
 obtain⟨e,e1,e2,e3⟩:=hs
 obtain⟨g1,g2,g3⟩:=(h.tok _ _ _ h1 e1).1
 have hlen:(zL xs len).length=len.getD e.len:=by
  rw[qC xs len (by rw[g1];exact e2),g1]
 have htk:zL xs len=xs.take (len.getD e.len):=by
  cases len with
  |none=>simp[zL, ← g1]
  |some n=>rfl
 rcases g3 with ⟨ad,q1,q2⟩|⟨b,cap,d,c,U,q1,q2,q3,q4,q5,q6,q7,q8⟩
 ·simp only[Value.slice.injEq] at q1
  exact⟨_,⟨e.addr,e.cap,rfl,by rw[hlen];omega, .inl (by rw[htk,q2];simp)⟩,by rw[e3,hlen];rfl⟩
 ·simp only[Value.slice.injEq] at q1
  obtain⟨c1,d1,p1,p2,p3,p4⟩:=qc (zc t) (len.getD e.len) q5
  refine⟨_,⟨e.addr,e.cap,rfl,by rw[hlen];omega, .inr ⟨b,0,c1,q1.1,⟨d, [],d1,q4,by rw[p1];simp,rfl⟩, ?_⟩⟩,by rw[e3,hlen];rfl⟩
  rw[htk]
  exact p2
theorem znc {k:SV→Option R} {v:Value}: ∀ {hp0:List HO} {n i:Nat} {len:Option Nat},z06 hp0 n i len k=some r→(∀ o,hp0[n]? =some o→hp[i]? =some o)→Hp B E hp w→SV.sat E (.own i len) v→ ∃ s,s.sat E v∧k s=some r
 | [],n,i,len,h,_,hh,hs=>by
  cases n<;>exact⟨_,hs,h⟩
 |o::l,n+1,i,len,h,hn,hh,hs=>znc (hp0:=l) (n:=n) (by cases o<;>exact h) (fun o' ho=>hn o' (by simpa using ho)) hh hs
 |o::l,0,i,len,h,hn,hh,hs=>by
  have h1:=hn o (by simp)
  cases o with
  |fro t xs=>
   obtain⟨cs,c1,c2⟩:=zgk hh h1 hs
   exact⟨.val (.sl t) (zL xs len),by simp only[SV.sat];exact⟨cs,c1,c2⟩,h⟩
  |gone=>exact⟨_,hs,h⟩
  |cells _=>exact⟨_,hs,h⟩
  |arr _ _ _=>exact⟨_,hs,h⟩
  |frs _ _=>exact⟨_,hs,h⟩
  |tk _ _ _=>exact⟨_,hs,h⟩
  |map _ _ _=>exact⟨_,hs,h⟩
theorem zqd (h:Hp B E hp w) {i:Nat} {t:Ty} {x:t.den} {v:Value} (h1:hp[i]? =some (.frs t x)) (hs:SV.sat E (.ptr i 0) v):SV.sat E (.ro t x) v:=by
 simp only[SV.sat] at hs ⊢
 obtain⟨e,b,e1,e2,e3⟩:=hs
 obtain⟨b',c,g1,g2,g3⟩:=h.ob _ _ _ h1 e1
 rw[e2] at g1
 cases g1
 exact⟨b,0,c,e3,g2,g3⟩
theorem znd {k:SV→Option R} {v:Value}: ∀ {hp0:List HO} {n i off:Nat},zz9 hp0 n i off k=some r→(∀ o,hp0[n]? =some o→hp[i]? =some o)→Hp B E hp w→SV.sat E (.ptr i off) v→ ∃ s,s.sat E v∧k s=some r
 | [],n,i,off,h,_,hh,hs=>by
  cases n<;>exact⟨_,hs,h⟩
 |o::l,n+1,i,off,h,hn,hh,hs=>znd (hp0:=l) (n:=n) (by cases o<;>exact h) (fun o' ho=>hn o' (by simpa using ho)) hh hs
 |o::l,0,i,off,h,hn,hh,hs=>by
  have h1:=hn o (by simp)
  cases o with
  |frs t x=>
   unfold zz9 at h
   cases ho:Nat.beq off 0 with
   |false=>rw[ho] at h;exact⟨_,hs,h⟩
   |true=>
    rw[ho] at h
    have:=Nat.eq_of_beq_eq_true ho
    subst this
    exact⟨_,zqd hh h1 hs,h⟩
  |gone=>exact⟨_,hs,h⟩
  |cells _=>exact⟨_,hs,h⟩
  |arr _ _ _=>exact⟨_,hs,h⟩
  |fro _ _=>exact⟨_,hs,h⟩
  |tk _ _ _=>exact⟨_,hs,h⟩
  |map _ _ _=>exact⟨_,hs,h⟩
theorem zkn {s:SV} {k:SV→Option R} {v:Value} (hh:Hp B E hp w) (hs:s.sat E v) (h:zsp hp s k=some r): ∃ s',s'.sat E v∧k s'=some r:=by
 unfold zsp at h
 split at h
 case h_1 id len=>exact znc h (fun _ h=>h) hh hs
 case h_2 id off=>exact znd h (fun _ h=>h) hh hs
 case h_3=>exact⟨s,hs,h⟩
theorem zkm: ∀ {fr:List SV} {vs:List Value} {k:List SV→Option R},Hp B E hp w→SV.satL E fr vs→zso hp fr k=some r→ ∃ fr',SV.satL E fr' vs∧k fr'=some r
 | [],vs,k,hh,hs,h=>⟨[],hs,h⟩
 |s::l,vs,k,hh,hs,h=>by
  simp only[SV.satL] at hs
  obtain⟨v,ws,rfl,h1,h2⟩:=hs
  unfold zso at h
  obtain⟨s',h3,h⟩:=zkn hh h1 h
  obtain⟨l',h4,h⟩:=zkm hh h2 h
  exact⟨s'::l',by simp only[SV.satL];exact⟨v,ws,rfl,h3,h4⟩,h⟩
theorem x8 {fr:List SV} {vs:List Value} {k:List SV→Option R} (hh:Hp B E hp w) (hs:SV.satL E fr vs) (h:za7 hp fr k=some r): ∃ fr',SV.satL E fr' vs∧k fr'=some r:=by
 unfold za7 at h
 cases hb:zt8 hp with
 |true=>rw[hb] at h;exact zkm hh hs h
 |false=>rw[hb] at h;exact⟨fr,hs,h⟩
theorem Hp.room (h:Hp B E hp w) (es:List LE):Hp B ⟨E.M,E.L++es⟩ (hp++List.replicate es.length .gone) w:=by
 have old': ∀ (i:Nat) (o:HO),(hp++List.replicate es.length .gone)[i]? =some o→o= .gone∨(hp[i]? =some o∧i<E.L.length):=by
  intro i o h1
  by_cases hi:i<hp.length
  ·rw[List.getElem?_append_left hi] at h1
   exact .inr ⟨h1,by rw[h.len];exact hi⟩
  ·rw[List.getElem?_append_right (by omega),List.getElem?_replicate] at h1
   split at h1
   ·cases h1;exact .inl rfl
   ·cases h1
 have old: ∀ (i:Nat) (o:HO),(hp++List.replicate es.length .gone)[i]? =some o→o.live=true→hp[i]? =some o∧i<E.L.length:=by
  intro i o h1 h2
  rcases old' i o h1 with rfl|h3
  ·simp[HO.live] at h2
  ·exact h3
 exact {
  tok:=fun i o e h1 h2=>by
   rcases old' i o h1 with rfl|⟨g1,g2⟩
   ·exact⟨trivial,List.nodup_nil,fun b hb=>by simp[HO.tails] at hb⟩
   ·have h2':(E.L++es)[i]? =some e:=h2
    rw[List.getElem?_append_left g2] at h2'
    exact h.tok i o e g1 h2'
  tdist:=fun i j o1 o2 e1 e2 b h1 h3 h5 h6 h7 h8=>by
   rcases old' i o1 h1 with rfl|⟨g1,g2⟩
   ·simp[HO.tails] at h7
   ·rcases old' j o2 h3 with rfl|⟨g3,g4⟩
    ·simp[HO.tails] at h8
    ·have h5':(E.L++es)[i]? =some e1:=h5
     have h6':(E.L++es)[j]? =some e2:=h6
     rw[List.getElem?_append_left g2] at h5'
     rw[List.getElem?_append_left g4] at h6'
     exact h.tdist i j o1 o2 e1 e2 b g1 g3 h5' h6' h7 h8
  ag:=h.ag
  base:=h.base
  fresh:=h.fresh
  ok:=h.ok
  len:=by simp[h.len]
  free:=fun i o e b h1 h2 h3 h4=>by
   obtain⟨g1,g2⟩:=old i o h1 h2
   have h3':(E.L++es)[i]? =some e:=h3
   rw[List.getElem?_append_left g2] at h3'
   exact h.free i o e b g1 h2 h3' h4
  dist:=fun i j o1 o2 e1 e2 b h1 h2 h3 h4 h5 h6 h7 h8=>by
   obtain⟨g1,g2⟩:=old i o1 h1 h2
   obtain⟨g3,g4⟩:=old j o2 h3 h4
   have h5':(E.L++es)[i]? =some e1:=h5
   have h6':(E.L++es)[j]? =some e2:=h6
   rw[List.getElem?_append_left g2] at h5'
   rw[List.getElem?_append_left g4] at h6'
   exact h.dist i j o1 o2 e1 e2 b g1 h2 g3 h4 h5' h6' h7 h8
  ob:=fun i o e h1 h2=>by
   rcases old' i o h1 with rfl|⟨g1,g2⟩
   ·trivial
   ·have h2':(E.L++es)[i]? =some e:=h2
    rw[List.getElem?_append_left g2] at h2'
    refine HO.sat_keep (E:=E) (E':=⟨E.M,E.L++es⟩) ⟨Mem.le_refl _,fun j x hj=> ?_⟩ (h.ob i o e g1 h2') fun _ _ _=>rfl
    show(E.L++es)[j]? =some x
    rw[List.getElem?_append_left (List.getElem?_eq_some_iff.1 hj).1]
    exact hj}
theorem Hp.layT (h:Hp B E hp w) {i:Nat} (h1:hp[i]? =some .gone) {e:LE} (h3:E.L[i]? =some e) {o':HO} (hl:o'.live=false) (hs:o'.sat E w e) (hk:o'.tok E.M w e) (hf:FreeT B E hp w (o'.tails w e)):Hp B E (hp.set i o') w:=by
 have get: ∀ (j:Nat) (o:HO),(hp.set i o')[j]? =some o→(j=i∧o=o')∨(j≠i∧hp[j]? =some o):=by
  intro j o hj
  rw[List.getElem?_set] at hj
  split at hj
  ·rename_i hij
   split at hj
   ·exact .inl ⟨hij.symm,by cases hj;rfl⟩
   ·cases hj
  ·rename_i hij
   exact .inr ⟨fun hh=>hij hh.symm,hj⟩
 exact {
  ag:=h.ag
  base:=h.base
  fresh:=h.fresh
  ok:=h.ok
  len:=by simp[h.len]
  free:=fun j o e' b g1 g2 g3 g4=>by
   rcases get j o g1 with ⟨rfl,rfl⟩|⟨_,g1⟩
   ·rw[hl] at g2;cases g2
   ·exact h.free j o e' b g1 g2 g3 g4
  dist:=fun j1 j2 o1 o2 e1 e2 b g1 g2 g3 g4 g5 g6 g7 g8=>by
   rcases get j1 o1 g1 with ⟨q1,q2⟩|⟨q1,q2⟩
   ·subst q2;rw[hl] at g2;cases g2
   ·rcases get j2 o2 g3 with ⟨q3,q4⟩|⟨q3,q4⟩
    ·subst q4;rw[hl] at g4;cases g4
    ·exact h.dist j1 j2 o1 o2 e1 e2 b q2 g2 q4 g4 g5 g6 g7 g8
  ob:=fun j o e' g1 g2=>by
   rcases get j o g1 with ⟨rfl,rfl⟩|⟨_,g1⟩
   ·rw[h3] at g2
    cases g2
    exact hs
   ·exact h.ob j o e' g1 g2
  tok:=fun j o e' g1 g2=>by
   rcases get j o g1 with ⟨rfl,rfl⟩|⟨_,g1⟩
   ·rw[h3] at g2
    cases g2
    exact⟨hk,hf.1,fun b hb=>(hf.2 b hb).1⟩
   ·exact h.tok j o e' g1 g2
  tdist:=fun j1 j2 o1 o2 e1 e2 b g1 g3 g5 g6 g7 g8=>by
   rcases get j1 o1 g1 with ⟨q1,q2⟩|⟨q1,q2⟩
   ·rcases get j2 o2 g3 with ⟨q3,q4⟩|⟨q3,q4⟩
    ·omega
    ·subst q1;subst q2
     rw[h3] at g5;cases g5
     exact absurd g8 ((hf.2 b g7).2 j2 o2 e2 q4 g6)
   ·rcases get j2 o2 g3 with ⟨q3,q4⟩|⟨q3,q4⟩
    ·subst q3;subst q4
     rw[h3] at g6;cases g6
     exact absurd g7 ((hf.2 b g8).2 j1 o1 e1 q2 g5)
    ·exact h.tdist j1 j2 o1 o2 e1 e2 b q2 q4 g5 g6 g7 g8}
theorem Hp.pushT (h:Hp B E hp w) {o':HO} {e':LE} (hl:o'.live=false) (hs:o'.sat (E.snoc e') w e') (hk:o'.tok E.M w e') (hf:FreeT B E hp w (o'.tails w e')):Hp B (E.snoc e') (hp++ [o']) w:=by
 have h1:=h.room [e']
 simp only[List.length_cons,List.length_nil,List.replicate_succ,List.replicate_zero] at h1
 have hi:(hp++ [HO.gone])[hp.length]? =some .gone:=by simp
 have he:(E.snoc e').L[hp.length]? =some e':=by
  show(E.L++ [e'])[hp.length]? =_
  rw[← h.len];simp
 have h2:=h1.layT hi he hl hs hk ⟨hf.1,fun x hx=>⟨(hf.2 x hx).1,fun j o e g1 g2=>by
  rcases qo g1 with ⟨p1,l1⟩|⟨l1,s1⟩
  ·have g2':(E.L++ [e'])[j]? =some e:=g2
   rw[List.getElem?_append_left (by rw[h.len];exact l1)] at g2'
   exact(hf.2 x hx).2 j o e p1 g2'
  ·rw[s1];simp[HO.tails]⟩⟩
 have hset:(hp++ [HO.gone]).set hp.length o'=hp++ [o']:=by simp
 rwa [hset] at h2
theorem Hp.growTk (h:Hp B E hp w) {id:Nat} {T:TypeId} {t:Ty} {xs:List t.den} {e:LE} {b:Nat} {d c:Array Value} {U:TypeId} {news:List Value} (h1:hp[id]? =some (.tk T t xs)) (h2:E.L[id]? =some e) (hb:e.blk=some b) (hcap:e.cap≠0)
  (hM:E.M b=some d) (hc:w.heap[b]? =some (.cells c U (0,0))) {new:Array Value} (hnew: ∃ post,new.toList=d.toList++news++post) {w':World} (hw':w'.heap[b]? =some (.cells new U (0,0))) (hg:w.grownBy w' (some b)):
  E.M.le (fun j=>if j=b then some (d.toList++news).toArray else E.M j)∧Hp B ⟨fun j=>if j=b then some (d.toList++news).toArray else E.M j,E.L⟩ (hp.set id .gone) w'∧
   FreeT B ⟨fun j=>if j=b then some (d.toList++news).toArray else E.M j,E.L⟩ (hp.set id .gone) w' [b]:=by
 have hd:=h.drop id
 have hbt:b∈(HO.tk T t xs).tails w e:=by simp[HO.tails,hb,hcap]
 have hbase:=((h.tok id _ e h1 h2).2.2 b hbt).2
 have hle:E.M.le (fun j=>if j=b then some (d.toList++news).toArray else E.M j):=by
  intro j c' hj
  by_cases hjb:j=b
  ·subst hjb
   rw[hM] at hj;cases hj
   exact⟨_,if_pos rfl,⟨news,by simp⟩⟩
  ·exact⟨c',by simp only[if_neg hjb];exact hj,List.prefix_refl _⟩
 have hEle:E.le ⟨fun j=>if j=b then some (d.toList++news).toArray else E.M j,E.L⟩:=⟨hle,fun _ _ hh=>hh⟩
 have hgone: ∀ {j:Nat} {o:HO},(hp.set id .gone)[j]? =some o→o= .gone∨(j≠id∧hp[j]? =some o):=by
  intro j o hj
  rw[List.getElem?_set] at hj
  split at hj
  ·split at hj
   ·cases hj;exact .inl rfl
   ·cases hj
  ·rename_i hij
   exact .inr ⟨fun hh=>hij hh.symm,hj⟩
 have hnt: ∀ {j:Nat} {o:HO} {e':LE},(hp.set id .gone)[j]? =some o→E.L[j]? =some e'→b∉o.tails w e':=by
  intro j o e' hj he hm
  rcases hgone hj with rfl|⟨q1,q2⟩
  ·simp[HO.tails] at hm
  ·exact q1 (h.tdist j id o _ e' e b q2 h1 he h2 hm hbt)
 have hnb: ∀ {j:Nat} {o:HO} {e':LE},(hp.set id .gone)[j]? =some o→o.live=true→E.L[j]? =some e'→ ∀ b',e'.blk=some b'→b'≠b:=by
  intro j o e' hj hl he b' hb' hbb
  subst hbb
  rw[(hd.free j o e' b' hj hl he hb').1] at hM;cases hM
 have hkeep: ∀ {j:Nat} {o:HO} {e':LE},(hp.set id .gone)[j]? =some o→E.L[j]? =some e'→o.tok (fun j=>if j=b then some (d.toList++news).toArray else E.M j) w' e'∧o.tails w' e'=o.tails w e':=by
  intro j o e' hj he
  refine HO.tok_keep hle (fun b' hl hb'=>hg.block b' (HO.sat_lt hl (hd.ob j o e' hj he) hb') (fun eb=>hnb hj hl he b' hb' (by cases eb;rfl))) (fun b' hm=> ?_) (hd.tok j o e' hj he).1
  have hne:b'≠b:=fun hbb=>hnt hj he (hbb▸hm)
  exact⟨hg.block b' (hd.tail_lt hj he hm) (fun eb=>hne (by cases eb;rfl)),if_neg hne⟩
 refine⟨hle, ?_,by simp,fun x hx=> ?_⟩
 ·exact {
   ag:=fun j c' hj=>by
    by_cases hjb:j=b
    ·subst hjb
     have hj':some (d.toList++news).toArray=some c':=by simpa using hj
     cases hj'
     obtain⟨post,hp'⟩:=hnew
     exact⟨new,U,_,hw',⟨post,by rw[hp']⟩⟩
    ·have hj':E.M j=some c':=by simpa [hjb] using hj
     obtain⟨cs,V,fz,g1,g2⟩:=h.ag j c' hj'
     exact⟨cs,V,fz,by rw[hg.block j (qb g1) (fun eb=>hjb (by cases eb;rfl))];exact g1,g2⟩
   base:=Mem.le_trans h.base hle
   fresh:=fun j c' hj=>by
    by_cases hjb:j=b
    ·subst hjb;exact .inr hbase
    ·exact h.fresh j c' (by simpa [hjb] using hj)
   ok:=Base.ok_grown h.ok hg fun b' hb'=>by cases hb';exact hbase
   len:=hd.len
   free:=fun j o e' b' g1 g2 g3 g4=>by
    obtain⟨k1,k2⟩:=hd.free j o e' b' g1 g2 g3 g4
    exact⟨by simp only[if_neg (hnb g1 g2 g3 b' g4)];exact k1,k2⟩
   dist:=hd.dist
   ob:=fun j o e' g1 g2=>HO.sat_keep hEle (hd.ob j o e' g1 g2) fun b' hl hb'=>hg.block b' (HO.sat_lt hl (hd.ob j o e' g1 g2) hb') (fun eb=>hnb g1 hl g2 b' hb' (by cases eb;rfl))
   tok:=fun j o e' g1 g2=>by
    obtain⟨_,t2,t3⟩:=hd.tok j o e' g1 g2
    obtain⟨k1,k2⟩:=hkeep g1 g2
    refine⟨k1,k2▸t2,fun b' hm=> ?_⟩
    rw[k2] at hm
    have hne:b'≠b:=fun hbb=>by subst hbb;exact hnt g1 g2 hm
    refine⟨?_,(t3 b' hm).2⟩
    simp only[if_neg hne]
    exact(t3 b' hm).1
   tdist:=fun j1 j2 o1 o2 e1 e2 b' g1 g3 g5 g6 g7 g8=>by
    rw[(hkeep g1 g5).2] at g7
    rw[(hkeep g3 g6).2] at g8
    exact hd.tdist j1 j2 o1 o2 e1 e2 b' g1 g3 g5 g6 g7 g8}
 ·simp only[List.mem_singleton] at hx
  subst hx
  refine⟨⟨by simp,hbase⟩,fun j o e' g1 g2 hm=> ?_⟩
  rw[(hkeep g1 g2).2] at hm
  exact hnt g1 g2 hm
theorem Hp.freezeT (h:Hp B E hp w) {i:Nat} {T:TypeId} {t:Ty} {xs:List t.den} {e:LE} (h1:hp[i]? =some (.arr T t xs)) (e1:E.L[i]? =some e) {u:Ty} {ys:List u.den} (hyl:ys.length=xs.length) (hsz:u.size=t.size) (hy: ∀ (M:Mem) d,xp (Rep M t) xs d→xp (Rep M u) ys d):
  ∃ E':Env,E.le E'∧E'.L=E.L∧(∀ b c,E.M b=some c→E'.M b=some c)∧Hp B E' (hp.set i .gone) w∧zy4 E'.M w u ys (.slice e.addr ys.length e.cap)∧ys.length=e.len∧FreeT B E' (hp.set i .gone) w e.blk.toList:=by
 have hob:=h.ob _ _ _ h1 e1
 obtain⟨g1,g2,g3,g4,g5⟩:=hob
 have hd:=h.drop i
 cases hb:e.blk with
 |none=>
  have hc:=g4 hb
  have hnil:ys= []:=List.eq_nil_of_length_eq_zero (by omega)
  exact⟨E,Env.le_refl E,rfl,fun _ _ hh=>hh,hd, .inl ⟨e.addr,by rw[hnil,hc];rfl,hnil⟩,hyl.trans g1,by simp,fun x hx=>by simp at hx⟩
 |some b=>
  obtain⟨c,d,post,f1,f2,f3,f4⟩:=g5 b hb
  obtain⟨hm,hbase⟩:=h.free _ _ _ _ h1 rfl e1 hb
  have hmm: ∀ j c',E.M j=some c'→(fun j=>if j=b then some d.toArray else E.M j) j=some c':=fun j c' hj=>by
   have:j≠b:=fun hjb=>by subst hjb;rw[hm] at hj;cases hj
   simp only[if_neg this];exact hj
  have hle:E.M.le (fun j=>if j=b then some d.toArray else E.M j):=Mem.le_of hmm
  have hmt:=h.mayTurn h1 rfl e1 hb
  have hgone:Hp B ⟨fun j=>if j=b then some d.toArray else E.M j,E.L⟩ (hp.set i .gone) w:={
   ag:=fun j c' hj=>by
    by_cases hjb:j=b
    ·subst hjb
     have hj':some d.toArray=some c':=by simpa using hj
     cases hj'
     exact⟨c,T,_,f1,⟨post,by rw[f2]⟩⟩
    ·exact h.ag j c' (by simpa [hjb] using hj)
   base:=Mem.le_trans h.base hle
   fresh:=fun j c' hj=>by
    by_cases hjb:j=b
    ·subst hjb;exact .inr hbase
    ·exact h.fresh j c' (by simpa [hjb] using hj)
   ok:=h.ok
   len:=hd.len
   free:=fun j o' e' b' k1 k2 k3 k4=>by
    obtain⟨k5,k6⟩:=hd.free j o' e' b' k1 k2 k3 k4
    have hne:b'≠b:=fun hbb=>hmt.obj j o' e' k1 k2 k3 (by rw[k4,hbb])
    exact⟨by simp only[if_neg hne];exact k5,k6⟩
   dist:=hd.dist
   tok:=fun j o' e' k1 k2=>hd.tok_memo hmm k1 k2
   tdist:=hd.tdist
   ob:=fun j o' e' k1 k2=>HO.sat_keep ⟨hle,fun _ _ hh=>hh⟩ (hd.ob j o' e' k1 k2) fun _ _ _=>rfl}
  refine⟨⟨fun j=>if j=b then some d.toArray else E.M j,E.L⟩,⟨hle,fun _ _ hh=>hh⟩,rfl,hmm,hgone, ?_,hyl.trans g1,by simp,fun x hx=> ?_⟩
  ·cases hc:e.cap with
   |zero=>exact .inl ⟨e.addr,by rw[show ys= [] from List.eq_nil_of_length_eq_zero (by omega)];rfl,List.eq_nil_of_length_eq_zero (by omega)⟩
   |succ n=>exact .inr ⟨b,n,d.toArray,c,T,by simp[LE.addr,hb],by omega,by omega,by simp,zR (fun x cs hx=>zz hle u x cs hx) (hy _ _ f3),f1,⟨post,by rw[f2]⟩,by rw[f4,hsz,hc]⟩
  ·simp only[Option.toList_some,List.mem_singleton] at hx
   subst hx
   exact⟨⟨by simp,hbase⟩,fun j o' e' k1 k2 hmem=>by
    obtain⟨c',hc'⟩:=hd.tail_some k1 k2 hmem
    rw[hm] at hc';cases hc'⟩
theorem FreeT.drop {l:List Nat} (h:FreeT B E hp w l) (j:Nat):FreeT B E (hp.set j .gone) w l:=⟨h.1,fun x hx=>⟨(h.2 x hx).1,fun m o e h1 h2=>by
 rw[List.getElem?_set] at h1
 split at h1
 ·split at h1
  ·cases h1;simp[HO.tails]
  ·cases h1
 ·exact(h.2 x hx).2 m o e h1 h2⟩⟩
theorem MayTurn.drop {b:Nat} (h:MayTurn B E hp b) (j:Nat):MayTurn B E (hp.set j .gone) b:=⟨h.base,h.mem,fun m o e h1 h2 h3=>by
 rw[List.getElem?_set] at h1
 split at h1
 ·split at h1
  ·cases h1;simp[HO.live] at h2
  ·cases h1
 ·exact h.obj m o e h1 h2 h3⟩
theorem Hp.dropFree (h:Hp B E hp w) {i:Nat} {o:HO} {e:LE} (h1:hp[i]? =some o) (h2:E.L[i]? =some e):FreeT B E (hp.set i .gone) w (o.tails w e):=by
 obtain⟨_,t2,t3⟩:=h.tok i o e h1 h2
 refine⟨t2,fun x hx=>⟨t3 x hx,fun j o' e' g1 g2 g3=> ?_⟩⟩
 by_cases hij:i=j
 ·subst hij
  rw[List.getElem?_set_self (List.getElem?_eq_some_iff.1 h1).1] at g1
  cases g1;simp[HO.tails] at g3
 ·rw[List.getElem?_set_ne hij] at g1
  exact hij (h.tdist i j o o' e e' x h1 g1 h2 g2 hx g3)
structure Frz (B:Base) (E E':Env) (hp hp':List HO) (w:World):Prop where
 le:E.le E'
 L:E'.L=E.L
 heap:Hp B E' hp' w
 len:hp'.length=hp.length
 obj: ∀ i:Nat,hp'[i]? =hp[i]? ∨ ∃ o,hp'[i]? =some o∧o.live=false∧ ∀ w e,o.tails w e= []
 keep: ∀ b c,E.M b=some c→E'.M b=some c
theorem Frz.refl (h:Hp B E hp w):Frz B E E hp hp w:=⟨Env.le_refl E,rfl,h,rfl,fun _=> .inl rfl,fun _ _ h=>h⟩
theorem Frz.trans {E' E'':Env} {hp' hp'':List HO} (h:Frz B E E' hp hp' w) (k:Frz B E' E'' hp' hp'' w):Frz B E E'' hp hp'' w:=
 ⟨Env.le_trans h.le k.le,k.L.trans h.L,k.heap,k.len.trans h.len,fun i=>by
  rcases k.obj i with h1|h1
  ·rcases h.obj i with h2|⟨o,h2,h3⟩
   ·exact .inl (h1.trans h2)
   ·exact .inr ⟨o,h1.trans h2,h3⟩
  ·exact .inr h1,fun b c hb=>k.keep b c (h.keep b c hb)⟩
def Was (E:Env) (hp:List HO) (w:World) (b:Nat):Prop:=E.M b=none∨ ∃ (j:Nat) (o:HO) (e:LE),hp[j]? =some o∧E.L[j]? =some e∧b∈o.tails w e
theorem Frz.mem {E':Env} {hp':List HO} (f:Frz B E E' hp hp' w) {b:Nat} (h:E.M b≠none):E'.M b=E.M b:=by
 cases hb:E.M b with
 |none=>exact absurd hb h
 |some c=>exact f.keep b c hb
theorem Was.frz {E':Env} {hp':List HO} (f:Frz B E E' hp hp' w) {b:Nat} (h:Was E' hp' w b):Was E hp w b:=by
 rcases h with h|⟨j,o,e,h1,h2,h3⟩
 ·left
  cases hb:E.M b with
  |none=>rfl
  |some c=>rw[f.keep b c hb] at h;cases h
 ·right
  rcases f.obj j with h4|⟨o2,h4,_,h6⟩
  ·exact⟨j,o,e,by rw[← h4];exact h1,by rw[← f.L];exact h2,h3⟩
  ·rw[h1] at h4;cases h4
   rw[h6] at h3;simp at h3
theorem FreeT.frz {E':Env} {hp':List HO} {l:List Nat} (f:Frz B E E' hp hp' w) (h:FreeT B E hp w l):FreeT B E' hp' w l:=
 ⟨h.1,fun x hx=>⟨⟨by rw[f.mem (h.2 x hx).1.1];exact(h.2 x hx).1.1,(h.2 x hx).1.2⟩,fun j o e h1 h2=>by
  rcases f.obj j with h4|⟨o2,h4,_,h6⟩
  ·exact(h.2 x hx).2 j o e (by rw[← h4];exact h1) (by rw[← f.L];exact h2)
  ·rw[h1] at h4;cases h4
   rw[h6];simp⟩⟩
theorem FreeT.apart {l m:List Nat} (h:FreeT B E hp w l) (hm: ∀ b∈m,Was E hp w b): ∀ b∈l,b∉m:=fun b hb hb'=>by
 rcases hm b hb' with h1|⟨j,o,e,h1,h2,h3⟩
 ·exact(h.2 b hb).1.1 h1
 ·exact(h.2 b hb).2 j o e h1 h2 h3
theorem FreeT.nil:FreeT B E hp w []:=⟨List.nodup_nil,fun x hx=>by simp at hx⟩
theorem FreeT.app {l m:List Nat} (h:FreeT B E hp w l) (k:FreeT B E hp w m) (ha: ∀ b∈l,b∉m):FreeT B E hp w (l++m):=
 ⟨List.nodup_append.2 ⟨h.1,k.1,fun a h1 b h2 e=>ha a h1 (e▸h2)⟩,fun x hx=>by
  rcases List.mem_append.1 hx with hx|hx
  ·exact h.2 x hx
  ·exact k.2 x hx⟩
theorem FreeT.sub {l m:List Nat} (h:FreeT B E hp w l) (hs:m.Sublist l):FreeT B E hp w m:=⟨h.1.sublist hs,fun x hx=>h.2 x (hs.subset hx)⟩
structure OwnL (B:Base) (E E':Env) (hp hp':List HO) (w:World) (l:List Nat):Prop where
 free:FreeT B E' hp' w l
 was: ∀ b∈l,Was E hp w b
theorem OwnL.nil {E':Env} {hp':List HO}:OwnL B E E' hp hp' w []:=⟨FreeT.nil,fun b hb=>by simp at hb⟩
theorem OwnL.app {E1 E2:Env} {hp1 hp2:List HO} {l m:List Nat} (f1:Frz B E E1 hp hp1 w) (f2:Frz B E1 E2 hp1 hp2 w) (h:OwnL B E E1 hp hp1 w l) (k:OwnL B E1 E2 hp1 hp2 w m):OwnL B E E2 hp hp2 w (l++m):=
 ⟨(h.free.frz f2).app k.free (h.free.apart k.was),fun b hb=>by
   rcases List.mem_append.1 hb with hb|hb
   ·exact h.was b hb
   ·exact(k.was b hb).frz f1⟩
theorem TokT.frz {E1 E2:Env} {hp1 hp2:List HO} (f2:Frz B E1 E2 hp1 hp2 w) {t:Ty} {x:t.den} {cs:List Value} (hf:FreeT B E1 hp1 w (tailsT t x cs)) (h:TokT E1.M w t x cs):TokT E2.M w t x cs:=
 qK f2.le.1 t x cs (fun b hb=>⟨rfl,f2.mem (hf.2 b hb).1.1⟩) h
theorem TokN.frz {E1 E2:Env} {hp1 hp2:List HO} (f2:Frz B E1 E2 hp1 hp2 w) {t:Ty} {n:Nat} {xs:List t.den} {cs:List Value} (hf:FreeT B E1 hp1 w (tailsN (tailsT t) n xs cs)) (h:TokN (TokT E1.M w t) n xs cs):TokN (TokT E2.M w t) n xs cs:=
 x9 (g:=tailsT t) (P:=zbk E1.M E2.M w w) (fun x cs hb h=>qK f2.le.1 t x cs hb h) (fun b hb=>⟨rfl,f2.mem (hf.2 b hb).1.1⟩) h
theorem zvj {t:Ty} (ht:t.one=true) {M:Mem} {x:t.den} {cs:List Value} (h:Rep M t x cs):cs= [zG t cs]:=by
 have hlen:=zc _ _ _ h
 rw[Ty.size_one ht] at hlen
 match cs,hlen with
 | [u],_=>simp[zG,Ty.one_not_agg ht]
theorem zqs {t:Ty} {s:SV} {v:Value} {k:t.den→List HO→Option R} (hh:Hp B E hp w) (hs:s.sat E v) (h:zlv t s hp k=some r):
  ∃ E' hp' x,Frz B E E' hp hp' w∧(∃ cs,Rep E'.M t x cs∧v=zG t cs∧TokT E'.M w t x cs∧OwnL B E E' hp hp' w (tailsT t x cs))∧k x hp'=some r:=by
 have pl: ∀ {u:Ty} {x:u.den} {cs:List Value} {M:Mem} {E':Env} {hp':List HO},u.noOwn=true→TokT M w u x cs∧OwnL B E E' hp hp' w (tailsT u x cs):=fun hu=>⟨xt _ _ _ hu,by rw[qB _ _ _ hu];exact OwnL.nil⟩
 unfold zlv at h
 split at h
 case h_1 t' x=>
  cases hno:t.noOwn with
  |true=>
   rw[hno,cond_true] at h
   replace h:=zB h;obtain⟨ht,h⟩:=h
   subst ht
   simp only[SV.sat] at hs
   obtain⟨cs,c1,c2⟩:=hs
   exact⟨E,hp,x,Frz.refl hh,⟨cs,c1,c2,pl hno⟩,h⟩
  |false=>
   rw[hno,cond_false] at h
   replace h:=zB h;obtain⟨ht,h⟩:=h
   subst ht
   simp only[SV.sat] at hs
   obtain⟨cs,c1,c2⟩:=hs
   exact⟨E,hp,t.lift x,Frz.refl hh,⟨cs,zag t x cs c1,by rw[c2,zG,zG,Ty.er_isAgg],jQ t x cs,by rw[qY];exact OwnL.nil⟩,h⟩
 case h_2 b=>
  split at h
  case h_1=>exact⟨E,hp,b,Frz.refl hh,⟨[.bool b],rfl,by simp only[SV.sat] at hs;rw[hs];rfl,pl rfl⟩,h⟩
  case h_2=>cases h
 case h_3=>
  simp only[SV.sat] at hs
  split at h
  case h_1 e k=>exact⟨E,hp, [],Frz.refl hh,⟨[.slice none 0 0],⟨none,0,rfl,by simp, .inl rfl⟩,by rw[hs];rfl,pl rfl⟩,h⟩
  case h_2 e k=>exact⟨E,hp,(true, []),Frz.refl hh,⟨[.slice none 0 0],⟨none,0,rfl,by simp, .inl rfl⟩,by rw[hs];rfl,fun _=>⟨_,rfl, .inl ⟨none,rfl,rfl⟩⟩,OwnL.nil⟩,h⟩
  case h_3=>cases h
 case h_4=>
  simp only[SV.sat] at hs
  obtain⟨ad,hv⟩:=hs
  split at h
  case h_1 e k=>exact⟨E,hp, [],Frz.refl hh,⟨[.slice ad 0 0],⟨ad,0,rfl,by simp, .inl rfl⟩,by rw[hv];rfl,pl rfl⟩,h⟩
  case h_2 e k=>exact⟨E,hp,(true, []),Frz.refl hh,⟨[.slice ad 0 0],⟨ad,0,rfl,by simp, .inl rfl⟩,by rw[hv];rfl,fun _=>⟨_,rfl, .inl ⟨ad,rfl,rfl⟩⟩,by cases ad<;>exact OwnL.nil⟩,h⟩
  case h_3=>cases h
 case h_5 id len=>
  split at h
  case h_1 e k=>
   replace h:=ze h;obtain⟨ob,h1,h⟩:=h
   have setF: ∀ {E':Env} {ys:List e.den},E.le E'→E'.L=E.L→Hp B E' (hp.set id (.fro e ys)) w→(∀ b c,E.M b=some c→E'.M b=some c)→Frz B E E' hp (hp.set id (.fro e ys)) w:=fun {E' ys} f1 f2 f3 fk=>⟨f1,f2,f3,by simp,fun i=>by
    rw[List.getElem?_set]
    split
    ·rename_i hi
     subst hi
     have:=(List.getElem?_eq_some_iff.1 h1).1
     exact .inr ⟨.fro e ys,by rw[if_pos this],rfl,fun _ _=>rfl⟩
    ·exact .inl rfl,fk⟩
   split at h
   case h_1 T e' xs=>
    split at h
    case isTrue he=>
     subst he
     rw[zo] at h
     obtain⟨E',f1,f2,fk,f3,cs,f4,f5⟩:=hh.freeze h1 hs (u:=e') (ys:=xs) rfl (fun _ _ h=>h)
     exact⟨E',_,_,setF f1 f2 f3 fk,⟨cs,f4,f5,pl rfl⟩,h⟩
    case isFalse=>
     replace h:=zB h;obtain⟨he,h⟩:=h
     subst he
     rw[zo] at h
     obtain⟨E',f1,f2,fk,f3,cs,f4,f5⟩:=hh.freeze h1 hs (u:=e'.er) (ys:=xs.map e'.erD) (by simp) (fun M d hd=>xU (zfm e') hd)
     exact⟨E',_,_,setF f1 f2 f3 fk,⟨cs,f4,f5,pl rfl⟩,h⟩
   case h_2 e' xs=>
    replace h:=zB h;obtain⟨he,h⟩:=h
    subst he
    obtain⟨cs,c1,c2⟩:=zgk hh h1 hs
    exact⟨E,hp,_,Frz.refl hh,⟨cs,c1,c2,pl rfl⟩,h⟩
   case h_3 T e' xs=>
    replace h:=zB h;obtain⟨he,h⟩:=h
    subst he
    obtain⟨cs,c1,c2⟩:=zvf hh h1 hs
    exact⟨E,hp,_,Frz.refl hh,⟨cs,c1,c2,pl rfl⟩,h⟩
   case h_4=>cases h
  case h_2 e k=>
   cases hl:len.isNone with
   |false=>rw[hl] at h;cases h
   |true=>
   rw[hl,cond_true] at h
   rw[Option.isNone_iff_eq_none] at hl
   subst hl
   replace h:=ze h;obtain⟨ob,h1,h⟩:=h
   have hil:=(List.getElem?_eq_some_iff.1 h1).1
   have setG: ∀ {E':Env},E.le E'→E'.L=E.L→Hp B E' (hp.set id .gone) w→(∀ b c,E.M b=some c→E'.M b=some c)→Frz B E E' hp (hp.set id .gone) w:=fun f1 f2 f3 fk=>⟨f1,f2,f3,by simp,fun i=>by
    rw[List.getElem?_set]
    split
    ·rename_i hi
     subst hi
     exact .inr ⟨.gone,by simp[hil],rfl,fun _ _=>rfl⟩
    ·exact .inl rfl,fk⟩
   have hs':=hs
   simp only[SV.sat] at hs'
   obtain⟨le,e1,e2,e3⟩:=hs'
   simp only[Option.getD_none] at e3
   split at h
   case h_1 T e' xs=>
    replace h:=zB h;obtain⟨he,h⟩:=h
    subst he
    rw[zo] at h
    obtain⟨E',f1,f2,fk,f3,f4,f5,f6⟩:=hh.freezeT h1 e1 (u:=e') (ys:=xs) rfl rfl (fun _ _ h=>h)
    have hv:v= .slice le.addr xs.length le.cap:=by rw[e3,f5]
    have hrep:Rep E'.M (.osl e') (true,xs) [v]:=by
     refine⟨le.addr,le.cap,by rw[hv], ?_, ?_⟩
     ·have:=(hh.ob _ _ _ h1 e1).2.1;simp only;omega
     ·rcases f4 with ⟨ad,q1,q2⟩|⟨b,cap,d,c,U,q1,q2,q3,q4,q5,_⟩
      ·exact .inl q2
      ·simp only[Value.slice.injEq] at q1
       exact .inr ⟨b,0,d.toList,q1.1,⟨d, [], [],q4,by simp,rfl⟩,q5⟩
    have htl:(tailsT (.osl e') (true,xs) [v]).Sublist le.blk.toList:=by
     rw[hv]
     simp only[tailsT,LE.addr]
     cases hb:le.blk with
     |none=>
      have:=(hh.ob _ _ _ h1 e1).2.2.2.1 hb
      rw[this]
      cases le.dead<;>simp
     |some b=>cases le.cap<;>simp
    refine⟨E',_,_,setG f1 f2 f3 fk,⟨[v],hrep,by simp[zG,Ty.isAgg],fun _=>⟨v,rfl,by rw[hv];exact f4⟩, ?_⟩,h⟩
    refine⟨f6.sub htl,fun b hb=> .inl ?_⟩
    have hb':=htl.subset hb
    simp only[Option.mem_toList] at hb'
    exact(hh.free _ _ _ _ h1 rfl e1 hb').1
   case h_2 T e' xs=>
    replace h:=zB h;obtain⟨he,h⟩:=h
    subst he
    rw[zo] at h
    obtain⟨⟨t1,t2,t3⟩,t4,t5⟩:=hh.tok id _ le h1 e1
    have hd:=hh.drop id
    have hv:v= .slice le.addr xs.length le.cap:=by rw[e3,t1]
    have t3':zy4 E.M w e' xs v:=by rw[e3];exact t3
    have hrep:Rep E.M (.osl e') (true,xs) [v]:=by
     refine⟨le.addr,le.cap,by rw[hv], ?_, ?_⟩
     ·rcases t3 with ⟨ad,q1,q2⟩|⟨b,cap,d,c,U,q1,q2,_⟩
      ·subst q2;simp
      ·simp only[Value.slice.injEq] at q1;simp only;omega
     ·rcases t3 with ⟨ad,q1,q2⟩|⟨b,cap,d,c,U,q1,q2,q3,q4,q5,_⟩
      ·exact .inl q2
      ·simp only[Value.slice.injEq] at q1
       exact .inr ⟨b,0,d.toList,q1.1,⟨d, [], [],q4,by simp,rfl⟩,q5⟩
    have htl:(tailsT (.osl e') (true,xs) [v]).Sublist ((HO.tk T e' xs).tails w le):=by
     rw[hv]
     simp only[tailsT,LE.addr,HO.tails]
     cases hb:le.blk with
     |none=>
      have:=t2 hb
      rw[this]
      cases le.dead<;>simp
     |some b=>cases le.cap<;>simp
    refine⟨E,_,_,setG (Env.le_refl E) rfl hd (fun _ _ h=>h),⟨[v],hrep,by simp[zG,Ty.isAgg],fun _=>⟨v,rfl,t3'⟩, ?_⟩,h⟩
    refine⟨⟨t4.sublist htl,fun x hx=>⟨t5 x (htl.subset hx),fun j o e g1 g2 g3=> ?_⟩⟩,fun b hb=> .inr ⟨id,_,le,h1,e1,htl.subset hb⟩⟩
    by_cases hij:id=j
    ·subst hij
     rw[List.getElem?_set_self hil] at g1
     cases g1;simp[HO.tails] at g3
    ·rw[List.getElem?_set_ne hij] at g1
     exact hij (hh.tdist id j _ o le e x h1 g1 e1 g2 (htl.subset hx) g3)
   case h_3 e' xs=>
    replace h:=zB h;obtain⟨he,h⟩:=h
    subst he
    obtain⟨cs,c1,c2⟩:=zgk hh h1 hs
    exact⟨E,hp,(false,xs),Frz.refl hh,⟨cs,c1,c2,(fun(hf:false=true)=>nomatch hf),OwnL.nil⟩,h⟩
   case h_4=>cases h
  case h_3=>cases h
 case h_6=>cases h
theorem zjq {u:Ty} {step:List SV→List HO→(u.den→List SV→List HO→Option R)→Option R}
  (hstep: ∀ {E:Env} {l:List SV} {vs:List Value} {hp:List HO} {k:u.den→List SV→List HO→Option R},Hp B E hp w→SV.satL E l vs→step l hp k=some r→
   ∃ E' hp' x l' c ws,Frz B E E' hp hp' w∧vs=c++ws∧Rep E'.M u x c∧SV.satL E' l' ws∧(TokT E'.M w u x c∧OwnL B E E' hp hp' w (tailsT u x c))∧k x l' hp'=some r):
  ∀ {n:Nat} {E:Env} {l:List SV} {vs:List Value} {hp:List HO} {k:List u.den→List SV→List HO→Option R},Hp B E hp w→SV.satL E l vs→zjp step n l hp k=some r→
   ∃ E' hp' xs l' c ws,Frz B E E' hp hp' w∧vs=c++ws∧xs.length=n∧xp (Rep E'.M u) xs c∧SV.satL E' l' ws∧(TokN (TokT E'.M w u) u.size xs c∧OwnL B E E' hp hp' w (tailsN (tailsT u) u.size xs c))∧k xs l' hp'=some r
 |0,E,l,vs,hp,k,hh,hl,h=>⟨E,hp, [],l, [],vs,Frz.refl hh,rfl,rfl,rfl,hl,⟨trivial,OwnL.nil⟩,h⟩
 |n+1,E,l,vs,hp,k,hh,hl,h=>by
  unfold zjp at h
  obtain⟨E1,hp1,x,l1,c,ws,f1,e1,r1,s1,⟨o1,o2⟩,h⟩:=hstep hh hl h
  obtain⟨E2,hp2,xs,l2,c2,ws2,f2,e2,n2,r2,s2,⟨o3,o4⟩,h⟩:=zjq hstep f1.heap s1 h
  have hl:=zc _ _ _ r1
  exact⟨E2,hp2,x::xs,l2,c++c2,ws2,f1.trans f2,by rw[e1,e2];simp,by simp[n2],⟨c,c2,rfl,zz f2.le.1 u x c r1,r2⟩,s2,
   ⟨(zgy hl).2 ⟨TokT.frz f2 o2.free o1,o3⟩,by rw[zdp hl];exact OwnL.app f1 f2 o2 o4⟩,h⟩
theorem zjo: ∀ {t:Ty} {E:Env} {l:List SV} {vs:List Value} {hp:List HO} {k:t.den→List SV→List HO→Option R},Hp B E hp w→SV.satL E l vs→qg t l hp k=some r→
  ∃ E' hp' x l' c ws,Frz B E E' hp hp' w∧vs=c++ws∧Rep E'.M t x c∧SV.satL E' l' ws∧(TokT E'.M w t x c∧OwnL B E E' hp hp' w (tailsT t x c))∧k x l' hp'=some r:=by
 have one: ∀ {t:Ty} (_:t.one=true) {E:Env} {s:SV} {l:List SV} {vs:List Value} {hp:List HO} {k:t.den→List SV→List HO→Option R},Hp B E hp w→SV.satL E (s::l) vs→(zlv t s hp fun x hp=>k x l hp)=some r→
   ∃ E' hp' x l' c ws,Frz B E E' hp hp' w∧vs=c++ws∧Rep E'.M t x c∧SV.satL E' l' ws∧(TokT E'.M w t x c∧OwnL B E E' hp hp' w (tailsT t x c))∧k x l' hp'=some r:=by
  intro t ht E s l vs hp k hh hl h
  simp only[SV.satL] at hl
  obtain⟨v,ws,e,hs,hl⟩:=hl
  obtain⟨E',hp',x,f,⟨cs,r1,r2,r3⟩,h⟩:=zqs hh hs h
  have hcs:=zvj ht r1
  rw[← r2] at hcs
  subst hcs
  exact⟨E',hp',x,l, [v],ws,f,by simpa using e,r1,SV.satL_mono f.le l ws hl,r3,h⟩
 intro t
 induction t with
 |pair a b iha ihb=>
  intro E l vs hp k hh hl h
  unfold qg at h
  obtain⟨E1,hp1,x,l1,c,ws,f1,e1,r1,s1,⟨o1,o2⟩,h⟩:=iha hh hl h
  obtain⟨E2,hp2,y,l2,c2,ws2,f2,e2,r2,s2,⟨o3,o4⟩,h⟩:=ihb f1.heap s1 h
  have hl:=zc _ _ _ r1
  have hk:=TokT.frz f2 o2.free o1
  refine⟨E2,hp2,(x,y),l2,c++c2,ws2,f1.trans f2,by rw[e1,e2];simp,⟨c,c2,rfl,zz f2.le.1 a x c r1,r2⟩,s2,⟨?_, ?_⟩,h⟩
  ·simp only[TokT, ← hl,List.take_left,List.drop_left];exact⟨hk,o3⟩
  ·simp only[tailsT, ← hl,List.take_left,List.drop_left];exact OwnL.app f1 f2 o2 o4
 |unit=>
  intro E l vs hp k hh hl h
  unfold qg at h
  exact⟨E,hp,(),l, [],vs,Frz.refl hh,rfl,rfl,hl,⟨trivial,OwnL.nil⟩,h⟩
 |st f ih=>
  intro E l vs hp k hh hl h
  unfold qg at h
  exact ih hh hl h
 |arr n e ih=>
  intro E l vs hp k hh hl h
  unfold qg at h
  obtain⟨E2,hp2,xs,l2,c2,ws2,f2,e2,n2,r2,s2,o2,h⟩:=zjq (u:=e) ih hh hl h
  exact⟨E2,hp2,xs,l2,c2,ws2,f2,e2,⟨n2,r2⟩,s2,o2,h⟩
 |int i=>
  intro E l vs hp k hh hl h
  cases l with
  |nil=>simp[qg] at h
  |cons s l=>exact one rfl hh hl h
 |bool=>
  intro E l vs hp k hh hl h
  cases l with
  |nil=>simp[qg] at h
  |cons s l=>exact one rfl hh hl h
 |str=>
  intro E l vs hp k hh hl h
  cases l with
  |nil=>simp[qg] at h
  |cons s l=>exact one rfl hh hl h
 |flt=>
  intro E l vs hp k hh hl h
  cases l with
  |nil=>simp[qg] at h
  |cons s l=>exact one rfl hh hl h
 |cplx=>
  intro E l vs hp k hh hl h
  cases l with
  |nil=>simp[qg] at h
  |cons s l=>exact one rfl hh hl h
 |sl e ih=>
  intro E l vs hp k hh hl h
  cases l with
  |nil=>simp[qg] at h
  |cons s l=>exact one rfl hh hl h
 |osl e ih=>
  intro E l vs hp k hh hl h
  cases l with
  |nil=>simp[qg] at h
  |cons s l=>exact one rfl hh hl h
theorem zol {t:Ty} {E:Env} {l:List SV} {vs:List Value} {hp:List HO} {k:t.den→List SV→List HO→Option R} (hh:Hp B E hp w) (hl:SV.satL E l vs) (h:qg t l hp k=some r):
  ∃ E' hp' x l' c ws,Frz B E E' hp hp' w∧vs=c++ws∧Rep E'.M t x c∧SV.satL E' l' ws∧k x l' hp'=some r:=
 let ⟨E',hp',x,l',c,ws,f,h1,h2,h3,_,h5⟩:=zjo hh hl h
 ⟨E',hp',x,l',c,ws,f,h1,h2,h3,h5⟩
theorem zg9 {t:Ty} {s:SV} {v:Value} {k:t.den→List HO→Option R} (hh:Hp B E hp w) (hs:s.sat E v) (h:zdc t s hp k=some r):
  ∃ E' hp' x,Frz B E E' hp hp' w∧(∃ cs,Rep E'.M t x cs∧v=zG t cs∧TokT E'.M w t x cs∧OwnL B E E' hp hp' w (tailsT t x cs))∧k x hp'=some r:=by
 unfold zdc at h
 split at h
 case h_1 l=>
  cases ha:t.isAgg with
  |false=>rw[ha] at h;cases h
  |true=>
   rw[ha] at h
   simp only[SV.sat] at hs
   obtain⟨cs,e1,e2⟩:=hs
   obtain⟨E',hp',x,l',c,ws,f,g1,g2,g3,g4,h⟩:=zjo hh e2 h
   split at h
   case h_1=>
    have:ws= []:=by simpa [SV.satL] using g3
    subst this
    exact⟨E',hp',x,f,⟨c,g2,by rw[e1,g1,zG,ha];simp,g4⟩,h⟩
   case h_2=>cases h
 case h_2=>exact zqs hh hs h
theorem zjt {t:Ty} {s:SV} {v:Value} {k:t.den→List HO→Option R} (hh:Hp B E hp w) (hs:s.sat E v) (h:zdc t s hp k=some r):
  ∃ E' hp' x,Frz B E E' hp hp' w∧(∃ cs,Rep E'.M t x cs∧v=zG t cs)∧k x hp'=some r:=
 let ⟨E',hp',x,f,⟨cs,c1,c2,_⟩,h⟩:=zg9 hh hs h
 ⟨E',hp',x,f,⟨cs,c1,c2⟩,h⟩
theorem Hp.freezeC (h:Hp B E hp w) {i:Nat} {l:List SV} {e:LE} {b:Nat} {c:Array Value} {T:TypeId} {t:Ty} {x:t.den} (h1:hp[i]? =some (.cells l)) (e1:E.L[i]? =some e) (hb:e.blk=some b)
  (f1:w.heap[b]? =some (.cells c T (0,0))) (hr:Rep E.M t x c.toList): ∃ E':Env,E.le E'∧E'.L=E.L∧(∀ b c,E.M b=some c→E'.M b=some c)∧Hp B E' (hp.set i (.frs t x)) w∧E'.M b=some c:=by
 have hd:=h.drop i
 obtain⟨hm,hbase⟩:=h.free _ _ _ _ h1 rfl e1 hb
 let M':Mem:=fun j=>if j=b then some c else E.M j
 have hmm: ∀ j c',E.M j=some c'→M' j=some c':=fun j c' hj=>by
  show(if j=b then some c else E.M j)=some c'
  split
  ·rename_i hjb;subst hjb;rw[hm] at hj;cases hj
  ·exact hj
 have hle:E.M.le M':=Mem.le_of hmm
 have hEle:E.le ⟨M',E.L⟩:=⟨hle,fun _ _ hh=>hh⟩
 have hmt:=h.mayTurn h1 rfl e1 hb
 have hgone:Hp B ⟨M',E.L⟩ (hp.set i .gone) w:={
  ag:=fun j c' hj=>by
   change (if j=b then some c else E.M j)=some c' at hj
   split at hj
   ·rename_i hjb;subst hjb;cases hj;exact⟨c,T,_,f1,List.prefix_refl _⟩
   ·exact h.ag j c' hj
  base:=Mem.le_trans h.base hle
  fresh:=fun j c' hj=>by
   change (if j=b then some c else E.M j)=some c' at hj
   split at hj
   ·rename_i hjb;subst hjb;exact .inr hbase
   ·exact h.fresh j c' hj
  ok:=h.ok
  len:=hd.len
  free:=fun j o' e' b' k1 k2 k3 k4=>by
   obtain⟨k5,k6⟩:=hd.free j o' e' b' k1 k2 k3 k4
   refine⟨?_,k6⟩
   show(if b'=b then some c else E.M b')=none
   rw[if_neg (fun(hbb:b'=b)=>hmt.obj j o' e' k1 k2 k3 (by rw[k4,hbb]))]
   exact k5
  dist:=hd.dist
  tok:=fun j o' e' k1 k2=>hd.tok_memo hmm k1 k2
  tdist:=hd.tdist
  ob:=fun j o' e' k1 k2=>HO.sat_keep hEle (hd.ob j o' e' k1 k2) fun _ _ _=>rfl}
 have hMb:M' b=some c:=by simp[M']
 refine⟨⟨M',E.L⟩,hEle,rfl,hmm, ?_,hMb⟩
 have:=hgone.dropTo i (o':= .frs t x) rfl (fun e' he'=>by
  rw[show E.L[i]? =some e' from he'] at e1
  cases e1
  exact⟨b,c.toList,hb,⟨c, [], [],hMb,by simp,rfl⟩,zz hle t x _ hr⟩)
 rwa [List.set_set] at this
theorem zw2 {t:Ty} {s:SV} {v:Value} {k:t.den→List HO→Option R} (hh:Hp B E hp w) (hs:s.sat E v) (h:roF t s hp k=some r):
  ∃ E' hp' x,Frz B E E' hp hp' w∧SV.sat E' (.ro t x) v∧k x hp'=some r:=by
 unfold roF at h
 split at h
 case h_1 t' x=>
  split at h
  case isTrue ht=>subst ht;exact⟨E,hp,x,Frz.refl hh,hs,h⟩
  case isFalse=>cases h
 case h_2 id off=>
  cases ho:Nat.beq off 0 with
  |false=>rw[ho] at h;cases h
  |true=>
   rw[ho,cond_true] at h
   have:=Nat.eq_of_beq_eq_true ho
   subst this
   replace h:=ze h;obtain⟨o,h1,h⟩:=h
   split at h
   case h_1 l=>
    have hs':=hs
    simp only[SV.sat] at hs'
    obtain⟨e,b,e1,e2,e3⟩:=hs'
    obtain⟨b',c,T,g1,g2,g3⟩:=hh.ob _ _ _ h1 e1
    rw[e2] at g1
    cases g1
    obtain⟨E1,hp1,x,l',c1,ws,f1,f2,f3,f4,h⟩:=zol hh g3 h
    split at h
    case h_2=>cases h
    case h_1=>
     have hws:ws= []:=by simpa [SV.satL] using f4
     subst hws
     rw[List.append_nil] at f2
     rw[← f2] at f3
     replace h:=ze h;obtain⟨o2,h2,h⟩:=h
     split at h
     case h_2=>cases h
     case h_1 l2=>
      rw[zo] at h
      obtain⟨E2,q1,q2,qk,q3,q4⟩:=f1.heap.freezeC h2 (by rw[f1.L];exact e1) e2 g2 f3
      refine⟨E2,_,x,f1.trans ⟨q1,q2,q3,by simp,fun j=> ?_,qk⟩, ?_,h⟩
      ·rw[List.getElem?_set]
       split
       ·split
        ·exact .inr ⟨_,rfl,rfl,fun _ _=>rfl⟩
        ·rename_i hj _;subst hj;exact .inl (by rw[List.getElem?_eq_none (by omega)])
       ·exact .inl rfl
      ·simp only[SV.sat]
       exact⟨b,0,c.toList,e3,⟨c, [], [],q4,by simp,rfl⟩,zz q1.1 t x _ f3⟩
   case h_2 t' x=>
    split at h
    case isTrue ht=>subst ht;exact⟨E,hp,x,Frz.refl hh,zqd hh h1 hs,h⟩
    case isFalse=>cases h
   case h_3=>cases h
 case h_3=>cases h
end
end Go.Sx
