/- The symbolic evaluator, part N: code, and functions. -/
import Derived.Test.YtlppdabhaipbkaaGreatDoorSxV7
import Derived.LoopN
import Derived.ScopeJumps
set_option linter.unusedVariables false
set_option linter.unusedSimpArgs false
namespace Go.Sx
open Go.RowKit
section
variable {R:Type} {r:R} {P:Program} {C:Ctx} {Γ:List Con} {B:Base} {E:Env} {fr:List SV} {hp:List HO} {a:Act} {w w':World}
theorem znj {S T:Type} {f:S→Option (S ⊕ T)} {s:S} {e:T} (h:iter f s=some e): ∃ n,xh f n s=some e:=by
 unfold iter at h
 split at h
 ·exact⟨_,h⟩
 ·cases h
theorem zjx: ∀ {l:List (Nat×Sh)} {k:List SV→Option R},SV.satL E fr a.tmps.toList→zwc fr l k=some r→ ∃ ss vs,SV.satL E ss vs∧k ss=some r∧vs.length=l.length∧ ∀ (i:Nat) (p:Nat×Sh),l[i]? =some p→vs[i]? =a.tmps[p.1]?
 | [],k,_,h=>⟨[], [],by simp[SV.satL],h,rfl,fun i p hi=>by simp at hi⟩
 |(t,s)::l,k,hf,h=>by
  unfold zwc at h
  replace h:=ze h;obtain⟨x,h1,h⟩:=h
  obtain⟨v,h2,h3⟩:=ju hf h1
  obtain⟨ss,vs,g1,g2,g3,g4⟩:=zjx hf h
  refine⟨x::ss,v::vs,by simp only[SV.satL];exact⟨v,vs,rfl,h3,g1⟩,g2,by simp[g3],fun i p hi=> ?_⟩
  cases i with
  |zero=>simp at hi;subst hi;simp[h2]
  |succ i=>simpa using g4 i p (by simpa using hi)
theorem zl7 {t:Nat} {s:SV} {v:Value} (hf:SV.satL E fr a.tmps.toList) (hv:a.tmps[t]? =some v) (hs:s.sat E v):SV.satL E (fr.set t s) a.tmps.toList:=by
 have:=zgt (i:=t) hf hs
 have hh:a.tmps.toList.set t v=a.tmps.toList:=by
  apply List.ext_getElem?
  intro i
  rw[List.getElem?_set]
  split
  ·rename_i hi
   subst hi
   have h1:a.tmps.toList[t]? =some v:=by simpa using hv
   have hl:=(List.getElem?_eq_some_iff.1 h1).1
   rw[if_pos hl,h1]
  ·rfl
 rwa [hh] at this
theorem zqn: ∀ {l:List (Nat×Sh)} {fr:List SV} {ss:List SV} {vs:List Value} {k:List SV→Option R},SV.satL E fr a.tmps.toList→SV.satL E ss vs→(∀ (i:Nat) (p:Nat×Sh),l[i]? =some p→vs[i]? =a.tmps[p.1]?)→lay fr l ss k=some r→
  ∃ fr',SV.satL E fr' a.tmps.toList∧k fr'=some r
 | [],fr,ss,vs,k,hf,_,_,h=>⟨fr,hf,by cases ss<;>exact h⟩
 |(t,x)::l,fr, [],vs,k,hf,hs,hi,h=>by simp[lay] at h
 |(t,x)::l,fr,s::ss,vs,k,hf,hs,hi,h=>by
  unfold lay at h
  rw[zo] at h
  simp only[SV.satL] at hs
  obtain⟨v,us,e,h1,h2⟩:=hs
  subst e
  have hv:some v=a.tmps[t]? :=by simpa using hi 0 (t,x) (by simp)
  exact zqn (zl7 hf hv.symm h1) h2 (fun i p hp=>by simpa using hi (i+1) p (by simpa using hp)) h
theorem zd5: ∀ (l:List Tmp) (fr:List SV) (k:List SV→Option R),zj1 fr l k=k (l.foldl (fun fr t=>fr.set t .und) fr)
 | [],_,_=>rfl
 |t::l,fr,k=>by
  unfold zj1
  rw[zo,zd5 l]
  rfl
theorem zj2 {a':Act}: ∀ {l:List Tmp} {fr:List SV},(∀ (t:Nat) (s:SV),fr[t]? =some s→ ∃ v,a'.tmps[t]? =some v∧(t∉l→s.sat E v))→fr.length=a'.tmps.size→SV.satL E (l.foldl (fun fr t=>fr.set t .und) fr) a'.tmps.toList
 | [],fr,h,hl=>by
  have key: ∀ (fr:List SV) (vs:List Value),fr.length=vs.length→(∀ (t:Nat) (s:SV),fr[t]? =some s→ ∃ v,vs[t]? =some v∧s.sat E v)→SV.satL E fr vs:=by
   intro fr
   induction fr with
   |nil=>intro vs hl _;have:vs= []:=List.eq_nil_of_length_eq_zero (by simpa using hl.symm);subst this;simp[SV.satL]
   |cons s fr ih=>
    intro vs hl h
    cases vs with
    |nil=>simp at hl
    |cons v vs=>
     simp only[SV.satL]
     obtain⟨u,h1,h2⟩:=h 0 s (by simp)
     simp at h1
     subst h1
     exact⟨v,vs,rfl,h2,ih vs (by simpa using hl) (fun t s' hs'=>by simpa using h (t+1) s' (by simpa using hs'))⟩
  exact key fr a'.tmps.toList (by simpa using hl) (fun t s hs=>by
   obtain⟨v,h1,h2⟩:=h t s hs
   exact⟨v,by simpa using h1,h2 (by simp)⟩)
 |u::l,fr,h,hl=>by
  simp only[List.foldl_cons]
  refine zj2 (fun t s hs=> ?_) (by simpa using hl)
  rw[List.getElem?_set] at hs
  split at hs
  ·split at hs
   ·cases hs
    rename_i h1 h2
    subst h1
    obtain⟨v,g1,_⟩:=h u _ (List.getElem?_eq_getElem h2)
    exact⟨v,g1,fun _=>by simp[SV.sat]⟩
   ·cases hs
  ·rename_i hne
   obtain⟨v,g1,g2⟩:=h t s hs
   exact⟨v,g1,fun ht=>g2 (by simp;exact⟨fun e=>hne e.symm,ht⟩)⟩
theorem znb {a':Act} {E':Env} {l:List Tmp} (hf:SV.satL E fr a.tmps.toList) (hE:E.le E') (hk:Keeps l a a'):SV.satL E' (l.foldl (fun fr t=>fr.set t .und) fr) a'.tmps.toList:=by
 have hl:=SV.satL_length hf
 refine zj2 (fun t s hs=> ?_) (by rw[hk.size];simpa using hl.symm)
 obtain⟨v,h1,h2⟩:=ju hf hs
 have ht:=(Array.getElem?_eq_some_iff.1 h1).1
 refine⟨a'.tmps[t]'(by rw[hk.size];exact ht),Array.getElem?_eq_getElem _,fun hn=> ?_⟩
 have h3:=hk.tmps t hn
 rw[h1,Array.getElem?_eq_getElem (by rw[hk.size];exact ht)] at h3
 rw[Option.some.inj h3]
 exact SV.sat_mono hE s v h2
theorem jn {E0:Env} {fr0 fr1:List SV} {a0 a1:Act} {j:Jn} {l:List Tmp} {x:Tup j.skel.tys} {R':Type} {r':R'} {k:List SV→List HO→Option R'} {n0:Nat} (hn0:n0=E0.L.length)
  (hf0:SV.satL E0 fr0 a0.tmps.toList) (hE:E0.le E) (hh:Hp B E hp w) (hn:n0≤hp.length) (hf:SV.satL E fr1 a1.tmps.toList) (hk:Keeps l a0 a1)
  (hp1:zeh n0 j fr1 hp some=some x) (h:zlw j (l.foldl (fun fr t=>fr.set t .und) fr0) x k=some r'):
  ∃ E' fr' hp',E0.le E'∧Hp B E' hp' w∧SV.satL E' fr' a1.tmps.toList∧k fr' hp'=some r':=by
 unfold zeh at hp1
 cases hle:Nat.ble n0 j.objs.length with
 |false=>rw[hle] at hp1;cases hp1
 |true=>
  rw[hle,cond_true] at hp1
  have hle':=Nat.le_of_ble_eq_true hle
  obtain⟨ss,vs,s1,hp1',s2,s3⟩:=zjx hf hp1
  replace hp1':=j7 hh s1 hn hp1';obtain⟨E1,hp2,ds,mp,hpk,hp1'⟩:=hp1'
  replace hp1':=xC hp1';obtain⟨y,hy,hp1'⟩:=hp1'
  have hxy:y=x:=Option.some.inj hp1'
  subst hxy
  subst hy
  obtain⟨hH,hS⟩:=hpk.heap
  unfold zlw at h
  replace h:=zcj h
  have hE':E0.le (zbd E E1 mp):=by
   refine⟨Mem.le_trans hE.1 hpk.frz.le.1,fun i e hi=> ?_⟩
   have hil:=(List.getElem?_eq_some_iff.1 hi).1
   show(mp.map (pmLE E))[i]? =some e
   rw[List.getElem?_map,hpk.fix i (by omega) (by show i<j.objs.length;omega)]
   simp[pmLE,hE.2 i e hi]
  have hfg:=znb hf0 hE' hk
  obtain⟨fr',g1,g2⟩:=zqn hfg hS s3 h
  exact⟨_,fr',_,hE',hH,g1,g2⟩
theorem same_eq {x y:Lv} (h:x.same y=true):x=y:=by
 cases x<;>cases y<;>simp_all [Lv.same]
theorem zaf {α:Type} {x:Option α} {k:α→Option R} (h:zes x k=some r): ∃ y,x=some y∧k y=some r:=by
 cases x with
 |none=>cases h
 |some y=>exact⟨y,rfl,h⟩
theorem xx {n0:Nat} {lv:Lv}: ∀ {js:List Jn} {k:zmf js→Option R},z3 n0 js lv fr hp k=some r→
  ∃ (j:Jn) (x:Tup j.skel.tys) (s:zmf js),zeh n0 j fr hp some=some x∧k s=some r∧ ∀ {R':Type} (K:Ks R') (fr0:List SV),z0b K fr0 js s=zlw j fr0 x (K.at lv)
 | [],k,h=>by simp[z3] at h
 | [j],k,h=>by
  unfold z3 at h
  cases hs:j.lv.same lv with
  |false=>rw[hs] at h;cases h
  |true=>
   rw[hs,cond_true] at h
   have:=same_eq hs
   obtain⟨x,h1,h2⟩:=zaf h
   exact⟨j,x,x,h1,h2,fun K fr0=>by subst this;rfl⟩
 |j::i::l,k,h=>by
  unfold z3 at h
  cases hs:j.lv.same lv with
  |true=>
   rw[hs,cond_true] at h
   have:=same_eq hs
   obtain⟨x,h1,h2⟩:=zaf h
   exact⟨j,x, .inl x,h1,h2,fun K fr0=>by subst this;rfl⟩
  |false=>
   rw[hs,cond_false] at h
   obtain⟨j',x,s,h1,h2,h4⟩:=xx (k:=fun x=>k (.inr x)) h
   exact⟨j',x, .inr s,h1,h2,fun K fr0=>h4 K fr0⟩
def Lv.toExit:Lv→Exit
 | .normal=> .normal
 | .exit i=> .exit i
 | .ret=> .ret
 | .goto l=> .goto l
theorem zak {t:Nat}: ∀ {l m:List Nat},t∈zi3 l m↔t∈l∨t∈m
 | [],m=>by simp[zi3]
 |x::l,m=>by simp only[zi3,List.mem_cons,zak (l:=l) (m:=m)];exact or_assoc.symm
theorem zcn {t:Tmp}: ∀ {l:List Oper} {o:Oper},o∈l→o.dst=some t→t∈opsDst l
 | [],o,h,_=>by simp at h
 |x::l,o,h,hd=>by
  unfold opsDst
  rcases List.mem_cons.1 h with h|h
  ·subst h;rw[hd];simp
  ·cases hx:x.dst with
   |none=>exact zcn h hd
   |some u=>exact List.mem_cons_of_mem _ (zcn h hd)
def z1o (B:Base) (E:Env) (a:Act) (l:List Tmp) (K:Ks R) (r:R) (Q:Exit→Act→World→Prop):Prop:=
 ∀ (lv:Lv) (E':Env) (fr':List SV) (hp':List HO) (a':Act) (w':World),E.le E'→Hp B E' hp' w'→SV.satL E' fr' a'.tmps.toList→Keeps l a a'→K.at lv fr' hp'=some r→Q lv.toExit a' w'
theorem zhj {l:List Tmp} {ops:Array Oper} (hG:Given P C Γ) (hh:Hp B E hp w) (hg:C.globsOk E.M): ∀ {os:List Oper} {fr:List SV} {a:Act} {k:List SV→Option R} {K:Act→Prop},SV.satL E fr a.tmps.toList→
  (∀ o∈os, ∀ t,o.dst=some t→t∈l)→(∀ fr' a',SV.satL E fr' a'.tmps.toList→Keeps l a a'→k fr'=some r→K a')→xr C [] ops.toList os fr hp k=some r→wpStill P ops w K os a
 | [],fr,a,k,K,hf,hd,hn,h=>hn fr a hf (Keeps.refl l a) h
 |o::os,fr,a,k,K,hf,hd,hn,h=>by
  have hdo:=hd o (by simp)
  have hdos: ∀ o'∈os, ∀ t,o'.dst=some t→t∈l:=fun o' ho'=>hd o' (by simp[ho'])
  have doIt: ∀ {fr0:List SV},SV.satL E fr0 a.tmps.toList→(zan C [] fr0 hp o fun fr=>xr C [] ops.toList os fr hp k)=some r→o.still P a w (wpStill P ops w K os):=by
   intro fr0 hf0 h0
   unfold zan at h0
   split at h0
   case h_1 x args argTypes ho=>
    obtain⟨c,vs,hm,_⟩:=zdw h0
    cases hm
   case h_2=>
    cases he:ze8 o.op with
    |true=>rw[he] at h0;cases h0
    |false=>
     rw[he,cond_false] at h0
     obtain⟨v,s,h1,h2,h3⟩:=xb hG.ctx hh hf0 hg h0
     obtain⟨fr',q4,q5⟩:=xK hf0 h1 h2
     unfold Oper.still
     rw[h3 w (Below.refl _ _),Oper.stillUpon_value]
     exact zhj hG hh hg q4 hdos (fun fr'' a'' g1 g2 g3=>hn fr'' a'' g1 ((Keeps.put l a o.dst v hdo).trans g2) g3) q5
  have leave: ∀ {fr0:List SV},SV.satL E fr0 a.tmps.toList→(zcp fr0 o.dst .skip fun fr=>xr C [] ops.toList os fr hp k)=some r→wpStill P ops w K os (a.put o.dst undef):=by
   intro fr0 hf0 h0
   obtain⟨fr',h1,h2⟩:=xK (v:=undef) hf0 (by simp[SV.sat]) h0
   exact zhj hG hh hg h1 hdos (fun fr'' a'' g1 g2 g3=>hn fr'' a'' g1 ((Keeps.put l a o.dst undef hdo).trans g2) g3) h2
  unfold xr at h
  unfold wpStill
  split at h
  case h_1 hgd=>
   have hw:Region.wanted o (yielded ops a.tmps)=true:=by simp[Region.wanted,hgd]
   rw[if_pos hw]
   exact doIt hf h
  case h_2 j want hgd=>
   split at h
   case h_1=>cases h
   case h_2 d hds=>
    replace h:=ze h;obtain⟨s,hs,h⟩:=h
    obtain⟨v,hv,hsv⟩:=ju hf hs
    split at h
    case h_1 b=>
     have:v= .bool b:=by simpa [SV.sat] using hsv
     subst this
     have hw:=qD hgd hds hv
     cases hb:(b==want) with
     |true=>
      rw[hb] at h hw
      rw[if_pos hw]
      exact doIt hf h
     |false=>
      rw[hb] at h hw
      rw[if_neg (by rw[hw];simp)]
      exact leave hf h
    case h_2=>
     have:v=undef:=by simpa [SV.sat] using hsv
     subst this
     have hw:=jv hgd hds hv
     rw[if_neg (by rw[hw];simp)]
     exact leave hf h
    case h_3 c=>
     simp only[SV.sat] at hsv
     have:=jK hsv
     subst this
     have hw:=qD hgd hds hv
     cases hc:c with
     |true=>
      subst hc
      rw[if_pos rfl,zo] at h
      have hf':=xQ hf hv
      cases want with
      |true=>rw[if_pos (by rw[hw];rfl)];exact doIt hf' h
      |false=>rw[if_neg (by rw[hw];simp)];exact leave hf' h
     |false=>
      subst hc
      rw[if_neg (by simp),zo] at h
      have hf':=xQ hf hv
      cases want with
      |true=>rw[if_neg (by rw[hw];simp)];exact leave hf' h
      |false=>rw[if_pos (by rw[hw];rfl)];exact doIt hf' h
    case h_4=>cases h
theorem zs3 {l:Nat}: ∀ {c rest:Code},findLabel c l=some rest→ ∀ t∈asg rest,t∈asg c:=by
 intro c
 induction c with
 |seq a b iha ihb=>
  intro rest h t ht
  simp only[findLabel] at h
  simp only[asg,zak]
  cases ha:findLabel a l with
  |some r=>
   rw[ha] at h
   simp only[Option.some.injEq] at h
   subst h
   simp only[asg,zak] at ht
   rcases ht with ht|ht
   ·exact .inl (iha ha t ht)
   ·exact .inr ht
  |none=>
   rw[ha] at h
   exact .inr (ihb h t ht)
 |label l'=>
  intro rest h t ht
  simp only[findLabel] at h
  split at h
  ·simp only[Option.some.injEq] at h
   subst h
   simp[asg] at ht
  ·cases h
 |_=>intro rest h;simp[findLabel] at h
theorem zwp {p:Nat→Prop}: ∀ {n:Nat},p n→ ∃ m,p m∧ ∀ k,p k→m≤k:=by
 intro n
 induction n using Nat.strongRecOn with
 |_ n ih=>
  intro hn
  by_cases h: ∃ k,k<n∧p k
  ·obtain⟨k,h1,h2⟩:=h
   exact ih k h1 h2
  ·refine⟨n,hn,fun k hk=> ?_⟩
   rcases Nat.lt_or_ge k n with h1|h1
   ·exact absurd ⟨k,h1,hk⟩ h
   ·exact h1
open Classical in
noncomputable def znl (p:Nat→Prop):Nat:=if h: ∃ m,p m∧ ∀ k,p k→m≤k then h.choose else 0
theorem zhy {p:Nat→Prop} {n:Nat} (h:p n):p (znl p)∧ ∀ k,p k→znl p≤k:=by
 have h':=zwp h
 unfold znl
 rw[dif_pos h']
 exact h'.choose_spec
theorem z8 (hG:Given P C Γ): ∀ {an:Ann} {R:Type} {r:R} {c:Code} {E:Env} {fr:List SV} {hp:List HO} {a:Act} {w:World} {K:Ks R} {Q:Exit→Act→World→Prop},
  Hp B E hp w→SV.satL E fr a.tmps.toList→C.globsOk E.M→run C Γ an c fr hp K=some r→z1o B E a (asg c) K r Q→c.wp P Q a w
 | .leaf,R,r,c,E,fr,hp,a,w,K,Q,hh,hf,hg,h,hQ=>by
  cases c<;>try (simp[run] at h;done)
  case skip=>exact wp_skip (hQ .normal E fr hp a w (Env.le_refl E) hh hf (Keeps.refl _ a) h)
  case exit i=>exact wp_exit (hQ (.exit i) E fr hp a w (Env.le_refl E) hh hf (Keeps.refl _ a) h)
  case ret=>exact wp_ret (hQ .ret E fr hp a w (Env.le_refl E) hh hf (Keeps.refl _ a) h)
  case label l=>exact wp_label (hQ .normal E fr hp a w (Env.le_refl E) hh hf (Keeps.refl _ a) h)
  case goto l=>exact wp_goto (hQ (.goto l) E fr hp a w (Env.le_refl E) hh hf (Keeps.refl _ a) h)
  case region id ops draw=>
   have hd: ∀ o∈ops.toList, ∀ t,o.dst=some t→t∈asg (.region id ops draw):=fun o ho t ht=>zcn ho ht
   cases draw with
   |false=>
    simp only[run] at h
    refine wp_region ?_
    rw[List.range_eq_range',show ops.size=ops.toList.length by simp,wpOps_eq_wpList ops.toList 0 (by simp)]
    exact zgh hG hh hf hg hd (fun E' fr' hp' a' w' h1 h2 h3 h4 h5=>hQ .normal E' fr' hp' a' w' h1 h2 h3 h4 h5) h
   |true=>
    simp only[run] at h
    cases hB:Region.lexB .any ops with
    |false=>rw[hB] at h;cases h
    |true=>
     rw[hB,cond_true] at h
     refine wp_region_quiet (C:=fun w'=>Below w.heap.size w w') hG.mixed hB ((Below.refl _ _).drew) ?_
     refine zhi hG hh hg hf hd (fun fr' a' h1 h2 h3 w' hw'=> ?_) h
     exact hQ .normal E fr' hp a' w' (Env.le_refl E) (hh.grow hw') h1 h2 h3
 | .tail n,R,r,c,E,fr,hp,a,w,K,Q,hh,hf,hg,h,hQ=>by
  cases c<;>try (simp[run] at h;done)
  case region id ops draw=>
   cases draw<;>try (simp[run] at h;done)
   simp only[run] at h
   cases hB:Region.lexTailB .any ops n with
   |false=>rw[hB] at h;cases h
   |true=>
    rw[hB,cond_true] at h
    have hops:ops=ops.toList.toArray:=by simp
    rw[hops]
    have hd: ∀ o∈ops.toList, ∀ t,o.dst=some t→t∈asg (.region id ops true):=fun o ho t ht=>zcn ho ht
    have hw1:Below w.heap.size w { w with drawn:=w.drawn+1}:=(Below.refl _ _).drew
    refine wp_region_still_tail n hG.mixed (by rw[← hops];exact hB) ?_
    rw[← hops]
    refine zhj hG (hh.grow hw1) hg hf (fun o ho=>hd o (List.mem_of_mem_take ho)) (fun fr' a' h1 h2 h3=> ?_) h
    refine zgh hG (hh.grow hw1) h1 hg (fun o ho=>hd o (List.mem_of_mem_drop ho)) (fun E' fr'' hp' a'' w' g1 g2 g3 g4 g5=> ?_) h3
    exact hQ .normal E' fr'' hp' a'' w' g1 g2 g3 (h2.trans g4) g5
 | .draw,R,r,c,E,fr,hp,a,w,K,Q,hh,hf,hg,h,hQ=>by
  cases c<;>try (simp[run] at h;done)
  case region id ops draw=>
   cases draw<;>try (simp[run] at h;done)
   simp only[run] at h
   cases hB:zk8 ops with
   |false=>rw[hB] at h;cases h
   |true=>
    rw[hB,cond_true] at h
    exact zx3 hG hh hf hg hB (fun E' fr' a' w' h1 h2 h3 h4 h5=>hQ .normal E' fr' hp a' w' h1 h2 h3 h4 h5) h
 | .eff N fl anc,R,r,c,E,fr,hp,a,w,K,Q,hh,hf,hg,h,hQ=>by
  cases c<;>try (simp[run] at h;done)
  case region id ops draw=>
   cases draw<;>try (simp[run] at h;done)
   simp only[run] at h
   cases hB:(zn9 C fl anc ops&&Nat.ble hp.length N) with
   |false=>rw[hB] at h;cases h
   |true=>
    rw[hB,cond_true] at h
    simp only[Bool.and_eq_true] at hB
    exact zlc hG hh hf hg hB.1 (Nat.le_of_ble_eq_true hB.2) (fun E' fr' hp' a' w' h1 h2 h3 h4 h5=>hQ .normal E' fr' hp' a' w' h1 h2 h3 h4 h5) h
 | .eff2 f g N an1 an2 perm inv,R,r,c,E,fr,hp,a,w,K,Q,hh,hf,hg,h,hQ=>by
  cases c<;>try (simp[run] at h;done)
  case region id ops draw=>
   cases draw<;>try (simp[run] at h;done)
   simp only[run] at h
   cases hB:(!Nat.beq f g&&(zok f g 0 ops.toList&&(zsb ops.size perm inv&&(zhb ops.size (zbj g f ops.toList)&&(zn9 C [] an1 (zbj f g ops.toList).toArray&&(zn9 C [] an2 (zdm inv (zbj g f ops.toList) perm).toArray&&Nat.ble hp.length N)))))) with
   |false=>rw[hB] at h;cases h
   |true=>
    rw[hB,cond_true] at h
    simp only[Bool.and_eq_true] at hB
    obtain⟨b1,b2,b6,b7,b3,b4,b5⟩:=hB
    obtain⟨h1,h2⟩:=jR h
    have hlt: ∀ i∈perm,i<(zbj g f ops.toList).length:=by
     intro i hi
     have hb:=b6
     simp only[zsb,Bool.and_eq_true,List.all_eq_true,List.mem_range] at hb
     obtain⟨k1,k2⟩:=hb
     obtain⟨m,hm,rfl⟩:=List.mem_iff_getElem.1 hi
     have hl:=Nat.eq_of_beq_eq_true k1
     have:=Nat.le_of_ble_eq_true (k2 m (by omega)).2.2.1
     rw[zlu perm m hm,zgd]
     have h9:ops.toList.length=ops.size:=by simp
     omega
    refine zi8 hG hh hf hg (fun e=> ?_) b2 b6 b7 b3 b4 (Nat.le_of_ble_eq_true b5) (fun E' fr' hp' a' w' k1 k2 k3 k4 k5=> ?_) (fun E' fr' hp' a' w' k1 k2 k3 k4 k5=> ?_) h1 h2
    ·subst e;simp at b1
    ·exact hQ .normal E' fr' hp' a' w' k1 k2 k3 (by rw[zfd] at k4;exact k4) k5
    ·exact hQ .normal E' fr' hp' a' w' k1 k2 k3 (k4.mono fun t ht=>by have:=zpe hlt ht;rw[zfd] at this;exact this) k5
 | .effl N fl anc,R,r,c,E,fr,hp,a,w,K,Q,hh,hf,hg,h,hQ=>by
  cases c<;>try (simp[run] at h;done)
  case region id ops draw=>
   cases draw<;>try (simp[run] at h;done)
   simp only[run] at h
   split at h
   case h_2=>cases h
   case h_1 b o hl=>
    cases hB:(zx4 C fl anc b o&&Nat.ble hp.length N) with
    |false=>rw[hB] at h;cases h
    |true=>
     rw[hB,cond_true] at h
     simp only[zx4,Bool.and_eq_true] at hB
     obtain⟨⟨g1,g2,g3,g4,g5⟩,g6⟩:=hB
     exact zi9 hG hh hf hg hl g1 (Nat.le_of_ble_eq_true g6) g2 g3 g4 g5 (fun E' fr' hp' a' w' h1 h2 h3 h4 h5=>hQ .normal E' fr' hp' a' w' h1 h2 h3 h4 h5) h
 | .fro ids an,R,r,c,E,fr,hp,a,w,K,Q,hh,hf,hg,h,hQ=>by
  simp only[run] at h
  obtain⟨E1,hp1,h1,h2,h,_⟩:=zd7 hh h
  obtain⟨fr1,h3,h⟩:=x8 h2 (SV.satL_mono h1 _ _ hf) h
  refine z8 hG h2 h3 (C.globsOk_mono h1.1 hg) h ?_
  intro lv E' fr' hp' a' w' k1 k2 k3 k4 k5
  exact hQ lv E' fr' hp' a' w' (Env.le_trans h1 k1) k2 k3 k4 k5
 | .seq an bn,R,r,c,E,fr,hp,a,w,K,Q,hh,hf,hg,h,hQ=>by
  cases c<;>try (simp[run] at h;done)
  case seq x y=>
   simp only[run] at h
   refine wp_seq (z8 hG hh hf hg h ?_)
   intro lv E' fr' hp' a' w' h1 h2 h3 h4 h5
   have h4':Keeps (asg (.seq x y)) a a':=h4.mono fun t ht=>by simp only[asg,zak];exact .inl ht
   cases lv with
   |normal=>
    refine z8 hG h2 h3 (C.globsOk_mono h1.1 hg) h5 ?_
    intro lv2 E2 fr2 hp2 a2 w2 k1 k2 k3 k4 k5
    exact hQ lv2 E2 fr2 hp2 a2 w2 (Env.le_trans h1 k1) k2 k3 (h4'.trans (k4.mono fun t ht=>by simp only[asg,zak];exact .inr ht)) k5
   |exit i=>exact hQ (.exit i) E' fr' hp' a' w' h1 h2 h3 h4' h5
   |ret=>exact hQ .ret E' fr' hp' a' w' h1 h2 h3 h4' h5
   |goto l=>exact hQ (.goto l) E' fr' hp' a' w' h1 h2 h3 h4' h5
 | .cond an bn,R,r,c,E,fr,hp,a,w,K,Q,hh,hf,hg,h,hQ=>by
  cases c<;>try (simp[run] at h;done)
  case cond c x y=>
   simp only[run] at h
   have goX: ∀ {fr0:List SV},SV.satL E fr0 a.tmps.toList→run C Γ an x fr0 hp K=some r→x.wp P Q a w:=fun hf0 h0=>z8 hG hh hf0 hg h0 fun lv E' fr' hp' a' w' h1 h2 h3 h4 h5=>
    hQ lv E' fr' hp' a' w' h1 h2 h3 (h4.mono fun t ht=>by cases c<;>simp only[asg,List.mem_cons,zak]<;>first|exact .inl ht|exact .inr (.inl ht)) h5
   have goY: ∀ {fr0:List SV},SV.satL E fr0 a.tmps.toList→run C Γ bn y fr0 hp K=some r→y.wp P Q a w:=fun hf0 h0=>z8 hG hh hf0 hg h0 fun lv E' fr' hp' a' w' h1 h2 h3 h4 h5=>
    hQ lv E' fr' hp' a' w' h1 h2 h3 (h4.mono fun t ht=>by cases c<;>simp only[asg,List.mem_cons,zak]<;>first|exact .inr (.inr ht)|exact .inr ht) h5
   split at h
   case h_1 t=>
    replace h:=ze h;obtain⟨s,hs,h⟩:=h
    obtain⟨v,hv,hsv⟩:=ju hf hs
    have hev:a.eval (.tmp t)=v:=by simp[Act.eval,Array.getD_eq_getD_getElem?,hv]
    split at h
    case h_1=>
     have:v= .bool true:=by simpa [SV.sat] using hsv
     subst this
     exact wp_cond_true hev (goX hf h)
    case h_2=>
     have:v= .bool false:=by simpa [SV.sat] using hsv
     subst this
     exact wp_cond_false hev (goY hf h)
    case h_3 b=>
     simp only[SV.sat] at hsv
     have:=jK hsv
     subst this
     cases hb:b with
     |true=>
      subst hb
      rw[if_pos rfl,zo] at h
      exact wp_cond_true hev (goX (xQ hf hv) h)
     |false=>
      subst hb
      rw[if_neg (by simp),zo] at h
      exact wp_cond_false hev (goY (xQ hf hv) h)
    case h_4 c=>
     simp only[SV.sat] at hsv
     obtain⟨b,hb,hbc⟩:=hsv
     subst hb
     rw[zo,zo] at h
     cases b with
     |true=>
      rw[if_pos (hbc rfl)] at h
      exact wp_cond_true hev (goX (xQ hf hv) (jR h).1)
     |false=>
      refine wp_cond_false hev (goY (xQ hf hv) ?_)
      split at h
      ·exact(jR h).2
      ·exact h
    case h_5 c=>
     simp only[SV.sat] at hsv
     obtain⟨b,hb,hbc⟩:=hsv
     subst hb
     rw[zo,zo] at h
     cases b with
     |false=>
      rw[if_pos (hbc rfl)] at h
      exact wp_cond_false hev (goY (xQ hf hv) (jR h).2)
     |true=>
      refine wp_cond_true hev (goX (xQ hf hv) ?_)
      split at h
      ·exact(jR h).1
      ·exact h
    case h_6=>cases h
   case h_2=>exact wp_cond_true rfl (goX hf h)
   case h_3=>exact wp_cond_false rfl (goY hf h)
   case h_4=>cases h
 | .block an,R,r,c,E,fr,hp,a,w,K,Q,hh,hf,hg,h,hQ=>by
  cases c<;>try (simp[run] at h;done)
  case block i x=>
   simp only[run] at h
   refine wp_block (z8 hG hh hf hg h ?_)
   intro lv E' fr' hp' a' w' h1 h2 h3 h4 h5
   cases lv with
   |normal=>exact hQ .normal E' fr' hp' a' w' h1 h2 h3 h4 h5
   |ret=>exact hQ .ret E' fr' hp' a' w' h1 h2 h3 h4 h5
   |goto l=>exact hQ (.goto l) E' fr' hp' a' w' h1 h2 h3 h4 h5
   |exit j=>
    simp only[Ks.at] at h5
    simp only[Lv.toExit,Exit.inBlock]
    cases hb:Nat.beq j i with
    |true=>
     rw[hb] at h5
     have:=Nat.eq_of_beq_eq_true hb
     rw[if_pos this]
     exact hQ .normal E' fr' hp' a' w' h1 h2 h3 h4 h5
    |false=>
     rw[hb] at h5
     rw[if_neg (fun(e:j=i)=>by subst e;simp at hb)]
     exact hQ (.exit j) E' fr' hp' a' w' h1 h2 h3 h4 h5
  case scope x=>
   simp only[run] at h
   refine wp_scope_straight (z8 hG hh hf hg h ?_)
   intro lv E' fr' hp' a' w' h1 h2 h3 h4 h5
   cases lv with
   |normal=>exact hQ .normal E' fr' hp' a' w' h1 h2 h3 (by simpa [asg] using h4) h5
   |ret=>exact hQ .ret E' fr' hp' a' w' h1 h2 h3 (by simpa [asg] using h4) h5
   |exit j=>exact hQ (.exit j) E' fr' hp' a' w' h1 h2 h3 (by simpa [asg] using h4) h5
   |goto l=>simp only[Ks.at] at h5;cases h5
 | .join js an,R,r,c,E,fr,hp,a,w,K,Q,hh,hf,hg,h,hQ=>by
  simp only[run] at h
  rw[zd5] at h
  cases hrun:run C Γ an (R:=zmf js) c fr hp { n:=fun fr hp'=>z3 hp.length js .normal fr hp' some,e:=fun i fr hp'=>z3 hp.length js (.exit i) fr hp' some,r:=fun fr hp'=>z3 hp.length js .ret fr hp' some,g:=fun i fr hp'=>z3 hp.length js (.goto i) fr hp' some} with
  |none=>rw[hrun] at h;cases h
  |some e=>
   rw[hrun,Option.bind_some] at h
   refine z8 hG hh hf hg hrun ?_
   intro lv E' fr' hp' a' w' h1 h2 h3 h4 h5
   have h5':z3 hp.length js lv fr' hp' some=some e:=by cases lv<;>exact h5
   obtain⟨j,x,s,q1,q2,q3⟩:=xx h5'
   have:=Option.some.inj q2
   subst this
   rw[q3] at h
   have hlen:hp.length≤hp'.length:=by
    rw[← hh.len, ← h2.len]
    cases hl:E.L.length with
    |zero=>exact Nat.zero_le _
    |succ m=>
     have:=h1.2 m _ (List.getElem?_eq_getElem (by omega))
     have:=(List.getElem?_eq_some_iff.1 this).1
     omega
   obtain⟨E2,fr2,hp2,g1,g2,g3,g4⟩:=jn hh.len.symm hf h1 h2 hlen h3 h4 q1 h
   exact hQ lv E2 fr2 hp2 a' w' g1 g2 g3 h4 g4
 | .loop hd js an,R,r,c,E,fr,hp,a,w,K,Q,hh,hf,hg,h,hQ=>by
  cases c<;>try (simp[run] at h;done)
  case loop x=>
   simp only[run] at h
   rw[zd5] at h
   obtain⟨s0,hs0,h⟩:=zaf h
   generalize hF:(fun s:Tup hd.skel.tys=>zlw hd ((asg x).foldl (fun fr t=>fr.set t .und) fr) s fun fr hp1=>run C Γ an (R:=Tup hd.skel.tys ⊕ zmf js) x fr hp1
    {n:=fun fr hp'=>zes (zeh hp.length hd fr hp' some) fun s=>some (.inl s)
     e:=fun i fr hp'=>z3 hp.length js (.exit i) fr hp' fun e=>some (.inr e)
     r:=fun fr hp'=>z3 hp.length js .ret fr hp' fun e=>some (.inr e)
     g:=fun i fr hp'=>z3 hp.length js (.goto i) fr hp' fun e=>some (.inr e)})=F at h
   cases hit:iter F s0 with
   |none=>rw[hit] at h;cases h
   |some e=>
    rw[hit,Option.bind_some] at h
    obtain⟨n,hn⟩:=znj hit
    have hle: ∀ {E':Env} {hp':List HO} {w':World},E.le E'→Hp B E' hp' w'→hp.length≤hp'.length:=by
     intro E' hp' w' h1 h2
     rw[← hh.len, ← h2.len]
     cases hl:E.L.length with
     |zero=>exact Nat.zero_le _
     |succ m=>
      have:=h1.2 m _ (List.getElem?_eq_getElem (by omega))
      have:=(List.getElem?_eq_some_iff.1 this).1
      omega
    have key: ∀ (n:Nat) (s:Tup hd.skel.tys) (E1:Env) (fr1:List SV) (hp1:List HO) (a1:Act) (w1:World),xh F n s=some e→E.le E1→Hp B E1 hp1 w1→SV.satL E1 fr1 a1.tmps.toList→Keeps (asg x) a a1→zeh hp.length hd fr1 hp1 some=some s→
      Code.rounds P x Q n a1 w1:=by
     intro n
     induction n with
     |zero=>intro s E1 fr1 hp1 a1 w1 h0;simp[xh] at h0
     |succ n ih=>
      intro s E1 fr1 hp1 a1 w1 h0 h1 h2 h3 h4 h5
      rw[rounds_succ]
      simp only[xh] at h0
      cases hFs:F s with
      |none=>rw[hFs] at h0;cases h0
      |some y=>
       have hFs':=hFs
       rw[← hF] at hFs
       simp only at hFs
       obtain⟨E2,fr2,hp2,g1,g2,g3,g4⟩:=jn hh.len.symm hf h1 h2 (hle h1 h2) h3 h4 h5 hFs
       refine z8 hG g2 g3 (C.globsOk_mono g1.1 hg) g4 ?_
       intro lv E' fr' hp' a' w' k1 k2 k3 k4 k5
       have kE:=Env.le_trans g1 k1
       have kk:Keeps (asg x) a a':=h4.trans k4
       have out: ∀ (lv:Lv),(z3 hp.length js lv fr' hp' fun e=>some (Sum.inr e:Tup hd.skel.tys ⊕ zmf js))=some y→Q lv.toExit a' w':=by
        intro lv hl
        obtain⟨j,z,t,q1,q2,q3⟩:=xx hl
        have hy:=Option.some.inj q2
        subst hy
        rw[hFs'] at h0
        have:=Option.some.inj h0
        subst this
        have h':=h
        rw[q3] at h'
        obtain⟨E3,fr3,hp3,f1,f2,f3,f4⟩:=jn hh.len.symm hf kE k2 (hle kE k2) k3 kk q1 h'
        exact hQ lv E3 fr3 hp3 a' w' f1 f2 f3 (by simpa [asg] using kk) f4
       cases lv with
       |normal=>
        simp only[Ks.at] at k5
        obtain⟨s',q1,q2⟩:=zaf k5
        have hy:=Option.some.inj q2
        subst hy
        rw[hFs'] at h0
        exact ih s' E' fr' hp' a' w' h0 kE k2 k3 kk q1
       |exit i=>exact out (.exit i) k5
       |ret=>exact out .ret k5
       |goto i=>exact out (.goto i) k5
    exact wp_loop_rounds n (key n s0 E fr hp a w hn (Env.le_refl E) hh hf (Keeps.refl _ a) hs0)
 | .scope lb hd js an bn,R,r,c,E,fr,hp,a,w,K,Q,hh,hf,hg,h,hQ=>by
  cases c<;>try (simp[run] at h;done)
  case scope x=>
   simp only[run] at h
   cases hfl:findLabel x lb with
   |none=>rw[hfl] at h;cases h
   |some rest=>
    rw[hfl] at h
    simp only at h
    rw[zd5] at h
    have hasg:=zs3 hfl
    generalize hKd:({ n:=fun fr hp'=>z3 hp.length js .normal fr hp' fun e=>some (.inr e)
                      e:=fun i fr hp'=>z3 hp.length js (.exit i) fr hp' fun e=>some (.inr e)
                      r:=fun fr hp'=>z3 hp.length js .ret fr hp' fun e=>some (.inr e)
                      g:=fun i fr hp'=>bif Nat.beq i lb then zes (zeh hp.length hd fr hp' some) fun s=>some (.inl s) else none}:Ks (Tup hd.skel.tys ⊕ zmf js))=Kd at h
    generalize hF:(fun s:Tup hd.skel.tys=>zlw hd ((asg x).foldl (fun fr t=>fr.set t .und) fr) s fun fr hp1=>run C Γ bn (R:=Tup hd.skel.tys ⊕ zmf js) rest fr hp1 Kd)=F at h
    cases hrun:run C Γ an (R:=Tup hd.skel.tys ⊕ zmf js) x fr hp Kd with
    |none=>rw[hrun] at h;cases h
    |some y0=>
     rw[hrun,Option.bind_some] at h
     cases he:Sum.elim (fun s0=>iter F s0) some y0 with
     |none=>rw[he] at h;cases h
     |some e=>
      rw[he,Option.bind_some] at h
      have hle: ∀ {E':Env} {hp':List HO} {w':World},E.le E'→Hp B E' hp' w'→hp.length≤hp'.length:=by
       intro E' hp' w' h1 h2
       rw[← hh.len, ← h2.len]
       cases hl:E.L.length with
       |zero=>exact Nat.zero_le _
       |succ m=>
        have:=h1.2 m _ (List.getElem?_eq_getElem (by omega))
        have:=(List.getElem?_eq_some_iff.1 this).1
        omega
      let J:Nat→Act→World→Prop:=fun n a1 w1=> ∃ (s:Tup hd.skel.tys) (E1:Env) (fr1:List SV) (hp1:List HO),xh F n s=some e∧E.le E1∧Hp B E1 hp1 w1∧SV.satL E1 fr1 a1.tmps.toList∧Keeps (asg x) a a1∧zeh hp.length hd fr1 hp1 some=some s
      have out: ∀ (lv:Lv) (E':Env) (fr':List SV) (hp':List HO) (a':Act) (w':World),E.le E'→Hp B E' hp' w'→SV.satL E' fr' a'.tmps.toList→Keeps (asg x) a a'→
        (z3 hp.length js lv fr' hp' fun e=>some (Sum.inr e:Tup hd.skel.tys ⊕ zmf js))=some (.inr e)→Q lv.toExit a' w':=by
       intro lv E' fr' hp' a' w' k1 k2 k3 kk hl
       obtain⟨j,z,t,q1,q2,q3⟩:=xx hl
       have hy:=Option.some.inj q2
       have hy:=Sum.inr.inj hy
       subst hy
       have h':=h
       rw[q3] at h'
       obtain⟨E3,fr3,hp3,f1,f2,f3,f4⟩:=jn hh.len.symm hf k1 k2 (hle k1 k2) k3 kk q1 h'
       exact hQ lv E3 fr3 hp3 a' w' f1 f2 f3 (by simpa [asg] using kk) f4
      have post: ∀ (y:Tup hd.skel.tys ⊕ zmf js) (J':Act→World→Prop),(∀ lv E' fr' hp' a' w',E.le E'→Hp B E' hp' w'→SV.satL E' fr' a'.tmps.toList→Keeps (asg x) a a'→lv≠ .goto lb→(z3 hp.length js lv fr' hp' fun e=>some (Sum.inr e:Tup hd.skel.tys ⊕ zmf js))=some y→Q lv.toExit a' w')→
        (∀ s E' fr' hp' a' w',y= .inl s→E.le E'→Hp B E' hp' w'→SV.satL E' fr' a'.tmps.toList→Keeps (asg x) a a'→zeh hp.length hd fr' hp' some=some s→J' a' w')→
        ∀ (lv:Lv) (E':Env) (fr':List SV) (hp':List HO) (a':Act) (w':World),E.le E'→Hp B E' hp' w'→SV.satL E' fr' a'.tmps.toList→Keeps (asg x) a a'→Kd.at lv fr' hp'=some y→Exit.jump lb J' Q lv.toExit a' w':=by
       intro y J' ho hj lv E' fr' hp' a' w' k1 k2 k3 kk k5
       rw[← hKd] at k5
       cases lv with
       |normal=>exact ho .normal E' fr' hp' a' w' k1 k2 k3 kk (by simp) k5
       |exit i=>exact ho (.exit i) E' fr' hp' a' w' k1 k2 k3 kk (by simp) k5
       |ret=>exact ho .ret E' fr' hp' a' w' k1 k2 k3 kk (by simp) k5
       |goto i=>
        simp only[Ks.at] at k5
        cases hb:Nat.beq i lb with
        |true=>
         rw[hb,cond_true] at k5
         have:=Nat.eq_of_beq_eq_true hb
         subst this
         obtain⟨s',q1,q2⟩:=zaf k5
         exact⟨rfl,hj s' E' fr' hp' a' w' (Option.some.inj q2).symm k1 k2 k3 kk q1⟩
        |false=>
         rw[hb,cond_false] at k5
         cases k5
      refine wp_scope_jumps lb (fun a1 w1=> ∃ n,J n a1 w1) (fun a1 w1=>znl fun n=>J n a1 w1) hfl ?_ ?_
      ·refine z8 hG hh hf hg hrun ?_
       refine post y0 _ (fun lv E' fr' hp' a' w' k1 k2 k3 kk hlv hl=> ?_) (fun s E' fr' hp' a' w' hy k1 k2 k3 kk q1=> ?_)
       ·obtain⟨j,z,t,q1,q2,q3⟩:=xx hl
        have hy:=Option.some.inj q2
        rw[← hy] at he
        simp only[Sum.elim_inr,Option.some.injEq] at he
        subst he
        rw[← hy] at hl
        exact out lv E' fr' hp' a' w' k1 k2 k3 kk hl
       ·rw[hy] at he
        simp only[Sum.elim_inl] at he
        obtain⟨n,hn⟩:=znj he
        exact⟨n,s,E',fr',hp',hn,k1,k2,k3,kk,q1⟩
      ·intro a1 w1 hJ
       obtain⟨n0,hn0⟩:=hJ
       have hmin:=zhy (p:=fun n=>J n a1 w1) hn0
       generalize (znl fun n=>J n a1 w1)=n at hmin
       obtain⟨⟨s,E1,fr1,hp1,h0,h1,h2,h3,h4,h5⟩,hmin⟩:=hmin
       cases n with
       |zero=>simp[xh] at h0
       |succ n=>
        simp only[xh] at h0
        cases hFs:F s with
        |none=>rw[hFs] at h0;cases h0
        |some y=>
         have hFs':=hFs
         rw[← hF] at hFs
         simp only at hFs
         obtain⟨E2,fr2,hp2,g1,g2,g3,g4⟩:=jn hh.len.symm hf h1 h2 (hle h1 h2) h3 h4 h5 hFs
         refine z8 hG g2 g3 (C.globsOk_mono g1.1 hg) g4 ?_
         intro lv E' fr' hp' a' w' k1 k2 k3 k4 k5
         have kE:=Env.le_trans g1 k1
         have kk:Keeps (asg x) a a':=h4.trans (k4.mono hasg)
         refine post y _ (fun lv E' fr' hp' a' w' k1 k2 k3 kk hlv hl=> ?_) (fun s' E' fr' hp' a' w' hy k1 k2 k3 kk q1=> ?_) lv E' fr' hp' a' w' kE k2 k3 kk k5
         ·obtain⟨j,z,t,q1,q2,q3⟩:=xx hl
          have hy:=Option.some.inj q2
          rw[hFs', ← hy] at h0
          have:=Option.some.inj h0
          subst this
          rw[← hy] at hl
          exact out lv E' fr' hp' a' w' k1 k2 k3 kk hl
         ·rw[hFs',hy] at h0
          have hJ':J n a' w':=⟨s',E',fr',hp',h0,k1,k2,k3,kk,q1⟩
          refine⟨⟨n,hJ'⟩, ?_⟩
          have:=(zhy (p:=fun n=>J n a' w') hJ').2 n hJ'
          omega
theorem zox {i:TI} {x:SV} {v:Value} {k:SV→Option R} (hs:x.sat E v) (h:xG i hp x k=some r): ∃ ad,v= .pointer (some ad):=by
 unfold xG at h
 split at h
 ·simp only[SV.sat] at hs;obtain⟨b,off,d,h1,_⟩:=hs;exact⟨_,h1⟩
 ·simp only[SV.sat] at hs;obtain⟨e,b,_,_,h1⟩:=hs;exact⟨_,h1⟩
 ·simp only[SV.sat] at hs;obtain⟨e,b,_,_,_,h1⟩:=hs;exact⟨_,h1⟩
 ·cases h
theorem zb9 {fn:Func} (hC:C.ok P) (hh:Hp B E hp w): ∀ {l:List ResultVar} {k:List SV→Option R},SV.satL E fr a.tmps.toList→zdn C hp fr l k=some r→
  ∃ ss vs,SV.satL E ss vs∧k ss=some r∧(l.mapM fun(x:ResultVar)=>match x with
   | .tmp t=>(pure (a.tmps.getD t undef):Sem Value)
   | .cell ad t=>do loadVar t (← asAddr (a.tmps.getD ad undef))).run P w= .ok vs w
 | [],k,_,h=>⟨[], [],by simp[SV.satL],h,by simp⟩
 | .tmp t::l,k,hf,h=>by
  unfold zdn at h
  replace h:=ze h;obtain⟨x,h1,h⟩:=h
  obtain⟨v,h2,h3⟩:=ju hf h1
  obtain⟨ss,vs,g1,g2,g3⟩:=zb9 (fn:=fn) hC hh hf h
  refine⟨x::ss,v::vs,by simp only[SV.satL];exact⟨v,vs,rfl,h3,g1⟩,g2, ?_⟩
  have hv:a.tmps.getD t undef=v:=by simp[Array.getD_eq_getD_getElem?,h2]
  rw[List.mapM_cons]
  simp only[Sem.run_bind,Sem.run_pure,Result.andThen_ok,hv,g3]
 | .cell ad T::l,k,hf,h=>by
  unfold zdn at h
  replace h:=ze h;obtain⟨x,h1,h⟩:=h
  obtain⟨v,h2,h3⟩:=ju hf h1
  replace h:=zd h;obtain⟨i,hi,h⟩:=h
  have h0:=h
  obtain⟨u,s,q1,h,q2⟩:=zdf hC hh hi h3 h
  obtain⟨ss,vs,g1,g2,g3⟩:=zb9 (fn:=fn) hC hh hf h
  refine⟨s::ss,u::vs,by simp only[SV.satL];exact⟨u,vs,rfl,q1,g1⟩,g2, ?_⟩
  have hv:a.tmps.getD ad undef=v:=by simp[Array.getD_eq_getD_getElem?,h2]
  rw[List.mapM_cons]
  have q2':=q2 w (Below.refl _ _)
  obtain⟨ad',rfl⟩:=zox h3 h0
  have e1:(Instr.sureAddr (Value.pointer (some ad'))).run P w= .ok ad' w:=by simp[Instr.sureAddr]
  have e2:(asAddr (Value.pointer (some ad'))).run P w= .ok ad' w:=by simp[asAddr]
  simp only[Instr.loadAt,Sem.run_bind,e1,Result.andThen_ok] at q2'
  simp only[Sem.run_bind,Sem.run_pure,hv,e2,Result.andThen_ok,q2',g3]
theorem zii {fn:Func} {vs:List Value} (h:(fn.results.toList.mapM fun(x:ResultVar)=>match x with
   | .tmp t=>(pure (a.tmps.getD t undef):Sem Value)
   | .cell ad t=>do loadVar t (← asAddr (a.tmps.getD ad undef))).run P w= .ok vs w):(results fn a.tmps).run P w= .ok (retVal vs) w:=by
 unfold results
 rw[Array.mapM_eq_mapM_toList]
 simp only[Sem.run_bind,Sem.run_map]
 erw [h]
 simp only[Result.andThen_ok]
 match vs with
 | []=>rfl
 | [v]=>rfl
 |v::u::l=>rfl
theorem zb (hG:Given P C Γ) {f:FuncId} {fn:Func} {sg:Sig} {an:Ann} (hf:P.funcs[f]? =some fn) (hb:fn.body.isNone=false) (hname:(fn.name== "runtime.NumGoroutine")=false)
  {F:Tup sg.ins.tys→Option (Tup sg.outs.tys)} (hF: ∀ x y,F x=some y→zl C Γ sg an fn x=some y) (hio:sg.ins.objs.length≤sg.outs.objs.length):Con.Ok P C ⟨f,sg,F⟩ where
 there:=⟨fn,hf,hb,hname⟩
 calls:=by
  intro E w args x y W hg hs hh hxy
  have h:=hF x y hxy
  unfold zl at h
  cases hbody:fn.body with
  |none=>rw[hbody] at hb;cases hb
  |some c=>
   rw[hbody] at h
   replace h:=zcj h
   rw[zpi] at h
   have hargs:=SV.satL_length hs
   have hs':SV.satL E (bL (zO sg.ins.objs.length 0) sg.ins.slots (qE sg.ins.tys x)).1 args:=hs
   have hargs':args.length=(bL (zO sg.ins.objs.length 0) sg.ins.slots (qE sg.ins.tys x)).1.length:=hargs
   refine calls_of_wp hf hbody ?_
   have hskip: ∀ n,SV.satL E (List.replicate n SV.skip) (List.replicate n undef):=by
    intro n
    induction n with
    |zero=>simp[SV.satL]
    |succ n ih=>rw[List.replicate_succ,List.replicate_succ];simp only[SV.satL];exact⟨_,_,rfl,by simp[SV.sat],ih⟩
   refine z8 (B:=⟨w,W,E.M⟩) hG hh (fr:=(bL (zO sg.ins.objs.length 0) sg.ins.slots (qE sg.ins.tys x)).1++List.replicate (fn.ntmps - (bL (zO sg.ins.objs.length 0) sg.ins.slots (qE sg.ins.tys x)).1.length) SV.skip) ?_ hg h ?_
   ·simp only[Array.toList_append,Array.toList_replicate,List.size_toArray]
    rw[← hargs']
    exact SV.satL_append hs' (hskip _)
   ·intro lv E' fr' hp' a' w' h1 h2 h3 h4 h5
    have fin:(zdn C hp' fr' fn.results.toList fun rs=>zqu sg.ins.objs.length sg.outs rs hp' fun ds _ _=>zbi sg.outs.tys ds some)=some y→
      a'.defers= []∧ ∃ v,(results fn a'.tmps).run P w'= .ok v w'∧ ∃ (E':Env) (vs:List Value),Ending.returned v= .returned (retVal vs)∧SV.satL E' (Con.outL ⟨f,sg,F⟩ y).1 vs∧Hp ⟨w,W,E.M⟩ E' (Con.outO ⟨f,sg,F⟩ y) w'∧
       ∀ (j:Nat) (e:LE),j<sg.ins.objs.length→E.L[j]? =some e→E'.L[j]? =some e:=by
     intro h5
     obtain⟨ss,vs,q1,h5,q2⟩:=zb9 (P:=P) (w:=w') (fn:=fn) hG.ctx h2 h3 h5
     have hn:sg.ins.objs.length≤hp'.length:=by
      have hl:E.L.length=sg.ins.objs.length:=by
       rw[hh.len]
       exact zg0 (qJ (ss:=sg.ins.slots) (by rw[j5,Skel.tys,qL]))
      rw[← hl, ← h2.len]
      cases hl:E.L.length with
      |zero=>exact Nat.zero_le _
      |succ m=>
       have:=h1.2 m _ (List.getElem?_eq_getElem (by omega))
       have:=(List.getElem?_eq_some_iff.1 this).1
       omega
     replace h5:=j7 h2 q1 hn h5;obtain⟨E1,hp2,ds,mp,hpk,h5⟩:=h5
     replace h5:=xC h5;obtain⟨y',hy',h5⟩:=h5
     have:=Option.some.inj h5
     subst this
     subst hy'
     obtain⟨hH,hS⟩:=hpk.heap
     refine⟨by rw[h4.defers],retVal vs,zii q2,_,vs,rfl,hS,hH,fun j e hj he=> ?_⟩
     show(mp.map (pmLE E'))[j]? =some e
     rw[List.getElem?_map,hpk.fix j hj (by omega)]
     simp[pmLE,h1.2 j e he]
    cases lv with
    |normal=>
     obtain⟨g1,v,g2,g3⟩:=fin h5
     exact⟨g1,v,g2,g3⟩
    |ret=>
     obtain⟨g1,v,g2,g3⟩:=fin h5
     exact⟨g1,v,g2,g3⟩
    |exit i=>simp[Ks.at] at h5
    |goto i=>simp[Ks.at] at h5
end
end Go.Sx
