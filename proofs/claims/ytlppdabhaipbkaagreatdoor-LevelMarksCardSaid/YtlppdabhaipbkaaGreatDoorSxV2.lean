/- The symbolic evaluator, part V2: regions that draw their order, told by data alone: any order tells the same. -/
import Derived.Test.YtlppdabhaipbkaaGreatDoorSxV1
import Derived.Test.YtlppdabhaipbkaaGreatDoorSxM
set_option linter.unusedVariables false
set_option linter.unusedSimpArgs false
namespace Go.Sx
open Go.RowKit
section
variable {R:Type} {r:R} {P:Program} {C:Ctx} {Γ:List Con} {B:Base} {E:Env} {fr:List SV} {hp:List HO} {a:Act} {w w':World} {o:Oper}
theorem xu {A:Type} {m:(R:Type)→(A→Option R)→Option R} (hm:CN m) {k:A→Option R} (h:m R k=some r): ∃ x,m A some=some x∧k x=some r:=by
 rw[hm R k] at h
 cases hx:m A some with
 |none=>rw[hx] at h;cases h
 |some x=>rw[hx] at h;exact⟨x,rfl,h⟩
mutual
theorem SV.isD_sat {E:Env} {L:List LE}: ∀ (s:SV) (v:Value),s.isD=true→s.sat E v→s.sat ⟨E.M,L⟩ v
 | .und,_,_,_=>by simp[SV.sat]
 | .skip,_,_,h=>by simpa [SV.sat] using h
 | .bit _,_,_,h=>by simpa [SV.sat] using h
 | .val t x,_,_,h=>by simpa [SV.sat] using h
 | .nils,_,_,h=>by simpa [SV.sat] using h
 | .ub _ _,_,_,h=>by simpa [SV.sat] using h
 | .nil0,_,_,h=>by simpa [SV.sat] using h
 | .own _ _,_,hd,_=>by simp[SV.isD] at hd
 | .nilp,_,_,h=>by simpa [SV.sat] using h
 | .ptr _ _,_,hd,_=>by simp[SV.isD] at hd
 | .elt _ _ _ _,_,hd,_=>by simp[SV.isD] at hd
 | .vw _ _ _ _,_,hd,_=>by simp[SV.isD] at hd
 | .mp _,_,hd,_=>by simp[SV.isD] at hd
 | .ro t x,_,_,h=>by simpa [SV.sat] using h
 | .agg l,_,hd,h=>by
  simp only[SV.isD] at hd
  simp only[SV.sat] at h ⊢
  obtain⟨cs,h1,h2⟩:=h
  exact⟨cs,h1,zah l cs hd h2⟩
 | .tup l,_,hd,h=>by
  simp only[SV.isD] at hd
  simp only[SV.sat] at h ⊢
  obtain⟨cs,h1,h2⟩:=h
  exact⟨cs,h1,zah l cs hd h2⟩
 | .fn f l,_,hd,h=>by
  simp only[SV.isD] at hd
  simp only[SV.sat] at h ⊢
  obtain⟨cs,h1,h2⟩:=h
  exact⟨cs,h1,zah l cs hd h2⟩
theorem zah {E:Env} {L:List LE}: ∀ (l:List SV) (vs:List Value),zsu l=true→SV.satL E l vs→SV.satL ⟨E.M,L⟩ l vs
 | [],_,_,h=>by simpa [SV.satL] using h
 |s::l,_,hd,h=>by
  simp only[zsu,Bool.and_eq_true] at hd
  simp only[SV.satL] at h ⊢
  obtain⟨v,ws,h1,h2,h3⟩:=h
  exact⟨v,ws,h1,SV.isD_sat s v hd.1 h2,zah l ws hd.2 h3⟩
end
theorem zd6 (hh:Hp B E hp w) {id:Nat} {len:Option Nat} {v:Value} {T:TypeId} {t:Ty} {xs:List t.den} (ho:hp[id]? =some (.arr T t xs)) (hs:SV.sat E (.own id len) v) (u:Ty) (ys:List u.den) (hyl:ys.length=xs.length) (hy: ∀ (M:Mem) d,xp (Rep M t) xs d→xp (Rep M u) ys d):
  ∃ E',Frz B E E' hp (hp.set id (.fro u ys)) w∧SV.sat E' (.val (.sl u) (zL ys len)) v:=by
 obtain⟨E',g1,g2,gk,g3,g4⟩:=hh.freeze ho hs hyl hy
 refine⟨E',⟨g1,g2,g3,by simp,fun j=> ?_,gk⟩,by simpa only[SV.sat] using g4⟩
 rw[List.getElem?_set]
 split
 ·split
  ·exact .inr ⟨_,rfl,rfl,fun _ _=>rfl⟩
  ·rename_i hj _;subst hj;exact .inl (by rw[List.getElem?_eq_none (by omega)])
 ·exact .inl rfl
theorem znf {s:SV} {v:Value} {k:SV→List HO→Option R} (hh:Hp B E hp w) (hs:s.sat E v) (h:z08 s hp k=some r):
  ∃ E' hp' s',Frz B E E' hp hp' w∧s'.sat E' v∧k s' hp'=some r:=by
 unfold z08 at h
 split at h
 case h_1 id len=>
  replace h:=ze h;obtain⟨ob,ho,h⟩:=h
  split at h
  case h_3=>cases h
  case h_1 T t xs=>
   cases hno:t.noOwn with
   |true=>
    rw[hno,cond_true,zo] at h
    obtain⟨E',g1,g2⟩:=zd6 hh ho hs t xs rfl (fun _ _ h=>h)
    exact⟨E',_,_,g1,g2,h⟩
   |false=>
    rw[hno,cond_false,zo] at h
    obtain⟨E',g1,g2⟩:=zd6 hh ho hs t.er (xs.map t.erD) (by simp) (fun M d hd=>xU (zfm t) hd)
    exact⟨E',_,_,g1,g2,h⟩
  case h_2 t xs=>
   exact⟨E,hp,_,Frz.refl hh,by simpa only[SV.sat] using zgk hh ho hs,h⟩
 case h_2=>exact⟨E,hp,s,Frz.refl hh,hs,h⟩
theorem zne: ∀ {l:List SV} {E:Env} {hp:List HO} {vs:List Value} {k:List SV→List HO→Option R},Hp B E hp w→SV.satL E l vs→z07 l hp k=some r→
  ∃ E' hp' l',Frz B E E' hp hp' w∧SV.satL E' l' vs∧k l' hp'=some r
 | [],E,hp,vs,k,hh,hs,h=>⟨E,hp, [],Frz.refl hh,hs,h⟩
 |s::l,E,hp,vs,k,hh,hs,h=>by
  unfold z07 at h
  simp only[SV.satL] at hs
  obtain⟨v,ws,e,h1,h2⟩:=hs
  obtain⟨E1,hp1,s1,f1,g1,h⟩:=znf hh h1 h
  obtain⟨E2,hp2,l2,f2,g2,h⟩:=zne f1.heap (SV.satL_mono f1.le _ _ h2) h
  refine⟨E2,hp2,s1::l2,f1.trans f2, ?_,h⟩
  simp only[SV.satL]
  exact⟨v,ws,e,SV.sat_mono f2.le _ _ g1,g2⟩
theorem zhs {s:SV} {v:Value} {k:SV→List HO→Option R} (hh:Hp B E hp w) (hs:s.sat E v) (h:z0a s hp k=some r):
  ∃ E' hp' s',Frz B E E' hp hp' w∧s'.sat E' v∧k s' hp'=some r:=by
 unfold z0a at h
 split at h
 case h_1 l=>
  simp only[SV.sat] at hs
  obtain⟨cs,e,h1⟩:=hs
  obtain⟨E1,hp1,l1,f1,g1,h⟩:=zne hh h1 h
  exact⟨E1,hp1,_,f1,by simp only[SV.sat];exact⟨cs,e,g1⟩,h⟩
 case h_2=>exact znf hh hs h
theorem zt4 (hh:Hp B E hp w) {i:Nat} {T:TypeId} {t:Ty} {xs:List t.den} (ho:hp[i]? =some (.arr T t xs)): ∃ E',E.le E'∧Hp B E' (hp.set i (.tk T t xs)) w:=by
 have hil:i<hp.length:=(List.getElem?_eq_some_iff.1 ho).1
 obtain⟨e,he⟩: ∃ e,E.L[i]? =some e:=⟨_,List.getElem?_eq_getElem (by rw[hh.len];exact hil)⟩
 obtain⟨_,_,_,hc,_⟩:=hh.ob _ _ _ ho he
 obtain⟨E',g1,g2,_,g4,g5,g6,g7⟩:=hh.freezeT ho he (u:=t) (ys:=xs) rfl rfl (fun _ _ h=>h)
 refine⟨E',g1, ?_⟩
 have:=g4.layT (i:=i) (by rw[List.getElem?_set_self hil]) (e:=e) (by rw[g2];exact he) (o':= .tk T t xs) rfl trivial ⟨g6,hc,by rw[← g6];exact g5⟩ (by
  simp only[HO.tails]
  split
  ·exact FreeT.nil
  ·exact g7)
 rwa [List.set_set] at this
theorem zd7: ∀ {ids:List Nat} {E:Env} {hp:List HO} {k:List HO→Option R},Hp B E hp w→zy5 ids hp k=some r→ ∃ E' hp',E.le E'∧Hp B E' hp' w∧k hp'=some r∧hp'.length=hp.length
 | [],E,hp,k,hh,h=>⟨E,hp,Env.le_refl E,hh,h,rfl⟩
 |i::l,E,hp,k,hh,h=>by
  unfold zy5 at h
  cases hb:Nat.ble 1000000 i with
  |true=>
   rw[hb,cond_true] at h
   replace h:=ze h;obtain⟨ob,ho,h⟩:=h
   split at h
   case h_2=>cases h
   case h_1 T t xs=>
    cases hno:t.noOwn with
    |false=>rw[hno] at h;cases h
    |true=>
     rw[hno,cond_true,zo] at h
     obtain⟨E1,g1,g2⟩:=zt4 hh ho
     obtain⟨E2,hp2,f1,f2,f3,f4⟩:=zd7 g2 h
     exact⟨E2,hp2,Env.le_trans g1 f1,f2,f3,by rw[f4];simp⟩
  |false=>
  rw[hb,cond_false] at h
  replace h:=ze h;obtain⟨ob,ho,h⟩:=h
  split at h
  case h_2=>cases h
  case h_1 T t xs=>
   obtain⟨e,he⟩: ∃ e,E.L[i]? =some e:=⟨_,List.getElem?_eq_getElem (by rw[hh.len];exact(List.getElem?_eq_some_iff.1 ho).1)⟩
   have hs:SV.sat E (.own i none) (.slice e.addr e.len e.cap):=by simp only[SV.sat];exact⟨e,he,by simp,by simp⟩
   cases hno:t.noOwn with
   |true=>
    rw[hno,cond_true,zo] at h
    obtain⟨E1,g1,_⟩:=zd6 hh ho hs t xs rfl (fun _ _ h=>h)
    obtain⟨E2,hp2,f1,f2,f3,f4⟩:=zd7 g1.heap h
    exact⟨E2,hp2,Env.le_trans g1.le f1,f2,f3,by rw[f4];simp⟩
   |false=>
    rw[hno,cond_false,zo] at h
    obtain⟨E1,g1,_⟩:=zd6 hh ho hs t.er (xs.map t.erD) (by simp) (fun M d hd=>xU (zfm t) hd)
    obtain⟨E2,hp2,f1,f2,f3,f4⟩:=zd7 g1.heap h
    exact⟨E2,hp2,Env.le_trans g1.le f1,f2,f3,by rw[f4];simp⟩
def Yld (P:Program) (C:Ctx) (B:Base) (hp:List HO) (fr:List SV) (o:Oper) (s:SV):Prop:=
 ∀ (E:Env) (a:Act) (w:World) (K:Act→World→Prop) (Q:Exit→Act→World→Prop),Hp B E hp w→C.globsOk E.M→SV.satL E fr a.tmps.toList→
  (∀ E' v w',E.le E'→Hp B E' hp w'→s.sat E' v→K (a.put o.dst v) w')→o.wp P a w K Q
theorem zba {α:Type} {x:Option α} {k:α→Option R} (h:zes x k=some r): ∃ y,x=some y∧k y=some r:=by
 cases x with
 |none=>cases h
 |some y=>exact⟨y,rfl,h⟩
theorem zoh (hh:Hp B E hp w):Hp ⟨w,fun _=>False,E.M⟩ ⟨E.M, []⟩ [] w:=
 {ag:=hh.ag,base:=Mem.le_refl _,fresh:=fun b c hb=> .inl hb,ok:=⟨rfl,rfl,rfl,Nat.le_refl _,fun _ _ _=>rfl⟩,len:=rfl,
  free:=fun i o e b h1=>by simp at h1,dist:=fun i j o o' e e' b h1=>by simp at h1,ob:=fun i o e h1=>by simp at h1,tok:=fun i o e h1=>by simp at h1,tdist:=fun i j o o' e e' b h1=>by simp at h1}
theorem zjv {c:Con} {args:List SV} {k:SV→Option R} (hc:c.Ok P C) (h:zp8 c args k=some r): ∃ s,k s=some r∧ ∀ (hp:List HO) (E:Env) (w:World) (vals:List Value),Hp B E hp w→C.globsOk E.M→SV.satL E args vals→
  Calls P c.f vals.toArray w fun e w'=> ∃ v,e= .returned v∧ ∃ E',E.le E'∧Hp B E' hp w'∧s.sat E' v:=by
 unfold zp8 at h
 cases hchk:zun c&&zsu args with
 |false=>rw[hchk] at h;cases h
 |true=>
  rw[hchk,cond_true] at h
  simp only[Bool.and_eq_true] at hchk
  have hio:c.sig.ins.objs= []:=by
   have:=hchk.1
   unfold zun at this
   split at this
   ·assumption
   ·cases this
  obtain⟨x,hx,h⟩:=zba h
  cases hF:c.F x with
  |none=>rw[hF] at h;cases h
  |some y=>
   rw[hF,Option.bind_some] at h
   replace h:=zcj h
   obtain⟨s,hs,h⟩:=zba h
   cases hd:s.isD with
   |false=>rw[hd] at h;cases h
   |true=>
    rw[hd,cond_true] at h
    refine⟨s,h,fun hp E w vals hh hg hsat=> ?_⟩
    have hh0:=zoh hh
    obtain⟨E1,hp1,ds,mp,hpk,hx'⟩:=j7 (n0:=0) hh0 (zah args vals hchk.2 hsat) (Nat.zero_le _) hx
    replace hx':=xC hx';obtain⟨x',hx1,hx2⟩:=hx'
    cases hx2
    subst hx1
    obtain⟨hHin,hSin⟩:=hpk.heap
    have hin0:c.inO x= []:=by unfold Con.inO;rw[hio];rfl
    have hL0:(zbd (⟨E.M, []⟩:Env) E1 mp).L= []:=by
     have:=hHin.len
     have h0:(bO (zO c.sig.ins.objs.length 0) c.sig.ins.objs (bL (zO c.sig.ins.objs.length 0) c.sig.ins.slots (qE c.sig.ins.tys x)).2)= []:=hin0
     rw[h0] at this
     exact List.eq_nil_of_length_eq_zero this
    have hHin':Hp ⟨w,fun _=>False,(zbd (⟨E.M, []⟩:Env) E1 mp).M⟩ (zbd (⟨E.M, []⟩:Env) E1 mp) (c.inO x) w:=by
     rw[hin0]
     exact { ag:=hHin.ag,base:=Mem.le_refl _,fresh:=fun b c hb=> .inl hb,ok:=⟨rfl,rfl,rfl,Nat.le_refl _,fun _ _ _=>rfl⟩,len:=by rw[hL0];rfl,
             free:=fun i o e b h1=>by simp at h1,dist:=fun i j o o' e e' b h1=>by simp at h1,ob:=fun i o e h1=>by simp at h1,tok:=fun i o e h1=>by simp at h1,tdist:=fun i j o o' e e' b h1=>by simp at h1}
    refine(hc.calls (zbd (⟨E.M, []⟩:Env) E1 mp) w vals x y _ (C.globsOk_mono hpk.frz.le.1 hg) hSin hHin' hF).mono ?_
    rintro e w' ⟨E',vs',rfl,hS',hH',_⟩
    refine⟨retVal vs',rfl, ?_⟩
    obtain⟨E2,hp2,s2,f1,f2,f3⟩:=zhs hH' (zel hS') hs
    cases f3
    have hle:E.M.le E2.M:=Mem.le_trans hpk.frz.le.1 f1.heap.base
    refine⟨⟨E2.M,E.L⟩,⟨hle,fun i e hi=>hi⟩, ?_,SV.isD_sat s _ hd f2⟩
    refine(hh.move (Bc:=⟨w,fun _=>False,(zbd (⟨E.M, []⟩:Env) E1 mp).M⟩) rfl f1.heap.ok (fun b hb=>hb.elim) hle f1.heap.ag fun b c hb=> ?_).1
    rcases f1.heap.fresh b c hb with h1|h1|h1
    ·rcases hpk.frz.heap.fresh b c h1 with h2|h2|h2
     ·exact .inl h2
     ·exact .inr (.inl h2)
     ·exact h2.elim
    ·exact .inr (.inl h1)
    ·exact h1.elim
theorem zoo (f:FuncId) (vs:List SV): ∀ (Γ:List Con),CN fun R=>zrl (R:=R) Γ f vs
 | []=>fun _ _=>rfl
 |c::l=>by
  intro R k
  show zrl (c::l) f vs k=(zrl (c::l) f vs some).bind k
  unfold zrl
  exact zf rfl (zoo f vs l R k)
theorem zky {x:Operand} {args:List Operand} {k:Con→List SV→Option R}:zbn C Γ fr x args k=(zbn (R:=Con×List SV) C Γ fr x args fun c vs=>some (c,vs)).bind fun p=>k p.1 p.2:=by
 unfold zbn
 split
 ·exact zb6 _ fun vs=>zg (m:=fun R=>zrl (R:=R) Γ _ vs) (zoo _ vs Γ) fun c=>rfl
 ·refine zk _ fun s=> ?_
  split
  ·exact zb6 _ fun vs=>zg (m:=fun R=>zrl (R:=R) Γ _ _) (zoo _ _ Γ) fun c=>rfl
  ·rfl
theorem xV {x:Operand} {args:List Operand} {k:Con→List SV→Option R} (h:zbn C Γ fr x args k=some r): ∃ c vs,(zbn (R:=Con×List SV) C Γ fr x args fun c vs=>some (c,vs))=some (c,vs)∧k c vs=some r:=by
 rw[zky] at h
 cases hx:(zbn (R:=Con×List SV) C Γ fr x args fun c vs=>some (c,vs)) with
 |none=>rw[hx] at h;cases h
 |some p=>rw[hx] at h;exact⟨p.1,p.2,rfl,h⟩
theorem zdw {x:Operand} {args:List Operand} {k:Con→List SV→Option R} (h:zbn C Γ fr x args k=some r): ∃ c vs,c∈Γ∧k c vs=some r:=by
 obtain⟨c,vs,h1,h2⟩:=xV h
 refine⟨c,vs, ?_,h2⟩
 unfold zbn at h1
 split at h1
 ·obtain⟨vs',_,h1⟩:=xu (m:=fun R=>zob (R:=R) C fr args) (zk4 C fr args) h1
  obtain⟨c',c1,_,h1⟩:=zbr h1
  cases h1;exact c1
 ·obtain⟨s,_,h1⟩:=xu (m:=fun R=>opd (R:=R) C fr x) (zd0 C fr x) h1
  split at h1
  ·obtain⟨vs',_,h1⟩:=xu (m:=fun R=>zob (R:=R) C fr args) (zk4 C fr args) h1
   obtain⟨c',c1,_,h1⟩:=zbr h1
   cases h1;exact c1
  ·cases h1
theorem zcd {f:FuncId} {vals:Array Value} {a:Act} {w:World} {K:Act→World→Prop} {Q:Exit→Act→World→Prop} (hrun:(execOp a.eval o).run P w= .ok (.enter f vals) w)
  (h:Calls P f vals w fun e w'=> ∃ v,e= .returned v∧K (a.put o.dst v) w'):o.wp P a w K Q:=by
 unfold Oper.wp
 rw[hrun,Oper.upon_enter]
 refine h.mono ?_
 rintro e w' ⟨v,rfl,hv⟩
 exact hv
theorem zv7 {k:SV→Option R} (hG:Given P C Γ) (h:z1a C Γ fr hp o k=some r): ∃ s,k s=some r∧Yld P C B hp fr o s:=by
 unfold z1a at h
 split at h
 case h_1 x args argTypes ho=>
  obtain⟨c,vs,h1,h⟩:=xV h
  obtain⟨c',vs',hm,hcv⟩:=zdw h1
  simp only[Option.some.injEq,Prod.mk.injEq] at hcv
  obtain⟨rfl,rfl⟩:=hcv
  have hc:=hG.con _ hm
  obtain⟨s,h4,h5⟩:=zjv (B:=B) hc h
  refine⟨s,h4,fun E a w K Q hh hg hf hn=> ?_⟩
  obtain⟨c2,vs2,vals,_,g1,g2,hrun⟩:=jS hG hf hg ho h1
  simp only[Option.some.injEq,Prod.mk.injEq] at g2
  obtain⟨rfl,rfl⟩:=g2
  refine zcd (hrun w) ((h5 hp E w _ hh hg g1).mono ?_)
  rintro e w' ⟨v,rfl,E',q1,q2,q3⟩
  exact⟨v,rfl,hn E' v w' q1 q2 q3⟩
 case h_2=>
  cases he:ze8 o.op with
  |false=>
   rw[he,cond_false] at h
   obtain⟨s,h1,h2⟩:=xu (zg7 C fr hp o.op) h
   refine⟨s,h2,fun E a w K Q hh hg hf hn=> ?_⟩
   obtain⟨v,s',g1,g2,g3⟩:=xb hG.ctx hh hf hg h1
   cases g2
   unfold Oper.wp
   rw[g3 w (Below.refl _ _)]
   exact hn E v w (Env.le_refl E) hh g1
  |true=>
   rw[he,cond_true] at h
   cases hd:zsu fr with
   |false=>rw[hd] at h;cases h
   |true=>
    rw[hd,cond_true] at h
    obtain⟨s,h1,h⟩:=zba h
    cases hs:s.isD with
    |false=>rw[hs] at h;cases h
    |true=>
     rw[hs,cond_true] at h
     refine⟨s,h,fun E a w K Q hh hg hf hn=> ?_⟩
     refine zgg hG (zoh hh) (zah fr _ hd hf) hg (fun E' hp' s' v w' q1 q2 q3 q4=> ?_) h1
     obtain⟨E2,hp2,s2,f1,f2,f3⟩:=zhs q2 q3 q4
     cases f3
     have hmv:=(hh.move (Bc:=⟨w,fun _=>False,E.M⟩) rfl f1.heap.ok (fun b hb=>hb.elim) f1.heap.base f1.heap.ag f1.heap.fresh).1
     exact hn ⟨E2.M,E.L⟩ v w' ⟨f1.heap.base,fun i e hi=>hi⟩ hmv (SV.isD_sat s v hs f2)
def SatAt (E:Env) (fr:List SV) (a:Act) (t:Tmp):Prop:= ∀ s,fr[t]? =some s→ ∃ v,a.tmps[t]? =some v∧s.sat E v
theorem zk5 (fr:List SV): ∀ (ts:List Tmp) (u:List SV),CN fun R=>zil (R:=R) fr u ts
 | [],u=>fun _ _=>rfl
 |t::ts,u=>by
  intro R k
  show zil fr u (t::ts) k=(zil fr u (t::ts) some).bind k
  unfold zil
  refine zg (m:=fun R=>qv (R:=R) fr t) (qM fr t) fun s=> ?_
  rw[zo,zo]
  exact zk5 fr ts _ R k
theorem zim {vs:List Value}: ∀ {ts:List Tmp} {u fr':List SV},SV.satL E u vs→(∀ t∈ts, ∀ s,fr[t]? =some s→ ∃ v,vs[t]? =some v∧s.sat E v)→zil fr u ts some=some fr'→SV.satL E fr' vs
 | [],u,fr',hu,hs,h=>by cases h;exact hu
 |t::ts,u,fr',hu,hs,h=>by
  unfold zil at h
  replace h:=ze h;obtain⟨s,h1,h⟩:=h
  rw[zo] at h
  obtain⟨v,h2,h3⟩:=hs t (by simp) s h1
  refine zim ?_ (fun t' ht'=>hs t' (by simp[ht'])) h
  have:=zgt (i:=t) hu h3
  have hv:vs.set t v=vs:=by
   apply List.ext_getElem?
   intro i
   rw[List.getElem?_set]
   split
   ·rename_i hi
    subst hi
    rw[if_pos (List.getElem?_eq_some_iff.1 h2).1,h2]
   ·rfl
  rwa [hv] at this
theorem zmc: ∀ {fr:List SV} {vs:List Value},vs.length=fr.length→SV.satL E (zxy fr) vs
 | [], [],_=>by simp[zxy,SV.satL]
 | [],_::_,h=>by simp at h
 |_::_, [],h=>by simp at h
 |s::fr,v::vs,h=>by
  simp only[zxy,SV.satL]
  exact⟨v,vs,rfl,by simp[SV.sat],zmc (by simpa using h)⟩
def z1r (P:Program) (C:Ctx) (B:Base) (hp:List HO) (fF:List SV) (o:Oper) (s:SV):Prop:=
 ∀ (E:Env) (a:Act) (w:World) (K:Act→World→Prop) (Q:Exit→Act→World→Prop),Hp B E hp w→C.globsOk E.M→a.tmps.size=fF.length→(∀ t∈qO o.op.operands.toList,SatAt E fF a t)→
  (∀ E' v w',E.le E'→Hp B E' hp w'→s.sat E' v→K (a.put o.dst v) w')→o.wp P a w K Q
theorem zx5 {k:SV→Option R} (hG:Given P C Γ) (h:evD C Γ fr hp o k=some r): ∃ s,k s=some r∧
  ∀ fF:List SV,fF.length=fr.length→(∀ t∈qO o.op.operands.toList,fF[t]? =fr[t]?)→z1r P C B hp fF o s:=by
 unfold evD at h
 obtain⟨fr',h1,h2⟩:=xu (zk5 fr _ _) h
 obtain⟨s,h3,h4⟩:=zv7 (B:=B) hG h2
 refine⟨s,h3,fun fF hl hF E a w K Q hh hg hsz hs hn=> ?_⟩
 refine h4 E a w K Q hh hg (zim (zmc (by simpa [hl] using hsz)) (fun t ht s hs'=> ?_) h1) hn
 obtain⟨v,h5,h6⟩:=hs t ht s (by rw[hF t ht];exact hs')
 exact⟨v,by simpa using h5,h6⟩
theorem ziq {g:Bool} {s:SV} {k:SV→Option R} (h:zf1 g s k=some r): ∃ s',k s'=some r∧ ∀ E v,s.sat E v→s'.sat E v:=by
 unfold zf1 at h
 split at h
 case h_1 c=>
  cases hc:c with
  |true=>subst hc;rw[if_pos rfl] at h;exact⟨_,h,fun E v hs=>by simp only[SV.sat] at hs ⊢;exact jK hs⟩
  |false=>subst hc;rw[if_neg (by simp)] at h;exact⟨_,h,fun E v hs=>by simp only[SV.sat] at hs ⊢;exact jK hs⟩
 case h_2=>exact⟨s,h,fun _ _ h=>h⟩
def zjh (P:Program) (C:Ctx) (B:Base) (hp:List HO) (ops:Array Oper) (fF:List SV) (o:Oper):Prop:=
 ∀ (E:Env) (a:Act) (w:World) (K:Act→World→Prop) (Q:Exit→Act→World→Prop),Hp B E hp w→C.globsOk E.M→a.tmps.size=fF.length→(∀ t∈zp ops.toList o,SatAt E fF a t)→
  (∀ E' v w',E.le E'→Hp B E' hp w'→(∀ d s,o.dst=some d→fF[d]? =some s→s.sat E' v)→K (a.put o.dst v) w')→
  if Region.wanted o (yielded ops a.tmps) then o.wp P a w K Q∨(o.asks P a w∧LetsOut Q) else K (a.put o.dst undef) w
theorem x6 {t:Tmp}: ∀ {os:List Oper},t∈opsDst os→ ∃ (m:Nat) (o:Oper),os[m]? =some o∧o.dst=some t
 | [],h=>by simp[opsDst] at h
 |o::os,h=>by
  unfold opsDst at h
  have tail:t∈opsDst os→ ∃ (m:Nat) (o':Oper),(o::os)[m]? =some o'∧o'.dst=some t:=fun h=>by
   obtain⟨m,o',h1,h2⟩:=x6 h
   exact⟨m+1,o',by simpa using h1,h2⟩
  split at h
  case h_1 t' ht=>
   rcases List.mem_cons.1 h with h|h
   ·subst h;exact⟨0,o,by simp,ht⟩
   ·exact tail h
  case h_2=>exact tail h
theorem xa {all:List Oper}: ∀ {os:List Oper} {i:Nat},zQ all i os=true→ ∀ (m:Nat) (o:Oper) (d:Tmp),os[m]? =some o→o.dst=some d→jw all 0 d=some (i+m)
 | [],i,_,m,o,d,hm,_=>by simp at hm
 |o::os,i,h,0,o',d,hm,hd=>by
  simp at hm
  subst hm
  simp only[zQ,Bool.and_eq_true] at h
  have h1:=h.1
  rw[hd] at h1
  simp only at h1
  split at h1
  case h_1 j hj=>rw[hj,Nat.eq_of_beq_eq_true h1];rfl
  case h_2=>cases h1
 |o::os,i,h,m+1,o',d,hm,hd=>by
  simp only[zQ,Bool.and_eq_true] at h
  have:=xa h.2.2.2 m o' d (by simpa using hm) hd
  rw[this];congr 1;omega
theorem za9 {all:List Oper} {o:Oper} {j:Nat}: ∀ {l:List Tmp},ziz all o j l=true→ ∀ t∈l, ∀ i,jw all 0 t=some i→i<j∧zpt i o.after.toList=true
 | [],_,t,ht,_,_=>by simp at ht
 |t'::l,h,t,ht,i,hi=>by
  simp only[ziz,Bool.and_eq_true] at h
  rcases List.mem_cons.1 ht with ht|ht
  ·subst ht
   have h1:=h.1
   rw[hi] at h1
   simp only[Bool.and_eq_true] at h1
   exact⟨Nat.le_of_ble_eq_true h1.1,h1.2⟩
  ·exact za9 h.2 t ht i hi
theorem zcv {i:Nat}: ∀ {l:List Edge},zpt i l=true→ ∃ e∈l,Region.binds .any e=true∧e.on=i
 | [],h=>by simp[zpt] at h
 |e::l,h=>by
  simp only[zpt,Bool.or_eq_true,Bool.and_eq_true] at h
  rcases h with ⟨h1,h2⟩|h
  ·exact⟨e,by simp,h1,Nat.eq_of_beq_eq_true h2⟩
  ·obtain⟨e',h1,h2⟩:=zcv h
   exact⟨e',by simp[h1],h2⟩
theorem jD {j:Nat}: ∀ {l:List Edge},zbu j l=true→ ∀ e∈l,Region.binds .any e=true→e.on<j
 | [],_,e,he,_=>by simp at he
 |e'::l,h,e,he,hb=>by
  simp only[zbu,Bool.and_eq_true] at h
  rcases List.mem_cons.1 he with he|he
  ·subst he
   have h1:=h.1
   rw[hb] at h1
   exact Nat.le_of_ble_eq_true (by simpa using h1)
  ·exact jD h.2 e he hb
theorem zkr {all os:List Oper} {o:Oper} {i:Nat} (h:zQ all i (o::os)=true) {t:Tmp} (ht:t∈zp all o):t∉opsDst (o::os):=by
 intro hm
 obtain⟨m,o',h1,h2⟩:=x6 hm
 have h3:=xa h m o' t h1 h2
 simp only[zQ,Bool.and_eq_true] at h
 have:=(za9 h.2.2.1 t ht _ h3).1
 omega
theorem zm1 {all os:List Oper} {o:Oper} {i:Nat} (h:zQ all i (o::os)=true) {d:Tmp} (hd:o.dst=some d):d∉opsDst os:=by
 intro hm
 obtain⟨m,o',h1,h2⟩:=x6 hm
 have h3:=xa h (m+1) o' d (by simpa using h1) h2
 have h4:=xa h 0 o d (by simp) hd
 rw[h3] at h4
 simp at h4
theorem zkb {o:Oper} {os:List Oper} {t:Tmp} (h:t∉opsDst (o::os)):t∉opsDst os:=by
 intro hm
 apply h
 unfold opsDst
 split
 ·simp[hm]
 ·exact hm
theorem zkf {d:Option Tmp} {s:SV} {k:List SV→Option R} (h:zcp fr d s k=some r): ∃ fr1,k fr1=some r∧fr1.length=fr.length∧(∀ t,d≠some t→fr1[t]? =fr[t]?)∧ ∀ t s',d=some t→fr1[t]? =some s'→s'=s:=by
 cases d with
 |none=>exact⟨fr,h,rfl,fun _ _=>rfl,fun _ _ h=>by cases h⟩
 |some t=>
  simp only[zcp] at h
  rw[zo] at h
  refine⟨_,h,by simp,fun t' ht=> ?_,fun t' s' ht hs=> ?_⟩
  ·rw[List.getElem?_set]
   rw[if_neg (fun e=>ht (by rw[e]))]
  ·cases ht
   rw[List.getElem?_set,if_pos rfl] at hs
   split at hs
   ·exact(Option.some.inj hs).symm
   ·cases hs
theorem ztk {ops:Array Oper} (hG:Given P C Γ): ∀ {os:List Oper} {i:Nat} {fr:List SV} {k:List SV→Option R},zQ ops.toList i os=true→zbz C Γ ops.toList i os fr hp k=some r→
  ∃ fF,k fF=some r∧fF.length=fr.length∧(∀ t,t∉opsDst os→fF[t]? =fr[t]?)∧ ∀ o∈os,zjh P C B hp ops fF o
 | [],i,fr,k,hB,h=>⟨fr,h,rfl,fun _ _=>rfl,fun o ho=>by simp at ho⟩
 |o::os,i,fr,k,hB,h=>by
  have hB':zQ ops.toList (i+1) os=true:=by
   simp only[zQ,Bool.and_eq_true] at hB
   exact hB.2.2.2
  have behind: ∀ {s:SV},(zcp fr o.dst s fun fr=>zbz C Γ ops.toList (i+1) os fr hp k)=some r→
    (∀ fF:List SV,fF.length=fr.length→(∀ t∈zp ops.toList o,fF[t]? =fr[t]?)→(∀ d s',o.dst=some d→fF[d]? =some s'→s'=s)→zjh P C B hp ops fF o)→
    ∃ fF,k fF=some r∧fF.length=fr.length∧(∀ t,t∉opsDst (o::os)→fF[t]? =fr[t]?)∧ ∀ o'∈o::os,zjh P C B hp ops fF o':=by
   intro s h0 hfact
   obtain⟨fr1,h1,h2,h3,h4⟩:=zkf h0
   obtain⟨fF,q1,q2,q3,q4⟩:=ztk hG hB' h1
   have hout: ∀ t,t∉opsDst (o::os)→fF[t]? =fr[t]? :=by
    intro t ht
    rw[q3 t (zkb ht)]
    refine h3 t fun hd=>ht ?_
    unfold opsDst
    rw[hd]
    simp
   refine⟨fF,q1,q2.trans h2,hout,fun o' ho'=> ?_⟩
   rcases List.mem_cons.1 ho' with ho'|ho'
   ·subst ho'
    refine hfact fF (q2.trans h2) (fun t ht=>hout t (zkr hB ht)) fun d s' hd hs'=> ?_
    rw[q3 d (zm1 hB hd)] at hs'
    exact h4 d s' hd hs'
   ·exact q4 o' ho'
  have go:(evD C Γ fr hp o fun s=>zf1 (zar ops.toList i) s fun s=>zcp fr o.dst s fun fr=>zbz C Γ ops.toList (i+1) os fr hp k)=some r→
    (∀ t∈qO o.op.operands.toList,t∈zp ops.toList o)→(∀ fF:List SV,(∀ t∈zp ops.toList o,fF[t]? =fr[t]?)→ ∀ E a,(∀ t∈zp ops.toList o,SatAt E fF a t)→Region.wanted o (yielded ops a.tmps)=true)→
    ∃ fF,k fF=some r∧fF.length=fr.length∧(∀ t,t∉opsDst (o::os)→fF[t]? =fr[t]?)∧ ∀ o'∈o::os,zjh P C B hp ops fF o':=by
   intro h0 hin hw
   obtain⟨s,h1,h2⟩:=zx5 (B:=B) hG h0
   obtain⟨s',h3,h4⟩:=ziq h1
   refine behind h3 fun fF hl hF hd=> ?_
   intro E a w K Q hh hg hsz hs hn
   rw[if_pos (hw fF hF E a hs)]
   refine .inl (h2 fF hl (fun t ht=>hF t (hin t ht)) E a w K Q hh hg hsz (fun t ht=>hs t (hin t ht)) fun E' v w' g1 g2 g3=>hn E' v w' g1 g2 fun d s2 hd' hs2=> ?_)
   rw[hd d s2 hd' hs2]
   exact h4 E' v g3
  have leave:(zcp fr o.dst .skip fun fr=>zbz C Γ ops.toList (i+1) os fr hp k)=some r→
    (∀ fF:List SV,(∀ t∈zp ops.toList o,fF[t]? =fr[t]?)→ ∀ E a,(∀ t∈zp ops.toList o,SatAt E fF a t)→Region.wanted o (yielded ops a.tmps)=false)→
    ∃ fF,k fF=some r∧fF.length=fr.length∧(∀ t,t∉opsDst (o::os)→fF[t]? =fr[t]?)∧ ∀ o'∈o::os,zjh P C B hp ops fF o':=by
   intro h0 hw
   refine behind h0 fun fF hl hF hd=> ?_
   intro E a w K Q hh hg hsz hs hn
   rw[if_neg (by rw[hw fF hF E a hs];simp)]
   exact hn E undef w (Env.le_refl E) hh fun d s2 hd' hs2=>by rw[hd d s2 hd' hs2];simp[SV.sat]
  unfold zbz at h
  split at h
  case h_1 hgd=>
   refine go h (fun t ht=>by unfold zp;rw[hgd];exact ht) fun fF hF E a hs=>by simp[Region.wanted,hgd]
  case h_2 j want hgd=>
   split at h
   case h_1=>cases h
   case h_2 d hds=>
    replace h:=ze h;obtain⟨s,hs,h⟩:=h
    have hin: ∀ t∈qO o.op.operands.toList,t∈zp ops.toList o:=fun t ht=>by unfold zp;rw[hgd];simp only[hds];simp[ht]
    have hdl:d∈zp ops.toList o:=by unfold zp;rw[hgd];simp only[hds];simp
    split at h
    case h_1 b=>
     have hw: ∀ fF:List SV,(∀ t∈zp ops.toList o,fF[t]? =fr[t]?)→ ∀ E a,(∀ t∈zp ops.toList o,SatAt E fF a t)→Region.wanted o (yielded ops a.tmps)=(b==want):=by
      intro fF hF E a hsat
      obtain⟨v,h1,h2⟩:=hsat d hdl (.bit b) (by rw[hF d hdl];exact hs)
      have:v= .bool b:=by simpa [SV.sat] using h2
      subst this
      exact qD hgd hds h1
     cases hb:(b==want) with
     |true=>rw[hb] at h hw;exact go h hin hw
     |false=>rw[hb] at h hw;exact leave h hw
    case h_2=>
     refine leave h fun fF hF E a hsat=> ?_
     obtain⟨v,h1,h2⟩:=hsat d hdl .skip (by rw[hF d hdl];exact hs)
     have:v=undef:=by simpa [SV.sat] using h2
     subst this
     exact jv hgd hds h1
    case h_3=>cases h
theorem xN {t:Tmp}: ∀ {l:List Oper} {j i:Nat},jw l j t=some i→ ∃ (m:Nat) (o:Oper),i=j+m∧l[m]? =some o∧o.dst=some t
 | [],j,i,h=>by simp[jw] at h
 |o::l,j,i,h=>by
  unfold jw at h
  have tail:jw l (j+1) t=some i→ ∃ (m:Nat) (o':Oper),i=j+m∧(o::l)[m]? =some o'∧o'.dst=some t:=fun h=>by
   obtain⟨m,o',h1,h2,h3⟩:=xN h
   exact⟨m+1,o',by omega,by simpa using h2,h3⟩
  split at h
  case h_1 d hd=>
   cases hb:Nat.beq d t with
   |true=>rw[hb] at h;cases h;exact⟨0,o,rfl,by simp,by rw[hd,Nat.eq_of_beq_eq_true hb]⟩
   |false=>rw[hb] at h;exact tail h
  case h_2=>exact tail h
def Settled (all:List Oper) (listed:Array Bool) (t:Tmp):Prop:= ∀ i,jw all 0 t=some i→listed.getD i false=true
structure Inv (B:Base) (E0:Env) (hp:List HO) (ops:Array Oper) (fF:List SV) (a0:Act) (listed:Array Bool) (a:Act) (w:World):Prop where
 env: ∃ E,E0.le E∧Hp B E hp w∧ ∀ t,Settled ops.toList listed t→SatAt E fF a t
 size:a.tmps.size=fF.length
 keep:Keeps (opsDst ops.toList) a0 a
 lsize:listed.size=ops.size
theorem zeg {os:List Oper} {o:Oper} {t:Tmp} (ho:o∈os) (hd:o.dst=some t):t∈opsDst os:=by
 induction os with
 |nil=>simp at ho
 |cons x os ih=>
  unfold opsDst
  rcases List.mem_cons.1 ho with ho|ho
  ·subst ho;rw[hd];simp
  ·split
   ·simp[ih ho]
   ·exact ih ho
def za8 (listed:Array Bool):Nat:=(listed.toList.filter fun b=> !b).length
theorem jL {listed:Array Bool} {i:Nat} (h:listed.getD i true=false):za8 listed=za8 (listed.setIfInBounds i true)+1:=by
 unfold za8
 rw[Array.toList_setIfInBounds]
 have h':listed.toList[i]? =some false:=by
  rcases Nat.lt_or_ge i listed.size with hi|hi
  ·have:listed.getD i true=listed[i]:=by simp[hi]
   rw[this] at h
   simp[hi,h]
  ·simp[Array.getElem?_eq_none hi] at h
 generalize listed.toList=l at*
 clear h
 induction l generalizing i with
 |nil=>simp at h'
 |cons x l ih=>
  cases i with
  |zero=>simp at h';subst h';simp
  |succ i=>
   have:=ih (i:=i) (by simpa using h')
   cases x<;>simp[this]
theorem zsh {ops:Array Oper} {fF:List SV} {E0:Env} {a0:Act} {Q:Exit→Act→World→Prop} (hB:zk8 ops=true) (hfact: ∀ o∈ops.toList,zjh P C B hp ops fF o) (hg:C.globsOk E0.M)
  (hQ: ∀ E a w,E0.le E→Hp B E hp w→SV.satL E fF a.tmps.toList→Keeps (opsDst ops.toList) a0 a→Q .normal a w):
  ∀ (fuel:Nat) (listed:Array Bool) (a:Act) (w:World),za8 listed≤fuel→Inv B E0 hp ops fF a0 listed a w→wpAny P .any ops Q fuel listed a w:=by
 have fin: ∀ (listed:Array Bool) (a:Act) (w:World),Inv B E0 hp ops fF a0 listed a w→Region.ready .any ops listed= []→Q .normal a w:=by
  intro listed a w hI hr
  obtain⟨E,h1,h2,h3⟩:=hI.env
  have hall: ∀ i,i<ops.size→listed.getD i false=true:=by
   intro i
   induction i using Nat.strongRecOn with
   |ind i ih=>
    intro hi
    cases hl:listed.getD i true with
    |true=>
     rw[← hl]
     have:i<listed.size:=by rw[hI.lsize];exact hi
     simp[this]
    |false=>
     exfalso
     have:i∈Region.ready .any ops listed:=mem_ready.2 ⟨hl,ops[i],by simp[hi],fun e he hbe=>by
      have hd: ∀ {os:List Oper} {j:Nat},zQ ops.toList j os=true→ ∀ (m:Nat) (o:Oper),os[m]? =some o→zbu (j+m) o.after.toList=true:=by
       intro os
       induction os with
       |nil=>intro j _ m o hm;simp at hm
       |cons x os ih2=>
        intro j hj m o hm
        simp only[zQ,Bool.and_eq_true] at hj
        cases m with
        |zero=>simp at hm;subst hm;exact hj.2.1
        |succ m=>
         have:=ih2 hj.2.2.2 m o (by simpa using hm)
         rwa [show j+(m+1)=j+1+m by omega]
      have:=jD (hd hB i ops[i] (by simp[hi])) e (by simpa using he) hbe
      exact ih e.on (by omega) (by omega)⟩
     rw[hr] at this
     cases this
  refine hQ E a w h1 h2 ?_ hI.keep
  have hsat: ∀ t,SatAt E fF a t:=fun t=>h3 t fun i hi=>by
   obtain⟨m,o,e,g1,g2⟩:=xN hi
   have:m<ops.size:=by simpa using(List.getElem?_eq_some_iff.1 g1).1
   exact hall i (by omega)
  have key: ∀ (l:List SV) (vs:List Value),vs.length=l.length→(∀ (t:Nat) (s:SV),l[t]? =some s→ ∃ v,vs[t]? =some v∧s.sat E v)→SV.satL E l vs:=by
   intro l
   induction l with
   |nil=>intro vs hl _;simp at hl;simp[hl,SV.satL]
   |cons x l ih=>
    intro vs hl hs
    cases vs with
    |nil=>simp at hl
    |cons v vs=>
     simp only[SV.satL]
     obtain⟨v',e,g⟩:=hs 0 x (by simp)
     simp at e
     subst e
     exact⟨v,vs,rfl,g,ih vs (by simpa using hl) fun t s ht=>by simpa using hs (t+1) s (by simpa using ht)⟩
  exact key fF _ (by simpa using hI.size) fun t s ht=>by simpa using hsat t s ht
 have step: ∀ (listed:Array Bool) (a:Act) (w:World) (i:Nat) (K:Act→World→Prop),Inv B E0 hp ops fF a0 listed a w→i∈Region.ready .any ops listed→
   (∀ a' w',Inv B E0 hp ops fF a0 (listed.setIfInBounds i true) a' w'→K a' w')→wpOp P ops Q i K a w:=by
  intro listed a w i K hI hi hK
  obtain⟨hun,o,ho,hw⟩:=mem_ready.1 hi
  have hol:ops.toList[i]? =some o:=by simpa using ho
  have hom:o∈ops.toList:=List.mem_of_getElem? hol
  obtain⟨E,h1,h2,h3⟩:=hI.env
  have huses: ∀ t∈zp ops.toList o,Settled ops.toList listed t:=by
   intro t ht j hj
   have hd: ∀ {os:List Oper} {j:Nat},zQ ops.toList j os=true→ ∀ (m:Nat) (o:Oper),os[m]? =some o→ziz ops.toList o (j+m) (zp ops.toList o)=true:=by
    intro os
    induction os with
    |nil=>intro j _ m o hm;simp at hm
    |cons x os ih2=>
     intro j hj m o hm
     simp only[zQ,Bool.and_eq_true] at hj
     cases m with
     |zero=>simp at hm;subst hm;exact hj.2.2.1
     |succ m=>
      have:=ih2 hj.2.2.2 m o (by simpa using hm)
      rwa [show j+(m+1)=j+1+m by omega]
   obtain⟨_,g2⟩:=za9 (hd hB i o hol) t ht j hj
   obtain⟨e,e1,e2,e3⟩:=zcv g2
   rw[← e3]
   exact hw e (by simpa using e1) e2
  unfold wpOp
  rw[ho]
  refine hfact o hom E a w K Q h2 (C.globsOk_mono h1.1 hg) hI.size (fun t ht=>h3 t (huses t ht)) fun E' v w' g1 g2 g3=>hK _ _ ?_
  refine⟨⟨E',Env.le_trans h1 g1,g2,fun t ht s hs=> ?_⟩, ?_,hI.keep.trans (Keeps.put _ a o.dst v fun t ht=>zeg hom ht),by simp[hI.lsize]⟩
  ·by_cases hd:o.dst=some t
   ·refine⟨v, ?_,g3 t s hd hs⟩
    have hlt:t<a.tmps.size:=by rw[hI.size];exact(List.getElem?_eq_some_iff.1 hs).1
    simp[Act.put,hd,hlt]
   ·have hse:Settled ops.toList listed t:=by
     intro j hj
     have hji:i≠j:=by
      intro e
      subst e
      obtain⟨m,o',q1,q2,q3⟩:=xN hj
      have:i=m:=by omega
      subst this
      rw[hol] at q2
      cases q2
      exact hd q3
     have:=ht j hj
     rwa [getD_set_ne false hji] at this
    obtain⟨u,q1,q2⟩:=h3 t hse s hs
    refine⟨u, ?_,SV.sat_mono g1 _ _ q2⟩
    cases hdd:o.dst with
    |none=>simpa [Act.put,hdd] using q1
    |some d=>
     have hne:d≠t:=fun e=>hd (by rw[hdd,e])
     simp only[Act.put]
     rw[Array.getElem?_setIfInBounds_ne hne]
     exact q1
  ·rw[(Keeps.put (opsDst ops.toList) a o.dst v fun t ht=>zeg hom ht).size];exact hI.size
 intro fuel
 induction fuel with
 |zero=>
  intro listed a w hf hI
  have hr:Region.ready .any ops listed= []:=by
   cases hc:Region.ready .any ops listed with
   |nil=>rfl
   |cons i l=>
    have hi:i∈Region.ready .any ops listed:=by rw[hc];simp
    have:=jL (mem_ready.1 hi).1
    omega
  exact⟨hr,fin listed a w hI hr⟩
 |succ fuel ih=>
  intro listed a w hf hI
  refine⟨fun hr=>fin listed a w hI hr,fun i hi=> ?_⟩
  refine step listed a w i _ hI hi fun a' w' hI'=>ih _ a' w' ?_ hI'
  have:=jL (mem_ready.1 hi).1
  omega
theorem zx3 {ops:Array Oper} {id:Nat} {Q:Exit→Act→World→Prop} {k:List SV→Option R} (hG:Given P C Γ) (hh:Hp B E hp w) (hf:SV.satL E fr a.tmps.toList) (hg:C.globsOk E.M) (hB:zk8 ops=true)
  (hn: ∀ E' fr' a' w',E.le E'→Hp B E' hp w'→SV.satL E' fr' a'.tmps.toList→Keeps (opsDst ops.toList) a a'→k fr'=some r→Q .normal a' w')
  (h:zbz C Γ ops.toList 0 ops.toList fr hp k=some r):(Code.region id ops true).wp P Q a w:=by
 refine wp_region_any hG.mixed ?_
 obtain⟨fF,h1,h2,h3,h4⟩:=ztk (B:=B) hG hB h
 have hlen:a.tmps.size=fF.length:=by rw[h2, ← SV.satL_length hf];simp
 refine zsh (a0:=a) (E0:=E) hB h4 hg (fun E' a' w' g1 g2 g3 g4=>hn E' fF a' w' g1 g2 g3 g4 h1) ops.size _ a _ ?_ ?_
 ·unfold za8;simp
 ·refine⟨⟨E,Env.le_refl E,hh.grow (Below.refl _ _).drew,fun t ht s hs=> ?_⟩,hlen,Keeps.refl _ a,by simp⟩
  have hnot:t∉opsDst ops.toList:=by
   intro hm
   obtain⟨m,o,q1,q2⟩:=x6 hm
   have:=ht _ (xa hB m o t q1 q2)
   have hlt:m<ops.size:=by simpa using(List.getElem?_eq_some_iff.1 q1).1
   simp[hlt] at this
  rw[h3 t hnot] at hs
  exact ju hf hs
end
end Go.Sx
