/- The symbolic evaluator, part F: loads, addresses, parts, lengths. -/
import Derived.Test.YtlppdabhaipbkaaGreatDoorSxE
set_option linter.unusedVariables false
set_option linter.unusedSimpArgs false
namespace Go.Sx
open Go.RowKit
section
variable {R:Type} {r:R} {P:Program} {C:Ctx} {B:Base} {E:Env} {fr:List SV} {hp:List HO} {a:Act} {w:World} {o:Oper} {k:SV→Option R}
theorem zgi {M:Mem}: ∀ {f:Ty} {i:Nat} {x:f.den} {cs:List Value} {d:DV},Rep M f x cs→zhm f i x=some d→
  ∃ pre mid post,cs=pre++(mid++post)∧pre.length=f.fieldOff i∧f.fieldTy i=some d.t∧Rep M d.t d.x mid
 | .pair t u,0,x,cs,d,h,hg=>by
  simp only[zhm,Option.some.injEq] at hg
  subst hg
  obtain⟨c1,c2,e,h1,h2⟩:=h
  exact⟨[],c1,c2,by simpa using e,by simp[Ty.fieldOff],by simp[Ty.fieldTy],h1⟩
 | .pair t u,i+1,x,cs,d,h,hg=>by
  simp only[zhm] at hg
  obtain⟨c1,c2,e,h1,h2⟩:=h
  obtain⟨pre,mid,post,e1,e2,e3,e4⟩:=zgi h2 hg
  exact⟨c1++pre,mid,post,by rw[e,e1];simp,by rw[List.length_append,e2,zc _ _ _ h1];simp[Ty.fieldOff],by simpa [Ty.fieldTy] using e3,e4⟩
 | .int i,0,x,cs,d,h,hg=>by simp only[zhm,Option.some.injEq] at hg;subst hg;exact⟨[],cs, [],by simp,by simp[Ty.fieldOff],by simp[Ty.fieldTy],h⟩
 | .bool,0,x,cs,d,h,hg=>by simp only[zhm,Option.some.injEq] at hg;subst hg;exact⟨[],cs, [],by simp,by simp[Ty.fieldOff],by simp[Ty.fieldTy],h⟩
 | .str,0,x,cs,d,h,hg=>by simp only[zhm,Option.some.injEq] at hg;subst hg;exact⟨[],cs, [],by simp,by simp[Ty.fieldOff],by simp[Ty.fieldTy],h⟩
 | .flt,0,x,cs,d,h,hg=>by simp only[zhm,Option.some.injEq] at hg;subst hg;exact⟨[],cs, [],by simp,by simp[Ty.fieldOff],by simp[Ty.fieldTy],h⟩
 | .cplx,0,x,cs,d,h,hg=>by simp only[zhm,Option.some.injEq] at hg;subst hg;exact⟨[],cs, [],by simp,by simp[Ty.fieldOff],by simp[Ty.fieldTy],h⟩
 | .unit,0,x,cs,d,h,hg=>by simp only[zhm,Option.some.injEq] at hg;subst hg;exact⟨[],cs, [],by simp,by simp[Ty.fieldOff],by simp[Ty.fieldTy],h⟩
 | .sl _,0,x,cs,d,h,hg=>by simp only[zhm,Option.some.injEq] at hg;subst hg;exact⟨[],cs, [],by simp,by simp[Ty.fieldOff],by simp[Ty.fieldTy],h⟩
 | .osl _,0,x,cs,d,h,hg=>by simp only[zhm,Option.some.injEq] at hg;subst hg;exact⟨[],cs, [],by simp,by simp[Ty.fieldOff],by simp[Ty.fieldTy],h⟩
 | .arr _ _,0,x,cs,d,h,hg=>by simp only[zhm,Option.some.injEq] at hg;subst hg;exact⟨[],cs, [],by simp,by simp[Ty.fieldOff],by simp[Ty.fieldTy],h⟩
 | .st _,0,x,cs,d,h,hg=>by simp only[zhm,Option.some.injEq] at hg;subst hg;exact⟨[],cs, [],by simp,by simp[Ty.fieldOff],by simp[Ty.fieldTy],h⟩
theorem zl0 {M:Mem}: ∀ {p:List Nat} {t:Ty} {x:t.den} {cs:List Value} {d:DV},Rep M t x cs→zc3 p t x=some d→
  ∃ pre mid post,cs=pre++(mid++post)∧pre.length=t.pathOff p∧Rep M d.t d.x mid
 | [],t,x,cs,d,h,hg=>by
  simp only[zc3,Option.some.injEq] at hg
  subst hg
  exact⟨[],cs, [],by simp,by simp[Ty.pathOff],h⟩
 |i::p, .st f,x,cs,d,h,hg=>by
  simp only[zc3] at hg
  split at hg
  case h_1 d' hd=>
   obtain⟨pre,mid,post,e1,e2,e3,e4⟩:=zgi (M:=M) (f:=f) h hd
   obtain⟨pre',mid',post',e5,e6,e7⟩:=zl0 e4 hg
   exact⟨pre++pre',mid',post'++post,by rw[e1,e5];simp,by rw[List.length_append,e2,e6];simp[Ty.pathOff,e3],e7⟩
  case h_2=>cases hg
 |i::p, .int _,x,cs,d,h,hg=>by simp[zc3] at hg
 |i::p, .bool,x,cs,d,h,hg=>by simp[zc3] at hg
 |i::p, .str,x,cs,d,h,hg=>by simp[zc3] at hg
 |i::p, .flt,x,cs,d,h,hg=>by simp[zc3] at hg
 |i::p, .cplx,x,cs,d,h,hg=>by simp[zc3] at hg
 |i::p, .unit,x,cs,d,h,hg=>by simp[zc3] at hg
 |i::p, .sl _,x,cs,d,h,hg=>by simp[zc3] at hg
 |i::p, .osl _,x,cs,d,h,hg=>by simp[zc3] at hg
 |i::p, .arr _ _,x,cs,d,h,hg=>by simp[zc3] at hg
 |i::p, .pair _ _,x,cs,d,h,hg=>by simp[zc3] at hg
theorem zb2 {i:TI} {t:Ty} (h:fits i t=true):i.size=t.size∧i.kind.isAgg=t.isAgg∧(i.kind.isAgg=false→t.size=1):=by
 simp only[fits,Bool.and_eq_true,beq_iff_eq,Bool.or_eq_true] at h
 exact⟨Nat.eq_of_beq_eq_true h.1,h.2.1,fun hf=>Nat.eq_of_beq_eq_true (h.2.2.resolve_left (by simp[hf]))⟩
theorem zgv {M:Mem} (hag:M.agrees w) {b off:Nat} {d:List Value} (hs:M.seg b off d) {j:Nat} {v:Value} (hj:d[j]? =some v):w.cell? ⟨b,off+j,none⟩=some v:=by
 obtain⟨c,pre,post,h1,h2,h3⟩:=hs
 obtain⟨cs,T,f,h4,⟨tl,h5⟩⟩:=hag b c h1
 rw[cell_of_row w b (off+j) cs T f h4]
 have:cs.toList[off+j]? =some v:=by
  have hjl:j<d.length:=(List.getElem?_eq_some_iff.1 hj).1
  rw[← h5,h2,List.append_assoc,List.getElem?_append_right (by omega),h3,Nat.add_sub_cancel_left,List.append_assoc,List.getElem?_append_left hjl]
  exact hj
 simpa using this
theorem jp {T:TypeId} {i:TI} (hT:TIok P T i) {b off:Nat} {d:List Value} (hcell: ∀ (j:Nat) (v:Value),d[j]? =some v→w.cell? ⟨b,off+j,none⟩=some v) (hl:d.length=i.size)
  (h1:i.kind.isAgg=false→i.size=1):(loadVar T ⟨b,off,none⟩).run P w= .ok (bif i.kind.isAgg then .agg d.toArray else d.headD undef) w:=by
 obtain⟨f,z,hf,hfs,_⟩:=hT.info
 obtain⟨ds,hd,hda⟩:=hT.under
 unfold loadVar
 rw[Sem.run_bind,zcc hd,Result.andThen_ok,hda]
 cases hk:i.kind.isAgg with
 |true=>
  have hc: ∀ (j:Nat) (v:Value),d[j]? =some v→w.cell? ((⟨b,off,none⟩:Addr).add j)=some v:=fun j v hj=>by rw[Addr.add_lit];exact hcell j v hj
  have:=run_loadCells_list (P:=P) w ⟨b,off,none⟩ d hc
  rw[hl, ← hfs] at this
  simp[z4 hf,this]
 |false=>
  have h2:=h1 hk
  rw[h2] at hl
  obtain⟨v,rfl⟩: ∃ v,d= [v]:=by
   match d,hl with
   | [v],_=>exact⟨v,rfl⟩
  have:=hcell 0 v (by simp)
  simp only[Nat.add_zero] at this
  simp[this]
theorem zfk {i:TI} {t:Ty} (h:i.kind.isAgg=t.isAgg) (d:List Value):(bif i.kind.isAgg then Value.agg d.toArray else d.headD undef)=zG t d:=by
 rw[h];rfl
theorem qs {E:Env} {l:List SV} {vs:List Value} (h:SV.satL E l vs) (off n:Nat):SV.satL E ((l.drop off).take n) ((vs.drop off).take n):=by
 have h1:SV.satL E (l.take off++l.drop off) vs:=by rw[List.take_append_drop];exact h
 obtain⟨us,ws,e,h2,h3⟩:=SV.satL_split h1
 have hl:us.length=min off l.length:=by have:=SV.satL_length h2;simpa using this
 have hd:vs.drop off=ws:=by
  rw[e]
  rcases Nat.le_total off l.length with hle|hle
  ·rw[Nat.min_eq_left hle] at hl
   rw[List.drop_append,List.drop_of_length_le (by omega)]
   simp[hl]
  ·have hw:ws= []:=by
    have:=SV.satL_length h3
    simp only[List.length_drop] at this
    exact List.eq_nil_of_length_eq_zero (by omega)
   rw[hw,List.append_nil,List.drop_of_length_le (by omega)]
 rw[hd]
 have h4:SV.satL E ((l.drop off).take n++(l.drop off).drop n) ws:=by rw[List.take_append_drop];exact h3
 obtain⟨us',ws',e',h5,h6⟩:=SV.satL_split h4
 have hl':us'.length=min n (l.drop off).length:=by have:=SV.satL_length h5;simpa using this
 have:ws.take n=us':=by
  rw[e']
  rcases Nat.le_total n (l.drop off).length with hle|hle
  ·rw[Nat.min_eq_left hle] at hl'
   rw[List.take_append,List.take_of_length_le (by omega)]
   simp[hl']
  ·have hw:ws'= []:=by
    have:=SV.satL_length h6
    simp only[List.length_drop] at this hle hl'
    exact List.eq_nil_of_length_eq_zero (by omega)
   rw[hw,List.append_nil,List.take_of_length_le (by omega)]
 rw[this]
 exact h5
theorem zdf (hC:C.ok P) (hh:Hp B E hp w) {T:TypeId} {i:TI} (hi:(T,i)∈C.TT) {x:SV} {vx:Value} (hx:x.sat E vx) (h:xG i hp x k=some r):
  ∃ v s,s.sat E v∧k s=some r∧ ∀ w',Below w.heap.size w w'→(Instr.loadAt T vx).run P w'= .ok v w':=by
 have hT:=hC.types _ _ hi
 unfold xG at h
 split at h
 case h_1 t y=>
  cases hfit:fits i t with
  |false=>rw[hfit] at h;cases h
  |true=>
   rw[hfit] at h
   obtain⟨f1,f2,f3⟩:=zb2 hfit
   simp only[SV.sat] at hx
   obtain⟨b,off,d,e1,e2,e3⟩:=hx
   subst e1
   refine⟨zG t d,_,by simp only[SV.sat];exact⟨d,e3,rfl⟩,h,fun w' hw=> ?_⟩
   have hl:=zc _ _ _ e3
   have:=jp (P:=P) (w:=w') hT (b:=b) (off:=off) (d:=d) (fun j v hj=>zgv (hh.grow hw).ag e2 hj) (by omega) (fun hk=>by have:=f3 hk;omega)
   rw[zfk f2] at this
   simp[Instr.loadAt,Instr.sureAddr,this]
 case h_2 id off=>
  replace h:=ze h;obtain⟨ob,h1,h⟩:=h
  simp only[SV.sat] at hx
  obtain⟨e,b,e1,e2,e3⟩:=hx
  subst e3
  have hob:=hh.ob _ _ _ h1 e1
  split at h
  case h_1 l=>
   obtain⟨b',c,T',e4,e5,e6⟩:=hob
   rw[e2] at e4
   cases e4
   have hb:b<w.heap.size:=qb e5
   cases hk:i.kind.isAgg with
   |true=>
    rw[hk] at h
    cases hle:Nat.ble (off+i.size) l.length with
    |false=>rw[hle] at h;cases h
    |true=>
     rw[hle] at h
     have hle':=Nat.le_of_ble_eq_true hle
     have hcl:=SV.satL_length e6
     refine⟨_,_,by simp only[SV.sat];exact⟨_,rfl,qs e6 off i.size⟩,h,fun w' hw=> ?_⟩
     have hb':w'.heap[b]? =some (.cells c T' (0,0)):=by rw[hw.block b hb];exact e5
     have:=jp (P:=P) (w:=w') hT (b:=b) (off:=off) (d:=(c.toList.drop off).take i.size) (fun j v hj=>by
      rw[cell_of_row w' b (off+j) c T' _ hb']
      rw[List.getElem?_take] at hj
      split at hj
      ·rw[List.getElem?_drop] at hj;simpa using hj
      ·cases hj) (by simp only[List.length_take,List.length_drop];omega) (fun hf=>by rw[hk] at hf;cases hf)
     rw[hk] at this
     simp[Instr.loadAt,Instr.sureAddr,this]
   |false=>
    rw[hk] at h
    cases h1s:Nat.beq i.size 1 with
    |false=>rw[h1s] at h;cases h
    |true=>
     rw[h1s] at h
     have h1s':=Nat.eq_of_beq_eq_true h1s
     replace h:=ze h;obtain⟨s,hs1,h⟩:=h
     obtain⟨v,hv1,hv2⟩:=SV.satL_get off e6 hs1
     refine⟨v,s,hv2,h,fun w' hw=> ?_⟩
     have hb':w'.heap[b]? =some (.cells c T' (0,0)):=by rw[hw.block b hb];exact e5
     have:=jp (P:=P) (w:=w') hT (b:=b) (off:=off) (d:= [v]) (fun j u hj=>by
      rw[cell_of_row w' b (off+j) c T' _ hb']
      match j,hj with
      |0,hj=>simp at hj;subst hj;simpa using hv1
      |j+1,hj=>simp at hj) (by simp[h1s']) (fun _=>h1s')
     rw[hk] at this
     simpa [Instr.loadAt,Instr.sureAddr] using this
  case h_2=>cases h
 case h_3 id t j p=>
  replace h:=ze h;obtain⟨ob,h1,h⟩:=h
  simp only[SV.sat] at hx
  obtain⟨e,b,e1,e2,e3,e4⟩:=hx
  subst e4
  have hob:=hh.ob _ _ _ h1 e1
  split at h
  case h_1 T' t' xs=>
   split at h
   case isTrue ht=>
    subst ht
    simp only at h
    split at h
    case h_1 d hd=>
     cases hfit:fits i d.t with
     |false=>rw[hfit] at h;cases h
     |true=>
      rw[hfit] at h
      obtain⟨f1,f2,f3⟩:=zb2 hfit
      obtain⟨g1,g2,g3,g4,g5⟩:=hob
      obtain⟨c,dd,post,g6,g7,g8,g9⟩:=g5 b e2
      have hb:b<w.heap.size:=qb g6
      obtain⟨p1,c1,q1,s1,s2,s3,_⟩:=q9 (zc t') j (by omega) g8
      have hxj:xs.getD j t'.dflt=xs[j]'(by omega):=by simp[List.getD,List.getElem?_eq_getElem (show j<xs.length by omega)]
      rw[hxj] at hd
      obtain⟨pre,mid,post',s4,s5,s6⟩:=zl0 s3 hd
      obtain⟨sv,hsv,h⟩: ∃ sv,SV.sat E sv (zG d.t mid)∧k sv=some r:=by
       cases hno:d.t.noOwn with
       |true=>rw[hno] at h;exact⟨_,by simp only[SV.sat];exact⟨mid,s6,rfl⟩,h⟩
       |false=>rw[hno] at h;exact⟨_,by simp only[SV.sat];exact⟨mid,zfm _ _ _ s6,by simp only[zG,Ty.er_isAgg]⟩,h⟩
      refine⟨zG d.t mid,_,hsv,h,fun w' hw=> ?_⟩
      have hb':w'.heap[b]? =some (.cells c T' (0,0)):=by rw[hw.block b hb];exact g6
      have hl:=zc _ _ _ s6
      have:=jp (P:=P) (w:=w') hT (b:=b) (off:=j*t'.size+t'.pathOff p) (d:=mid) (fun m v hj=>by
       rw[cell_of_row w' b _ c T' _ hb']
       have:c.toList[j*t'.size+t'.pathOff p+m]? =some v:=by
        have hm:m<mid.length:=(List.getElem?_eq_some_iff.1 hj).1
        rw[g7,s1,s4]
        rw[List.append_assoc,List.getElem?_append_right (by omega),s2]
        rw[show(pre++(mid++post')++q1)++post=pre++(mid++(post'++(q1++post))) by simp]
        rw[List.getElem?_append_right (by omega),s5,show j*t'.size+t'.pathOff p+m - j*t'.size - t'.pathOff p=m by omega,List.getElem?_append_left hm]
        exact hj
       simpa using this) (by omega) (fun hf=>by have:=f3 hf;omega)
      rw[zfk f2] at this
      simp[Instr.loadAt,Instr.sureAddr,this]
    case h_2=>cases h
   case isFalse=>cases h
  case h_2=>cases h
 case h_4=>cases h
theorem zr6 {T:TypeId} {x:Operand} (hC:C.ok P) (hh:Hp B E hp w) (hf:SV.satL E fr a.tmps.toList) (hg:C.globsOk E.M) (ho:o.op= .load T x)
  (h:(zq C.TT T fun i=>opd C fr x fun x=>xG i hp x k)=some r):xS P E a o w k r:=by
 replace h:=zd h;obtain⟨i,hi,h⟩:=h
 replace h:=zh hf hg h;obtain⟨s,s1,h⟩:=h
 obtain⟨v,s',h1,h2,h3⟩:=zdf hC hh hi s1 h
 exact⟨v,s',h1,h2,fun w' hw=>by simp[execOp,ho,h3 w' hw]⟩
theorem zjd {f:Field} {fi:TypeInfo} (hf:P.info? f.type=some fi) (h0:fi.size≠0) (x:Addr) (w:World):(fieldPlace x f).run P w= .ok (x.add f.offset) w:=by
 simp[fieldPlace,z4 hf,h0]
theorem zfw: ∀ (p:List Nat) (t:Ty) (f:Nat) (ft:Ty),qI p t=some (.st ft)→t.pathOff (p++ [f])=t.pathOff p+ft.fieldOff f
 | [],t,f,ft,h1=>by
  simp only[qI,Option.some.injEq] at h1
  subst h1
  simp only[List.nil_append,Ty.pathOff]
  cases ft.fieldTy f<;>simp[Ty.pathOff]
 |i::p,t,f,ft,h1=>by
  cases t<;>simp only[qI] at h1<;>try (cases h1;done)
  rename_i g
  simp only[List.cons_append,Ty.pathOff]
  cases hg:g.fieldTy i with
  |none=>rw[hg] at h1;cases h1
  |some u=>
   rw[hg] at h1
   simp only
   rw[zfw p u f ft h1]
   omega
theorem zl8 {M:Mem} {b off:Nat} {pre mid post:List Value} (h:M.seg b off (pre++(mid++post))):M.seg b (off+pre.length) mid:=by
 obtain⟨c,p,q,h1,h2,h3⟩:=h
 exact⟨c,p++pre,post++q,h1,by rw[h2];simp,by simp[h3]⟩
theorem TIok.field {T:TypeId} {i:TI} (h:TIok P T i) {fs:List (TypeId×Nat×Nat×Bool)} (hk:i.kind= .struct fs) {j:Nat} {x:TypeId×Nat×Nat×Bool} (hj:fs[j]? =some x):
  ∃ fds f fi d,P.underlying T=some (.struct fds)∧fds[j]? =some f∧f.type=x.1∧f.offset=x.2.1∧P.info? f.type=some fi∧fi.size=x.2.2.1∧P.underlying f.type=some d∧descAgg d=x.2.2.2:=by
 have:=h.kind
 rw[hk] at this
 obtain⟨fds,h1,_,h3⟩:=this
 obtain⟨f,fi,d,h4⟩:=h3 j x hj
 exact⟨fds,f,fi,d,h1,h4⟩
theorem zhn {T:TypeId} {x:Operand} {n:Nat} (hC:C.ok P) (hf:SV.satL E fr a.tmps.toList) (hg:C.globsOk E.M) (ho:o.op= .fieldAddr T x n)
  (h:(zq C.TT T fun i=>opd C fr x fun x=>qT i x n k)=some r):xS P E a o w k r:=by
 replace h:=zd h;obtain⟨i,hi,h⟩:=h
 replace h:=zh hf hg h;obtain⟨s,s1,h⟩:=h
 unfold qT at h
 split at h
 case h_1 fs hk=>
  replace h:=ze h;obtain⟨⟨ft,off,size,agg⟩,hj,h⟩:=h
  obtain⟨fds,f,fi,d,u1,u2,u3,u4,u5,u6,_⟩:=(hC.types _ _ hi).field hk hj
  simp only at h u3 u4 u6
  cases h0:Nat.beq size 0 with
  |true=>rw[h0] at h;cases h
  |false=>
   rw[h0] at h
   have hs0:fi.size≠0:=by rw[u6];intro e;rw[e] at h0;simp at h0
   have hrun: ∀ (b o':Nat) (w':World),(Instr.fieldAt T (.pointer (some ⟨b,o',none⟩)) n).run P w'= .ok (.pointer (some ⟨b,o'+off,none⟩)) w':=by
    intro b o' w'
    simp[Instr.fieldAt,run_underlying u1,u2,Instr.sureAddr,zjd u5 hs0,u4,Addr.add_lit]
   simp only[cond_false] at h
   split at h
   case h_1 id o'=>
    simp only[SV.sat] at s1
    obtain⟨e,b,e1,e2,e3⟩:=s1
    exact⟨_,_,by simp only[SV.sat];exact⟨e,b,e1,e2,rfl⟩,h,fun w' _=>by simp[execOp,ho,e3,hrun]⟩
   case h_2 id t j p=>
    simp only[SV.sat] at s1
    obtain⟨e,b,e1,e2,e3,e4⟩:=s1
    split at h
    case h_1 ft' hp=>
     cases hb:Nat.beq (ft'.fieldOff n) off with
     |false=>rw[hb] at h;cases h
     |true=>
      rw[hb] at h
      have hb':=Nat.eq_of_beq_eq_true hb
      refine⟨_,_,by simp only[SV.sat];exact⟨e,b,e1,e2,e3,rfl⟩,h,fun w' _=> ?_⟩
      rw[zfw _ _ _ _ hp,hb']
      simp[execOp,ho,e4,hrun,Nat.add_assoc]
    case h_2=>cases h
   case h_3 ft' y=>
    simp only[SV.sat] at s1
    obtain⟨b,o',dd,e1,e2,e3⟩:=s1
    split at h
    case h_1 dv hd=>
     cases hb:Nat.beq (ft'.fieldOff n) off with
     |false=>rw[hb] at h;cases h
     |true=>
      have hb':=Nat.eq_of_beq_eq_true hb
      cases hc:Nat.beq dv.t.size size with
      |false=>rw[hb,hc] at h;cases h
      |true=>
       rw[hb,hc] at h
       obtain⟨pre,mid,post,g1,g2,g3,g4⟩:=zgi (M:=E.M) (f:=ft') e3 hd
       rw[g1] at e2
       refine⟨_,_,by simp only[SV.sat];exact⟨b,o'+pre.length,mid,rfl,zl8 e2,g4⟩,h,fun w' _=> ?_⟩
       rw[g2,hb']
       simp[execOp,ho,e1,hrun]
    case h_2=>cases h
   case h_4=>cases h
 case h_2=>cases h
theorem zo2 {T:TypeId} {x:Operand} {n:Nat} (hC:C.ok P) (hf:SV.satL E fr a.tmps.toList) (hg:C.globsOk E.M) (ho:o.op= .field T x n)
  (h:(zq C.TT T fun i=>opd C fr x fun x=>zdd i x n k)=some r):xS P E a o w k r:=by
 replace h:=zd h;obtain⟨i,hi,h⟩:=h
 replace h:=zh hf hg h;obtain⟨s,s1,h⟩:=h
 unfold zdd at h
 split at h
 case h_1 fs hk=>
  replace h:=ze h;obtain⟨⟨ft,off,size,agg⟩,hj,h⟩:=h
  obtain⟨fds,f,fi,d,u1,u2,u3,u4,u5,u6,u7,u8⟩:=(hC.types _ _ hi).field hk hj
  simp only at h u3 u4 u6 u8
  have hrun: ∀ (cs:List Value) (v:Value) (w':World),(agg=true→v= .agg ((cs.drop off).take size).toArray)→(agg=false→cs[off]? =some v)→(Instr.field T (.agg cs.toArray) n).run P w'= .ok v w':=by
   intro cs v w' h1 h2
   simp only[Instr.field,Sem.run_bind,run_underlying u1,Result.andThen_ok,u2,asAgg,Sem.run_pure,part,zcc u7,u8,u4]
   cases agg with
   |true=>
    simp only[if_true,Sem.run_bind,z4 u5,Result.andThen_ok,u6,Sem.run_pure,h1 rfl]
    congr 2
    apply Array.ext'
    simp[List.take_drop,Nat.add_comm]
   |false=>
    have:=h2 rfl
    simp[this]
  split at h
  case h_1 l=>
   simp only[SV.sat] at s1
   obtain⟨cs,e1,e2⟩:=s1
   cases agg with
   |true=>
    simp only[cond_true] at h
    cases hle:Nat.ble (off+size) l.length with
    |false=>rw[hle] at h;cases h
    |true=>
     rw[hle] at h
     refine⟨_,_,by simp only[SV.sat];exact⟨_,rfl,qs e2 off size⟩,h,fun w' _=> ?_⟩
     simp[execOp,ho,e1,hrun cs _ w' (fun _=>rfl) (fun h=>by cases h)]
   |false=>
    simp only[cond_false] at h
    replace h:=ze h;obtain⟨s',h1,h⟩:=h
    obtain⟨v,h2,h3⟩:=SV.satL_get off e2 h1
    exact⟨v,s',h3,h,fun w' _=>by simp[execOp,ho,e1,hrun cs v w' (fun h=>by cases h) (fun _=>h2)]⟩
  case h_2 ft' y=>
   split at h
   case h_1 dv hd=>
    cases hq:(Nat.beq (ft'.fieldOff n) off&&(Nat.beq dv.t.size size&&((dv.t.isAgg==agg)&&(agg||Nat.beq size 1)))) with
    |false=>rw[hq] at h;cases h
    |true=>
     rw[hq] at h
     simp only[Bool.and_eq_true,Bool.or_eq_true,beq_iff_eq] at hq
     obtain⟨hb,hc,hd'',hone⟩:=hq
     have hb':=Nat.eq_of_beq_eq_true hb
     have hc':=Nat.eq_of_beq_eq_true hc
     simp only[SV.sat] at s1
     obtain⟨cs,e1,e2⟩:=s1
     obtain⟨pre,mid,post,g1,g2,g3,g4⟩:=zgi (M:=E.M) (f:=ft') e1 hd
     have hl:=zc _ _ _ g4
     refine⟨zG dv.t mid,_,by simp only[SV.sat];exact⟨mid,g4,rfl⟩,h,fun w' _=> ?_⟩
     have e2':a.eval x= .agg cs.toArray:=by rw[e2];rfl
     have hmid:(cs.drop off).take size=mid:=by rw[g1, ← hb', ← g2,List.drop_left, ← hc', ← hl,List.take_left]
     have:=hrun cs (zG dv.t mid) w' (fun ha=>by rw[hmid,zG,hd'',ha];rfl) (fun ha=>by
      have h1:size=1:=Nat.eq_of_beq_eq_true (hone.resolve_left (by simp[ha]))
      obtain⟨v,hv⟩: ∃ v,mid= [v]:=by
       match mid,(show mid.length=1 by omega) with
       | [v],_=>exact⟨v,rfl⟩
      have h2:(cs.drop off)[0]? =(mid++post)[0]? :=by rw[g1, ← hb', ← g2,List.drop_left]
      rw[List.getElem?_drop,Nat.add_zero,hv] at h2
      rw[h2,zG,hd'',ha,hv]
      rfl)
     simp[execOp,ho,e2',this]
   case h_2=>cases h
  case h_3=>cases h
 case h_2=>cases h
end
end Go.Sx
