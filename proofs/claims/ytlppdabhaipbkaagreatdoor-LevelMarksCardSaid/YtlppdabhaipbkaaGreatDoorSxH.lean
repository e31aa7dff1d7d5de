/- The symbolic evaluator, part H: structs that are built; all operations that turn nothing. -/
import Derived.Test.YtlppdabhaipbkaaGreatDoorSxG
set_option linter.unusedVariables false
set_option linter.unusedSimpArgs false
namespace Go.Sx
open Go.RowKit
section
variable {R:Type} {r:R} {P:Program} {C:Ctx} {B:Base} {E:Env} {fr:List SV} {hp:List HO} {a:Act} {w:World} {o:Oper} {k:SV→Option R}
theorem zhk {E:Env} {α:Type} {Rr:α→List Value→Prop} {ex:α→List SV} (h: ∀ x cs,Rr x cs→SV.satL E (ex x) cs) (d:α): ∀ {xs:List α} {cs:List Value},xp Rr xs cs→
  SV.satL E ((List.range xs.length).flatMap fun i=>ex (xs.getD i d)) cs
 | [],cs,hr=>by simp[xp] at hr;subst hr;simp[SV.satL]
 |x::xs,cs,⟨c,d',e,h1,h2⟩=>by
  rw[e,List.length_cons,List.range_succ_eq_map,List.flatMap_cons,List.flatMap_map]
  refine SV.satL_append (by simpa using h x c h1) ?_
  simpa using zhk h d h2
theorem jh {E:Env}: ∀ (t:Ty) (x:t.den) (cs:List Value),Rep E.M t x cs→SV.satL E (qU t x) cs
 | .pair a b,x,cs,⟨c,d,e,h1,h2⟩=>by
  rw[e]
  exact SV.satL_append (jh a x.1 c h1) (jh b x.2 d h2)
 | .unit,x,cs,h=>by simp[Rep] at h;subst h;simp[qU,SV.satL]
 | .st f,x,cs,h=>jh f x cs h
 | .arr n e,xs,cs,⟨h1,h2⟩=>by
  have:=zhk (fun x cs h=>jh e x cs h) e.dflt h2
  simp only[qU]
  rw[← h1]
  exact this
 | .int i,x,cs,h=>by
  have h':=h
  simp[Rep] at h'
  simp only[qU,SV.satL,SV.sat]
  exact⟨_,_,h',⟨cs,h,by rw[h'];rfl⟩,rfl⟩
 | .bool,x,cs,h=>by
  have h':=h
  simp[Rep] at h'
  simp only[qU,SV.satL,SV.sat]
  exact⟨_,_,h',⟨cs,h,by rw[h'];rfl⟩,rfl⟩
 | .str,x,cs,h=>by
  have h':=h
  simp[Rep] at h'
  simp only[qU,SV.satL,SV.sat]
  exact⟨_,_,h',⟨cs,h,by rw[h'];rfl⟩,rfl⟩
 | .flt,x,cs,h=>by
  have h':=h
  simp[Rep] at h'
  simp only[qU,SV.satL,SV.sat]
  exact⟨_,_,h',⟨cs,h,by rw[h'];rfl⟩,rfl⟩
 | .cplx,x,cs,h=>by
  have h':=h
  simp[Rep] at h'
  simp only[qU,SV.satL,SV.sat]
  exact⟨_,_,h',⟨cs,h,by rw[h'];rfl⟩,rfl⟩
 | .sl e,x,cs,h=>by
  obtain⟨ad,cap,h1,h2⟩:=id h
  simp only[qU,SV.satL,SV.sat]
  exact⟨_,_,h1,⟨cs,h,by rw[h1];rfl⟩,rfl⟩
 | .osl e,x,cs,h=>by
  obtain⟨ad,cap,h1,h2⟩:=id h
  simp only[qU,SV.satL,SV.sat]
  exact⟨_,_,h1,⟨cs,h,by rw[h1];rfl⟩,rfl⟩
theorem zdq {t:Ty} {cs:List Value} {M:Mem} {x:t.den} (h:Rep M t x cs) (hp:t.isAgg=false→t.size=1):(zG t cs).cells.toList=cs:=by
 unfold zG
 cases ha:t.isAgg with
 |true=>simp[Value.cells]
 |false=>
  have hl:=zc _ _ _ h
  have h1:=zH _ _ _ h
  obtain⟨v,rfl⟩: ∃ v,cs= [v]:=by
   match cs,(show cs.length=1 by have:=hp ha;omega) with
   | [v],_=>exact⟨v,rfl⟩
  have:=h1 v (by simp)
  cases v<;>simp_all [Value.cells,Value.oneCell']
theorem zc9 {s:SV} {v:Value} {k:List SV→Option R} (hs:s.sat E v) (h:s.cellsK k=some r): ∃ l,SV.satL E l v.cells.toList∧k l=some r:=by
 have one: ∀ {s:SV},s.sat E v→(∀ cs,v≠ .agg cs)→SV.satL E [s] v.cells.toList:=by
  intro s h1 h2
  simp only[SV.satL]
  exact⟨v, [],by cases v<;>first|rfl|exact absurd rfl (h2 _),h1,rfl⟩
 unfold SV.cellsK at h
 split at h
 case h_1 t x=>
  simp only[SV.sat] at hs
  obtain⟨cs,h1,h2⟩:=hs
  cases hag:(t.isAgg||Nat.beq t.size 1) with
  |false=>rw[hag] at h;cases h
  |true=>
   rw[hag] at h
   refine⟨_, ?_,h⟩
   rw[h2,zdq h1 (fun ha=>by rw[ha] at hag;exact Nat.eq_of_beq_eq_true (by simpa using hag))]
   exact jh t x cs h1
 case h_2 l=>
  simp only[SV.sat] at hs
  obtain⟨cs,h1,h2⟩:=hs
  exact⟨l,by rw[h1];simpa [Value.cells] using h2,h⟩
 case h_3=>cases h
 case h_4=>cases h
 case h_5=>cases h
 case h_6 h1 h2 h3 h4 h5=>
  refine⟨_,one hs (fun cs e=> ?_),h⟩
  cases s<;>simp only[SV.sat] at hs
  case und=>exact absurd rfl h3
  case skip=>exact absurd rfl h4
  case val t x=>exact absurd rfl (h1 t x)
  case agg l=>exact absurd rfl (h2 l)
  case tup l=>exact absurd rfl (h5 l)
  case bit=>rw[e] at hs;cases hs
  case nils=>rw[e] at hs;cases hs
  case ub p c=>obtain⟨_,hv,_⟩:=hs;rw[e] at hv;cases hv
  case nil0=>obtain⟨_,hv⟩:=hs;rw[e] at hv;cases hv
  case own=>obtain⟨_,_,_,hv⟩:=hs;rw[e] at hv;cases hv
  case nilp=>rw[e] at hs;cases hs
  case ptr=>obtain⟨_,_,_,_,hv⟩:=hs;rw[e] at hv;cases hv
  case elt=>obtain⟨_,_,_,_,_,hv⟩:=hs;rw[e] at hv;cases hv
  case vw=>obtain⟨_,_,_,_,_,hv,_⟩:=hs;rw[e] at hv;cases hv
  case mp=>obtain⟨_,_,_,_,hv⟩:=hs;rw[e] at hv;cases hv
  case ro=>obtain⟨_,_,_,hv,_⟩:=hs;rw[e] at hv;cases hv
  case fn=>obtain⟨_,hv,_⟩:=hs;rw[e] at hv;cases hv
theorem zj0 (off:Nat): ∀ (vs:List Value) (j:Nat) (cs:Array Value),off+j+vs.length≤cs.size→
  ((vs.zipIdx j).foldl (fun(cs:Array Value) (p:Value×Nat)=>cs.setIfInBounds (off+p.2) p.1) cs).toList=cs.toList.take (off+j)++(vs++cs.toList.drop (off+j+vs.length))
 | [],j,cs,_=>by simp
 |v::vs,j,cs,h=>by
  simp only[List.length_cons] at h
  rw[List.zipIdx_cons,List.foldl_cons,zj0 off vs (j+1) _ (by simp;omega)]
  apply List.ext_getElem?
  intro n
  simp only[Array.toList_setIfInBounds,List.length_cons]
  have hcl:cs.toList.length=cs.size:=by simp
  have ht1:(List.take (off+(j+1)) (cs.toList.set (off+j) v)).length=off+(j+1):=by simp;omega
  have ht2:(List.take (off+j) cs.toList).length=off+j:=by simp;omega
  by_cases h1:n<off+j
  ·rw[List.getElem?_append_left (by rw[ht1];omega),List.getElem?_append_left (l₁:=List.take (off+j) cs.toList) (by rw[ht2];omega)]
   rw[List.getElem?_take_of_lt (by omega),List.getElem?_take_of_lt (by omega),List.getElem?_set_ne (by omega)]
  ·by_cases h2:n=off+j
   ·subst h2
    rw[List.getElem?_append_left (by rw[ht1];omega),List.getElem?_append_right (l₁:=List.take (off+j) cs.toList) (by rw[ht2];omega),ht2]
    rw[List.getElem?_take_of_lt (by omega),List.getElem?_set_self (by rw[hcl];omega)]
    simp
   ·rw[List.getElem?_append_right (by rw[ht1];omega),ht1,List.getElem?_append_right (l₁:=List.take (off+j) cs.toList) (by rw[ht2];omega),ht2]
    rw[show n - (off+j)=(n - (off+(j+1)))+1 by omega,List.cons_append,List.getElem?_cons_succ]
    by_cases h3:n - (off+(j+1))<vs.length
    ·rw[List.getElem?_append_left h3,List.getElem?_append_left h3]
    ·rw[List.getElem?_append_right (by omega),List.getElem?_append_right (by omega)]
     rw[List.getElem?_drop,List.getElem?_drop,List.getElem?_set_ne (by omega)]
     congr 1
     omega
theorem zc0 (off:Nat) (vs:Array Value) (cs:Array Value) (h:off+vs.size≤cs.size):
  (vs.zipIdx.foldl (fun cs x=>match x with|(c,j)=>cs.setIfInBounds (off+j) c) cs).toList=cs.toList.take off++(vs.toList++cs.toList.drop (off+vs.size)):=by
 rw[← Array.foldl_toList,Array.toList_zipIdx]
 have:=zj0 off vs.toList 0 cs (by simpa using h)
 simpa using this
theorem ze3 {fs:List (TypeId×Nat×Nat×Bool)} {place:Nat→Option (Nat×Nat)} (hpl: ∀ (j:Nat) x,fs[j]? =some x→place j=some (x.2.1,x.2.2.1)):
  ∀ {ps:List (Nat×SV)} {vs:List (Nat×Value)} {cs:List SV} {zs:Array Value} {k:List SV→Option R},ps.map (·.1)=vs.map (·.1)→SV.satL E (ps.map (·.2)) (vs.map (·.2))→SV.satL E cs zs.toList→
   ze2 fs ps cs k=some r→ ∃ l zs',SV.satL E l zs'.toList∧k l=some r∧Instr.fill place zs vs=some zs'
 | [],vs,cs,zs,k,h1,h2,h3,h=>by
  have:vs= []:=by simpa using h1.symm
  subst this
  exact⟨cs,zs,h3,h,rfl⟩
 |(i,s)::ps,vs,cs,zs,k,h1,h2,h3,h=>by
  cases vs with
  |nil=>simp at h1
  |cons p vs=>
   obtain⟨i',v⟩:=p
   simp only[List.map_cons,List.cons.injEq] at h1 h2
   obtain⟨rfl,h1⟩:=h1
   simp only[SV.satL] at h2
   obtain⟨v',us,e,hs,h2⟩:=h2
   cases e
   unfold ze2 at h
   replace h:=ze h;obtain⟨⟨ft,off,size,agg⟩,hj,h⟩:=h
   simp only at h
   obtain⟨l',hl1,h⟩:=zc9 hs h
   cases hc:(Nat.beq l'.length size&&Nat.ble (off+size) cs.length) with
   |false=>rw[hc] at h;cases h
   |true=>
    rw[hc] at h
    simp only[Bool.and_eq_true] at hc
    have c1:=Nat.eq_of_beq_eq_true hc.1
    have c2:=Nat.le_of_ble_eq_true hc.2
    have l1:=SV.satL_length hl1
    have l2:=SV.satL_length h3
    simp only[Array.length_toList] at l1 l2
    have hpl':=hpl _ _ hj
    simp only at hpl'
    have hsz:(decide (v.cells.size≠size)||decide (off+v.cells.size > zs.size))=false:=by simp;omega
    have hset:=zc0 off v.cells zs (by omega)
    have h3':SV.satL E (cs.take off++(l'++cs.drop (off+size))) (v.cells.zipIdx.foldl (fun cs x=>match x with|(c,j)=>cs.setIfInBounds (off+j) c) zs).toList:=by
     rw[hset]
     have e1:SV.satL E (cs.take off) (zs.toList.take off):=by have:=qs h3 0 off;simpa using this
     have e2:SV.satL E (cs.drop (off+size)) (zs.toList.drop (off+v.cells.size)):=by
      have:=qs h3 (off+size) (cs.length)
      rw[List.take_of_length_le (by simp),List.take_of_length_le (by simp;omega)] at this
      rwa [show off+v.cells.size=off+size by omega]
     exact SV.satL_append e1 (SV.satL_append hl1 e2)
    obtain⟨l,zs',f1,f2,f3⟩:=ze3 hpl h1 h2 h3' h
    exact⟨l,zs',f1,f2,by simp only[Instr.fill,hpl',hsz];exact f3⟩
theorem zpz: ∀ (n off sz:Nat) {j:Nat} {x:TypeId×Nat×Nat×Bool},(zxg n off sz)[j]? =some x→x=(0,off+j*sz,sz,false)
 |0,_,_,_,_,h=>by simp[zxg] at h
 |n+1,off,sz,0,x,h=>by simp[zxg] at h;simp[← h]
 |n+1,off,sz,j+1,x,h=>by
  simp only[zxg,List.getElem?_cons_succ] at h
  rw[zpz n (off+sz) sz h,Nat.add_mul]
  congr 2;omega
theorem zq4 {α β:Type} {f:α→Sem β} {g:α→β} (w:World): ∀ (l:List α),(∀ x∈l,(f x).run P w= .ok (g x) w)→(l.mapM f).run P w= .ok (l.map g) w
 | [],_=>by simp
 |x::l,h=>by
  rw[List.mapM_cons]
  simp[h x (by simp),zq4 w l (fun y hy=>h y (by simp[hy]))]
theorem zoj {T:TypeId} {parts:Array (Nat×Operand)} (hC:C.ok P) (hf:SV.satL E fr a.tmps.toList) (hg:C.globsOk E.M) (ho:o.op= .build T parts)
  (h:(zq C.TT T fun i=>zb7 C fr parts.toList fun ps=>(match i.kind with
  | .struct fs=>ze2 fs ps i.zero fun l=>k (.agg l)
  | .array n T2=>zq C.TT T2 fun ei=>ze2 (zxg n 0 ei.size) ps i.zero fun l=>k (.agg l)
  |_=>none))=some r):xS P E a o w k r:=by
 replace h:=zd h;obtain⟨i,hi,h⟩:=h
 obtain⟨ps,p1,p2,h⟩:=zh8 hf hg h
 have hT:=hC.types _ _ hi
 split at h
 case h_3=>cases h
 case h_2 n T2 hk=>
  replace h:=zd h;obtain⟨ei,hE,h⟩:=h
  obtain⟨f,z,hf1,hf2,hf3,hf4,hf5,_⟩:=hT.info
  have u1:=hT.kind
  rw[hk] at u1
  simp only at u1
  obtain⟨ef,ez,he1,he2,_⟩:=(hC.types _ _ hE).info
  obtain⟨l,zs',f1,f2,f3⟩:=ze3 (E:=E) (place:=fun j=>some (j*ei.size,ei.size)) (fs:=zxg n 0 ei.size) (fun j x hj=>by
   have:=zpz n 0 ei.size hj
   rw[this];simp) (ps:=ps) (vs:=parts.toList.map fun p=>(p.1,a.eval p.2)) (by rw[p1];simp) (by simpa [Function.comp_def] using p2) (hf5 E) h
  refine⟨_,_,by simp only[SV.sat];exact⟨zs'.toList,rfl,f1⟩,f2,fun w' _=> ?_⟩
  have hz:(zeroValue T).run P w'= .ok z w':=by simp[zeroValue,qi hf1,hf4]
  simp only[execOp,ho,Instr.build,Sem.run_bind,hz,Result.andThen_ok,run_underlying u1,z4 he1,he2,Array.toList_map]
  rw[f3]
  simp
 case h_1 fs hk=>
  obtain⟨f,z,hf1,hf2,hf3,hf4,hf5,_⟩:=hT.info
  have hkk:=hT.kind
  rw[hk] at hkk
  simp only at hkk
  obtain⟨fds,u1,u2,u3⟩:=hkk
  have hpl: ∀ (w':World),(fds.mapM fun(f:Field)=>(do pure (f.offset, ← sizeOf f.type):Sem (Nat×Nat))).run P w'= .ok (fds.map fun(f:Field)=>(f.offset,P.cellsOf f.type)) w':=by
   intro w'
   have:=zq4 (P:=P) (f:=fun f:Field=>(do pure (f.offset, ← sizeOf f.type):Sem (Nat×Nat))) (g:=fun f=>(f.offset,P.cellsOf f.type)) w' fds.toList (fun x hx=>by
    obtain⟨j,hj,hjx⟩:=List.mem_iff_getElem.1 hx
    have hjl:j<fs.length:=by rw[← u2];simpa using hj
    obtain⟨f',fi,d,v1,v2,v3,v4,v5,_⟩:=u3 j _ (List.getElem?_eq_getElem hjl)
    have:f'=x:=by
     have hj':j<fds.size:=by simpa using hj
     rw[Array.getElem?_eq_getElem hj'] at v1
     rw[← hjx]
     simpa using v1.symm
    subst this
    simp[z4 v4,Program.cellsOf,v4])
   rw[Array.mapM_eq_mapM_toList,Sem.run_map,this]
   simp only[Result.andThen_ok]
   congr 1
   apply Array.ext'
   simp
  have hplace: ∀ (j:Nat) x,fs[j]? =some x→(fds.map fun(f:Field)=>(f.offset,P.cellsOf f.type))[j]? =some (x.2.1,x.2.2.1):=by
   intro j x hj
   obtain⟨f',fi,d,v1,v2,v3,v4,v5,_⟩:=u3 j x hj
   rw[Array.getElem?_map,v1]
   simp[v3,Program.cellsOf,v4,v5]
  obtain⟨l,zs',f1,f2,f3⟩:=ze3 (E:=E) (place:=fun j=>(fds.map fun(f:Field)=>(f.offset,P.cellsOf f.type))[j]?) hplace (ps:=ps) (vs:=parts.toList.map fun p=>(p.1,a.eval p.2)) (by rw[p1];simp) (by simpa [Function.comp_def] using p2) (hf5 E) h
  refine⟨_,_,by simp only[SV.sat];exact⟨zs'.toList,rfl,f1⟩,f2,fun w' _=> ?_⟩
  have hz:(zeroValue T).run P w'= .ok z w':=by simp[zeroValue,qi hf1,hf4]
  simp only[execOp,ho,Instr.build,Sem.run_bind,hz,Result.andThen_ok,run_underlying u1,hpl,Array.toList_map]
  rw[f3]
  simp
theorem za0 {b:Nat} {arr:Array MapEntry} {clock:Nat} (hb:w.heap[b]? =some (.map arr clock)):(getObj b).run P w= .ok (.map arr clock) w:=by
 simp[getObj,Sem.run,hb]
theorem zfi {Kt:TypeId} {kk:IntKind} (hd:P.underlying Kt=some (.int kk)) (n:Int) (e:Bool) (m:Nat):(Instr.checkKey e (m+1) Kt (.int kk n)).run P w= .ok () w:=by
 unfold Instr.checkKey
 simp[run_underlying hd]
theorem zdh {M:Mem} {kk:IntKind} {V:Ty} (n:Int): ∀ {es:List (Int×V.den)} {l:List MapEntry} (i:Nat),zst M (.int kk) V es l→
  (zef (K:= .int kk) es n=none∧Instr.findNow (.int kk) (.int kk n) l i=some none∧ ∀ (x':V.den) (v':Value) (cv:List Value) (c:Nat),Rep M V x' cv→v'=zG V cv→zst M (.int kk) V (zpd (K:= .int kk) es n x') (l++ [{ key:= .int kk n,val:=v',born:=c}]))∨
  ∃ (j:Nat) (x:V.den) (m:MapEntry) (cv:List Value),zef (K:= .int kk) es n=some x∧Instr.findNow (.int kk) (.int kk n) l i=some (some (i+j,m.val))∧l[j]? =some m∧Rep M V x cv∧m.val=zG V cv∧m.key= .int kk n∧
   ∀ (x':V.den) (v':Value) (cv:List Value),Rep M V x' cv→v'=zG V cv→zst M (.int kk) V (zpd (K:= .int kk) es n x') (l.set j { m with key:= .int kk n,val:=v'})
 | [],l,i,h=>by
  simp only[zst] at h
  subst h
  exact .inl ⟨rfl,rfl,fun x' v' cv c h1 h2=>⟨_, [],rfl,⟨_,rfl,rfl⟩,⟨cv,h1,h2⟩,rfl⟩⟩
 |(k,x)::es,l,i,h=>by
  obtain⟨m,ms,rfl,⟨ck,k1,k2⟩,⟨cv,v1,v2⟩,hr⟩:=h
  simp only[Rep] at k1
  have hk:m.key= .int kk k:=by rw[k2,k1];rfl
  by_cases hn:n=k
  ·subst hn
   right
   refine⟨0,x,m,cv,by simp[zef,Ty.eqb],by simp[Instr.findNow,Instr.sameNow,hk],rfl,v1,v2,hk,fun x' v' cv' h1 h2=> ?_⟩
   have:zpd (K:= .int kk) ((n,x)::es) n x'=(n,x')::es:=by simp[zpd,Ty.eqb]
   rw[this]
   exact⟨_,ms,rfl,⟨_,rfl,rfl⟩,⟨cv',h1,h2⟩,hr⟩
  ·have hb:(n==k)=false:=by rw[beq_eq_false_iff_ne];exact hn
   have e1:zef (K:= .int kk) ((k,x)::es) n=zef (K:= .int kk) es n:=by simp[zef,Ty.eqb,hb]
   have e2:Instr.findNow (.int kk) (.int kk n) (m::ms) i=Instr.findNow (.int kk) (.int kk n) ms (i+1):=by simp[Instr.findNow,Instr.sameNow,hk,hb]
   have e3: ∀ x',zpd (K:= .int kk) ((k,x)::es) n x'=(k,x)::zpd (K:= .int kk) es n x':=by intro x';simp[zpd,Ty.eqb,hb]
   rcases zdh n (i+1) hr with ⟨h1,h2,h3⟩|⟨j,y,m',cv',h1,h2,h3,h4,h5,h6,h7⟩
   ·refine .inl ⟨by rw[e1];exact h1,by rw[e2];exact h2,fun x' v' cv' c g1 g2=> ?_⟩
    rw[e3]
    exact⟨m,_,rfl,⟨_,rfl,hk⟩,⟨cv,v1,v2⟩,h3 x' v' cv' c g1 g2⟩
   ·refine .inr ⟨j+1,y,m',cv',by rw[e1];exact h1,by rw[e2,h2];congr 2;congr 1;omega,by simpa using h3,h4,h5,h6,fun x' v' cv2 g1 g2=> ?_⟩
    rw[e3]
    exact⟨m,_,rfl,⟨_,rfl,hk⟩,⟨cv,v1,v2⟩,h7 x' v' cv2 g1 g2⟩
theorem zle (hC:C.ok P) (hh:Hp B E hp w) {T:TypeId} {i:TI} (hi:(T,i)∈C.TT) {x y:SV} {vx vy:Value} {ok:Bool} (hx:x.sat E vx) (hy:y.sat E vy) (h:jF C i hp x y ok k=some r):
  ∃ v s,s.sat E v∧k s=some r∧ ∀ w',Below w.heap.size w w'→(Instr.lookup T vx vy ok).run P w'= .ok v w':=by
 have hT:=hC.types _ _ hi
 unfold jF at h
 split at h
 case h_2=>cases h
 case h_1 Kt Vt id t y hk=>
  replace h:=zd h;obtain⟨ki,hK,h⟩:=h
  replace h:=zd h;obtain⟨vi,hV,h⟩:=h
  replace h:=ze h;obtain⟨ob,h1,h⟩:=h
  split at h
  case h_2=>cases h
  case h_1 K V es=>
   cases hc:(decide (zo7 ki=some K)&&(decide (vi.ty=some V)&&(V.one&& !vi.kind.isAgg))) with
   |false=>rw[hc] at h;cases h
   |true=>
    rw[hc,cond_true] at h
    simp only[Bool.and_eq_true,decide_eq_true_eq,Bool.not_eq_true'] at hc
    obtain⟨c1,c2,c3,c4⟩:=hc
    replace h:=zB h;obtain⟨ht,h⟩:=h
    subst ht
    simp only at h
    unfold zo7 at c1
    split at c1
    case h_2=>cases c1
    case h_1 kk hkk=>
     simp only[Option.some.injEq] at c1
     subst c1
     have hKu:=(hC.types _ _ hK).kind
     rw[hkk] at hKu
     simp only at hKu
     have hTu:=hT.kind
     rw[hk] at hTu
     simp only at hTu
     obtain⟨f,z,f1,f2,f3,f4,f5,f6,f7,f8⟩:=(hC.types _ _ hV).info
     have hz:=f8 c4
     obtain⟨_,f9⟩:=f7 V c2
     simp only[SV.sat] at hx hy
     obtain⟨e,b,e1,e2,e3⟩:=hx
     have ey:=xm hy
     subst ey
     subst e3
     obtain⟨b',arr,clock,g1,g2,g3,_⟩:=hh.ob _ _ _ h1 e1
     rw[e2] at g1
     cases g1
     have hb:b<w.heap.size:=qb g2
     have hzv: ∀ w',(zeroValue Vt).run P w'= .ok z w':=fun w'=>by simp[zeroValue,qi f1,f4]
     have hzr: ∃ cs,Rep E.M V V.dflt cs∧z=zG V cs:=by
      refine⟨_,f9 E.M, ?_⟩
      rw[hz]
      simp[zG,Ty.one_not_agg c3]
     have fin: ∀ (v:Value) (o:Option V.den),(∃ cs,Rep E.M V (o.getD V.dflt) cs∧v=zG V cs)→o=zpb (.int kk) V es y→
       (∀ w',Below w.heap.size w w'→(Instr.lookup T (.map (some b)) (.int kk y) ok).run P w'= .ok (if ok then .tuple #[v, .bool o.isSome] else v) w')→
       ∃ v s,s.sat E v∧k s=some r∧ ∀ w',Below w.heap.size w w'→(Instr.lookup T (.map (some b)) (.int kk y) ok).run P w'= .ok v w':=by
      intro v o hv ho hrun
      cases ok with
      |true=>
       simp only[cond_true] at h
       refine⟨_,_, ?_,h,hrun⟩
       rw[← ho]
       simp only[if_true,SV.sat]
       refine⟨[v, .bool o.isSome],rfl, ?_⟩
       simp only[SV.satL,SV.sat]
       exact⟨v, [.bool o.isSome],rfl,hv,_, [],rfl,⟨[.bool o.isSome],rfl,rfl⟩,rfl⟩
      |false=>
       simp only[cond_false] at h
       refine⟨_,_, ?_,h,hrun⟩
       rw[← ho]
       simp only[Bool.false_eq_true,if_false,SV.sat]
       exact hv
     rcases zdh (n:=y) 0 g3 with ⟨q1,q2,_⟩|⟨j,x,m,cv,q1,q2,q3,q4,q5,q6,_⟩
     ·refine fin z none hzr q1.symm fun w' hw=> ?_
      have hb':w'.heap[b]? =some (.map arr clock):=by rw[hw.block b hb];exact g2
      have hck:=zfi (P:=P) (w:=w') hKu y arr.isEmpty 9999
      cases ok<;>simp[Instr.lookup,run_underlying hTu,za0 hb',hck,Instr.findKey,run_underlying hKu,q2,hzv]
     ·refine fin m.val (some x) ⟨cv,q4,q5⟩ q1.symm fun w' hw=> ?_
      have hb':w'.heap[b]? =some (.map arr clock):=by rw[hw.block b hb];exact g2
      have hck:=zfi (P:=P) (w:=w') hKu y arr.isEmpty 9999
      cases ok<;>simp[Instr.lookup,run_underlying hTu,za0 hb',hck,Instr.findKey,run_underlying hKu,q2]
theorem znn {T:TypeId} {x y:Operand} {ok:Bool} (hC:C.ok P) (hh:Hp B E hp w) (hf:SV.satL E fr a.tmps.toList) (hg:C.globsOk E.M) (ho:o.op= .lookup T x y ok)
  (h:(zq C.TT T fun i=>opd C fr x fun x=>opd C fr y fun y=>jF C i hp x y ok k)=some r):xS P E a o w k r:=by
 replace h:=zd h;obtain⟨i,hi,h⟩:=h
 replace h:=zh hf hg h;obtain⟨sx,x1,h⟩:=h
 replace h:=zh hf hg h;obtain⟨sy,y1,h⟩:=h
 obtain⟨v,s,h1,h2,h3⟩:=zle hC hh hi x1 y1 h
 exact⟨v,s,h1,h2,fun w' hw=>by simp[execOp,ho,h3 w' hw]⟩
theorem zkx {b:Builtin} {args:Array Operand} {argTypes:Array TypeId} (hC:C.ok P) (hh:Hp B E hp w) (hf:SV.satL E fr a.tmps.toList) (hg:C.globsOk E.M)
  (h:(match b,args.toList,argTypes.toList with
  | .len, [x], [T]=>zq C.TT T fun i=>opd C fr x fun x=>zm6 i hp x k
  | .min,x::l,_=>opd C fr x fun x=>zob C fr l fun l=>zam zgn x l k
  | .max,x::l,_=>opd C fr x fun x=>zob C fr l fun l=>zam zlr x l k
  | .real, [x],_=>opd C fr x fun x=>(match x with
   | .val .cplx z=>k (.val .flt z.1)
   |_=>none)
  | .imag, [x],_=>opd C fr x fun x=>(match x with
   | .val .cplx z=>k (.val .flt z.2)
   |_=>none)
  | .complex, [x,y],_=>opd C fr x fun x=>opd C fr y fun y=>(match x,y with
   | .val .flt a, .val .flt b=>k (.val .cplx (a,b))
   |_,_=>none)
  |_,_,_=>none)=some r):o.op= .call { callee:= .builtin b,args,argTypes}→xS P E a o w k r:=by
 have hargs:(args.map a.eval).toList=args.toList.map a.eval:=by simp
 split at h
 case h_1 x T e1 e2=>
  intro ho
  replace h:=zd h;obtain⟨i,hi,h⟩:=h
  replace h:=zh hf hg h;obtain⟨s,s1,h⟩:=h
  obtain⟨v,s',h1,h2,h3⟩:=zrw hC hh hi s1 h
  refine⟨v,s',h1,h2,fun w' _=> ?_⟩
  have ea:args= #[x]:=by apply Array.ext';simpa using e1
  have et:argTypes= #[T]:=by apply Array.ext';simpa using e2
  subst ea;subst et
  simp[execOp,ho,resolve,invoke,builtin,h3]
 case h_2=>
  rename_i x l _ e1
  intro ho
  replace h:=zh hf hg h;obtain⟨s,s1,h⟩:=h
  replace h:=j6 hf hg h;obtain⟨l',l1,h⟩:=h
  obtain⟨v,s',h1,h2,h3⟩:=ze0 (E:=E) (P:=P) (g:=Builtin.min2) (fun i j x y w=>by simp[Builtin.min2,zgn]) s1 l1 h
  refine⟨v,s',h1,h2,fun w' _=> ?_⟩
  simp only[execOp,ho,resolve,invoke,builtin,Sem.run_bind,Sem.run_pure,Result.andThen_ok,Builtin.min_,hargs,e1,List.map_cons,h3]
 case h_3=>
  rename_i x l _ e1
  intro ho
  replace h:=zh hf hg h;obtain⟨s,s1,h⟩:=h
  replace h:=j6 hf hg h;obtain⟨l',l1,h⟩:=h
  obtain⟨v,s',h1,h2,h3⟩:=ze0 (E:=E) (P:=P) (g:=Builtin.max2) (fun i j x y w=>by simp[Builtin.max2,zlr]) s1 l1 h
  refine⟨v,s',h1,h2,fun w' _=> ?_⟩
  simp only[execOp,ho,resolve,invoke,builtin,Sem.run_bind,Sem.run_pure,Result.andThen_ok,Builtin.max_,hargs,e1,List.map_cons,h3]
 case h_4=>
  rename_i x e1
  intro ho
  replace h:=zh hf hg h;obtain⟨s,s1,h⟩:=h
  split at h
  case h_2=>cases h
  case h_1 z=>
   simp only[SV.sat] at s1
   have ea:args= #[x]:=by apply Array.ext';simpa using e1
   subst ea
   refine⟨_,_,zpl _,h,fun w' _=> ?_⟩
   have e: ∀ ts t,Builtin.real_ ts t #[.complex .f64 z.1 z.2]=pure (.float .f64 z.1):=fun _ _=>rfl
   simp[execOp,ho,resolve,invoke,builtin,e,zgr s1]
 case h_5=>
  rename_i x e1
  intro ho
  replace h:=zh hf hg h;obtain⟨s,s1,h⟩:=h
  split at h
  case h_2=>cases h
  case h_1 z=>
   simp only[SV.sat] at s1
   have ea:args= #[x]:=by apply Array.ext';simpa using e1
   subst ea
   refine⟨_,_,zpl _,h,fun w' _=> ?_⟩
   have e: ∀ ts t,Builtin.imag_ ts t #[.complex .f64 z.1 z.2]=pure (.float .f64 z.2):=fun _ _=>rfl
   simp[execOp,ho,resolve,invoke,builtin,e,zgr s1]
 case h_6=>
  rename_i x y e1
  intro ho
  replace h:=zh hf hg h;obtain⟨s,s1,h⟩:=h
  replace h:=zh hf hg h;obtain⟨s',s2,h⟩:=h
  split at h
  case h_2=>cases h
  case h_1 n m=>
   simp only[SV.sat] at s1 s2
   have ea:args= #[x,y]:=by apply Array.ext';simpa using e1
   subst ea
   refine⟨_,_,zq5 _,h,fun w' _=> ?_⟩
   have e: ∀ ts t,Builtin.complex_ ts t #[.float .f64 n, .float .f64 m]=pure (.complex .f64 n m):=fun _ _=>rfl
   simp[execOp,ho,resolve,invoke,builtin,e,zl2 s1,zl2 s2]
 case h_7=>cases h
theorem xb (hC:C.ok P) (hh:Hp B E hp w) (hf:SV.satL E fr a.tmps.toList) (hg:C.globsOk E.M) (h:jZ C fr hp o.op k=some r):xS P E a o w k r:=by
 unfold jZ at h
 split at h
 case h_1 x ho=>exact zj8 hf hg (.inl ho) h
 case h_2 x ho=>exact zj8 hf hg (.inr ho) h
 case h_3 c x y ho=>exact zsf hf hg ho h
 case h_4 T x ho=>exact zr6 hC hh hf hg ho h
 case h_5 x ho=>exact zum hf hg ho h
 case h_6 op T x y T' ho=>exact zs7 hC hh hf hg ho h
 case h_7 op T x ho=>exact zxd hf hg ho h
 case h_8 src dst x ho=>exact zrm hC hf hg ho h
 case h_9 T x lo hi mx ho=>exact zpn hC hh hf hg ho h
 case h_10 T x f ho=>exact zhn hC hf hg ho h
 case h_11 T x f ho=>exact zo2 hC hf hg ho h
 case h_12 T x n ho=>exact zhv hC hh hf hg ho h
 case h_13 T x n ho=>exact zo3 hC hf hg ho h
 case h_14 T x y ok ho=>exact znn hC hh hf hg ho h
 case h_15 x n ho=>
  replace h:=zh hf hg h;obtain⟨s,s1,h⟩:=h
  split at h
  case h_2=>cases h
  case h_1 l=>
   replace h:=ze h;obtain⟨s',h1,h⟩:=h
   simp only[SV.sat] at s1
   obtain⟨cs,e1,e2⟩:=s1
   obtain⟨v,h2,h3⟩:=SV.satL_get n e2 h1
   exact⟨v,s',h3,h,fun w' _=>by simp[execOp,ho,Instr.extract,e1,h2]⟩
 case h_16 T parts ho=>exact zoj hC hf hg ho h
 case h_17 b args argTypes ho=>exact zkx hC hh hf hg h ho
 case h_18 f first captured ho=>
  split at h
  case h_2=>cases h
  case h_1 e1=>
   replace h:=j6 hf hg h;obtain⟨l,l1,h⟩:=h
   have ef:first= #[]:=by apply Array.ext';simpa using e1
   subst ef
   refine⟨_,_,by simp only[SV.sat];exact⟨_,rfl,l1⟩,h,fun w' _=> ?_⟩
   have hcap:Array.map a.eval captured=(List.map a.eval captured.toList).toArray:=by apply Array.ext';simp
   simp only[execOp,ho,Instr.makeFunc,hcap]
   simp
 case h_19=>cases h
end
end Go.Sx
