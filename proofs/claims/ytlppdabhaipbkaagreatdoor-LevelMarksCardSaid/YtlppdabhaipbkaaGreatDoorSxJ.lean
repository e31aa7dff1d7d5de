/- The symbolic evaluator, part J: the operations that make memory, or write it. -/
import Derived.Test.YtlppdabhaipbkaaGreatDoorSxI
set_option linter.unusedVariables false
set_option linter.unusedSimpArgs false
namespace Go.Sx
open Go.RowKit
section
variable {R:Type} {r:R} {P:Program} {C:Ctx} {B:Base} {E:Env} {fr:List SV} {hp:List HO} {a:Act} {w w':World} {o:Oper} {k:SV→List HO→Option R}
def zf2 (P:Program) (B:Base) (E:Env) (a:Act) (o:Oper) (w:World) (k:SV→List HO→Option R) (r:R):Prop:=
 ∃ E' hp' s v w',E.le E'∧Hp B E' hp' w'∧s.sat E' v∧k s hp'=some r∧
  ((execOp a.eval o).run P w= .ok (.value v) w'∨((execOp a.eval o).run P w= .ok .skip w'∧v=undef))
theorem xv {ei:TI} {t:Ty} (h:qG ei t=true):ei.size=t.size∧1≤ei.size∧1≤ei.bytes∧(t.isAgg=false→t.size=1):=by
 simp only[qG,Bool.and_eq_true,Bool.or_eq_true] at h
 exact⟨Nat.eq_of_beq_eq_true h.1,Nat.le_of_ble_eq_true h.2.1,Nat.le_of_ble_eq_true h.2.2.1,fun ha=>Nat.eq_of_beq_eq_true (h.2.2.2.resolve_left (by simp[ha]))⟩
theorem zke (hh:Hp B E hp w) {l:List SV} {c:Array Value} {T:TypeId} (hl:SV.satL E l c.toList):
  Hp B (E.snoc ⟨some w.heap.size,0,0,none⟩) (hp++ [.cells l]) (w.alloc (.cells c T))∧SV.sat (E.snoc ⟨some w.heap.size,0,0,none⟩) (.ptr hp.length 0) (.pointer (some ⟨w.heap.size,0,none⟩)):=by
 refine⟨hh.push (T:=none) (e':=⟨some w.heap.size,0,0,none⟩) (World.grownBy_alloc w _ none) (fun b hb=>by cases hb) (fun b hb=> .inl (by cases hb;exact Nat.le_refl _)) ?_ ⟨trivial,rfl⟩, ?_⟩
 ·exact⟨w.heap.size,c,T,rfl,heap_alloc_new w _,SV.satL_mono (Env.le_snoc E _) l _ hl⟩
 ·simp only[SV.sat]
  refine⟨⟨some w.heap.size,0,0,none⟩,w.heap.size, ?_,rfl,rfl⟩
  show(E.L++ [_])[hp.length]? =_
  rw[← hh.len];simp
theorem zog {T:TypeId} (hC:C.ok P) (hh:Hp B E hp w) (ho:o.op= .alloc T) (h:(zq C.TT T fun i=>jr hp (.cells i.zero) fun hp'=>k (.ptr hp.length 0) hp')=some r):zf2 P B E a o w k r:=by
 replace h:=zd h;obtain⟨i,hi,h⟩:=h
 rw[z2] at h
 obtain⟨f,z,h1,h2,h3,h4,h5,_⟩:=(hC.types _ _ hi).info
 obtain⟨p1,p2⟩:=zke hh (T:=T) (h5 E)
 refine⟨_,_,_,_,_,Env.le_snoc E _,p1,p2,h, .inl ?_⟩
 simp[execOp,ho,Instr.alloc,zeroValue,qi h1,h4,newVar,newRow]
theorem zta {T:TypeId} {x:Operand} (hh:Hp B E hp w) (hf:SV.satL E fr a.tmps.toList) (hg:C.globsOk E.M) (ho:o.op= .box T x)
  (h:(opd C fr x fun s=>s.cellsK fun l=>jr hp (.cells l) fun hp'=>k (.ptr hp.length 0) hp')=some r):zf2 P B E a o w k r:=by
 replace h:=zh hf hg h;obtain⟨s,s1,h⟩:=h
 obtain⟨l,l1,h⟩:=zc9 s1 h
 rw[z2] at h
 obtain⟨p1,p2⟩:=zke hh (T:=T) l1
 refine⟨_,_,_,_,_,Env.le_snoc E _,p1,p2,h, .inl ?_⟩
 simp[execOp,ho,Instr.box,newVar,newRow]
theorem xB {α:Type} {f:α→List Value→List Nat} {n:Nat} {xs:List α} {d post:List Value} (h:d.length=xs.length*n):tailsN f n xs (d++post)=tailsN f n xs d:=by
 have:=zP (f:=f) (ys:= []) (ds:=post) h
 simpa [tailsN] using this
theorem jA {α:Type} {f:α→List Value→Prop} {n:Nat} {xs:List α} {d post:List Value} (h:d.length=xs.length*n):TokN f n xs (d++post)↔TokN f n xs d:=by
 have:=qj (f:=f) (ys:= []) (ds:=post) h
 simpa [TokN] using this
structure OwnsL (B:Base) (E:Env) (hp:List HO) (w:World) (t:Ty) (xs:List t.den) (d:List Value):Prop where
 tok:TokN (TokT E.M w t) t.size xs d
 free:FreeT B E hp w (tailsN (tailsT t) t.size xs d)
theorem OwnsL.plain {t:Ty} (hno:t.noOwn=true) (xs:List t.den) (d:List Value):OwnsL B E hp w t xs d:=
 ⟨zgb (fun x cs=>xt t x cs hno) _ _ _,by rw[zct (fun x cs=>qB t x cs hno)];exact FreeT.nil⟩
theorem OwnsL.zeros {t:Ty} (n:Nat) (d:List Value):OwnsL B E hp w t (List.replicate n t.dflt) d:=
 ⟨zgc (jP t) _ _,by rw[zae (qX t)];exact FreeT.nil⟩
theorem OwnsL.lift {t:Ty} (xs:List t.er.den) (d:List Value):OwnsL B E hp w t (xs.map t.lift) d:=
 ⟨zdt (jQ t) _ _,by rw[x7 (qY t)];exact FreeT.nil⟩
theorem OwnsL.drop {t:Ty} {xs:List t.den} {d:List Value} (h:OwnsL B E hp w t xs d) (j:Nat):OwnsL B E (hp.set j .gone) w t xs d:=⟨h.tok,h.free.drop j⟩
theorem OwnsL.app {t:Ty} {xs ys:List t.den} {c d:List Value} (hl:c.length=xs.length*t.size) (h:OwnsL B E hp w t xs c) (k:OwnsL B E hp w t ys d) (ha: ∀ b∈tailsN (tailsT t) t.size xs c,b∉tailsN (tailsT t) t.size ys d):OwnsL B E hp w t (xs++ys) (c++d):=
 ⟨(qj hl).2 ⟨h.tok,k.tok⟩,by rw[zP hl];exact h.free.app k.free ha⟩
theorem zny (hh:Hp B E hp w) {Tb:Option Nat} (hg:w.grownBy w' Tb) (hT: ∀ b,Tb=some b→MayTurn B E hp b) {T:TypeId} {t:Ty} {xs:List t.den} {b cap:Nat} {c:Array Value} {d post:List Value} (hb:w.heap.size≤b∨Tb=some b)
  (hc:w'.heap[b]? =some (.cells c T (0,0))) (h1:c.toList=d++post) (h2:xp (Rep E.M t) xs d) (h3:c.size=cap*t.size) (h4:xs.length≤cap) (h5:cap≤maxLen) (ho:OwnsL B E hp w t xs d):
  Hp B (E.snoc ⟨some b,xs.length,cap,none⟩) (hp++ [.arr T t xs]) w'∧SV.sat (E.snoc ⟨some b,xs.length,cap,none⟩) (.own hp.length none) (.slice (some ⟨b,0,none⟩) xs.length cap):=by
 have hdl:=zF (zc t) h2
 refine⟨hh.pushO (T:=Tb) (e':=⟨some b,xs.length,cap,none⟩) hg hT (fun b' hb'=>by cases hb';exact hb) ?_ ⟨?_, ?_⟩, ?_⟩
 ·refine⟨rfl,h4,h5,(fun hb'=>by cases hb'),fun b' hb'=> ?_⟩
  cases hb'
  exact⟨c,d,post,hc,h1,h2,h3⟩
 ·intro b' c' U f hb' hc'
  cases hb'
  rw[hc] at hc'
  cases hc'
  rw[h1,jA hdl]
  refine x9 (g:=tailsT t) (P:=zbk E.M E.M w w') (fun x cs hb h=>qK (Mem.le_refl _) t x cs hb h) (fun x hx=>⟨?_,rfl⟩) ho.tok
  have hm:=(ho.free.2 x hx).1.1
  have hlt:x<w.heap.size:=by
   cases hmx:E.M x with
   |none=>exact absurd hmx hm
   |some cx=>exact Mem.agrees_lt hh.ag hmx
  exact hg.block x hlt (fun e=>hm (hT x e.symm).mem)
 ·simp only[HO.tails,hc,h1,xB hdl]
  exact ho.free
 ·simp only[SV.sat]
  refine⟨⟨some b,xs.length,cap,none⟩, ?_, ?_,rfl⟩
  ·show(E.L++ [_])[hp.length]? =_
   rw[← hh.len];simp
  ·simp
theorem zgp (hh:Hp B E hp w) (w0:World) (hw:w0.heap=w.heap∧w0.os=w.os∧w0.tape=w.tape∧w0.output=w.output) {T:TypeId} {t:Ty} {xs:List t.den} {c:Array Value} {d post:List Value} {cap:Nat} (h1:c.toList=d++post) (h2:xp (Rep E.M t) xs d) (h3:c.size=cap*t.size) (h4:xs.length≤cap) (h5:cap≤maxLen) (ho:OwnsL B E hp w t xs d):
  Hp B (E.snoc ⟨some w.heap.size,xs.length,cap,none⟩) (hp++ [.arr T t xs]) (w0.alloc (.cells c T))∧
   SV.sat (E.snoc ⟨some w.heap.size,xs.length,cap,none⟩) (.own hp.length none) (.slice (some ⟨w.heap.size,0,none⟩) xs.length cap):=by
 have hg:w.grownBy (w0.alloc (.cells c T)) none:=by
  refine⟨hw.2.1,hw.2.2.1,hw.2.2.2, ?_,fun k hk _=> ?_⟩
  ·simp[hw.1]
  ·show(w0.heap.push (.cells c T))[k]? =_
   rw[hw.1,Array.getElem?_push,if_neg (Nat.ne_of_lt hk)]
 refine zny hh hg (fun b hb=>by cases hb) (.inl (Nat.le_refl _)) ?_ h1 h2 h3 h4 h5 ho
 have:=heap_alloc_new w0 (.cells c T)
 rwa [hw.1] at this
theorem zb8 {M:Mem} {t:Ty} {z:List Value} (h:Rep M t t.dflt z): ∀ n,xp (Rep M t) (List.replicate n t.dflt) (List.replicate n z).flatten
 |0=>by simp[xp]
 |n+1=>by
  rw[List.replicate_succ,List.replicate_succ,List.flatten_cons]
  exact⟨z,_,rfl,h,zb8 h n⟩
theorem xI (z:List Value) (hz:0<z.length): ∀ (n i:Nat),i<n*z.length→(List.replicate n z).flatten[i]? =z[i % z.length]?
 |0,i,h=>by simp at h
 |n+1,i,h=>by
  rw[List.replicate_succ,List.flatten_cons]
  rw[Nat.add_mul] at h
  by_cases hi:i<z.length
  ·rw[List.getElem?_append_left hi,Nat.mod_eq_of_lt hi]
  ·rw[List.getElem?_append_right (by omega),xI z hz n (i - z.length) (by omega)]
   rw[Nat.mod_eq_sub_mod (a:=i) (by omega)]
theorem zfl (z:Array Value) (n:Nat) (hz:0<z.size):((Array.range (n*z.size)).map (z[· % z.size]!)).toList=(List.replicate n z.toList).flatten:=by
 apply List.ext_getElem?
 intro i
 rw[Array.toList_map,Array.toList_range]
 by_cases hi:i<n*z.size
 ·rw[xI z.toList (by simpa using hz) n i (by simpa using hi)]
  have hm:=Nat.mod_lt i hz
  simp[hi,getElem!_pos z (i % z.size) hm]
 ·rw[List.getElem?_eq_none (by simp;omega),List.getElem?_eq_none]
  have: ∀ m,(List.replicate m z.toList).flatten.length=m*z.size:=by
   intro m
   simp
  rw[this];omega
theorem zr7 {T:TypeId} {l c:Operand} (hC:C.ok P) (hh:Hp B E hp w) (hf:SV.satL E fr a.tmps.toList) (hg:C.globsOk E.M) (ho:o.op= .makeSlice T l c)
  (h:(zq C.TT T fun i=>(match i.kind with
  | .slice E=>zq C.TT E fun ei=>(match C.el E ei with
   |some t=>bif qG ei t then(opd C fr l fun l=>asI l fun l=>opd C fr c fun c=>asI c fun c=>
     if 0≤l∧l≤c∧zj c.toNat ei.bytes then jr hp (.arr E t (List.replicate l.toNat t.dflt)) fun hp'=>k (.own hp.length none) hp' else none) else none
   |none=>none)
  |_=>none))=some r):zf2 P B E a o w k r:=by
 replace h:=zd h;obtain⟨i,hi,h⟩:=h
 split at h
 case h_2=>cases h
 case h_1 S hk=>
  replace h:=zd h;obtain⟨ei,hS,h⟩:=h
  have hu:=(hC.types _ _ hi).slice hk
  split at h
  case h_2=>cases h
  case h_1 t ht=>
   cases hc0:qG ei t with
   |false=>rw[hc0] at h;cases h
   |true=>
    rw[hc0] at h
    obtain⟨hs1,hs2,hs3,_⟩:=xv hc0
    simp only[cond_true] at h
    replace h:=zh hf hg h;obtain⟨sl,l1,h⟩:=h
    replace h:=ql l1 h;obtain⟨jl,ln,el,h⟩:=h
    replace h:=zh hf hg h;obtain⟨sc,c1,h⟩:=h
    replace h:=ql c1 h;obtain⟨jc,cn,ec,h⟩:=h
    replace h:=zy h;obtain⟨⟨h0,hlc,hroom⟩,h⟩:=h
    rw[z2] at h
    obtain⟨f,z,f1,f2,f3,f4,f6,_,f9⟩:=Ctx.el_ok (hC.types _ _ hS) ht
    have hrm:cn.toNat*ei.bytes≤140737488355328:=hroom
    have hb:(f.bytes:Int)*cn≤281474976710656:=by
     have:((cn.toNat*ei.bytes:Nat):Int)≤((140737488355328:Nat):Int):=Int.ofNat_le.2 hrm
     rw[Int.natCast_mul,Int.toNat_of_nonneg (by omega)] at this
     rw[f3,Int.mul_comm];omega
    have h63:cn≤9223372036854775807:=by
     have:cn.toNat*1≤cn.toNat*ei.bytes:=Nat.mul_le_mul_left _ hs3
     omega
    have hrun:=run_make (P:=P) w T S f z hu f1 f4 jl jc ln cn h0 hlc hb h63
    have hzc:(madeCells z.cells (cn.toNat*f.size)).toList=(List.replicate cn.toNat z.cells.toList).flatten:=by
     have:=zfl z.cells cn.toNat (by omega)
     rw[f6] at this
     unfold madeCells
     rw[f2,f6]
     exact this
    have hsplit:List.replicate cn.toNat z.cells.toList=List.replicate ln.toNat z.cells.toList++List.replicate (cn.toNat - ln.toNat) z.cells.toList:=by
     rw[List.replicate_append_replicate];congr 1;omega
    obtain⟨p1,p2⟩:=zgp hh w ⟨rfl,rfl,rfl,rfl⟩ (T:=S) (t:=t) (xs:=List.replicate ln.toNat t.dflt) (c:=madeCells z.cells (cn.toNat*f.size)) (cap:=cn.toNat)
     (by rw[hzc,hsplit,List.flatten_append]) (zb8 (f9 E.M) ln.toNat) (by rw[size_madeCells,f2,hs1]) (by simp;omega) (by simp only[maxLen];omega) (OwnsL.zeros _ _)
    rw[List.length_replicate] at p2
    refine⟨_,_,_,_,_,Env.le_snoc E _,p1,by rw[List.length_replicate];exact p2,h, .inl ?_⟩
    simp[execOp,ho,el,ec,hrun]
structure SrcOk (P:Program) (size:Nat) (x:Value) (m:Nat) (news:List Value) (w:World):Prop where
 len: ∀ w',(Builtin.lenOf x).run P w'= .ok m w'
 cells: ∀ w':World,w'.heap=w.heap→(Builtin.firstCells size m x).run P w'= .ok news.toArray w'
 one: ∀ u∈news,u.oneCell'=true
 size:news.length=m*size
theorem zu {size m cap:Nat} {ad:Option Addr} {news:List Value} (hl:news.length=m*size) (h1: ∀ u∈news,u.oneCell'=true)
  (h:news= []∨ ∃ b off,ad=some ⟨b,off,none⟩∧ ∀ (j:Nat) (u:Value),news[j]? =some u→w.cell? ⟨b,off+j,none⟩=some u):SrcOk P size (.slice ad m cap) m news w where
 len:=fun w'=>by simp[Builtin.lenOf]
 cells:=fun w' hw=>by
  cases ad with
  |none=>
   rcases h with h|⟨b,off,h,_⟩
   ·subst h;simp[Builtin.firstCells]
   ·cases h
  |some x=>
   rcases h with h|⟨b,off,h,hc⟩
   ·subst h
    have h0:m*size=0:=by simpa using hl.symm
    simp[Builtin.firstCells,h0,loadCells,loadCellsFrom]
   ·cases h
    refine run_firstCells_some (P:=P) w' size m _ m cap news hl (fun j v hj=> ?_)
    rw[Addr.add_lit]
    have:=hc j v hj
    simpa [World.cell?,hw] using this
 one:=h1
 size:=hl
theorem zca {ad:Option Addr} {t ty e:TypeId} {i:TypeInfo} (ht:P.underlying t=some (.slice e)) (hi:P.info? e=some i) {x:Value} {news:List Value} (hx:SrcOk P i.size x 0 news w):
  (Builtin.append_ #[t,t] ty #[.slice ad 0 0,x]).run P w= .ok (.slice ad 0 0) w:=by
 have h0:news= []:=List.eq_nil_of_length_eq_zero (by simpa using hx.size)
 subst h0
 cases ad<;>simp[Builtin.append_,run_underlying ht,z4 hi,hx.len,hx.cells w rfl,storeCells]
theorem zem {t ty e:TypeId} {i:TypeInfo} (ht:P.underlying t=some (.slice e)) (hi:P.info? e=some i) {g n cap m:Nat} {cur:Array Value} {T:TypeId} (hg:w.heap[g]? =some (.cells cur T (0,0)))
  {x:Value} {news:List Value} (hx:SrcOk P i.size x m news w) (hroom:n+m≤cap) (hfit:n*i.size+news.length≤cur.size):
  (Builtin.append_ #[t,t] ty #[.slice (some ⟨g,0,none⟩) n cap,x]).run P w= .ok (.slice (some ⟨g,0,none⟩) (n+m) cap) (w.setRow g (cur.toList.take (n*i.size)++news++cur.toList.drop (n*i.size+news.length)).toArray):=by
 have hst:=run_storeCells_at P g (n*i.size) T news 0 cur w hg (by simpa using hfit) hx.one
 simp only[Nat.add_zero] at hst
 simp[Builtin.append_,run_underlying ht,z4 hi,hx.len,hroom,hx.cells w rfl,Addr.add_lit,hst]
theorem zc5 {t ty e:TypeId} {i:TypeInfo} {z:Value} (ht:P.underlying t=some (.slice e)) (hi:P.info? e=some i) (hz:i.zero=some z) {base:Option Addr} {n cap m:Nat} {olds:List Value}
  (hb:SrcOk P i.size (.slice base n cap) n olds w) {x:Value} {news:List Value} (hx:SrcOk P i.size x m news w) (hroom:cap<n+m) (h63:n+m≤9223372036854775807) (hfit:Builtin.nextslicecap (n+m) cap*i.bytes≤281474976710656):
  (Builtin.append_ #[t,t] ty #[.slice base n cap,x]).run P w=
   .ok (.slice (some ⟨w.heap.size,0,none⟩) (n+m) (grownCap w (n+m) cap e)) (w.drew.alloc (.cells (olds.toArray++news.toArray++Builtin.zeroCells z.cells (grownCap w (n+m) cap e - (n+m))) e)):=by
 have hn: ¬ (n+m≤cap):=by omega
 have h63': ¬ ((9223372036854775807:Int)<(n:Int)+(m:Int)):=by omega
 have h48': ¬ (281474976710656<Builtin.nextslicecap (n+m) cap*i.bytes):=by omega
 have hf:=hx.cells w.drew rfl
 have hfo:=hb.cells w.drew rfl
 simp[Builtin.append_,run_underlying ht,z4 hi,qi hi,zeroValue,hz,hx.len,hn,h63',h48',Question.forced,hf,hfo,newRow,grownCap]
 congr 2
 apply Array.ext'
 simp[List.append_assoc]
theorem zis (hh:Hp B E hp w) {t:Ty} {s:SV} {v:Value} {k:List t.den→Option R} (hs:s.sat E v) (h:zsx t s hp k=some r):
  ∃ xs news,xp (Rep E.M t) xs news∧k xs=some r∧SrcOk P t.size v xs.length news w:=by
 unfold zsx at h
 split at h
 case h_1 e xs=>
  split at h
  case isFalse=>cases h
  case isTrue he=>
   subst he
   simp only[SV.sat] at hs
   obtain⟨ad,cap,e1,e2,e3⟩:=zaa hs
   subst e1
   rcases e3 with e3|⟨b,off,d,e3,e4,e5⟩
   ·subst e3
    exact⟨[], [],rfl,h,zu (by simp) (by simp) (.inl rfl)⟩
   ·exact⟨xs,d,e5,h,zu (zF (zc e) e5) (xD (zH e) e5) (.inr ⟨b,off,e3,fun j u hj=>zgv hh.ag e4 hj⟩)⟩
 case h_2=>
  have e1:v= .slice none 0 0:=by simpa [SV.sat] using hs
  subst e1
  exact⟨[], [],rfl,h,zu (by simp) (by simp) (.inl rfl)⟩
 case h_3=>
  simp only[SV.sat] at hs
  obtain⟨ad,e1⟩:=hs
  subst e1
  exact⟨[], [],rfl,h,zu (by simp) (by simp) (.inl rfl)⟩
 case h_4 id len=>
  replace h:=ze h;obtain⟨ob,h1,h⟩:=h
  split at h
  case h_3=>cases h
  case h_2 T e xs=>
   split at h
   case isFalse=>cases h
   case isTrue he=>
    subst he
    obtain⟨cs,c1,c2⟩:=zvf hh h1 hs
    obtain⟨ad,cap,e1,e2,e3⟩:=zaa ⟨cs,c1,c2⟩
    subst e1
    rcases e3 with e3|⟨b,off,d,e3,e4,e5⟩
    ·exact⟨zL xs len, [],by rw[e3];rfl,h,zu (by rw[e3];simp) (by simp) (.inl rfl)⟩
    ·exact⟨zL xs len,d,e5,h,zu (zF (zc e) e5) (xD (zH e) e5) (.inr ⟨b,off,e3,fun j u hj=>zgv hh.ag e4 hj⟩)⟩
  case h_1 T e xs=>
   split at h
   case isFalse=>cases h
   case isTrue he=>
    subst he
    simp only[SV.sat] at hs
    obtain⟨le,e1,e2,e3⟩:=hs
    have hob:=hh.ob _ _ _ h1 e1
    obtain⟨g1,g2,g3,g4,g5⟩:=hob
    have hlen:(zL xs len).length=len.getD le.len:=by rw[qC xs len (by rw[g1];exact e2),g1]
    have htk:zL xs len=xs.take (len.getD le.len):=by
     cases len with
     |none=>simp[zL, ← g1]
     |some n=>rfl
    rw[← hlen] at e3
    subst e3
    cases hb:le.blk with
    |none=>
     have h0:=g4 hb
     have:zL xs len= []:=List.eq_nil_of_length_eq_zero (by omega)
     exact⟨zL xs len, [],by rw[this];rfl,h,zu (by rw[this];simp) (by simp) (.inl rfl)⟩
    |some b=>
     obtain⟨c,d,post,f1,f2,f3,f4⟩:=g5 b hb
     obtain⟨c1,d1,p1,p2,p3,p4⟩:=qc (zc e) (len.getD le.len) f3
     rw[← htk] at p2
     refine⟨zL xs len,c1,p2,h,zu (zF (zc e) p2) (xD (zH e) p2) (.inr ⟨b,0,by simp[LE.addr,hb],fun j u hj=> ?_⟩)⟩
     rw[cell_of_row w b (0+j) c T _ f1]
     have hjl:j<c1.length:=(List.getElem?_eq_some_iff.1 hj).1
     have:c.toList[0+j]? =some u:=by
      rw[f2,p1,Nat.zero_add,List.append_assoc,List.getElem?_append_left hjl];exact hj
     simpa using this
 case h_5 id u off len=>
  replace h:=ze h;obtain⟨ob,h1,h⟩:=h
  split at h
  case h_2=>cases h
  case h_1 T e xs=>
   split at h
   case isFalse=>cases h
   case isTrue he=>
    obtain⟨he,hu⟩:=he
    subst he
    subst hu
    simp only[SV.sat] at hs
    obtain⟨le,ad,cap,e1,e2,e3,e4⟩:=hs
    subst e3
    obtain⟨g1,g2,g3,g4,g5⟩:=hh.ob _ _ _ h1 e1
    have hlen:((xs.drop off).take len).length=len:=by rw[List.length_take,List.length_drop,g1];omega
    rcases e4 with e4|⟨b,e5,e6⟩
    ·subst e4
     exact⟨_, [],by rw[List.take_zero];rfl,h,zu (by simp) (by simp) (.inl rfl)⟩
    ·obtain⟨c,d,post,f1,f2,f3,f4⟩:=g5 b e5
     obtain⟨c1,d1,p1,p2,p3,p4⟩:=qc (zc u) off f3
     obtain⟨c2,d2,q1,q2,q3,q4⟩:=qc (zc u) len p3
     have hc1:c1.length=off*u.size:=by rw[p4,List.length_take,g1,Nat.min_eq_left (by omega)]
     rw[e6]
     have hl2:=hlen
     refine⟨_,c2,q2,h, ?_⟩
     rw[hlen]
     have:=zu (P:=P) (w:=w) (m:=len) (size:=u.size) (cap:=cap) (ad:=some ⟨b,off*u.size,none⟩) (news:=c2) ?_ ?_ ?_
     ·exact this
     ·rw[← hlen];exact zF (zc u) q2
     ·exact xD (zH u) q2
     ·refine .inr ⟨b,off*u.size,rfl,fun j v' hj=> ?_⟩
      rw[cell_of_row w b (off*u.size+j) c T _ f1]
      have hjl:j<c2.length:=(List.getElem?_eq_some_iff.1 hj).1
      have:c.toList[off*u.size+j]? =some v':=by
       rw[f2,p1,q1, ← hc1,List.append_assoc,List.getElem?_append_right (by omega),List.append_assoc,List.getElem?_append_left (by omega),show c1.length+j - c1.length=j by omega]
       exact hj
      simpa using this
 case h_6=>cases h
theorem zkk (z:Array Value) (n:Nat):(Builtin.zeroCells z n).size=n*z.size:=by simp[Builtin.zeroCells]
theorem zfp (hC:C.ok P) {T S:TypeId} {i ei:TI} (hi:(T,i)∈C.TT) (hk:i.kind= .slice S) (hS:(S,ei)∈C.TT) {t:Ty} {xs ys:List t.den} {olds news:List Value} {base:Option Addr} {cap:Nat} {hp0:List HO} (hh0:Hp B E hp0 w) (hel:qG ei t=true)
  (r1:xp (Rep E.M t) xs olds) (r2:xp (Rep E.M t) ys news) {vx:Value} (hno:t.noOwn=true) (so:SrcOk P t.size (.slice base xs.length cap) xs.length olds w) (sx:SrcOk P t.size vx ys.length news w) (hcap:cap<xs.length+ys.length) (hroom:zj (xs.length+ys.length) ei.bytes)
  (hk':k (.own hp0.length none) (hp0++ [.tk S t (xs++ys)])=some r):
  ∃ E' hp' s' v w',E.le E'∧Hp B E' hp' w'∧s'.sat E' v∧k s' hp'=some r∧ ∀ ty,(Builtin.append_ #[T,T] ty #[.slice base xs.length cap,vx]).run P w= .ok v w':=by
 have hu:=(hC.types _ _ hi).slice hk
 obtain⟨f,z,f1,f2,f3,f4,f5,f6,f7,_⟩:=(hC.types _ _ hS).info
 obtain⟨hs1,hs2,hs3,_⟩:=xv hel
 rw[← hs1, ← f2] at so sx
 have hrm:(xs.length+ys.length)*ei.bytes≤140737488355328:=hroom
 have h63:xs.length+ys.length≤9223372036854775807:=by
  have:(xs.length+ys.length)*1≤(xs.length+ys.length)*ei.bytes:=Nat.mul_le_mul_left _ hs3
  omega
 have hge:=grownCap_ge w (xs.length+ys.length) cap S
 have hcm:grownCap w (xs.length+ys.length) cap S≤maxLen:=grownCap_le_maxLen w _ cap S (by simp only[maxLen];omega)
 obtain⟨p1,p2⟩:=zgp hh0 w.drew ⟨rfl,rfl,rfl,rfl⟩ (T:=S) (t:=t) (xs:=xs++ys) (c:=olds.toArray++news.toArray++Builtin.zeroCells z.cells (grownCap w (xs.length+ys.length) cap S - (xs.length+ys.length)))
  (d:=olds++news) (post:=(Builtin.zeroCells z.cells (grownCap w (xs.length+ys.length) cap S - (xs.length+ys.length))).toList) (cap:=grownCap w (xs.length+ys.length) cap S)
  (by simp) (qS r1 r2) (by
   have l1:=so.size
   have l2:=sx.size
   simp only[Array.size_append,List.size_toArray,zkk,l1,l2,f6,f2, ← hs1, ← Nat.add_mul]
   congr 1
   omega) (by simp;omega) hcm (OwnsL.plain hno _ _)
 have hrun:=fun ty=>zc5 (P:=P) (ty:=ty) hu f1 f4 so sx hcap h63 (growslice_fits hcap (by rw[f3];exact hrm))
 rw[List.length_append] at p2
 have hget:(hp0++ [HO.arr S t (xs++ys)])[hp0.length]? =some (.arr S t (xs++ys)):=by simp
 have hL:(E.snoc ⟨some w.heap.size,(xs++ys).length,grownCap w (xs.length+ys.length) cap S,none⟩).L[hp0.length]? =some ⟨some w.heap.size,(xs++ys).length,grownCap w (xs.length+ys.length) cap S,none⟩:=by
  show(E.L++ [_])[hp0.length]? =_
  rw[← hh0.len];simp
 obtain⟨E2,q1,q2,q3,q4,q5,q6,q7⟩:=p1.freezeT hget hL (u:=t) (ys:=xs++ys) rfl rfl (fun _ _ h=>h)
 have hset:(hp0++ [HO.arr S t (xs++ys)]).set hp0.length .gone=hp0++ [.gone]:=by simp
 rw[hset] at q4 q7
 have hg2:(hp0++ [HO.gone])[hp0.length]? =some .gone:=by simp
 have hL2:=hL
 rw[← q2] at hL2
 have q8:=q4.layT hg2 hL2 (o':= .tk S t (xs++ys)) rfl trivial ⟨rfl,(fun hb=>by cases hb),by rw[q6] at q5;exact q5⟩ (by
  simp only[HO.tails]
  split
  ·exact⟨List.nodup_nil,fun x hx=>by simp at hx⟩
  ·exact q7)
 have hset2:(hp0++ [HO.gone]).set hp0.length (.tk S t (xs++ys))=hp0++ [.tk S t (xs++ys)]:=by simp
 rw[hset2] at q8
 refine⟨E2,_,_,_,_,Env.le_trans (Env.le_snoc E _) q1,q8, ?_,hk',hrun⟩
 exact SV.sat_mono q1 _ _ (by rw[List.length_append];exact p2)
theorem zkv (hC:C.ok P) (hh:Hp B E hp w) {T S:TypeId} {i ei:TI} (hi:(T,i)∈C.TT) (hk:i.kind= .slice S) (hS:(S,ei)∈C.TT) {id:Nat} {vs vx:Value} (hs:SV.sat E (.own id none) vs) {t:Ty} {xs ys:List t.den} (h1:hp[id]? =some (.tk S t xs))
  (hel:qG ei t=true) (hno:t.noOwn=true) {news:List Value} (r2:xp (Rep E.M t) ys news) (sx:SrcOk P t.size vx ys.length news w) (hroom:zj (xs.length+ys.length) ei.bytes) (h:k (.own hp.length none) (hp.set id (.fro t xs)++ [.tk S t (xs++ys)])=some r):
  ∃ E' hp' s' v w',E.le E'∧Hp B E' hp' w'∧s'.sat E' v∧k s' hp'=some r∧ ∀ ty,(Builtin.append_ #[T,T] ty #[vs,vx]).run P w= .ok v w':=by
 have hu:=(hC.types _ _ hi).slice hk
 obtain⟨f,z,f1,f2,f3,f4,f5,f6,f7,_⟩:=(hC.types _ _ hS).info
 obtain⟨hs1,hs2,hs3,_⟩:=xv hel
 simp only[SV.sat] at hs
 obtain⟨e,e1,_,e3⟩:=hs
 simp only[Option.getD_none] at e3
 obtain⟨⟨t1,t2,t3⟩,t4,t5⟩:=hh.tok id _ e h1 e1
 have hidl:id<hp.length:=(List.getElem?_eq_some_iff.1 h1).1
 have dropFro: ∀ {E1:Env} {w1:World},Hp B E1 (hp.set id .gone) w1→(∀ e',E1.L[id]? =some e'→(HO.fro t xs).sat E1 w1 e')→Hp B E1 (hp.set id (.fro t xs)) w1:=by
  intro E1 w1 q1 q2
  have:=q1.dropTo id (o':= .fro t xs) rfl q2
  rwa [List.set_set] at this
 have hlen2:(hp.set id (HO.fro t xs)).length=hp.length:=by simp
 rcases t3 with ⟨ad,q1,q2⟩|⟨b,cap,d,c,U,q1,q2,q3,q4,q5,q6,q7,q8⟩
 ·
  simp only[Value.slice.injEq] at q1
  obtain⟨q1a,q1b,q1c⟩:=q1
  have hvs:vs= .slice ad 0 0:=by rw[e3,q1a,q1b,q1c]
  subst q2
  have hfro:Hp B E (hp.set id (.fro t [])) w:=dropFro (hh.drop id) fun e' he'=>by
   rw[e1] at he';cases he'
   exact⟨t1,by omega, .inl rfl⟩
  by_cases h0:ys.length=0
  ·have hy:ys= []:=List.eq_nil_of_length_eq_zero h0
   subst hy
   rw[← hs1, ← f2] at sx
   refine⟨E.snoc ⟨none,0,0,ad⟩,_,_,_,w,Env.le_snoc E _,hfro.pushT (e':=⟨none,0,0,ad⟩) (o':= .tk S t ([]++ [])) rfl trivial ⟨rfl,fun _=>rfl, .inl ⟨ad,rfl,rfl⟩⟩ ⟨by simp[HO.tails],fun x hx=>by simp[HO.tails] at hx⟩, ?_,h,fun ty=>by rw[hvs];exact zca (P:=P) hu f1 sx⟩
   simp only[SV.sat]
   refine⟨⟨none,0,0,ad⟩, ?_,by simp,rfl⟩
   show(E.L++ [_])[hp.length]? =_
   rw[← hh.len];simp
  ·have:=zfp (base:=ad) (cap:=0) hC hi hk hS hfro hel (xs:= []) (olds:= []) rfl r2 hno (zu (by simp) (by simp) (.inl rfl)) sx (by simp;omega) hroom (by rw[hlen2];exact h)
   rw[hvs]
   simpa using this
 ·
  simp only[Value.slice.injEq] at q1
  obtain⟨q1a,q1b,q1c⟩:=q1
  have hbk:e.blk=some b:=by
   cases hb:e.blk with
   |none=>have:=t2 hb;omega
   |some b'=>rw[LE.addr,hb] at q1a;cases q1a;rfl
  have hvs:vs= .slice (some ⟨b,0,none⟩) xs.length (cap+1):=by rw[e3,q1a,q1b,q1c]
  have hdl:=zF (zc t) q5
  have hcell: ∀ (k:Nat) (u:Value),d.toList[k]? =some u→w.cell? ⟨b,0+k,none⟩=some u:=fun k u hk=>by
   rw[cell_of_row w b (0+k) c U _ q6]
   have hkl:k<d.toList.length:=(List.getElem?_eq_some_iff.1 hk).1
   obtain⟨tl,q7'⟩:=q7
   have:c.toList[0+k]? =some u:=by rw[← q7',Nat.zero_add,List.getElem?_append_left hkl];exact hk
   simpa using this
  have so:SrcOk P t.size (.slice (some ⟨b,0,none⟩) xs.length (cap+1)) xs.length d.toList w:=zu hdl (xD (zH t) q5) (.inr ⟨b,0,rfl,hcell⟩)
  have hfroSat: ∀ {E1:Env} {w1:World},E.M.le E1.M→E1.L=E.L→ ∀ e',E1.L[id]? =some e'→(HO.fro t xs).sat E1 w1 e':=by
   intro E1 w1 hle hL e' he'
   rw[hL,e1] at he'
   cases he'
   exact⟨t1,by omega, .inr ⟨b,d.toList,hbk,Mem.seg_mono hle ⟨d, [], [],q4,by simp,rfl⟩,zR (fun x cs=>zz hle t x cs) q5⟩⟩
  by_cases hfits:xs.length+ys.length≤cap+1
  ·
   have so':=so
   have sx':=sx
   rw[← hs1, ← f2] at so' sx'
   have ln:=sx'.size
   have hfit:xs.length*f.size+news.length≤c.size:=by
    rw[ln,q8, ← Nat.add_mul,f2,hs1];exact Nat.mul_le_mul_right _ hfits
   have hrun:=fun ty=>zem (P:=P) (ty:=ty) hu f1 q6 sx' hfits hfit
   have htake:c.toList.take (xs.length*f.size)=d.toList:=by
    obtain⟨tl,q7'⟩:=q7
    rw[← q7',f2,hs1, ← hdl,List.take_left]
   rw[htake] at hrun
   obtain⟨g1,g2,g3⟩:=hh.growTk h1 e1 hbk (by omega) q4 q6 (news:=news) (new:=(d.toList++news++c.toList.drop (xs.length*f.size+news.length)).toArray) ⟨c.toList.drop (xs.length*f.size+news.length),rfl⟩ (setRow_heap w b c _ U _ q6) ⟨rfl,rfl,rfl,by simp,fun k _ hk=>setRow_other w b k _ (fun e=>hk (by simp[e]))⟩
   have hfro:=dropFro g2 (hfroSat g1 rfl)
   refine⟨_,_,_,_,_,Env.le_trans (E':=⟨fun j=>if j=b then some (d.toList++news).toArray else E.M j,E.L⟩) ⟨g1,fun _ _ hh=>hh⟩ (Env.le_snoc _ ⟨some b,xs.length+ys.length,cap+1,none⟩),
    hfro.pushT (e':=⟨some b,xs.length+ys.length,cap+1,none⟩) (o':= .tk S t (xs++ys)) rfl trivial ⟨by simp,fun hb=>(by cases hb), .inr ⟨b,cap,(d.toList++news).toArray,(d.toList++news++c.toList.drop (xs.length*f.size+news.length)).toArray,U,by simp[LE.addr],by simpa using hfits,q3,by simp,
     qS (zR (fun x cs=>zz g1 t x cs) q5) (zR (fun x cs=>zz g1 t x cs) r2),setRow_heap w b c _ U _ q6,⟨c.toList.drop (xs.length*f.size+news.length),by simp⟩, ?_⟩⟩ ?_, ?_,h,fun ty=>by rw[hvs];exact hrun ty⟩
   ·rw[← q8]
    have hdz:d.toList.length=xs.length*f.size:=by rw[hdl,f2,hs1]
    simp only[List.size_toArray,List.length_append,List.length_drop,Array.length_toList] at hdz ⊢
    omega
   ·refine⟨by simp[HO.tails],fun x hx=> ?_⟩
    simp only[HO.tails,Nat.add_eq_zero_iff,Nat.one_ne_zero,and_false,if_false] at hx
    obtain⟨k1,k2⟩:=g3.2 x hx
    refine⟨k1,fun j o e' k3 k4=> ?_⟩
    rw[List.getElem?_set] at k3
    split at k3
    ·first|(cases k3;simp[HO.tails])|(split at k3<;>cases k3;simp[HO.tails])
    ·rename_i hij
     exact k2 j o e' (by rw[List.getElem?_set_ne hij];exact k3) k4
   ·simp only[SV.sat]
    refine⟨⟨some b,xs.length+ys.length,cap+1,none⟩, ?_,by simp,rfl⟩
    show(E.L++ [_])[hp.length]? =_
    rw[← hh.len];simp
  ·have hfro:Hp B E (hp.set id (.fro t xs)) w:=dropFro (hh.drop id) (hfroSat (Mem.le_refl _) rfl)
   rw[hvs]
   exact zfp hC hi hk hS hfro hel q5 r2 hno so sx (by omega) hroom (by rw[hlen2];exact h)
theorem zn4 (hh:Hp B E hp w) {t:Ty} {s:SV} {v:Value} {k:List t.den→List HO→Option R} (hs:s.sat E v) (h:zvp t s hp k=some r):
  ∃ hp' xs news,Hp B E hp' w∧xp (Rep E.M t) xs news∧k xs hp'=some r∧SrcOk P t.size v xs.length news w∧OwnsL B E hp' w t xs news∧(∀ b∈tailsN (tailsT t) t.size xs news,Was E hp w b)∧(hp'=hp∨ ∃ j,hp'=hp.set j .gone):=by
 have none: ∀ {hp':List HO} (d:List Value),OwnsL B E hp' w t [] d:=fun d=>⟨trivial,FreeT.nil⟩
 unfold zvp at h
 split at h
 case h_1 e xs=>
  replace h:=zB h;obtain⟨he,h⟩:=h
  subst he
  simp only[SV.sat] at hs
  obtain⟨ad,cap,e1,e2,e3⟩:=zaa hs
  subst e1
  have hw: ∀ (d:List Value), ∀ b∈tailsN (tailsT t) t.size (xs.map t.lift) d,Was E hp w b:=fun d b hb=>by rw[x7 (qY t)] at hb;simp at hb
  rcases e3 with e3|⟨b,off,d,e3,e4,e5⟩
  ·subst e3
   exact⟨hp, [], [],hh,rfl,h,zu (by simp) (by simp) (.inl rfl),none _,hw [], .inl rfl⟩
  ·refine⟨hp,xs.map t.lift,d,hh,xU (zag t) e5,h, ?_,OwnsL.lift xs d,hw d, .inl rfl⟩
   rw[List.length_map]
   exact zu (by rw[zF (zc _) e5,Ty.er_size]) (xD (zH _) e5) (.inr ⟨b,off,e3,fun j u hj=>zgv hh.ag e4 hj⟩)
 case h_2=>
  have e1:v= .slice Option.none 0 0:=by simpa [SV.sat] using hs
  subst e1
  exact⟨hp, [], [],hh,rfl,h,zu (by simp) (by simp) (.inl rfl),none _,fun b hb=>by simp[tailsN] at hb, .inl rfl⟩
 case h_3=>
  simp only[SV.sat] at hs
  obtain⟨ad,e1⟩:=hs
  subst e1
  exact⟨hp, [], [],hh,rfl,h,zu (by simp) (by simp) (.inl rfl),none _,fun b hb=>by simp[tailsN] at hb, .inl rfl⟩
 case h_4 id len=>
  replace h:=ze h;obtain⟨ob,h1,h⟩:=h
  split at h
  case h_2=>cases h
  case h_1 T e xs=>
   replace h:=zB h;obtain⟨he,h⟩:=h
   subst he
   rw[zo] at h
   simp only[SV.sat] at hs
   obtain⟨le,e1,e2,e3⟩:=hs
   have hob:=hh.ob _ _ _ h1 e1
   obtain⟨g1,g2,g3,g4,g5⟩:=hob
   have hlen:(zL xs len).length=len.getD le.len:=by rw[qC xs len (by rw[g1];exact e2),g1]
   have htk:zL xs len=xs.take (len.getD le.len):=by
    cases len with
    |none=>simp[zL, ← g1]
    |some n=>rfl
   rw[← hlen] at e3
   subst e3
   cases hb:le.blk with
   |none=>
    have h0:=g4 hb
    have:zL xs len= []:=List.eq_nil_of_length_eq_zero (by omega)
    exact⟨hp.set id .gone,zL xs len, [],hh.drop id,by rw[this];rfl,h,zu (by rw[this];simp) (by simp) (.inl rfl),by rw[this];exact none _,fun b hb=>by rw[this] at hb;simp[tailsN] at hb, .inr ⟨id,rfl⟩⟩
   |some b=>
    obtain⟨c,d,post,f1,f2,f3,f4⟩:=g5 b hb
    obtain⟨c1,d1,p1,p2,p3,p4⟩:=qc (zc e) (len.getD le.len) f3
    rw[← htk] at p2
    have hl1:=zF (zc e) p2
    obtain⟨t1,t2,t3⟩:=hh.tok _ _ _ h1 e1
    have hcl:c.toList=c1++(d1++post):=by rw[f2,p1];simp
    have hpre:tailsN (tailsT e) e.size (zL xs len) c.toList=tailsN (tailsT e) e.size (zL xs len) c1:=by rw[hcl,xB hl1]
    have hsub:(tailsN (tailsT e) e.size (zL xs len) c1).Sublist ((HO.arr T e xs).tails w le):=by
     simp only[HO.tails,hb,f1]
     rw[← hpre,htk]
     obtain⟨l,hl⟩:=za6 (f:=tailsT e) (n:=e.size) (len.getD le.len) xs c.toList
     rw[hl]
     exact List.sublist_append_left _ _
    refine⟨hp.set id .gone,zL xs len,c1,hh.drop id,p2,h,zu hl1 (xD (zH e) p2) (.inr ⟨b,0,by simp[LE.addr,hb],fun j u hj=> ?_⟩),⟨?_,(hh.dropFree h1 e1).sub hsub⟩,fun b' hb'=> .inr ⟨id,_,le,h1,e1,hsub.subset hb'⟩, .inr ⟨id,rfl⟩⟩
    ·rw[cell_of_row w b (0+j) c T _ f1]
     have hjl:j<c1.length:=(List.getElem?_eq_some_iff.1 hj).1
     have:c.toList[0+j]? =some u:=by
      rw[hcl,Nat.zero_add,List.getElem?_append_left hjl];exact hj
     simpa using this
    ·have:=zdu (len.getD le.len) xs c.toList (t1 b c T _ hb f1)
     rw[← htk,hcl,jA hl1] at this
     exact this
 case h_5=>cases h
theorem zai (hC:C.ok P) {T S:TypeId} {i ei:TI} (hi:(T,i)∈C.TT) (hk:i.kind= .slice S) (hS:(S,ei)∈C.TT) {t:Ty} {xs ys:List t.den} {olds news:List Value} {le:LE} {vx:Value} {hp0:List HO} (hh0:Hp B E hp0 w) (hel:qG ei t=true)
  (r1:xp (Rep E.M t) xs olds) (r2:xp (Rep E.M t) ys news) (so:SrcOk P t.size (.slice le.addr xs.length le.cap) xs.length olds w) (sx:SrcOk P t.size vx ys.length news w) (hroom:zj (xs.length+ys.length) ei.bytes)
  (g2:xs.length≤le.cap) (g3:le.cap≤maxLen) (g4:le.blk=none→le.cap=0) (hmt: ∀ b,le.blk=some b→MayTurn B E hp0 b) (hcur: ∀ b,le.blk=some b→ ∃ c post,w.heap[b]? =some (.cells c S (0,0))∧c.toList=olds++post∧c.size=le.cap*t.size)
  (ho:OwnsL B E hp0 w t (xs++ys) (olds++news)) (h:k (.own hp0.length none) (hp0++ [.arr S t (xs++ys)])=some r):
  ∃ E' hp' s' v w',E.le E'∧Hp B E' hp' w'∧s'.sat E' v∧k s' hp'=some r∧ ∀ ty,(Builtin.append_ #[T,T] ty #[.slice le.addr xs.length le.cap,vx]).run P w= .ok v w':=by
 have hu:=(hC.types _ _ hi).slice hk
 obtain⟨f,z,f1,f2,f3,f4,f5,f6,f7,_⟩:=(hC.types _ _ hS).info
 obtain⟨hs1,hs2,hs3,_⟩:=xv hel
 rw[← hs1, ← f2] at so sx
 by_cases hcap:xs.length+ys.length≤le.cap
 ·cases hb:le.blk with
  |none=>
   have h0:=g4 hb
   have hx0:xs= []:=List.eq_nil_of_length_eq_zero (by omega)
   have hy0:ys= []:=List.eq_nil_of_length_eq_zero (by omega)
   subst hx0
   subst hy0
   have hvs:Value.slice le.addr ([]:List t.den).length le.cap= .slice le.dead 0 0:=by simp[LE.addr,hb,h0]
   refine⟨E.snoc ⟨none,0,0,le.dead⟩,_,_,_,w,Env.le_snoc E _, ?_, ?_,h,fun ty=>by rw[hvs];exact zca (P:=P) hu f1 sx⟩
   ·refine hh0.push (T:=none) (e':=⟨none,0,0,le.dead⟩) ⟨rfl,rfl,rfl,Nat.le_refl _,fun _ _ _=>rfl⟩ (fun b hb=>by cases hb) (fun b hb=>by cases hb) ?_ (HO.tok_nil rfl)
    exact⟨rfl,Nat.le_refl _,Nat.zero_le _,(fun _=>rfl),fun b hb=>by cases hb⟩
   ·simp only[SV.sat]
    refine⟨⟨none,0,0,le.dead⟩, ?_,by simp,rfl⟩
    show(E.L++ [_])[hp0.length]? =_
    rw[← hh0.len];simp
  |some b=>
   obtain⟨c,post,k1,k2,k4⟩:=hcur b hb
   have lo:=so.size
   have ln:=sx.size
   have hfit:xs.length*f.size+news.length≤c.size:=by
    rw[ln,k4, ← Nat.add_mul,f2,hs1];exact Nat.mul_le_mul_right _ hcap
   have hrun:=fun ty=>zem (P:=P) (ty:=ty) hu f1 k1 sx hcap hfit
   have htake:c.toList.take (xs.length*f.size)=olds:=by rw[k2, ← lo,List.take_left]
   rw[htake] at hrun
   have hgr:w.grownBy (w.setRow b (olds++news++c.toList.drop (xs.length*f.size+news.length)).toArray) (some b):=
    ⟨rfl,rfl,rfl,by simp,fun k _ hk=>setRow_other w b k _ (fun e=>hk (by simp[e]))⟩
   obtain⟨p1,p2⟩:=zny hh0 hgr (fun b' hb'=>by cases hb';exact hmt b hb) (T:=S) (t:=t) (xs:=xs++ys) (b:=b) (cap:=le.cap) (.inr rfl) (setRow_heap w b c _ S _ k1) (d:=olds++news) (post:=c.toList.drop (xs.length*f.size+news.length)) (by simp) (qS r1 r2) (by
    rw[← k4]
    simp only[List.size_toArray,List.length_append,List.length_drop,Array.length_toList]
    omega) (by simpa using hcap) g3 ho
   rw[List.length_append] at p2
   refine⟨_,_,_,_,_,Env.le_snoc E _,p1,by rw[List.length_append];exact p2,h,fun ty=>by simp only[LE.addr,hb];exact hrun ty⟩
 ·have hrm:(xs.length+ys.length)*ei.bytes≤140737488355328:=hroom
  have h63:xs.length+ys.length≤9223372036854775807:=by
   have:(xs.length+ys.length)*1≤(xs.length+ys.length)*ei.bytes:=Nat.mul_le_mul_left _ hs3
   omega
  have hge:=grownCap_ge w (xs.length+ys.length) le.cap S
  have hcm:grownCap w (xs.length+ys.length) le.cap S≤maxLen:=grownCap_le_maxLen w _ le.cap S (by simp only[maxLen];omega)
  obtain⟨p1,p2⟩:=zgp hh0 w.drew ⟨rfl,rfl,rfl,rfl⟩ (T:=S) (t:=t) (xs:=xs++ys) (c:=olds.toArray++news.toArray++Builtin.zeroCells z.cells (grownCap w (xs.length+ys.length) le.cap S - (xs.length+ys.length)))
   (d:=olds++news) (post:=(Builtin.zeroCells z.cells (grownCap w (xs.length+ys.length) le.cap S - (xs.length+ys.length))).toList) (cap:=grownCap w (xs.length+ys.length) le.cap S)
   (by simp) (qS r1 r2) (by
    have l1:=so.size
    have l2:=sx.size
    simp only[Array.size_append,List.size_toArray,zkk,l1,l2,f6,f2, ← hs1, ← Nat.add_mul]
    congr 1
    omega) (by simp;omega) hcm ho
  have hrun:=fun ty=>zc5 (P:=P) (ty:=ty) hu f1 f4 so sx (Nat.lt_of_not_le hcap) h63 (growslice_fits (Nat.lt_of_not_le hcap) (by rw[f3];exact hrm))
  rw[List.length_append] at p2
  exact⟨_,_,_,_,_,Env.le_snoc E _,p1,by rw[List.length_append];exact p2,h,hrun⟩
theorem zld (hC:C.ok P) (hh:Hp B E hp w) {T S:TypeId} {i ei:TI} (hi:(T,i)∈C.TT) (hk:i.kind= .slice S) (hS:(S,ei)∈C.TT) {s x:SV} {vs vx:Value} (hs:s.sat E vs) (hx:x.sat E vx)
  (h:jE C S ei s x hp k=some r):
  ∃ E' hp' s' v w',E.le E'∧Hp B E' hp' w'∧s'.sat E' v∧k s' hp'=some r∧ ∀ ty,(Builtin.append_ #[T,T] ty #[vs,vx]).run P w= .ok v w':=by
 have nilc: ∀ (ad:Option Addr),vs= .slice ad 0 0→xF C S ei x hp k=some r→ ∃ E' hp' s' v w',E.le E'∧Hp B E' hp' w'∧s'.sat E' v∧k s' hp'=some r∧ ∀ ty,(Builtin.append_ #[T,T] ty #[vs,vx]).run P w= .ok v w':=by
  intro ad e1 h
  subst e1
  unfold xF at h
  split at h
  case h_2=>cases h
  case h_1 t ht=>
   cases hel:qG ei t with
   |false=>rw[hel] at h;cases h
   |true=>
    rw[hel,cond_true] at h
    have so:SrcOk P t.size (.slice ad 0 0) 0 [] w:=zu (by simp) (by simp) (.inl rfl)
    cases hno:t.noOwn with
    |true=>
     rw[hno,cond_true] at h
     obtain⟨ys,news,r2,h,sx⟩:=zis (P:=P) hh hx h
     replace h:=zy h;obtain⟨hroom,h⟩:=h
     rw[z2] at h
     exact zai (le:=⟨none,0,0,ad⟩) (xs:= []) (olds:= []) hC hi hk hS hh hel rfl r2 so sx (by simpa using hroom) (Nat.le_refl _) (Nat.zero_le _) (fun _=>rfl) (fun b hb=>by cases hb) (fun b hb=>by cases hb) (OwnsL.plain hno _ _) h
    |false=>
     rw[hno,cond_false] at h
     obtain⟨hp1,ys,news,hh1,r2,h,sx,ho,_⟩:=zn4 (P:=P) hh hx h
     replace h:=zy h;obtain⟨hroom,h⟩:=h
     rw[z2] at h
     exact zai (le:=⟨none,0,0,ad⟩) (xs:= []) (olds:= []) hC hi hk hS hh1 hel rfl r2 so sx (by simpa using hroom) (Nat.le_refl _) (Nat.zero_le _) (fun _=>rfl) (fun b hb=>by cases hb) (fun b hb=>by cases hb) ho h
 unfold jE at h
 split at h
 case h_1=>
  have e1:vs= .slice none 0 0:=by simpa [SV.sat] using hs
  exact nilc none e1 h
 case h_2=>
  simp only[SV.sat] at hs
  obtain⟨ad,e1⟩:=hs
  exact nilc ad e1 h
 case h_3 id len=>
  replace h:=ze h;obtain⟨ob,h1,h⟩:=h
  split at h
  case h_3=>cases h
  case h_2 S' t xs=>
   cases hel0:(Nat.beq S' S&&(qG ei t&&(len.isNone&&t.noOwn))) with
   |false=>rw[hel0] at h;cases h
   |true=>
    rw[hel0] at h
    simp only[Bool.and_eq_true,Option.isNone_iff_eq_none] at hel0
    obtain⟨hSS,hel,hln,hno⟩:=hel0
    have:=Nat.eq_of_beq_eq_true hSS
    subst this
    subst hln
    simp only[cond_true] at h
    obtain⟨ys,news,r2,h,sx⟩:=zis (P:=P) hh hx h
    replace h:=zy h;obtain⟨hroom,h⟩:=h
    rw[zo,z2] at h
    exact zkv hC hh hi hk hS hs h1 hel hno r2 sx hroom h
  case h_1 S' t xs=>
   cases hel0:(Nat.beq S' S&&qG ei t) with
   |false=>rw[hel0] at h;cases h
   |true=>
    rw[hel0] at h
    simp only[Bool.and_eq_true] at hel0
    obtain⟨hSS,hel⟩:=hel0
    have:=Nat.eq_of_beq_eq_true hSS
    subst this
    simp only[cond_true] at h
    have hs':=hs
    simp only[SV.sat] at hs
    obtain⟨le,e1,e2,e3⟩:=hs
    have hob:=hh.ob _ _ _ h1 e1
    obtain⟨g1,g2,g3,g4,g5⟩:=hob
    have hlen:(zL xs len).length=len.getD le.len:=by rw[qC xs len (by rw[g1];exact e2),g1]
    have hlenO:zdk xs len=(zL xs len).length:=by
     rw[hlen];cases len<;>simp[zdk,g1]
    have htk:zL xs len=xs.take (len.getD le.len):=by
     cases len with
     |none=>simp[zL, ← g1]
     |some n=>rfl
    rw[hlenO] at h
    rw[← hlen] at e3
    subst e3
    have hsrc: ∃ olds,xp (Rep E.M t) (zL xs len) olds∧SrcOk P t.size (.slice le.addr (zL xs len).length le.cap) (zL xs len).length olds w∧
      (∀ b,le.blk=some b→ ∃ c post,w.heap[b]? =some (.cells c S' (0,0))∧c.toList=olds++post∧c.size=le.cap*t.size)∧OwnsL B E (hp.set id .gone) w t (zL xs len) olds:=by
     cases hb:le.blk with
     |none=>
      have h0:=g4 hb
      have h0':zL xs len= []:=List.eq_nil_of_length_eq_zero (by omega)
      exact⟨[],by rw[h0'];rfl,zu (by rw[h0'];simp) (by simp) (.inl rfl),(fun b hb'=>by cases hb'),by rw[h0'];exact⟨trivial,FreeT.nil⟩⟩
     |some b=>
      obtain⟨c,d,post,k1,k2,k3,k4⟩:=g5 b hb
      obtain⟨c1,d1,p1,p2,p3,p4⟩:=qc (zc t) (len.getD le.len) k3
      rw[← htk] at p2
      have hl1:=zF (zc t) p2
      have hcl:c.toList=c1++(d1++post):=by rw[k2,p1];simp
      refine⟨c1,p2, ?_,fun b' hb'=> ?_, ?_, ?_⟩
      ·refine zu hl1 (xD (zH t) p2) (.inr ⟨b,0,by simp[LE.addr,hb],fun j u hj=> ?_⟩)
       rw[cell_of_row w b (0+j) c S' _ k1]
       have hjl:j<c1.length:=(List.getElem?_eq_some_iff.1 hj).1
       have:c.toList[0+j]? =some u:=by
        rw[hcl,Nat.zero_add,List.getElem?_append_left hjl];exact hj
       simpa using this
      ·cases hb'
       exact⟨c,d1++post,k1,hcl,k4⟩
      ·have:=zdu (len.getD le.len) xs c.toList ((hh.tok _ _ _ h1 e1).1 b c S' _ hb k1)
       rw[← htk,hcl,jA hl1] at this
       exact this
      ·refine(hh.dropFree h1 e1).sub ?_
       simp only[HO.tails,hb,k1]
       rw[← xB (post:=d1++post) hl1, ← hcl,htk]
       obtain⟨l,hl⟩:=za6 (f:=tailsT t) (n:=t.size) (len.getD le.len) xs c.toList
       rw[hl]
       exact List.sublist_append_left _ _
    obtain⟨olds,r1,so,hcur,ho1⟩:=hsrc
    have hd:=hh.drop id
    have hmt: ∀ b,le.blk=some b→MayTurn B E (hp.set id .gone) b:=fun b hb=>hh.mayTurn h1 rfl e1 hb
    have hxl:(zL xs len).length≤le.cap:=by omega
    cases hno:t.noOwn with
    |true=>
     rw[hno,cond_true] at h
     obtain⟨ys,news,r2,h,sx⟩:=zis (P:=P) hh hx h
     replace h:=zy h;obtain⟨hroom,h⟩:=h
     rw[zo,z2] at h
     have hl':(hp.set id .gone).length=hp.length:=by simp
     exact zai hC hi hk hS hd hel r1 r2 so sx hroom hxl g3 g4 hmt hcur (OwnsL.plain hno _ _) (by rw[hl'];exact h)
    |false=>
     rw[hno,cond_false,zo] at h
     obtain⟨hp2,ys,news,hh2,r2,h,sx,ho2,hw2,hset⟩:=zn4 (P:=P) hd hx h
     replace h:=zy h;obtain⟨hroom,h⟩:=h
     rw[z2] at h
     have hmt2: ∀ b,le.blk=some b→MayTurn B E hp2 b:=fun b hb=>by
      rcases hset with rfl|⟨j,rfl⟩
      ·exact hmt b hb
      ·exact(hmt b hb).drop j
     have ho1':OwnsL B E hp2 w t (zL xs len) olds:=by
      rcases hset with rfl|⟨j,rfl⟩
      ·exact ho1
      ·exact ho1.drop j
     exact zai hC hi hk hS hh2 hel r1 r2 so sx hroom hxl g3 g4 hmt2 hcur (OwnsL.app (zF (zc t) r1) ho1' ho2 (ho1.free.apart hw2)) h
 case h_4=>cases h
theorem zr0 {s:SV} {v:Value} (h:s.isOne=true) (hs:s.sat E v):v.oneCell'=true:=by
 cases s<;>simp only[SV.isOne] at h<;>(try (cases h;done))<;>simp only[SV.sat] at hs
 case bit=>subst hs;rfl
 case val t x=>
  obtain⟨cs,h1,h2⟩:=hs
  have hl:=zc _ _ _ h1
  rw[Ty.size_one h] at hl
  obtain⟨u,rfl⟩: ∃ u,cs= [u]:=by
   match cs,hl with
   | [u],_=>exact⟨u,rfl⟩
  have:v=u:=by rw[h2,zG,Ty.one_not_agg h];rfl
  rw[this]
  exact zH _ _ _ h1 u (by simp)
 case nils=>subst hs;rfl
 case nil0=>obtain⟨_,hv⟩:=hs;rw[hv];rfl
 case own=>obtain⟨_,_,_,hv⟩:=hs;rw[hv];rfl
 case nilp=>subst hs;rfl
 case ptr=>obtain⟨_,_,_,_,hv⟩:=hs;rw[hv];rfl
 case elt=>obtain⟨_,_,_,_,_,hv⟩:=hs;rw[hv];rfl
 case vw=>obtain⟨_,_,_,_,_,hv,_⟩:=hs;rw[hv];rfl
 case mp=>obtain⟨_,_,_,_,hv⟩:=hs;rw[hv];rfl
 case ro=>obtain⟨_,_,_,hv,_⟩:=hs;rw[hv];rfl
 case fn=>obtain⟨_,hv,_⟩:=hs;rw[hv];rfl
theorem zfo: ∀ {l:List SV} {vs:List Value},zmn l=true→SV.satL E l vs→ ∀ v∈vs,v.oneCell'=true
 | [],vs,_,h=>by simp[SV.satL] at h;subst h;simp
 |s::l,vs,hl,h=>by
  simp only[zmn,Bool.and_eq_true] at hl
  simp only[SV.satL] at h
  obtain⟨v,ws,e,h1,h2⟩:=h
  intro u hu
  rw[e] at hu
  rcases List.mem_cons.1 hu with hu|hu
  ·subst hu;exact zr0 hl.1 h1
  ·exact zfo hl.2 h2 u hu
theorem zf0 {T:TypeId} {i:TI} (hT:TIok P T i) {b off:Nat} {c:Array Value} {U:TypeId} (hb:w.heap[b]? =some (.cells c U (0,0))) {v:Value} (hv:v.cells.size=i.size) (h1: ∀ u∈v.cells.toList,u.oneCell'=true)
  (hl:off+i.size≤c.size):(storeVar T ⟨b,off,none⟩ v).run P w= .ok () (w.setRow b (c.toList.take off++v.cells.toList++c.toList.drop (off+i.size)).toArray):=by
 have hst:=run_storeCells_at P b off U v.cells.toList 0 c w hb (by simpa [hv] using hl) h1
 simp only[Nat.add_zero,Array.length_toList,hv] at hst
 simp[storeVar,hT.sizeOf,hv,hst]
theorem zb3 (w:World) (b:Nat) (c:Array Value):w.grownBy (w.setRow b c) (some b):=
 ⟨rfl,rfl,rfl,by simp,fun k _ hk=>setRow_other w b k _ (fun e=>hk (by simp[e]))⟩
theorem zt5 {M:Mem} {f:Ty}: ∀ {i:Nat} {x:f.den} {cs:List Value} {g:(u:Ty)→u.den→(u.den→Option R)→Option R} {k:f.den→Option R} {u:Ty},Rep M f x cs→f.fieldTy i=some u→znw.fsetAux i f x g k=some r→
  ∃ x' pre mid post A D,cs=pre++(mid++post)∧pre.length=f.fieldOff i∧Rep M u x' mid∧zhm f i x=some ⟨u,x'⟩∧tailsT f x cs=A++(tailsT u x' mid++D)∧(∀ w,TokT M w f x cs→TokT M w u x' mid)∧
   ∃ k',g u x' k'=some r∧ ∀ y mid',k' y=some r→Rep M u y mid'→ ∃ z,k z=some r∧Rep M f z (pre++(mid'++post))∧tailsT f z (pre++(mid'++post))=A++(tailsT u y mid'++D)∧ ∀ w,TokT M w f x cs→TokT M w u y mid'→TokT M w f z (pre++(mid'++post)):=by
 induction f with
 |pair a b iha ihb=>
  intro i x cs g k u h hu hk
  obtain⟨c1,c2,e,h1,h2⟩:=h
  have hl1:=zc _ _ _ h1
  subst e
  cases i with
  |zero=>
   simp only[Ty.fieldTy,Option.some.injEq] at hu
   subst hu
   refine⟨x.1, [],c1,c2, [],tailsT b x.2 c2,by simp,by simp[Ty.fieldOff],h1,rfl, ?_,fun w ht=> ?_,_,hk,fun y mid' hy hr=>⟨_,hy,⟨mid',c2,by simp,hr,h2⟩, ?_,fun w ht hy'=> ?_⟩⟩
   ·simp only[tailsT, ← hl1,List.take_left,List.drop_left,List.nil_append]
   ·simp only[TokT, ← hl1,List.take_left,List.drop_left] at ht;exact ht.1
   ·have hl:=zc _ _ _ hr
    simp only[tailsT,List.nil_append, ← hl,List.take_left,List.drop_left]
   ·have hl:=zc _ _ _ hr
    simp only[TokT, ← hl1,List.take_left,List.drop_left] at ht
    simp only[TokT,List.nil_append, ← hl,List.take_left,List.drop_left]
    exact⟨hy',ht.2⟩
  |succ i=>
   simp only[Ty.fieldTy] at hu
   obtain⟨x',pre,mid,post,A,D,e1,e2,e3,e6,e7,e8,k',e4,e5⟩:=ihb h2 hu hk
   refine⟨x',c1++pre,mid,post,tailsT a x.1 c1++A,D,by rw[e1];simp,by rw[List.length_append,e2,hl1];simp[Ty.fieldOff],e3,e6, ?_,fun w ht=> ?_,k',e4,fun y mid' hy hr=> ?_⟩
   ·simp only[tailsT, ← hl1,List.take_left,List.drop_left,e7,List.append_assoc]
   ·simp only[TokT, ← hl1,List.take_left,List.drop_left] at ht;exact e8 w ht.2
   ·obtain⟨z,hz,hrz,ht,hk⟩:=e5 y mid' hy hr
    refine⟨_,hz,⟨c1,pre++(mid'++post),by simp,h1,hrz⟩, ?_,fun w h1' h2'=> ?_⟩
    ·simp only[tailsT,List.append_assoc, ← hl1,List.take_left,List.drop_left,ht]
    ·simp only[TokT, ← hl1,List.take_left,List.drop_left] at h1'
     simp only[TokT,List.append_assoc, ← hl1,List.take_left,List.drop_left]
     exact⟨h1'.1,hk w h1'.2 h2'⟩
 |_=>
  intro i x cs g k u h hu hk
  cases i with
  |zero=>
   simp only[Ty.fieldTy,Option.some.injEq] at hu
   subst hu
   exact⟨x, [],cs, [], [], [],by simp,by simp[Ty.fieldOff],h,rfl,by simp,fun _ h=>h,k,hk,fun y mid' hy hr=>⟨y,hy,by simpa using hr,by simp,fun w _ hy'=>by simpa using hy'⟩⟩
  |succ i=>simp[Ty.fieldTy] at hu
theorem zic {M:Mem}: ∀ {p:List Nat} {t:Ty} {x:t.den} {cs:List Value} {u:Ty} {y:u.den} {mid':List Value} {k:t.den→Option R},Rep M t x cs→qI p t=some u→Rep M u y mid'→znw p t x u y k=some r→
  ∃ z pre mid post x' A D,k z=some r∧cs=pre++(mid++post)∧pre.length=t.pathOff p∧mid.length=u.size∧Rep M t z (pre++(mid'++post))∧Rep M u x' mid∧zc3 p t x=some ⟨u,x'⟩∧tailsT t x cs=A++(tailsT u x' mid++D)∧
   (∀ w,TokT M w t x cs→TokT M w u x' mid)∧tailsT t z (pre++(mid'++post))=A++(tailsT u y mid'++D)∧ ∀ w,TokT M w t x cs→TokT M w u y mid'→TokT M w t z (pre++(mid'++post))
 | [],t,x,cs,u,y,mid',k,h,hu,hy,hk=>by
  simp only[qI,Option.some.injEq] at hu
  subst hu
  simp only[znw,dif_pos] at hk
  exact⟨y, [],cs, [],x, [], [],hk,by simp,by simp[Ty.pathOff],zc _ _ _ h,by simpa using hy,h,rfl,by simp,fun _ h=>h,by simp,fun w _ hy'=>by simpa using hy'⟩
 |i::p, .st f,x,cs,u,y,mid',k,h,hu,hy,hk=>by
  simp only[qI] at hu
  cases hft:f.fieldTy i with
  |none=>rw[hft] at hu;cases hu
  |some q=>
   rw[hft] at hu
   simp only at hu
   simp only[znw] at hk
   obtain⟨x',pre,mid,post,A,D,e1,e2,e3,e6,e7,e8,k',e4,e5⟩:=zt5 (M:=M) (f:=f) h hft hk
   obtain⟨z,pre',m',post',x2,A',D',f1,f2,f3,f4,f5,f6,f7,f8,f9,f10,f11⟩:=zic e3 hu hy e4
   obtain⟨z',g1,g2,g3,g4⟩:=e5 z _ f1 f5
   have hsh:pre++pre'++(mid'++(post'++post))=pre++(pre'++(mid'++post')++post):=by simp
   refine⟨z',pre++pre',m',post'++post,x2,A++A',D'++D,g1,by rw[e1,f2];simp,by rw[List.length_append,e2,f3];simp[Ty.pathOff,hft],f4,by rw[hsh];exact g2,f6, ?_, ?_,fun w ht=>f9 w (e8 w ht), ?_,fun w h1 h2=> ?_⟩
   ·simp only[zc3,e6];exact f7
   ·show tailsT f x cs=_
    rw[e7,f8];simp
   ·rw[hsh]
    show tailsT f z' _=_
    rw[g3,f10];simp
   ·rw[hsh]
    exact g4 w h1 (f11 w (e8 w h1) h2)
 |i::p, .int _,x,cs,u,y,mid',k,h,hu,hy,hk=>by simp[qI] at hu
 |i::p, .bool,x,cs,u,y,mid',k,h,hu,hy,hk=>by simp[qI] at hu
 |i::p, .str,x,cs,u,y,mid',k,h,hu,hy,hk=>by simp[qI] at hu
 |i::p, .flt,x,cs,u,y,mid',k,h,hu,hy,hk=>by simp[qI] at hu
 |i::p, .cplx,x,cs,u,y,mid',k,h,hu,hy,hk=>by simp[qI] at hu
 |i::p, .unit,x,cs,u,y,mid',k,h,hu,hy,hk=>by simp[qI] at hu
 |i::p, .sl _,x,cs,u,y,mid',k,h,hu,hy,hk=>by simp[qI] at hu
 |i::p, .osl _,x,cs,u,y,mid',k,h,hu,hy,hk=>by simp[qI] at hu
 |i::p, .arr _ _,x,cs,u,y,mid',k,h,hu,hy,hk=>by simp[qI] at hu
 |i::p, .pair _ _,x,cs,u,y,mid',k,h,hu,hy,hk=>by simp[qI] at hu
theorem zqv (hh:Hp B E hp w) {id:Nat} {U:TypeId} {t:Ty} {xs:List t.den} {e:LE} {b:Nat} {c:Array Value} {post:List Value} (h1:hp[id]? =some (.arr U t xs)) (e1:E.L[id]? =some e) (hb:e.blk=some b) (hc:w.heap[b]? =some (.cells c U (0,0)))
  {j:Nat} (hj:j<xs.length) {p1 c1 q1 pre mid post':List Value} (s2:p1.length=j*t.size) (hcl:c.toList=(p1++(c1++q1))++post) (hdl:(p1++(c1++q1)).length=xs.length*t.size) (hc1:c1.length=t.size) {u:Ty} {z:t.den} {x' y:u.den} {mid':List Value} {A D:List Nat} (hz:(pre++(mid'++post')).length=t.size)
  (k8:tailsT t xs[j] c1=A++(tailsT u x' mid++D)) (k10:tailsT t z (pre++(mid'++post'))=A++(tailsT u y mid'++D)) (k11:TokT E.M w t xs[j] c1→TokT E.M w u y mid'→TokT E.M w t z (pre++(mid'++post')))
  (hy:TokT E.M w u y mid') (hfree:FreeT B E hp w (tailsT u y mid')) {c':Array Value} (hc':c'.toList=(p1++((pre++(mid'++post'))++q1))++post) (hrow:w'.heap[b]? =some (.cells c' U (0,0))) (hoth: ∀ k,b≠k→w'.heap[k]? =w.heap[k]?):
  (HO.arr U t (xs.set j z)).tok E.M w' e∧((HO.arr U t (xs.set j z)).tails w' e).Nodup∧(∀ x∈(HO.arr U t (xs.set j z)).tails w' e,x∈(HO.arr U t xs).tails w e∨((B.w0.heap.size≤x∨B.W x)∧E.M x≠none∧ ∀ (j:Nat) (o2:HO) (e2:LE),hp[j]? =some o2→E.L[j]? =some e2→x∉o2.tails w e2))∧
   ∃ F G,(HO.arr U t xs).tails w e=F++(tailsT u x' mid++G)∧(HO.arr U t (xs.set j z)).tails w' e=F++(tailsT u y mid'++G):=by
 obtain⟨t1,t2,t3⟩:=hh.tok _ _ _ h1 e1
 have hdl':(p1++((pre++(mid'++post'))++q1)).length=(xs.set j z).length*t.size:=by
  rw[List.length_set, ← hdl];simp only[List.length_append] at hz ⊢;omega
 obtain⟨F0,G0,n1,n2⟩:=zn6 (f:=tailsT t) hj s2 hc1 (q:=q1)
 have hold:(HO.arr U t xs).tails w e=F0++(tailsT t xs[j] c1++G0):=by
  simp only[HO.tails,hb,hc,hcl];rw[xB hdl,n1]
 have hnew:(HO.arr U t (xs.set j z)).tails w' e=F0++(tailsT t z (pre++(mid'++post'))++G0):=by
  simp only[HO.tails,hb,hrow,hc'];rw[xB hdl',n2 z _ hz]
 rw[k8] at hold
 rw[k10] at hnew
 have hTok:TokN (TokT E.M w t) t.size (xs.set j z) (p1++((pre++(mid'++post'))++q1)):=by
  have h0:=t1 b c U _ hb hc
  rw[hcl,jA hdl] at h0
  obtain⟨m1,m2⟩:=zof hj s2 hc1 h0
  exact m2 z _ hz (k11 m1 hy)
 have hmem: ∀ x∈F0++(A++(tailsT u y mid'++D)++G0),x∈(HO.arr U t xs).tails w e∨x∈tailsT u y mid':=by
  intro x hx
  rw[hold]
  simp only[List.mem_append] at hx ⊢
  rcases hx with hx|(hx|hx|hx)|hx
  ·exact .inl (.inl hx)
  ·exact .inl (.inr (.inl (.inl hx)))
  ·exact .inr hx
  ·exact .inl (.inr (.inl (.inr (.inr hx))))
  ·exact .inl (.inr (.inr hx))
 have hbn: ∀ x∈F0++(A++(tailsT u y mid'++D)++G0),E.M x≠none∧x≠b:=by
  intro x hx
  have hm:E.M x≠none:=by
   rcases hmem x hx with h|h
   ·exact(t3 x h).1
   ·exact(hfree.2 x h).1.1
  exact⟨hm,fun hxb=>hm (by rw[hxb];exact(hh.free _ _ _ _ h1 rfl e1 hb).1)⟩
 refine⟨fun b' c2 V f hb' hc2=> ?_, ?_,fun x hx=> ?_,F0++A,D++G0, ?_, ?_⟩
 ·rw[hb] at hb'
  cases hb'
  rw[hrow] at hc2
  cases hc2
  rw[hc',jA hdl']
  refine x9 (g:=tailsT t) (P:=zbk E.M E.M w w') (fun x cs hb h=>qK (Mem.le_refl _) t x cs hb h) (fun x hx=>⟨hoth x (fun e=> ?_),rfl⟩) hTok
  rw[n2 z _ hz,k10] at hx
  exact(hbn x hx).2 e.symm
 ·rw[hnew]
  rw[hold] at t2
  have hap: ∀ x∈tailsT u y mid',x∉F0++(A++(tailsT u x' mid++D)++G0):=fun x hx hx'=>(hfree.2 x hx).2 id _ e h1 e1 (by rw[hold];exact hx')
  simp only[List.nodup_append,List.mem_append,List.append_assoc] at t2 hap ⊢
  obtain⟨u1,⟨u2,⟨u3,⟨u4,u5,u6⟩,u7⟩,u8⟩,u9⟩:=t2
  refine⟨u1,⟨u2,⟨hfree.1,⟨u4,u5,u6⟩,fun a ha b hb hab=> ?_⟩,fun a ha b hb hab=> ?_⟩,fun a ha b hb hab=> ?_⟩
  ·subst hab
   exact hap a ha (by rcases hb with hb|hb<;>simp[hb])
  ·subst hab
   rcases hb with hb|hb
   ·exact hap a hb (by simp[ha])
   ·exact u8 a ha a (.inr hb) rfl
  ·subst hab
   rcases hb with hb|hb|hb
   ·exact u9 a ha a (.inl hb) rfl
   ·exact hap a hb (by simp[ha])
   ·exact u9 a ha a (.inr (.inr hb)) rfl
 ·rw[hnew] at hx
  rcases hmem x hx with h|h
  ·exact .inl h
  ·exact .inr ⟨(hfree.2 x h).1.2,(hfree.2 x h).1.1,(hfree.2 x h).2⟩
 ·rw[hold];simp
 ·rw[hnew];simp
theorem zna (hC:C.ok P) (hh:Hp B E hp w) {T:TypeId} {i:TI} (hi:(T,i)∈C.TT) {x s:SV} {vx v:Value} (hx:x.sat E vx) (hs:s.sat E v) (h:zb1 i x s hp k=some r):
  ∃ E' hp' w',E.le E'∧Hp B E' hp' w'∧k .skip hp'=some r∧(Instr.storeAt T vx v).run P w= .ok () w':=by
 have hT:=hC.types _ _ hi
 unfold zb1 at h
 split at h
 case h_3=>cases h
 case h_1 id off=>
  obtain⟨l',l1,h⟩:=zc9 hs h
  cases hc:(Nat.beq l'.length i.size&&zmn l') with
  |false=>rw[hc] at h;cases h
  |true=>
   rw[hc] at h
   simp only[Bool.and_eq_true] at hc
   have hl':=Nat.eq_of_beq_eq_true hc.1
   simp only[cond_true] at h
   replace h:=ze h;obtain⟨ob,h1,h⟩:=h
   simp only[SV.sat] at hx
   obtain⟨e,b,e1,e2,e3⟩:=hx
   subst e3
   have hob:=hh.ob _ _ _ h1 e1
   split at h
   case h_2=>cases h
   case h_1 l=>
    obtain⟨b',c,U,e4,e5,e6⟩:=hob
    rw[e2] at e4
    cases e4
    cases hle:Nat.ble (off+i.size) l.length with
    |false=>rw[hle] at h;cases h
    |true=>
     rw[hle] at h
     have hle':=Nat.le_of_ble_eq_true hle
     rw[cond_true,zo] at h
     have hcl:=SV.satL_length e6
     have hcv:=SV.satL_length l1
     simp only[Array.length_toList] at hcl hcv
     have hrun:=zf0 (P:=P) hT e5 (v:=v) (off:=off) (by omega) (zfo hc.2 l1) (by omega)
     refine⟨E,_,_,Env.le_refl E,hh.turn (o':= .cells (l.take off++(l'++l.drop (off+i.size)))) h1 rfl e1 e2 (zb3 w b _) ?_ ⟨trivial,List.nodup_nil,fun x hx=>by simp[HO.tails] at hx⟩,h,by simp only[Instr.storeAt,Instr.sureAddr,Sem.run_bind,Sem.run_pure,Result.andThen_ok];exact hrun⟩
     refine⟨b,_,U,e2,setRow_heap w b c _ U _ e5, ?_⟩
     simp only[List.append_assoc]
     have q1:SV.satL E (l.take off) (c.toList.take off):=by have:=qs e6 0 off;simpa using this
     have q2:SV.satL E (l.drop (off+i.size)) (c.toList.drop (off+i.size)):=by
      have:=qs e6 (off+i.size) l.length
      rw[List.take_of_length_le (by simp),List.take_of_length_le (by simp;omega)] at this
      exact this
     exact SV.satL_append q1 (SV.satL_append l1 q2)
 case h_2 id t j p=>
  split at h
  case h_2=>cases h
  case h_1 u hpt=>
   cases hfit:fits i u with
   |false=>rw[hfit] at h;cases h
   |true=>
    rw[hfit,cond_true] at h
    obtain⟨f1,f2,f3⟩:=zb2 hfit
    obtain⟨E',hp',y,fz,⟨mid',y1,y2,y3,y4⟩,h⟩:=zg9 hh hs h
    replace h:=ze h;obtain⟨ob,h1,h⟩:=h
    split at h
    case h_2=>cases h
    case h_1 U t' xs=>
     split at h
     case isFalse=>cases h
     case isTrue ht=>
      subst ht
      simp only at h
      simp only[SV.sat] at hx
      obtain⟨e,b,e1,e2,e3,e4⟩:=hx
      subst e4
      have e1':E'.L[id]? =some e:=by rw[fz.L];exact e1
      have hob:=fz.heap.ob _ _ _ h1 e1'
      obtain⟨g1,g2,g3,g4,g5⟩:=hob
      obtain⟨c,d,post,g6,g7,g8,g9⟩:=g5 b e2
      have hj:j<xs.length:=by omega
      obtain⟨p1,c1,q1,s1,s2,s3,s4⟩:=q9 (zc t') j hj g8
      rw[zcl hj] at h
      obtain⟨z,pre,mid,post',x',A,D,k1,k2,k3,k4,k5,k6,k7,k8,k9,k10,k11⟩:=zic (M:=E'.M) s3 hpt y1 h
      rw[zo] at k1
      have hml:=zc _ _ _ y1
      have hsz:(zG u mid').cells.toList=mid':=zdq y1 (fun ha=>f3 (by rw[f2,ha]))
      have hcells:v.cells.toList=mid':=by rw[y2];exact hsz
      have hsize:v.cells.size=i.size:=by rw[← Array.length_toList,hcells,hml,f1]
      have hcc:c.toList=(p1++pre)++(mid++(post'++(q1++post))):=by rw[g7,s1,k2];simp
      have hoff:(p1++pre).length=j*t'.size+t'.pathOff p:=by rw[List.length_append,s2,k3]
      have hfit':j*t'.size+t'.pathOff p+i.size≤c.size:=by
       have:=congrArg List.length hcc
       simp only[List.length_append,Array.length_toList] at this hoff
       omega
      have hrun:=zf0 (P:=P) hT g6 (v:=v) (off:=j*t'.size+t'.pathOff p) hsize (by rw[hcells];exact zH _ _ _ y1) hfit'
      have ht1:c.toList.take (j*t'.size+t'.pathOff p)=p1++pre:=by rw[hcc, ← hoff,List.take_left]
      have ht2:c.toList.drop (j*t'.size+t'.pathOff p+i.size)=post'++(q1++post):=by
       rw[hcc, ← hoff, ← List.append_assoc, ← List.append_assoc,List.append_assoc (p1++pre++mid)]
       rw[List.drop_left' (by simp only[List.length_append];omega)]
      rw[hcells,ht1,ht2] at hrun
      obtain⟨w1,w2,w3,_⟩:=zqv fz.heap h1 e1' e2 g6 hj s2 (post:=post) (by rw[g7,s1]) (by rw[← s1];exact zF (zc t') g8) (zc _ _ _ s3) (zc _ _ _ k5) k8 k10 (k11 w) y3 y4.free (c':=(p1++pre++mid'++(post'++(q1++post))).toArray) (by simp) (setRow_heap w b c _ U _ g6) (fun k hk=>setRow_other w b k _ (Ne.symm hk))
      refine⟨E',_,_,fz.le,fz.heap.turn (o':= .arr U t' (xs.set j z)) h1 rfl e1' e2 (zb3 w b _) ?_ ⟨w1,w2,w3⟩,k1,by simp only[Instr.storeAt,Instr.sureAddr,Sem.run_bind,Sem.run_pure,Result.andThen_ok];exact hrun⟩
      refine⟨by simpa using g1,g2,g3,g4,fun b' hb'=> ?_⟩
      rw[e2] at hb'
      cases hb'
      refine⟨_,p1++((pre++(mid'++post'))++q1),post,setRow_heap w b c _ U _ g6,by simp,s4 z _ k5, ?_⟩
      have:=congrArg List.length hcc
      simp only[List.length_append,Array.length_toList] at this
      simp only[List.size_toArray,List.length_append]
      omega
theorem zpr {T:TypeId} {x y:Operand} (hC:C.ok P) (hh:Hp B E hp w) (hf:SV.satL E fr a.tmps.toList) (hg:C.globsOk E.M) (ho:o.op= .store T x y)
  (h:(zq C.TT T fun i=>opd C fr x fun x=>opd C fr y fun v=>zb1 i x v hp k)=some r):zf2 P B E a o w k r:=by
 replace h:=zd h;obtain⟨i,hi,h⟩:=h
 replace h:=zh hf hg h;obtain⟨sx,x1,h⟩:=h
 replace h:=zh hf hg h;obtain⟨sy,y1,h⟩:=h
 obtain⟨E',hp',w',h1,h2,h3,h4⟩:=zna hC hh hi x1 y1 h
 exact⟨E',hp', .skip,undef,w',h1,h2,by simp[SV.sat],h3, .inr ⟨by simp[execOp,ho,h4],rfl⟩⟩
theorem zlo {T:TypeId} {n:Option Operand} {k:SV→List HO→Option R} (hC:C.ok P) (hh:Hp B E hp w) (hf:SV.satL E fr a.tmps.toList) (hg:C.globsOk E.M) (ho:o.op= .makeMap T n)
  (h:(zq C.TT T fun i=>jg C fr i n hp k)=some r):zf2 P B E a o w k r:=by
 replace h:=zd h;obtain⟨i,hi,h⟩:=h
 unfold jg at h
 split at h
 case h_2=>cases h
 case h_1 Kt Vt hk=>
  replace h:=zd h;obtain⟨ki,hK,h⟩:=h
  replace h:=zd h;obtain⟨vi,hV,h⟩:=h
  split at h
  case h_2=>cases h
  case h_1 K V _ _=>
   have hTu:=(hC.types _ _ hi).kind
   rw[hk] at hTu
   simp only at hTu
   have fin:(jr hp (.map K V []) fun hp'=>k (.mp hp.length) hp')=some r→(∀ v,n.map a.eval=some v→ ∃ kk m,v= .int kk m)→zf2 P B E a o w k r:=by
    intro h hn
    rw[z2] at h
    refine⟨E.snoc ⟨some w.heap.size,0,0,none⟩,_,_, .map (some w.heap.size),w.alloc (.map #[] 0),Env.le_snoc E _, ?_, ?_,h, .inl ?_⟩
    ·refine hh.push (T:=none) (e':=⟨some w.heap.size,0,0,none⟩) (World.grownBy_alloc w _ none) (fun b hb=>by cases hb) (fun b hb=> .inl (by cases hb;exact Nat.le_refl _)) ?_ ⟨trivial,rfl⟩
     exact⟨w.heap.size, #[],0,rfl,heap_alloc_new w _,rfl,jN.nil 0⟩
    ·simp only[SV.sat]
     refine⟨⟨some w.heap.size,0,0,none⟩,w.heap.size, ?_,rfl,rfl⟩
     show(E.L++ [_])[hp.length]? =_
     rw[← hh.len];simp
    ·cases n with
     |none=>simp[execOp,ho,Instr.makeMap]
     |some x=>
      obtain⟨kk,m,hv⟩:=hn _ rfl
      simp[execOp,ho,Instr.makeMap,run_underlying hTu,hv,asInt,asIntOf]
   cases n with
   |none=>exact fin (by simpa [zvn] using h) (fun v hv=>by cases hv)
   |some x=>
    simp only[zvn] at h
    replace h:=zh hf hg h;obtain⟨s,s1,h⟩:=h
    replace h:=ql s1 h;obtain⟨j,m,em,h⟩:=h
    exact fin h (fun v hv=>⟨j,m,by simp at hv;rw[← hv,em]⟩)
theorem zf5 (hC:C.ok P) (hh:Hp B E hp w) {T:TypeId} {i:TI} (hi:(T,i)∈C.TT) {m y s:SV} {vm vy v:Value} {k:SV→List HO→Option R} (hm:m.sat E vm) (hy:y.sat E vy) (hs:s.sat E v) (h:qn C i m y s hp k=some r):
  ∃ E' hp' w',E.le E'∧Hp B E' hp' w'∧k .skip hp'=some r∧(Instr.mapUpdate T vm vy v).run P w= .ok () w':=by
 have hT:=hC.types _ _ hi
 unfold qn at h
 split at h
 case h_2=>cases h
 case h_1 Kt Vt id t y hk=>
  replace h:=zd h;obtain⟨ki,hK,h⟩:=h
  replace h:=zd h;obtain⟨vi,hV,h⟩:=h
  split at h
  case h_2=>cases h
  case h_1 V hVt=>
   obtain⟨E',hp',x,fz,⟨cv,y1,y2⟩,h⟩:=zjt hh hs h
   replace h:=ze h;obtain⟨ob,h1,h⟩:=h
   split at h
   case h_2=>cases h
   case h_1 K V' es=>
    cases hc:decide (zo7 ki=some K) with
    |false=>rw[hc] at h;cases h
    |true=>
     rw[hc,cond_true] at h
     simp only[decide_eq_true_eq] at hc
     replace h:=zB h;obtain⟨⟨ht,hV'⟩,h⟩:=h
     subst ht
     subst hV'
     simp only at h
     unfold zo7 at hc
     split at hc
     case h_2=>cases hc
     case h_1 kk hkk=>
      simp only[Option.some.injEq] at hc
      subst hc
      have hKu:=(hC.types _ _ hK).kind
      rw[hkk] at hKu
      simp only at hKu
      have hTu:=hT.kind
      rw[hk] at hTu
      simp only at hTu
      simp only[SV.sat] at hm hy
      obtain⟨e,b,e1,e2,e3⟩:=hm
      have ey:=xm hy
      subst ey
      subst e3
      have e1':E'.L[id]? =some e:=by rw[fz.L];exact e1
      obtain⟨b',arr,clock,g1,g2,g3,gst⟩:=fz.heap.ob _ _ _ h1 e1'
      rw[e2] at g1
      cases g1
      rw[zo] at h
      have hlt:=qb g2
      have hck:=zfi (P:=P) (w:=w) hKu y false 9999
      have grown: ∀ o',w.grownBy { w with heap:=w.heap.setIfInBounds b o'} (some b):=fun o'=>
       ⟨rfl,rfl,rfl,by simp,fun k _ hkb=>by
        have:b≠k:=fun e=>hkb (by rw[e])
        simp[this]⟩
      have hset: ∀ o',(w.heap.setIfInBounds b o')[b]? =some o':=fun o'=>by simp[hlt]
      have hso: ∀ o',(setObj b o').run P w= .ok () { w with heap:=w.heap.setIfInBounds b o'}:=fun o'=>by simp[setObj,Sem.run,g2]
      rcases zdh (n:=y) 0 g3 with ⟨q1,q2,q3⟩|⟨j,x0,m,cv0,q1,q2,q3,q4,q5,q6,q7⟩
      ·refine⟨E',_,_,fz.le,fz.heap.turn (o':= .map (.int kk) V' (zpd (K:= .int kk) es y x)) h1 rfl e1' e2 (grown (.map (arr.push { key:= .int kk y,val:=v,born:=clock}) (clock+1))) ?_ ⟨trivial,List.nodup_nil,fun x hx=>by simp[HO.tails] at hx⟩,h, ?_⟩
       ·refine⟨b,_,_,e2,hset _, ?_,by rw[Array.toList_push];exact gst.snoc rfl⟩
        have:=q3 x v cv clock y1 y2
        simpa using this
       ·simp[Instr.mapUpdate,run_underlying hTu,za0 g2,hck,Instr.findKey,run_underlying hKu,q2,hso]
      ·have hj:arr[j]? =some m:=by simpa using q3
       have hks: ∀ (w':World),(Instr.keyThatStays (((arr[j]?).map (·.key)).getD (.int kk y)) (.int kk y)).run P w'= .ok (.int kk y) w':=fun w'=>by
        rw[hj]
        have hb:Instr.sameBits 10000 (Value.int kk y) (Value.int kk y)=true:=by
         rw[Instr.sameBits]
         simp
        simp[Instr.keyThatStays,q6,hb]
       refine⟨E',_,_,fz.le,fz.heap.turn (o':= .map (.int kk) V' (zpd (K:= .int kk) es y x)) h1 rfl e1' e2 (grown (.map (arr.modify j fun e=>{ e with key:= .int kk y,val:=v}) clock)) ?_ ⟨trivial,List.nodup_nil,fun x hx=>by simp[HO.tails] at hx⟩,h, ?_⟩
       ·refine⟨b,_,_,e2,hset _, ?_⟩
        have:=q7 x v cv y1 y2
        have q3':=gst.set q3 (m':={ m with key:= .int kk y,val:=v}) rfl
        have hmod:(arr.modify j fun e=>{ e with key:= .int kk y,val:=v}).toList=arr.toList.set j { m with key:= .int kk y,val:=v}:=by
         apply List.ext_getElem?
         intro n
         have hjl:j<arr.size:=(Array.getElem?_eq_some_iff.1 hj).1
         have hjm:arr[j]=m:=(Array.getElem?_eq_some_iff.1 hj).2
         rw[Array.getElem?_toList,Array.getElem?_modify,List.getElem?_set]
         by_cases hn:j=n
         ·subst hn;simp[hjl,hjm]
         ·simp[hn]
        rw[hmod]
        exact⟨this,q3'⟩
       ·rw[Nat.zero_add] at q2
        simp[Instr.mapUpdate,run_underlying hTu,za0 g2,hck,Instr.findKey,run_underlying hKu,q2,hks,hso]
theorem zb5 {T:TypeId} {m y v:Operand} {k:SV→List HO→Option R} (hC:C.ok P) (hh:Hp B E hp w) (hf:SV.satL E fr a.tmps.toList) (hg:C.globsOk E.M) (ho:o.op= .mapUpdate T m y v∨o.op= .insert T m y v)
  (h:(zq C.TT T fun i=>opd C fr m fun m=>opd C fr y fun y=>opd C fr v fun v=>qn C i m y v hp k)=some r):zf2 P B E a o w k r:=by
 replace h:=zd h;obtain⟨i,hi,h⟩:=h
 replace h:=zh hf hg h;obtain⟨sm,m1,h⟩:=h
 replace h:=zh hf hg h;obtain⟨sy,y1,h⟩:=h
 replace h:=zh hf hg h;obtain⟨sv,v1,h⟩:=h
 obtain⟨E',hp',w',h1,h2,h3,h4⟩:=zf5 hC hh hi m1 y1 v1 h
 exact⟨E',hp', .skip,undef,w',h1,h2,by simp[SV.sat],h3, .inr ⟨by rcases ho with ho|ho<;>simp[execOp,ho,h4],rfl⟩⟩
theorem zu0 {T S:TypeId} {t:Ty} {f:TypeInfo} {z:Value} (hu:P.underlying T=some (.slice S)) (hi:P.info? S=some f) (hz:f.zero=some z) (hzs:z.cells.size=t.size) (h1:0<t.size) {b off cap n:Nat} {c:Array Value} {U:TypeId}
  (hb:w.heap[b]? =some (.cells c U (0,0))) (hone: ∀ u∈z.cells.toList,u.oneCell'=true) (hfit:off+n*t.size≤c.size) (hn:n≠0) (ty:TypeId):
  (Builtin.clear_ #[T] ty #[.slice (some ⟨b,off,none⟩) n cap]).run P w= .ok (.tuple #[]) (w.setRow b (c.toList.take off++(List.replicate n z.cells.toList).flatten++c.toList.drop (off+n*t.size)).toArray):=by
 have hzl:(Builtin.zeroCells z.cells n).toList=(List.replicate n z.cells.toList).flatten:=zfl z.cells n (by omega)
 have hln:(List.replicate n z.cells.toList).flatten.length=n*t.size:=by
  rw[List.length_flatten];simp[hzs]
 have hst:=run_storeCells_at P b off U (List.replicate n z.cells.toList).flatten 0 c w hb (by rw[hln];simpa using hfit) (fun u hu=>by
  obtain⟨l,hl,hul⟩:=List.mem_flatten.1 hu
  rw[(List.mem_replicate.1 hl).2] at hul
  exact hone u hul)
 simp only[Nat.add_zero,hln] at hst
 have hzv:(zeroValue S).run P w= .ok z w:=by simp[zeroValue,qi hi,hz]
 obtain⟨m,rfl⟩: ∃ m,n=m+1:=⟨n - 1,by omega⟩
 simp[Builtin.clear_,run_underlying hu,hzv,hzl,hst]
theorem zm4 (hC:C.ok P) (hh:Hp B E hp w) {T S:TypeId} {i ei:TI} (hi:(T,i)∈C.TT) (hk:i.kind= .slice S) (hS:(S,ei)∈C.TT) {x:SV} {vx:Value} {k:SV→List HO→Option R} (hx:x.sat E vx) (h:zbx C S ei x hp k=some r):
  ∃ hp' s' w',Hp B E hp' w'∧s'.sat E (.tuple #[])∧k s' hp'=some r∧ ∀ ty,(Builtin.clear_ #[T] ty #[vx]).run P w= .ok (.tuple #[]) w':=by
 have hu:=(hC.types _ _ hi).slice hk
 have hst:SV.sat E (.tup []) (.tuple #[]):=by simp only[SV.sat];exact⟨[],rfl,by simp[SV.satL]⟩
 have part: ∀ {id:Nat} {U:TypeId} {t:Ty} {xs:List t.den} {e:LE} {ad:Option Addr} {cap off n:Nat},hp[id]? =some (.arr U t xs)→E.L[id]? =some e→C.el S ei=some t→qG ei t=true→off+n≤e.len→
   (n=0∨ ∃ b,e.blk=some b∧ad=some ⟨b,off*t.size,none⟩)→k (.tup []) (hp.set id (.arr U t (xs.take off++(List.replicate n t.dflt++xs.drop (off+n)))))=some r→
   ∃ hp' s' w',Hp B E hp' w'∧s'.sat E (.tuple #[])∧k s' hp'=some r∧ ∀ ty,(Builtin.clear_ #[T] ty #[.slice ad n cap]).run P w= .ok (.tuple #[]) w':=by
  intro id U t xs e ad cap off n h1 e1 ht hel hle had hk'
  obtain⟨hs1,hs2,hs3,_⟩:=xv hel
  obtain⟨f,z,f1,f2,f3,f4,f6,_,f9⟩:=Ctx.el_ok (hC.types _ _ hS) ht
  have hob:=hh.ob _ _ _ h1 e1
  obtain⟨g1,g2,g3,g4,g5⟩:=hob
  by_cases hn:n=0
  ·subst hn
   have:xs.take off++(List.replicate 0 t.dflt++xs.drop (off+0))=xs:=by simp
   rw[this] at hk'
   have hid:hp.set id (.arr U t xs)=hp:=by
    apply List.ext_getElem?
    intro j
    rw[List.getElem?_set]
    split
    ·rename_i hj;subst hj
     rw[if_pos (List.getElem?_eq_some_iff.1 h1).1,h1]
    ·rfl
   rw[hid] at hk'
   refine⟨hp,_,w,hh,hst,hk',fun ty=> ?_⟩
   cases ad<;>simp[Builtin.clear_,run_underlying hu]
  ·obtain⟨b,hb,rfl⟩:=had.resolve_left hn
   obtain⟨c,d,post,k1,k2,k3,k4⟩:=g5 b hb
   have hdl:=zF (zc t) k3
   obtain⟨c1,d1,p1,p2,p3,p4⟩:=qc (zc t) off k3
   obtain⟨c2,d2,q1,q2,q3,q4⟩:=qc (zc t) n p3
   have hl1:c1.length=off*t.size:=by rw[p4,List.length_take,Nat.min_eq_left (by omega)]
   have hl2:c2.length=n*t.size:=by rw[q4,List.length_take,List.length_drop,Nat.min_eq_left (by omega)]
   have hcc:c.toList=c1++(c2++(d2++post)):=by rw[k2,p1,q1];simp
   have hz1: ∀ u∈z.cells.toList,u.oneCell'=true:=zH t t.dflt _ (f9 E.M)
   have hcs:c.size=c1.length+(c2.length+(d2.length+post.length)):=by rw[← Array.length_toList,hcc];simp
   have hrun:=fun ty=>zu0 (P:=P) (cap:=cap) hu f1 f4 (by rw[f6,hs1]) (by omega) k1 hz1 (off:=off*t.size) (n:=n) (by omega) hn ty
   have ht1:c.toList.take (off*t.size)=c1:=by rw[hcc, ← hl1,List.take_left]
   have ht2:c.toList.drop (off*t.size+n*t.size)=d2++post:=by
    rw[hcc, ← List.append_assoc,List.drop_left' (by rw[List.length_append,hl1,hl2])]
   rw[ht1,ht2] at hrun
   have q3':=q3
   rw[List.drop_drop] at q3'
   have hxs:xs=xs.take off++((xs.drop off).take n++xs.drop (off+n)):=by
    rw[← List.drop_drop (i:=n) (j:=off),List.take_append_drop,List.take_append_drop]
   have lt1:c1.length=(xs.take off).length*t.size:=p4
   have lt2:c2.length=((xs.drop off).take n).length*t.size:=q4
   have lz:(List.replicate n z.cells.toList).flatten.length=(List.replicate n t.dflt).length*t.size:=by
    rw[List.length_flatten];simp[f6,hs1]
   have lnew:(c1++((List.replicate n z.cells.toList).flatten++d2)).length=(xs.take off++(List.replicate n t.dflt++xs.drop (off+n))).length*t.size:=by
    have hd2:=zF (zc t) q3'
    simp only[List.length_append,Nat.add_mul,lt1,lz,hd2]
   have hown:=hh.tok _ _ _ h1 e1
   have htl:(HO.arr U t xs).tails w e=tailsN (tailsT t) t.size (xs.take off) c1++(tailsN (tailsT t) t.size ((xs.drop off).take n) c2++tailsN (tailsT t) t.size (xs.drop (off+n)) d2):=by
    simp only[HO.tails,hb,k1]
    rw[k2,xB hdl,p1,q1]
    conv=>lhs;rw[hxs]
    rw[zP lt1,zP lt2]
   have htk:TokN (TokT E.M w t) t.size (xs.take off) c1∧TokN (TokT E.M w t) t.size (xs.drop (off+n)) d2:=by
    have h0:=hown.1 b c U _ hb k1
    rw[k2,jA hdl,p1,q1] at h0
    rw[hxs,qj lt1,qj lt2] at h0
    exact⟨h0.1,h0.2.2⟩
   have hrow:=setRow_heap w b c (c1++(List.replicate n z.cells.toList).flatten++(d2++post)).toArray U _ k1
   have hnt:(HO.arr U t (xs.take off++(List.replicate n t.dflt++xs.drop (off+n)))).tails (w.setRow b (c1++(List.replicate n z.cells.toList).flatten++(d2++post)).toArray) e=tailsN (tailsT t) t.size (xs.take off) c1++tailsN (tailsT t) t.size (xs.drop (off+n)) d2:=by
    simp only[HO.tails,hb,hrow]
    rw[show c1++(List.replicate n z.cells.toList).flatten++(d2++post)=(c1++((List.replicate n z.cells.toList).flatten++d2))++post by simp,xB lnew,zP lt1,zP lz,zae (qX t),List.nil_append]
   have hsub:((HO.arr U t (xs.take off++(List.replicate n t.dflt++xs.drop (off+n)))).tails (w.setRow b (c1++(List.replicate n z.cells.toList).flatten++(d2++post)).toArray) e).Sublist ((HO.arr U t xs).tails w e):=by
    rw[hnt,htl]
    exact(List.Sublist.refl _).append (List.sublist_append_right _ _)
   refine⟨_,_,_,hh.turn (o':= .arr U t (xs.take off++(List.replicate n t.dflt++xs.drop (off+n)))) h1 rfl e1 hb (zb3 w b _) ?_ ⟨fun b' c' V g hb' hc'=> ?_,hown.2.1.sublist hsub,fun x hx=> .inl (hsub.subset hx)⟩,hst,hk',hrun⟩
   rotate_left
   ·rw[hb] at hb'
    cases hb'
    rw[hrow] at hc'
    cases hc'
    have hassoc:c1++(List.replicate n z.cells.toList).flatten++(d2++post)=(c1++((List.replicate n z.cells.toList).flatten++d2))++post:=by simp
    simp only
    conv=>arg 4;rw[hassoc]
    rw[jA lnew]
    refine x9 (f:=TokT E.M w t) (g:=tailsT t) (P:=zbk E.M E.M w (w.setRow b (c1++(List.replicate n z.cells.toList).flatten++(d2++post)).toArray)) (fun x cs hb h=>qK (Mem.le_refl _) t x cs hb h) (fun x hx=>⟨setRow_other w b x _ (fun e=> ?_),rfl⟩) ((qj lt1).2 ⟨htk.1,(qj lz).2 ⟨zgc (jP t) _ _,htk.2⟩⟩)
    rw[zP lt1,zP lz,zae (qX t),List.nil_append, ← hnt] at hx
    have hm:=(hown.2.2 x (hsub.subset hx)).1
    rw[e] at hm
    exact hm (hh.free _ _ _ _ h1 rfl e1 hb).1
   refine⟨by simp;omega,g2,g3,g4,fun b' hb'=> ?_⟩
   rw[hb] at hb'
   cases hb'
   refine⟨_,c1++((List.replicate n z.cells.toList).flatten++d2),post,setRow_heap w b c _ U _ k1,by simp, ?_, ?_⟩
   ·refine qS p2 (qS (zb8 (f9 E.M) n) ?_)
    rw[List.drop_drop] at q3
    exact q3
   ·simp only[List.size_toArray,List.length_append,List.length_flatten,List.map_replicate,List.sum_replicate_nat,Array.length_toList,f6]
    rw[hs1]
    omega
 unfold zbx at h
 split at h
 case h_1=>
  have e1:vx= .slice none 0 0:=by simpa [SV.sat] using hx
  subst e1
  exact⟨hp,_,w,hh,hst,h,fun ty=>by simp[Builtin.clear_,run_underlying hu]⟩
 case h_2 id len=>
  replace h:=ze h;obtain⟨ob,h1,h⟩:=h
  split at h
  case h_2=>cases h
  case h_1 U t xs=>
   split at h
   case h_2=>cases h
   case h_1 u ht=>
    cases hel:qG ei t with
    |false=>rw[hel] at h;cases h
    |true=>
     rw[hel,cond_true] at h
     replace h:=zB h;obtain⟨hut,h⟩:=h
     subst hut
     rw[zo] at h
     simp only[SV.sat] at hx
     obtain⟨e,e1,e2,e3⟩:=hx
     have g1:=(hh.ob _ _ _ h1 e1).1
     have hlen:zdk xs len=len.getD e.len:=by cases len<;>simp[zdk,g1]
     rw[hlen] at h
     rw[e3]
     refine part (off:=0) h1 e1 ht hel (by omega) ?_ (by simpa using h)
     cases hb:e.blk with
     |none=>
      have g4:=(hh.ob _ _ _ h1 e1).2.2.2.1 hb
      have g2:=(hh.ob _ _ _ h1 e1).2.1
      left;omega
     |some b=>right;exact⟨b,rfl,by simp[LE.addr,hb]⟩
 case h_3 id u off len=>
  replace h:=ze h;obtain⟨ob,h1,h⟩:=h
  split at h
  case h_2=>cases h
  case h_1 U t xs=>
   split at h
   case h_2=>cases h
   case h_1 u' ht=>
    cases hel:qG ei t with
    |false=>rw[hel] at h;cases h
    |true=>
     rw[hel,cond_true] at h
     replace h:=zB h;obtain⟨⟨hut,hut'⟩,h⟩:=h
     subst hut
     subst hut'
     rw[zo] at h
     simp only[SV.sat] at hx
     obtain⟨e,ad,cap,e1,e2,e3,e4⟩:=hx
     rw[e3]
     exact part h1 e1 ht hel e2 e4 h
 case h_4=>cases h
theorem zon {args:Array Operand} {argTypes:Array TypeId} {k:SV→List HO→Option R} (hC:C.ok P) (hh:Hp B E hp w) (hf:SV.satL E fr a.tmps.toList) (hg:C.globsOk E.M) (ho:o.op= .call { callee:= .builtin .clear,args,argTypes})
  (h:(match args.toList,argTypes.toList with
  | [x], [T]=>zq C.TT T fun i=>(match i.kind with
   | .slice E=>zq C.TT E fun ei=>opd C fr x fun x=>zbx C E ei x hp k
   |_=>none)
  |_,_=>none)=some r):zf2 P B E a o w k r:=by
 split at h
 case h_2=>cases h
 case h_1 x T e1 e2=>
  replace h:=zd h;obtain⟨i,hi,h⟩:=h
  split at h
  case h_2=>cases h
  case h_1 S hk=>
   replace h:=zd h;obtain⟨ei,hS,h⟩:=h
   replace h:=zh hf hg h;obtain⟨s,s1,h⟩:=h
   obtain⟨hp',s',w',q1,q2,q3,q4⟩:=zm4 hC hh hi hk hS s1 h
   have ea:args= #[x]:=by apply Array.ext';simpa using e1
   have et:argTypes= #[T]:=by apply Array.ext';simpa using e2
   subst ea;subst et
   exact⟨E,hp',s',_,w',Env.le_refl E,q1,q2,q3, .inl (by simp[execOp,ho,resolve,invoke,builtin,q4])⟩
theorem FreeT.mid {A X Y D:List Nat} (h:FreeT B E hp w (A++(X++D))) (k:FreeT B E hp w Y) (ha: ∀ b∈A++(X++D),b∉Y):FreeT B E hp w (A++(Y++D)):=by
 have hA:FreeT B E hp w A:=h.sub (List.sublist_append_left _ _)
 have hAD:FreeT B E hp w (A++D):=h.sub ((List.Sublist.refl A).append (List.sublist_append_right _ _))
 have h1:=hAD.app k (fun b hb=>ha b (by
  rcases List.mem_append.1 hb with hb|hb
  ·simp[hb]
  ·simp[hb]))
 have hp:((A++D)++Y).Perm (A++(Y++D)):=by
  rw[List.append_assoc]
  exact List.Perm.append_left _ List.perm_append_comm
 exact⟨hp.nodup_iff.1 h1.1,fun x hx=>h1.2 x (hp.mem_iff.2 hx)⟩
theorem zhc {t:Ty} {size:Nat} (hsz:t.size=size) (h1:t.isAgg=false→t.size=1) (hg:C.globsOk E.M): ∀ {ps:List (Nat×Operand)} {E:Env} {xs:List t.den} {hp:List HO} {zs:Array Value} {k:List t.den→List HO→Option R},
  C.globsOk E.M→Hp B E hp w→SV.satL E fr a.tmps.toList→xp (Rep E.M t) xs zs.toList→OwnsL B E hp w t xs zs.toList→zbw C fr t ps xs hp k=some r→
  ∃ E' hp' xs' zs',Frz B E E' hp hp' w∧xp (Rep E'.M t) xs' zs'.toList∧xs'.length=xs.length∧k xs' hp'=some r∧Instr.fill (fun i=>some (i*size,size)) zs (ps.map fun p=>(p.1,a.eval p.2))=some zs'∧OwnsL B E' hp' w t xs' zs'.toList
 | [],E,xs,hp,zs,k,_,hh,_,hr,ho,h=>⟨E,hp,xs,zs,Frz.refl hh,hr,rfl,h,rfl,ho⟩
 |(i,x)::ps,E,xs,hp,zs,k,hgE,hh,hf,hr,ho,h=>by
  unfold zbw at h
  cases hle:Nat.ble (i+1) xs.length with
  |false=>rw[hle] at h;cases h
  |true=>
   rw[hle,cond_true] at h
   have hi:i<xs.length:=Nat.le_of_ble_eq_true hle
   replace h:=zh hf hgE h;obtain⟨s,s1,h⟩:=h
   obtain⟨E1,hp1,y,fz,⟨cs,y1,y2,y3,y4⟩,h⟩:=zg9 hh s1 h
   rw[zo] at h
   have hr1:=zR (fun x cs=>zz fz.le.1 t x cs) hr
   obtain⟨p,c,q,e1,e2,e3,e4⟩:=q9 (zc t) i hi hr1
   have hl:=zc _ _ _ y1
   have hlc:=zc _ _ _ e3
   have hcells:(a.eval x).cells.toList=cs:=by rw[y2];exact zdq y1 h1
   have hcs:(a.eval x).cells.size=size:=by rw[← Array.length_toList,hcells,hl,hsz]
   have hzl:zs.size=p.length+(c.length+q.length):=by rw[← Array.length_toList,e1];simp
   have hfit:i*size+(a.eval x).cells.size≤zs.size:=by rw[hcs,hzl,e2,hlc,hsz];omega
   have hset:=zc0 (i*size) (a.eval x).cells zs hfit
   have hz':(Array.foldl (fun cs x=>match x with|(c,j)=>cs.setIfInBounds (i*size+j) c) zs (a.eval x).cells.zipIdx).toList=p++(cs++q):=by
    rw[hset,hcells,hcs,e1]
    rw[show i*size=p.length by rw[e2,hsz],List.take_left]
    rw[← List.append_assoc p c q,List.drop_left' (by rw[List.length_append,hlc,hsz])]
   have ho1:OwnsL B E1 hp1 w t (xs.set i y) (p++(cs++q)):=by
    have t1:=TokN.frz fz ho.free ho.tok
    have t2:=ho.free.frz fz
    have ha:=ho.free.apart y4.was
    rw[e1] at t1 t2 ha
    obtain⟨F,G,n1,n2⟩:=zn6 (f:=tailsT t) hi e2 hlc (q:=q)
    rw[n1] at t2 ha
    exact⟨(zof hi e2 hlc t1).2 y cs hl y3,by rw[n2 y cs hl];exact t2.mid y4.free ha⟩
   obtain⟨E2,hp2,xs',zs',fz2,r2,n2,k2,f2,ho2⟩:=zhc hsz h1 hg (E:=E1) (zs:=Array.foldl (fun cs x=>match x with|(c,j)=>cs.setIfInBounds (i*size+j) c) zs (a.eval x).cells.zipIdx)
    (C.globsOk_mono fz.le.1 hgE) fz.heap (SV.satL_mono fz.le _ _ hf) (by rw[hz'];exact e4 y cs y1) (by rw[hz'];exact ho1) h
   refine⟨E2,hp2,xs',zs',fz.trans fz2,r2,by simpa using n2,k2, ?_,ho2⟩
   have hgd:(decide ((a.eval x).cells.size≠size)||decide (i*size+(a.eval x).cells.size > zs.size))=false:=by simp;omega
   simp only[List.map_cons,Instr.fill,hgd]
   exact f2
theorem zpi {α:Type} (x:α): ∀ (n:Nat) (k:List α→Option R),zw1 x n k=k (List.replicate n x)
 |0,_=>rfl
 |n+1,k=>by
  show zw1 x n (fun l=>k (x::l))=_
  rw[zpi x n];rfl
theorem zf3 {T:TypeId} {n:Nat} {parts:Array (Nat×Operand)} (hC:C.ok P) (hh:Hp B E hp w) (hf:SV.satL E fr a.tmps.toList) (hg:C.globsOk E.M) (ho:o.op= .buildSlice T n parts)
  (h:(zq C.TT T fun i=>(match i.kind with
  | .slice E=>zq C.TT E fun ei=>(match C.el E ei with
   |some t=>bif qG ei t&&Nat.ble (n*ei.size) 16777216 then
     (zw1 t.dflt n fun xs=>zbw C fr t parts.toList xs hp fun xs hp=>jr hp (.arr E t xs) fun hp'=>k (.own hp.length none) hp') else none
   |none=>none)
  |_=>none))=some r):zf2 P B E a o w k r:=by
 replace h:=zd h;obtain⟨i,hi,h⟩:=h
 split at h
 case h_2=>cases h
 case h_1 S hk=>
  replace h:=zd h;obtain⟨ei,hS,h⟩:=h
  have hu:=(hC.types _ _ hi).slice hk
  split at h
  case h_2=>cases h
  case h_1 t ht=>
   cases hc0:(qG ei t&&Nat.ble (n*ei.size) 16777216) with
   |false=>rw[hc0] at h;cases h
   |true=>
    rw[hc0,cond_true,zpi] at h
    simp only[Bool.and_eq_true] at hc0
    obtain⟨hel,hbig⟩:=hc0
    have hbig':=Nat.le_of_ble_eq_true hbig
    obtain⟨hs1,hs2,hs3,hs4⟩:=xv hel
    obtain⟨f,z,f1,f2,f3,f4,f6,_,f9⟩:=Ctx.el_ok (hC.types _ _ hS) ht
    have hzl:((Array.range (n*z.cells.size)).map (z.cells[· % z.cells.size]!)).toList=(List.replicate n z.cells.toList).flatten:=zfl z.cells n (by omega)
    obtain⟨E',hp',xs',zs',fz,r2,n2,h,hfill,ho2⟩:=zhc (size:=f.size) (by rw[f2,hs1]) hs4 hg (E:=E) (zs:=(Array.range (n*z.cells.size)).map (z.cells[· % z.cells.size]!)) hg hh hf (by rw[hzl];exact zb8 (f9 E.M) n) (OwnsL.zeros _ _) h
    rw[z2] at h
    rw[List.length_replicate] at n2
    have hlz:=zF (zc t) r2
    have hn:n≤16777216:=by
     have:n*1≤n*ei.size:=Nat.mul_le_mul_left _ hs2
     omega
    obtain⟨p1,p2⟩:=zgp fz.heap w ⟨rfl,rfl,rfl,rfl⟩ (T:=S) (t:=t) (xs:=xs') (c:=zs') (d:=zs'.toList) (post:= []) (cap:=n) (by simp) r2 (by rw[← Array.length_toList,hlz,n2]) (by omega) (by simp only[maxLen];omega) ho2
    rw[n2] at p1 p2
    refine⟨_,_,_,_,_,Env.le_trans fz.le (Env.le_snoc E' _),p1,p2,h, .inl ?_⟩
    have hb: ¬ (n*f.size > 16777216):=by rw[f2];omega
    have hzv: ∀ w',(zeroValue S).run P w'= .ok z w':=fun w'=>by simp[zeroValue,qi f1,f4]
    rw[show n*z.cells.size=n*f.size by rw[f6,f2]] at hfill
    by_cases hn0:n*f.size=0
    ·have hn00:n=0:=by
      rcases Nat.mul_eq_zero.1 hn0 with h0|h0
      ·exact h0
      ·rw[f2] at h0;omega
     subst hn00
     simp only[Nat.zero_mul,Array.range_zero',Array.map_empty] at hfill
     simp[execOp,ho,Instr.buildSlice,run_underlying hu,z4 f1,hfill,newRow,Array.range_zero']
    ·have hlt: ¬ (16777216<n*f.size):=by omega
     simp[execOp,ho,Instr.buildSlice,run_underlying hu,z4 f1,hlt,hn0,hzv,hfill,newRow]
theorem zoy (hC:C.ok P) (hh:Hp B E hp w) {T:TypeId} {i:TI} (hi:(T,i)∈C.TT) {x:SV} {vx:Value} (hx:x.sat E vx) (h:zby i hp x k=some r):
  ∃ E' hp' s v,E.le E'∧Hp B E' hp' w∧s.sat E' v∧k s hp'=some r∧(Instr.loadAt T vx).run P w= .ok v w:=by
 have hT:=hC.types _ _ hi
 have plain:(xG i hp x fun s=>k s hp)=some r→ ∃ E' hp' s v,E.le E'∧Hp B E' hp' w∧s.sat E' v∧k s hp'=some r∧(Instr.loadAt T vx).run P w= .ok v w:=fun h=>by
  obtain⟨v,s,h1,h2,h3⟩:=zdf hC hh hi hx h
  exact⟨E,hp,s,v,Env.le_refl E,hh,h1,h2,h3 w (Below.refl _ _)⟩
 unfold zby at h
 split at h
 case h_2=>exact plain h
 case h_1 S id t j p hk=>
  replace h:=ze h;obtain⟨ob,h1,h⟩:=h
  split at h
  case h_2=>cases h
  case h_1 U t' xs=>
   replace h:=zB h;obtain⟨ht,h⟩:=h
   subst ht
   simp only at h
   split at h
   case h_2=>cases h
   case h_1 d hd=>
    split at h
    case h_2=>exact plain h
    case h_1 e y=>
     cases hfit:(fits i (.osl e)&&decide (qI p t'=some (.osl e))) with
     |false=>rw[hfit] at h;cases h
     |true=>
      rw[hfit,cond_true] at h
      simp only[Bool.and_eq_true,decide_eq_true_eq] at hfit
      obtain⟨f1,f2,f3⟩:=zb2 hfit.1
      replace h:=zy h;obtain⟨hy,h⟩:=h
      simp only[SV.sat] at hx
      obtain⟨le,b,e1,e2,e3,e4⟩:=hx
      subst e4
      obtain⟨g1,g2,g3,g4,g5⟩:=hh.ob _ _ _ h1 e1
      obtain⟨c,d,post,g6,g7,g8,g9⟩:=g5 b e2
      have hj:j<xs.length:=by omega
      obtain⟨p1,c1,q1,s1,s2,s3,s4⟩:=q9 (zc t') j hj g8
      rw[zcl hj] at h hd
      obtain⟨pre,mid,post',s5,s6,s7⟩:=zl0 s3 hd
      obtain⟨z,pre2,mid2,post2,x',A,D,k1,k2,k3,k4,k5,k6,k7,k8,k9,k10,k11⟩:=zic (M:=E.M) s3 hfit.2 (u:= .osl e) (y:=(false,y.2)) (mid':=mid) s7 h
      rw[hd] at k7
      have hxy:x'=y:=by cases k7;rfl
      subst hxy
      have hml:=zc _ _ _ s7
      simp only[Ty.size] at hml k4
      have hpre:pre=pre2∧mid++post'=mid2++post2:=List.append_inj (s5.symm.trans k2) (by omega)
      obtain⟨rfl,hmp⟩:=hpre
      obtain⟨rfl,rfl⟩:=List.append_inj hmp (by omega)
      have hdl:=zF (zc t') g8
      have hc1:=zc _ _ _ s3
      obtain⟨t1,t2,t3⟩:=hh.tok _ _ _ h1 e1
      obtain⟨w1,w2,w3,F,G,w4,w5⟩:=zqv (w':=w) hh h1 e1 e2 g6 hj s2 (post:=post) (by rw[g7,s1]) (by rw[← s1];exact hdl) hc1 (zc _ _ _ k5) k8 k10 (k11 w) (fun(hf:false=true)=>nomatch hf) FreeT.nil (c':=c) (by rw[g7,s1,k2]) g6 (fun _ _=>rfl)
      have hturn:=hh.turn (w':=w) (o':= .arr U t' (xs.set j z)) h1 rfl e1 e2 ⟨rfl,rfl,rfl,Nat.le_refl _,fun _ _ _=>rfl⟩ ⟨by simpa using g1,g2,g3,g4,fun b' hb'=>by
       rw[e2] at hb'
       cases hb'
       exact⟨c,d,post,g6,g7,by rw[s1,k2];exact s4 z _ k5,g9⟩⟩ ⟨w1,w2,w3⟩
      rw[zo,z2] at k1
      have htok:TokT E.M w (.osl e) x' mid:=by
       have h0:=t1 b c U _ e2 g6
       rw[g7,s1,jA (by rw[← s1];exact hdl)] at h0
       exact k9 w (zof hj s2 hc1 h0).1
      obtain⟨v,hv,htv⟩:=htok hy
      subst hv
      have hload:(Instr.loadAt T (.pointer (some ⟨b,j*t'.size+t'.pathOff p,none⟩))).run P w= .ok v w:=by
       have:=jp (P:=P) (w:=w) hT (b:=b) (off:=j*t'.size+t'.pathOff p) (d:= [v]) (fun m u hm=>by
        rw[cell_of_row w b _ c U _ g6]
        have:c.toList[j*t'.size+t'.pathOff p+m]? =some u:=by
         have hm':m< [v].length:=(List.getElem?_eq_some_iff.1 hm).1
         rw[g7,s1,k2]
         rw[List.append_assoc,List.getElem?_append_right (by omega),s2]
         rw[show(pre++([v]++post')++q1)++post=pre++([v]++(post'++(q1++post))) by simp]
         rw[List.getElem?_append_right (by omega),s6,show j*t'.size+t'.pathOff p+m - j*t'.size - t'.pathOff p=m by omega,List.getElem?_append_left hm']
         exact hm
        simpa using this) (by rw[f1];rfl) (fun hf=>by rw[f1];rfl)
       rw[zfk f2] at this
       simpa [Instr.loadAt,Instr.sureAddr,zG,Ty.isAgg] using this
      have hl2:(hp.set id (HO.arr U t' (xs.set j z))).length=hp.length:=by simp
      have fin: ∀ (nl:LE),x'.2.length=nl.len→(nl.blk=none→nl.cap=0)→v= .slice nl.addr nl.len nl.cap→FreeT B E (hp.set id (.arr U t' (xs.set j z))) w ((HO.tk S e x'.2).tails w nl)→
        ∃ E' hp' s v',E.le E'∧Hp B E' hp' w∧s.sat E' v'∧k s hp'=some r∧(Instr.loadAt T (.pointer (some ⟨b,j*t'.size+t'.pathOff p,none⟩))).run P w= .ok v' w:=fun nl n1 n2 n3 n4=>by
       refine⟨E.snoc nl,_,_,v,Env.le_snoc E nl,hturn.pushT (e':=nl) (o':= .tk S e x'.2) rfl trivial ⟨n1,n2,by rw[← n3];exact htv⟩ n4, ?_,k1,hload⟩
       simp only[SV.sat]
       refine⟨nl, ?_,by simp,by simpa using n3⟩
       show(E.L++ [nl])[hp.length]? =_
       rw[← hh.len];simp
      rcases htv with ⟨ad,v1,v2⟩|⟨b',cap,dd,cc,V,v1,v2,v3,v4,v5,v6,v7,v8⟩
      ·exact fin ⟨none,0,0,ad⟩ (by rw[v2];rfl) (fun _=>rfl) (by rw[v1];rfl) (by simp only[HO.tails];exact FreeT.nil)
      ·refine fin ⟨some b',x'.2.length,cap+1,none⟩ rfl (fun hb=>by cases hb) (by rw[v1];simp[LE.addr]) ?_
       have htl:tailsT (.osl e) x' [v]= [b']:=by
        have:x'.1=true:=hy
        simp only[tailsT,this,v1]
       rw[htl] at w4
       have hnd:=t2
       rw[w4] at hnd
       have hmem:b'∈(HO.arr U t' xs).tails w le:=by rw[w4];simp
       simp only[HO.tails]
       refine⟨by simp,fun x hx=> ?_⟩
       simp only[Nat.add_eq_zero_iff,Nat.one_ne_zero,and_false,if_false,Option.toList_some,List.mem_singleton] at hx
       subst hx
       refine⟨t3 x hmem,fun m o2 e2' q1' q2' q3'=> ?_⟩
       by_cases hm:id=m
       ·subst hm
        rw[List.getElem?_set_self (List.getElem?_eq_some_iff.1 h1).1] at q1'
        cases q1'
        rw[e1] at q2'
        cases q2'
        rw[w5] at q3'
        simp only[tailsT,List.nil_append] at q3'
        rw[List.nodup_append] at hnd
        rcases List.mem_append.1 q3' with hq|hq
        ·exact hnd.2.2 x hq x (by simp) rfl
        ·have:=hnd.2.1
         simp only[List.singleton_append,List.nodup_cons] at this
         exact this.1 hq
       ·rw[List.getElem?_set_ne hm] at q1'
        exact hm (hh.tdist id m _ o2 le e2' x h1 q1' e1 q2' hmem q3')
theorem zh5 {T:TypeId} {x:Operand} (hC:C.ok P) (hh:Hp B E hp w) (hf:SV.satL E fr a.tmps.toList) (hg:C.globsOk E.M) (ho:o.op= .load T x)
  (h:(zq C.TT T fun i=>opd C fr x fun x=>zby i hp x k)=some r):zf2 P B E a o w k r:=by
 replace h:=zd h;obtain⟨i,hi,h⟩:=h
 replace h:=zh hf hg h;obtain⟨s,s1,h⟩:=h
 obtain⟨E',hp',s',v,h1,h2,h3,h4,h5⟩:=zoy hC hh hi s1 h
 exact⟨E',hp',s',v,w,h1,h2,h3,h4, .inl (by simp[execOp,ho,h5])⟩
end
end Go.Sx
