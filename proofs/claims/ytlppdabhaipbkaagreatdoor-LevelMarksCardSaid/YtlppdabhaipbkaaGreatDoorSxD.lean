/- The symbolic evaluator, part D: what a state means; the operations that turn nothing are told rightly. -/
import Derived.Test.YtlppdabhaipbkaaGreatDoorSxC
set_option linter.unusedVariables false
set_option linter.unusedSimpArgs false
namespace Go.Sx
open Go.RowKit
structure Base where
 w0:World
 W:Nat→Prop
 M0:Mem
def zst (M:Mem) (K V:Ty):List (K.den×V.den)→List MapEntry→Prop
 | [],l=>l= []
 |x::xs,l=> ∃ m ms,l=m::ms∧(∃ ck,Rep M K x.1 ck∧m.key=zG K ck)∧(∃ cv,Rep M V x.2 cv∧m.val=zG V cv)∧zst M K V xs ms
theorem zdr {M M':Mem} (h:M.le M') {K V:Ty}: ∀ {xs:List (K.den×V.den)} {l:List MapEntry},zst M K V xs l→zst M' K V xs l
 | [],_,hr=>hr
 |_::_,_,⟨m,ms,e,⟨ck,k1,k2⟩,⟨cv,v1,v2⟩,hr⟩=>⟨m,ms,e,⟨ck,zz h _ _ _ k1,k2⟩,⟨cv,zz h _ _ _ v1,v2⟩,zdr h hr⟩
theorem zmk {M M':Mem} {K V:Ty} (hK:K.flat=true) (hV:V.flat=true): ∀ {xs:List (K.den×V.den)} {l:List MapEntry},zst M K V xs l→zst M' K V xs l
 | [],_,hr=>hr
 |_::_,_,⟨m,ms,e,⟨ck,k1,k2⟩,⟨cv,v1,v2⟩,hr⟩=>⟨m,ms,e,⟨ck,jz _ _ _ hK k1,k2⟩,⟨cv,jz _ _ _ hV v1,v2⟩,zmk hK hV hr⟩
def jN (l:List MapEntry) (clock:Nat):Prop:=(∀ x∈l,x.born<clock)∧(l.map (·.born)).Nodup
theorem jN.nil (n:Nat):jN [] n:=⟨by simp,by simp⟩
theorem jN.snoc {l:List MapEntry} {n:Nat} (h:jN l n) {m:MapEntry} (hm:m.born=n):jN (l++ [m]) (n+1):=by
 refine⟨fun x hx=> ?_, ?_⟩
 ·rcases List.mem_append.1 hx with hx|hx
  ·have:=h.1 x hx;omega
  ·simp at hx;subst hx;omega
 ·rw[List.map_append,List.nodup_append]
  refine⟨h.2,by simp,fun a ha b hb=> ?_⟩
  obtain⟨x,hx,rfl⟩:=List.mem_map.1 ha
  have:=h.1 x hx
  simp at hb;omega
theorem jN.set {l:List MapEntry} {n j:Nat} {m m':MapEntry} (h:jN l n) (hj:l[j]? =some m) (hm:m'.born=m.born):jN (l.set j m') n:=by
 have hmem:m∈l:=List.mem_of_getElem? hj
 refine⟨fun x hx=> ?_, ?_⟩
 ·rcases List.mem_or_eq_of_mem_set hx with hx|hx
  ·exact h.1 x hx
  ·subst hx;rw[hm];exact h.1 m hmem
 ·have:(l.set j m').map (·.born)=l.map (·.born):=by
   apply List.ext_getElem?
   intro i
   rw[List.getElem?_map,List.getElem?_map,List.getElem?_set]
   by_cases hi:j=i
   ·subst hi
    have hjl:j<l.length:=(List.getElem?_eq_some_iff.1 hj).1
    have hjm:l[j]=m:=(List.getElem?_eq_some_iff.1 hj).2
    simp[hm,hjl,hjm]
   ·simp[hi]
  rw[this];exact h.2
def tailsN {α:Type} (f:α→List Value→List Nat) (n:Nat):List α→List Value→List Nat
 | [],_=> []
 |x::xs,cs=>f x (cs.take n)++tailsN f n xs (cs.drop n)
def tailsT:(t:Ty)→t.den→List Value→List Nat
 | .osl _,x,cs=>(match x.1,cs with
  |true, [.slice (some ad) _ (_+1)]=> [ad.block]
  |_,_=> [])
 | .pair a b,x,cs=>tailsT a x.1 (cs.take a.size)++tailsT b x.2 (cs.drop a.size)
 | .st f,x,cs=>tailsT f x cs
 | .arr _ e,xs,cs=>tailsN (tailsT e) e.size xs cs
 |_,_,_=> []
def zy4 (M:Mem) (w:World) (e:Ty) (xs:List e.den) (v:Value):Prop:=
 (∃ ad,v= .slice ad 0 0∧xs= [])∨ ∃ b cap d c T,v= .slice (some ⟨b,0,none⟩) xs.length (cap+1)∧xs.length≤cap+1∧cap+1≤maxLen∧M b=some d∧xp (Rep M e) xs d.toList∧w.heap[b]? =some (.cells c T (0,0))∧
  d.toList <+: c.toList∧c.size=(cap+1)*e.size
def TokN {α:Type} (f:α→List Value→Prop) (n:Nat):List α→List Value→Prop
 | [],_=>True
 |x::xs,cs=>f x (cs.take n)∧TokN f n xs (cs.drop n)
def TokT (M:Mem) (w:World):(t:Ty)→t.den→List Value→Prop
 | .osl e,x,cs=>x.1=true→ ∃ v,cs= [v]∧zy4 M w e x.2 v
 | .pair a b,x,cs=>TokT M w a x.1 (cs.take a.size)∧TokT M w b x.2 (cs.drop a.size)
 | .st f,x,cs=>TokT M w f x cs
 | .arr _ e,xs,cs=>TokN (TokT M w e) e.size xs cs
 |_,_,_=>True
def zbk (M M':Mem) (w w':World) (b:Nat):Prop:=w'.heap[b]? =w.heap[b]? ∧M' b=M b
theorem zml {M M':Mem} {w w':World} {e:Ty} {xs:List e.den} {v:Value} (hM:M.le M') (hs: ∀ ad n c,v= .slice (some ad) n (c+1)→zbk M M' w w' ad.block) (h:zy4 M w e xs v):zy4 M' w' e xs v:=by
 rcases h with h|⟨b,cap,d,c,T,h1,h2,h3,h4,h5,h6,h7,h8⟩
 ·exact .inl h
 ·obtain⟨g1,g2⟩:=hs _ _ _ h1
  exact .inr ⟨b,cap,d,c,T,h1,h2,h3,g2.trans h4,zR (fun x cs=>zz hM e x cs) h5,g1.trans h6,h7,h8⟩
theorem x9 {α:Type} {f f':α→List Value→Prop} {g:α→List Value→List Nat} {P:Nat→Prop} {n:Nat} (hf: ∀ x cs,(∀ b∈g x cs,P b)→f x cs→f' x cs): ∀ {xs:List α} {cs:List Value},(∀ b∈tailsN g n xs cs,P b)→TokN f n xs cs→TokN f' n xs cs
 | [],_,_,_=>trivial
 |x::xs,cs,hb,⟨h1,h2⟩=>⟨hf x _ (fun b hm=>hb b (by simp only[tailsN,List.mem_append];exact .inl hm)) h1,x9 hf (fun b hm=>hb b (by simp only[tailsN,List.mem_append];exact .inr hm)) h2⟩
theorem qK {M M':Mem} {w w':World} (hM:M.le M'): ∀ (t:Ty) (x:t.den) (cs:List Value),(∀ b∈tailsT t x cs,zbk M M' w w' b)→TokT M w t x cs→TokT M' w' t x cs
 | .osl e,(f,xs),cs,hb,h=>fun hf=>by
  obtain⟨v,h1,h2⟩:=h hf
  refine⟨v,h1,zml hM (fun ad n c hv=>hb _ ?_) h2⟩
  simp only at hf
  subst hf;subst h1;subst hv
  simp[tailsT]
 | .pair a b,x,cs,hb,⟨h1,h2⟩=>⟨qK hM a _ _ (fun b hm=>hb b (by simp only[tailsT,List.mem_append];exact .inl hm)) h1,qK hM b _ _ (fun b hm=>hb b (by simp only[tailsT,List.mem_append];exact .inr hm)) h2⟩
 | .st f,x,cs,hb,h=>qK hM f x cs hb h
 | .arr _ e,xs,cs,hb,h=>x9 (g:=tailsT e) (P:=zbk M M' w w') (fun x cs hb h=>qK hM e x cs hb h) hb h
 | .int _,_,_,_,_=>trivial
 | .bool,_,_,_,_=>trivial
 | .str,_,_,_,_=>trivial
 | .flt,_,_,_,_=>trivial
 | .cplx,_,_,_,_=>trivial
 | .unit,_,_,_,_=>trivial
 | .sl _,_,_,_,_=>trivial
theorem zct {α:Type} {f:α→List Value→List Nat} (h: ∀ x cs,f x cs= []) (n:Nat): ∀ (xs:List α) (cs:List Value),tailsN f n xs cs= []
 | [],_=>rfl
 |x::xs,cs=>by rw[tailsN,h,zct h n xs];rfl
theorem qB: ∀ (t:Ty) (x:t.den) (cs:List Value),t.noOwn=true→tailsT t x cs= []
 | .osl _,_,_,h=>by cases h
 | .pair a b,x,cs,h=>by
  simp only[Ty.noOwn,Bool.and_eq_true] at h
  rw[tailsT,qB a _ _ h.1,qB b _ _ h.2];rfl
 | .st f,x,cs,h=>qB f x cs h
 | .arr _ e,xs,cs,h=>zct (fun x cs=>qB e x cs h) _ xs cs
 | .int _,_,_,_=>rfl
 | .bool,_,_,_=>rfl
 | .str,_,_,_=>rfl
 | .flt,_,_,_=>rfl
 | .cplx,_,_,_=>rfl
 | .unit,_,_,_=>rfl
 | .sl _,_,_,_=>rfl
theorem zgb {α:Type} {f:α→List Value→Prop} (h: ∀ x cs,f x cs) (n:Nat): ∀ (xs:List α) (cs:List Value),TokN f n xs cs
 | [],_=>trivial
 |x::xs,cs=>⟨h _ _,zgb h n xs _⟩
theorem xt {M:Mem} {w:World}: ∀ (t:Ty) (x:t.den) (cs:List Value),t.noOwn=true→TokT M w t x cs
 | .osl _,_,_,h=>by cases h
 | .pair a b,x,cs,h=>by
  simp only[Ty.noOwn,Bool.and_eq_true] at h
  exact⟨xt a _ _ h.1,xt b _ _ h.2⟩
 | .st f,x,cs,h=>xt f x cs h
 | .arr _ e,xs,cs,h=>zgb (fun x cs=>xt e x cs h) _ xs cs
 | .int _,_,_,_=>trivial
 | .bool,_,_,_=>trivial
 | .str,_,_,_=>trivial
 | .flt,_,_,_=>trivial
 | .cplx,_,_,_=>trivial
 | .unit,_,_,_=>trivial
 | .sl _,_,_,_=>trivial
def HO.tails (w:World) (e:LE):HO→List Nat
 | .tk _ _ _=>if e.cap=0 then [] else e.blk.toList
 | .arr _ t xs=>(match e.blk with
  |none=> []
  |some b=>(match w.heap[b]? with
   |some (.cells c _ _)=>tailsN (tailsT t) t.size xs c.toList
   |_=> []))
 |_=> []
def HO.tok (M:Mem) (w:World) (e:LE):HO→Prop
 | .arr _ t xs=> ∀ b c T f,e.blk=some b→w.heap[b]? =some (.cells c T f)→TokN (TokT M w t) t.size xs c.toList
 | .tk _ t xs=>xs.length=e.len∧(e.blk=none→e.cap=0)∧zy4 M w t xs (.slice e.addr e.len e.cap)
 |_=>True
def HO.sat (E:Env) (w:World) (e:LE):HO→Prop
 | .gone=>True
 | .cells l=> ∃ b c T,e.blk=some b∧w.heap[b]? =some (.cells c T (0,0))∧SV.satL E l c.toList
 | .arr T t xs=>xs.length=e.len∧e.len≤e.cap∧e.cap≤maxLen∧(e.blk=none→e.cap=0)∧
   ∀ b,e.blk=some b→ ∃ c d post,w.heap[b]? =some (.cells c T (0,0))∧c.toList=d++post∧xp (Rep E.M t) xs d∧c.size=e.cap*t.size
 | .map K V es=> ∃ b arr clock,e.blk=some b∧w.heap[b]? =some (.map arr clock)∧zst E.M K V es arr.toList∧jN arr.toList clock
 | .tk _ _ _=>True
 | .frs t x=> ∃ b d,e.blk=some b∧E.M.seg b 0 d∧Rep E.M t x d
 | .fro t xs=>xs.length=e.len∧e.len≤e.cap∧(xs= []∨ ∃ b d,e.blk=some b∧E.M.seg b 0 d∧xp (Rep E.M t) xs d)
def Mem.agrees (M:Mem) (w:World):Prop:= ∀ b c,M b=some c→ ∃ cs T fr,w.heap[b]? =some (.cells cs T fr)∧c.toList <+: cs.toList
structure Base.ok (B:Base) (w:World):Prop where
 os:w.os=B.w0.os
 tape:w.tape=B.w0.tape
 output:w.output=B.w0.output
 size:B.w0.heap.size≤w.heap.size
 block: ∀ k,k<B.w0.heap.size→ ¬ B.W k→w.heap[k]? =B.w0.heap[k]?
structure Hp (B:Base) (E:Env) (hp:List HO) (w:World):Prop where
 ag:E.M.agrees w
 base:B.M0.le E.M
 fresh: ∀ b c,E.M b=some c→B.M0 b=some c∨B.w0.heap.size≤b∨B.W b
 ok:B.ok w
 len:E.L.length=hp.length
 free: ∀ (i:Nat) (o:HO) (e:LE) (b:Nat),hp[i]? =some o→o.live=true→E.L[i]? =some e→e.blk=some b→E.M b=none∧(B.w0.heap.size≤b∨B.W b)
 dist: ∀ (i j:Nat) (o o':HO) (e e':LE) (b:Nat),hp[i]? =some o→o.live=true→hp[j]? =some o'→o'.live=true→E.L[i]? =some e→E.L[j]? =some e'→e.blk=some b→e'.blk=some b→i=j
 ob: ∀ (i:Nat) (o:HO) (e:LE),hp[i]? =some o→E.L[i]? =some e→o.sat E w e
 tok: ∀ (i:Nat) (o:HO) (e:LE),hp[i]? =some o→E.L[i]? =some e→o.tok E.M w e∧(o.tails w e).Nodup∧ ∀ b∈o.tails w e,E.M b≠none∧(B.w0.heap.size≤b∨B.W b)
 tdist: ∀ (i j:Nat) (o o':HO) (e e':LE) (b:Nat),hp[i]? =some o→hp[j]? =some o'→E.L[i]? =some e→E.L[j]? =some e'→b∈o.tails w e→b∈o'.tails w e'→i=j
theorem qb {α:Type} {l:Array α} {i:Nat} {x:α} (h:l[i]? =some x):i<l.size:=(Array.getElem?_eq_some_iff.1 h).1
theorem HO.sat_lt {E:Env} {w:World} {e:LE} {o:HO} (hl:o.live=true) (h:o.sat E w e) {b:Nat} (hb:e.blk=some b):b<w.heap.size:=by
 cases o with
 |gone=>simp[HO.live] at hl
 |fro t xs=>simp[HO.live] at hl
 |frs t x=>simp[HO.live] at hl
 |tk T t x=>simp[HO.live] at hl
 |cells l=>
  obtain⟨b',c,T,h1,h2,_⟩:=h
  rw[hb] at h1
  cases h1
  exact qb h2
 |arr T t xs=>
  obtain⟨_,_,_,_,h5⟩:=h
  obtain⟨c,d,post,h6,_⟩:=h5 b hb
  exact qb h6
 |map K V es=>
  obtain⟨b',arr,clock,h1,h2,_⟩:=h
  rw[hb] at h1
  cases h1
  exact qb h2
theorem HO.sat_keep {E E':Env} {w w':World} {e:LE} {o:HO} (hE:E.le E') (h:o.sat E w e) (hb: ∀ b,o.live=true→e.blk=some b→w'.heap[b]? =w.heap[b]?):o.sat E' w' e:=by
 cases o with
 |gone=>trivial
 |tk _ _ _=>trivial
 |fro t xs=>
  obtain⟨h1,h2,h3⟩:=h
  exact⟨h1,h2,h3.imp id fun⟨b,d,k1,k2,k3⟩=>⟨b,d,k1,Mem.seg_mono hE.1 k2,zR (fun x cs=>zz hE.1 t x cs) k3⟩⟩
 |frs t x=>
  obtain⟨b,c,h1,h2,h3⟩:=h
  exact⟨b,c,h1,Mem.seg_mono hE.1 h2,zz hE.1 t x _ h3⟩
 |cells l=>
  obtain⟨b,c,T,h1,h2,h3⟩:=h
  exact⟨b,c,T,h1,by rw[hb b rfl h1];exact h2,SV.satL_mono hE l _ h3⟩
 |arr T t xs=>
  obtain⟨h1,h2,h3,h4,h5⟩:=h
  refine⟨h1,h2,h3,h4,fun b hbb=> ?_⟩
  obtain⟨c,d,post,h6,h7,h8,h9⟩:=h5 b hbb
  exact⟨c,d,post,by rw[hb b rfl hbb];exact h6,h7,zR (fun x cs=>zz hE.1 t x cs) h8,h9⟩
 |map K V es=>
  obtain⟨b,arr,clock,h1,h2,h3,h4⟩:=h
  exact⟨b,arr,clock,h1,by rw[hb b rfl h1];exact h2,zdr hE.1 h3,h4⟩
theorem HO.tok_keep {M M':Mem} {w w':World} {e:LE} {o:HO} (hM:M.le M') (hb: ∀ b,o.live=true→e.blk=some b→w'.heap[b]? =w.heap[b]?) (hs: ∀ b∈o.tails w e,zbk M M' w w' b) (h:o.tok M w e):
  o.tok M' w' e∧o.tails w' e=o.tails w e:=by
 cases o with
 |arr T t xs=>
  cases he:e.blk with
  |none=>exact⟨fun b c T f h1=>(by rw[he] at h1;cases h1),by simp[HO.tails,he]⟩
  |some b=>
   have hbb:=hb b rfl he
   refine⟨fun b' c T f h1 h2=> ?_,by simp[HO.tails,he,hbb]⟩
   rw[he] at h1
   cases h1
   rw[hbb] at h2
   refine x9 (g:=tailsT t) (P:=zbk M M' w w') (fun x cs hb h=>qK hM t x cs hb h) (fun b' hm=>hs b' ?_) (h b c T f he h2)
   simp only[HO.tails,he,h2]
   exact hm
 |tk T t xs=>
  obtain⟨h1,h2,h3⟩:=h
  rcases h3 with h3|⟨b,cap,d,c,U,q1,q2⟩
  ·exact⟨⟨h1,h2, .inl h3⟩,rfl⟩
  ·refine⟨⟨h1,h2,zml hM (fun ad n c hv=>hs _ ?_) (.inr ⟨b,cap,d,c,U,q1,q2⟩)⟩,rfl⟩
   simp only[Value.slice.injEq] at hv q1
   simp only[HO.tails]
   rw[if_neg (by omega)]
   cases he:e.blk with
   |none=>have:=h2 he;omega
   |some b'=>
    rw[LE.addr,he] at hv
    cases hv.1
    simp
 |gone=>exact⟨trivial,rfl⟩
 |cells l=>exact⟨trivial,rfl⟩
 |fro t xs=>exact⟨trivial,rfl⟩
 |frs t x=>exact⟨trivial,rfl⟩
 |map K V es=>exact⟨trivial,rfl⟩
theorem za6 {α:Type} {f:α→List Value→List Nat} {n:Nat}: ∀ (k:Nat) (xs:List α) (cs:List Value), ∃ l,tailsN f n xs cs=tailsN f n (xs.take k) cs++l
 |0,xs,cs=>⟨tailsN f n xs cs,by simp[tailsN]⟩
 |k+1, [],cs=>⟨[],by simp[tailsN]⟩
 |k+1,x::xs,cs=>by
  obtain⟨l,h⟩:=za6 (f:=f) (n:=n) k xs (cs.drop n)
  exact⟨l,by rw[List.take_succ_cons,tailsN,tailsN,h,List.append_assoc]⟩
theorem zdu {α:Type} {f:α→List Value→Prop} {n:Nat}: ∀ (k:Nat) (xs:List α) (cs:List Value),TokN f n xs cs→TokN f n (xs.take k) cs
 |0,xs,cs,h=>by simp[TokN]
 |k+1, [],cs,h=>by simp[TokN]
 |k+1,x::xs,cs,h=>by
  rw[List.take_succ_cons]
  exact⟨h.1,zdu k xs _ h.2⟩
theorem HO.tok_plain {M:Mem} {w:World} {e:LE} {T:TypeId} {t:Ty} {xs:List t.den} (hno:t.noOwn=true):(HO.arr T t xs).tok M w e∧(HO.arr T t xs).tails w e= []:=by
 refine⟨fun b c T f h1 h2=>zgb (fun x cs=>xt t x cs hno) _ _ _, ?_⟩
 simp only[HO.tails]
 cases e.blk with
 |none=>rfl
 |some b=>
  dsimp only
  split
  ·exact zct (fun x cs=>qB t x cs hno) _ _ _
  ·rfl
theorem HO.tok_nil {M:Mem} {w:World} {e:LE} {T:TypeId} {t:Ty} {xs:List t.den} (he:e.blk=none):(HO.arr T t xs).tok M w e∧(HO.arr T t xs).tails w e= []:=
 ⟨fun b c T f h1 h2=>(by rw[he] at h1;cases h1),by simp[HO.tails,he]⟩
theorem Mem.agrees_lt {M:Mem} {w:World} (h:M.agrees w) {b:Nat} {c:Array Value} (hb:M b=some c):b<w.heap.size:=
 let ⟨_,_,_,hh,_⟩:=h b c hb;qb hh
theorem Hp.tail_some {B:Base} {E:Env} {hp:List HO} {w:World} (h:Hp B E hp w) {i:Nat} {o:HO} {e:LE} {b:Nat} (h1:hp[i]? =some o) (h2:E.L[i]? =some e) (hb:b∈o.tails w e): ∃ c,E.M b=some c:=by
 have:=((h.tok i o e h1 h2).2.2 b hb).1
 cases hm:E.M b with
 |none=>exact absurd hm this
 |some c=>exact⟨c,rfl⟩
theorem Hp.tail_lt {B:Base} {E:Env} {hp:List HO} {w:World} (h:Hp B E hp w) {i:Nat} {o:HO} {e:LE} {b:Nat} (h1:hp[i]? =some o) (h2:E.L[i]? =some e) (hb:b∈o.tails w e):b<w.heap.size:=by
 obtain⟨c,hc⟩:=h.tail_some h1 h2 hb
 exact Mem.agrees_lt h.ag hc
theorem Base.ok_trans {B:Base} {w w':World} (h:B.ok w) (k:Below w.heap.size w w'):B.ok w':=
 ⟨k.os.trans h.os,k.tape.trans h.tape,k.output.trans h.output,Nat.le_trans h.size k.size,fun i hi hn=>(k.block i (Nat.lt_of_lt_of_le hi h.size)).trans (h.block i hi hn)⟩
theorem Hp.grow {B:Base} {E:Env} {hp:List HO} {w w':World} (h:Hp B E hp w) (k:Below w.heap.size w w'):Hp B E hp w' where
 ag:=fun b c hb=>by
  obtain⟨cs,T,fr,hh,hp⟩:=h.ag b c hb
  exact⟨cs,T,fr,by rw[k.block b (qb hh)];exact hh,hp⟩
 base:=h.base
 fresh:=h.fresh
 ok:=Base.ok_trans h.ok k
 len:=h.len
 free:=h.free
 dist:=h.dist
 ob:=fun i o e hi he=>HO.sat_keep (Env.le_refl E) (h.ob i o e hi he) fun b hl hb=>k.block b (HO.sat_lt hl (h.ob i o e hi he) hb)
 tok:=fun i o e hi he=>by
  obtain⟨h1,h2,h3⟩:=h.tok i o e hi he
  obtain⟨g1,g2⟩:=HO.tok_keep (w':=w') (Mem.le_refl E.M) (fun b hl hb=>k.block b (HO.sat_lt hl (h.ob i o e hi he) hb)) (fun b hb=>⟨k.block b (h.tail_lt hi he hb),rfl⟩) h1
  exact⟨g1,g2▸h2,g2▸h3⟩
 tdist:=fun i j o o' e e' b h1 h2 h3 h4 h5 h6=>by
  have key: ∀ {i:Nat} {o:HO} {e:LE},hp[i]? =some o→E.L[i]? =some e→o.tails w' e=o.tails w e:=fun {i o e} hi he=>
   (HO.tok_keep (w':=w') (Mem.le_refl E.M) (fun b hl hb=>k.block b (HO.sat_lt hl (h.ob i o e hi he) hb)) (fun b hb=>⟨k.block b (h.tail_lt hi he hb),rfl⟩) (h.tok i o e hi he).1).2
  rw[key h1 h3] at h5
  rw[key h2 h4] at h6
  exact h.tdist i j o o' e e' b h1 h2 h3 h4 h5 h6
def descAgg:TypeDesc→Bool
 | .struct _| .array _ _=>true
 |_=>false
structure TIok (P:Program) (T:TypeId) (i:TI):Prop where
 info: ∃ f z,P.info? T=some f∧f.size=i.size∧f.bytes=i.bytes∧f.zero=some z∧(∀ E,SV.satL E i.zero z.cells.toList)∧z.cells.size=i.size∧
  (∀ t,i.ty=some t→t.size=i.size∧ ∀ M,Rep M t t.dflt z.cells.toList)∧(i.kind.isAgg=false→z.cells= #[z])
 kind:match i.kind with
  | .other=> ∃ d,P.underlying T=some d∧descAgg d=false
  | .bool=>P.underlying T=some .bool
  | .flt=>P.underlying T=some (.float .f64)
  | .str=>P.underlying T=some .string
  | .int k=>P.underlying T=some (.int k)
  | .ptr E=>P.underlying T=some (.pointer E)
  | .slice E=>P.underlying T=some (.slice E)
  | .array n E=>P.underlying T=some (.array n E)
  | .map K V=>P.underlying T=some (.map K V)
  | .struct fs=> ∃ fds,P.underlying T=some (.struct fds)∧fds.size=fs.length∧ ∀ (j:Nat) (x:TypeId×Nat×Nat×Bool),fs[j]? =some x→
    ∃ f fi d,fds[j]? =some f∧f.type=x.1∧f.offset=x.2.1∧P.info? f.type=some fi∧fi.size=x.2.2.1∧P.underlying f.type=some d∧descAgg d=x.2.2.2
theorem TIok.under {P:Program} {T:TypeId} {i:TI} (h:TIok P T i): ∃ d,P.underlying T=some d∧descAgg d=i.kind.isAgg:=by
 have hk:=h.kind
 cases hi:i.kind<;>simp only[hi] at hk
 case other=>simpa [TK.isAgg] using hk
 case struct fs=>obtain⟨fds,h1,_⟩:=hk;exact⟨_,h1,rfl⟩
 all_goals exact⟨_,hk,rfl⟩
structure Ctx.ok (P:Program) (C:Ctx):Prop where
 types: ∀ T i,(T,i)∈C.TT→TIok P T i
 cmps: ∀ T,T∈C.cmp→P.stoodInHeld T=false∧ ∀ fds,P.underlying T=some (.struct fds)→ ∀ f∈fds.toList,f.name≠ "_"
def Ctx.globsOk (C:Ctx) (M:Mem):Prop:= ∀ g d,(g,d)∈C.globs→ ∃ cs,M.seg g 0 cs∧Rep M d.t d.x cs
theorem Ctx.globsOk_mono {C:Ctx} {M M':Mem} (h:M.le M') (hg:C.globsOk M):C.globsOk M':=fun g d hd=>
 let ⟨cs,h1,h2⟩:=hg g d hd;⟨cs,Mem.seg_mono h h1,zz h _ _ _ h2⟩
section
variable {R:Type} {r:R}
theorem ze {α:Type} {k:α→Option R}: ∀ {l:List α} {n:Nat},qv l n k=some r→ ∃ x,l[n]? =some x∧k x=some r
 | [],n,h=>by simp[qv] at h
 |x::l,0,h=>⟨x,by simp,h⟩
 |x::l,n+1,h=>by
  obtain⟨y,h1,h2⟩:=ze (l:=l) (n:=n) h
  exact⟨y,by simpa using h1,h2⟩
theorem zo {α:Type}: ∀ (l:List α) (n:Nat) (v:α) (k:List α→Option R),jy l n v k=k (l.set n v)
 | [],_,_,_=>rfl
 |_::_,0,_,_=>rfl
 |x::l,n+1,v,k=>by
  show jy l n v (fun l'=>k (x::l'))=_
  rw[zo l n v];rfl
theorem z2 {α:Type}: ∀ (l:List α) (v:α) (k:List α→Option R),jr l v k=k (l++ [v])
 | [],_,_=>rfl
 |x::l,v,k=>by
  show jr l v (fun l'=>k (x::l'))=_
  rw[z2 l v];rfl
theorem zd {k:TI→Option R} {T:TypeId}: ∀ {l:List (TypeId×TI)},zq l T k=some r→ ∃ i,(T,i)∈l∧k i=some r
 | [],h=>by simp[zq] at h
 |(t,i)::l,h=>by
  unfold zq at h
  cases hb:Nat.beq t T with
  |true=>
   rw[hb] at h
   have:=Nat.eq_of_beq_eq_true hb
   subst this
   exact⟨i,by simp,h⟩
  |false=>
   rw[hb] at h
   obtain⟨j,h1,h2⟩:=zd (l:=l) h
   exact⟨j,by simp[h1],h2⟩
theorem zj3 {k:SV→Option R} {g:Nat}: ∀ {l:List (Nat×DV)},zlj l g k=some r→ ∃ d,(g,d)∈l∧k (.ro d.t d.x)=some r
 | [],h=>by simp[zlj] at h
 |(t,d)::l,h=>by
  unfold zlj at h
  cases hb:Nat.beq t g with
  |true=>
   rw[hb] at h
   have:=Nat.eq_of_beq_eq_true hb
   subst this
   exact⟨d,by simp,h⟩
  |false=>
   rw[hb] at h
   obtain⟨j,h1,h2⟩:=zj3 (l:=l) h
   exact⟨j,by simp[h1],h2⟩
theorem zcx {E:Env} {v:Value} {k:SV→Option R} (h:jV v k=some r): ∃ s,s.sat E v∧k s=some r:=by
 unfold jV at h
 split at h
 case h_1 i n=>exact⟨_,by simp only[SV.sat];exact⟨[.int i n],rfl,rfl⟩,h⟩
 case h_2 b=>exact⟨_,by simp[SV.sat],h⟩
 case h_3 s=>exact⟨_,by simp only[SV.sat];exact⟨[.string s],rfl,rfl⟩,h⟩
 case h_4 n=>exact⟨_,by simp only[SV.sat];exact⟨[.float .f64 n],rfl,rfl⟩,h⟩
 case h_5 a b=>exact⟨_,by simp only[SV.sat];exact⟨[.complex .f64 a b],rfl,rfl⟩,h⟩
 case h_6=>exact⟨_,by simp[SV.sat],h⟩
 case h_7=>exact⟨_,by simp[SV.sat],h⟩
 case h_8=>exact⟨_,by simp[SV.sat],h⟩
 case h_9=>cases h
theorem zbs {E:Env}: ∀ {vs:List Value} {k:List SV→Option R},jW vs k=some r→ ∃ l,SV.satL E l vs∧k l=some r
 | [],k,h=>⟨[],by simp[SV.satL],h⟩
 |v::vs,k,h=>by
  unfold jW at h
  obtain⟨s,h1,h2⟩:=zcx (E:=E) h
  obtain⟨l,h3,h4⟩:=zbs (E:=E) h2
  exact⟨s::l,by simp only[SV.satL];exact⟨v,vs,rfl,h1,h3⟩,h4⟩
theorem zm0 {E:Env} {v:Value} {k:SV→Option R} (h:zg8 v k=some r): ∃ s,s.sat E v∧k s=some r:=by
 unfold zg8 at h
 split at h
 case h_1 cs=>
  obtain⟨l,h1,h2⟩:=zbs (E:=E) h
  exact⟨_,by simp only[SV.sat];exact⟨cs.toList,by simp,h1⟩,h2⟩
 case h_2=>exact zcx h
theorem zh {C:Ctx} {E:Env} {fr:List SV} {a:Act} (hf:SV.satL E fr a.tmps.toList) (hg:C.globsOk E.M) {x:Operand} {k:SV→Option R} (h:opd C fr x k=some r):
  ∃ s,s.sat E (a.eval x)∧k s=some r:=by
 cases x with
 |tmp t=>
  obtain⟨s,h1,h2⟩:=ze h
  obtain⟨v,h3,h4⟩:=SV.satL_get t hf h1
  refine⟨s, ?_,h2⟩
  have:a.eval (.tmp t)=v:=by
   simp only[Act.eval]
   have h5:a.tmps[t]? =some v:=by simpa using h3
   simp[Array.getD_eq_getD_getElem?,h5]
  rw[this];exact h4
 |const v=>exact zm0 h
 |global g=>
  obtain⟨d,h1,h2⟩:=zj3 h
  obtain⟨cs,h3,h4⟩:=hg g d h1
  exact⟨_,by simp only[SV.sat,Act.eval];exact⟨g,0,cs,rfl,h3,h4⟩,h2⟩
 |func f=>exact⟨_,by simp only[SV.sat,Act.eval];exact⟨[],rfl,by simp[SV.satL]⟩,h⟩
theorem j6 {C:Ctx} {E:Env} {fr:List SV} {a:Act} (hf:SV.satL E fr a.tmps.toList) (hg:C.globsOk E.M): ∀ {xs:List Operand} {k:List SV→Option R},zob C fr xs k=some r→
  ∃ l,SV.satL E l (xs.map a.eval)∧k l=some r
 | [],k,h=>⟨[],by simp[SV.satL],h⟩
 |x::xs,k,h=>by
  obtain⟨s,h1,h2⟩:=zh hf hg h
  obtain⟨l,h3,h4⟩:=j6 hf hg h2
  exact⟨s::l,by simp only[SV.satL,List.map_cons];exact⟨_,_,rfl,h1,h3⟩,h4⟩
theorem ql {E:Env} {s:SV} {v:Value} {k:Int→Option R} (hs:s.sat E v) (h:asI s k=some r): ∃ i n,v= .int i n∧k n=some r:=by
 unfold asI at h
 split at h
 case h_1 i n=>
  simp only[SV.sat] at hs
  obtain⟨cs,h1,h2⟩:=hs
  simp only[Rep] at h1
  subst h1
  exact⟨i,n,h2,h⟩
 case h_2=>cases h
theorem zdv {E:Env} {s:SV} {v:Value} {k:Bool→Option R} (hs:s.sat E v) (h:asB s k=some r): ∃ b,v= .bool b∧k b=some r:=by
 unfold asB at h
 split at h
 case h_1 b=>exact⟨b,by simpa [SV.sat] using hs,h⟩
 case h_2 b=>
  simp only[SV.sat] at hs
  obtain⟨cs,h1,h2⟩:=hs
  simp only[Rep] at h1
  subst h1
  exact⟨b,h2,h⟩
 case h_3=>cases h
end
theorem zP {α:Type} {f:α→List Value→List Nat} {n:Nat}: ∀ {xs ys:List α} {cs ds:List Value},cs.length=xs.length*n→tailsN f n (xs++ys) (cs++ds)=tailsN f n xs cs++tailsN f n ys ds
 | [],ys,cs,ds,h=>by
  have:cs= []:=List.eq_nil_of_length_eq_zero (by simpa using h)
  subst this;rfl
 |x::xs,ys,cs,ds,h=>by
  rw[List.length_cons,Nat.add_mul,Nat.one_mul] at h
  have hl:n≤cs.length:=by omega
  simp only[List.cons_append,tailsN]
  rw[List.take_append_of_le_length hl,List.drop_append_of_le_length hl,zP (by rw[List.length_drop];omega),List.append_assoc]
theorem qj {α:Type} {f:α→List Value→Prop} {n:Nat}: ∀ {xs ys:List α} {cs ds:List Value},cs.length=xs.length*n→(TokN f n (xs++ys) (cs++ds)↔TokN f n xs cs∧TokN f n ys ds)
 | [],ys,cs,ds,h=>by
  have:cs= []:=List.eq_nil_of_length_eq_zero (by simpa using h)
  subst this;simp[TokN]
 |x::xs,ys,cs,ds,h=>by
  rw[List.length_cons,Nat.add_mul,Nat.one_mul] at h
  have hl:n≤cs.length:=by omega
  simp only[List.cons_append,TokN]
  rw[List.take_append_of_le_length hl,List.drop_append_of_le_length hl,qj (by rw[List.length_drop];omega),and_assoc]
theorem zdp {α:Type} {f:α→List Value→List Nat} {n:Nat} {x:α} {xs:List α} {c d:List Value} (h:c.length=n):tailsN f n (x::xs) (c++d)=f x c++tailsN f n xs d:=by
 subst h
 simp only[tailsN,List.take_left,List.drop_left]
theorem zgy {α:Type} {f:α→List Value→Prop} {n:Nat} {x:α} {xs:List α} {c d:List Value} (h:c.length=n):TokN f n (x::xs) (c++d)↔f x c∧TokN f n xs d:=by
 subst h
 simp only[TokN,List.take_left,List.drop_left]
theorem zue {α:Type} {xs:List α} {j:Nat} (hj:j<xs.length):xs=xs.take j++xs[j]::xs.drop (j+1)∧ ∀ z,xs.set j z=xs.take j++z::xs.drop (j+1):=by
 refine⟨?_,fun z=> ?_⟩
 ·rw[List.getElem_cons_drop,List.take_append_drop]
 ·rw[List.set_eq_take_append_cons_drop,if_pos hj]
theorem zn6 {α:Type} {f:α→List Value→List Nat} {n:Nat} {xs:List α} {j:Nat} (hj:j<xs.length) {p c q:List Value} (hp:p.length=j*n) (hc:c.length=n):
  ∃ A C,tailsN f n xs (p++(c++q))=A++(f xs[j] c++C)∧ ∀ z c',c'.length=n→tailsN f n (xs.set j z) (p++(c'++q))=A++(f z c'++C):=by
 obtain⟨e1,e2⟩:=zue hj
 have hl:p.length=(xs.take j).length*n:=by rw[List.length_take,Nat.min_eq_left (by omega),hp]
 refine⟨tailsN f n (xs.take j) p,tailsN f n (xs.drop (j+1)) q, ?_,fun z c' hc'=> ?_⟩
 ·conv=>lhs;rw[e1]
  rw[zP hl,zdp hc]
 ·rw[e2 z,zP hl,zdp hc']
theorem zof {α:Type} {f:α→List Value→Prop} {n:Nat} {xs:List α} {j:Nat} (hj:j<xs.length) {p c q:List Value} (hp:p.length=j*n) (hc:c.length=n) (h:TokN f n xs (p++(c++q))):
  f xs[j] c∧ ∀ z c',c'.length=n→f z c'→TokN f n (xs.set j z) (p++(c'++q)):=by
 obtain⟨e1,e2⟩:=zue hj
 have hl:p.length=(xs.take j).length*n:=by rw[List.length_take,Nat.min_eq_left (by omega),hp]
 rw[e1,qj hl,zgy hc] at h
 refine⟨h.2.1,fun z c' hc' hz=> ?_⟩
 rw[e2 z,qj hl,zgy hc']
 exact⟨h.1,hz,h.2.2⟩
theorem zae {α:Type} {f:α→List Value→List Nat} {n:Nat} {d:α} (h: ∀ cs,f d cs= []): ∀ (m:Nat) (cs:List Value),tailsN f n (List.replicate m d) cs= []
 |0,_=>rfl
 |m+1,cs=>by rw[List.replicate_succ,tailsN,h,zae h m];rfl
theorem zgc {α:Type} {f:α→List Value→Prop} {n:Nat} {d:α} (h: ∀ cs,f d cs): ∀ (m:Nat) (cs:List Value),TokN f n (List.replicate m d) cs
 |0,_=>trivial
 |m+1,cs=>by rw[List.replicate_succ];exact⟨h _,zgc h m _⟩
theorem qX: ∀ (t:Ty) (cs:List Value),tailsT t t.dflt cs= []
 | .osl _,_=>rfl
 | .pair a b,cs=>by rw[tailsT,qX a,qX b];rfl
 | .st f,cs=>qX f cs
 | .arr n e,cs=>zae (qX e) n cs
 | .int _,_=>rfl
 | .bool,_=>rfl
 | .str,_=>rfl
 | .flt,_=>rfl
 | .cplx,_=>rfl
 | .unit,_=>rfl
 | .sl _,_=>rfl
theorem jP {M:Mem} {w:World}: ∀ (t:Ty) (cs:List Value),TokT M w t t.dflt cs
 | .osl _,_=>fun h=>by cases h
 | .pair a b,cs=>⟨jP a _,jP b _⟩
 | .st f,cs=>jP f cs
 | .arr n e,cs=>zgc (jP e) n cs
 | .int _,_=>trivial
 | .bool,_=>trivial
 | .str,_=>trivial
 | .flt,_=>trivial
 | .cplx,_=>trivial
 | .unit,_=>trivial
 | .sl _,_=>trivial
theorem x7 {α β:Type} {f:β→List Value→List Nat} {g:α→β} {n:Nat} (h: ∀ x cs,f (g x) cs= []): ∀ (xs:List α) (cs:List Value),tailsN f n (xs.map g) cs= []
 | [],_=>rfl
 |x::xs,cs=>by rw[List.map_cons,tailsN,h,x7 h xs];rfl
theorem zdt {α β:Type} {f:β→List Value→Prop} {g:α→β} {n:Nat} (h: ∀ x cs,f (g x) cs): ∀ (xs:List α) (cs:List Value),TokN f n (xs.map g) cs
 | [],_=>trivial
 |x::xs,cs=>⟨h _ _,zdt h xs _⟩
theorem qY: ∀ (t:Ty) (x:t.er.den) (cs:List Value),tailsT t (t.lift x) cs= []
 | .osl _,_,_=>rfl
 | .pair a b,x,cs=>by rw[Ty.lift,tailsT,qY a,qY b];rfl
 | .st f,x,cs=>qY f x cs
 | .arr n e,xs,cs=>x7 (qY e) xs cs
 | .int _,_,_=>rfl
 | .bool,_,_=>rfl
 | .str,_,_=>rfl
 | .flt,_,_=>rfl
 | .cplx,_,_=>rfl
 | .unit,_,_=>rfl
 | .sl _,_,_=>rfl
theorem jQ {M:Mem} {w:World}: ∀ (t:Ty) (x:t.er.den) (cs:List Value),TokT M w t (t.lift x) cs
 | .osl _,_,_=>fun h=>by cases h
 | .pair a b,x,cs=>⟨jQ a _ _,jQ b _ _⟩
 | .st f,x,cs=>jQ f x cs
 | .arr n e,xs,cs=>zdt (jQ e) xs cs
 | .int _,_,_=>trivial
 | .bool,_,_=>trivial
 | .str,_,_=>trivial
 | .flt,_,_=>trivial
 | .cplx,_,_=>trivial
 | .unit,_,_=>trivial
 | .sl _,_,_=>trivial
theorem Ty.lift_dflt: ∀ t:Ty,t.lift t.er.dflt=t.dflt
 | .osl _=>rfl
 | .pair a b=>by
  show(a.lift a.er.dflt,b.lift b.er.dflt)=_
  rw[Ty.lift_dflt a,Ty.lift_dflt b]
 | .st f=>Ty.lift_dflt f
 | .arr n e=>by
  show(List.replicate n e.er.dflt).map e.lift=List.replicate n e.dflt
  rw[List.map_replicate,Ty.lift_dflt e]
 | .int _=>rfl
 | .bool=>rfl
 | .str=>rfl
 | .flt=>rfl
 | .cplx=>rfl
 | .unit=>rfl
 | .sl _=>rfl
theorem Ctx.el_ok {C:Ctx} {P:Program} {S:TypeId} {ei:TI} (hT:TIok P S ei) {t:Ty} (h:C.el S ei=some t):
  ∃ f z,P.info? S=some f∧f.size=ei.size∧f.bytes=ei.bytes∧f.zero=some z∧z.cells.size=ei.size∧t.size=ei.size∧ ∀ M,Rep M t t.dflt z.cells.toList:=by
 obtain⟨f,z,f1,f2,f3,f4,f5,f6,f7,_⟩:=hT.info
 unfold Ctx.el at h
 split at h
 ·obtain⟨g1,g2⟩:=f7 t h
  exact⟨f,z,f1,f2,f3,f4,f6,g1,g2⟩
 ·rename_i u hu
  cases hd:decide (ei.ty=some u.er) with
  |false=>rw[hd] at h;cases h
  |true=>
   rw[hd,cond_true] at h
   cases h
   obtain⟨g1,g2⟩:=f7 _ (of_decide_eq_true hd)
   exact⟨f,z,f1,f2,f3,f4,f6,by rw[← Ty.er_size];exact g1,fun M=>by
    have:=zag t _ _ (g2 M)
    rwa [Ty.lift_dflt] at this⟩
end Go.Sx
