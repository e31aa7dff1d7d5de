/- The symbolic evaluator, part V7: a region that draws its order, where two effects come in either order. -/
import Derived.Test.YtlppdabhaipbkaaGreatDoorSxV6
set_option linter.unusedVariables false
set_option linter.unusedSimpArgs false
namespace Go.Sx
open Go.RowKit
section
variable {R:Type} {r:R} {P:Program} {C:Ctx} {Γ:List Con} {B:Base} {E:Env} {fr:List SV} {hp:List HO} {a:Act} {w w':World} {o:Oper}
theorem zgd (f:Nat): ∀ (g:Nat) (l:List Oper),(zbj f g l).length=l.length
 |g, []=>by cases g<;>rfl
 |0,o::l=>rfl
 |g+1,o::l=>by simp[zbj,zgd f g l]
theorem zku (f:Nat): ∀ (g:Nat) (l:List Oper) (i:Nat),(zbj f g l)[i]? =if i=g then(l[i]?).map (fun o=>{ o with after:=(o.after.toList++ [(Edge.mk f Ground.data)]).toArray}) else l[i]?
 |g, [],i=>by simp[zbj]
 |0,o::l,0=>rfl
 |0,o::l,i+1=>by simp[zbj]
 |g+1,o::l,0=>by simp[zbj]
 |g+1,o::l,i+1=>by simp[zbj,zku f g l i]
theorem zfd (f:Nat): ∀ (g:Nat) (l:List Oper),opsDst (zbj f g l)=opsDst l
 |g, []=>by cases g<;>rfl
 |0,o::l=>rfl
 |g+1,o::l=>by simp only[zbj,opsDst,zfd f g l]
structure More (f g:Nat) (ops ops1:Array Oper):Prop where
 size:ops1.size=ops.size
 other: ∀ i,i≠g→ops1[i]? =ops[i]?
 same:ops1[g]? =(ops[g]?).map (fun o=>{ o with after:=(o.after.toList++ [(Edge.mk f Ground.data)]).toArray})
theorem zmm (f g:Nat) (ops:Array Oper):More f g ops (zbj f g ops.toList).toArray where
 size:=by simp[zgd]
 other:=fun i hi=>by
  have:=zku f g ops.toList i
  rw[if_neg hi] at this
  simpa using this
 same:=by
  have:=zku f g ops.toList g
  rw[if_pos rfl] at this
  simpa using this
variable {f g:Nat} {ops ops1 ops2:Array Oper} {Q:Exit→Act→World→Prop}
theorem More.yielded (h:More f g ops ops1) (tmps:Array Value):yielded ops1 tmps=yielded ops tmps:=by
 funext j
 unfold Go.yielded
 by_cases hj:j=g
 ·subst hj
  rw[h.same]
  cases ops[j]? <;>rfl
 ·rw[h.other j hj]
theorem More.wpOp (h:More f g ops ops1) {i:Nat} {K:Act→World→Prop} {a:Act} {w:World}:wpOp P ops1 Q i K a w↔wpOp P ops Q i K a w:=by
 unfold Go.wpOp
 rw[h.yielded]
 by_cases hi:i=g
 ·subst hi
  rw[h.same]
  cases ops[i]? with
  |none=>exact Iff.rfl
  |some o=>exact Iff.rfl
 ·rw[h.other i hi]
theorem More.sub (h:More f g ops ops1) {j:Nat} {listed:Array Bool} (hj:j∈Region.ready .any ops1 listed):j∈Region.ready .any ops listed:=by
 rw[mem_ready] at hj ⊢
 obtain⟨h1,o,h2,h3⟩:=hj
 refine⟨h1, ?_⟩
 by_cases hi:j=g
 ·subst hi
  rw[h.same] at h2
  cases ho:ops[j]? with
  |none=>rw[ho] at h2;cases h2
  |some o'=>
   rw[ho] at h2
   simp only[Option.map_some,Option.some.injEq] at h2
   subst h2
   exact⟨o',rfl,fun e he hb=>h3 e (by simp;exact .inl he) hb⟩
 ·rw[h.other j hi] at h2
  exact⟨o,h2,h3⟩
theorem More.back (h:More f g ops ops1) {j:Nat} {listed:Array Bool} (hj:j∈Region.ready .any ops listed) (hc:j≠g∨listed.getD f false=true):j∈Region.ready .any ops1 listed:=by
 rw[mem_ready] at hj ⊢
 obtain⟨h1,o,h2,h3⟩:=hj
 refine⟨h1, ?_⟩
 by_cases hi:j=g
 ·subst hi
  refine⟨_,by rw[h.same,h2];rfl,fun e he hb=> ?_⟩
  simp at he
  rcases he with he|he
  ·exact h3 e he hb
  ·subst he
   exact hc.resolve_left (fun hn=>hn rfl)
 ·exact⟨o,by rw[h.other j hi];exact h2,h3⟩
theorem zr2 {listed:Array Bool} {i f:Nat} (h:listed.getD f false=true):(listed.setIfInBounds i true).getD f false=true:=by
 simp only[Array.getD_eq_getD_getElem?,Array.getElem?_setIfInBounds] at h ⊢
 split
 ·split
  ·rfl
  ·rename_i h1 h2
   subst h1
   rw[Array.getElem?_eq_none (by omega)] at h
   simp at h
 ·exact h
theorem zgq {j:Nat} {listed:Array Bool} (hj:j∈Region.ready .any ops listed):j<listed.size:=by
 have:=(mem_ready.1 hj).1
 simp only[Array.getD_eq_getD_getElem?] at this
 rcases Nat.lt_or_ge j listed.size with h|h
 ·exact h
 ·rw[Array.getElem?_eq_none h] at this
  simp at this
theorem More.any (h:More f g ops ops1): ∀ (n:Nat) (listed:Array Bool) (a:Act) (w:World),listed.getD f false=true→wpAny P .any ops1 Q n listed a w→wpAny P .any ops Q n listed a w
 |0,listed,a,w,hf,H=>by
  refine⟨List.eq_nil_iff_forall_not_mem.2 fun j hj=> ?_,H.2⟩
  have:=h.back hj (.inr hf)
  rw[H.1] at this
  cases this
 |n+1,listed,a,w,hf,H=>by
  refine⟨fun hr=>H.1 (List.eq_nil_iff_forall_not_mem.2 fun j hj=> ?_),fun i hi=> ?_⟩
  ·have:=h.sub hj
   rw[hr] at this
   cases this
  ·exact wpOp_mono (fun a w=>h.any n _ a w (zr2 hf)) (h.wpOp.1 (H.2 i (h.back hi (.inr hf))))
theorem zvt (hc:zg3 o=true) {a:Act} {w:World} {n:Next} (h:(execOp a.eval o).run P w= .ok n w'):(∃ v,n= .value v)∨n= .skip:=by
 unfold zg3 at hc
 have key: ∀ (s:Sem Value),(do pure (.value (← s)):Sem Next).run P w= .ok n w'→ ∃ v,n= .value v:=by
  intro s hs
  simp only[Sem.run_bind] at hs
  cases hx:s.run P w with
  |ok v w2=>rw[hx] at hs;simp at hs;exact⟨v,hs.1.symm⟩
  |halt x w2=>rw[hx] at hs;simp at hs
 split at hc
 case h_1 x ho=>simp[execOp,ho] at h;exact .inl ⟨_,h.1.symm⟩
 case h_2 x ho=>simp[execOp,ho] at h;exact .inl ⟨_,h.1.symm⟩
 case h_3 t l c ho=>exact .inl (key (Instr.makeSlice t (a.eval l) (a.eval c)) (by simpa [execOp,ho] using h))
 case h_4 args tys ho=>
  refine .inl (key (Builtin.len_ tys o.type (args.map a.eval)) ?_)
  simpa only[execOp,ho,resolve,invoke,builtin,Sem.run_bind,Sem.run_pure,Result.andThen_ok] using h
 case h_5=>cases hc
theorem zx2 (hc:zg3 o=true) {a:Act} {w:World} {K1 K2:Act→World→Prop} (h1:o.wp P a w K1 Q) (h2:o.wp P a w K2 Q):o.wp P a w (fun a w=>K1 a w∧K2 a w) Q:=by
 unfold Oper.wp at*
 cases hr:(execOp a.eval o).run P w with
 |ok n w'=>
  rw[hr] at h1 h2
  rcases zvt hc hr with ⟨v,rfl⟩|rfl
  ·exact⟨h1,h2⟩
  ·exact⟨h1,h2⟩
 |halt x w'=>
  rw[hr] at h1
  cases x<;>exact h1
theorem ztl {i:Nat} (hc: ∀ o,ops[i]? =some o→zg3 o=true) {a:Act} {w:World} {K1 K2:Act→World→Prop} (h1:wpOp P ops Q i K1 a w) (h2:wpOp P ops Q i K2 a w):wpOp P ops Q i (fun a w=>K1 a w∧K2 a w) a w:=by
 unfold Go.wpOp at*
 cases ho:ops[i]? with
 |none=>rw[ho] at h1 h2;exact⟨h1,h2⟩
 |some o=>
  rw[ho] at h1 h2
  simp only at h1 h2 ⊢
  split
  ·rename_i hw
   rw[if_pos hw] at h1 h2
   rcases h1 with h1|h1
   ·rcases h2 with h2|h2
    ·exact .inl (zx2 (hc o ho) h1 h2)
    ·exact .inr h2
   ·exact .inr h1
  ·rename_i hw
   rw[if_neg hw] at h1 h2
   exact⟨h1,h2⟩
theorem zkq (hfg:f≠g) (h1:More f g ops ops1) (h2:More g f ops ops2) (hc: ∀ i o,ops[i]? =some o→i≠f→i≠g→zg3 o=true):
  ∀ (n:Nat) (listed:Array Bool) (a:Act) (w:World),wpAny P .any ops1 Q n listed a w→wpAny P .any ops2 Q n listed a w→wpAny P .any ops Q n listed a w
 |0,listed,a,w,H1,H2=>by
  refine⟨List.eq_nil_iff_forall_not_mem.2 fun j hj=> ?_,H1.2⟩
  by_cases hj1:j=g
  ·have:=h2.back hj (.inl (by rw[hj1];exact fun e=>hfg e.symm))
   rw[H2.1] at this
   cases this
  ·have:=h1.back hj (.inl hj1)
   rw[H1.1] at this
   cases this
 |n+1,listed,a,w,H1,H2=>by
  refine⟨fun hr=>H1.1 (List.eq_nil_iff_forall_not_mem.2 fun j hj=> ?_),fun i hi=> ?_⟩
  ·have:=h1.sub hj
   rw[hr] at this
   cases this
  ·have hlt:=zgq hi
   have hset:(listed.setIfInBounds i true).getD i false=true:=by
    simp[Array.getD_eq_getD_getElem?,Array.getElem?_setIfInBounds,hlt]
   by_cases hif:i=f
   ·have hi1:=h1.back hi (.inl (by rw[hif];exact hfg))
    subst hif
    exact wpOp_mono (fun a w=>h1.any n _ a w hset) (h1.wpOp.1 (H1.2 i hi1))
   ·by_cases hig:i=g
    ·have hi2:=h2.back hi (.inl hif)
     subst hig
     exact wpOp_mono (fun a w=>h2.any n _ a w hset) (h2.wpOp.1 (H2.2 i hi2))
    ·have k1:=h1.wpOp.1 (H1.2 i (h1.back hi (.inl hig)))
     have k2:=h2.wpOp.1 (H2.2 i (h2.back hi (.inl hif)))
     exact wpOp_mono (fun a w h=>zkq hfg h1 h2 hc n _ a w h.1 h.2) (ztl (fun o ho=>hc i o ho hif hig) k1 k2)
theorem zmr: ∀ (l:List Oper) (j i:Nat) (o:Oper),zok f g j l=true→l[i]? =some o→j+i≠f→j+i≠g→zg3 o=true
 | [],j,i,o,h,hi,_,_=>by simp at hi
 |x::l,j,0,o,h,hi,h1,h2=>by
  simp only[zok,Bool.and_eq_true,Bool.or_eq_true] at h
  simp at hi
  subst hi
  rcases h.1 with (h3|h3)|h3
  ·exact absurd (Nat.eq_of_beq_eq_true h3) (by simpa using h1)
  ·exact absurd (Nat.eq_of_beq_eq_true h3) (by simpa using h2)
  ·exact h3
 |x::l,j,i+1,o,h,hi,h1,h2=>by
  simp only[zok,Bool.and_eq_true] at h
  exact zmr l (j+1) i o h.2 (by simpa using hi) (by rw[show j+1+i=j+(i+1) by omega];exact h1) (by rw[show j+1+i=j+(i+1) by omega];exact h2)
structure Perm (inv:List Nat) (ops ops':Array Oper):Prop where
 size:ops'.size=ops.size
 lt: ∀ i,i<ops.size→nthN inv i<ops.size
 inj: ∀ i j,i<ops.size→j<ops.size→nthN inv i=nthN inv j→i=j
 onto: ∀ k,k<ops.size→ ∃ i,i<ops.size∧nthN inv i=k
 get: ∀ i,i<ops.size→ops'[nthN inv i]? =(ops[i]?).map (renO inv)
 edge: ∀ (i:Nat) (o:Oper),ops[i]? =some o→ ∀ e∈o.after,Region.binds .any e=true→e.on<ops.size
 guard: ∀ (i:Nat) (o:Oper),ops[i]? =some o→ ∀ (j:Nat) (b:Bool),o.guard=some (j,b)→j<ops.size
theorem zlu: ∀ (l:List Nat) (k:Nat) (h:k<l.length),l[k]=nthN l k
 | [],k,h=>by simp at h
 |x::l,0,h=>rfl
 |x::l,k+1,h=>by simpa [nthN] using zlu l k (by simpa using h)
theorem zsc {inv perm:List Nat} {l:List Oper} (h:zsb l.length perm inv=true) (he:zhb l.length l=true):Perm inv l.toArray (zdm inv l perm).toArray:=by
 simp only[zsb,Bool.and_eq_true,List.all_eq_true,List.mem_range] at h
 obtain⟨h1,h2⟩:=h
 have hlen:=Nat.eq_of_beq_eq_true h1
 have k1: ∀ i,i<l.length→nthN inv i<l.length:=fun i hi=>by have:=Nat.le_of_ble_eq_true (h2 i hi).1;omega
 have k2: ∀ i,i<l.length→nthN perm (nthN inv i)=i:=fun i hi=>Nat.eq_of_beq_eq_true (h2 i hi).2.1
 have k3: ∀ i,i<l.length→nthN perm i<l.length:=fun i hi=>by have:=Nat.le_of_ble_eq_true (h2 i hi).2.2.1;omega
 have k4: ∀ i,i<l.length→nthN inv (nthN perm i)=i:=fun i hi=>Nat.eq_of_beq_eq_true (h2 i hi).2.2.2
 simp only[zhb,List.all_eq_true,Bool.and_eq_true] at he
 refine⟨by simp[zdm,hlen],by simpa using k1,fun i j hi hj e=> ?_,fun k hk=>⟨nthN perm k,by simpa using k3 k (by simpa using hk),k4 k (by simpa using hk)⟩,fun i hi=> ?_,fun i o ho e hm hb=> ?_,fun i o ho j b hg=> ?_⟩
 ·rw[← k2 i (by simpa using hi), ← k2 j (by simpa using hj),e]
 ·have hi':i<l.length:=by simpa using hi
  have hil:=k1 i hi'
  have:(zdm inv l perm)[nthN inv i]? =some (renO inv (l.getD i default)):=by
   unfold zdm
   rw[List.getElem?_map,List.getElem?_eq_getElem (by omega:nthN inv i<perm.length),zlu,k2 i hi']
   rfl
  simp[this,List.getElem?_eq_getElem hi',List.getD_eq_getElem?_getD]
 ·have hm':o∈l:=by
   have:l[i]? =some o:=by simpa using ho
   exact List.mem_of_getElem? this
  have:=(he o hm').1 e (by simpa using hm)
  rw[hb] at this
  have:=Nat.le_of_ble_eq_true (by simpa using this)
  simp
  omega
 ·have hm':o∈l:=by
   have:l[i]? =some o:=by simpa using ho
   exact List.mem_of_getElem? this
  have:=(he o hm').2
  rw[hg] at this
  have:=Nat.le_of_ble_eq_true this
  simp
  omega
structure SameL (inv:List Nat) (n:Nat) (listed listed':Array Bool):Prop where
 s1:listed.size=n
 s2:listed'.size=n
 get: ∀ i,i<n→listed'[nthN inv i]? =listed[i]?
theorem SameL.set {inv:List Nat} {listed listed':Array Bool} (hp:Perm inv ops ops1) (h:SameL inv ops.size listed listed') {i:Nat} (hi:i<ops.size):SameL inv ops.size (listed.setIfInBounds i true) (listed'.setIfInBounds (nthN inv i) true) where
 s1:=by simp[h.s1]
 s2:=by simp[h.s2]
 get:=fun j hj=>by
  have hl:=hp.lt i hi
  simp only[Array.getElem?_setIfInBounds,h.s1,h.s2]
  by_cases hij:i=j
  ·subst hij
   simp[hi,hl]
  ·rw[if_neg hij,if_neg (fun e=>hij (hp.inj i j hi hj e))]
   exact h.get j hj
theorem Perm.ready {inv:List Nat} {listed listed':Array Bool} (hp:Perm inv ops ops1) (h:SameL inv ops.size listed listed') {i:Nat} (hi:i<ops.size):nthN inv i∈Region.ready .any ops1 listed'↔i∈Region.ready .any ops listed:=by
 have hl: ∀ (j:Nat) (d:Bool),j<ops.size→listed'.getD (nthN inv j) d=listed.getD j d:=fun j d hj=>by
  simp only[Array.getD_eq_getD_getElem?,h.get j hj]
 rw[mem_ready,mem_ready,hl i true hi,hp.get i hi]
 refine and_congr_right fun _=> ?_
 constructor
 ·rintro ⟨o,h1,h2⟩
  cases ho:ops[i]? with
  |none=>rw[ho] at h1;cases h1
  |some o'=>
   rw[ho] at h1
   simp only[Option.map_some,Option.some.injEq] at h1
   subst h1
   refine⟨o',rfl,fun e he hb=> ?_⟩
   rw[← hl e.on false (hp.edge i o' ho e he hb)]
   exact h2 (z1m inv e) (by simp[renO];exact⟨e,he,rfl⟩) hb
 ·rintro ⟨o,h1,h2⟩
  refine⟨_,by rw[h1];rfl,fun e he hb=> ?_⟩
  simp[renO] at he
  obtain⟨e',he',rfl⟩:=he
  show listed'.getD (nthN inv e'.on) false=true
  rw[hl e'.on false (hp.edge i o h1 e' he' hb)]
  exact h2 e' he' hb
theorem Perm.yielded {inv:List Nat} (hp:Perm inv ops ops1) (tmps:Array Value) {j:Nat} (hj:j<ops.size):yielded ops1 tmps (nthN inv j)=yielded ops tmps j:=by
 unfold Go.yielded
 rw[hp.get j hj]
 cases ops[j]? <;>rfl
theorem Perm.wpOp {inv:List Nat} (hp:Perm inv ops ops1) {i:Nat} (hi:i<ops.size) {K:Act→World→Prop} {a:Act} {w:World}:wpOp P ops1 Q (nthN inv i) K a w↔wpOp P ops Q i K a w:=by
 unfold Go.wpOp
 rw[hp.get i hi]
 cases ho:ops[i]? with
 |none=>exact Iff.rfl
 |some o=>
  have hw:Region.wanted (renO inv o) (Go.yielded ops1 a.tmps)=Region.wanted o (Go.yielded ops a.tmps):=by
   unfold Region.wanted
   cases hg:o.guard with
   |none=>simp[renO,hg]
   |some p=>
    obtain⟨j,b⟩:=p
    simp only[renO,hg,Option.map_some]
    rw[hp.yielded a.tmps (hp.guard i o ho j b hg)]
  show(if Region.wanted (renO inv o) (Go.yielded ops1 a.tmps)=true then _ else _)↔(if Region.wanted o (Go.yielded ops a.tmps)=true then _ else _)
  rw[hw]
  exact Iff.rfl
theorem Perm.any {inv:List Nat} (hp:Perm inv ops ops1): ∀ (n:Nat) (listed listed':Array Bool) (a:Act) (w:World),SameL inv ops.size listed listed'→wpAny P .any ops1 Q n listed' a w→wpAny P .any ops Q n listed a w
 |0,listed,listed',a,w,hL,H=>by
  refine⟨List.eq_nil_iff_forall_not_mem.2 fun j hj=> ?_,H.2⟩
  have hlt:j<ops.size:=by rw[← hL.s1];exact zgq hj
  have:=(hp.ready hL hlt).2 hj
  rw[H.1] at this
  cases this
 |n+1,listed,listed',a,w,hL,H=>by
  refine⟨fun hr=>H.1 (List.eq_nil_iff_forall_not_mem.2 fun j hj=> ?_),fun i hi=> ?_⟩
  ·have hlt:j<ops.size:=by rw[← hL.s2];exact zgq hj
   obtain⟨i,hi,rfl⟩:=hp.onto j hlt
   have:=(hp.ready hL hi).1 hj
   rw[hr] at this
   cases this
  ·have hlt:i<ops.size:=by rw[← hL.s1];exact zgq hi
   exact wpOp_mono (fun a w=>hp.any n _ _ a w (hL.set hp hlt)) ((hp.wpOp hlt).1 (H.2 _ ((hp.ready hL hlt).2 hi)))
theorem zi8 {N:Nat} {an1 an2 perm inv:List Nat} {ops:Array Oper} {id:Nat} {Q:Exit→Act→World→Prop} {k:List SV→List HO→Option R} (hG:Given P C Γ) (hh:Hp B E hp w) (hf:SV.satL E fr a.tmps.toList) (hg:C.globsOk E.M)
  (hfg:f≠g) (hc:zok f g 0 ops.toList=true) (hpm:zsb ops.size perm inv=true) (hed:zhb ops.size (zbj g f ops.toList)=true)
  (hB1:zn9 C [] an1 (zbj f g ops.toList).toArray=true) (hB2:zn9 C [] an2 (zdm inv (zbj g f ops.toList) perm).toArray=true) (hN:hp.length≤N)
  (hn1:zoe B E a (opsDst (zbj f g ops.toList)) k r fun a' w'=>Q .normal a' w') (hn2:zoe B E a (opsDst (zdm inv (zbj g f ops.toList) perm)) k r fun a' w'=>Q .normal a' w')
  (h1:xq C Γ (zbj f g ops.toList) N [] an1 0 (zbj f g ops.toList) fr ⟨hp, [], []⟩ k=some r)
  (h2:xq C Γ (zdm inv (zbj g f ops.toList) perm) N [] an2 0 (zdm inv (zbj g f ops.toList) perm) fr ⟨hp, [], []⟩ k=some r):(Code.region id ops true).wp P Q a w:=by
 have e1:=zlb (ops:=(zbj f g ops.toList).toArray) hG hh hf hg hB1 hN (by simpa using hn1) (by simpa using h1)
 have e2:=zlb (ops:=(zdm inv (zbj g f ops.toList) perm).toArray) hG hh hf hg hB2 hN (by simpa using hn2) (by simpa using h2)
 have m1:=zmm f g ops
 have m2:=zmm g f ops
 have hsz:(zbj g f ops.toList).length=ops.size:=by simp[zgd]
 have hp:=zsc (inv:=inv) (perm:=perm) (l:=zbj g f ops.toList) (by rw[hsz];exact hpm) (by rw[hsz];exact hed)
 have hs2:(zbj g f ops.toList).toArray.size=ops.size:=m2.size
 rw[m1.size] at e1
 rw[hp.size,hs2] at e2
 have e3:=hp.any _ (Array.replicate ops.size false) _ _ _ ⟨by simp[hs2],by simp[hs2],fun i hi=>by
  have h1:=hp.lt i hi
  rw[hs2] at hi h1
  simp[hi,h1]⟩ e2
 refine wp_region_any hG.mixed (zkq hfg m1 m2 (fun i o ho h3 h4=> ?_) _ _ _ _ e1 e3)
 exact zmr ops.toList 0 i o hc (by simpa using ho) (by simpa using h3) (by simpa using h4)
theorem zpe {inv perm:List Nat} {l:List Oper} {t:Tmp} (hlt: ∀ i∈perm,i<l.length) (h:t∈opsDst (zdm inv l perm)):t∈opsDst l:=by
 obtain⟨m,o,h1,h2⟩:=x6 h
 unfold zdm at h1
 rw[List.getElem?_map] at h1
 cases hm:perm[m]? with
 |none=>rw[hm] at h1;cases h1
 |some i=>
  rw[hm] at h1
  simp only[Option.map_some,Option.some.injEq] at h1
  subst h1
  have hil:=hlt i (List.mem_of_getElem? hm)
  have hd:(l.getD i default).dst=some t:=h2
  rw[List.getD_eq_getElem?_getD,List.getElem?_eq_getElem hil] at hd
  have hx:l[i]? =some l[i]:=List.getElem?_eq_getElem hil
  clear h h2 hm
  generalize l[i]=x at hd hx
  clear hil hlt
  induction l generalizing i with
  |nil=>simp at hx
  |cons y l ih=>
   unfold opsDst
   cases i with
   |zero=>
    simp at hx
    subst hx
    rw[show y.dst=some t from hd]
    exact List.mem_cons_self ..
   |succ i=>
    have:=ih i (by simpa using hx)
    cases y.dst with
    |none=>exact this
    |some u=>exact List.mem_cons_of_mem _ this
end
end Go.Sx
