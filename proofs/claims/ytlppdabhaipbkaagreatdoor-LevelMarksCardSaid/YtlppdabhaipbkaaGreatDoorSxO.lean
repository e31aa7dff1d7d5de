/- Maps that are gone through: helpers for steps that are shown by hand. -/
import Derived.Test.YtlppdabhaipbkaaGreatDoorSxN
import Derived.Maps.RangeRun
set_option linter.unusedVariables false
set_option linter.unusedSimpArgs false
namespace Go.Sx
open Go.RowKit
open Go.ChangeMaps (setBlock)
section
variable {P:Program} {a:Act} {w w':World} {o:Oper} {ops:Array Oper} {rest:List Oper} {Q:Exit→Act→World→Prop}
theorem zC (hg:o.guard=none) {v:Value} (hrun:(execOp a.eval o).run P w= .ok (.value v) w') (h:wpList P ops Q rest (a.put o.dst v) w'):wpList P ops Q (o::rest) a w:=
 wpList_plain hg fun K hK=>by unfold Oper.wp;rw[hrun];exact hK _ _ h
theorem zi {i:Nat} {v:Value} (h:i<a.tmps.size):(a.put (some i) v).eval (.tmp i)=v:=by
 simp[Act.put,Act.eval,Array.getD,h]
theorem zt {i j:Nat} {v:Value} (h:i≠j):(a.put (some i) v).eval (.tmp j)=a.eval (.tmp j):=by
 simp only[Act.put,Act.eval,Array.getD_eq_getD_getElem?]
 rw[Array.getElem?_setIfInBounds_ne h]
theorem zW {i:Nat} {v:Value}:(a.put (some i) v).tmps.size=a.tmps.size:=by simp[Act.put]
theorem jX {i:Nat} {v:Value}:(a.put (some i) v).defers=a.defers:=rfl
theorem j3 {v:Value}:a.eval (.const v)=v:=rfl
theorem zq3 {M:Mem} {K V:Ty}: ∀ {es:List (K.den×V.den)} {l:List MapEntry},zst M K V es l→(∀ m∈l, ∃ p∈es,(∃ ck,Rep M K p.1 ck∧m.key=zG K ck)∧ ∃ cv,Rep M V p.2 cv∧m.val=zG V cv)∧
  ∀ p∈es, ∃ m∈l,(∃ ck,Rep M K p.1 ck∧m.key=zG K ck)∧ ∃ cv,Rep M V p.2 cv∧m.val=zG V cv
 | [],l,h=>by simp only[zst] at h;subst h;simp
 |x::es,l,⟨m,ms,e,h1,h2,h3⟩=>by
  subst e
  obtain⟨g1,g2⟩:=zq3 h3
  refine⟨fun m' hm=> ?_,fun p hp=> ?_⟩
  ·rcases List.mem_cons.1 hm with rfl|hm
   ·exact⟨x,by simp,h1,h2⟩
   ·obtain⟨p,hp,hq⟩:=g1 m' hm;exact⟨p,by simp[hp],hq⟩
  ·rcases List.mem_cons.1 hp with rfl|hp
   ·exact⟨m,by simp,h1,h2⟩
   ·obtain⟨m',hm,hq⟩:=g2 p hp;exact⟨m',by simp[hm],hq⟩
theorem zi5 {B:Nat} {w0:World} (h:Below B w0 w) {r:Nat} (hr:B≤r) {m:Option Nat} {s c:Nat} {seen:Array Nat} (hh:w.heap[r]? =some (.mapIter m s seen c)) (o':Obj):Below B w0 (setBlock w r o'):=by
 refine⟨h.os,h.tape,h.output,by simpa [setBlock] using h.size,fun k hk=> ?_⟩
 have hkr:r≠k:=by omega
 show(w.heap.setIfInBounds r o')[k]? =_
 rw[Array.getElem?_setIfInBounds_ne hkr]
 exact h.block k hk
theorem zf6 {r:Nat} {m:Option Nat} {s c:Nat} {seen:Array Nat} (hh:w.heap[r]? =some (.mapIter m s seen c)) (o':Obj):(setBlock w r o').heap[r]? =some o':=by
 have:r<w.heap.size:=(Array.getElem?_eq_some_iff.1 hh).1
 show(w.heap.setIfInBounds r o')[r]? =_
 simp[this]
theorem zkh {body:Code} {I:Nat→Act→World→Prop} (h0: ∀ a w, ¬ I 0 a w) (hI: ∀ n a w (K:Act→World→Prop),(∀ a w,I n a w→K a w)→I (n+1) a w→body.wp P (Exit.then K Q) a w): ∀ n a w,I n a w→Code.rounds P body Q n a w
 |0,a,w,h=>absurd h (h0 a w)
 |n+1,a,w,h=>by
  rw[rounds_succ]
  exact hI n a w _ (fun a w h=>zkh h0 hI n a w h) h
theorem Hp.nil {B:Base} {E:Env} {hp:List HO} (h:Hp B E hp w):Hp B ⟨E.M, []⟩ [] w where
 ag:=h.ag
 base:=h.base
 fresh:=h.fresh
 ok:=h.ok
 len:=rfl
 free:=fun i o e b h1=>by simp at h1
 dist:=fun i j o o' e e' b h1=>by simp at h1
 ob:=fun i o e h1=>by simp at h1
 tok:=fun i o e h1=>by simp at h1
 tdist:=fun i j o o' e e' b h1=>by simp at h1
end
end Go.Sx
