/- The symbolic evaluator, part Q: what is handed in reads as pure data. -/
import Derived.Test.YtlppdabhaipbkaaGreatDoorSxP
import Derived.OpenShut
import Derived.ShutString
import Derived.SizedLaws
import Derived.Carry
import Derived.OpenVars
import Derived.LaidMore
set_option linter.unusedVariables false
set_option linter.unusedSimpArgs false
namespace Go.Sx
open Go.RowKit Go.ChangeShapes Go.WideShapes
def zmh (w:World):Mem:=fun b=>match w.heap[b]? with
 |some (.cells c _ _)=>some c
 |_=>none
theorem zpo (w:World):(zmh w).agrees w:=by
 intro b c h
 unfold zmh at h
 split at h
 ·rename_i c' T fr hh
  cases h
  exact⟨_,T,fr,hh,List.prefix_refl _⟩
 ·cases h
def jx (P:Program) (sz:Nat) (g:TypeId→Bool):TypeId ⊕ (List Field×Nat)→Bool
 | .inl T=>g T
 | .inr ([f],off)=>Nat.beq f.offset off&&(Nat.beq (P.cellsOf f.type) sz&&g f.type)
 |_=>false
def tyA (P:Program):Ty→TypeId ⊕ (List Field×Nat)→Bool
 | .int k,x=>jx P 1 (fun T=>match P.underlying T with
  |some (.int j)=>j==k
  |_=>false) x
 | .bool,x=>jx P 1 (fun T=>match P.underlying T with
  |some .bool=>true
  |_=>false) x
 | .str,x=>jx P 1 (fun T=>match P.underlying T with
  |some .string=>true
  |_=>false) x
 | .sl e,x=>jx P 1 (fun T=>match P.underlying T with
  |some (.slice E)=>Nat.beq (P.cellsOf E) e.size&&(Nat.ble 1 e.size&&tyA P e (.inl E))
  |_=>false) x
 | .arr n e,x=>jx P (n*e.size) (fun T=>match P.underlying T with
  |some (.array m E)=>Nat.beq m n&&(Nat.beq (P.cellsOf E) e.size&&(Nat.beq (P.cellsOf T) (n*e.size)&&tyA P e (.inl E)))
  |_=>false) x
 | .st f,x=>jx P f.size (fun T=>match P.underlying T with
  |some (.struct fs)=>Nat.beq (P.cellsOf T) f.size&&tyA P f (.inr (fs.toList,0))
  |_=>false) x
 | .pair a b, .inr (f::fs,off)=>Nat.beq f.offset off&&(Nat.beq (P.cellsOf f.type) a.size&&(tyA P a (.inl f.type)&&tyA P b (.inr (fs,off+a.size))))
 |_,_=>false
def tyM (P:Program) (t:Ty) (T:TypeId):Bool:=tyA P t (.inl T)
def zvh (P:Program) (f:Ty) (fs:List Field) (off:Nat):Bool:=tyA P f (.inr (fs,off))
def Ty.isPair:Ty→Bool
 | .pair _ _=>true
 |_=>false
theorem j4 {P:Program} {sz:Nat} {g:TypeId→Bool} {fs:List Field} {off:Nat} (h:jx P sz g (.inr (fs,off))=true): ∃ fd,fs= [fd]∧fd.offset=off∧P.cellsOf fd.type=sz∧g fd.type=true:=by
 match fs with
 | []=>simp[jx] at h
 | [fd]=>
  simp only[jx,Bool.and_eq_true] at h
  exact⟨fd,rfl,Nat.eq_of_beq_eq_true h.1,Nat.eq_of_beq_eq_true h.2.1,h.2.2⟩
 |_::_::_=>simp[jx] at h
theorem zcu {P:Program} {t:Ty} (ht:t.isPair=false) {fs:List Field} {off:Nat} (h:zvh P t fs off=true): ∃ fd,fs= [fd]∧fd.offset=off∧P.cellsOf fd.type=t.size∧tyM P t fd.type=true:=by
 cases t with
 |int k=>exact j4 h
 |bool=>exact j4 h
 |str=>exact j4 h
 |sl e=>exact j4 h
 |arr n e=>exact j4 h
 |st f=>exact j4 h
 |pair a b=>simp[Ty.isPair] at ht
 |osl e=>simp[zvh,tyA] at h
 |flt=>simp[zvh,tyA] at h
 |cplx=>simp[zvh,tyA] at h
 |unit=>simp[zvh,tyA] at h
def Ty.wf:(t:Ty)→t.den→Prop
 | .int k,x=>k.min≤x∧x≤k.max
 | .str,s=>s.size≤maxLen
 | .sl e,xs=>xs.length≤maxLen∧ ∀ y∈xs,e.wf y
 | .arr n e,xs=>xs.length=n∧ ∀ y∈xs,e.wf y
 | .pair a b,x=>a.wf x.1∧b.wf x.2
 | .st f,x=>f.wf x
 |_,_=>True
def z0w {α β:Type} (f:α→Option β):List α→Option (List β)
 | []=>some []
 |x::l=>match f x,z0w f l with
  |some y,some m=>some (y::m)
  |_,_=>none
def zpc {H α:Type} (g:DataW H→Option α):DataW H ⊕ List (DataW H)→Option α
 | .inl d=>g d
 | .inr [d]=>g d
 |_=>none
def zjc {H:Type}:(t:Ty)→DataW H ⊕ List (DataW H)→Option t.den
 | .int _,x=>zpc (fun d=>match d with
  | .lit (.int _ n)=>some n
  |_=>none) x
 | .bool,x=>zpc (fun d=>match d with
  | .lit (.bool b)=>some b
  |_=>none) x
 | .str,x=>zpc (fun d=>match d with
  | .lit (.string l)=>some ⟨l.toArray⟩
  |_=>none) x
 | .sl e,x=>zpc (fun d=>match d with
  | .nil=>some []
  | .slice l _=>z0w (fun d=>zjc e (.inl d)) l
  |_=>none) x
 | .arr _ e,x=>zpc (fun d=>match d with
  | .agg l=>z0w (fun d=>zjc e (.inl d)) l
  |_=>none) x
 | .st f,x=>zpc (fun d=>match d with
  | .agg l=>zjc f (.inr l)
  |_=>none) x
 | .pair a b, .inr (d::l)=>match zjc a (.inl d),zjc b (.inr l) with
  |some x,some y=>some (x,y)
  |_,_=>none
 |_,_=>none
def readD {H:Type} (t:Ty) (d:DataW H):Option t.den:=zjc t (.inl d)
def zyz {H:Type} (t:Ty) (l:List (DataW H)):Option t.den:=zjc t (.inr l)
theorem j9 {H:Type} {t:Ty} (ht:t.isPair=false) (d:DataW H):zyz t [d]=readD t d:=by
 cases t<;>first|rfl|simp[Ty.isPair] at ht
section
variable {H:Type} {enc:TypeId×Value→H} {P:Program} {w:World} {base:Nat} {spare:Nat→Bool} {held:Bool}
theorem zig {α:Type} {R:α→List Value→Prop} {q:α→Prop} {n:Nat} {rd:DataW H→Option α}: ∀ (ds:List (DataW H)) (l:List Value),ds.length*n≤l.length→
  (∀ i d,ds[i]? =some d→ ∃ y,R y ((l.drop (i*n)).take n)∧q y∧rd d=some y)→
  ∃ xs:List α,xs.length=ds.length∧xp R xs (l.take (ds.length*n))∧(∀ y∈xs,q y)∧z0w rd ds=some xs
 | [],l,_,_=>⟨[],rfl,by simp[xp],by simp,rfl⟩
 |d::ds,l,hl,h=>by
  obtain⟨y,h1,h2,h2'⟩:=h 0 d (by simp)
  simp only[List.length_cons] at hl
  have hmn:(ds.length+1)*n=n+ds.length*n:=by rw[Nat.add_mul];omega
  obtain⟨xs,e,h3,h4,h5⟩:=zig (R:=R) (q:=q) (n:=n) (rd:=rd) ds (l.drop n) (by rw[List.length_drop];omega) (fun i d' hi=>by
   obtain⟨z,k1,k2⟩:=h (i+1) d' (by simpa using hi)
   refine⟨z, ?_,k2⟩
   rw[List.drop_drop]
   have:n+i*n=(i+1)*n:=by rw[Nat.add_mul];omega
   rw[this]
   exact k1)
  refine⟨y::xs,by simp[e],⟨l.take n,(l.drop n).take (ds.length*n), ?_,by simpa using h1,h3⟩, ?_, ?_⟩
  ·rw[List.length_cons,hmn,List.take_add]
  ·intro z hz
   rcases List.mem_cons.1 hz with rfl|hz
   ·exact h2
   ·exact h4 z hz
  ·simp[z0w,h2',h5]
theorem zma {l d:List Value} {k n:Nat} (hd:d.length=n) (h: ∀ i,i<n→l[k+i]? =d[i]?):(l.drop k).take n=d:=by
 apply List.ext_getElem?
 intro i
 rw[List.getElem?_take]
 split
 ·rename_i hi
  rw[List.getElem?_drop,h i hi]
 ·rename_i hi
  rw[List.getElem?_eq_none (by omega)]
mutual
theorem z7: ∀ (t:Ty) (T:TypeId) (fuel:Nat) (cs:List Value) (x:DataW H×List MemPlace),tyM P t T=true→DataW.trod enc P w base spare held fuel T cs=some x→ ∃ y:t.den,Rep (zmh w) t y cs∧t.wf y∧readD t x.1=some y
 | .int k,T,fuel,cs,x,hm,h=>by
  unfold tyM tyA jx at hm
  dsimp only at hm
  split at hm
  case h_2=>cases hm
  case h_1 j hu=>
   rw[beq_iff_eq] at hm
   subst hm
   obtain⟨n,h1,hx,h3⟩:=DataW.trod_int hu h
   refine⟨n,h1, ?_,by rw[hx];rfl⟩
   simpa [Lit.wf,Ty.wf] using h3
 | .bool,T,fuel,cs,x,hm,h=>by
  unfold tyM tyA jx at hm
  dsimp only at hm
  split at hm
  case h_2=>cases hm
  case h_1 hu=>
   obtain⟨b,h1,hx⟩:=DataW.trod_bool hu h
   exact⟨b,h1,trivial,by rw[hx];rfl⟩
 | .str,T,fuel,cs,x,hm,h=>by
  unfold tyM tyA jx at hm
  dsimp only at hm
  split at hm
  case h_2=>cases hm
  case h_1 hu=>
   obtain⟨s,h1,hx,h3⟩:=DataW.trod_string hu h
   refine⟨s,h1,h3, ?_⟩
   rw[hx]
   simp[readD,zjc,zpc]
 | .sl e,T,fuel,cs,x,hm,h=>by
  unfold tyM tyA jx at hm
  dsimp only at hm
  split at hm
  case h_2=>cases hm
  case h_1 E hu=>
   simp only[Bool.and_eq_true] at hm
   have hsz:=Nat.eq_of_beq_eq_true hm.1
   have hpos:=Nat.le_of_ble_eq_true hm.2.1
   have hme:=hm.2.2
   rcases DataW.trod_slice hu h with ⟨h1,hx⟩|⟨a,len,cap,elems,rest,n,_,h1,hx,_,hlc,hcm,hel,hes,_⟩
   ·exact⟨[],⟨none,0,h1,by simp, .inl rfl⟩,by simp[Ty.wf],by rw[hx];rfl⟩
   ·cases len with
    |zero=>
     have:elems= []:=List.eq_nil_of_length_eq_zero hel
     exact⟨[],⟨some a,cap,h1,by simp, .inl rfl⟩,by simp[Ty.wf],by rw[hx,this];rfl⟩
    |succ len=>
     have hat: ∀ i,i<len+1→ ∃ ci,w.cells? base (a.add (i*e.size)) e.size=some ci∧ ∃ y:e.den,Rep (zmh w) e y ci∧e.wf y∧ ∀ z,elems[i]? =some z→readD e z.1=some y:=by
      intro i hi
      have h2:=hes i hi
      rw[hsz,List.getElem?_eq_getElem (by omega)] at h2
      obtain⟨ci,h3,h4⟩:=Option.bind_eq_some_iff.1 h2
      obtain⟨y,k1,k2,k3⟩:=z7 e E n ci _ hme h4
      refine⟨ci,h3,y,k1,k2,fun z hz=> ?_⟩
      rw[List.getElem?_eq_getElem (by omega)] at hz
      cases hz
      exact k3
     obtain⟨b,off,spot⟩:=a
     have hspot:spot=none:=by
      obtain⟨ci,h3,_⟩:=hat 0 (by omega)
      obtain⟨_,h4,h5⟩:=World.cells?_some h3
      have h6:=h5 0 (by omega)
      rw[List.getElem?_eq_getElem (by omega)] at h6
      have:=World.cell?_spot h6
      rw[Nat.zero_mul] at this
      cases spot with
      |none=>rfl
      |some s=>simp[Addr.add] at this
     subst hspot
     have hcell: ∀ i,i<len+1→ ∃ ci,(ci.length=e.size∧ ∀ j,j<e.size→w.cell? ⟨b,off+(i*e.size+j),none⟩=ci[j]?)∧ ∃ y:e.den,Rep (zmh w) e y ci∧e.wf y∧ ∀ z,elems[i]? =some z→readD e z.1=some y:=by
      intro i hi
      obtain⟨ci,h3,h7⟩:=hat i hi
      obtain⟨_,h4,h5⟩:=World.cells?_some h3
      refine⟨ci,⟨h4,fun j hj=> ?_⟩,h7⟩
      have:=h5 j hj
      rw[add_plain,add_plain] at this
      rw[← this,Nat.add_assoc]
     obtain⟨c,TT,fr,hblk⟩: ∃ c TT fr,w.heap[b]? =some (.cells c TT fr):=by
      obtain⟨ci,⟨h4,h5⟩,_⟩:=hcell 0 (by omega)
      have h6:=h5 0 (by omega)
      rw[List.getElem?_eq_getElem (by omega)] at h6
      unfold World.cell? at h6
      split at h6
      ·rename_i c T fr hh;exact⟨c,T,fr,hh⟩
      ·cases h6
     have hcb: ∀ k,w.cell? ⟨b,k,none⟩=c.toList[k]? :=by
      intro k
      unfold World.cell?
      simp only[hblk]
      simp
     have hseg: ∀ i d,(elems.map (·.1))[i]? =some d→ ∃ y:e.den,Rep (zmh w) e y (((c.toList.drop off).drop (i*e.size)).take e.size)∧e.wf y∧readD e d=some y:=by
      intro i d hd
      rw[List.getElem?_map] at hd
      obtain⟨z,hz,rfl⟩:=Option.map_eq_some_iff.1 hd
      have hi:i<len+1:=by
       have:=(List.getElem?_eq_some_iff.1 hz).1
       omega
      obtain⟨ci,⟨h4,h5⟩,y,h6,h7,h8⟩:=hcell i hi
      refine⟨y, ?_,h7,h8 z hz⟩
      rw[List.drop_drop,zma (d:=ci) h4 (fun j hj=>by rw[← h5 j hj,hcb];congr 1;omega)]
      exact h6
     have hsize:(len+1)*e.size≤(c.toList.drop off).length:=by
      obtain⟨ci,⟨h4,h5⟩,_⟩:=hcell len (by omega)
      have h6:=h5 (e.size - 1) (by omega)
      rw[List.getElem?_eq_getElem (by omega),hcb] at h6
      have:=(List.getElem?_eq_some_iff.1 h6).1
      rw[List.length_drop]
      rw[Nat.add_mul]
      omega
     have hlen:(elems.map (·.1)).length=len+1:=by rw[List.length_map,hel]
     obtain⟨xs,hx1,hx2,hx3,hx4⟩:=zig (n:=e.size) (elems.map (·.1)) (c.toList.drop off) (by rw[hlen];exact hsize) hseg
     rw[hlen] at hx1 hx2
     refine⟨xs,⟨some ⟨b,off,none⟩,cap,by rw[hx1];exact h1,by omega, .inr ⟨b,off,_,rfl, ?_,hx2⟩⟩, ?_⟩
     ·refine⟨c,c.toList.take off,(c.toList.drop off).drop ((len+1)*e.size),by unfold zmh;rw[hblk], ?_, ?_⟩
      ·rw[List.take_append_drop,List.take_append_drop]
      ·rw[List.length_take]
       rw[List.length_drop] at hsize
       have:1≤(len+1)*e.size:=Nat.le_trans hpos (Nat.le_mul_of_pos_left _ (by omega))
       omega
     ·exact⟨⟨by omega,hx3⟩,by rw[hx];exact hx4⟩
 | .arr n e,T,fuel,cs,x,hm,h=>by
  unfold tyM tyA jx at hm
  dsimp only at hm
  split at hm
  case h_2=>cases hm
  case h_1 m E hu=>
   simp only[Bool.and_eq_true] at hm
   have hn:=Nat.eq_of_beq_eq_true hm.1
   have hsz:=Nat.eq_of_beq_eq_true hm.2.1
   have hcs:=Nat.eq_of_beq_eq_true hm.2.2.1
   subst hn
   obtain⟨xs,k,_,hx,h3,h4,h5⟩:=DataW.trod_array hu h
   rw[hcs] at h3
   have hlen:(xs.map (·.1)).length=m:=by rw[List.length_map,h4]
   obtain⟨ys,hx1,hx2,hx3,hx4⟩:=zig (R:=Rep (zmh w) e) (q:=e.wf) (n:=e.size) (rd:=readD e) (xs.map (·.1)) cs (by rw[hlen];omega) (fun i d hd=>by
    rw[List.getElem?_map] at hd
    obtain⟨z,hz,rfl⟩:=Option.map_eq_some_iff.1 hd
    have hi:i<m:=by
     have:=(List.getElem?_eq_some_iff.1 hz).1
     omega
    have:=h5 i hi
    rw[hsz,hz] at this
    exact z7 e E k _ _ hm.2.2.2 this)
   rw[hlen] at hx1 hx2
   refine⟨ys,⟨hx1, ?_⟩,⟨hx1,hx3⟩,by rw[hx];exact hx4⟩
   rw[List.take_of_length_le (by omega)] at hx2
   exact hx2
 | .st f,T,fuel,cs,x,hm,h=>by
  unfold tyM tyA jx at hm
  dsimp only at hm
  split at hm
  case h_2=>cases hm
  case h_1 fs hu=>
   simp only[Bool.and_eq_true] at hm
   have hcs:=Nat.eq_of_beq_eq_true hm.1
   obtain⟨xs,k,_,hx,h3,h4,h5⟩:=DataW.trod_struct hu h
   rw[hcs] at h3
   obtain⟨y,h6,h7,h8⟩:=zek f fs.toList 0 k cs (xs.map (·.1)) hm.2 (by omega) (by simp[h4]) (fun i fd hi=>by
    have hi':i<fs.size:=by
     have:=(List.getElem?_eq_some_iff.1 hi).1
     simpa using this
    have:=h5 i fd (by simpa using hi)
    rw[List.getElem?_eq_getElem (by omega)] at this
    exact⟨_,this,by simp[List.getElem?_eq_getElem (show i<xs.length by omega)]⟩)
   exact⟨y,by rw[List.drop_zero] at h6;exact h6,h7,by rw[hx];exact h8⟩
 | .unit,T,fuel,cs,x,hm,h=>by simp[tyM,tyA] at hm
 | .flt,T,fuel,cs,x,hm,h=>by simp[tyM,tyA] at hm
 | .cplx,T,fuel,cs,x,hm,h=>by simp[tyM,tyA] at hm
 | .pair _ _,T,fuel,cs,x,hm,h=>by simp[tyM,tyA] at hm
termination_by t _ _ _ _ _ _=>(SizeOf.sizeOf t,0)
theorem zek: ∀ (f:Ty) (fs:List Field) (off fuel:Nat) (cs:List Value) (ds:List (DataW H)),zvh P f fs off=true→off+f.size=cs.length→ds.length=fs.length→
  (∀ (i:Nat) (fd:Field),fs[i]? =some fd→ ∃ x,DataW.trod enc P w base spare held fuel fd.type ((cs.drop fd.offset).take (P.cellsOf fd.type))=some x∧ds[i]? =some x.1)→ ∃ y:f.den,Rep (zmh w) f y (cs.drop off)∧f.wf y∧zyz f ds=some y
 | .pair a b,fd::fs,off,fuel,cs, [],hm,hl,hd,h=>by simp at hd
 | .pair a b,fd::fs,off,fuel,cs,d::ds,hm,hl,hd,h=>by
  unfold zvh tyA at hm
  simp only[Bool.and_eq_true] at hm
  have h1:=Nat.eq_of_beq_eq_true hm.1
  have h2:=Nat.eq_of_beq_eq_true hm.2.1
  obtain⟨x,hx,hx'⟩:=h 0 fd (by simp)
  rw[h1,h2] at hx
  simp at hx'
  subst hx'
  obtain⟨y,k1,k2,k2'⟩:=z7 a _ fuel _ x hm.2.2.1 hx
  simp only[Ty.size] at hl
  obtain⟨z,k3,k4,k5⟩:=zek b fs (off+a.size) fuel cs ds hm.2.2.2 (by omega) (by simpa using hd) (fun i fd hi=>by simpa using h (i+1) fd (by simpa using hi))
  refine⟨(y,z),⟨_,_, ?_,k1,k3⟩,⟨k2,k4⟩,by show zjc _ _=_;unfold zyz readD at *; simp[zjc,k2',k5]⟩
  rw[← List.drop_drop,List.take_append_drop]
 | .int k,fs,off,fuel,cs,ds,hm,hl,hd,h=>by
  obtain⟨fd,rfl,k1,k2,k3⟩:=zcu rfl hm
  obtain⟨x,hx,hx'⟩:=h 0 fd (by simp)
  rw[k1,k2,List.take_of_length_le (by rw[List.length_drop];omega)] at hx
  obtain⟨d,rfl⟩:=List.length_eq_one_iff.1 (by simpa using hd)
  simp at hx'
  subst hx'
  rw[j9 rfl]
  exact z7 (.int k) _ fuel _ x k3 hx
 | .bool,fs,off,fuel,cs,ds,hm,hl,hd,h=>by
  obtain⟨fd,rfl,k1,k2,k3⟩:=zcu rfl hm
  obtain⟨x,hx,hx'⟩:=h 0 fd (by simp)
  rw[k1,k2,List.take_of_length_le (by rw[List.length_drop];omega)] at hx
  obtain⟨d,rfl⟩:=List.length_eq_one_iff.1 (by simpa using hd)
  simp at hx'
  subst hx'
  rw[j9 rfl]
  exact z7 .bool _ fuel _ x k3 hx
 | .str,fs,off,fuel,cs,ds,hm,hl,hd,h=>by
  obtain⟨fd,rfl,k1,k2,k3⟩:=zcu rfl hm
  obtain⟨x,hx,hx'⟩:=h 0 fd (by simp)
  rw[k1,k2,List.take_of_length_le (by rw[List.length_drop];omega)] at hx
  obtain⟨d,rfl⟩:=List.length_eq_one_iff.1 (by simpa using hd)
  simp at hx'
  subst hx'
  rw[j9 rfl]
  exact z7 .str _ fuel _ x k3 hx
 | .sl e,fs,off,fuel,cs,ds,hm,hl,hd,h=>by
  obtain⟨fd,rfl,k1,k2,k3⟩:=zcu rfl hm
  obtain⟨x,hx,hx'⟩:=h 0 fd (by simp)
  rw[k1,k2,List.take_of_length_le (by rw[List.length_drop];omega)] at hx
  obtain⟨d,rfl⟩:=List.length_eq_one_iff.1 (by simpa using hd)
  simp at hx'
  subst hx'
  rw[j9 rfl]
  exact z7 (.sl e) _ fuel _ x k3 hx
 | .arr n e,fs,off,fuel,cs,ds,hm,hl,hd,h=>by
  obtain⟨fd,rfl,k1,k2,k3⟩:=zcu rfl hm
  obtain⟨x,hx,hx'⟩:=h 0 fd (by simp)
  rw[k1,k2,List.take_of_length_le (by rw[List.length_drop];omega)] at hx
  obtain⟨d,rfl⟩:=List.length_eq_one_iff.1 (by simpa using hd)
  simp at hx'
  subst hx'
  rw[j9 rfl]
  exact z7 (.arr n e) _ fuel _ x k3 hx
 | .st g,fs,off,fuel,cs,ds,hm,hl,hd,h=>by
  obtain⟨fd,rfl,k1,k2,k3⟩:=zcu rfl hm
  obtain⟨x,hx,hx'⟩:=h 0 fd (by simp)
  rw[k1,k2,List.take_of_length_le (by rw[List.length_drop];omega)] at hx
  obtain⟨d,rfl⟩:=List.length_eq_one_iff.1 (by simpa using hd)
  simp at hx'
  subst hx'
  rw[j9 rfl]
  exact z7 (.st g) _ fuel _ x k3 hx
 | .unit,fs,off,fuel,cs,ds,hm,hl,hd,h=>by simp[zvh,tyA] at hm
 | .flt,fs,off,fuel,cs,ds,hm,hl,hd,h=>by simp[zvh,tyA] at hm
 | .cplx,fs,off,fuel,cs,ds,hm,hl,hd,h=>by simp[zvh,tyA] at hm
 | .pair _ _, [],off,fuel,cs,ds,hm,hl,hd,h=>by simp[zvh,tyA] at hm
termination_by f _ _ _ _ _ _ _ _ _=>(SizeOf.sizeOf f,1)
end
end
end Go.Sx
