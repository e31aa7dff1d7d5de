/- Level, plain: weak classes as functions of lists. -/
import Derived.Test.YtlppdabhaipbkaaGreatDoorSxMc
set_option linter.unusedVariables false
set_option linter.unusedSimpArgs false
namespace Go.Sx
theorem zx {A B:Type} {x:Option A} {k:A→Option B} {e:A} {r:Option B} (h:x=some e) (hk:k e=r):x.bind k=r:=by rw[h];exact hk
def zsz {S:Type} (g:S→Int→Int) (h:S→Int→S):S→List Int→List Int
 |_, []=> []
 |s,c::t=>g s c::zsz g h (h s c) t
theorem zpw {S:Type} (g:S→Int→Int) (h:S→Int→S): ∀ (l:List Int) (s:S),(zsz g h s l).length=l.length
 | [],_=>rfl
 |c::t,s=>by simp[zsz,zpw g h t]
theorem zlm {S X E:Type} {g:S→Int→Int} {h:S→Int→S} {f:X→Option (X ⊕ E)} (mk:S→Int→List Int→X) (out:List Int→E) (n:Nat)
  (h1: ∀ (s:S) (k:Nat) (m:List Int),m.length=n→k<n→f (mk s k m)=some (.inl (mk (h s (m.getD k 0)) ((k+1:Nat):Int) (m.set k (g s (m.getD k 0))))))
  (h2: ∀ (s:S) (m:List Int),m.length=n→f (mk s n m)=some (.inr (out m))) {s:S} {l:List Int} (hl:l.length=n):iter f (mk s 0 l)=some (out (zsz g h s l)):=by
 suffices key: ∀ (t d:List Int) (s:S),(d++t).length=n→iter f (mk s d.length (d++t))=some (out (d++zsz g h s t)) from key l [] s hl
 intro t
 induction t with
 |nil=>
  intro d s hd
  rw[List.append_nil] at hd
  simp only[zsz,List.append_nil]
  exact zn (by rw[hd];exact h2 s d hd)
 |cons c t ih=>
  intro d s hd
  have e1:(d++c::t).getD d.length 0=c:=by simp[List.getD_eq_getElem?_getD]
  have hk:d.length<n:=by rw[← hd];simp
  rw[zw (h1 s d.length _ hd hk),e1]
  have e2:(d++c::t).set d.length (g s c)=(d++ [g s c])++t:=by simp
  rw[e2]
  have:=ih (d++ [g s c]) (h s c) (by rw[← hd];simp)
  simp only[List.length_append,List.length_cons,List.length_nil,List.append_assoc,List.cons_append,List.nil_append,Nat.zero_add] at this
  simp only[List.append_assoc,List.cons_append,List.nil_append]
  exact this
theorem zln {A X E:Type} {f:X→Option (X ⊕ E)} (mk:Int→List A→X) (out:List A→E) (n:Nat) (g:Nat→A)
  (h1: ∀ (k:Nat) (m:List A),m.length=n→k<n→f (mk k m)=some (.inl (mk ((k+1:Nat):Int) (m.set k (g k)))))
  (h2: ∀ (m:List A),m.length=n→f (mk n m)=some (.inr (out m))) {l:List A} (hl:l.length=n):iter f (mk 0 l)=some (out ((List.range n).map g)):=by
 suffices key: ∀ (j k:Nat),k+j=n→iter f (mk k ((List.range k).map g++l.drop k))=some (out ((List.range n).map g)) from key n 0 (by omega)
 intro j
 induction j with
 |zero=>
  intro k hk
  have hk:k=n:=hk
  subst hk
  rw[List.drop_of_length_le (by omega),List.append_nil]
  exact zn (h2 _ (by simp))
 |succ j ih=>
  intro k hk
  rw[zw (h1 k _ (by simp;omega) (by omega))]
  have e:((List.range k).map g++l.drop k).set k (g k)=(List.range (k+1)).map g++l.drop (k+1):=by
   rw[List.set_append_right _ _ (by simp),List.range_succ,List.map_append,List.append_assoc]
   have hd:l.drop k=l[k]'(by omega)::l.drop (k+1):=List.drop_eq_getElem_cons (by omega)
   rw[hd]
   simp only[List.length_map,List.length_range,Nat.sub_self,List.set_cons_zero]
   rfl
  rw[e]
  exact ih (k+1) (by omega)
theorem zlp {B:Type} (l:List Int) (f:Int→B):((List.range l.length).map fun k=>f (l.getD k 0))=l.map f:=by
 apply List.ext_getElem
 ·simp
 ·intro i h1 h2
  simp only[List.length_map] at h2
  simp[List.getD_eq_getElem?_getD,h2]
theorem zgw (m:List Int) (k:Nat) (h:k<m.length):m.set k (m.getD k 0)=m:=by
 rw[zm 0 h]
 exact List.set_getElem_self h
theorem zn2 (m:List Int) (k:Nat) (a b:Int):(m.set k a).set k b=m.set k b:=List.set_set ..
theorem zaq (m:List Int) (k:Nat) (a:Int) (h:k<m.length):(m.set k a).getD k 0=a:=by
 rw[List.getD_eq_getElem?_getD,List.getElem?_set_self h];rfl
def zy6 (c:Int):Int:=if c<0∨23≤c then 0 else c
theorem zz2 {l:List Int} (hl:l.length≤100000):Lz.f80F l=some (l.map zy6):=by
 unfold Lz.f80F
 rw[if_pos (by simp only[zj];omega)]
 refine zx (zln (fun k m=>(k,m)) id l.length (fun k=>zy6 (l.getD k 0)) ?_ ?_ (by simp)) (by rw[zlp];rfl)
 ·intro k m hm hk
  dsimp only
  obtain⟨b,hb,hb2⟩:=ztv (l.getD k 0)
  simp (disch:=omega) only[if_pos,za,decide_eq_true_eq,Option.bind_some,Int.toNat_natCast,List.length_set,hb,hb2,zn2]
  unfold zy6
  split<;>rfl
 ·intro m hm
  dsimp only
  rw[if_neg (by rw[decide_eq_true_eq];omega)]
  rfl
def zpp (s:Int):Int:=if s=1 then 1 else 0
theorem zz4 (s:Int):Lz.f82F s=some (zpp s):=by
 unfold Lz.f82F zpp
 by_cases h:s=1<;>simp[h]
def mkG (a c:Int):Int:=if c=8 then a else c
def mkH (a c:Int):Int:=if opens (mkG a c)=true∨mkG a c=22 then 13 else mkG a c
def zqp (s:Int) (l:List Int):List Int:=zsz mkG mkH s l
theorem zyd {l:List Int} (hl:l.length≤100000) (s:Int):Lz.f119F (s,l)=some (zqp s l):=by
 unfold Lz.f119F zqp
 dsimp only
 refine zx (zlm (fun(s:Int) k m=>(s,k,m)) id l.length ?_ ?_ rfl) rfl
 ·intro s k m hm hk
  dsimp only
  have hb:(if 0≤(k:Int)∧(k:Int)<(m.length:Int) then some (m.set k s) else none)=some (m.set k s):=if_pos (by omega)
  have h1:(if(m.getD k 0==(8:Int))=true then some (m.set k s) else some m)=some (m.set k (mkG s (m.getD k 0))):=by
   unfold mkG
   by_cases h:m.getD k 0=8
   ·simp only[h,beq_self_eq_true,if_true]
   ·rw[if_neg (by simpa using h),if_neg h,zgw m k (by omega)]
  simp (disch:=omega) only[if_pos,za,decide_eq_true_eq,Option.bind_some,Int.toNat_natCast,h1,List.length_set,zjw,zaq]
  unfold mkH
  generalize mkG s (m.getD k 0)=v
  cases h:opens v with
  |true=>simp
  |false=>
   by_cases h2:v=22
   ·simp[h2]
   ·simp[h2]
 ·intro s m hm
  dsimp only
  rw[if_neg (by rw[decide_eq_true_eq];omega)]
  rfl
def ziu (c:Int):Bool:=c==0||c==1||c==2
theorem zyq:Lz.f77F [0,1,2]=some 7:=by
 unfold Lz.f77F
 rw[qp (n:=4) (e:=7) (by rfl)]
 rfl
theorem zym: ∀ n:Nat,n<23→Lz.f76F ((n:Int),7)=some (ziu n):=by
 unfold Lz.f76F
 decide+kernel
theorem zyg (c:Int):Lz.f145F c=some (ziu c):=by
 unfold Lz.f145F
 rw[zyq]
 show(Lz.f76F (c,7)).bind _=_
 by_cases h0:0≤c
 ·by_cases h1:c<23
  ·obtain⟨n,rfl⟩:=Int.eq_ofNat_of_zero_le h0
   rw[zym n (by omega)]
   rfl
  ·have:Lz.f76F (c,7)=some false:=by
    unfold Lz.f76F
    simp[show c≥0 by omega,show ¬ c≤22 by omega]
   rw[this]
   simp[ziu]
   omega
 ·have:Lz.f76F (c,7)=some false:=by
   unfold Lz.f76F
   simp[h0]
  rw[this]
  simp[ziu]
  omega
def beG (fr st to a c:Int):Int:=if c=fr∧a=st then to else c
def beH (a c:Int):Int:=if ziu c=true then c else a
def zg2 (s fr to st:Int) (l:List Int):List Int:=zsz (beG fr st to) beH s l
theorem zyh (k:Nat) (a fr st to:Int) (m:List Int) (h:k<m.length):Lz.f146F ((k:Int),a,fr,st,to,m)=some (fr,st,to,m.set k (beG fr st to a (m.getD k 0))):=by
 unfold Lz.f146F beG
 have hb:0≤(k:Int)∧(k:Int)<(m.length:Int):=by omega
 by_cases h1:m.getD k 0=fr
 ·have hs:=zgw m k h
  by_cases h2:a=st
  ·rw[show(if m.getD k 0=fr∧a=st then to else m.getD k 0)=to from if_pos ⟨h1,h2⟩]
   refine zx (e:=(true,fr,st,to,m)) ?_ ?_
   ·dsimp only
    rw[if_pos hb,if_pos (by rw[Int.toNat_natCast,h1];exact beq_self_eq_true _),h2,beq_self_eq_true]
   ·dsimp only
    rw[if_pos rfl,if_pos hb,Int.toNat_natCast]
  ·rw[show(if m.getD k 0=fr∧a=st then to else m.getD k 0)=m.getD k 0 from if_neg (fun q=>h2 q.2),hs]
   refine zx (e:=(false,fr,st,to,m)) ?_ ?_
   ·dsimp only
    rw[if_pos hb,if_pos (by rw[Int.toNat_natCast,h1];exact beq_self_eq_true _),show(a==st)=false by simpa using h2]
   ·rfl
 ·rw[show(if m.getD k 0=fr∧a=st then to else m.getD k 0)=m.getD k 0 from if_neg (fun q=>h1 q.1),zgw m k h]
  refine zx (e:=(false,fr,st,to,m)) ?_ ?_
  ·dsimp only
   rw[if_pos hb,if_neg (by rw[Int.toNat_natCast];simpa using h1)]
  ·rfl
theorem ztw {l:List Int} (hl:l.length≤100000) (s fr to st:Int):Lz.f120F (s,fr,to,st,l)=some (zg2 s fr to st l):=by
 unfold Lz.f120F zg2
 dsimp only
 refine zx (e:=(fr,st,to,zsz (beG fr st to) beH s l)) ?_ rfl
 unfold Lz.f144F
 dsimp only
 refine zx (zlm (fun(s:Int) k m=>(s,k,fr,st,to,m)) (fun m=>(fr,st,to,m)) l.length ?_ ?_ rfl) rfl
 ·intro s k m hm hk
  dsimp only
  simp (disch:=omega) only[if_pos,za,decide_eq_true_eq,Option.bind_some,Int.toNat_natCast,zyh,zyg]
  unfold beH
  split<;>rfl
 ·intro s m hm
  dsimp only
  rw[if_neg (by rw[decide_eq_true_eq];omega)]
def swC (to:Int) (fr:List Int) (c:Int):Int:=if c∈fr then to else c
theorem zpx (g:Int→Int): ∀ (l:List Int),zsz (fun(_:Unit) c=>g c) (fun _ _=>()) () l=l.map g
 | []=>rfl
 |c::t=>by simp[zsz,zpx g t]
theorem ztx {l fr:List Int} (hl:l.length≤100000) (hf:fr.length≤100000) (to:Int):Lz.f121F (to,fr,l)=some (l.map (swC to fr)):=by
 unfold Lz.f121F
 dsimp only
 refine zx (zlm (g:=fun(_:Unit) c=>swC to fr c) (h:=fun _ _=>()) (s:=()) (fun _ k m=>(k,m)) id l.length ?_ ?_ rfl) (by rw[zpx];rfl)
 ·intro _ k m hm hk
  dsimp only
  rw[if_pos (by rw[decide_eq_true_eq];omega),if_pos (by omega),za (by omega) (by omega)]
  simp only[Int.toNat_natCast]
  refine zx (e:=m.set k (swC to fr (m.getD k 0))) ?_ rfl
  suffices key: ∀ (t d:List Int),d++t=fr→ ∀ m':List Int,m'=m.set k (swC to d (m.getD k 0))→iter _ ((d.length:Int),m')=some (m.set k (swC to fr (m.getD k 0))) from
   key fr [] rfl m (by simp only[swC,List.not_mem_nil,if_false];rw[zgw m k (by omega)])
  intro t
  induction t with
  |nil=>
   intro d hd m' hm'
   rw[List.append_nil] at hd
   subst hd
   refine zn ?_
   dsimp only
   rw[if_neg (by rw[decide_eq_true_eq];omega),hm']
  |cons a t ih=>
   intro d hd m' hm'
   have hdl:d.length<fr.length:=by rw[← hd];simp
   have ea:fr.getD d.length 0=a:=by rw[← hd];simp[List.getD_eq_getElem?_getD]
   have hd':(d++ [a])++t=fr:=by rw[← hd];simp
   have hl':m'.length=m.length:=by rw[hm'];simp
   by_cases h:m.getD k 0=a
   ·rw[zw (s':=(((d++ [a]).length:Int),m'.set k to))]
    ·refine ih (d++ [a]) hd' _ ?_
     rw[hm',zn2]
     unfold swC
     rw[if_pos (by rw[h];simp)]
    ·dsimp only
     rw[if_pos (by rw[decide_eq_true_eq];omega),if_pos (by omega),Int.toNat_natCast,ea,if_pos (by rw[h];exact beq_self_eq_true a),if_pos (by omega),za (by omega) (by omega)]
     simp
   ·rw[zw (s':=(((d++ [a]).length:Int),m'))]
    ·refine ih (d++ [a]) hd' _ ?_
     rw[hm']
     unfold swC
     have:m.getD k 0∈d↔m.getD k 0∈d++ [a]:=by rw[List.mem_append,List.mem_singleton];exact⟨.inl,fun q=>q.resolve_right h⟩
     simp only[this]
    ·dsimp only
     rw[if_pos (by rw[decide_eq_true_eq];omega),if_pos (by omega),Int.toNat_natCast,ea,if_neg (by simpa using h),za (by omega) (by omega)]
     simp
 ·intro _ m hm
  dsimp only
  rw[if_neg (by rw[decide_eq_true_eq];omega)]
  rfl
end Go.Sx
