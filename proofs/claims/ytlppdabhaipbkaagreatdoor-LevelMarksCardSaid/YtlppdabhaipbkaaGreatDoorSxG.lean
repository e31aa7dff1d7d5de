/- The symbolic evaluator, part G: indexes, slices, lengths, and all that turns nothing. -/
import Derived.Test.YtlppdabhaipbkaaGreatDoorSxF
set_option linter.unusedVariables false
set_option linter.unusedSimpArgs false
namespace Go.Sx
open Go.RowKit
section
variable {R:Type} {r:R} {P:Program} {C:Ctx} {B:Base} {E:Env} {fr:List SV} {hp:List HO} {a:Act} {w:World} {o:Oper} {k:SV→Option R}
theorem TIok.sizeOf {T:TypeId} {i:TI} (h:TIok P T i) (w:World):(Go.sizeOf T).run P w= .ok i.size w:=by
 obtain⟨f,z,hf,hs,_⟩:=h.info
 rw[z4 hf,hs]
theorem TIok.slice {T S:TypeId} {i:TI} (h:TIok P T i) (hk:i.kind= .slice S):P.underlying T=some (.slice S):=by
 have:=h.kind;rwa [hk] at this
theorem TIok.array {T S:TypeId} {n:Nat} {i:TI} (h:TIok P T i) (hk:i.kind= .array n S):P.underlying T=some (.array n S):=by
 have:=h.kind;rwa [hk] at this
theorem TIok.str {T:TypeId} {i:TI} (h:TIok P T i) (hk:i.kind= .str):P.underlying T=some .string:=by
 have:=h.kind;rwa [hk] at this
theorem zaa {M:Mem} {e:Ty} {xs:List e.den} {v:Value} (h: ∃ cs,Rep M (.sl e) xs cs∧v=zG (.sl e) cs):
  ∃ ad cap,v= .slice ad xs.length cap∧xs.length≤cap∧(xs= []∨ ∃ b off d,ad=some ⟨b,off,none⟩∧M.seg b off d∧xp (Rep M e) xs d):=by
 obtain⟨cs,⟨ad,cap,h1,h2,h3⟩,h4⟩:=h
 subst h1
 exact⟨ad,cap,h4,h2,h3⟩
theorem zcb {ad:Addr} {S:TypeId} {T:TypeId} {si:TI} (hu:P.underlying T=some (.slice S)) (hS:TIok P S si) (i:IntKind) (n:Int) (len cap:Nat) (h0:0≤n) (hn:n<len) (w:World):
  (Instr.indexAt T (.slice (some ad) len cap) (.int i n)).run P w= .ok (.pointer (some (ad.add (n.toNat*si.size)))) w:=by
 simp[Instr.indexAt,asIntOf,run_underlying hu,h0,hn,hS.sizeOf]
theorem zeo {ad:Addr} {S:TypeId} {T:TypeId} {si:TI} {m:Nat} (hu:P.underlying T=some (.array m S)) (hS:TIok P S si) (i:IntKind) (n:Int) (h0:0≤n) (hn:n<m) (w:World):
  (Instr.indexAt T (.pointer (some ad)) (.int i n)).run P w= .ok (.pointer (some (ad.add (n.toNat*si.size)))) w:=by
 simp[Instr.indexAt,asIntOf,run_underlying hu,h0,hn,hS.sizeOf,Instr.sureAddr]
theorem zcl {α:Type} {xs:List α} {n:Nat} {x:α} (h:n<xs.length):xs.getD n x=xs[n]:=by
 simp[List.getD,List.getElem?_eq_getElem h]
theorem zf4 (hC:C.ok P) (hh:Hp B E hp w) {T:TypeId} {i:TI} (hi:(T,i)∈C.TT) {x ix:SV} {vx vi:Value} (hx:x.sat E vx) (hix:ix.sat E vi) (h:qx C hp i x ix k=some r):
  ∃ v s,s.sat E v∧k s=some r∧ ∀ w',(Instr.indexAt T vx vi).run P w'= .ok v w':=by
 unfold qx at h
 replace h:=ql hix h;obtain⟨j,n,ei,h⟩:=h
 subst ei
 split at h
 case h_1 S hk=>
  replace h:=zd h;obtain⟨si,hS,h⟩:=h
  have hu:=(hC.types _ _ hi).slice hk
  have hST:=hC.types _ _ hS
  split at h
  case h_1 e xs=>
   cases hsz:Nat.beq si.size e.size with
   |false=>rw[hsz] at h;cases h
   |true=>
    rw[hsz] at h
    have hsz':=Nat.eq_of_beq_eq_true hsz
    replace h:=zy h;obtain⟨⟨h0,hn⟩,h⟩:=h
    simp only[SV.sat] at hx
    obtain⟨ad,cap,e1,e2,e3⟩:=zaa hx
    have hlt:n.toNat<xs.length:=by omega
    rcases e3 with e3|⟨b,off,d,e3,e4,e5⟩
    ·rw[e3] at hn;simp at hn;omega
    ·obtain⟨p,c,q,s1,s2,s3,_⟩:=q9 (zc e) n.toNat hlt e5
     subst e3;subst e1
     rw[s1] at e4
     have e6:=zl8 e4
     refine⟨_,_,by simp only[SV.sat];exact⟨b,off+p.length,c,rfl,e6,by rw[zcl hlt];exact s3⟩,h,fun w'=> ?_⟩
     rw[zcb hu hST j n _ _ h0 hn,Addr.add_lit,s2,hsz']
  case h_2 id len=>
   replace h:=ze h;obtain⟨ob,h1,h⟩:=h
   simp only[SV.sat] at hx
   obtain⟨le,e1,e2,e3⟩:=hx
   split at h
   case h_1 T' e xs=>
    have hob:=hh.ob _ _ _ h1 e1
    obtain⟨g1,g2,g3,g4,g5⟩:=hob
    cases hsz:Nat.beq si.size e.size with
    |false=>rw[hsz] at h;cases h
    |true=>
     rw[hsz] at h
     have hsz':=Nat.eq_of_beq_eq_true hsz
     replace h:=zy h;obtain⟨⟨h0,hn⟩,h⟩:=h
     have hlen:zdk xs len=len.getD le.len:=by cases len<;>simp[zdk,g1]
     rw[hlen] at hn
     cases hb:le.blk with
     |none=>have:=g4 hb;omega
     |some b=>
      refine⟨_,_,by simp only[SV.sat];exact⟨le,b,e1,hb,by omega,rfl⟩,h,fun w'=> ?_⟩
      rw[e3]
      simp only[LE.addr,hb,Option.map_some]
      rw[zcb hu hST j n _ _ h0 hn,Addr.add_lit,hsz']
      simp[Ty.pathOff]
   case h_2=>cases h
  case h_3 id e off len=>
   cases hsz:Nat.beq si.size e.size with
   |false=>rw[hsz] at h;cases h
   |true=>
    rw[hsz] at h
    have hsz':=Nat.eq_of_beq_eq_true hsz
    replace h:=zy h;obtain⟨⟨h0,hn⟩,h⟩:=h
    simp only[SV.sat] at hx
    obtain⟨le,ad,cap,e1,e2,e3,e4⟩:=hx
    rcases e4 with e4|⟨b,hb,e4⟩
    ·omega
    ·subst e4
     refine⟨_,_,by simp only[SV.sat];exact⟨le,b,e1,hb,by omega,rfl⟩,h,fun w'=> ?_⟩
     rw[e3,zcb hu hST j n _ _ h0 hn,Addr.add_lit,hsz']
     simp[Ty.pathOff,Nat.add_mul]
  case h_4=>cases h
 case h_2 m S hk=>
  replace h:=zd h;obtain⟨si,hS,h⟩:=h
  have hu:=(hC.types _ _ hi).array hk
  have hST:=hC.types _ _ hS
  split at h
  case h_1 m' e xs=>
   cases hsz:(Nat.beq si.size e.size&&Nat.beq m m') with
   |false=>rw[hsz] at h;cases h
   |true=>
    rw[hsz] at h
    simp only[Bool.and_eq_true] at hsz
    have hsz':=Nat.eq_of_beq_eq_true hsz.1
    have hm:=Nat.eq_of_beq_eq_true hsz.2
    subst hm
    replace h:=zy h;obtain⟨⟨h0,hn⟩,h⟩:=h
    simp only[SV.sat] at hx
    obtain⟨b,off,d,e1,e2,e3,e4⟩:=hx
    have hlt:n.toNat<xs.length:=by omega
    obtain⟨p,c,q,s1,s2,s3,_⟩:=q9 (zc e) n.toNat hlt e4
    subst e1
    rw[s1] at e2
    have e6:=zl8 e2
    refine⟨_,_,by simp only[SV.sat];exact⟨b,off+p.length,c,rfl,e6,by rw[zcl hlt];exact s3⟩,h,fun w'=> ?_⟩
    rw[zeo hu hST j n h0 hn,Addr.add_lit,s2,hsz']
  case h_2 id off=>
   replace h:=zy h;obtain⟨⟨h0,hn⟩,h⟩:=h
   simp only[SV.sat] at hx
   obtain⟨le,b,e1,e2,e3⟩:=hx
   subst e3
   refine⟨_,_,by simp only[SV.sat];exact⟨le,b,e1,e2,rfl⟩,h,fun w'=> ?_⟩
   rw[zeo hu hST j n h0 hn,Addr.add_lit]
  case h_3=>cases h
 case h_3=>cases h
theorem zhv {T:TypeId} {x n:Operand} (hC:C.ok P) (hh:Hp B E hp w) (hf:SV.satL E fr a.tmps.toList) (hg:C.globsOk E.M) (ho:o.op= .indexAddr T x n)
  (h:(zq C.TT T fun i=>opd C fr x fun x=>opd C fr n fun n=>qx C hp i x n k)=some r):xS P E a o w k r:=by
 replace h:=zd h;obtain⟨i,hi,h⟩:=h
 replace h:=zh hf hg h;obtain⟨sx,x1,h⟩:=h
 replace h:=zh hf hg h;obtain⟨sn,n1,h⟩:=h
 obtain⟨v,s,h1,h2,h3⟩:=zf4 hC hh hi x1 n1 h
 exact⟨v,s,h1,h2,fun w' _=>by simp[execOp,ho,h3]⟩
theorem zo3 {T:TypeId} {x n:Operand} (hC:C.ok P) (hf:SV.satL E fr a.tmps.toList) (hg:C.globsOk E.M) (ho:o.op= .index T x n)
  (h:(zq C.TT T fun i=>opd C fr x fun x=>opd C fr n fun n=>zde C i x n k)=some r):xS P E a o w k r:=by
 replace h:=zd h;obtain⟨i,hi,h⟩:=h
 replace h:=zh hf hg h;obtain⟨sx,x1,h⟩:=h
 replace h:=zh hf hg h;obtain⟨sn,n1,h⟩:=h
 unfold zde at h
 replace h:=ql n1 h;obtain⟨j,m,ei,h⟩:=h
 split at h
 case h_1 len S hk=>
  replace h:=zd h;obtain⟨si,hS,h⟩:=h
  have hu:=(hC.types _ _ hi).array hk
  have hST:=hC.types _ _ hS
  split at h
  case h_1 m' e xs=>
   cases hsz:(fits si e&&Nat.beq len m') with
   |false=>rw[hsz] at h;cases h
   |true=>
    rw[hsz] at h
    simp only[Bool.and_eq_true] at hsz
    obtain⟨f1,f2,f3⟩:=zb2 hsz.1
    have hm:=Nat.eq_of_beq_eq_true hsz.2
    subst hm
    replace h:=zy h;obtain⟨⟨h0,hn⟩,h⟩:=h
    simp only[SV.sat] at x1
    obtain⟨cs,⟨e1,e2⟩,e3⟩:=x1
    have hlt:m.toNat<xs.length:=by omega
    obtain⟨p,c,q,s1,s2,s3,_⟩:=q9 (zc e) m.toNat hlt e2
    have hl:=zc _ _ _ s3
    refine⟨zG e c,_,by simp only[SV.sat];exact⟨c,by rw[zcl hlt];exact s3,rfl⟩,h,fun w' _=> ?_⟩
    have e3':a.eval x= .agg cs.toArray:=by rw[e3];rfl
    obtain⟨ds,hd,hda⟩:=hST.under
    have hpart:(part S cs.toArray (m.toNat*si.size)).run P w'= .ok (zG e c) w':=by
     simp only[part,Sem.run_bind,zcc hd,Result.andThen_ok,hda]
     have hdt:(cs.drop (m.toNat*si.size)).take si.size=c:=by rw[s1,f1, ← s2,List.drop_left, ← hl,List.take_left]
     cases ha:si.kind.isAgg with
     |true=>
      simp only[if_true,Sem.run_bind,hST.sizeOf,Result.andThen_ok,Sem.run_pure]
      rw[zG, ← f2,ha]
      congr 2
      apply Array.ext'
      rw[← hdt]
      simp[List.take_drop,Nat.add_comm]
     |false=>
      have h1:=f3 ha
      obtain⟨v,hv⟩: ∃ v,c= [v]:=by
       match c,(show c.length=1 by omega) with
       | [v],_=>exact⟨v,rfl⟩
      have h2:(cs.drop (m.toNat*si.size))[0]? =(c++q)[0]? :=by rw[s1,f1, ← s2,List.drop_left]
      rw[List.getElem?_drop,Nat.add_zero,hv] at h2
      have h2':cs[m.toNat*si.size]? =some v:=by simpa using h2
      rw[zG, ← f2,ha,hv]
      simp[h2']
    simp[execOp,ho,e3',ei,Instr.index,asIntOf,run_underlying hu,h0,hn,hST.sizeOf,hpart]
  case h_2=>cases h
 case h_2 hk=>
  have hu:=(hC.types _ _ hi).str hk
  split at h
  case h_1 s=>
   replace h:=zy h;obtain⟨⟨h0,hn⟩,h⟩:=h
   simp only[SV.sat] at x1
   have e1:=zl3 x1
   have hlt:m.toNat<s.size:=by omega
   refine⟨_,_,qt _,h,fun w' _=> ?_⟩
   have hget:s[m.toNat]? =some (s.data.toList.getD m.toNat 0):=by
    rw[getElem?_pos s m.toNat hlt]
    congr 1
    rw[zcl (by simpa using hlt)]
    simp[ByteArray.getElem_eq_getElem_data]
   simp[execOp,ho,e1,ei,Instr.index,asIntOf,run_underlying hu,h0,hget]
  case h_2=>cases h
 case h_3=>cases h
theorem zl4 {M:Mem} {e:Ty} {xs:List e.den} {l h m:Nat} (hlh:l≤h) (hh:h≤xs.length) (hm:h≤m) {ad:Option Addr} {cap:Nat} (_hc:xs.length≤cap) (_hmc:m≤cap)
  (h3:xs= []∨ ∃ b off d,ad=some ⟨b,off,none⟩∧M.seg b off d∧xp (Rep M e) xs d):
  ∃ cs,Rep M (.sl e) ((xs.take h).drop l) cs∧(Value.slice (if m=l then ad else ad.map (·.add (l*e.size))) (h - l) (m - l))=zG (.sl e) cs:=by
 have hlen:((xs.take h).drop l).length=h - l:=by simp;omega
 refine⟨_,⟨_,_,rfl, ?_, ?_⟩,by rw[hlen];rfl⟩
 ·rw[hlen];omega
 ·by_cases he:(xs.take h).drop l= []
  ·exact .inl he
  ·right
   rcases h3 with h3|⟨b,off,d,e1,e2,e3⟩
   ·exact absurd (by simp[h3]) he
   ·obtain⟨c1,d1,f1,f2,f3,f4⟩:=qc (zc e) h e3
    obtain⟨c2,d2,g1,g2,g3,g4⟩:=qc (zc e) l f2
    have hml:m≠l:=by
     intro hml
     apply he
     rw[List.drop_eq_nil_iff]
     simp;omega
    rw[if_neg hml,e1]
    have hc2:c2.length=l*e.size:=by
     rw[g4]
     congr 1
     simp;omega
    refine⟨b,off+c2.length,d2,by simp[Addr.add_lit,hc2], ?_,g3⟩
    rw[f1,g1] at e2
    have:M.seg b off (c2++(d2++d1)):=by simpa using e2
    exact zl8 this
theorem xM {T S:TypeId} {si:TI} (hu:P.underlying T=some (.slice S)) (hS:TIok P S si) {ad:Option Addr} {len cap l h m:Nat} {lo hi mx:Option Value} (w:World)
  (hb:(Instr.sliceBounds true len cap lo hi mx).run P w= .ok (l,h,m) w):
  (Instr.sliceAt T (.slice ad len cap) lo hi mx).run P w= .ok (.slice (if m=l then ad else ad.map (·.add (l*si.size))) (h - l) (m - l)) w:=by
 simp[Instr.sliceAt,run_underlying hu,Instr.slice,hb,hS.sizeOf]
theorem zM {v:Value} {i:IntKind} {n:Int} (hv:v= .int i n) {y:Nat} (code:BoundsCode) (h0:0≤n) (hn:n≤y) (w:World):(Instr.sliceBound v y code).run P w= .ok n.toNat w:=by
 subst hv
 simp[Instr.sliceBound,asIntOf,h0,hn]
theorem zm9 (hC:C.ok P) (hh:Hp B E hp w) (hf:SV.satL E fr a.tmps.toList) (hg:C.globsOk E.M) {T:TypeId} {i:TI} (hi:(T,i)∈C.TT) {x:SV} {vx:Value} {lo hi' mx:Option Operand} (hx:x.sat E vx)
  (h:zb0 C fr hp i x lo hi' mx k=some r):
  ∃ v s,s.sat E v∧k s=some r∧ ∀ w',(Instr.sliceAt T vx (lo.map a.eval) (hi'.map a.eval) (mx.map a.eval)).run P w'= .ok v w':=by
 unfold zb0 at h
 split at h
 case h_2=>cases h
 case h_1 S hk=>
  replace h:=zd h;obtain⟨si,hS,h⟩:=h
  have hu:=(hC.types _ _ hi).slice hk
  have hST:=hC.types _ _ hS
  split at h
  case h_1 e xs=>
   cases hsz:Nat.beq si.size e.size with
   |false=>rw[hsz] at h;cases h
   |true=>
    rw[hsz] at h
    have hsz':=Nat.eq_of_beq_eq_true hsz
    simp only[SV.sat] at hx
    obtain⟨ad,cap,e1,e2,e3⟩:=zaa hx
    subst e1
    have fin: ∀ (l hh m:Nat),l≤hh→hh≤xs.length→hh≤m→m≤cap→k (.val (.sl e) ((xs.take hh).drop l))=some r→
      (∀ w',(Instr.sliceBounds true xs.length cap (lo.map a.eval) (hi'.map a.eval) (mx.map a.eval)).run P w'= .ok (l,hh,m) w')→
      ∃ v s,s.sat E v∧k s=some r∧ ∀ w',(Instr.sliceAt T (.slice ad xs.length cap) (lo.map a.eval) (hi'.map a.eval) (mx.map a.eval)).run P w'= .ok v w':=by
     intro l hh m h1 h2 h3 h4 h5 h6
     obtain⟨cs,r1,r2⟩:=zl4 (M:=E.M) (e:=e) h1 h2 h3 e2 h4 e3
     refine⟨_,_,by simp only[SV.sat];exact⟨cs,r1,rfl⟩,h5,fun w'=> ?_⟩
     rw[xM hu hST w' (h6 w'),hsz',r2]
    split at h
    case h_1 kz=>
     split at h
     case h_2=>cases h
     case h_1 kz'=>
      refine⟨.slice ad 0 0, .nil0,by simp only[SV.sat];exact⟨ad,rfl⟩,h,fun w'=> ?_⟩
      have:=xM (l:=0) (h:=0) (m:=0) hu hST (ad:=ad) (len:=xs.length) (cap:=cap) (lo:=none) (hi:=some (.int kz' 0)) (mx:=some (.int kz 0)) w' (by simp[Instr.sliceBounds,Instr.sliceBound,asIntOf])
      simpa [Act.eval] using this
    case h_2=>
     cases hi' with
     |none=>
      cases lo with
      |none=>exact fin 0 xs.length cap (Nat.zero_le _) (Nat.le_refl _) e2 (Nat.le_refl _) (by simpa using h) (fun w'=>by simp[Instr.sliceBounds])
      |some l=>
       simp only at h
       replace h:=zh hf hg h;obtain⟨sl,l1,h⟩:=h
       replace h:=ql l1 h;obtain⟨j,n,en,h⟩:=h
       replace h:=zy h;obtain⟨⟨h0,hn⟩,h⟩:=h
       exact fin n.toNat xs.length cap (by omega) (Nat.le_refl _) e2 (Nat.le_refl _) (by simpa using h) (fun w'=>by simp[Instr.sliceBounds,zM en _ h0 hn])
     |some hx'=>
      simp only at h
      replace h:=zh hf hg h;obtain⟨sh,h1,h⟩:=h
      replace h:=ql h1 h;obtain⟨j,n,en,h⟩:=h
      replace h:=zy h;obtain⟨⟨h0,hn⟩,h⟩:=h
      have hcap:n≤(cap:Int):=by omega
      cases lo with
      |none=>exact fin 0 n.toNat cap (Nat.zero_le _) (by omega) (by omega) (Nat.le_refl _) (by simpa using h) (fun w'=>by simp[Instr.sliceBounds,zM en _ h0 hcap])
      |some l=>
       simp only at h
       replace h:=zh hf hg h;obtain⟨sl,l1,h⟩:=h
       replace h:=ql l1 h;obtain⟨j',n',en',h⟩:=h
       replace h:=zy h;obtain⟨⟨h0',hn'⟩,h⟩:=h
       have hb:n'≤(n.toNat:Int):=by omega
       exact fin n'.toNat n.toNat cap (by omega) (by omega) (by omega) (Nat.le_refl _) h (fun w'=>by simp[Instr.sliceBounds,zM en _ h0 hcap,zM en' _ h0' hb])
    case h_3 mo _=>
     replace h:=zh hf hg h;obtain⟨sm,m1,h⟩:=h
     replace h:=ql m1 h;obtain⟨jm,m,em,h⟩:=h
     replace h:=zy h;obtain⟨⟨hm0,hmn⟩,h⟩:=h
     have hmc:m≤(cap:Int):=by omega
     cases hi' with
     |none=>cases h
     |some hx'=>
      simp only at h
      replace h:=zh hf hg h;obtain⟨sh,h1,h⟩:=h
      replace h:=ql h1 h;obtain⟨j,n,en,h⟩:=h
      replace h:=zy h;obtain⟨⟨h0,hn⟩,h⟩:=h
      have hb:n≤(m.toNat:Int):=by omega
      cases lo with
      |none=>
       simp only[zvn] at h
       replace h:=zy h;obtain⟨_,h⟩:=h
       exact fin 0 n.toNat m.toNat (Nat.zero_le _) (by omega) (by omega) (by omega) (by simpa using h) (fun w'=>by simp[Instr.sliceBounds,zM em _ hm0 hmc,zM en _ h0 hb])
      |some l=>
       simp only[zvn] at h
       replace h:=zh hf hg h;obtain⟨sl,l1,h⟩:=h
       replace h:=ql l1 h;obtain⟨j',n',en',h⟩:=h
       replace h:=zy h;obtain⟨⟨h0',hn'⟩,h⟩:=h
       have hb':n'≤(n.toNat:Int):=by omega
       exact fin n'.toNat n.toNat m.toNat (by omega) (by omega) (by omega) (by omega) h (fun w'=>by simp[Instr.sliceBounds,zM em _ hm0 hmc,zM en _ h0 hb,zM en' _ h0' hb'])
  case h_2 id len=>
   split at h
   case h_3=>cases h
   case h_2 lo'=>
    replace h:=ze h;obtain⟨ob,h1,h⟩:=h
    simp only[SV.sat] at hx
    obtain⟨le,e1,e2,e3⟩:=hx
    split at h
    case h_2=>cases h
    case h_1 T' t xs=>
     cases hsz:Nat.beq si.size t.size with
     |false=>rw[hsz] at h;cases h
     |true=>
      rw[hsz,cond_true] at h
      have hsz':=Nat.eq_of_beq_eq_true hsz
      have hob:=hh.ob _ _ _ h1 e1
      obtain⟨g1,g2,g3,g4,g5⟩:=hob
      have hlen:zdk xs len=len.getD le.len:=by cases len<;>simp[zdk,g1]
      have fin: ∀ (l hh:Nat),l≤hh→hh≤len.getD le.len→k (.vw id t l (hh - l))=some r→
        (∀ w',(Instr.sliceBounds true (len.getD le.len) le.cap (some (a.eval lo')) (hi'.map a.eval) none).run P w'= .ok (l,hh,le.cap) w')→
        ∃ v s,s.sat E v∧k s=some r∧ ∀ w',(Instr.sliceAt T vx ((some lo').map a.eval) (hi'.map a.eval) ((none:Option Operand).map a.eval)).run P w'= .ok v w':=by
       intro l hh q1 q2 q3 q4
       refine⟨_,_, ?_,q3,fun w'=>by rw[e3];exact xM hu hST w' (q4 w')⟩
       simp only[SV.sat]
       refine⟨le,_,_,e1,by omega,rfl, ?_⟩
       by_cases hl0:hh - l=0
       ·exact .inl hl0
       ·right
        cases hb:le.blk with
        |none=>have:=g4 hb;omega
        |some b=>exact⟨b,rfl,by rw[if_neg (by omega)];simp[LE.addr,hb,Addr.add_lit,hsz']⟩
      split at h
      case h_1=>
       replace h:=zh hf hg h;obtain⟨sl,l1,h⟩:=h
       replace h:=ql l1 h;obtain⟨j,n,en,h⟩:=h
       replace h:=zy h;obtain⟨⟨h0,hn⟩,h⟩:=h
       rw[hlen] at hn h
       exact fin n.toNat _ (by omega) (Nat.le_refl _) h (fun w'=>by simp[Instr.sliceBounds,zM en _ h0 hn])
      case h_2 ho=>
       replace h:=zh hf hg h;obtain⟨sh,s1,h⟩:=h
       replace h:=ql s1 h;obtain⟨j,n,en,h⟩:=h
       replace h:=zy h;obtain⟨⟨h0,hn⟩,h⟩:=h
       rw[hlen] at hn
       have hcap:n≤(le.cap:Int):=by omega
       replace h:=zh hf hg h;obtain⟨sl,l1,h⟩:=h
       replace h:=ql l1 h;obtain⟨j',n',en',h⟩:=h
       replace h:=zy h;obtain⟨⟨h0',hn'⟩,h⟩:=h
       have hb:n'≤(n.toNat:Int):=by omega
       exact fin n'.toNat n.toNat (by omega) (by omega) h (fun w'=>by simp[Instr.sliceBounds,zM en _ h0 hcap,zM en' _ h0' hb])
   case h_1=>
    replace h:=ze h;obtain⟨ob,h1,h⟩:=h
    simp only[SV.sat] at hx
    obtain⟨le,e1,e2,e3⟩:=hx
    split at h
    case h_2=>cases h
    case h_1 T' t xs=>
     have hob:=hh.ob _ _ _ h1 e1
     obtain⟨g1,g2,g3,g4,g5⟩:=hob
     have hlen:zdk xs len=len.getD le.len:=by cases len<;>simp[zdk,g1]
     split at h
     case h_1=>
      refine⟨_,_,by simp only[SV.sat];exact⟨le,e1,e2,rfl⟩,h,fun w'=> ?_⟩
      rw[e3,xM (l:=0) (h:=len.getD le.len) (m:=le.cap) hu hST w' (by simp[Instr.sliceBounds])]
      cases hle:le.addr<;>simp[Addr.add]
     case h_2 ho=>
      replace h:=zh hf hg h;obtain⟨sh,h1',h⟩:=h
      replace h:=ql h1' h;obtain⟨j,n,en,h⟩:=h
      replace h:=zy h;obtain⟨⟨h0,hn⟩,h⟩:=h
      rw[hlen] at hn
      have hcap:n≤(le.cap:Int):=by omega
      refine⟨_,_,by simp only[SV.sat];exact⟨le,e1,by simp only[Option.getD_some];omega,rfl⟩,h,fun w'=> ?_⟩
      rw[e3,xM (l:=0) (h:=n.toNat) (m:=le.cap) hu hST w' (by simp[Instr.sliceBounds,zM en _ h0 hcap])]
      cases hle:le.addr<;>simp[Addr.add]
  case h_3=>cases h
theorem zpn {T:TypeId} {x:Operand} {lo hi mx:Option Operand} (hC:C.ok P) (hh:Hp B E hp w) (hf:SV.satL E fr a.tmps.toList) (hg:C.globsOk E.M) (ho:o.op= .slice T x lo hi mx)
  (h:(zq C.TT T fun i=>opd C fr x fun x=>zb0 C fr hp i x lo hi mx k)=some r):xS P E a o w k r:=by
 replace h:=zd h;obtain⟨i,hi,h⟩:=h
 replace h:=zh hf hg h;obtain⟨sx,x1,h⟩:=h
 obtain⟨v,s,h1,h2,h3⟩:=zm9 hC hh hf hg hi x1 h
 exact⟨v,s,h1,h2,fun w' _=>by simp[execOp,ho,h3]⟩
theorem zrw (hC:C.ok P) (hh:Hp B E hp w) {T:TypeId} {i:TI} (hi:(T,i)∈C.TT) {x:SV} {vx:Value} (hx:x.sat E vx) (h:zm6 i hp x k=some r):
  ∃ v s,s.sat E v∧k s=some r∧ ∀ ty w',(Builtin.len_ #[T] ty #[vx]).run P w'= .ok v w':=by
 have hT:=hC.types _ _ hi
 unfold zm6 at h
 split at h
 case h_1 S e xs hk=>
  simp only[SV.sat] at hx
  obtain⟨ad,cap,e1,_⟩:=zaa hx
  exact⟨_,_,qt _,h,fun ty w'=>by simp[Builtin.len_,run_underlying (hT.slice hk),e1,goInt]⟩
 case h_2 S hk=>
  have e1:vx= .slice none 0 0:=by simpa [SV.sat] using hx
  exact⟨_,_,qt _,h,fun ty w'=>by simp[Builtin.len_,run_underlying (hT.slice hk),e1,goInt]⟩
 case h_3 S hk=>
  simp only[SV.sat] at hx
  obtain⟨ad,e1⟩:=hx
  exact⟨_,_,qt _,h,fun ty w'=>by simp[Builtin.len_,run_underlying (hT.slice hk),e1,goInt]⟩
 case h_4 S id len hk=>
  replace h:=ze h;obtain⟨ob,h1,h⟩:=h
  simp only[SV.sat] at hx
  obtain⟨le,e1,e2,e3⟩:=hx
  split at h
  case h_3=>cases h
  case h_2 T' t xs=>
   have g1:=(hh.tok _ _ _ h1 e1).1.1
   have hlen:zdk xs len=len.getD le.len:=by cases len<;>simp[zdk,g1]
   exact⟨_,_,qt _,h,fun ty w'=>by simp[Builtin.len_,run_underlying (hT.slice hk),e3,goInt,hlen]⟩
  case h_1 T' t xs=>
   have hob:=hh.ob _ _ _ h1 e1
   obtain⟨g1,_⟩:=hob
   have hlen:zdk xs len=len.getD le.len:=by cases len<;>simp[zdk,g1]
   exact⟨_,_,qt _,h,fun ty w'=>by simp[Builtin.len_,run_underlying (hT.slice hk),e3,goInt,hlen]⟩
 case h_5 S id t off len hk=>
  simp only[SV.sat] at hx
  obtain⟨le,ad,cap,_,_,e3,_⟩:=hx
  exact⟨_,_,qt _,h,fun ty w'=>by simp[Builtin.len_,run_underlying (hT.slice hk),e3,goInt]⟩
 case h_6 s hk=>
  simp only[SV.sat] at hx
  have e1:=zl3 hx
  exact⟨_,_,qt _,h,fun ty w'=>by simp[Builtin.len_,run_underlying (hT.str hk),e1,goInt]⟩
 case h_7 n S hk=>exact⟨_,_,qt _,h,fun ty w'=>by simp[Builtin.len_,run_underlying (hT.array hk),goInt]⟩
 case h_8=>cases h
theorem ze0 {f:Int→Int→Int} {g:Value→Value→Sem Value} (hgf: ∀ i j x y w,(g (.int i x) (.int j y)).run P w= .ok (.int i (f x y)) w): ∀ {l:List SV} {vs:List Value} {x:SV} {vx:Value},x.sat E vx→SV.satL E l vs→
  zam f x l k=some r→ ∃ v s,s.sat E v∧k s=some r∧ ∀ w',(vs.foldlM g vx).run P w'= .ok v w'
 | [],vs,x,vx,hx,hl,h=>by
  have:vs= []:=by simpa [SV.satL] using hl
  subst this
  have h':k x=some r:=by cases x<;>simpa [zam] using h
  exact⟨vx,x,hx,h',fun w'=>by simp⟩
 |y::l,vs,x,vx,hx,hl,h=>by
  simp only[SV.satL] at hl
  obtain⟨vy,vs',e1,e2,e3⟩:=hl
  subst e1
  cases x<;>try (simp[zam] at h;done)
  rename_i t u
  cases t<;>try (simp[zam] at h;done)
  rename_i i
  cases y<;>try (simp[zam] at h;done)
  rename_i t' u'
  cases t'<;>try (simp[zam] at h;done)
  rename_i j
  simp only[zam] at h
  simp only[SV.sat] at hx e2
  have ex:=xm hx
  have ey:=xm e2
  subst ex;subst ey
  obtain⟨v,s,h1,h2,h3⟩:=ze0 hgf (qt (f u u')) e3 h
  exact⟨v,s,h1,h2,fun w'=>by simp[List.foldlM_cons,hgf,h3]⟩
theorem zh8 (hf:SV.satL E fr a.tmps.toList) (hg:C.globsOk E.M): ∀ {ps:List (Nat×Operand)} {k:List (Nat×SV)→Option R},zb7 C fr ps k=some r→
  ∃ l,l.map (·.1)=ps.map (·.1)∧SV.satL E (l.map (·.2)) (ps.map fun p=>a.eval p.2)∧k l=some r
 | [],k,h=>⟨[],rfl,by simp[SV.satL],h⟩
 |(i,x)::ps,k,h=>by
  unfold zb7 at h
  replace h:=zh hf hg h;obtain⟨s,s1,h⟩:=h
  obtain⟨l,h1,h2,h3⟩:=zh8 hf hg h
  exact⟨(i,s)::l,by simp[h1],by simp only[List.map_cons,SV.satL];exact⟨_,_,rfl,s1,h2⟩,h3⟩
end
end Go.Sx
