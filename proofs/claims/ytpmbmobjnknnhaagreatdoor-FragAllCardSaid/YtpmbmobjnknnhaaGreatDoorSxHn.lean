/- Frag, plain: the law FragAll. -/
import Derived.Test.YtpmbmobjnknnhaaGreatDoorSxHm
set_option linter.unusedVariables false
set_option linter.unusedSimpArgs false
namespace Go.Sx
structure RowsOk (chars:List Int) (rows:List RowT):Prop where
 small:rows.length+heavy rows≤500
 mem: ∀ r∈rows, ∀ p∈r.2.2, ∃ k:Nat,p=(k:Int)∧k<chars.length∧r.1≤p∧p<r.2.1∧ctlC (chars.getD k 0)=false
 has: ∀ k,k<chars.length→ctlC (chars.getD k 0)=false→ ∃ r∈rows,(k:Int)∈r.2.2
 cnt: ∀ a b,cntR a b rows=cntC (inSp a b) chars 0 chars.length
theorem zyb {chars:List Int} (hl:chars.length≤120) (dir:Int) {l:List Int} (h:xk 0 (chars.length:Int) l):RowsOk chars (zz5 chars dir l):=by
 have hv:chars.length≤(zwn chars dir).length:=Nat.le_of_eq (zru chars dir).symm
 refine⟨?_,fun r hr p hp=>zx9 hv h hr hp,fun k hk hc=>zya hv h hk hc,fun a b=>zry (inSp a b) _ hv l 0 h⟩
 have:=zkw (chars:=chars) (qM (chars.map xm) dir) hv l 0 h
 show(zgd chars (zwn chars dir) (qM (chars.map xm) dir) 0 l).length+heavy (zgd chars (zwn chars dir) (qM (chars.map xm) dir) 0 l)≤500
 have e:((0:Nat):Int)=0:=rfl
 rw[e] at this
 omega
theorem RowsOk.count {chars:List Int} {rows:List RowT} (h:RowsOk chars rows) (a b:Int):R.f14F (rows,a,b)=some (xp a b rows 0)∧R.f19F (xp a b rows 0)=some (cntC (inSp a b) chars 0 chars.length):=by
 have hs:=h.small
 refine⟨z0r hs a b, ?_⟩
 have h1:=zb7 a b rows 0
 have h2:=zh5 a b rows 0
 rw[(z0s (F:=xp a b rows 0) (by omega) (fun f hf=>by have:=h2 f hf;omega)).1,zh3,h.cnt]
theorem zos (chars:List Int) (dir width:Int) (hw:0≤width∧width≤255):R.f6F (chars,dir,width)=some true:=by
 unfold R.f6F
 rw[zxj]
 simp only[Option.bind_some,Bool.not_true,Bool.false_eq_true,if_false]
 by_cases hl:chars.length≤120
 case neg=>rw[if_pos (by rw[decide_eq_true_eq];omega)]
 rw[if_neg (by rw[decide_eq_true_eq];omega),za (x:=width) (by omega) (by omega),za (x:=1+width) (by omega) (by omega),za (x:=(chars.length:Int)+5) (by omega) (by omega)]
 obtain⟨l,hl1,hl2⟩:=z2b (n:=chars.length) (by omega) (w:=1+width) (by omega)
 rw[hl1,Option.bind_some,z2a (by omega) dir hl2,Option.bind_some]
 dsimp only
 rw[if_neg (by decide)]
 have hR:=zyb hl dir hl2
 generalize zz5 chars dir l=rows at hR ⊢
 refine zo (e:= .inl ()) (zzd chars.length _ _ ?_ ?_) ?_
 ·intro k hk
  rw[if_pos (by rw[decide_eq_true_eq];omega),z0u hR.small,Option.bind_some]
  refine zo (e:=false) ?_ (by rw[if_neg (by decide),za (by omega) (by omega)];rfl)
  rw[if_pos (by omega),Int.toNat_natCast,z2f,Option.bind_some]
  rcases zoq (k:Int) rows 0 with ⟨h1,h2⟩|⟨j,i,h1,h2,h3,h4⟩
  ·have hc:ctlC (chars.getD k 0)=true:=by
    cases hc:ctlC (chars.getD k 0) with
    |true=>rfl
    |false=>
     obtain⟨r,hr,hp⟩:=hR.has k hk hc
     exact absurd hp (h2 r hr)
   rw[h1,hc]
   rfl
  ·have hr:rows.getD j (0,0, [])∈rows:=by rw[zC _ h2];exact List.getElem_mem h2
   have hp:(k:Int)∈(rows.getD j (0,0, [])).2.2:=by rw[← h4,zC _ h3];exact List.getElem_mem h3
   obtain⟨k',e,_,q1,q2,q3⟩:=hR.mem _ hr _ hp
   have e:k=k':=by omega
   subst e
   rw[h1,q3]
   dsimp only
   rw[Nat.zero_add,Int.toNat_natCast,Int.toNat_natCast,if_neg (by rw[decide_eq_false (by omega: ¬ ((j:Int)<0))];decide),if_pos (by rw[decide_eq_true_eq];omega),if_neg (by rw[decide_eq_true_eq];omega),if_neg (by rw[decide_eq_true_eq];omega),
    if_pos (by omega),if_neg (by rw[decide_eq_true_eq];omega),if_pos (by omega),if_pos (by omega),h4,if_neg (by simp),if_pos (by omega),if_neg (by rw[decide_eq_true_eq];omega),if_pos (by omega),decide_eq_false (by omega)]
 ·rw[if_neg (by rw[decide_eq_true_eq];omega)]
 ·dsimp only[Sum.elim_inl]
  have h1:=hR.count 0 (chars.length:Int)
  have h2:=hR.count (-5) ((chars.length:Int)+5)
  rw[h1.1,Option.bind_some,h1.2,Option.bind_some,h2.1,Option.bind_some,h2.2,Option.bind_some]
  have:cntC (inSp 0 (chars.length:Int)) chars 0 chars.length=cntC (inSp (-5) ((chars.length:Int)+5)) chars 0 chars.length:=zku _ fun k hk=>by
   unfold inSp
   rw[decide_eq_true (by omega),decide_eq_true (by omega),decide_eq_true (by omega),decide_eq_true (by omega)]
  rw[this,beq_self_eq_true]
theorem zot (x:List Int×Int×Int) (hw:zux [.sl (.int .i64), .int .i64, .int .u8] x):R.f6F x=some true:=by
 obtain⟨chars,dir,width⟩:=x
 exact zos chars dir width (⟨hw.2.2.1,hw.2.2.2⟩)
end Go.Sx
