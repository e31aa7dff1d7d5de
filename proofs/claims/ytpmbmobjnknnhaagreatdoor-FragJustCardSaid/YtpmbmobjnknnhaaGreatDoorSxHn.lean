/- Frag, plain: the law FragAll. -/
import Derived.Test.YtpmbmobjnknnhaaGreatDoorSxHm
set_option linter.unusedVariables false
set_option linter.unusedSimpArgs false
namespace Go.Sx
structure RowsOk (chars:List Int) (rows:List RowT):Prop where
 small:rows.length+heavy rows≤500
 mem: ∀ r∈rows, ∀ p∈r.2.2, ∃ k:Nat,p=(k:Int)∧k<chars.length∧r.1≤p∧p<r.2.1∧ctlC (chars.getD k 0)=false
 has: ∀ k,k<chars.length→ctlC (chars.getD k 0)=false→ ∃ r∈rows,(k:Int)∈r.2.2
 cnt: ∀ a b,cntR a b rows=cntC (inSp a b) chars 0 chars.length
theorem zxz {chars:List Int} (hl:chars.length≤120) (dir:Int) {l:List Int} (h:xl 0 (chars.length:Int) l):RowsOk chars (zz4 chars dir l):=by
 have hv:chars.length≤(zwl chars dir).length:=Nat.le_of_eq (zq0 chars dir).symm
 refine⟨?_,fun r hr p hp=>zx1 hv h hr hp,fun k hk hc=>zx0 hv h hk hc,fun a b=>zru (inSp a b) _ hv l 0 h⟩
 have:=zko (chars:=chars) (qL (chars.map xo) dir) hv l 0 h
 show(zgd chars (zwl chars dir) (qL (chars.map xo) dir) 0 l).length+heavy (zgd chars (zwl chars dir) (qL (chars.map xo) dir) 0 l)≤500
 have e:((0:Nat):Int)=0:=rfl
 rw[e] at this
 omega
theorem RowsOk.count {chars:List Int} {rows:List RowT} (h:RowsOk chars rows) (a b:Int):R.f14F (rows,a,b)=some (qn a b rows 0)∧R.f19F (qn a b rows 0)=some (cntC (inSp a b) chars 0 chars.length):=by
 have hs:=h.small
 refine⟨z16 hs a b, ?_⟩
 have h1:=jG a b rows 0
 have h2:=zht a b rows 0
 rw[(z17 (F:=qn a b rows 0) (by omega) (fun f hf=>by have:=h2 f hf;omega)).1,zha,h.cnt]
end Go.Sx
