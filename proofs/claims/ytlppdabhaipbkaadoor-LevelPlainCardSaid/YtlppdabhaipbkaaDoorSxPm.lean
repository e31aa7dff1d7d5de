/- Level, plain: the laws LevelMosts, LevelPlain. -/
import Derived.Test.YtlppdabhaipbkaaDoorSxPs
import Derived.Test.YtlppdabhaipbkaaDoorSxPz
import Derived.Test.YtlppdabhaipbkaaDoorSxPE
import Derived.Test.YtlppdabhaipbkaaDoorSxR
set_option linter.unusedVariables false
set_option linter.unusedSimpArgs false
namespace Go.Sx
theorem zs6: ∀ {l:List Int},(qa l).length≤1↔ ∀ i,i<l.length→l.getD i 0=l.getD 0 0:=by
 intro l
 constructor
 ·intro h i hi
  have h0:0<l.length:=by omega
  have a1:l.getD i 0∈qa l:=zds.2 (by rw[zu 0 hi];exact List.getElem_mem hi)
  have a2:l.getD 0 0∈qa l:=zds.2 (by rw[zu 0 h0];exact List.getElem_mem h0)
  match hc:qa l,h with
  | [],_=>rw[hc] at a1;cases a1
  | [z],_=>
   rw[hc,List.mem_singleton] at a1 a2
   rw[a1,a2]
 ·induction l with
  |nil=>intro _;decide
  |cons x t ih=>
   intro h
   cases t with
   |nil=>simp[qa]
   |cons y t=>
    have hxy:y=x:=h 1 (by simp)
    rw[qa,if_pos hxy.symm]
    refine ih fun i hi=> ?_
    have:=h (i+1) (by simpa using hi)
    exact Eq.trans this hxy.symm
def z0v (l:List Int):Bool:=decide ((qa l).length≤1)
theorem zwq {chars:List Int} (hl:chars.length≤1000) (dir:Int):Ld.f7F (chars,dir)=some (z0v (zu4 chars dir)):=by
 unfold Ld.f7F z0v
 have hf:=zk9 chars dir
 dsimp only
 rw[zzk hl dir,Option.bind_some]
 dsimp only
 rw[zts _ (by omega),Option.bind_some,z0f _ (by omega),Option.bind_some]
 congr 1
 rw[Bool.eq_iff_iff,decide_eq_true_eq,decide_eq_true_eq]
 omega
end Go.Sx
