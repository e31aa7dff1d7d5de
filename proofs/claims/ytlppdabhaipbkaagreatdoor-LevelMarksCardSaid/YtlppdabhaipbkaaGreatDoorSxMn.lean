/- Level, plain: the law LevelBounds. -/
import Derived.Test.YtlppdabhaipbkaaGreatDoorSxMs
import Derived.Test.YtlppdabhaipbkaaGreatDoorSxME
import Derived.Test.YtlppdabhaipbkaaGreatDoorSxR
set_option linter.unusedVariables false
set_option linter.unusedSimpArgs false
namespace Go.Sx
def zvm:List Rch→Int→Int
 | [],_=>0
 |r::t,c=>if r.1≤c∧c≤r.2.1 then r.2.2 else zvm t c
theorem zmt (c:Int): ∀ l:List Rch,znm l c=zvm l c
 | []=>rfl
 |r::t=>by
  have ih:=zmt c t
  unfold znm at ih ⊢
  rw[List.find?_cons]
  by_cases h:r.1≤c∧c≤r.2.1
  ·rw[decide_eq_true h.1,decide_eq_true h.2,zvm,if_pos h];rfl
  ·rw[zvm,if_neg h]
   have:(decide (r.1≤c)&&decide (c≤r.2.1))=false:=by
    rw[Bool.and_eq_false_iff,decide_eq_false_iff_not,decide_eq_false_iff_not]
    omega
   rw[this]
   exact ih
theorem zzd {a k c:Int} {t:List Rch} {y:Option Int} (hy:y=some (zvm t c)):(if(c==a)=true then some k else y)=some (zvm ((a,a,k)::t) c):=by
 rw[zvm]
 by_cases h:c=a
 ·rw[if_pos (by rw[h];exact beq_self_eq_true a),if_pos (show a≤c∧c≤a by omega)]
 ·rw[if_neg (by simpa using h),if_neg (show ¬ (a≤c∧c≤a) by omega),hy]
theorem zzc {a b k c:Int} {t:List Rch} {y:Option Int} (hy:y=some (zvm t c)):(Option.bind (if decide (c≥a)=true then some (decide (c≤b)) else some false) fun v=>if v=true then some k else y)=some (zvm ((a,b,k)::t) c):=by
 rw[zvm]
 by_cases h:c≥a
 ·rw[if_pos (decide_eq_true h),Option.bind_some]
  by_cases h2:c≤b
  ·rw[if_pos (decide_eq_true h2),if_pos (show a≤c∧c≤b from⟨h,h2⟩)]
  ·rw[if_neg (by rw[decide_eq_true_eq];exact h2),if_neg (fun q=>h2 q.2),hy]
 ·rw[if_neg (by rw[decide_eq_true_eq];exact h),Option.bind_some,if_neg (by decide),if_neg (fun q=>h q.1),hy]
theorem zzg (c:Int):Lz.f17F c=some (zE c):=by
 unfold zE
 rw[zmt]
 unfold Lz.f17F
 repeat first|refine zzd ?_|refine zzc ?_
 rfl
theorem zzh (k:Int):Lz.f18F k=some (zfv k):=by
 unfold Lz.f18F zfv
 by_cases h1:k=9; · subst h1;rfl
 by_cases h2:k=14; · subst h2;rfl
 by_cases h3:k=15; · subst h3;rfl
 by_cases h4:k=16; · subst h4;rfl
 by_cases h5:k=17; · subst h5;rfl
 simp[h1,h2,h3,h4,h5]
end Go.Sx
