/- Frag: what the functions tell is what the plain ones are. -/
import Derived.Test.YtpmbmobjnknnhaaGreatDoorSxFa
import Derived.Test.YtpmbmobjnknnhaaGreatDoorSxEA
set_option linter.unusedVariables false
set_option linter.unusedSimpArgs false
namespace Go.Sx
abbrev RowT:=Int×Int×List Int
theorem z1k {α:Type} (l:List α) (d:α) {i:Nat} (h:i<l.length):l.getD i d=l[i]:=by simp[List.getD_eq_getElem?_getD,h]
theorem zy2 {A:Type} {x:Option A} {v:A} (h: ∃ r,x=some r∧r=v):x=some v:=by
 obtain⟨r,h,rfl⟩:=h
 exact h
theorem zob: ∀ {rows:List RowT} {r:RowT},r∈rows→r.2.2.length≤heavy rows
 |x::rows,r,h=>by
  have e:heavy (x::rows)=x.2.2.length+heavy rows:=by simp[heavy]
  rcases List.mem_cons.1 h with rfl|h
  ·omega
  ·have:=zob h
   omega
end Go.Sx
