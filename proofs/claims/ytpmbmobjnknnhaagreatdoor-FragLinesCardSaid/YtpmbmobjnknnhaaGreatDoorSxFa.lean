/- Frag, plain: runs of places of a span. -/
import Derived.Test.YtpmbmobjnknnhaaGreatDoorSxS
set_option linter.unusedVariables false
set_option linter.unusedSimpArgs false
namespace Go.Sx
def inSp (a b p:Int):Bool:=decide (p≥a)&&decide (p<b)
def cnt (q:Int→Bool):List Int→Int
 | []=>0
 |p::l=>(if q p=true then 1 else 0)+cnt q l
def cntR (a b:Int) (rows:List (Int×Int×List Int)):Int:=(rows.map fun r=>cnt (inSp a b) r.2.2).sum
def heavy (rows:List (Int×Int×List Int)):Nat:=(rows.map fun r=>r.2.2.length).sum
end Go.Sx
