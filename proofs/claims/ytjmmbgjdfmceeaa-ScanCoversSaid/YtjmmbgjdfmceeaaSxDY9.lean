/- Sim, plain: runs; the laws SimRuns and SimLongests. -/
import Derived.Test.YtjmmbgjdfmceeaaSxDY8
set_option linter.unusedVariables false
set_option linter.unusedSimpArgs false
namespace Go.Sx
def runOk (p : List Inst) (l : List Int) (k : Int) : Bool := rightS p && (decide (0 ≤ k) && decide (k ≤ l.length))
noncomputable def runS (p : List Inst) (l : List Int) (k : Int) : List Int × Nat := if runOk p l k = true then walkS p (l.drop k.toNat) k.toNat [0] else ([], 0)
def lastOr (e : Int) (l : List Int) : Int := l.getLastD e
theorem lastOr_app (e : Int) (a b : List Int) : lastOr e (a ++ b) = lastOr (lastOr e a) b := by
  unfold lastOr
  induction a generalizing e with
  | nil => rfl
  | cons x a ih => rw [List.cons_append, List.getLastD_cons, List.getLastD_cons, ih]
theorem natb (i n : Nat) : ((i : Int) == (n : Int)) = decide (i = n) := by
  rw [Bool.eq_iff_iff, beq_iff_eq, decide_eq_true_eq]; omega
theorem natb0 (i : Nat) : ((i : Int) == (0 : Int)) = decide (i = 0) := natb i 0
theorem s17_eq {p : List Inst} {st sp : Bool} {A : List Int} (hp : rightS p = true) (hA : A.length ≤ 100000) : D.f17F (p, A, st, sp) = some (reachS p A st sp) := by
  obtain ⟨m, h1, h2⟩ := s17_ok (st := st) (sp := sp) hp hA
  rw [h1, h2.reachS]
end Go.Sx
