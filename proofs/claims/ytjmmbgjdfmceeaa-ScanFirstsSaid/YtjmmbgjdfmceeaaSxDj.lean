/- Scan, plain: what 'All' and 'First' find. -/
import Derived.Test.YtjmmbgjdfmceeaaSxDi
set_option linter.unusedVariables false
set_option linter.unusedSimpArgs false
namespace Go.Sx
noncomputable def lgS (p : List Inst) (l : List Int) (k : Int) : Int := lastOr (-1) (runS p l k).1
theorem lgS_in (p : List Inst) (l : List Int) (k : Nat) : lgS p l k = -1 ∨ ((k : Int) ≤ lgS p l k ∧ lgS p l k ≤ l.length) := by
  unfold lgS
  by_cases h : (runS p l k).1 = []
  · rw [h]; exact .inl rfl
  · right
    have hm : lastOr (-1) (runS p l k).1 ∈ (runS p l k).1 := by
      unfold lastOr
      rw [List.getLastD_eq_getLast?, List.getLast?_eq_some_getLast h]
      exact List.getLast_mem h
    generalize hv : lastOr (-1) (runS p l k).1 = v at hm
    unfold runS at hm
    split at hm
    · rename_i ho
      have hk : k ≤ l.length := by
        unfold runOk at ho
        simp at ho
        omega
      rw [Int.toNat_natCast] at hm
      have := walkS_ge p (l.drop k) k [0] v hm
      rw [List.length_drop] at this
      omega
    · exact absurd hm (by simp)
theorem maxI_eq (a b : Int) : maxI a b = max a b := by
  unfold maxI
  split <;> omega
end Go.Sx
