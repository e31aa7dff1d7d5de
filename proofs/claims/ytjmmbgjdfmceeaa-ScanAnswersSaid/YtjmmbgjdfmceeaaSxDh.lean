/- Dfa: a cache is the same as itself; new ones. -/
import Derived.Test.YtjmmbgjdfmceeaaSxDg
import Derived.Test.YtjmmbgjdfmceeaaSxE9
import Derived.Test.YtjmmbgjdfmceeaaSxR
set_option linter.unusedVariables false
set_option linter.unusedSimpArgs false
namespace Go.Sx
theorem pair_same (x : Int × Int) : Ty.eqb (Ty.st (Ty.pair (Ty.int IntKind.i64) (Ty.int IntKind.i64))) x x = true := by
  show (x.1 == x.1 && x.2 == x.2) = true
  simp
theorem all_ok {f : Int → Option (Int ⊕ (PUnit ⊕ Bool))} (n : Nat) (hn : n ≤ 9223372036854775807) (h : ∀ i : Nat, i < n → f i = some (.inl (IntKind.i64.wrap ((i : Int) + 1)))) (he : f n = some (.inr (.inl ()))) :
    iter f 0 = some (.inl ()) := by
  obtain ⟨e, h1, h2⟩ := for_rule (f := f) (Q := fun e => e = .inl ()) n (fun _ => True) (fun i hi _ => .inl ⟨by rw [h i hi, wrap_i64 (by omega) (by omega)], trivial⟩) (fun _ => ⟨_, he, rfl⟩) trivial
  rw [h1, h2]
theorem d28_eq {p : List Inst} (hl : p.length ≤ 100000) (most : Int) : D.f28F (p, most) = some (if rightS p = false then (([], 0, [], 0), 1) else if most < 2 ∨ most > 1000 then (([], 0, [], 0), 13) else ((p, most, [], 0), 0)) := by
  unfold D.f28F
  dsimp only
  rw [s42_eq _ hl]
  cases hp : rightS p with
  | false => rfl
  | true =>
    simp only [Option.bind_some, Bool.not_true, Bool.false_eq_true, if_false, Bool.true_eq_false]
    by_cases h1 : most < 2
    · rw [if_pos (by rw [decide_eq_true_eq]; exact h1), if_pos (.inl h1)]; rfl
    · rw [if_neg (by rw [decide_eq_true_eq]; exact h1)]
      simp only [Option.bind_some]
      by_cases h2 : most > 1000
      · rw [if_pos (by rw [decide_eq_true_eq]; exact h2), if_pos (.inr h2)]
      · rw [if_neg (by rw [decide_eq_true_eq]; exact h2), if_neg (by omega)]
end Go.Sx
