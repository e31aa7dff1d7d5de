/- Dfa: a cache is the same as itself; new ones. -/
import Derived.Test.YtjmmbgjdfmceeaaSxDg
import Derived.Test.YtjmmbgjdfmceeaaSxE9
import Derived.Test.YtjmmbgjdfmceeaaSxR
set_option linter.unusedVariables false
set_option linter.unusedSimpArgs false
namespace Go.Sx
theorem pair_same (x : Int × Int) : Ty.eqb (Ty.st (Ty.pair (Ty.int IntKind.i64) (Ty.int IntKind.i64))) x x = true := by
  show (x.1 == x.1 && x.2 == x.2) = true
  simp
theorem all_ok {f : Int → Option (Int ⊕ (PUnit ⊕ Bool))} (n : Nat) (hn : n ≤ 9223372036854775807) (h : ∀ i : Nat, i < n → f i = some (.inl (IntKind.i64.wrap ((i : Int) + 1)))) (he : f n = some (.inr (.inl ()))) :
    iter f 0 = some (.inl ()) := by
  obtain ⟨e, h1, h2⟩ := for_rule (f := f) (Q := fun e => e = .inl ()) n (fun _ => True) (fun i hi _ => .inl ⟨by rw [h i hi, wrap_i64 (by omega) (by omega)], trivial⟩) (fun _ => ⟨_, he, rfl⟩) trivial
  rw [h1, h2]
theorem d92_self (a : List (Int × Int)) (hl : a.length ≤ 9223372036854775807) : D.f92F (a, a) = some true := by
  unfold D.f92F
  dsimp only
  rw [if_neg (by simp)]
  rw [all_ok a.length hl (fun i hi => ?_) ?_]
  · rfl
  · rw [if_neg (by rw [decide_eq_true_eq]; omega)]
  · rw [if_pos (by rw [decide_eq_true_eq]; omega), if_pos (by omega), if_pos (by omega), pair_same, if_neg (by decide)]
theorem d62_self (a : List (Int × Int)) (hl : a.length ≤ 9223372036854775807) : D.f62F (a, a) = some true := by
  unfold D.f62F
  dsimp only
  rw [if_neg (by simp)]
  rw [all_ok a.length hl (fun i hi => ?_) ?_]
  · rfl
  · rw [if_neg (by rw [decide_eq_true_eq]; omega)]
  · rw [if_pos (by rw [decide_eq_true_eq]; omega), if_pos (by omega), if_pos (by omega), pair_same, if_neg (by decide)]
theorem d58_self {p : List Inst} (hl : p.length ≤ 100000) (hr : ranged p) : D.f58F (p, p) = some true := by
  unfold D.f58F D.s9F
  dsimp only
  rw [if_neg (by simp)]
  rw [all_ok p.length (by omega) (fun i hi => ?_) ?_]
  · rfl
  · rw [if_neg (by rw [decide_eq_true_eq]; omega)]
  · rw [if_pos (by rw [decide_eq_true_eq]; omega), if_pos (by omega), if_pos (by omega)]
    unfold D.f91F
    dsimp only
    rw [if_pos (by simp), if_pos (by simp), if_pos (by simp), Int.toNat_natCast]
    have hg := hr.get (k := (i : Int)) (by omega) (by omega)
    rw [Int.toNat_natCast] at hg
    rw [d92_self _ hg]
    rfl
theorem ds8_self {S : List StD} {N : Nat} (hS : Small S N) (hN : N ≤ 1000000) : D.s8F (S, S) = some true := by
  have hlen := hS.len
  unfold D.s8F
  dsimp only
  rw [if_neg (by simp)]
  rw [all_ok S.length (by omega) (fun i hi => ?_) ?_]
  · rfl
  · rw [if_neg (by rw [decide_eq_true_eq]; omega)]
  · have hs : S.getD i dSt ∈ S := by rw [getD_lt _ _ hi]; exact List.getElem_mem _
    have h1 := hS.at_ _ hs
    have h2 := hS.ed _ hs
    rw [if_pos (by rw [decide_eq_true_eq]; omega), if_pos (by omega), if_pos (by omega), Int.toNat_natCast]
    have hd : (([] : List Int), false, ([] : List (Int × Int))) = dSt := rfl
    rw [hd]
    generalize S.getD i dSt = s at *
    unfold D.f60F
    dsimp only
    rw [if_pos (by simp), d61_eq _ _ (by omega)]
    simp only [Option.bind_some, decide_true, if_true]
    rw [d62_self _ (by omega)]
    rfl
theorem d33_self {p : List Inst} (hl : p.length ≤ 100000) (hr : ranged p) {most fl : Int} {S : List StD} {N : Nat} (hS : Small S N) (hN : N ≤ 1000000) : D.f33F ((p, most, S, fl), (p, most, S, fl)) = some true := by
  unfold D.f33F
  dsimp only
  rw [if_pos (by simp), if_pos (by simp), d58_self hl hr]
  simp only [Option.bind_some, if_true]
  rw [ds8_self hS hN]
  rfl
theorem d28_eq {p : List Inst} (hl : p.length ≤ 100000) (most : Int) : D.f28F (p, most) = some (if rightS p = false then (([], 0, [], 0), 1) else if most < 2 ∨ most > 1000 then (([], 0, [], 0), 13) else ((p, most, [], 0), 0)) := by
  unfold D.f28F
  dsimp only
  rw [s42_eq _ hl]
  cases hp : rightS p with
  | false => rfl
  | true =>
    simp only [Option.bind_some, Bool.not_true, Bool.false_eq_true, if_false, Bool.true_eq_false]
    by_cases h1 : most < 2
    · rw [if_pos (by rw [decide_eq_true_eq]; exact h1), if_pos (.inl h1)]; rfl
    · rw [if_neg (by rw [decide_eq_true_eq]; exact h1)]
      simp only [Option.bind_some]
      by_cases h2 : most > 1000
      · rw [if_pos (by rw [decide_eq_true_eq]; exact h2), if_pos (.inr h2)]
      · rw [if_neg (by rw [decide_eq_true_eq]; exact h2), if_neg (by omega)]
end Go.Sx
