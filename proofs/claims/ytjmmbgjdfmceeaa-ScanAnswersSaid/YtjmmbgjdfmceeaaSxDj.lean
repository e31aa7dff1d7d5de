/- Scan, plain: what 'All' and 'First' find. -/
import Derived.Test.YtjmmbgjdfmceeaaSxDi
set_option linter.unusedVariables false
set_option linter.unusedSimpArgs false
namespace Go.Sx
theorem ex_to {A : Type} {x : Option A} {v : A} (h : ∃ r, x = some r ∧ r = v) : x = some v := by
  obtain ⟨r, h, rfl⟩ := h
  exact h
noncomputable def lgS (p : List Inst) (l : List Int) (k : Int) : Int := lastOr (-1) (runS p l k).1
theorem lgS_in (p : List Inst) (l : List Int) (k : Nat) : lgS p l k = -1 ∨ ((k : Int) ≤ lgS p l k ∧ lgS p l k ≤ l.length) := by
  unfold lgS
  by_cases h : (runS p l k).1 = []
  · rw [h]; exact .inl rfl
  · right
    have hm : lastOr (-1) (runS p l k).1 ∈ (runS p l k).1 := by
      unfold lastOr
      rw [List.getLastD_eq_getLast?, List.getLast?_eq_some_getLast h]
      exact List.getLast_mem h
    generalize hv : lastOr (-1) (runS p l k).1 = v at hm
    unfold runS at hm
    split at hm
    · rename_i ho
      have hk : k ≤ l.length := by
        unfold runOk at ho
        simp at ho
        omega
      rw [Int.toNat_natCast] at hm
      have := walkS_ge p (l.drop k) k [0] v hm
      rw [List.length_drop] at this
      omega
    · exact absurd hm (by simp)
noncomputable def allS (p : List Inst) (l : List Int) : Nat → Nat → List (Int × Int) × Nat
  | 0, _ => ([], 0)
  | n + 1, k =>
    if l.length < k then ([], 0) else
    if lgS p l k < 0 then ((allS p l n (k + 1)).1, roundsS p (l.drop k) k [0] + (allS p l n (k + 1)).2)
    else (((k : Int), lgS p l k) :: (allS p l n (max (lgS p l k) (k + 1)).toNat).1, roundsS p (l.drop k) k [0] + (allS p l n (max (lgS p l k) (k + 1)).toNat).2)
inductive AllI (p : List Inst) (l : List Int) : Nat → List (Int × Int) → Prop
  | nil {a : Nat} : (∀ j : Nat, a ≤ j → j ≤ l.length → lgS p l j < 0) → AllI p l a []
  | cons {a k : Nat} {r : List (Int × Int)} : a ≤ k → k ≤ l.length → (∀ j : Nat, a ≤ j → j < k → lgS p l j < 0) → 0 ≤ lgS p l k → AllI p l (max (lgS p l k) ((k : Int) + 1)).toNat r → AllI p l a (((k : Int), lgS p l k) :: r)
theorem AllI.back {p : List Inst} {l : List Int} {a : Nat} {r : List (Int × Int)} (h : AllI p l (a + 1) r) (ha : lgS p l a < 0) : AllI p l a r := by
  cases h with
  | nil h =>
    refine .nil fun j h1 h2 => ?_
    rcases Nat.eq_or_lt_of_le h1 with e | e
    · rw [← e]; exact ha
    · exact h j e h2
  | cons h1 h2 h3 h4 h5 =>
    refine .cons (by omega) h2 (fun j q1 q2 => ?_) h4 h5
    rcases Nat.eq_or_lt_of_le q1 with e | e
    · rw [← e]; exact ha
    · exact h3 j e q2
theorem allS_ok (p : List Inst) (l : List Int) : ∀ (n k : Nat), l.length + 1 ≤ n + k → AllI p l k (allS p l n k).1
  | 0, k, h => .nil fun j h1 h2 => by omega
  | n + 1, k, h => by
    unfold allS
    by_cases hk : l.length < k
    · rw [if_pos hk]; exact .nil fun j h1 h2 => by omega
    rw [if_neg hk]
    by_cases hl : lgS p l k < 0
    · rw [if_pos hl]
      exact (allS_ok p l n (k + 1) (by omega)).back hl
    · rw [if_neg hl]
      exact .cons (Nat.le_refl _) (by omega) (fun j h1 h2 => by omega) (by omega) (allS_ok p l n _ (by omega))
theorem allS_stop {p : List Inst} {l : List Int} {n k : Nat} (h : l.length < k) : allS p l n k = ([], 0) := by
  cases n with
  | zero => rfl
  | succ n => unfold allS; rw [if_pos h]
theorem allS_fuel (p : List Inst) (l : List Int) : ∀ (q k q' : Nat), l.length + 1 ≤ q + k → l.length + 1 ≤ q' + k → allS p l q k = allS p l q' k
  | 0, k, q', h, h' => by rw [allS_stop (by omega), allS_stop (by omega)]
  | q + 1, k, 0, h, h' => by rw [allS_stop (by omega), allS_stop (by omega)]
  | q + 1, k, q' + 1, h, h' => by
    rw [allS, allS]
    by_cases hc : l.length < k
    · rw [if_pos hc, if_pos hc]
    · rw [if_neg hc, if_neg hc, allS_fuel p l q (k + 1) q' (by omega) (by omega), allS_fuel p l q (max (lgS p l k) ((k : Int) + 1)).toNat q' (by omega) (by omega)]
theorem d64_eq (a b : Int) (h : -9223372036854775808 ≤ a ∧ a < 9223372036854775807) : D.f64F (a, b) = some (maxI b (a + 1)) := by
  unfold D.f64F
  rw [wrap_i64 (by omega) (by omega)]
theorem maxI_eq (a b : Int) : maxI a b = max a b := by
  unfold maxI
  split <;> omega
theorem d36_eq {p : List Inst} (hp : rightS p = true) (hr : ranged p) {most : Int} (hm : 2 ≤ most ∧ most ≤ 1000) {l : List Int} (hll : l.length ≤ 30) :
    D.f36F (p, l, most) = some ((allS p l (l.length + 1) 0).1, ((allS p l (l.length + 1) 0).2 : Int), 0) := by
  obtain ⟨_, _, hp1000⟩ := rightS_last hp
  unfold D.f36F
  dsimp only
  rw [d28_eq (by omega) most, hp, if_neg (by decide), if_neg (by omega)]
  simp only [Option.bind_some]
  rw [if_neg (by decide), if_neg (by rw [decide_eq_true_eq]; omega)]
  generalize hR : allS p l (l.length + 1) 0 = R
  refine ex_to ?_
  refine bind_ex (Q := fun e : Int × List (Int × Int) => e = ((R.2 : Int), R.1)) (iter_rule (I := fun (s : Int × Int × List Inst × Int × List StD × Int × List (Int × Int)) =>
      ∃ (k n : Nat) (S : List StD) (fl : Int) (f : List (Int × Int)), s = ((n : Int), (k : Int), p, most, S, fl, f) ∧ k ≤ l.length + 1 ∧ CacheI p S ∧ (S.length : Int) ≤ most ∧ Small S (k * 30) ∧ (0 ≤ fl ∧ fl ≤ k * 31) ∧ f.length ≤ k ∧ n ≤ k * 31 ∧
        f ++ (allS p l (l.length + 1 - k) k).1 = R.1 ∧ n + (allS p l (l.length + 1 - k) k).2 = R.2)
    (fun s => ((l.length : Int) + 1 - s.2.1).toNat) ?_ _ ⟨0, 0, [], 0, [], rfl, by omega, CacheI.nil p, by simp; omega, ⟨by simp, fun s hs => by simp at hs, fun s hs => by simp at hs⟩, by omega, by simp, by omega, by rw [Nat.sub_zero, hR]; rfl, by rw [Nat.sub_zero, hR, Nat.zero_add]⟩) ?_
  rotate_left
  · rintro _ rfl
    exact ⟨_, rfl, rfl⟩
  rintro _ ⟨k, n, S, fl, f, rfl, hk, hC, hCl, hSm, hfl, hf, hn, e1, e2⟩
  dsimp only
  by_cases hkl : k ≤ l.length
  rotate_left
  · rw [if_neg (by rw [decide_eq_true_eq]; omega)]
    rw [allS_stop (by omega)] at e1 e2
    refine .inr ⟨_, rfl, ?_⟩
    rw [← e1, ← e2, List.append_nil]
    rfl
  left
  obtain ⟨hd, hd2⟩ := d29_eq (N := k * 30) (most := most) (fl := fl) (l := l) (k := k) hp hr hSm (by omega) hm (by omega) hCl hC (by omega) hkl
  obtain ⟨T, fl', g1, g2, g3, g4, g5⟩ := longS_ok (most := most) hp (by omega) hC hCl fl l hkl
  rw [g1] at hd hd2
  dsimp only at hd hd2
  have hst : allS p l (l.length + 1 - k) k = if lgS p l k < 0 then ((allS p l (l.length - k) (k + 1)).1, roundsS p (l.drop k) k [0] + (allS p l (l.length - k) (k + 1)).2)
    else (((k : Int), lgS p l k) :: (allS p l (l.length - k) (max (lgS p l k) (k + 1)).toNat).1, roundsS p (l.drop k) k [0] + (allS p l (l.length - k) (max (lgS p l k) (k + 1)).toNat).2) := by
    rw [show l.length + 1 - k = (l.length - k) + 1 by omega]
    rw [allS, if_neg (by omega)]
  rw [hst] at e1 e2
  have hro : roundsS p (l.drop k) k [0] ≤ 31 := by
    have := roundsS_le p (l.drop k) k [0]
    rw [List.length_drop] at this
    omega
  rw [if_pos (by rw [decide_eq_true_eq]; omega), hd]
  simp only [Option.bind_some]
  have hw : IntKind.i64.wrap ((n : Int) + (roundsS p (l.drop k) k [0] : Nat)) = ((n + roundsS p (l.drop k) k [0] : Nat) : Int) := by rw [wrap_i64 (by omega) (by omega)]; omega
  have hlg : lastOr (-1) (runS p l k).1 = lgS p l k := rfl
  rw [hlg, hw]
  by_cases hl : lgS p l k < 0
  · rw [if_pos hl] at e1 e2
    rw [if_pos (by rw [decide_eq_true_eq]; exact hl), wrap_i64 (x := (k : Int) + 1) (by omega) (by omega)]
    refine ⟨_, rfl, ⟨k + 1, n + roundsS p (l.drop k) k [0], T, fl', f, rfl, by omega, g2, g3, hd2.more (by omega), by omega, by omega, by omega, ?_, ?_⟩, ?_⟩
    · rw [show l.length + 1 - (k + 1) = l.length - k by omega]; exact e1
    · rw [show l.length + 1 - (k + 1) = l.length - k by omega]; omega
    · show ((l.length : Int) + 1 - ((k : Int) + 1)).toNat < ((l.length : Int) + 1 - (k : Int)).toNat
      omega
  · rw [if_neg hl] at e1 e2
    have hin := (lgS_in p l k).resolve_left (by omega)
    rw [if_neg (by rw [decide_eq_true_eq]; exact hl), if_pos (by unfold roomOk; show (f.length + 1) * 16 ≤ _; omega), d64_eq _ _ (by omega)]
    simp only [Option.bind_some]
    rw [maxI_eq]
    generalize hM : max (lgS p l k) ((k : Int) + 1) = M at *
    obtain ⟨m, rfl⟩ : ∃ m : Nat, M = (m : Int) := ⟨M.toNat, by omega⟩
    have hkm : k + 1 ≤ m ∧ m ≤ l.length + 1 := by omega
    rw [Int.toNat_natCast] at e1 e2
    refine ⟨_, rfl, ⟨m, n + roundsS p (l.drop k) k [0], T, fl', f ++ [((k : Int), lgS p l k)], rfl, by omega, g2, g3, hd2.more (by omega), by omega, by rw [List.length_append, List.length_singleton]; omega, by omega, ?_, ?_⟩, ?_⟩
    · rw [List.append_assoc, allS_fuel p l (l.length + 1 - m) m (l.length - k) (by omega) (by omega)]; exact e1
    · rw [allS_fuel p l (l.length + 1 - m) m (l.length - k) (by omega) (by omega)]; omega
    · show ((l.length : Int) + 1 - (m : Int)).toNat < ((l.length : Int) + 1 - (k : Int)).toNat
      omega
end Go.Sx
