import Derived.Test.YtjmdfkcgglidaaaDoorSxU3
set_option linter.unusedVariables false
set_option linter.unusedSimpArgs false
namespace Go.Sx
def firstS (l : List Int) (to : Int) (i : Nat) : Int :=
  if h : i < l.length then
    if (i : Int) < to then
      if l[i] = 10 then -1
      else if opens l[i] = true then (if he : endOf l i = -1 then -1 else firstS l to ((endOf l i).toNat + 1))
      else if strongS l[i] = -1 then firstS l to (i + 1) else strongS l[i]
    else -1
  else -1
termination_by l.length - i
decreasing_by
  · have := endOf_gt l i
    omega
  · omega
theorem f34_eq {l m : List Int} (hm : IsMatch l m) (hl : l.length ≤ 100000) (from_ to : Int) : G.f34F (l, m, from_, to) = some (firstS l to from_.toNat) := by
  suffices h : ∃ r, G.f34F (l, m, from_, to) = some r ∧ r = firstS l to from_.toNat by
    obtain ⟨r, h1, rfl⟩ := h
    exact h1
  obtain ⟨R, hR⟩ : ∃ R, firstS l to from_.toNat = R := ⟨_, rfl⟩
  rw [hR]
  unfold G.f34F
  refine bind_ex (iter_rule (I := fun (s : Int) => ∃ i : Nat, s = (i : Int) ∧ firstS l to i = R) (Q := fun e => Sum.elim (fun _ => (-1 : Int)) (fun v => v) e = R)
    (fun (s : Int) => ((l.length : Int) - s).toNat) ?_ _ ?_) ?_
  · rintro _ ⟨i, rfl, h⟩
    dsimp only
    have hmin : ((i : Int) < minI to l.length) ↔ (i : Int) < to ∧ i < l.length := by
      unfold minI
      split <;> omega
    by_cases hi : i < l.length
    · have hb : (0 : Int) ≤ i ∧ (i : Int) < l.length := ⟨by omega, by omega⟩
      have hbm : (0 : Int) ≤ i ∧ (i : Int) < m.length := ⟨by omega, by rw [hm.len]; omega⟩
      have hget : l.getD i 0 = l[i] := by simp [List.getD_eq_getElem?_getD, hi]
      have hwr : IntKind.i64.wrap ((i : Int) + 1) = ((i + 1 : Nat) : Int) := by rw [wrap_i64 (by omega) (by omega)]; rfl
      by_cases hto : (i : Int) < to
      · have hmin' : (i : Int) < minI to l.length := hmin.2 ⟨hto, hi⟩
        rw [if_pos (decide_eq_true hmin'), if_pos hb, if_pos hb, if_pos hb, if_pos hbm]
        simp only [Int.toNat_natCast, hget, Option.bind_some, f32_eq, f39_eq, hwr]
        unfold firstS at h
        rw [dif_pos hi, if_pos hto] at h
        by_cases h10 : l[i] = 10
        · rw [if_pos h10] at h
          simp only [h10, bne_self_eq_false, Bool.false_eq_true, if_false]
          exact .inr ⟨_, rfl, h⟩
        · rw [if_neg h10] at h
          simp only [show (l[i] != (10 : Int)) = true by simpa using h10, if_true]
          cases ho : opens l[i] with
          | true =>
            rw [if_pos ho] at h
            simp only [if_true, hm.op i hi ho]
            by_cases he : endOf l i = -1
            · rw [dif_pos he] at h
              simp only [he, beq_self_eq_true, if_true]
              exact .inr ⟨_, rfl, h⟩
            · rw [dif_neg he] at h
              simp only [show (endOf l i == (-1 : Int)) = false by simpa using he, Bool.false_eq_true, if_false]
              have hgt := endOf_gt l i
              rw [wrap_i64 (by omega) (by omega)]
              exact .inl ⟨_, rfl, ⟨(endOf l i).toNat + 1, by omega, h⟩, by omega⟩
          | false =>
            rw [if_neg (by rw [ho]; simp)] at h
            simp only [Bool.false_eq_true, if_false]
            by_cases hs : strongS l[i] = -1
            · rw [if_pos hs] at h
              simp only [hs, bne_self_eq_false, Bool.false_eq_true, if_false]
              exact .inl ⟨_, rfl, ⟨i + 1, rfl, h⟩, by omega⟩
            · rw [if_neg hs] at h
              simp only [show (strongS l[i] != (-1 : Int)) = true by simpa using hs, if_true]
              exact .inr ⟨_, rfl, h⟩
      · unfold firstS at h
        rw [dif_pos hi, if_neg hto] at h
        have hno : ¬ (i : Int) < minI to l.length := fun h' => hto (hmin.1 h').1
        rw [if_neg (by simpa using hno)]
        exact .inr ⟨_, rfl, h⟩
    · unfold firstS at h
      rw [dif_neg hi] at h
      have hno : ¬ (i : Int) < minI to l.length := fun h' => hi (hmin.1 h').2
      rw [if_neg (by simpa using hno)]
      exact .inr ⟨_, rfl, h⟩
  · refine ⟨from_.toNat, ?_, hR⟩
    dsimp only
    split <;> omega
  · intro e he
    cases e with
    | inl u => exact ⟨_, rfl, he⟩
    | inr v => exact ⟨_, rfl, he⟩
theorem f16_eq {l : List Int} (hl : l.length ≤ 100000) (from_ to : Int) : G.f16F (l, from_, to) = some (firstS l to from_.toNat) := by
  unfold G.f16F
  obtain ⟨m, h1, h2⟩ := f14_ok l hl
  simp only [h1, Option.bind_some]
  rw [f34_eq h2 hl]
  rfl
theorem firstS_none (l : List Int) (to : Int) (i : Nat) (h : to ≤ i) : firstS l to i = -1 := by
  unfold firstS
  split
  · rw [if_neg (by omega)]
  · rfl
end Go.Sx
