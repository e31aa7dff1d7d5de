import Derived.Test.YtemngcdlgnconaaSxX1
import Derived.Test.YtemngcdlgnconaaSxT4
import Derived.Test.YtemngcdlgnconaaSxR
set_option linter.unusedVariables false
set_option linter.unusedSimpArgs false
namespace Go.Sx

/-- 'Ints'. -/
theorem h24_eq (a b : List Int) (hl : a.length ≤ 9223372036854775807) : H.f24F (a, b) = some (decide (a = b)) := by
  unfold H.f24F
  by_cases hab : a.length = b.length
  · rw [if_neg (by simp [hab])]
    suffices h : ∃ r, Option.bind (iter (fun s1 : Int => if decide (s1 < (a.length : Int)) = true then (if (0 : Int) ≤ s1 ∧ s1 < (a.length : Int) then (if (0 : Int) ≤ s1 ∧ s1 < (b.length : Int) then (if (a.getD s1.toNat 0 != b.getD s1.toNat 0) = true then some (Sum.inr (Sum.inr false)) else some (Sum.inl (IntKind.i64.wrap (s1 + 1)))) else none) else none) else some (Sum.inr (Sum.inl ()))) (0 : Int))
        (fun (v1 : Unit ⊕ Bool) => Sum.elim (fun _ => some true) (fun q => some q) v1) = some r ∧ r = decide (a = b) by
      obtain ⟨r, h1, rfl⟩ := h
      exact h1
    refine bind_ex (iter_rule (I := fun (s : Int) => ∃ i : Nat, s = (i : Int) ∧ i ≤ a.length ∧ a.take i = b.take i) (Q := fun e => Sum.elim (fun _ => true) (fun q => q) e = decide (a = b))
      (fun (s : Int) => ((a.length : Int) - s).toNat) ?_ _ ?_) ?_
    · rintro _ ⟨i, rfl, hi, ht⟩
      by_cases h : i < a.length
      · have hb : i < b.length := by omega
        rw [if_pos (by simp; omega), if_pos (by omega), if_pos (by omega)]
        simp only [Int.toNat_natCast]
        have ea : a.getD i 0 = a[i] := by simp [List.getD_eq_getElem?_getD, h]
        have eb : b.getD i 0 = b[i] := by simp [List.getD_eq_getElem?_getD, hb]
        simp only [ea, eb]
        by_cases he : a[i] = b[i]
        · rw [if_neg (by simp [he]), wrap_i64 (by omega) (by omega)]
          refine .inl ⟨_, rfl, ⟨i + 1, by omega, by omega, ?_⟩, by omega⟩
          rw [List.take_succ_eq_append_getElem h, List.take_succ_eq_append_getElem hb, ht, he]
        · rw [if_pos (by simpa using he)]
          refine .inr ⟨_, rfl, ?_⟩
          simp only [Sum.elim_inr]
          symm
          rw [decide_eq_false_iff_not]
          intro e
          subst e
          exact he rfl
      · rw [if_neg (by simp; omega)]
        refine .inr ⟨_, rfl, ?_⟩
        simp only [Sum.elim_inl]
        symm
        rw [decide_eq_true_eq]
        rw [List.take_of_length_le (by omega), List.take_of_length_le (by omega)] at ht
        exact ht
    · exact ⟨0, rfl, Nat.zero_le _, rfl⟩
    · intro e he
      cases e with
      | inl u => exact ⟨_, rfl, he⟩
      | inr q => exact ⟨_, rfl, he⟩
  · rw [if_pos (by simp; omega)]
    congr 1
    symm
    rw [decide_eq_false_iff_not]
    intro e
    subst e
    exact hab rfl

theorem strs_bounds : ∀ s ∈ strs, 65 ≤ s.1 ∧ s.2.1 ≤ 7838 ∧ -7615 ≤ s.2.2 ∧ s.2.2 ≤ 775 := by decide

theorem h46_eq : H.f46F () = some strs := rfl

theorem foldS_bounds (c : Int) : foldS c = c ∨ (65 ≤ c ∧ c ≤ 7838 ∧ 97 ≤ foldS c ∧ foldS c ≤ 1119) := by
  by_cases h : foldS c = c
  · exact .inl h
  · right
    obtain ⟨s, h1, h2, h3⟩ := foldL_turned h
    have he : foldS c = c + s.2.2 := foldL_in strs_rise h1 h2 h3
    have hb : ∀ s ∈ strs, 97 ≤ s.1 + s.2.2 ∧ s.2.1 + s.2.2 ≤ 1119 := by decide
    have := hb s h1
    have := strs_bounds s h1
    omega

theorem h22_eq (c : Int) : H.f22F c = some (foldS c) := by
  suffices h : ∃ r, H.f22F c = some r ∧ r = foldS c by
    obtain ⟨r, h1, rfl⟩ := h
    exact h1
  unfold H.f22F
  rw [h46_eq]
  simp only [Option.bind_some]
  have hlen : strs.length = 10 := rfl
  refine bind_ex (iter_rule (I := fun (t : Int) => ∃ i : Nat, t = (i : Int) ∧ i ≤ 10 ∧ foldL (strs.drop i) c = foldS c) (Q := fun e => Sum.elim (fun _ => c) (fun q => q) e = foldS c) (fun (t : Int) => ((10 : Int) - t).toNat) ?_ _ ⟨0, rfl, by omega, rfl⟩) ?_
  · rintro _ ⟨i, rfl, hi, hf⟩
    rw [hlen]
    by_cases hil : i < 10
    · have hi' : i < strs.length := by rw [hlen]; exact hil
      rw [if_pos (by rw [decide_eq_true_eq]; omega), if_pos (by omega), Int.toNat_natCast]
      have hg : strs.getD i (0, 0, 0) = strs[i] := by simp [List.getD_eq_getElem?_getD, hi']
      have hb := strs_bounds strs[i] (List.getElem_mem hi')
      rw [hg]
      rw [List.drop_eq_getElem_cons hi'] at hf
      unfold foldL at hf
      by_cases h1 : c ≥ strs[i].1
      · rw [if_pos (by rw [decide_eq_true_eq]; exact h1)]
        simp only [Option.bind_some]
        by_cases h2 : c ≤ strs[i].2.1
        · rw [if_pos ⟨h1, h2⟩] at hf
          rw [if_pos (by rw [decide_eq_true_eq]; exact h2), wrap_i64 (by omega) (by omega)]
          exact .inr ⟨_, rfl, hf⟩
        · rw [if_neg (fun h => h2 h.2)] at hf
          rw [if_neg (by rw [decide_eq_true_eq]; exact h2), wrap_i64 (by omega) (by omega)]
          exact .inl ⟨_, rfl, ⟨i + 1, by omega, hil, hf⟩, by omega⟩
      · rw [if_neg (fun h => h1 h.1)] at hf
        rw [if_neg (by rw [decide_eq_true_eq]; exact h1)]
        simp only [Option.bind_some, Bool.false_eq_true, if_false]
        rw [wrap_i64 (by omega) (by omega)]
        exact .inl ⟨_, rfl, ⟨i + 1, by omega, hil, hf⟩, by omega⟩
    · rw [if_neg (by rw [decide_eq_true_eq]; omega)]
      rw [List.drop_of_length_le (by rw [hlen]; omega)] at hf
      exact .inr ⟨_, rfl, hf⟩
  · intro e he
    cases e with
    | inl u => exact ⟨_, rfl, he⟩
    | inr q => exact ⟨_, rfl, he⟩

theorem rngK (x a b : Int) : (if decide (x ≥ a) = true then some (decide (x ≤ b)) else some false) = some (decide (a ≤ x ∧ x ≤ b)) := by
  by_cases h : x ≥ a
  · rw [if_pos (by rw [decide_eq_true_eq]; exact h)]
    congr 1
    rw [decide_eq_decide]
    constructor
    · exact fun h2 => ⟨h, h2⟩
    · exact fun h2 => h2.2
  · rw [if_neg (by rw [decide_eq_true_eq]; exact h)]
    congr 1
    symm
    rw [decide_eq_false_iff_not]
    exact fun h2 => h h2.1

theorem orrK (p q : Prop) [Decidable p] [Decidable q] : (if decide p = true then some true else some (decide q)) = some (decide (p ∨ q)) := by
  by_cases h : p
  · simp [h]
  · simp [h]

theorem h23_eq (c : Int) : H.f23F c = some (foldS c) := by
  unfold H.f23F
  simp only [rngK, Option.bind_some, orrK]
  simp only [foldS, foldL, strs]
  by_cases hA : (65 ≤ c ∧ c ≤ 90) ∨ (192 ≤ c ∧ c ≤ 214) ∨ (216 ≤ c ∧ c ≤ 222) ∨ (913 ≤ c ∧ c ≤ 929) ∨ (931 ≤ c ∧ c ≤ 937) ∨ 1040 ≤ c ∧ c ≤ 1071
  · rw [if_pos (by rw [decide_eq_true_eq]; exact hA), wrap_i64 (by omega) (by omega)]
    congr 1
    repeat' split
    all_goals omega
  · rw [if_neg (by rw [decide_eq_true_eq]; exact hA)]
    by_cases hB : 1024 ≤ c ∧ c ≤ 1039
    · rw [if_pos (by rw [decide_eq_true_eq]; exact hB), wrap_i64 (by omega) (by omega)]
      congr 1
      repeat' split
      all_goals omega
    · rw [if_neg (by rw [decide_eq_true_eq]; exact hB)]
      by_cases h1 : c = 181
      · subst h1; rfl
      by_cases h2 : c = 962
      · subst h2; rfl
      by_cases h3 : c = 7838
      · subst h3; rfl
      rw [if_neg (by rw [beq_iff_eq]; exact h1), if_neg (by rw [beq_iff_eq]; exact h2), if_neg (by rw [beq_iff_eq]; exact h3)]
      congr 1
      repeat' split
      all_goals omega

theorem map_take_succ (l : List Int) (i : Nat) (h : i < l.length) : (l.take i).map foldS ++ [foldS l[i]] = (l.take (i + 1)).map foldS := by
  rw [List.take_succ_eq_append_getElem h, List.map_append]
  rfl

theorem h25_eq {l : List Int} (hl : l.length ≤ 100000) : H.f25F l = some (l.map foldS) := by
  suffices h : ∃ r, H.f25F l = some r ∧ r = l.map foldS by
    obtain ⟨r, h1, rfl⟩ := h
    exact h1
  unfold H.f25F
  refine bind_ex (iter_rule (I := fun s => ∃ i : Nat, s = ((i : Int), (l.take i).map foldS) ∧ i ≤ l.length) (Q := fun e => e = l.map foldS) (fun s => ((l.length : Int) - s.1).toNat) ?_ _ ⟨0, rfl, Nat.zero_le _⟩) fun e he => ⟨e, rfl, he⟩
  rintro _ ⟨i, rfl, hi⟩
  dsimp only
  by_cases hil : i < l.length
  · have hg : l.getD i 0 = l[i] := by simp [List.getD_eq_getElem?_getD, hil]
    rw [if_pos (by rw [decide_eq_true_eq]; omega), if_pos (by omega), Int.toNat_natCast, hg]
    simp only [h22_eq, Option.bind_some]
    rw [if_pos (by unfold roomOk; simp; omega), wrap_i64 (by omega) (by omega), map_take_succ l i hil]
    exact .inl ⟨_, rfl, ⟨i + 1, rfl, hil⟩, by simp only []; omega⟩
  · rw [if_neg (by rw [decide_eq_true_eq]; omega)]
    exact .inr ⟨_, rfl, by rw [List.take_of_length_le (by omega)]⟩

theorem h26_eq {l : List Int} (hl : l.length ≤ 100000) : H.f26F l = some (l.map foldS) := by
  suffices h : ∃ r, H.f26F l = some r ∧ r = l.map foldS by
    obtain ⟨r, h1, rfl⟩ := h
    exact h1
  unfold H.f26F
  refine bind_ex (iter_rule (I := fun s => ∃ i : Nat, s = ((i : Int), (l.take i).map foldS) ∧ i ≤ l.length) (Q := fun e => e = l.map foldS) (fun s => ((l.length : Int) - s.1).toNat) ?_ _ ⟨0, rfl, Nat.zero_le _⟩) fun e he => ⟨e, rfl, he⟩
  rintro _ ⟨i, rfl, hi⟩
  dsimp only
  by_cases hil : i < l.length
  · have hg : l.getD i 0 = l[i] := by simp [List.getD_eq_getElem?_getD, hil]
    rw [if_pos (by rw [decide_eq_true_eq]; omega), if_pos (by omega), Int.toNat_natCast, hg]
    simp only [h23_eq, Option.bind_some]
    rw [if_pos (by unfold roomOk; simp; omega), wrap_i64 (by omega) (by omega), map_take_succ l i hil]
    exact .inl ⟨_, rfl, ⟨i + 1, rfl, hil⟩, by simp only []; omega⟩
  · rw [if_neg (by rw [decide_eq_true_eq]; omega)]
    exact .inr ⟨_, rfl, by rw [List.take_of_length_le (by omega)]⟩

theorem h27_eq {a b : List Int} (hl : a.length ≤ 100000) : H.f27F (a, b) = some (decide (a.map foldS = b.map foldS)) := by
  suffices h : ∃ r, H.s0F (a, b) = some r ∧ r = decide (a.map foldS = b.map foldS) by
    obtain ⟨r, h1, rfl⟩ := h
    unfold H.f27F
    simp only [h1, Option.bind_some]
  unfold H.s0F
  by_cases hab : a.length = b.length
  · rw [if_neg (by rw [bne_iff_ne]; simp [hab])]
    refine bind_ex (iter_rule (I := fun (t : Int) => ∃ i : Nat, t = (i : Int) ∧ i ≤ a.length ∧ (a.take i).map foldS = (b.take i).map foldS) (Q := fun e => Sum.elim (fun _ => true) (fun q => q) e = decide (a.map foldS = b.map foldS))
      (fun (t : Int) => ((a.length : Int) - t).toNat) ?_ _ ⟨0, rfl, Nat.zero_le _, rfl⟩) ?_
    · rintro _ ⟨i, rfl, hi, ht⟩
      dsimp only
      by_cases hil : i < a.length
      · have hib : i < b.length := by omega
        have ea : a.getD i 0 = a[i] := by simp [List.getD_eq_getElem?_getD, hil]
        have eb : b.getD i 0 = b[i] := by simp [List.getD_eq_getElem?_getD, hib]
        rw [if_pos (by rw [decide_eq_true_eq]; omega), if_pos (by omega), if_pos (by omega), Int.toNat_natCast, ea, eb]
        unfold H.f48F
        simp only [h22_eq, Option.bind_some]
        by_cases he : foldS a[i] = foldS b[i]
        · rw [if_neg (by simp [he]), wrap_i64 (by omega) (by omega)]
          refine .inl ⟨_, rfl, ⟨i + 1, by omega, hil, ?_⟩, by omega⟩
          rw [← map_take_succ a i hil, ← map_take_succ b i hib, ht, he]
        · rw [if_pos (by simp [he])]
          refine .inr ⟨_, rfl, ?_⟩
          simp only [Sum.elim_inr]
          symm
          rw [decide_eq_false_iff_not]
          intro e
          apply he
          have h1 : (a.map foldS)[i]? = (b.map foldS)[i]? := by rw [e]
          simpa [hil, hib] using h1
      · rw [if_neg (by rw [decide_eq_true_eq]; omega)]
        refine .inr ⟨_, rfl, ?_⟩
        simp only [Sum.elim_inl]
        symm
        rw [decide_eq_true_eq]
        rw [List.take_of_length_le (by omega), List.take_of_length_le (by omega)] at ht
        exact ht
    · intro e he
      cases e with
      | inl u => exact ⟨_, rfl, he⟩
      | inr q => exact ⟨_, rfl, he⟩
  · rw [if_pos (by rw [bne_iff_ne]; simp; omega)]
    refine ⟨false, rfl, ?_⟩
    symm
    rw [decide_eq_false_iff_not]
    intro e
    apply hab
    have := congrArg List.length e
    simpa using this

theorem h28_eq {a b : List Int} (ha : a.length ≤ 100000) (hb : b.length ≤ 100000) : H.f28F (a, b) = some (decide (a.map foldS = b.map foldS)) := by
  unfold H.f28F
  simp only [h26_eq ha, h26_eq hb, Option.bind_some, h24_eq _ _ (show (a.map foldS).length ≤ 9223372036854775807 by simp; omega)]
end Go.Sx
