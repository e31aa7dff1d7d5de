import Derived.Test.YtemngcdlgnconaaSxX2
set_option linter.unusedVariables false
set_option linter.unusedSimpArgs false
namespace Go.Sx

theorem h87_eq (a b : Int) : H.f87F (a, b) = some (decide (a < b)) := by
  unfold H.f87F H.f106F
  simp

/-- Sorting by insertion. -/
theorem h81_ok {l : List Int} (hl : l.length ≤ 100000) (h0 : l ≠ []) : ∃ r, H.f81F ((0 : Int), (l.length : Int), l) = some r ∧ r.Perm l ∧ r.Pairwise (· ≤ ·) := by
  unfold H.f81F
  have hpos : 0 < l.length := by cases l with | nil => exact absurd rfl h0 | cons x l => simp
  refine bind_ex (iter_rule (I := fun s => ∃ (i : Nat) (S R : List Int), s = ((i : Int), S ++ R) ∧ S.length = i ∧ 1 ≤ i ∧ (S ++ R).Perm l ∧ S.Pairwise (· ≤ ·)) (Q := fun e => e.Perm l ∧ e.Pairwise (· ≤ ·))
    (fun s => ((l.length : Int) - s.1).toNat) ?_ _ ?_) fun e he => ⟨e, rfl, he⟩
  · rintro _ ⟨i, S, R, rfl, hi, h1, hp, hs⟩
    have hlen : S.length + R.length = l.length := by rw [← List.length_append]; exact hp.length_eq
    dsimp only
    cases R with
    | nil =>
      rw [if_neg (by rw [decide_eq_true_eq]; simp at hlen; omega)]
      simp only [List.append_nil] at hp ⊢
      exact .inr ⟨_, rfl, hp, hs⟩
    | cons x R =>
      simp only [List.length_cons] at hlen
      rw [if_pos (by rw [decide_eq_true_eq]; omega)]
      refine stp_bind (R := fun d => ∃ S', d = S' ++ R ∧ S'.length = i + 1 ∧ (S' ++ R).Perm l ∧ S'.Pairwise (· ≤ ·)) (iter_rule (I := fun s => ∃ A B : List Int, s = ((A.length : Int), A ++ x :: (B ++ R)) ∧ A.length + B.length = i ∧ InsI l A x B R) (Q := fun d => ∃ S', d = S' ++ R ∧ S'.length = i + 1 ∧ (S' ++ R).Perm l ∧ S'.Pairwise (· ≤ ·))
        (fun s => s.1.toNat) ?_ _ ⟨S, [], by simp [hi], by simp [hi], ⟨by simpa using hp, by simpa using hs, fun y hy => by simp at hy⟩⟩) ?_
      · rintro _ ⟨A, B, rfl, hAB, hI⟩
        dsimp only
        have stop : (∀ y, A.getLast? = some y → y ≤ x) → ∃ S', A ++ x :: (B ++ R) = S' ++ R ∧ S'.length = i + 1 ∧ (S' ++ R).Perm l ∧ S'.Pairwise (· ≤ ·) := fun hA =>
          ⟨A ++ x :: B, by simp, by simp; omega, by have := hI.perm; simpa using this, hI.done hA⟩
        cases hA : A.reverse with
        | nil =>
          have hA' : A = [] := by simpa using hA
          subst hA'
          rw [if_neg (by rw [decide_eq_true_eq]; simp)]
          simp only [Option.bind_some, Bool.false_eq_true, if_false]
          exact .inr ⟨_, rfl, stop fun y hy => by simp at hy⟩
        | cons y A' =>
          obtain ⟨A1, rfl⟩ : ∃ A1, A = A1 ++ [y] := ⟨A'.reverse, by have := congrArg List.reverse hA; simpa using this⟩
          have hl1 : (A1 ++ [y]).length = A1.length + 1 := by simp
          have hd : (A1 ++ [y]) ++ x :: (B ++ R) = A1 ++ y :: x :: (B ++ R) := by simp
          have hw : IntKind.i64.wrap (((A1 ++ [y]).length : Int) - 1) = (A1.length : Int) := by rw [hl1, wrap_i64 (by omega) (by simp at hAB; omega)]; omega
          have hdl : ((A1 ++ [y]) ++ x :: (B ++ R)).length = A1.length + 2 + (B.length + R.length) := by simp; omega
          have g1 : ((A1 ++ [y]) ++ x :: (B ++ R)).getD (A1 ++ [y]).length 0 = x := getD_mid _ _ _
          have g2 : ((A1 ++ [y]) ++ x :: (B ++ R)).getD A1.length 0 = y := by rw [hd]; exact getD_mid _ _ _
          rw [if_pos (by rw [decide_eq_true_eq]; omega), if_pos (by rw [hdl]; omega), hw, if_pos (by rw [hdl]; omega)]
          simp only [Int.toNat_natCast, g1, g2, h87_eq, Option.bind_some]
          by_cases hxy : x < y
          · rw [if_pos (by rw [decide_eq_true_eq]; exact hxy), if_pos (by rw [hdl]; omega), if_pos (by rw [hdl]; omega), if_pos (by rw [hdl]; omega), if_pos (by rw [List.length_set, hdl]; omega)]
            refine .inl ⟨_, rfl, ⟨A1, y :: B, ?_, by simp at hAB ⊢; omega, hI.step hxy⟩, by simp only []; omega⟩
            congr 1
            rw [set_mid, List.append_assoc, List.singleton_append, set_mid]
            simp
          · rw [if_neg (by rw [decide_eq_true_eq]; exact hxy)]
            exact .inr ⟨_, rfl, stop fun z hz => by simp at hz; omega⟩
      · rintro d ⟨S', rfl, h2, h3, h4⟩
        left
        exact ⟨_, rfl, ⟨i + 1, S', R, by rw [wrap_i64 (by omega) (by omega)]; rfl, h2, by omega, h3, h4⟩, by simp only []; rw [wrap_i64 (by omega) (by omega)]; omega⟩
  · cases l with
    | nil => exact absurd rfl h0
    | cons x l => exact ⟨1, [x], l, by rw [wrap_i64 (by omega) (by omega)]; rfl, rfl, Nat.le_refl 1, by simp, by simp⟩

theorem h73_lit : ∀ n : Nat, n < 13 → ∃ v, H.f73F (IntKind.u64.wrap (n : Int)) = some v := by
  have h : ∀ n : Nat, n < 13 → (H.f73F (IntKind.u64.wrap (n : Int))).isSome = true := by decide +kernel
  intro n hn
  exact Option.isSome_iff_exists.1 (h n hn)

theorem h49_ok {l : List Int} (hl : l.length ≤ 12) (h0 : l ≠ []) : ∃ r, H.f49F l = some r ∧ r.Perm l ∧ r.Pairwise (· ≤ ·) := by
  obtain ⟨v, hv⟩ := h73_lit l.length (by omega)
  obtain ⟨r, h1, h2, h3⟩ := h81_ok (l := l) (by omega) h0
  refine ⟨r, ?_, h2, h3⟩
  unfold H.f49F H.f72F
  simp only [hv, Option.bind_some]
  rw [iter_inr (e := r) (by simp only [h1, Option.bind_some]; rw [if_pos (by rw [decide_eq_true_eq, wrap_i64 (by omega) (by omega)]; omega)])]
  rfl

theorem pres_small (to : Int) : (pres strs to).length ≤ 3 := by
  have key : ∀ n : Nat, n < 1200 → (pres strs (n : Int)).length ≤ 3 := by decide +kernel
  by_cases h0 : 0 ≤ to ∧ to < 1200
  · obtain ⟨n, rfl⟩ := Int.eq_ofNat_of_zero_le h0.1
    exact key n (by omega)
  · cases hp : pres strs to with
    | nil => simp
    | cons k r =>
      exfalso
      obtain ⟨s, h1, h2, h3, h4⟩ := pres_mem.1 (show k ∈ pres strs to by rw [hp]; simp)
      have hb : ∀ s ∈ strs, 97 ≤ s.1 + s.2.2 ∧ s.2.1 + s.2.2 ≤ 1119 := by decide
      have := hb s h1
      omega

theorem pres_snoc (l : List (Int × Int × Int)) (s : Int × Int × Int) (to : Int) : pres (l ++ [s]) to = pres l to ++ (if s.1 ≤ to - s.2.2 ∧ to - s.2.2 ≤ s.2.1 then [to - s.2.2] else []) := by
  unfold pres
  rw [List.filterMap_append]
  congr 1
  simp only [List.filterMap_cons, List.filterMap_nil]
  split
  · rename_i h
    split at h
    · cases h
    · rename_i hc; rw [if_neg hc]
  · rename_i x h
    split at h
    · rename_i hc; cases h; rw [if_pos hc]
    · cases h

/-- 'Kin'. -/
theorem h29_ok (c : Int) (hc : -9223372036854775808 ≤ c ∧ c ≤ 9223372036854775807) : ∃ r, H.f29F c = some r ∧ r.Pairwise (· < ·) ∧ (∀ k, k ∈ r ↔ foldS k = foldS c) ∧ r.length ≤ 4 := by
  unfold H.f29F
  rw [h46_eq]
  simp only [h22_eq, Option.bind_some]
  have hlen : strs.length = 10 := rfl
  have hfb := foldS_bounds c
  have hid := foldS_idem c
  generalize foldS c = to at *
  refine bind_ex (iter_rule (I := fun s => ∃ i : Nat, s = ((i : Int), to :: pres (strs.take i) to) ∧ i ≤ 10) (Q := fun e => e = to :: pres strs to) (fun s => ((10 : Int) - s.1).toNat) ?_ _ ⟨0, rfl, by omega⟩) ?_
  · rintro _ ⟨i, rfl, hi⟩
    dsimp only
    rw [hlen]
    by_cases hil : i < 10
    · have hi' : i < strs.length := by rw [hlen]; exact hil
      have hg : strs.getD i (0, 0, 0) = strs[i] := by simp [List.getD_eq_getElem?_getD, hi']
      have hb := strs_bounds strs[i] (List.getElem_mem hi')
      have hpl : (pres (strs.take i) to).length ≤ 10 := Nat.le_trans (List.length_filterMap_le _ _) (by simp; omega)
      rw [if_pos (by rw [decide_eq_true_eq]; omega), if_pos (by omega), Int.toNat_natCast, hg]
      have hsn : pres (strs.take (i + 1)) to = pres (strs.take i) to ++ (if strs[i].1 ≤ to - strs[i].2.2 ∧ to - strs[i].2.2 ≤ strs[i].2.1 then [to - strs[i].2.2] else []) := by
        rw [List.take_succ_eq_append_getElem hi', pres_snoc]
      -- where it may wrap, nothing is met
      by_cases hw : -9223372036854775808 ≤ to - strs[i].2.2 ∧ to - strs[i].2.2 ≤ 9223372036854775807
      · rw [wrap_i64 hw.1 hw.2, wrap_i64 (by omega) (by omega)]
        by_cases h1 : to - strs[i].2.2 ≥ strs[i].1
        · rw [if_pos (by rw [decide_eq_true_eq]; exact h1)]
          simp only [Option.bind_some]
          by_cases h2 : to - strs[i].2.2 ≤ strs[i].2.1
          · rw [if_pos (by rw [decide_eq_true_eq]; exact h2), if_pos (by unfold roomOk; simp; omega)]
            refine .inl ⟨_, rfl, ⟨i + 1, ?_, hil⟩, by simp only []; omega⟩
            rw [hsn, if_pos ⟨h1, h2⟩]
            rfl
          · rw [if_neg (by rw [decide_eq_true_eq]; exact h2)]
            refine .inl ⟨_, rfl, ⟨i + 1, ?_, hil⟩, by simp only []; omega⟩
            rw [hsn, if_neg (fun h => h2 h.2), List.append_nil]
            rfl
        · rw [if_neg (by rw [decide_eq_true_eq]; exact h1)]
          simp only [Option.bind_some, Bool.false_eq_true, if_false]
          refine .inl ⟨_, rfl, ⟨i + 1, ?_, hil⟩, by simp only []; omega⟩
          rw [hsn, if_neg (fun h => h1 h.1), List.append_nil]
          rfl
      · -- far off
        have hnot : ¬ (strs[i].1 ≤ to - strs[i].2.2 ∧ to - strs[i].2.2 ≤ strs[i].2.1) := by omega
        have hwr : ¬ (IntKind.i64.wrap (to - strs[i].2.2) ≥ strs[i].1 ∧ IntKind.i64.wrap (to - strs[i].2.2) ≤ strs[i].2.1) := by
          simp only [IntKind.wrap, IntKind.bits, IntKind.signed, Bool.true_and]
          split <;> rename_i h <;> simp at h <;> omega
        generalize IntKind.i64.wrap (to - strs[i].2.2) = z at *
        have fin : ∃ s' : Int × List Int, some (Sum.inl (IntKind.i64.wrap ((i : Int) + 1), to :: pres (List.take i strs) to) : (Int × List Int) ⊕ List Int) = some (Sum.inl s') ∧ (∃ j : Nat, s' = ((j : Int), to :: pres (strs.take j) to) ∧ j ≤ 10) ∧ ((10 : Int) - s'.1).toNat < ((10 : Int) - i).toNat := by
          rw [wrap_i64 (by omega) (by omega)]
          refine ⟨_, rfl, ⟨i + 1, ?_, hil⟩, by simp only []; omega⟩
          rw [hsn, if_neg hnot, List.append_nil]
          rfl
        by_cases h1 : z ≥ strs[i].1
        · rw [if_pos (by rw [decide_eq_true_eq]; exact h1)]
          simp only [Option.bind_some]
          rw [if_neg (by rw [decide_eq_true_eq]; exact fun h2 => hwr ⟨h1, h2⟩)]
          exact .inl fin
        · rw [if_neg (by rw [decide_eq_true_eq]; exact h1)]
          simp only [Option.bind_some, Bool.false_eq_true, if_false]
          exact .inl fin
    · have : i = 10 := by omega
      subst this
      rw [if_neg (by rw [decide_eq_true_eq]; omega)]
      exact .inr ⟨_, rfl, rfl⟩
  · rintro _ rfl
    have hps := pres_small to
    obtain ⟨r, h1, h2, h3⟩ := h49_ok (l := to :: pres strs to) (by simp; omega) (by simp)
    have hnd : (to :: pres strs to).Nodup := by
      rw [List.nodup_cons]
      refine ⟨fun hm => ?_, (pres_rise strs_rise).imp fun h => by omega⟩
      obtain ⟨s, g1, g2, g3, g4⟩ := pres_mem.1 hm
      have := foldL_in strs_rise g1 g2 g3
      have hne : ∀ s ∈ strs, s.2.2 ≠ 0 := by decide
      have := hne s g1
      have hid' : foldL strs to = to := hid
      omega
    refine ⟨r, by simp only [h1, Option.bind_some], rise_of h3 (h2.nodup_iff.2 hnd), fun k => ?_, by rw [h2.length_eq]; simp; omega⟩
    rw [h2.mem_iff, foldS_iff, List.mem_cons]
    simp [hid]
end Go.Sx
