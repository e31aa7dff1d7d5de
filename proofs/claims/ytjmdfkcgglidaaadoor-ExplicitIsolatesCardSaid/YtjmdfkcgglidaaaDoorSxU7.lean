import Derived.Test.YtjmdfkcgglidaaaDoorSxU6
set_option linter.unusedVariables false
set_option linter.unusedSimpArgs false
namespace Go.Sx

theorem f22_eq (c : Int) : G.f22F c = some (opens c) := by
  unfold G.f22F opens
  by_cases h1 : c = 19
  · subst h1; rfl
  · by_cases h2 : c = 20
    · subst h2; rfl
    · simp [h1, h2]

/-- Less deep, it ends earlier. -/
theorem scan_less : ∀ (l : List Int) (d e k : Nat), 1 ≤ d → d < e → 0 ≤ scan l e k → 0 ≤ scan l d k ∧ scan l d k < scan l e k
  | [], d, e, k, _, _, h => by simp [scan] at h
  | c :: l, d, e, k, h1, h2, h => by
    rw [scan_cons] at h
    rw [scan_cons, scan_cons c l e k]
    split
    · rename_i hc; rw [if_pos hc] at h; omega
    · rename_i hc
      rw [if_neg hc] at h
      split
      · rename_i ho
        rw [if_pos ho] at h
        exact scan_less l _ _ _ (by omega) (by omega) h
      · rename_i ho
        rw [if_neg ho] at h
        split
        · rename_i hp
          rw [if_pos hp, if_neg (by omega)] at h
          rw [if_neg (show ¬ e = 1 by omega)]
          split
          · rcases scan_ge l (e - 1) (k + 1) with h3 | h3 <;> omega
          · exact scan_less l _ _ _ (by omega) (by omega) h
        · rename_i hp
          rw [if_neg hp] at h
          exact scan_less l _ _ _ h1 h2 h

theorem scan_no10 : ∀ (i : Nat) (l : List Int) (d k : Nat), 1 ≤ d → ((k + i : Nat) : Int) < scan l d k → ∃ c, l[i]? = some c ∧ c ≠ 10
  | i, [], d, k, _, h => by simp [scan] at h; omega
  | 0, c :: l, d, k, _, h => by
    refine ⟨c, rfl, fun hc => ?_⟩
    rw [scan_cons, if_pos hc] at h
    omega
  | i + 1, c :: l, d, k, hd, h => by
    have e : k + (i + 1) = k + 1 + i := by omega
    rw [e, scan_cons] at h
    simp only [List.getElem?_cons_succ]
    split at h
    · omega
    · split at h
      · exact scan_no10 i l _ _ (by omega) h
      · split at h
        · split at h
          · omega
          · exact scan_no10 i l _ _ (by omega) h
        · exact scan_no10 i l _ _ hd h

theorem endOf_no10 {l : List Int} {i j : Nat} (hij : i < j) (h : (j : Int) < endOf l i) : l.getD j 0 ≠ 10 := by
  unfold endOf at h
  obtain ⟨c, h1, h2⟩ := scan_no10 (j - (i + 1)) (l.drop (i + 1)) 1 (i + 1) (Nat.le_refl 1) (by rw [show i + 1 + (j - (i + 1)) = j by omega]; exact h)
  rw [List.getElem?_drop, show i + 1 + (j - (i + 1)) = j by omega] at h1
  rw [List.getD_eq_getElem?_getD, h1]
  exact h2

theorem endOf_nest {l : List Int} {i j : Nat} (hij : i < j) (hj : j < l.length) (ho : opens l[j] = true) (h : (j : Int) < endOf l i) : 0 ≤ endOf l j ∧ endOf l j < endOf l i := by
  unfold endOf at h ⊢
  obtain ⟨d, hd, e⟩ := scan_pass (j - (i + 1)) (l.drop (i + 1)) 1 (i + 1) (Nat.le_refl 1) (by omega)
  rw [List.drop_drop, show i + 1 + (j - (i + 1)) = j by omega, drop_cons hj] at e
  have h10 : ¬ l[j] = 10 := by intro e; rw [e] at ho; simp [opens] at ho
  rw [scan_cons, if_neg h10, if_pos ho] at e
  rw [e] at h ⊢
  exact scan_less _ _ _ _ (Nat.le_refl 1) (by omega) (by omega)

/-- Two places that belong together. -/
theorem matchS_pair {l : List Int} {i : Nat} (hi : i < l.length) (h : 0 ≤ (matchS l).getD i 0) :
    ∃ a b : Nat, a < b ∧ b < l.length ∧ (∃ ha : a < l.length, opens l[a] = true) ∧ l.getD b 0 = 22 ∧ endOf l a = b ∧ (matchS l).getD a 0 = b ∧ (matchS l).getD b 0 = a ∧
      ((i = a ∧ (matchS l).getD i 0 = b ∧ opens (l.getD i 0) = true) ∨ (i = b ∧ (matchS l).getD i 0 = a ∧ opens (l.getD i 0) = false)) := by
  have hm := matchS_ok l
  have hg : ∀ j (hj : j < l.length), l.getD j 0 = l[j] := fun j hj => by simp [List.getD_eq_getElem?_getD, hj]
  cases ho : opens l[i] with
  | true =>
    have h1 := hm.op i hi ho
    rw [h1] at h
    rcases endOf_gt l i with h2 | h2
    · omega
    · obtain ⟨b, hb⟩ := Int.eq_ofNat_of_zero_le h
      have hbl : b < l.length := by omega
      have h22 := endOf_at hb
      have h22' : l[b] = 22 := by rw [List.getElem?_eq_getElem hbl] at h22; simpa using h22
      have hmb : (matchS l).getD b 0 = i := by
        rcases hm.no b hbl (by rw [h22']; rfl) with ⟨j, _, ⟨j2, j3⟩, j4, j5⟩ | ⟨_, j2⟩
        · rw [j5, endOf_inj j2 hi j3 ho j4 hb]
        · exact absurd hb (j2 i hi ho)
      exact ⟨i, b, by omega, hbl, ⟨hi, ho⟩, by rw [hg b hbl, h22'], hb, by rw [h1, hb], hmb, .inl ⟨rfl, by rw [h1, hb], by rw [hg i hi]; exact ho⟩⟩
  | false =>
    rcases hm.no i hi ho with ⟨j, j1, ⟨j2, j3⟩, j4, j5⟩ | ⟨j1, _⟩
    · have h22 := endOf_at j4
      exact ⟨j, i, j1, hi, ⟨j2, j3⟩, by rw [List.getD_eq_getElem?_getD, h22]; rfl, j4, by rw [hm.op j j2 j3, j4], j5, .inr ⟨rfl, j5, by rw [hg i hi]; exact ho⟩⟩
    · rw [j1] at h
      omega

theorem matchS_within {l : List Int} {a b j : Nat} (hab : endOf l a = b) (ha : a < l.length) (hoa : opens l[a] = true) (h1 : a < j) (h2 : j < b) (hj : j < l.length) :
    (matchS l).getD j 0 < 0 ∨ ((a : Int) ≤ (matchS l).getD j 0 ∧ (matchS l).getD j 0 ≤ b) := by
  have hm := matchS_ok l
  cases ho : opens l[j] with
  | true =>
    rw [hm.op j hj ho]
    have := endOf_nest h1 hj ho (by rw [hab]; omega)
    rcases endOf_gt l j with h3 | h3
    · omega
    · right; omega
  | false =>
    rcases hm.no j hj ho with ⟨j', j1, ⟨j2, j3⟩, j4, j5⟩ | ⟨j1, _⟩
    · right
      rw [j5]
      refine ⟨?_, by omega⟩
      rcases Nat.lt_or_ge j' a with h3 | h3
      · have := endOf_nest h3 ha hoa (by rw [j4]; omega)
        omega
      · omega
    · left; rw [j1]; omega

theorem basePairs_pure (l : List Int) (h : wfTup [.sl (.int .i64)] l) : G.f4F l = some true := by
  unfold G.f4F
  rw [alive]
  simp only [Option.bind_some, Bool.not_true, Bool.false_eq_true, if_false]
  by_cases hlen : (l.length : Int) > 500
  · rw [if_pos (by simpa using hlen)]
  · rw [if_neg (by simpa using hlen)]
    have hl : l.length ≤ 100000 := by omega
    have hm := matchS_ok l
    simp only [f14_eq hl, Option.bind_some]
    rw [if_neg (by simp [hm.len])]
    suffices hh : ∃ r, _ = some r ∧ r = true by
      obtain ⟨r, h1, rfl⟩ := hh
      exact h1
    refine bind_ex (iter_rule (I := fun (s : Int) => ∃ i : Nat, s = (i : Int)) (Q := fun e => e = .inl ()) (fun (s : Int) => ((l.length : Int) - s).toNat) ?_ _ ⟨0, rfl⟩) ?_
    · rintro _ ⟨i, rfl⟩
      by_cases hi : i < l.length
      · have hb : (0 : Int) ≤ i ∧ (i : Int) < l.length := by omega
        have hbm : (0 : Int) ≤ i ∧ (i : Int) < (matchS l).length := by rw [hm.len]; exact hb
        have hw : IntKind.i64.wrap ((i : Int) + 1) = ((i + 1 : Nat) : Int) := by rw [wrap_i64 (by omega) (by omega)]; rfl
        rw [if_pos (by simp; omega), if_pos hbm]
        simp only [Int.toNat_natCast, hw, f22_eq, Option.bind_some]
        by_cases hneg : (matchS l).getD i 0 < 0
        · rw [if_pos (by simpa using hneg)]
          exact .inl ⟨_, rfl, ⟨i + 1, rfl⟩, by omega⟩
        · rw [if_neg (by simpa using hneg)]
          obtain ⟨a, b, hab, hbl, ⟨hal, hoa⟩, h22, hend, hma, hmb, hcase⟩ := matchS_pair hi (by omega)
          have hga : l.getD a 0 = l[a] := by simp [List.getD_eq_getElem?_getD, hal]
          have hmax : maxI (i : Int) ((matchS l).getD i 0) = b := by
            unfold maxI
            rcases hcase with ⟨rfl, h2, _⟩ | ⟨rfl, h2, _⟩ <;> rw [h2] <;> split <;> omega
          have hmin : minI (i : Int) ((matchS l).getD i 0) = a := by
            unfold minI
            rcases hcase with ⟨rfl, h2, _⟩ | ⟨rfl, h2, _⟩ <;> rw [h2] <;> split <;> omega
          have hk : 0 ≤ (matchS l).getD i 0 ∧ (matchS l).getD i 0 < l.length := by
            rcases hcase with ⟨rfl, h2, _⟩ | ⟨rfl, h2, _⟩ <;> rw [h2] <;> omega
          have hback : (matchS l).getD ((matchS l).getD i 0).toNat 0 = i := by
            rcases hcase with ⟨rfl, h2, _⟩ | ⟨rfl, h2, _⟩ <;> rw [h2, Int.toNat_natCast] <;> assumption
          have hdir : opens (l.getD i 0) = decide ((matchS l).getD i 0 > i) := by
            rcases hcase with ⟨rfl, h2, h3⟩ | ⟨rfl, h2, h3⟩ <;> rw [h2, h3] <;> simp <;> omega
          simp only [hmax, hmin, Int.toNat_natCast, h22, hga, hoa, hback]
          rw [if_neg (by rw [decide_eq_true_eq]; omega), if_pos (by rw [hm.len]; exact hk), if_neg (by simp), if_pos hb, if_neg (by rw [hdir]; simp), if_pos (by omega), if_neg (by simp), if_pos (by omega)]
          simp only [Bool.not_true, Option.bind_some, Bool.false_eq_true, if_false]
          have hw2 : IntKind.i64.wrap ((a : Int) + 1) = ((a + 1 : Nat) : Int) := by rw [wrap_i64 (by omega) (by omega)]; rfl
          rw [hw2]
          refine stp_bind (iter_rule (I := fun (s : Int) => ∃ j : Nat, s = (j : Int) ∧ a < j) (Q := fun e => e = .inl ()) (fun (s : Int) => ((l.length : Int) - s).toNat) ?_ _ ⟨a + 1, rfl, by omega⟩) ?_
          · rintro _ ⟨j, rfl, haj⟩
            by_cases hjb : j < b
            · have hjl : j < l.length := by omega
              have hw3 : IntKind.i64.wrap ((j : Int) + 1) = ((j + 1 : Nat) : Int) := by rw [wrap_i64 (by omega) (by omega)]; rfl
              rw [if_pos (by rw [decide_eq_true_eq]; omega), if_pos (by omega)]
              simp only [Int.toNat_natCast]
              rw [if_neg (by simpa using endOf_no10 haj (by rw [hend]; omega)), if_pos (by rw [hm.len]; omega)]
              have hwi := matchS_within hend hal hoa haj hjb hjl
              by_cases hjn : 0 ≤ (matchS l).getD j 0
              · rw [if_pos (by rw [decide_eq_true_eq]; omega), if_pos (by rw [hm.len]; omega), if_neg (by rw [decide_eq_true_eq]; omega), if_pos (by rw [hm.len]; omega)]
                simp only [Option.bind_some]
                rw [if_neg (by rw [decide_eq_true_eq]; omega), hw3]
                exact .inl ⟨_, rfl, ⟨j + 1, rfl, by omega⟩, by omega⟩
              · rw [if_neg (by rw [decide_eq_true_eq]; omega)]
                simp only [Option.bind_some, Bool.false_eq_true, if_false, hw3]
                exact .inl ⟨_, rfl, ⟨j + 1, rfl, by omega⟩, by omega⟩
            · rw [if_neg (by rw [decide_eq_true_eq]; omega)]
              exact .inr ⟨_, rfl, rfl⟩
          · rintro e rfl
            exact .inl ⟨_, rfl, ⟨i + 1, rfl⟩, by omega⟩
      · rw [if_neg (by simp; omega)]
        exact .inr ⟨_, rfl, rfl⟩
    · rintro e rfl
      exact ⟨_, rfl, rfl⟩
end Go.Sx
