import Derived.Test.YtjmdfkcgglidaaaDoorSxU7
set_option linter.unusedVariables false
set_option linter.unusedSimpArgs false
namespace Go.Sx

/-- 'End'. -/
theorem f33_eq {l : List Int} (hl : l.length ≤ 100000) {i : Nat} (hi : i < l.length) : G.f33F (l, (i : Int)) = some (endOf l i) := by
  suffices h : ∃ r, G.f33F (l, (i : Int)) = some r ∧ r = endOf l i by
    obtain ⟨r, h1, rfl⟩ := h
    exact h1
  unfold G.f33F
  refine bind_ex (iter_rule (I := fun s => ∃ d k : Nat, s = ((d : Int), (k : Int)) ∧ 1 ≤ d ∧ d ≤ k ∧ k ≤ l.length ∧ scan (l.drop k) d k = endOf l i)
    (Q := fun e => Sum.elim (fun _ => (-1 : Int)) (fun v => v) e = endOf l i) (fun s => (l.length - s.2).toNat) ?_ _ ?_) ?_
  · rintro _ ⟨d, k, rfl, h1, h2, h3, h⟩
    dsimp only
    by_cases hk : k < l.length
    · have hb : (0 : Int) ≤ k ∧ (k : Int) < l.length := ⟨by omega, by omega⟩
      have hget : l.getD k 0 = l[k] := by simp [List.getD_eq_getElem?_getD, hk]
      rw [if_pos (by rw [decide_eq_true_eq]; omega), if_pos hb]
      simp only [Int.toNat_natCast, hget, Option.bind_some, f22_eq]
      rw [drop_cons hk, scan_cons] at h
      by_cases h10 : l[k] = 10
      · rw [if_pos h10] at h
        simp only [h10, bne_self_eq_false, Bool.false_eq_true, if_false]
        exact .inr ⟨_, rfl, h⟩
      · rw [if_neg h10] at h
        rw [if_pos (by rw [bne_iff_ne]; exact h10)]
        simp only [if_pos hb]
        cases ho : opens l[k] with
        | true =>
          rw [if_pos ho] at h
          have h22 : ¬ l[k] = 22 := by intro e; rw [e] at ho; simp [opens] at ho
          simp only [if_true, Option.bind_some, show (l[k] == (22 : Int)) = false by simpa using h22, Bool.false_eq_true, if_false]
          rw [wrap_i64 (by omega) (by omega), wrap_i64 (by omega) (by omega)]
          exact .inl ⟨_, rfl, ⟨d + 1, k + 1, by simp, by omega, by omega, by omega, h⟩, by simp only []; omega⟩
        | false =>
          rw [if_neg (by rw [ho]; simp)] at h
          simp only [Bool.false_eq_true, if_false, Option.bind_some]
          by_cases h22 : l[k] = 22
          · rw [if_pos h22] at h
            simp only [h22, beq_self_eq_true, if_true]
            rw [wrap_i64 (by omega) (by omega), wrap_i64 (by omega) (by omega)]
            by_cases hd : d = 1
            · rw [if_pos hd] at h
              rw [if_pos (by rw [beq_iff_eq]; omega)]
              exact .inr ⟨_, rfl, h⟩
            · rw [if_neg hd] at h
              rw [if_neg (by rw [beq_iff_eq]; omega)]
              exact .inl ⟨_, rfl, ⟨d - 1, k + 1, by simp; omega, by omega, by omega, by omega, h⟩, by simp only []; omega⟩
          · rw [if_neg h22] at h
            simp only [show (l[k] == (22 : Int)) = false by simpa using h22, Bool.false_eq_true, if_false]
            rw [wrap_i64 (by omega) (by omega)]
            exact .inl ⟨_, rfl, ⟨d, k + 1, by simp, by omega, by omega, by omega, h⟩, by simp only []; omega⟩
    · rw [if_neg (by rw [decide_eq_true_eq]; omega)]
      simp only [Option.bind_some, Bool.false_eq_true, if_false]
      rw [List.drop_of_length_le (by omega)] at h
      exact .inr ⟨_, rfl, h⟩
  · exact ⟨1, i + 1, by rw [wrap_i64 (by omega) (by omega)]; simp, by omega, by omega, by omega, rfl⟩
  · intro e he
    cases e with
    | inl u => exact ⟨_, rfl, he⟩
    | inr v => exact ⟨_, rfl, he⟩

/-- The second loop's state. -/
structure RInv (l : List Int) (k : Nat) (m : List Int) : Prop where
  len : m.length = l.length
  op : ∀ j (h : j < l.length), opens l[j] = true → j < k → m.getD j 0 = endOf l j
  no : ∀ j (h : j < l.length), opens l[j] = false → (∃ i, i < k ∧ (∃ hi : i < l.length, opens l[i] = true) ∧ endOf l i = j ∧ m.getD j 0 = i) ∨ (m.getD j 0 = -1 ∧ ∀ i (hi : i < l.length), opens l[i] = true → i < k → endOf l i ≠ j)

theorem RInv.done {l m : List Int} (h : RInv l l.length m) : IsMatch l m where
  len := h.len
  op := fun j hj ho => h.op j hj ho hj
  no := fun j hj ho => by
    rcases h.no j hj ho with ⟨i, h1, h2, h3, h4⟩ | ⟨h1, h2⟩
    · refine .inl ⟨i, ?_, h2, h3, h4⟩
      rcases endOf_gt l i with h5 | h5 <;> omega
    · exact .inr ⟨h1, fun i hi ho' => h2 i hi ho' hi⟩

theorem RInv.pass {l m : List Int} {k : Nat} (h : RInv l k m) (hk : k < l.length) (ho : opens l[k] = false) : RInv l (k + 1) m where
  len := h.len
  op := fun j hj hoj hlt => h.op j hj hoj (by
    rcases Nat.lt_or_ge j k with h1 | h1
    · exact h1
    · have : j = k := by omega
      subst this
      rw [ho] at hoj; cases hoj)
  no := fun j hj hoj => by
    rcases h.no j hj hoj with ⟨i, h1, h2, h3, h4⟩ | ⟨h1, h2⟩
    · exact .inl ⟨i, by omega, h2, h3, h4⟩
    · refine .inr ⟨h1, fun i hi hoi hlt => h2 i hi hoi ?_⟩
      rcases Nat.lt_or_ge i k with h3 | h3
      · exact h3
      · have : i = k := by omega
        subst this
        rw [ho] at hoi; cases hoi

theorem RInv.lost {l m : List Int} {k : Nat} (h : RInv l k m) (hk : k < l.length) (ho : opens l[k] = true) (he : endOf l k < 0) : RInv l (k + 1) (m.set k (endOf l k)) where
  len := by simp [h.len]
  op := fun j hj hoj hlt => by
    rw [getD_set _ _ _ _ (by rw [h.len]; exact hk)]
    split
    · rename_i e; subst e; rfl
    · exact h.op j hj hoj (by omega)
  no := fun j hj hoj => by
    have hjk : ¬ k = j := by intro e; subst e; rw [ho] at hoj; cases hoj
    rw [getD_set _ _ _ _ (by rw [h.len]; exact hk), if_neg hjk]
    rcases h.no j hj hoj with ⟨i, h1, h2, h3, h4⟩ | ⟨h1, h2⟩
    · exact .inl ⟨i, by omega, h2, h3, h4⟩
    · refine .inr ⟨h1, fun i hi hoi hlt => ?_⟩
      rcases Nat.lt_or_ge i k with h3 | h3
      · exact h2 i hi hoi h3
      · have : i = k := by omega
        subst this
        omega

theorem RInv.found {l m : List Int} {k e : Nat} (h : RInv l k m) (hk : k < l.length) (ho : opens l[k] = true) (he : endOf l k = e) (hel : e < l.length) : RInv l (k + 1) ((m.set k (endOf l k)).set e (k : Int)) where
  len := by simp [h.len]
  op := fun j hj hoj hlt => by
    have h22 : l[e]? = some 22 := endOf_at he
    have hej : ¬ e = j := by
      intro e'
      subst e'
      rw [List.getElem?_eq_getElem hj] at h22
      have : l[e] = 22 := by simpa using h22
      rw [this] at hoj
      simp [opens] at hoj
    rw [getD_set _ _ _ _ (by simp [h.len]; exact hel), if_neg hej, getD_set _ _ _ _ (by rw [h.len]; exact hk)]
    split
    · rename_i e'; subst e'; rfl
    · exact h.op j hj hoj (by omega)
  no := fun j hj hoj => by
    have hjk : ¬ k = j := by intro e'; subst e'; rw [ho] at hoj; cases hoj
    rw [getD_set _ _ _ _ (by simp [h.len]; exact hel)]
    by_cases hej : e = j
    · subst hej
      rw [if_pos rfl]
      exact .inl ⟨k, by omega, ⟨hk, ho⟩, he, rfl⟩
    · rw [if_neg hej, getD_set _ _ _ _ (by rw [h.len]; exact hk), if_neg hjk]
      rcases h.no j hj hoj with ⟨i, h1, h2, h3, h4⟩ | ⟨h1, h2⟩
      · exact .inl ⟨i, by omega, h2, h3, h4⟩
      · refine .inr ⟨h1, fun i hi hoi hlt => ?_⟩
        rcases Nat.lt_or_ge i k with h3 | h3
        · exact h2 i hi hoi h3
        · have : i = k := by omega
          subst this
          omega

/-- 'ref.Match'. -/
theorem f15_eq {l : List Int} (hl : l.length ≤ 100000) : G.f15F l = some (matchS l) := by
  suffices h : ∃ m, G.f15F l = some m ∧ IsMatch l m by
    obtain ⟨m, h1, h2⟩ := h
    rw [h1, h2.unique (matchS_ok l)]
  unfold G.f15F
  rw [if_pos (by refine ⟨by omega, Int.le_refl _, ?_⟩; unfold roomOk; simp; omega)]
  refine bind_ex (iter_rule (I := fun s => ∃ (k : Nat) (m : List Int), s = ((k : Int), m) ∧ m.length = l.length ∧ k ≤ l.length ∧ ∀ j, j < k → m.getD j 0 = -1)
    (Q := fun m => m.length = l.length ∧ ∀ j, j < l.length → m.getD j 0 = -1) (fun s => (l.length - s.1).toNat) ?_ _ ?_) ?_
  · rintro _ ⟨k, m, rfl, h1, h2, h3⟩
    dsimp only
    by_cases hk : k < l.length
    · rw [if_pos (by rw [decide_eq_true_eq]; omega), if_pos (by omega), wrap_i64 (by omega) (by omega)]
      refine .inl ⟨_, rfl, ⟨k + 1, _, rfl, by simp [h1], by omega, fun j hj => ?_⟩, by simp only []; omega⟩
      simp only [Int.toNat_natCast]
      rw [getD_set _ _ _ _ (by omega)]
      split
      · rfl
      · exact h3 j (by omega)
    · rw [if_neg (by rw [decide_eq_true_eq]; omega)]
      exact .inr ⟨_, rfl, h1, fun j hj => h3 j (by omega)⟩
  · exact ⟨0, _, rfl, by simp, Nat.zero_le _, fun j hj => by omega⟩
  · intro m0 ⟨hm1, hm2⟩
    refine bind_ex (iter_rule (I := fun s => ∃ (k : Nat) (m : List Int), s = ((k : Int), m) ∧ k ≤ l.length ∧ RInv l k m)
      (Q := fun m => IsMatch l m) (fun s => (l.length - s.1).toNat) ?_ _ ?_) fun m hm => ⟨m, rfl, hm⟩
    · rintro _ ⟨k, m, rfl, h2, h⟩
      dsimp only
      by_cases hk : k < l.length
      · have hget : l.getD k 0 = l[k] := by simp [List.getD_eq_getElem?_getD, hk]
        rw [if_pos (by rw [decide_eq_true_eq]; omega), if_pos (by omega)]
        have hwr : IntKind.i64.wrap ((k : Int) + 1) = ((k + 1 : Nat) : Int) := by rw [wrap_i64 (by omega) (by omega)]; rfl
        simp only [Int.toNat_natCast, hget, f22_eq, Option.bind_some, f33_eq hl hk, hwr]
        cases ho : opens l[k] with
        | false =>
          simp only [Bool.false_eq_true, if_false]
          exact .inl ⟨_, rfl, ⟨k + 1, _, rfl, by omega, h.pass hk ho⟩, by simp only []; omega⟩
        | true =>
          simp only [if_true]
          rw [if_pos (by rw [h.len]; omega)]
          by_cases he : endOf l k ≥ 0
          · rcases endOf_gt l k with h4 | h4
            · omega
            · rw [if_pos (by rw [decide_eq_true_eq]; exact he), if_pos (by rw [List.length_set, h.len]; omega)]
              obtain ⟨e, hee⟩ := Int.eq_ofNat_of_zero_le he
              refine .inl ⟨_, rfl, ⟨k + 1, _, rfl, by omega, ?_⟩, by simp only []; omega⟩
              have := h.found hk ho hee (by omega)
              rw [hee] at this ⊢
              simpa using this
          · rw [if_neg (by rw [decide_eq_true_eq]; exact he)]
            exact .inl ⟨_, rfl, ⟨k + 1, _, rfl, by omega, h.lost hk ho (by omega)⟩, by simp only []; omega⟩
      · have : k = l.length := by omega
        subst this
        rw [if_neg (by rw [decide_eq_true_eq]; omega)]
        exact .inr ⟨_, rfl, h.done⟩
    · exact ⟨0, _, rfl, Nat.zero_le _, hm1, fun j _ _ hj => by omega, fun j hj _ => .inr ⟨hm2 j hj, fun i _ _ hi => by omega⟩⟩

/-- 'Word'. -/
theorem f31_eq (c : Int) : ∃ b, G.f31F c = some b ∧ (b.toList == (⟨#[]⟩ : ByteArray).toList) = decide (c < 0 ∨ 23 ≤ c) := by
  unfold G.f31F
  by_cases h0 : c < 0
  · simp [h0, toList_data]
  · by_cases h1 : 23 ≤ c
    · simp [h0, h1, toList_data]
    · have key : ∀ n : Nat, n < 23 → ((G.words.getD n ByteArray.empty).data.toList == []) = false := by decide +kernel
      obtain ⟨n, rfl⟩ := Int.eq_ofNat_of_zero_le (Int.not_lt.1 h0)
      have hn : n < 23 := by omega
      refine ⟨G.words.getD n ByteArray.empty, ?_, ?_⟩
      · rw [if_neg (by simp)]
        simp only [Option.bind_some]
        rw [if_neg (by simp; omega), if_pos (by simp; omega)]
        rfl
      · rw [toList_data, toList_data, key n hn]
        symm
        rw [decide_eq_false_iff_not]
        omega

/-- 'ref.First'. -/
theorem f17_eq {l : List Int} (hl : l.length ≤ 100000) (from_ to : Int) : G.f17F (l, from_, to) = some (firstS l to from_.toNat) := by
  suffices h : ∃ r, G.f17F (l, from_, to) = some r ∧ r = firstS l to from_.toNat by
    obtain ⟨r, h1, rfl⟩ := h
    exact h1
  obtain ⟨R, hR⟩ : ∃ R, firstS l to from_.toNat = R := ⟨_, rfl⟩
  rw [hR]
  unfold G.f17F
  refine bind_ex (iter_rule (I := fun (s : Int) => ∃ i : Nat, s = (i : Int) ∧ firstS l to i = R) (Q := fun e => Sum.elim (fun _ => (-1 : Int)) (fun v => v) e = R)
    (fun (s : Int) => ((l.length : Int) - s).toNat) ?_ _ ?_) ?_
  · rintro _ ⟨i, rfl, h⟩
    dsimp only
    have hmin : ((i : Int) < minI to l.length) ↔ (i : Int) < to ∧ i < l.length := by
      unfold minI
      split <;> omega
    by_cases hi : i < l.length
    · have hb : (0 : Int) ≤ i ∧ (i : Int) < l.length := ⟨by omega, by omega⟩
      have hget : l.getD i 0 = l[i] := by simp [List.getD_eq_getElem?_getD, hi]
      have hwr : IntKind.i64.wrap ((i : Int) + 1) = ((i + 1 : Nat) : Int) := by rw [wrap_i64 (by omega) (by omega)]; rfl
      by_cases hto : (i : Int) < to
      · have hmin' : (i : Int) < minI to l.length := hmin.2 ⟨hto, hi⟩
        obtain ⟨b, hb1, hb2⟩ := f31_eq l[i]
        rw [if_pos (decide_eq_true hmin'), if_pos hb]
        simp only [if_pos hb, Int.toNat_natCast, hget, Option.bind_some, f22_eq, hwr, f33_eq hl hi, hb1, hb2]
        unfold firstS at h
        rw [dif_pos hi, if_pos hto] at h
        by_cases h10 : l[i] = 10
        · rw [if_pos h10] at h
          simp only [h10, beq_self_eq_true, if_true]
          exact .inr ⟨_, rfl, h⟩
        · rw [if_neg h10] at h
          rw [if_neg (by rw [beq_iff_eq]; exact h10)]
          cases ho : opens l[i] with
          | true =>
            rw [if_pos ho] at h
            simp only [if_true]
            by_cases he : endOf l i = -1
            · rw [dif_pos he] at h
              simp only [he]
              exact .inr ⟨_, rfl, h⟩
            · rw [dif_neg he] at h
              have hgt := endOf_gt l i
              rw [if_neg (by rw [decide_eq_true_eq]; omega)]
              simp only [Option.bind_some]
              by_cases hge : endOf l i ≥ to
              · rw [if_pos (by rw [decide_eq_true_eq]; exact hge)]
                refine .inr ⟨_, rfl, ?_⟩
                rw [firstS_none _ _ _ (by omega)] at h
                exact h
              · rw [if_neg (by rw [decide_eq_true_eq]; exact hge), wrap_i64 (by omega) (by omega)]
                exact .inl ⟨_, rfl, ⟨(endOf l i).toNat + 1, by omega, h⟩, by omega⟩
          | false =>
            rw [if_neg (by rw [ho]; simp)] at h
            simp only [Bool.false_eq_true, if_false]
            have hst : ∀ v, strongS l[i] = v → v ≠ -1 → v = R := fun v e hv => by rw [if_neg (by rw [e]; exact hv), e] at h; exact h
            by_cases h1 : l[i] = 1
            · simp only [h1, beq_self_eq_true, if_true, Option.bind_some]
              exact .inr ⟨_, rfl, hst 1 (by unfold strongS; rw [if_pos (.inl h1)]) (by omega)⟩
            · simp only [show (l[i] == (1 : Int)) = false by simpa using h1, Bool.false_eq_true, if_false, Option.bind_some]
              by_cases h2 : l[i] = 2
              · simp only [h2, beq_self_eq_true, if_true]
                exact .inr ⟨_, rfl, hst 1 (by unfold strongS; rw [if_pos (.inr h2)]) (by omega)⟩
              · simp only [show (l[i] == (2 : Int)) = false by simpa using h2, Bool.false_eq_true, if_false]
                have h12 : ¬ (l[i] = 1 ∨ l[i] = 2) := by omega
                by_cases h3 : l[i] = 0
                · simp only [h3, beq_self_eq_true, if_true, Option.bind_some]
                  exact .inr ⟨_, rfl, hst 0 (by unfold strongS; rw [if_neg h12, if_pos (.inl h3)]) (by omega)⟩
                · simp only [show (l[i] == (0 : Int)) = false by simpa using h3, Bool.false_eq_true, if_false, Option.bind_some]
                  by_cases h4 : l[i] < 0 ∨ 23 ≤ l[i]
                  · rw [if_pos (by rw [decide_eq_true_eq]; exact h4)]
                    exact .inr ⟨_, rfl, hst 0 (by unfold strongS; rw [if_neg h12, if_pos (.inr h4)]) (by omega)⟩
                  · rw [if_pos (by unfold strongS; rw [if_neg h12, if_neg (by omega)])] at h
                    rw [if_neg (by rw [decide_eq_true_eq]; exact h4)]
                    exact .inl ⟨_, rfl, ⟨i + 1, rfl, h⟩, by omega⟩
      · unfold firstS at h
        rw [dif_pos hi, if_neg hto] at h
        have hno : ¬ (i : Int) < minI to l.length := fun h' => hto (hmin.1 h').1
        rw [if_neg (by simpa using hno)]
        exact .inr ⟨_, rfl, h⟩
    · unfold firstS at h
      rw [dif_neg hi] at h
      have hno : ¬ (i : Int) < minI to l.length := fun h' => hi (hmin.1 h').2
      rw [if_neg (by simpa using hno)]
      exact .inr ⟨_, rfl, h⟩
  · refine ⟨from_.toNat, ?_, hR⟩
    dsimp only
    split <;> omega
  · intro e he
    cases e with
    | inl u => exact ⟨_, rfl, he⟩
    | inr v => exact ⟨_, rfl, he⟩

theorem f19_eq {l : List Int} (hl : l.length ≤ 100000) (dir : Int) : G.f19F (l, dir) = some (levelS l dir) := by
  unfold G.f19F levelS
  simp only [f17_eq hl, Option.bind_some, max0]
  by_cases h1 : dir = 1
  · subst h1; simp
  · by_cases h2 : dir = 2
    · subst h2; simp
    · simp [h1, h2]

theorem f21_eq {l : List Int} (hl : l.length ≤ 100000) (i : Int) : G.f21F (l, i) = some (isoS l i) := by
  unfold G.f21F
  by_cases h0 : i < 0
  · simp [isoS, h0]
  · by_cases h1 : (l.length : Int) ≤ i
    · simp [isoS, h0, h1]
    · have hb : (0 : Int) ≤ i ∧ i < l.length := by omega
      have hi : i.toNat < l.length := by omega
      rw [if_neg (by simpa using h0)]
      simp only [Option.bind_some]
      rw [if_neg (by rw [decide_eq_true_eq]; omega), if_pos hb]
      unfold isoS
      by_cases h19 : l.getD i.toNat 0 = 19
      · rw [if_pos (by rw [beq_iff_eq]; exact h19), h19, if_neg (by simp [opens]; omega), if_pos (by omega)]
        rfl
      · rw [if_neg (by rw [beq_iff_eq]; exact h19)]
        by_cases h20 : l.getD i.toNat 0 = 20
        · rw [if_pos (by rw [beq_iff_eq]; exact h20), h20, if_neg (by simp [opens]; omega), if_pos (by omega)]
          rfl
        · rw [if_neg (by rw [beq_iff_eq]; exact h20)]
          by_cases h21 : l.getD i.toNat 0 = 21
          · rw [if_pos (by rw [beq_iff_eq]; exact h21), h21, if_neg (by simp [opens]; omega), if_neg (by omega)]
            have e : G.f33F (l, i) = some (endOf l i.toNat) := by
              have := f33_eq hl hi
              rwa [Int.toNat_of_nonneg hb.1] at this
            have hn : (IntKind.i64.wrap (i + 1)).toNat = i.toNat + 1 := by rw [wrap_i64 (by omega) (by omega)]; omega
            simp only [e, Option.bind_some]
            have hgt := endOf_gt l i.toNat
            by_cases he : endOf l i.toNat = -1
            · rw [if_pos (by rw [decide_eq_true_eq]; omega), if_pos he]
              simp only [Option.bind_some, f17_eq hl, hn, max0]
            · rw [if_neg (by rw [decide_eq_true_eq]; omega), if_neg he]
              simp only [Option.bind_some, f17_eq hl, hn, max0]
          · rw [if_neg (by rw [beq_iff_eq]; exact h21), if_pos]
            refine .inr (.inr ?_)
            unfold opens
            simp only [Bool.or_eq_false_iff, beq_eq_false_iff_ne]
            exact ⟨⟨h19, h20⟩, h21⟩

theorem baseAnswers_pure (x : List Int × List Int) (h : wfTup [.sl (.int .i64), .arr 3 (.int .i64)] x) : G.f3F x = some true := by
  obtain ⟨l, three⟩ := x
  unfold G.f3F
  rw [alive]
  simp only [Option.bind_some, Bool.not_true, Bool.false_eq_true, if_false]
  by_cases hlen : (l.length : Int) > 500
  · rw [if_pos (by simpa using hlen)]
  · rw [if_neg (by simpa using hlen)]
    have hl' : l.length ≤ 100000 := by omega
    have e0 : (0 : Int) ≤ 0 ∧ (0 : Int) < ((3 : Nat) : Int) := by decide
    have e1 : (0 : Int) ≤ 1 ∧ (1 : Int) < ((3 : Nat) : Int) := by decide
    have e2 : (0 : Int) ≤ 2 ∧ (2 : Int) < ((3 : Nat) : Int) := by decide
    simp only [f14_eq hl', f15_eq hl', Option.bind_some, f13_eq (matchS l) (matchS l) (by simp [matchS]; omega), decide_true, if_true, if_pos e0, if_pos e1, if_pos e2, f16_eq hl', f17_eq hl', beq_self_eq_true, f18_eq hl', f19_eq hl', f20_eq hl', f21_eq hl']
end Go.Sx
