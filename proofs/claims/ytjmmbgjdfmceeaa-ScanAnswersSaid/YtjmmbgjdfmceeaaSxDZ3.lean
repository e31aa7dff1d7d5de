/- Sorting: parts around a pivot. -/
import Derived.Test.YtjmmbgjdfmceeaaSxDZ2
set_option linter.unusedVariables false
set_option linter.unusedSimpArgs false
namespace Go.Sx
theorem scan_up {f : Int × List Int → Option ((Int × List Int) ⊕ (Int × List Int))} {l : List Int} {j : Nat} (p : Nat → Bool)
    (hf : ∀ i : Nat, i ≤ j → f ((i : Int), l) = if p i = true then some (.inl (((i + 1 : Nat) : Int), l)) else some (.inr ((i : Int), l)))
    (hs : ∀ i : Nat, j < i → f ((i : Int), l) = some (.inr ((i : Int), l))) (i0 : Nat) (h0 : i0 ≤ j + 1) :
    ∃ i : Nat, iter f ((i0 : Int), l) = some ((i : Int), l) ∧ i0 ≤ i ∧ i ≤ j + 1 ∧ (∀ k, i0 ≤ k → k < i → p k = true) ∧ (i ≤ j → p i = false) := by
  suffices key : ∀ n i0, j + 1 - i0 = n → i0 ≤ j + 1 → ∃ i : Nat, iter f ((i0 : Int), l) = some ((i : Int), l) ∧ i0 ≤ i ∧ i ≤ j + 1 ∧ (∀ k, i0 ≤ k → k < i → p k = true) ∧ (i ≤ j → p i = false) from key _ i0 rfl h0
  intro n
  induction n with
  | zero =>
    intro i0 hn h0
    exact ⟨i0, iter_inr (hs i0 (by omega)), Nat.le_refl _, h0, fun k h1 h2 => by omega, fun h => by omega⟩
  | succ n ih =>
    intro i0 hn h0
    have hij : i0 ≤ j := by omega
    have h := hf i0 hij
    cases hp : p i0 with
    | false =>
      rw [hp, if_neg (by simp)] at h
      exact ⟨i0, iter_inr h, Nat.le_refl _, h0, fun k h1 h2 => by omega, fun _ => hp⟩
    | true =>
      rw [hp, if_pos rfl] at h
      obtain ⟨i, e1, e2, e3, e4, e5⟩ := ih (i0 + 1) (by omega) (by omega)
      refine ⟨i, by rw [iter_inl h]; exact e1, by omega, e3, fun k h1 h2 => ?_, e5⟩
      by_cases hk : k = i0
      · subst hk; exact hp
      · exact e4 k (by omega) h2
theorem scan_down {f : Int × List Int → Option ((Int × List Int) ⊕ (Int × List Int))} {l : List Int} {i J : Nat} (p : Nat → Bool) (hi : 1 ≤ i)
    (hf : ∀ j : Nat, i ≤ j → j ≤ J → f ((j : Int), l) = if p j = true then some (.inl (((j - 1 : Nat) : Int), l)) else some (.inr ((j : Int), l)))
    (hs : ∀ j : Nat, j < i → f ((j : Int), l) = some (.inr ((j : Int), l))) : ∀ (j0 : Nat) (h0 : i ≤ j0 + 1) (hJ : j0 ≤ J),
    ∃ j : Nat, iter f ((j0 : Int), l) = some ((j : Int), l) ∧ j ≤ j0 ∧ i ≤ j + 1 ∧ (∀ k, j < k → k ≤ j0 → p k = true) ∧ (i ≤ j → p j = false) := by
  intro j0
  induction j0 with
  | zero => intro h0 _; exact ⟨0, iter_inr (hs 0 (by omega)), Nat.le_refl _, h0, fun k h1 h2 => by omega, fun h => by omega⟩
  | succ j0 ih =>
    intro h0 hJ
    by_cases hij : i ≤ j0 + 1
    · have h := hf (j0 + 1) hij hJ
      cases hp : p (j0 + 1) with
      | false =>
        rw [hp, if_neg (by simp)] at h
        exact ⟨j0 + 1, iter_inr h, Nat.le_refl _, by omega, fun k h1 h2 => by omega, fun _ => hp⟩
      | true =>
        rw [hp, if_pos rfl] at h
        obtain ⟨j, e1, e2, e3, e4, e5⟩ := ih hij (by omega)
        refine ⟨j, by rw [iter_inl h]; exact e1, by omega, e3, fun k h1 h2 => ?_, e5⟩
        by_cases hk : k = j0 + 1
        · subst hk; exact hp
        · exact e4 k h1 (by omega)
    · exact ⟨j0 + 1, iter_inr (hs _ (by omega)), Nat.le_refl _, by omega, fun k h1 h2 => by omega, fun h => by omega⟩
theorem s116_ok {a b m : Nat} {l : List Int} (ham : a ≤ m) (hmb : m < b) (hb : b ≤ l.length) (hl : l.length ≤ 100000) : ∃ (i : Nat) (l' : List Int), D.f116F ((a : Int), (b : Int), (m : Int), l) = some ((i : Int), l') ∧ Sw (0 : Int) a b l l' ∧ a < i ∧ i ≤ b ∧
    VV l' a = VV l m ∧ (∀ k, a ≤ k → k < i → VV l' k ≤ VV l m) ∧ (∀ k, i ≤ k → k < b → VV l m < VV l' k) := by
  suffices hh : ∃ r, D.f116F ((a : Int), (b : Int), (m : Int), l) = some r ∧ ∃ (i : Nat) (l' : List Int), r = ((i : Int), l') ∧ Sw (0 : Int) a b l l' ∧ a < i ∧ i ≤ b ∧
      VV l' a = VV l m ∧ (∀ k, a ≤ k → k < i → VV l' k ≤ VV l m) ∧ (∀ k, i ≤ k → k < b → VV l m < VV l' k) by
    obtain ⟨r, h1, i, l', rfl, h2⟩ := hh
    exact ⟨i, l', h1, h2⟩
  unfold D.f116F
  dsimp only
  rw [if_pos (by omega), if_pos (by omega), if_pos (by omega), if_pos (by rw [List.length_set]; omega), Int.toNat_natCast, Int.toNat_natCast, wrap_i64 (x := (a : Int) + 1) (by omega) (by omega), wrap_i64 (x := (b : Int) - 1) (by omega) (by omega)]
  have hsw : (l.set a (l.getD m 0)).set m (l.getD a 0) = swp 0 l a m := rfl
  rw [hsw, show (a : Int) + 1 = ((a + 1 : Nat) : Int) by omega, show (b : Int) - 1 = ((b - 1 : Nat) : Int) by omega]
  have hS0 : Sw (0 : Int) a b l (swp 0 l a m) := Sw.one (by omega) (by omega) (by omega) (by omega) (by omega)
  have hv0 : VV (swp 0 l a m) a = VV l m := by
    rw [swp_comm (by omega) (by omega)]
    by_cases h : a = m
    · rw [if_pos h, h]
    · rw [if_neg h, if_pos rfl]
  refine bind_ex (Q := fun (r : Int × List Int) => ∃ (i : Nat) (l' : List Int), r = ((i : Int), l') ∧ Sw (0 : Int) (a + 1) b (swp 0 l a m) l' ∧ a < i ∧ i ≤ b ∧
      (∀ k, a < k → k < i → VV l' k ≤ VV l m) ∧ (∀ k, i ≤ k → k < b → VV l m < VV l' k)) ?_ ?_
  rotate_left
  · rintro _ ⟨i, l', rfl, h2, h3, h4, h5, h6⟩
    have hva : VV l' a = VV l m := (h2.vout (key := id) (k := a) (.inl (by omega))).trans hv0
    refine ⟨_, rfl, i, l', rfl, hS0.trans (h2.mono (by omega) (by omega) (by rw [swp_len]; omega)), h3, h4, hva, fun k k1 k2 => ?_, h6⟩
    by_cases hk : k = a
    · subst hk; rw [hva]; exact Int.le_refl _
    · exact h5 k (by omega) k2
  refine iter_rule (I := fun (s : Int × Int × List Int) => ∃ (i j : Nat) (l' : List Int), s = ((i : Int), (j : Int), l') ∧ a + 1 ≤ i ∧ i ≤ j + 1 ∧ j < b ∧ Sw (0 : Int) (a + 1) b (swp 0 l a m) l' ∧
      (∀ k, a < k → k < i → VV l' k ≤ VV l m) ∧ (∀ k, j < k → k < b → VV l m < VV l' k)) (fun s => (s.2.1 + 1 - s.1).toNat) ?_ _ ⟨a + 1, b - 1, _, rfl, Nat.le_refl _, by omega, by omega, .refl _, fun k h1 h2 => by omega, fun k h1 h2 => by omega⟩
  rintro _ ⟨i, j, l1, rfl, hi, hij, hj, hS, hlo, hhi⟩
  dsimp only
  have hlen : l1.length = l.length := by rw [hS.len, swp_len]
  have hva : VV l1 a = VV l m := (hS.vout (key := id) (k := a) (.inl (by omega))).trans hv0
  refine stp_bind (R := fun (r : Int × List Int) => ∃ i' : Nat, r = ((i' : Int), l1) ∧ i ≤ i' ∧ i' ≤ j + 1 ∧ (∀ k, i ≤ k → k < i' → VV l1 k ≤ VV l m) ∧ (i' ≤ j → VV l m < VV l1 i')) ?_ ?_
  · obtain ⟨i', e1, e2, e3, e4, e5⟩ := scan_up (l := l1) (j := j) (f := fun (s2 : Int × List Int) => Option.bind (if decide (s2.1 ≤ (j : Int)) = true then (if (0 : Int) ≤ (a : Int) ∧ (a : Int) < (s2.2.length : Int) then (if (0 : Int) ≤ s2.1 ∧ s2.1 < (s2.2.length : Int) then
          Option.bind (D.f105F (s2.2.getD (a : Int).toNat 0, s2.2.getD s2.1.toNat 0)) fun (v3 : Bool) => some (!v3, s2.2) else none) else none) else some (false, s2.2))
          fun (v3 : Bool × List Int) => if v3.1 = true then some (.inl (IntKind.i64.wrap (s2.1 + 1), v3.2)) else some (.inr (s2.1, v3.2))) (fun k => !decide (VV l1 a < VV l1 k)) (fun k hk => by
        dsimp only
        rw [if_pos (by rw [decide_eq_true_eq]; omega), if_pos (by omega), if_pos (by omega), Int.toNat_natCast, Int.toNat_natCast, less_eq, wrap_i64 (by omega) (by omega)]
        rfl) (fun k hk => by
        dsimp only
        rw [if_neg (by rw [decide_eq_true_eq]; omega)]
        rfl) i hij
    refine ⟨_, e1, i', rfl, e2, e3, fun k k1 k2 => ?_, fun h => ?_⟩
    · have := e4 k k1 k2
      simp at this
      omega
    · have := e5 h
      simp at this
      omega
  rintro _ ⟨i', rfl, hi1, hi2, hi3, hi4⟩
  refine stp_bind (R := fun (r : Int × List Int) => ∃ j' : Nat, r = ((j' : Int), l1) ∧ j' ≤ j ∧ i' ≤ j' + 1 ∧ (∀ k, j' < k → k ≤ j → VV l m < VV l1 k) ∧ (i' ≤ j' → VV l1 j' ≤ VV l m)) ?_ ?_
  · obtain ⟨j', e1, e2, e3, e4, e5⟩ := scan_down (l := l1) (i := i') (f := fun (s3 : Int × List Int) => Option.bind (if decide ((i' : Int) ≤ s3.1) = true then (if (0 : Int) ≤ (a : Int) ∧ (a : Int) < (s3.2.length : Int) then (if (0 : Int) ≤ s3.1 ∧ s3.1 < (s3.2.length : Int) then
          Option.bind (D.f105F (s3.2.getD (a : Int).toNat 0, s3.2.getD s3.1.toNat 0)) fun (v4 : Bool) => some (v4, s3.2) else none) else none) else some (false, s3.2))
          fun (v4 : Bool × List Int) => if v4.1 = true then some (.inl (IntKind.i64.wrap (s3.1 - 1), v4.2)) else some (.inr (s3.1, v4.2))) (J := j) (fun k => decide (VV l1 a < VV l1 k)) (by omega) (fun k hk hkJ => by
        dsimp only
        rw [if_pos (by rw [decide_eq_true_eq]; omega), if_pos (by omega), if_pos (by omega), Int.toNat_natCast, Int.toNat_natCast, less_eq, wrap_i64 (by omega) (by omega), show (k : Int) - 1 = ((k - 1 : Nat) : Int) by omega]
        rfl) (fun k hk => by
        dsimp only
        rw [if_neg (by rw [decide_eq_true_eq]; omega)]
        rfl) j hi2 (Nat.le_refl _)
    refine ⟨_, e1, j', rfl, e2, e3, fun k k1 k2 => ?_, fun h => ?_⟩
    · have := e4 k k1 k2
      simp at this
      omega
    · have := e5 h
      simp at this
      omega
  rintro _ ⟨j', rfl, hj1, hj2, hj3, hj4⟩
  dsimp only
  by_cases hgt : j' < i'
  · rw [if_pos (by rw [decide_eq_true_eq]; omega)]
    right
    refine ⟨_, rfl, i', l1, rfl, hS, by omega, by omega, fun k k1 k2 => ?_, fun k k1 k2 => ?_⟩
    · by_cases hk : k < i
      · exact hlo k k1 hk
      · exact hi3 k (by omega) k2
    · by_cases hk : j < k
      · exact hhi k hk k2
      · exact hj3 k (by omega) (by omega)
  · rw [if_neg (by rw [decide_eq_true_eq]; omega), if_pos (by omega), if_pos (by omega), if_pos (by omega), if_pos (by rw [List.length_set]; omega), Int.toNat_natCast, Int.toNat_natCast, wrap_i64 (by omega) (by omega), wrap_i64 (by omega) (by omega)]
    have hne : i' < j' := by
      by_cases he : i' = j'
      · subst he
        have h1 := hi4 (by omega)
        have h2 := hj4 (by omega)
        omega
      · omega
    left
    have hs := fun k => swp_comm (l := l1) (i := i') (j := j') (by omega) (by omega) k
    refine ⟨_, rfl, ⟨i' + 1, j' - 1, swp 0 l1 i' j', by rw [show (j' : Int) - 1 = ((j' - 1 : Nat) : Int) by omega]; rfl, by omega, by omega, by omega, .step hS (by omega) (by omega) (by omega) (by omega) (by omega), fun k k1 k2 => ?_, fun k k1 k2 => ?_⟩, by
      show (((j' : Int) - 1) + 1 - ((i' : Int) + 1)).toNat < ((j : Int) + 1 - (i : Int)).toNat
      omega⟩
    · rw [hs k, if_neg (by omega)]
      by_cases hk : k = i'
      · rw [if_pos hk]; exact hj4 (by omega)
      · rw [if_neg hk]
        by_cases hk2 : k < i
        · exact hlo k k1 hk2
        · exact hi3 k (by omega) (by omega)
    · rw [hs k]
      by_cases hk : k = j'
      · rw [if_pos hk]; exact hi4 (by omega)
      · rw [if_neg hk, if_neg (by omega)]
        by_cases hk2 : j < k
        · exact hhi k hk2 k2
        · exact hj3 k (by omega) (by omega)
theorem s117_ok {a b m : Nat} {l : List Int} (ham : a ≤ m) (hmb : m < b) (hb : b ≤ l.length) (hl : l.length ≤ 100000) : ∃ (i : Nat) (w : Bool) (l' : List Int), D.f117F ((a : Int), (b : Int), (m : Int), l) = some ((i : Int), w, l') ∧ Sw (0 : Int) a b l l' ∧ a ≤ i ∧ i < b ∧
    (∀ k, a ≤ k → k < i → VV l' k ≤ VV l' i) ∧ (∀ k, i ≤ k → k < b → VV l' i ≤ VV l' k) := by
  suffices hh : ∃ r, D.f117F ((a : Int), (b : Int), (m : Int), l) = some r ∧ ∃ (i : Nat) (w : Bool) (l' : List Int), r = ((i : Int), w, l') ∧ Sw (0 : Int) a b l l' ∧ a ≤ i ∧ i < b ∧
      (∀ k, a ≤ k → k < i → VV l' k ≤ VV l' i) ∧ (∀ k, i ≤ k → k < b → VV l' i ≤ VV l' k) by
    obtain ⟨r, h1, i, w, l', rfl, h2⟩ := hh
    exact ⟨i, w, l', h1, h2⟩
  unfold D.f117F
  dsimp only
  rw [if_pos (by omega), if_pos (by omega), if_pos (by omega), if_pos (by rw [List.length_set]; omega), Int.toNat_natCast, Int.toNat_natCast, wrap_i64 (x := (a : Int) + 1) (by omega) (by omega), wrap_i64 (x := (b : Int) - 1) (by omega) (by omega)]
  have hsw : (l.set a (l.getD m 0)).set m (l.getD a 0) = swp 0 l a m := rfl
  rw [hsw, show (a : Int) + 1 = ((a + 1 : Nat) : Int) by omega, show (b : Int) - 1 = ((b - 1 : Nat) : Int) by omega]
  have hS0 : Sw (0 : Int) a b l (swp 0 l a m) := Sw.one (by omega) (by omega) (by omega) (by omega) (by omega)
  have hlen0 : (swp 0 l a m).length = l.length := swp_len _ _ _
  generalize swp 0 l a m = l0 at *
  -- looking up
  have up : ∀ (J : Nat) (l1 : List Int) (i0 : Nat), l1.length = l.length → J < b → i0 ≤ J + 1 → a < i0 → ∃ i : Nat, iter (fun (s4 : Int × List Int) => Option.bind (if decide (s4.1 ≤ (J : Int)) = true then (if (0 : Int) ≤ s4.1 ∧ s4.1 < (s4.2.length : Int) then (if (0 : Int) ≤ (a : Int) ∧ (a : Int) < (s4.2.length : Int) then
          Option.bind (D.f105F (s4.2.getD s4.1.toNat 0, s4.2.getD a 0)) fun (v5 : Bool) => some (v5, s4.2) else none) else none) else some (false, s4.2))
          fun (v5 : Bool × List Int) => if v5.1 = true then some (.inl (IntKind.i64.wrap (s4.1 + 1), v5.2)) else some (.inr (s4.1, v5.2))) ((i0 : Int), l1) = some ((i : Int), l1) ∧ i0 ≤ i ∧ i ≤ J + 1 ∧ (∀ k, i0 ≤ k → k < i → VV l1 k < VV l1 a) ∧ (i ≤ J → VV l1 a ≤ VV l1 i) := by
    intro J l1 i0 hl1 hJ h0 ha0
    obtain ⟨i, e1, e2, e3, e4, e5⟩ := scan_up (l := l1) (j := J) (f := fun (s4 : Int × List Int) => Option.bind (if decide (s4.1 ≤ (J : Int)) = true then (if (0 : Int) ≤ s4.1 ∧ s4.1 < (s4.2.length : Int) then (if (0 : Int) ≤ (a : Int) ∧ (a : Int) < (s4.2.length : Int) then
          Option.bind (D.f105F (s4.2.getD s4.1.toNat 0, s4.2.getD a 0)) fun (v5 : Bool) => some (v5, s4.2) else none) else none) else some (false, s4.2))
          fun (v5 : Bool × List Int) => if v5.1 = true then some (.inl (IntKind.i64.wrap (s4.1 + 1), v5.2)) else some (.inr (s4.1, v5.2))) (fun k => decide (VV l1 k < VV l1 a)) (fun k hk => by
        dsimp only
        rw [if_pos (by rw [decide_eq_true_eq]; omega), if_pos (by omega), if_pos (by omega), Int.toNat_natCast, less_eq, wrap_i64 (by omega) (by omega)]
        rfl) (fun k hk => by
        dsimp only
        rw [if_neg (by rw [decide_eq_true_eq]; omega)]
        rfl) i0 h0
    refine ⟨i, e1, e2, e3, fun k k1 k2 => ?_, fun h => ?_⟩
    · have := e4 k k1 k2
      simpa using this
    · have := e5 h
      simpa using this
  have down : ∀ (i : Nat) (l1 : List Int) (j0 : Nat), l1.length = l.length → j0 < b → i ≤ j0 + 1 → a < i → ∃ j : Nat, iter (fun (s5 : Int × List Int) => Option.bind (if decide ((i : Int) ≤ s5.1) = true then (if (0 : Int) ≤ s5.1 ∧ s5.1 < (s5.2.length : Int) then (if (0 : Int) ≤ (a : Int) ∧ (a : Int) < (s5.2.length : Int) then
          Option.bind (D.f105F (s5.2.getD s5.1.toNat 0, s5.2.getD a 0)) fun (v6 : Bool) => some (!v6, s5.2) else none) else none) else some (false, s5.2))
          fun (v6 : Bool × List Int) => if v6.1 = true then some (.inl (IntKind.i64.wrap (s5.1 - 1), v6.2)) else some (.inr (s5.1, v6.2))) ((j0 : Int), l1) = some ((j : Int), l1) ∧ j ≤ j0 ∧ i ≤ j + 1 ∧ (∀ k, j < k → k ≤ j0 → VV l1 a ≤ VV l1 k) ∧ (i ≤ j → VV l1 j < VV l1 a) := by
    intro i l1 j0 hl1 hJ h0 ha0
    obtain ⟨j', e1, e2, e3, e4, e5⟩ := scan_down (l := l1) (i := i) (J := j0) (f := fun (s5 : Int × List Int) => Option.bind (if decide ((i : Int) ≤ s5.1) = true then (if (0 : Int) ≤ s5.1 ∧ s5.1 < (s5.2.length : Int) then (if (0 : Int) ≤ (a : Int) ∧ (a : Int) < (s5.2.length : Int) then
          Option.bind (D.f105F (s5.2.getD s5.1.toNat 0, s5.2.getD a 0)) fun (v6 : Bool) => some (!v6, s5.2) else none) else none) else some (false, s5.2))
          fun (v6 : Bool × List Int) => if v6.1 = true then some (.inl (IntKind.i64.wrap (s5.1 - 1), v6.2)) else some (.inr (s5.1, v6.2))) (fun k => !decide (VV l1 k < VV l1 a)) (by omega) (fun k hk hkJ => by
        dsimp only
        rw [if_pos (by rw [decide_eq_true_eq]; omega), if_pos (by omega), if_pos (by omega), Int.toNat_natCast, less_eq, wrap_i64 (by omega) (by omega), show (k : Int) - 1 = ((k - 1 : Nat) : Int) by omega]
        rfl) (fun k hk => by
        dsimp only
        rw [if_neg (by rw [decide_eq_true_eq]; omega)]
        rfl) j0 h0 (Nat.le_refl _)
    refine ⟨j', e1, e2, e3, fun k k1 k2 => ?_, fun h => ?_⟩
    · have := e4 k k1 k2
      simpa using this
    · have := e5 h
      simpa using this
  obtain ⟨i1, u1, u2, u3, u4, u5⟩ := up (b - 1) l0 (a + 1) hlen0 (by omega) (by omega) (by omega)
  rw [u1]
  simp only [Option.bind_some]
  obtain ⟨j1, d1, d2, d3, d4, d5⟩ := down i1 l0 (b - 1) hlen0 (by omega) (by omega) (by omega)
  rw [d1]
  simp only [Option.bind_some]
  -- the end: the pivot into its place
  have fin : ∀ (j : Nat) (l1 : List Int), Sw (0 : Int) (a + 1) b l0 l1 → a ≤ j → j < b → (∀ k, a < k → k ≤ j → VV l1 k ≤ VV l1 a) → (∀ k, j < k → k < b → VV l1 a ≤ VV l1 k) →
      Sw (0 : Int) a b l (swp 0 l1 j a) ∧ (∀ k, a ≤ k → k < j → VV (swp 0 l1 j a) k ≤ VV (swp 0 l1 j a) j) ∧ (∀ k, j ≤ k → k < b → VV (swp 0 l1 j a) j ≤ VV (swp 0 l1 j a) k) := by
    intro j l1 hS haj hjb hlo hhi
    have hlen : l1.length = l.length := by rw [hS.len, hlen0]
    have hs := fun k => swp_comm (l := l1) (i := j) (j := a) (by omega) (by omega) k
    have hvj : VV (swp 0 l1 j a) j = VV l1 a := by
      rw [hs j]
      by_cases h : j = a
      · rw [if_pos h, h]
      · rw [if_neg h, if_pos rfl]
    refine ⟨.step (hS0.trans (hS.mono (by omega) (by omega) (by omega))) (by omega) (by omega) (by omega) (by omega) (by omega), fun k k1 k2 => ?_, fun k k1 k2 => ?_⟩
    · rw [hvj, hs k]
      by_cases hk : k = a
      · rw [if_pos hk]; exact hlo j (by omega) (Nat.le_refl _)
      · rw [if_neg hk, if_neg (by omega)]; exact hlo k (by omega) (by omega)
    · rw [hvj]
      by_cases hk : k = j
      · subst hk; rw [hvj]; exact Int.le_refl _
      · rw [hs k, if_neg (by omega), if_neg hk]; exact hhi k (by omega) k2
  by_cases hgt : j1 < i1
  · rw [if_pos (by rw [decide_eq_true_eq]; omega), if_pos (by omega), if_pos (by omega), if_pos (by omega), if_pos (by rw [List.length_set]; omega), Int.toNat_natCast]
    obtain ⟨q1, q2, q3⟩ := fin j1 l0 (.refl _) (by omega) (by omega) (fun k k1 k2 => Int.le_of_lt (u4 k (by omega) (by omega))) (fun k k1 k2 => d4 k k1 (by omega))
    exact ⟨_, rfl, j1, _, _, rfl, q1, by omega, by omega, q2, q3⟩
  rw [if_neg (by rw [decide_eq_true_eq]; omega), if_pos (by omega), if_pos (by omega), if_pos (by omega), if_pos (by rw [List.length_set]; omega), Int.toNat_natCast, Int.toNat_natCast, wrap_i64 (x := (i1 : Int) + 1) (by omega) (by omega), wrap_i64 (x := (j1 : Int) - 1) (by omega) (by omega)]
  have hne1 : i1 < j1 := by
    by_cases he : i1 = j1
    · subst he
      have h1 := u5 (by omega)
      have h2 := d5 (by omega)
      omega
    · omega
  have hs1 := fun k => swp_comm (l := l0) (i := i1) (j := j1) (by omega) (by omega) k
  refine bind_ex (Q := fun (r : Int × List Int) => ∃ (j : Nat) (l' : List Int), r = ((j : Int), l') ∧ Sw (0 : Int) (a + 1) b l0 l' ∧ a ≤ j ∧ j < b ∧
      (∀ k, a < k → k ≤ j → VV l' k ≤ VV l' a) ∧ (∀ k, j < k → k < b → VV l' a ≤ VV l' k)) ?_ ?_
  rotate_left
  · rintro _ ⟨j, l1, rfl, m2, m3, m4, m5, m6⟩
    have hlen : l1.length = l.length := by rw [m2.len, hlen0]
    dsimp only
    rw [if_pos (by omega), if_pos (by omega), if_pos (by omega), if_pos (by rw [List.length_set]; omega), Int.toNat_natCast]
    obtain ⟨q1, q2, q3⟩ := fin j l1 m2 m3 m4 m5 m6
    exact ⟨_, rfl, j, _, _, rfl, q1, m3, m4, q2, q3⟩
  · skip
    refine iter_rule (I := fun (s : Int × Int × List Int) => ∃ (i j : Nat) (l' : List Int), s = ((i : Int), (j : Int), l') ∧ a + 1 ≤ i ∧ i ≤ j + 1 ∧ j < b ∧ Sw (0 : Int) (a + 1) b l0 l' ∧
      (∀ k, a < k → k < i → VV l' k ≤ VV l' a) ∧ (∀ k, j < k → k < b → VV l' a ≤ VV l' k)) (fun s => (s.2.1 + 1 - s.1).toNat) ?_ _ ⟨i1 + 1, j1 - 1, swp 0 l0 i1 j1, by rw [show (j1 : Int) - 1 = ((j1 - 1 : Nat) : Int) by omega]; rfl, by omega, by omega, by omega, .step (.refl _) (by omega) (by omega) (by omega) (by omega) (by omega), fun k k1 k2 => ?_, fun k k1 k2 => ?_⟩
    · rintro _ ⟨i, j, l1, rfl, hi, hij, hj, hS, hlo, hhi⟩
      dsimp only
      have hlen : l1.length = l.length := by rw [hS.len, hlen0]
      obtain ⟨i', e1, e2, e3, e4, e5⟩ := up j l1 i hlen hj hij (by omega)
      obtain ⟨j', g1, g2, g3, g4, g5⟩ := down i' l1 j hlen hj e3 (by omega)
      refine stp_bind (R := fun r => r = ((i' : Int), l1)) ⟨_, e1, rfl⟩ ?_
      rintro _ rfl
      refine stp_bind (R := fun r => r = ((j' : Int), l1)) ⟨_, g1, rfl⟩ ?_
      rintro _ rfl
      dsimp only
      by_cases hgt : j' < i'
      · rw [if_pos (by rw [decide_eq_true_eq]; omega)]
        right
        refine ⟨_, rfl, j', l1, rfl, hS, by omega, by omega, fun k k1 k2 => ?_, fun k k1 k2 => ?_⟩
        · by_cases hk : k < i
          · exact hlo k k1 hk
          · exact Int.le_of_lt (e4 k (by omega) (by omega))
        · by_cases hk : j < k
          · exact hhi k hk k2
          · exact g4 k k1 (by omega)
      · rw [if_neg (by rw [decide_eq_true_eq]; omega), if_pos (by omega), if_pos (by omega), if_pos (by omega), if_pos (by rw [List.length_set]; omega), Int.toNat_natCast, Int.toNat_natCast, wrap_i64 (by omega) (by omega), wrap_i64 (by omega) (by omega)]
        have hne : i' < j' := by
          by_cases he : i' = j'
          · subst he
            have h1 := e5 (by omega)
            have h2 := g5 (by omega)
            omega
          · omega
        left
        have hs := fun k => swp_comm (l := l1) (i := i') (j := j') (by omega) (by omega) k
        have hva : VV (swp 0 l1 i' j') a = VV l1 a := by rw [hs a, if_neg (by omega), if_neg (by omega)]
        refine ⟨_, rfl, ⟨i' + 1, j' - 1, swp 0 l1 i' j', by rw [show (j' : Int) - 1 = ((j' - 1 : Nat) : Int) by omega]; rfl, by omega, by omega, by omega, .step hS (by omega) (by omega) (by omega) (by omega) (by omega), fun k k1 k2 => ?_, fun k k1 k2 => ?_⟩, by
          show (((j' : Int) - 1) + 1 - ((i' : Int) + 1)).toNat < ((j : Int) + 1 - (i : Int)).toNat
          omega⟩
        · rw [hva, hs k, if_neg (by omega)]
          by_cases hk : k = i'
          · rw [if_pos hk]; exact Int.le_of_lt (g5 (by omega))
          · rw [if_neg hk]
            by_cases hk2 : k < i
            · exact hlo k k1 hk2
            · exact Int.le_of_lt (e4 k (by omega) (by omega))
        · rw [hva, hs k]
          by_cases hk : k = j'
          · rw [if_pos hk]; exact e5 (by omega)
          · rw [if_neg hk, if_neg (by omega)]
            by_cases hk2 : j < k
            · exact hhi k hk2 k2
            · exact g4 k (by omega) (by omega)
    · rw [hs1 a, if_neg (by omega), if_neg (by omega), hs1 k, if_neg (by omega)]
      by_cases hk : k = i1
      · rw [if_pos hk]; exact Int.le_of_lt (d5 (by omega))
      · rw [if_neg hk]; exact Int.le_of_lt (u4 k (by omega) (by omega))
    · rw [hs1 a, if_neg (by omega), if_neg (by omega), hs1 k]
      by_cases hk : k = j1
      · rw [if_pos hk]; exact u5 (by omega)
      · rw [if_neg hk, if_neg (by omega)]; exact d4 k (by omega) (by omega)
end Go.Sx
