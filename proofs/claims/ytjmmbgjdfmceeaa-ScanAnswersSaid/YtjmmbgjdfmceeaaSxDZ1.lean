/- Sorting: the parts that exchange neighbours, and those that only look. -/
import Derived.Test.YtjmmbgjdfmceeaaSxDY5
import Derived.Test.YtjmmbgjdfmceeaaSxR
import Derived.Test.YtjmmbgjdfmceeaaSxY1
set_option linter.unusedVariables false
set_option linter.unusedSimpArgs false
namespace Go.Sx
abbrev VV (l : List Int) (i : Nat) : Int := vk (0 : Int) id l i
theorem s105_eq (a b : Int) : D.f105F (a, b) = some (decide (a < b)) := by
  unfold D.f105F D.f120F
  simp
theorem less_eq (l : List Int) (i j : Nat) : D.f105F (l.getD i 0, l.getD j 0) = some (decide (VV l i < VV l j)) := s105_eq _ _
theorem swp_comm {l : List Int} {i j : Nat} (hi : i < l.length) (hj : j < l.length) (k : Nat) : VV (swp 0 l i j) k = if k = j then VV l i else if k = i then VV l j else VV l k := vk_swp l hi hj k
structure InsJ (a i : Nat) (l : List Int) (j : Nat) : Prop where
  le : a ≤ j ∧ j ≤ i
  ord : ∀ x y, a ≤ x → x < y → y ≤ i → x ≠ j → y ≠ j → VV l x ≤ VV l y
  behind : ∀ y, j < y → y ≤ i → VV l j ≤ VV l y
theorem InsJ.done {a i j : Nat} {l : List Int} (h : InsJ a i l j) (hj : j = a ∨ VV l (j - 1) ≤ VV l j) : Srt (0 : Int) id a (i + 1) l := by
  intro x hx hb
  show VV l x ≤ VV l (x + 1)
  have h2 := h.le
  by_cases c1 : x = j
  · subst c1; exact h.behind _ (by omega) (by omega)
  by_cases c2 : x + 1 = j
  · rcases hj with hj | hj
    · omega
    · rw [show j - 1 = x by omega] at hj; rw [c2]; exact hj
  · exact h.ord x (x + 1) hx (by omega) (by omega) c1 c2
theorem InsJ.step {a i j : Nat} {l : List Int} (h : InsJ a i l j) (hi : i < l.length) (hj : a < j) (hlt : VV l j < VV l (j - 1)) : InsJ a i (swp 0 l j (j - 1)) (j - 1) := by
  have h2 := h.le
  have hs := fun k => swp_comm (l := l) (i := j) (j := j - 1) (by omega) (by omega) k
  refine ⟨by omega, fun x y h1 h3 h4 h5 h6 => ?_, fun y h1 h3 => ?_⟩
  · rw [hs x, hs y, if_neg h5, if_neg h6]
    by_cases c1 : x = j
    · rw [if_pos c1, if_neg (by omega)]
      exact h.ord (j - 1) y (by omega) (by omega) h4 (by omega) (by omega)
    · rw [if_neg c1]
      by_cases c2 : y = j
      · rw [if_pos c2]
        exact h.ord x (j - 1) h1 (by omega) (by omega) c1 (by omega)
      · rw [if_neg c2]
        exact h.ord x y h1 h3 h4 c1 c2
  · rw [hs (j - 1), hs y, if_pos rfl, if_neg (by omega)]
    by_cases c : y = j
    · rw [if_pos c]; omega
    · rw [if_neg c]; exact h.behind y (by omega) h3
theorem s110_ok {a b : Nat} {l : List Int} (hab : a ≤ b) (hb : b ≤ l.length) (hl : l.length ≤ 100000) : ∃ l', D.f110F ((a : Int), (b : Int), l) = some l' ∧ Sw (0 : Int) a b l l' ∧ Srt (0 : Int) id a b l' := by
  unfold D.f110F
  refine bind_ex (iter_rule (I := fun (s : Int × List Int) => ∃ (i : Nat) (l' : List Int), s = ((i : Int), l') ∧ a + 1 ≤ i ∧ (i ≤ b ∨ i = a + 1) ∧ Sw (0 : Int) a b l l' ∧ Srt (0 : Int) id a i l') (Q := fun l' => Sw (0 : Int) a b l l' ∧ Srt (0 : Int) id a b l')
    (fun s => ((b : Int) - s.1).toNat) ?_ _ ⟨a + 1, l, by rw [wrap_i64 (by omega) (by omega)]; rfl, Nat.le_refl _, .inr rfl, .refl _, fun x h1 h2 => by omega⟩) fun l' h => ⟨_, rfl, h⟩
  rintro _ ⟨i, l1, rfl, hi, hi2, hS, hSr⟩
  dsimp only
  have hlen := hS.len
  by_cases hib : i < b
  · rw [if_pos (by rw [decide_eq_true_eq]; omega)]
    refine stp_bind (R := fun l' => Sw (0 : Int) a b l l' ∧ Srt (0 : Int) id a (i + 1) l') (iter_rule (I := fun (s : Int × List Int) => ∃ (j : Nat) (l' : List Int), s = ((j : Int), l') ∧ InsJ a i l' j ∧ Sw (0 : Int) a b l l') (Q := fun l' => Sw (0 : Int) a b l l' ∧ Srt (0 : Int) id a (i + 1) l')
      (fun s => s.1.toNat) ?_ _ ⟨i, l1, rfl, ⟨by omega, fun x y h1 h2 h3 h4 h5 => hSr.le h1 (by omega) (by omega), fun y h1 h2 => by omega⟩, hS⟩) ?_
    · rintro _ ⟨j, l2, rfl, hJ, hS2⟩
      dsimp only
      have hlen2 := hS2.len
      have h2 := hJ.le
      by_cases hja : a < j
      · rw [if_pos (by rw [decide_eq_true_eq]; omega), wrap_i64 (by omega) (by omega), if_pos (by omega), if_pos (by omega), Int.toNat_natCast, show ((j : Int) - 1).toNat = j - 1 by omega, less_eq]
        simp only [Option.bind_some]
        by_cases hlt : VV l2 j < VV l2 (j - 1)
        · rw [if_pos (by rw [decide_eq_true_eq]; exact hlt), if_pos (by omega), if_pos (by omega), if_pos (by omega), if_pos (by rw [List.length_set]; omega)]
          exact .inl ⟨_, rfl, ⟨j - 1, swp 0 l2 j (j - 1), by rw [show ((j : Int) - 1) = ((j - 1 : Nat) : Int) by omega]; rfl, hJ.step (by omega) hja hlt, .step hS2 (by omega) (by omega) (by omega) (by omega) (by omega)⟩, by show ((j : Int) - 1).toNat < (j : Int).toNat; omega⟩
        · rw [if_neg (by rw [decide_eq_true_eq]; exact hlt)]
          exact .inr ⟨_, rfl, hS2, hJ.done (.inr (by omega))⟩
      · rw [if_neg (by rw [decide_eq_true_eq]; omega)]
        simp only [Option.bind_some, Bool.false_eq_true, if_false]
        exact .inr ⟨_, rfl, hS2, hJ.done (.inl (by omega))⟩
    · rintro l2 ⟨h1, h2⟩
      left
      exact ⟨_, rfl, ⟨i + 1, l2, by rw [wrap_i64 (by omega) (by omega)]; rfl, by omega, .inl hib, h1, h2⟩, by show ((b : Int) - IntKind.i64.wrap ((i : Int) + 1)).toNat < ((b : Int) - (i : Int)).toNat; rw [wrap_i64 (by omega) (by omega)]; omega⟩
  · rw [if_neg (by rw [decide_eq_true_eq]; omega)]
    exact .inr ⟨_, rfl, hS, fun x h1 h2 => hSr x h1 (by omega)⟩
theorem s126_ok {a b : Nat} {l : List Int} (ha : a < l.length) (hb : b < l.length) (w : Int) : ∃ w', D.f126F ((a : Int), (b : Int), l, w) = some ((a : Int), (b : Int), l, w') ∨ D.f126F ((a : Int), (b : Int), l, w) = some ((b : Int), (a : Int), l, w') := by
  unfold D.f126F
  dsimp only
  rw [if_pos (by omega), if_pos (by omega), Int.toNat_natCast, Int.toNat_natCast, less_eq]
  simp only [Option.bind_some]
  split
  · exact ⟨_, .inr rfl⟩
  · exact ⟨_, .inl rfl⟩
theorem s125_ok {a b c : Nat} {l : List Int} (ha : a < l.length) (hb : b < l.length) (hc : c < l.length) (w : Int) : ∃ (m : Nat) (w' : Int), D.f125F ((a : Int), (b : Int), (c : Int), l, w) = some ((m : Int), l, w') ∧ (m = a ∨ m = b ∨ m = c) := by
  unfold D.f125F
  dsimp only
  obtain ⟨w1, h1⟩ := s126_ok ha hb w
  rcases h1 with h1 | h1 <;> rw [h1] <;> simp only [Option.bind_some]
  · obtain ⟨w2, h2⟩ := s126_ok hb hc w1
    rcases h2 with h2 | h2 <;> rw [h2] <;> simp only [Option.bind_some]
    · obtain ⟨w3, h3⟩ := s126_ok ha hb w2
      rcases h3 with h3 | h3 <;> rw [h3] <;> exact ⟨_, _, rfl, by simp⟩
    · obtain ⟨w3, h3⟩ := s126_ok ha hc w2
      rcases h3 with h3 | h3 <;> rw [h3] <;> exact ⟨_, _, rfl, by simp⟩
  · obtain ⟨w2, h2⟩ := s126_ok ha hc w1
    rcases h2 with h2 | h2 <;> rw [h2] <;> simp only [Option.bind_some]
    · obtain ⟨w3, h3⟩ := s126_ok hb ha w2
      rcases h3 with h3 | h3 <;> rw [h3] <;> exact ⟨_, _, rfl, by simp⟩
    · obtain ⟨w3, h3⟩ := s126_ok hb hc w2
      rcases h3 with h3 | h3 <;> rw [h3] <;> exact ⟨_, _, rfl, by simp⟩
theorem s124_ok {a : Nat} {l : List Int} (h1 : 1 ≤ a) (ha : a + 1 < l.length) (hl : l.length ≤ 100000) (w : Int) : ∃ (m : Nat) (w' : Int), D.f124F ((a : Int), l, w) = some ((m : Int), l, w') ∧ a - 1 ≤ m ∧ m ≤ a + 1 := by
  unfold D.f124F
  dsimp only
  rw [wrap_i64 (by omega) (by omega), wrap_i64 (by omega) (by omega), show (a : Int) - 1 = ((a - 1 : Nat) : Int) by omega, show (a : Int) + 1 = ((a + 1 : Nat) : Int) by omega]
  obtain ⟨m, w', h2, h3⟩ := s125_ok (l := l) (a := a - 1) (b := a) (c := a + 1) (by omega) (by omega) ha w
  rw [h2]
  exact ⟨_, _, rfl, by omega⟩
theorem s113_ok {a b : Nat} {l : List Int} (hab : a + 12 < b) (hb : b ≤ l.length) (hl : l.length ≤ 100000) : ∃ (m : Nat) (w : Int), D.f113F ((a : Int), (b : Int), l) = some ((m : Int), w, l) ∧ a ≤ m ∧ m < b := by
  unfold D.f113F
  dsimp only
  have hw : IntKind.i64.wrap ((b : Int) - (a : Int)) = ((b - a : Nat) : Int) := by rw [wrap_i64 (by omega) (by omega)]; omega
  have hq : Int.tdiv ((b - a : Nat) : Int) 4 = (((b - a) / 4 : Nat) : Int) := by
    rw [Int.tdiv_eq_ediv_of_nonneg (by omega)]; omega
  rw [hw, hq]
  have e0 : IntKind.i64.wrap (((b - a) / 4 : Nat) : Int) = (((b - a) / 4 : Nat) : Int) := wrap_i64 (by omega) (by omega)
  have e1 : IntKind.i64.wrap ((a : Int) + IntKind.i64.wrap (IntKind.i64.wrap (((b - a) / 4 : Nat) : Int) * 1)) = ((a + (b - a) / 4 : Nat) : Int) := by rw [e0, wrap_i64 (x := _ * 1) (by omega) (by omega), wrap_i64 (by omega) (by omega)]; omega
  have e2 : IntKind.i64.wrap ((a : Int) + IntKind.i64.wrap (IntKind.i64.wrap (((b - a) / 4 : Nat) : Int) * 2)) = ((a + (b - a) / 4 * 2 : Nat) : Int) := by rw [e0, wrap_i64 (x := _ * 2) (by omega) (by omega), wrap_i64 (by omega) (by omega)]; omega
  have e3 : IntKind.i64.wrap ((a : Int) + IntKind.i64.wrap (IntKind.i64.wrap (((b - a) / 4 : Nat) : Int) * 3)) = ((a + (b - a) / 4 * 3 : Nat) : Int) := by rw [e0, wrap_i64 (x := _ * 3) (by omega) (by omega), wrap_i64 (by omega) (by omega)]; omega
  rw [e1, e2, e3, if_pos (by rw [decide_eq_true_eq]; omega)]
  have last : ∀ (m : Nat) (w : Int), ∃ (m' : Nat) (w' : Int), (if (w == (0 : Int)) = true then some ((m : Int), (1 : Int), l) else if (w == (12 : Int)) = true then some ((m : Int), (2 : Int), l) else some ((m : Int), (0 : Int), l)) = some ((m' : Int), w', l) ∧ m' = m := fun m w => by
    split
    · exact ⟨_, _, rfl, rfl⟩
    · split <;> exact ⟨_, _, rfl, rfl⟩
  by_cases h50 : 50 ≤ b - a
  · rw [if_pos (by rw [decide_eq_true_eq]; omega)]
    obtain ⟨m1, w1, k1, r1⟩ := s124_ok (l := l) (a := a + (b - a) / 4) (by omega) (by omega) hl 0
    rw [k1]
    simp only [Option.bind_some]
    obtain ⟨m2, w2, k2, r2⟩ := s124_ok (l := l) (a := a + (b - a) / 4 * 2) (by omega) (by omega) hl w1
    rw [k2]
    simp only [Option.bind_some]
    obtain ⟨m3, w3, k3, r3⟩ := s124_ok (l := l) (a := a + (b - a) / 4 * 3) (by omega) (by omega) hl w2
    rw [k3]
    simp only [Option.bind_some]
    obtain ⟨m, w, k, r⟩ := s125_ok (l := l) (a := m1) (b := m2) (c := m3) (by omega) (by omega) (by omega) w3
    rw [k]
    simp only [Option.bind_some]
    obtain ⟨m', w', q, rfl⟩ := last m w
    exact ⟨_, _, q, by omega⟩
  · rw [if_neg (by rw [decide_eq_true_eq]; omega)]
    obtain ⟨m, w, k, r⟩ := s125_ok (l := l) (a := a + (b - a) / 4) (b := a + (b - a) / 4 * 2) (c := a + (b - a) / 4 * 3) (by omega) (by omega) (by omega) 0
    rw [k]
    simp only [Option.bind_some]
    obtain ⟨m', w', q, rfl⟩ := last m w
    exact ⟨_, _, q, by omega⟩
theorem s114_ok {a b : Nat} {l : List Int} (hab : a < b) (hb : b ≤ l.length) (hl : l.length ≤ 100000) : ∃ l', D.f114F ((a : Int), (b : Int), l) = some l' ∧ Sw (0 : Int) a b l l' := by
  unfold D.f114F
  refine bind_ex (iter_rule (I := fun (s : Int × Int × List Int) => ∃ (i j : Nat) (l' : List Int), s = ((i : Int), (j : Int), l') ∧ a ≤ i ∧ j < b ∧ Sw (0 : Int) a b l l') (Q := fun l' => Sw (0 : Int) a b l l')
    (fun s => (s.2.1 - s.1).toNat) ?_ _ ⟨a, b - 1, l, by dsimp only; rw [wrap_i64 (by omega) (by omega), show (b : Int) - 1 = ((b - 1 : Nat) : Int) by omega], Nat.le_refl _, by omega, .refl _⟩) fun l' h => ⟨_, rfl, h⟩
  rintro _ ⟨i, j, l1, rfl, hi, hj, hS⟩
  dsimp only
  have hlen := hS.len
  by_cases hij : i < j
  · rw [if_pos (by rw [decide_eq_true_eq]; omega), if_pos (by omega), if_pos (by omega), if_pos (by omega), if_pos (by rw [List.length_set]; omega), wrap_i64 (by omega) (by omega), wrap_i64 (by omega) (by omega), Int.toNat_natCast, Int.toNat_natCast]
    exact .inl ⟨_, rfl, ⟨i + 1, j - 1, swp 0 l1 i j, by rw [show (j : Int) - 1 = ((j - 1 : Nat) : Int) by omega]; rfl, by omega, by omega, .step hS (by omega) (by omega) (by omega) (by omega) (by omega)⟩, by show (((j : Int) - 1) - ((i : Int) + 1)).toNat < ((j : Int) - (i : Int)).toNat; omega⟩
  · rw [if_neg (by rw [decide_eq_true_eq]; omega)]
    exact .inr ⟨_, rfl, hS⟩
end Go.Sx
