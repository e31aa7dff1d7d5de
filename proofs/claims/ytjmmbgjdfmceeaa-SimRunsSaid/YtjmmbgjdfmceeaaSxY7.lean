/- Sim, plain: numbers that rise are sorted as they are. -/
import Derived.Test.YtjmmbgjdfmceeaaSxY6
set_option linter.unusedVariables false
set_option linter.unusedSimpArgs false
namespace Go.Sx

theorem s105_eq (a b : Int) : S.f105F (a, b) = some (decide (a < b)) := by
  unfold S.f105F S.f120F
  simp

theorem rise_le {l : List Int} (h : l.Pairwise (· < ·)) {i j : Nat} (hj : j < l.length) (hij : i ≤ j) : l[i] ≤ l[j] := by
  by_cases e : i = j
  · subst e; exact Int.le_refl _
  · exact Int.le_of_lt (rise_get h hj (by omega))

theorem s110_rise {l : List Int} (h : l.Pairwise (· < ·)) (hl : l.length ≤ 100000) (h0 : l ≠ []) : S.f110F ((0 : Int), (l.length : Int), l) = some l := by
  have hpos : 0 < l.length := List.length_pos_iff.2 h0
  unfold S.f110F
  suffices hh : ∃ r, Option.bind _ _ = some r ∧ r = l by
    obtain ⟨r, h1, rfl⟩ := hh
    exact h1
  refine bind_ex (iter_rule (I := fun (s : Int × List Int) => ∃ i : Nat, s = ((i : Int), l) ∧ 1 ≤ i ∧ i ≤ l.length) (Q := fun e => e = l) (fun s => ((l.length : Int) - s.1).toNat) ?_ _ ⟨1, by rw [wrap_i64 (by omega) (by omega)]; rfl, Nat.le_refl _, hpos⟩) fun e he => ⟨_, rfl, he⟩
  rintro _ ⟨i, rfl, h1, hi⟩
  dsimp only
  by_cases hil : i < l.length
  · rw [if_pos (by rw [decide_eq_true_eq]; omega)]
    have hin : iter (fun (s2 : Int × List Int) => Option.bind (if decide (s2.1 > 0) = true then (if (0 : Int) ≤ s2.1 ∧ s2.1 < (s2.2.length : Int) then (if (0 : Int) ≤ IntKind.i64.wrap (s2.1 - 1) ∧ IntKind.i64.wrap (s2.1 - 1) < (s2.2.length : Int) then
        Option.bind (S.f105F (s2.2.getD s2.1.toNat 0, s2.2.getD (IntKind.i64.wrap (s2.1 - 1)).toNat 0)) fun (v3 : Bool) => some (v3, s2.2) else none) else none) else some (false, s2.2))
        fun (v3 : Bool × List Int) => if v3.1 = true then (if (0 : Int) ≤ IntKind.i64.wrap (s2.1 - 1) ∧ IntKind.i64.wrap (s2.1 - 1) < (v3.2.length : Int) then (if (0 : Int) ≤ s2.1 ∧ s2.1 < (v3.2.length : Int) then (if (0 : Int) ≤ s2.1 ∧ s2.1 < (v3.2.length : Int) then
          (if (0 : Int) ≤ IntKind.i64.wrap (s2.1 - 1) ∧ IntKind.i64.wrap (s2.1 - 1) < ((v3.2.set s2.1.toNat (v3.2.getD (IntKind.i64.wrap (s2.1 - 1)).toNat 0)).length : Int) then some (Sum.inl (IntKind.i64.wrap (s2.1 - 1), (v3.2.set s2.1.toNat (v3.2.getD (IntKind.i64.wrap (s2.1 - 1)).toNat 0)).set (IntKind.i64.wrap (s2.1 - 1)).toNat (v3.2.getD s2.1.toNat 0))) else none) else none) else none) else none) else some (Sum.inr v3.2)) ((i : Int), l) = some l := by
      refine iter_inr ?_
      dsimp only
      rw [wrap_i64 (by omega) (by omega), if_pos (by rw [decide_eq_true_eq]; omega), if_pos (by omega), if_pos (by omega), s105_eq, show ((i : Int) - 1).toNat = i - 1 by omega, Int.toNat_natCast, getD_lt _ _ hil, getD_lt _ _ (show i - 1 < l.length by omega)]
      have := rise_get h hil (show i - 1 < i by omega)
      simp only [Option.bind_some]
      rw [if_neg (by rw [decide_eq_true_eq]; omega)]
    rw [hin]
    simp only [Option.bind_some]
    rw [wrap_i64 (by omega) (by omega)]
    exact .inl ⟨_, rfl, ⟨i + 1, rfl, by omega, hil⟩, by show ((l.length : Int) - ((i : Int) + 1)).toNat < ((l.length : Int) - (i : Int)).toNat; omega⟩
  · rw [if_neg (by rw [decide_eq_true_eq]; omega)]
    exact .inr ⟨_, rfl, rfl⟩

theorem s126_rise {l : List Int} (h : l.Pairwise (· < ·)) {a b : Nat} (hab : a ≤ b) (hb : b < l.length) (w : Int) : S.f126F ((a : Int), (b : Int), l, w) = some ((a : Int), (b : Int), l, w) := by
  unfold S.f126F
  dsimp only
  rw [if_pos (by omega), if_pos (by omega), s105_eq, Int.toNat_natCast, Int.toNat_natCast, getD_lt _ _ hb, getD_lt _ _ (show a < l.length by omega)]
  have := rise_le h hb hab
  simp only [Option.bind_some]
  rw [if_neg (by rw [decide_eq_true_eq]; omega)]

theorem s125_rise {l : List Int} (h : l.Pairwise (· < ·)) {a b c : Nat} (hab : a ≤ b) (hbc : b ≤ c) (hc : c < l.length) (w : Int) : S.f125F ((a : Int), (b : Int), (c : Int), l, w) = some ((b : Int), l, w) := by
  unfold S.f125F
  simp only [s126_rise h hab (by omega), s126_rise h hbc hc, Option.bind_some]

theorem s124_rise {l : List Int} (h : l.Pairwise (· < ·)) {a : Nat} (h1 : 1 ≤ a) (ha : a + 1 < l.length) (hl : l.length ≤ 100000) (w : Int) : S.f124F ((a : Int), l, w) = some ((a : Int), l, w) := by
  unfold S.f124F
  dsimp only
  rw [wrap_i64 (by omega) (by omega), wrap_i64 (by omega) (by omega), show (a : Int) - 1 = ((a - 1 : Nat) : Int) by omega, show (a : Int) + 1 = ((a + 1 : Nat) : Int) by omega, s125_rise h (by omega) (by omega) ha]
  rfl

theorem s113_rise {l : List Int} (h : l.Pairwise (· < ·)) (hl : l.length ≤ 100000) (h8 : 8 ≤ l.length) : ∃ v, S.f113F ((0 : Int), (l.length : Int), l) = some (v, 1, l) := by
  unfold S.f113F
  dsimp only
  have hq : Int.tdiv (l.length : Int) 4 = ((l.length / 4 : Nat) : Int) := by
    rw [Int.tdiv_eq_ediv_of_nonneg (by omega)]; omega
  have hw : IntKind.i64.wrap ((l.length : Int) - 0) = (l.length : Int) := by rw [wrap_i64 (by omega) (by omega)]; omega
  rw [hw, hq]
  have hq' := Nat.div_le_self l.length 4
  have e0 : IntKind.i64.wrap ((l.length / 4 : Nat) : Int) = ((l.length / 4 : Nat) : Int) := wrap_i64 (by omega) (by omega)
  have e1 : IntKind.i64.wrap (0 + IntKind.i64.wrap (IntKind.i64.wrap ((l.length / 4 : Nat) : Int) * 1)) = ((l.length / 4 : Nat) : Int) := by rw [e0, wrap_i64 (x := _ * 1) (by omega) (by omega), wrap_i64 (by omega) (by omega)]; omega
  have e2 : IntKind.i64.wrap (0 + IntKind.i64.wrap (IntKind.i64.wrap ((l.length / 4 : Nat) : Int) * 2)) = ((l.length / 4 * 2 : Nat) : Int) := by rw [e0, wrap_i64 (x := _ * 2) (by omega) (by omega), wrap_i64 (by omega) (by omega)]; omega
  have e3 : IntKind.i64.wrap (0 + IntKind.i64.wrap (IntKind.i64.wrap ((l.length / 4 : Nat) : Int) * 3)) = ((l.length / 4 * 3 : Nat) : Int) := by rw [e0, wrap_i64 (x := _ * 3) (by omega) (by omega), wrap_i64 (by omega) (by omega)]; omega
  rw [e1, e2, e3, if_pos (by rw [decide_eq_true_eq]; omega)]
  by_cases h50 : 50 ≤ l.length
  · rw [if_pos (by rw [decide_eq_true_eq]; omega), s124_rise h (by omega) (by omega) hl]
    simp only [Option.bind_some]
    rw [s124_rise h (by omega) (by omega) hl]
    simp only [Option.bind_some]
    rw [s124_rise h (by omega) (by omega) hl]
    simp only [Option.bind_some]
    rw [s125_rise h (by omega) (by omega) (by omega)]
    exact ⟨_, rfl⟩
  · rw [if_neg (by rw [decide_eq_true_eq]; omega), s125_rise h (by omega) (by omega) (by omega)]
    exact ⟨_, rfl⟩

theorem s115_rise {l : List Int} (h : l.Pairwise (· < ·)) (hl : l.length ≤ 100000) (h0 : l ≠ []) : S.f115F ((0 : Int), (l.length : Int), l) = some (true, l) := by
  have hpos : 0 < l.length := List.length_pos_iff.2 h0
  unfold S.f115F
  dsimp only
  refine bind_of ⟨Sum.inr (true, l), iter_inr ?_, rfl⟩
  dsimp only
  rw [if_pos (by simp)]
  refine bind_of (x := iter _ _) ?_
  suffices hh : ∃ e, iter _ _ = some e ∧ e = ((l.length : Int), l) by
    obtain ⟨e, h1, rfl⟩ := hh
    refine ⟨_, h1, ?_⟩
    dsimp only
    rw [if_pos (by simp)]
  refine iter_rule (I := fun (s : Int × List Int) => ∃ i : Nat, s = ((i : Int), l) ∧ 1 ≤ i ∧ i ≤ l.length) (Q := fun e => e = ((l.length : Int), l)) (fun s => ((l.length : Int) - s.1).toNat) ?_ _ ⟨1, by rw [wrap_i64 (by omega) (by omega)]; rfl, Nat.le_refl _, hpos⟩
  rintro _ ⟨i, rfl, h1, hi⟩
  dsimp only
  by_cases hil : i < l.length
  · rw [wrap_i64 (by omega) (by omega), if_pos (by rw [decide_eq_true_eq]; omega), if_pos (by omega), if_pos (by omega), s105_eq, show ((i : Int) - 1).toNat = i - 1 by omega, Int.toNat_natCast, getD_lt _ _ hil, getD_lt _ _ (show i - 1 < l.length by omega)]
    have := rise_get h hil (show i - 1 < i by omega)
    simp only [Option.bind_some]
    rw [if_pos (by simp; omega), wrap_i64 (by omega) (by omega)]
    exact .inl ⟨_, rfl, ⟨i + 1, rfl, by omega, hil⟩, by show ((l.length : Int) - ((i : Int) + 1)).toNat < ((l.length : Int) - (i : Int)).toNat; omega⟩
  · rw [if_neg (by rw [decide_eq_true_eq]; omega)]
    simp only [Option.bind_some, Bool.false_eq_true, if_false]
    exact .inr ⟨_, rfl, by rw [show i = l.length by omega]⟩

theorem s101_lit : ∀ n : Nat, n < 1100 → ∃ v, S.f101F (IntKind.u64.wrap (n : Int)) = some v ∧ (12 < n → v ≠ 0) := by
  have h : ∀ n : Nat, n < 1100 → (match S.f101F (IntKind.u64.wrap (n : Int)) with | some v => decide (12 < n → v ≠ 0) | none => false) = true := by decide +kernel
  intro n hn
  have := h n hn
  split at this
  · rename_i v hv; exact ⟨v, hv, of_decide_eq_true this⟩
  · cases this

theorem s74_rise {l : List Int} (h : l.Pairwise (· < ·)) (hl : l.length < 1100) : S.f74F l = some l := by
  obtain ⟨v, h1, h2⟩ := s101_lit l.length hl
  unfold S.f74F
  rw [h1]
  simp only [Option.bind_some]
  unfold S.f100F
  dsimp only
  by_cases h0 : l = []
  · subst h0
    rw [iter_inr (e := []) (by
      dsimp only
      rw [if_pos (by rfl)]
      unfold S.f110F
      dsimp only
      rw [iter_inr (e := []) (by rfl)]
      rfl)]
    rfl
  by_cases h12 : l.length ≤ 12
  · rw [iter_inr (e := l) (by
      dsimp only
      rw [wrap_i64 (by omega) (by omega), if_pos (by rw [decide_eq_true_eq]; omega), s110_rise h (by omega) h0]
      rfl)]
    rfl
  · obtain ⟨w, hw⟩ := s113_rise h (by omega) (by omega)
    rw [iter_inr (e := l) (by
      dsimp only
      rw [wrap_i64 (by omega) (by omega), if_neg (by rw [decide_eq_true_eq]; omega), if_neg (by rw [beq_iff_eq]; exact h2 (by omega)), if_neg (by simp), hw]
      simp only [Option.bind_some]
      rw [if_neg (by decide)]
      simp only [if_true, Option.bind_some, beq_self_eq_true]
      rw [s115_rise h (by omega) h0]
      rfl)]
    rfl

theorem s75_rise {l : List Int} (h : l.Pairwise (· < ·)) (hl : l.length ≤ 100000) : S.f75F l = some l := by
  unfold S.f75F
  by_cases h2 : (l.length : Int) < 2
  · rw [if_pos (by rw [decide_eq_true_eq]; exact h2)]
  rw [if_neg (by rw [decide_eq_true_eq]; exact h2)]
  suffices hh : ∃ r, Option.bind _ _ = some r ∧ r = l by
    obtain ⟨r, h1, rfl⟩ := hh
    exact h1
  refine bind_ex (iter_rule (I := fun (s : Int × List Int) => ∃ i : Nat, s = ((i : Int), l) ∧ 1 ≤ i ∧ i ≤ l.length) (Q := fun e => e = l) (fun s => ((l.length : Int) - s.1).toNat) ?_ _ ⟨1, rfl, Nat.le_refl _, by omega⟩) fun e he => ⟨_, rfl, he⟩
  rintro _ ⟨i, rfl, h1, hi⟩
  dsimp only
  by_cases hil : i < l.length
  · rw [wrap_i64 (x := (i : Int) - 1) (by omega) (by omega), if_pos (by rw [decide_eq_true_eq]; omega), if_pos (by omega), if_pos (by omega), show ((i : Int) - 1).toNat = i - 1 by omega, Int.toNat_natCast, getD_lt _ _ hil, getD_lt _ _ (show i - 1 < l.length by omega)]
    have := rise_get h hil (show i - 1 < i by omega)
    rw [if_neg (by rw [beq_iff_eq]; omega), wrap_i64 (by omega) (by omega)]
    exact .inl ⟨_, rfl, ⟨i + 1, rfl, by omega, hil⟩, by show ((l.length : Int) - ((i : Int) + 1)).toNat < ((l.length : Int) - (i : Int)).toNat; omega⟩
  · rw [if_neg (by rw [decide_eq_true_eq]; omega)]
    exact .inr ⟨_, rfl, rfl⟩
end Go.Sx
