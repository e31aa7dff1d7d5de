import Derived.Test.YtjmdfkcgglidaaaDoorSxW9
set_option linter.unusedVariables false
set_option linter.unusedSimpArgs false
namespace Go.Sx

theorem explicitBounds_pure (x : List Int × Bool) (h : wfTup [.sl (.int .i64), .bool] x) : G.f8F x = some true := by
  obtain ⟨l, right⟩ := x
  unfold G.f8F
  rw [aliveE]
  simp only [Option.bind_some, Bool.not_true, Bool.false_eq_true, if_false]
  by_cases hlen : (l.length : Int) > 500
  · rw [if_pos (by rw [decide_eq_true_eq]; exact hlen)]
  · rw [if_neg (by rw [decide_eq_true_eq]; exact hlen)]
    have hl : l.length ≤ 99000 := by omega
    obtain ⟨n, hn, hnn, hbase⟩ : ∃ n : Int, (if right = true then some (1 : Int) else some 0) = some n ∧ (n = 0 ∨ n = 1) ∧ baseOf n = n := by
      cases right
      · exact ⟨0, rfl, .inl rfl, rfl⟩
      · exact ⟨1, rfl, .inr rfl, rfl⟩
    rw [hn]
    simp only [Option.bind_some, f24_eq hl, f26_eq hl, hbase]
    obtain ⟨hB, _, h3, h4, h5⟩ := runS_told hnn l l.length
    have hpl := runS_plain hnn l l.length
    have hm0 := hB.m0
    have hm1 := hB.m1
    generalize runS l n l.length = s at *
    rw [if_neg (by rw [bne_iff_ne, h3]; simp), if_neg (by rw [bne_iff_ne, h4]; simp), if_neg (by rw [decide_eq_true_eq]; omega)]
    simp only [Option.bind_some]
    rw [if_neg (by rw [decide_eq_true_eq]; omega)]
    suffices hh : ∃ r, Option.bind _ _ = some r ∧ r = true by
      obtain ⟨r, h1, rfl⟩ := hh
      exact h1
    refine bind_ex (iter_rule (I := fun st => ∃ i : Nat, st.2 = (i : Int) ∧ i ≤ l.length ∧ (st.1 = true → ∀ j, j < i → plainK (l.getD j 0) = true))
      (Q := fun e => ∃ p, e = Sum.inl p ∧ (p = true → ∀ j, j < l.length → plainK (l.getD j 0) = true)) (fun st => ((l.length : Int) - st.2).toNat) ?_ _ ⟨0, rfl, Nat.zero_le _, fun _ j hj => by omega⟩) ?_
    · rintro ⟨p, q⟩ ⟨i, hq, hi, hp⟩
      simp only at hq hp ⊢
      subst hq
      by_cases hil : i < l.length
      · have hb : (0 : Int) ≤ i ∧ (i : Int) < l.length := ⟨by omega, by omega⟩
        have hb3 : (0 : Int) ≤ i ∧ (i : Int) < s.lv.length := by rw [h3]; exact hb
        have hb4 : (0 : Int) ≤ i ∧ (i : Int) < s.cl.length := by rw [h4]; exact hb
        obtain ⟨k1, k2, k3, k4⟩ := h5 i hil
        have hwr : IntKind.i64.wrap ((i : Int) + 1) = ((i + 1 : Nat) : Int) := by rw [wrap_i64 (by omega) (by omega)]; rfl
        rw [if_pos (by rw [decide_eq_true_eq]; omega)]
        simp only [if_pos hb, if_pos hb3, if_pos hb4, Int.toNat_natCast, f30_eq, f22_eq, Option.bind_some, hwr]
        rw [if_neg (by rw [decide_eq_true_eq]; omega), if_neg (by rw [decide_eq_true_eq]; omega), if_neg (by rw [k3]; simp)]
        have e10 : (if (l.getD i 0 == (10 : Int)) = true then some (s.lv.getD i 0 != n) else some false) = some false := by
          by_cases h10 : l.getD i 0 = 10
          · rw [if_pos (by rw [beq_iff_eq]; exact h10), k4 h10]; simp
          · rw [if_neg (by rw [beq_iff_eq]; exact h10)]
        rw [e10]
        simp only [Option.bind_some, Bool.false_eq_true, if_false]
        have step : ∀ p' : Bool, (p' = true → p = true ∧ plainK (l.getD i 0) = true) → ∃ s', some (Sum.inl (p', ((i + 1 : Nat) : Int))) = some (Sum.inl s' : (Bool × Int) ⊕ (Bool ⊕ Bool)) ∧
            (∃ j : Nat, s'.2 = (j : Int) ∧ j ≤ l.length ∧ (s'.1 = true → ∀ m, m < j → plainK (l.getD m 0) = true)) ∧ ((l.length : Int) - s'.2).toNat < ((l.length : Int) - i).toNat := by
          intro p' hp'
          refine ⟨_, rfl, ⟨i + 1, rfl, hil, fun he m hm => ?_⟩, by simp only []; omega⟩
          obtain ⟨q1, q2⟩ := hp' he
          by_cases hmi : m = i
          · subst hmi; exact q2
          · exact hp q1 m (by omega)
        left
        cases p with
        | false => simp only [Bool.false_eq_true, if_false]; exact step false (fun h => by cases h)
        | true =>
          simp only [if_true]
          cases ho : outS (l.getD i 0) with
          | true => simp only [Bool.not_true, Bool.false_eq_true, if_false]; exact step false (fun h => by cases h)
          | false =>
            simp only [Bool.not_false, if_true]
            cases hop : opens (l.getD i 0) with
            | true => simp only [Bool.not_true, Bool.false_eq_true, if_false]; exact step false (fun h => by cases h)
            | false =>
              simp only [Bool.not_false, if_true]
              exact step _ (fun h => ⟨rfl, by unfold plainK; rw [ho, hop, h]; rfl⟩)
      · rw [if_neg (by rw [decide_eq_true_eq]; omega)]
        exact .inr ⟨_, rfl, p, rfl, fun he j hj => hp he j (by omega)⟩
    · rintro _ ⟨p, rfl, hp⟩
      simp only [Sum.elim_inl]
      refine bind_ex (iter_rule (I := fun (t : Int) => ∃ i : Nat, t = (i : Int) ∧ i ≤ l.length) (Q := fun e => e = Sum.inl ()) (fun (t : Int) => ((l.length : Int) - t).toNat) ?_ _ ⟨0, rfl, Nat.zero_le _⟩) ?_
      · rintro _ ⟨i, rfl, hi⟩
        try simp only []
        by_cases hil : i < l.length
        · rw [if_pos (by rw [decide_eq_true_eq]; omega)]
          simp only [Option.bind_some]
          cases p with
          | false => exact .inr ⟨_, rfl, rfl⟩
          | true =>
            have hb : (0 : Int) ≤ i ∧ (i : Int) < l.length := ⟨by omega, by omega⟩
            have hb3 : (0 : Int) ≤ i ∧ (i : Int) < s.lv.length := by rw [h3]; exact hb
            have hb4 : (0 : Int) ≤ i ∧ (i : Int) < s.cl.length := by rw [h4]; exact hb
            obtain ⟨_, _, k⟩ := hpl (hp rfl)
            obtain ⟨k1, k2⟩ := k i hil
            obtain ⟨b, hb1, hb2⟩ := f31_eq (l.getD i 0)
            simp only [if_true, if_pos hb, if_pos hb3, if_pos hb4, Int.toNat_natCast, k1, k2, hb1, hb2, Option.bind_some, bne_self_eq_false, Bool.false_eq_true, if_false]
            have e : (if ((if l.getD i 0 < 0 ∨ 23 ≤ l.getD i 0 then 0 else l.getD i 0) != l.getD i 0) = true then some (!decide (l.getD i 0 < 0 ∨ 23 ≤ l.getD i 0)) else some false) = some false := by
              by_cases hw : l.getD i 0 < 0 ∨ 23 ≤ l.getD i 0
              · rw [decide_eq_true hw]; simp
              · rw [if_neg hw]; simp
            rw [e]
            simp only [Option.bind_some, Bool.false_eq_true, if_false]
            rw [wrap_i64 (by omega) (by omega)]
            exact .inl ⟨_, rfl, ⟨i + 1, by omega, hil⟩, by omega⟩
        · rw [if_neg (by rw [decide_eq_true_eq]; omega)]
          simp only [Option.bind_some, Bool.false_eq_true, if_false]
          exact .inr ⟨_, rfl, rfl⟩
      · rintro _ rfl
        exact ⟨true, rfl, rfl⟩
end Go.Sx
