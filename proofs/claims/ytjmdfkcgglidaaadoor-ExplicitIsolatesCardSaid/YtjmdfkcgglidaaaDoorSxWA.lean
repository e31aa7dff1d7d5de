import Derived.Test.YtjmdfkcgglidaaaDoorSxW9
set_option linter.unusedVariables false
set_option linter.unusedSimpArgs false
namespace Go.Sx

theorem step_take {l : List Int} {k i : Nat} (hk : k ≤ l.length) (hi : i < k) (h21 : l.getD i 0 ≠ 21) (s : St) : s.step (l.take k) i = s.step l i := by
  have hg : (l.take k).getD i 0 = l.getD i 0 := by
    simp only [List.getD_eq_getElem?_getD, List.getElem?_take, hi, if_true]
  have hiso : opens (l.getD i 0) = true → isoS (l.take k) i = isoS l i := by
    intro ho
    have ht : (l.take k).length = k := by simp; omega
    unfold isoS
    rw [Int.toNat_natCast, hg, ho, ht]
    rw [if_neg (show ¬ ((i : Int) < 0 ∨ (k : Int) ≤ i ∨ true = false) by simp; omega), if_neg (show ¬ ((i : Int) < 0 ∨ (l.length : Int) ≤ i ∨ true = false) by simp; omega), if_pos h21, if_pos h21]
  unfold St.step
  simp only [hg]
  cases ho : opens (l.getD i 0) with
  | true => rw [hiso ho]
  | false => rfl

theorem runS_take {l : List Int} {k : Nat} (hk : k ≤ l.length) (h21 : ∀ i, i < k → l.getD i 0 ≠ 21) (b : Int) : ∀ j, j ≤ k → runS (l.take k) b j = runS l b j
  | 0, _ => rfl
  | j + 1, hj => by rw [runS_succ, runS_succ, runS_take hk h21 b j (by omega), step_take hk (by omega) (h21 j (by omega))]

theorem runS_lv {b : Int} (hb : b = 0 ∨ b = 1) (l : List Int) (k : Nat) : ∀ n, k ≤ n → (runS l b n).lv.take k = (runS l b k).lv ∧ (runS l b n).cl.take k = (runS l b k).cl
  | 0, h => by
    have : k = 0 := by omega
    subst this
    exact ⟨rfl, rfl⟩
  | n + 1, h => by
    obtain ⟨h1, h2, h3, h4, _⟩ := runS_told hb l n
    by_cases hn : k = n + 1
    · subst hn
      obtain ⟨_, _, g3, g4, _⟩ := runS_told hb l (n + 1)
      exact ⟨List.take_of_length_le (by omega), List.take_of_length_le (by omega)⟩
    · obtain ⟨⟨⟨x, y, g1, g2, _⟩, _⟩, _⟩ := step_told (runS_inv hb l n) h1 l n
      obtain ⟨k1, k2⟩ := runS_lv hb l k n (by omega)
      rw [runS_succ, g1, g2, List.take_append_of_le_length (by omega), List.take_append_of_le_length (by omega)]
      exact ⟨k1, k2⟩

theorem step_most (s : St) (l : List Int) (i : Nat) : s.most ≤ (s.step l i).most := by
  have e1 : ∀ (s : St) d o, s.most ≤ (s.embed d o).most := fun s d o => by
    unfold St.embed
    split
    · simp [St.push]; omega
    · split <;> exact Int.le_refl _
  have e2 : ∀ (s : St) d, s.most ≤ (s.iso d).most := fun s d => by
    unfold St.iso
    split
    · simp [St.push]; omega
    · exact Int.le_refl _
  have e3 : ∀ (s : St), s.most ≤ s.back.most := fun s => by
    unfold St.back
    split
    · exact Int.le_refl _
    · split
      · exact Int.le_refl _
      · split <;> exact Int.le_refl _
  have e4 : ∀ (s : St), s.most ≤ s.fin.most := fun s => by
    unfold St.fin
    split
    · exact Int.le_refl _
    · split <;> exact Int.le_refl _
  unfold St.step
  simp only []
  generalize l.getD i 0 = c
  split
  · exact e1 (s.tell _ _) _ _
  split
  · exact e1 (s.tell _ _) _ _
  split
  · exact e1 (s.tell _ _) _ _
  split
  · exact e1 (s.tell _ _) _ _
  split
  · exact e3 (s.tell _ _)
  split
  · exact Int.le_refl _
  split
  · exact e2 (s.place _) _
  split
  · exact e4 s
  split
  · simp [St.tell, St.reset]; omega
  split <;> exact Int.le_refl _

theorem runS_most (l : List Int) (b : Int) (k : Nat) : ∀ n, k ≤ n → (runS l b k).most ≤ (runS l b n).most
  | 0, h => by
    have : k = 0 := by omega
    subst this
    exact Int.le_refl _
  | n + 1, h => by
    by_cases hn : k = n + 1
    · subst hn; exact Int.le_refl _
    · rw [runS_succ]
      exact Int.le_trans (runS_most l b k n (by omega)) (step_most _ _ _)

theorem explicitBegins_pure (x : List Int × Int × Bool) (h : wfTup [.sl (.int .i64), .int .u16, .bool] x) : G.f11F x = some true := by
  obtain ⟨l, cut, right⟩ := x
  have hc : 0 ≤ cut ∧ cut ≤ 65535 := by
    have := h.2.1
    simpa [Ty.wf, IntKind.min, IntKind.max, IntKind.signed, IntKind.bits] using this
  unfold G.f11F
  rw [aliveE]
  simp only [Option.bind_some, Bool.not_true, Bool.false_eq_true, if_false]
  by_cases hlen : (l.length : Int) > 300
  · rw [if_pos (by rw [decide_eq_true_eq]; exact hlen)]
  · rw [if_neg (by rw [decide_eq_true_eq]; exact hlen)]
    obtain ⟨n, hn, hnn, hbase⟩ : ∃ n : Int, (if right = true then some (1 : Int) else some 0) = some n ∧ (n = 0 ∨ n = 1) ∧ baseOf n = n := by
      cases right
      · exact ⟨0, rfl, .inl rfl, rfl⟩
      · exact ⟨1, rfl, .inr rfl, rfl⟩
    rw [hn]
    simp only [Option.bind_some, wrap_i64 (show -9223372036854775808 ≤ cut by omega) (by omega), wrap_i64 (show -9223372036854775808 ≤ (l.length : Int) + 1 by omega) (by omega)]
    rw [if_neg (by omega)]
    obtain ⟨k0, k1⟩ := tmod_bounds hc.1 (show (0 : Int) < (l.length : Int) + 1 by omega)
    obtain ⟨k, hk⟩ := Int.eq_ofNat_of_zero_le k0
    rw [hk] at k1 ⊢
    have hkl : k ≤ l.length := by omega
    suffices hh : ∃ r, Option.bind _ _ = some r ∧ r = true by
      obtain ⟨r, h1, rfl⟩ := hh
      exact h1
    refine bind_ex (iter_rule (I := fun (t : Int) => ∃ i : Nat, t = (i : Int) ∧ i ≤ k ∧ ∀ j, j < i → l.getD j 0 ≠ 21)
      (Q := fun e => e = Sum.inr true ∨ (e = Sum.inl () ∧ ∀ j, j < k → l.getD j 0 ≠ 21)) (fun (t : Int) => ((l.length : Int) - t).toNat) ?_ _ ⟨0, rfl, Nat.zero_le _, fun j hj => by omega⟩) ?_
    · rintro _ ⟨i, rfl, hi, hp⟩
      by_cases hik : i < k
      · have hb : (0 : Int) ≤ i ∧ (i : Int) < l.length := ⟨by omega, by omega⟩
        rw [if_pos (by rw [decide_eq_true_eq]; omega), if_pos hb, Int.toNat_natCast]
        by_cases h21 : l.getD i 0 = 21
        · rw [if_pos (by rw [beq_iff_eq]; exact h21)]
          exact .inr ⟨_, rfl, .inl rfl⟩
        · rw [if_neg (by rw [beq_iff_eq]; exact h21), wrap_i64 (by omega) (by omega)]
          refine .inl ⟨_, rfl, ⟨i + 1, by omega, hik, fun j hj => ?_⟩, by omega⟩
          by_cases hji : j = i
          · subst hji; exact h21
          · exact hp j (by omega)
      · rw [if_neg (by rw [decide_eq_true_eq]; omega)]
        exact .inr ⟨_, rfl, .inr ⟨rfl, fun j hj => hp j (by omega)⟩⟩
    · rintro _ (rfl | ⟨rfl, hp⟩)
      · exact ⟨true, rfl, rfl⟩
      · simp only [Sum.elim_inl]
        have hl : l.length ≤ 99000 := by omega
        have ht : (l.take k).length = k := by simp; omega
        obtain ⟨_, _, g3, g4, _⟩ := runS_told hnn l l.length
        obtain ⟨q1, q2⟩ := runS_lv hnn l k l.length hkl
        have hrt := runS_take hkl hp n k (Nat.le_refl k)
        obtain ⟨_, _, r3, r4, _⟩ := runS_told hnn l k
        have hm := runS_most l n k l.length hkl
        have hb : (0 : Int) ≤ (k : Int) ∧ (k : Int) ≤ l.length := ⟨by omega, by omega⟩
        have hb3 : (0 : Int) ≤ (k : Int) ∧ (k : Int) ≤ (runS l n l.length).lv.length := by rw [g3]; exact hb
        have hb4 : (0 : Int) ≤ (k : Int) ∧ (k : Int) ≤ (runS l n l.length).cl.length := by rw [g4]; exact hb
        simp only [f24_eq hl, f26_eq hl, f24_eq (show (l.take k).length ≤ 99000 by omega), f26_eq (show (l.take k).length ≤ 99000 by omega), hbase, Option.bind_some, if_pos hb, Int.toNat_natCast, ht, hrt, if_pos hb3, if_pos hb4, q1, q2,
          f13_eq (runS l n k).lv (runS l n k).lv (by omega), f13_eq (runS l n k).cl (runS l n k).cl (by omega), decide_true, if_true, g3, g4, beq_self_eq_true, hm]
        exact ⟨true, rfl, rfl⟩
end Go.Sx
