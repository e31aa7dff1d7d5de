/- Base, plain: the law BaseSkips. -/
import Derived.Test.YtjmdfkcgglidaaaDoorSxU9
import Derived.Test.YtjmdfkcgglidaaaDoorSxT2b
set_option linter.unusedVariables false
set_option linter.unusedSimpArgs false
namespace Go.Sx
theorem deepS_cons (c : Int) (w : List Int) (d : Nat) : deepS (c :: w) d = if c = 10 then none else if opens c = true then deepS w (d + 1) else if c = 22 then (if d = 0 then none else deepS w (d - 1)) else deepS w d := rfl
theorem baseSkips_core (l w : List Int) (dir : Int) : G.f5F (l, w, dir) = some true := by
  unfold G.f5F
  rw [alive]
  simp only [Option.bind_some, Bool.not_true, Bool.false_eq_true, if_false]
  by_cases h1 : (l.length : Int) > 300
  · rw [if_pos (by rw [decide_eq_true_eq]; exact h1)]; rfl
  rw [if_neg (by rw [decide_eq_true_eq]; exact h1)]
  simp only [Option.bind_some]
  by_cases h2 : (w.length : Int) > 300
  · rw [if_pos (by rw [decide_eq_true_eq]; exact h2)]
  rw [if_neg (by rw [decide_eq_true_eq]; exact h2)]
  suffices hh : ∃ r, Option.bind _ _ = some r ∧ r = true by
    obtain ⟨r, h, rfl⟩ := hh
    exact h
  refine bind_ex (Q := fun e : Int ⊕ Bool => e = .inr true ∨ ∃ d : Nat, e = .inl (d : Int) ∧ deepS w 0 = some d) (iter_rule (I := fun s : Int × Int => ∃ i d : Nat, s = ((d : Int), (i : Int)) ∧ i ≤ w.length ∧ d ≤ i ∧ deepS (w.drop i) d = deepS w 0) (fun s => ((w.length : Int) - s.2).toNat) ?_ _ ⟨0, 0, rfl, Nat.zero_le _, Nat.le_refl _, rfl⟩) ?_
  · rintro _ ⟨i, d, rfl, hi, hd, hI⟩
    dsimp only
    by_cases hil : i < w.length
    rotate_left
    · rw [if_neg (by rw [decide_eq_true_eq]; omega)]
      rw [List.drop_of_length_le (by omega)] at hI
      exact .inr ⟨_, rfl, .inr ⟨d, rfl, hI.symm⟩⟩
    have hb : (0 : Int) ≤ i ∧ (i : Int) < w.length := by omega
    have hg : w.getD i 0 = w[i] := by simp [List.getD_eq_getElem?_getD, hil]
    rw [List.drop_eq_getElem_cons hil] at hI
    rw [if_pos (by rw [decide_eq_true_eq]; omega)]
    simp only [if_pos hb, Int.toNat_natCast, hg, f22_eq, Option.bind_some]
    generalize w[i] = c at *
    rw [deepS_cons] at hI
    by_cases h10 : c = 10
    · subst h10
      have ho : opens 10 = false := by decide
      rw [ho]
      simp only [Bool.false_eq_true, if_false, Option.bind_some]
      rw [if_neg (by decide)]
      simp only [Option.bind_some]
      rw [if_neg (by rw [decide_eq_true_eq]; omega)]
      exact .inr ⟨_, rfl, .inl rfl⟩
    rw [if_neg h10] at hI
    by_cases h22 : c = 22
    · subst h22
      have ho : opens 22 = false := by decide
      rw [ho] at hI ⊢
      rw [if_neg (by decide), if_pos rfl] at hI
      simp only [Bool.false_eq_true, if_false, Option.bind_some]
      rw [if_pos (by decide), wrap_i64 (x := (d : Int) - 1) (by omega) (by omega)]
      simp only [Option.bind_some]
      by_cases h0 : d = 0
      · subst h0
        rw [if_pos (by decide)]
        exact .inr ⟨_, rfl, .inl rfl⟩
      · rw [if_neg h0] at hI
        rw [if_neg (by rw [decide_eq_true_eq]; omega), wrap_i64 (x := (i : Int) + 1) (by omega) (by omega)]
        refine .inl ⟨_, rfl, ⟨i + 1, d - 1, ?_, hil, by omega, hI⟩, by show ((w.length : Int) - ((i : Int) + 1)).toNat < ((w.length : Int) - (i : Int)).toNat; omega⟩
        rw [show ((d - 1 : Nat) : Int) = (d : Int) - 1 by omega]
        rfl
    · have he : (c == (22 : Int)) = false := by rw [beq_eq_false_iff_ne]; exact h22
      have he2 : (c == (10 : Int)) = false := by rw [beq_eq_false_iff_ne]; exact h10
      rw [if_neg h22] at hI
      cases ho : opens c with
      | true =>
        rw [ho, if_pos rfl] at hI
        simp only [if_true, Option.bind_some, he, Bool.false_eq_true, if_false]
        rw [wrap_i64 (x := (d : Int) + 1) (by omega) (by omega), if_neg (by rw [decide_eq_true_eq]; omega), he2, wrap_i64 (x := (i : Int) + 1) (by omega) (by omega)]
        simp only [Option.bind_some, Bool.false_eq_true, if_false]
        exact .inl ⟨_, rfl, ⟨i + 1, d + 1, rfl, hil, by omega, hI⟩, by show ((w.length : Int) - ((i : Int) + 1)).toNat < ((w.length : Int) - (i : Int)).toNat; omega⟩
      | false =>
        rw [ho, if_neg (by decide)] at hI
        simp only [Option.bind_some, he, Bool.false_eq_true, if_false]
        rw [if_neg (by rw [decide_eq_true_eq]; omega), he2, wrap_i64 (x := (i : Int) + 1) (by omega) (by omega)]
        simp only [Option.bind_some, Bool.false_eq_true, if_false]
        exact .inl ⟨_, rfl, ⟨i + 1, d, rfl, hil, by omega, hI⟩, by show ((w.length : Int) - ((i : Int) + 1)).toNat < ((w.length : Int) - (i : Int)).toNat; omega⟩
  · rintro _ (rfl | ⟨d, rfl, hd⟩)
    · exact ⟨_, rfl, rfl⟩
    · refine ⟨_, ?_, rfl⟩
      dsimp only [Sum.elim_inl]
      by_cases h0 : d = 0
      · subst h0
        have hA : ([21] ++ w ++ [22] ++ l).length ≤ 100000 := by simp; omega
        have hB : ([21] ++ w ++ [22]).length ≤ 100000 := by simp; omega
        rw [if_neg (by decide), if_pos (by unfold roomOk; show (0 + 1 + w.length) * 8 ≤ _; omega), if_pos (by unfold roomOk; simp; omega), if_pos (by unfold roomOk; simp; omega), f18_eq hA, f18_eq (by omega : l.length ≤ 100000)]
        simp only [Option.bind_some]
        rw [skip_level hd l dir, if_pos (by simp), f20_eq hB, f18_eq (by omega : w.length ≤ 100000)]
        simp only [Option.bind_some]
        rw [skip_iso hd]
        simp
      · rw [if_pos (by rw [bne_iff_ne]; omega)]
theorem baseSkips_pure (x : List Int × List Int × Int) (h : wfTup [.sl (.int .i64), .sl (.int .i64), .int .i64] x) : G.f5F x = some true := by
  obtain ⟨l, w, dir⟩ := x
  exact baseSkips_core l w dir
end Go.Sx
