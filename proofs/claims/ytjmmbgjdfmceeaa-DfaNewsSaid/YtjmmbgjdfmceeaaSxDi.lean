/- Dfa: the law 'DfaNews'. -/
import Derived.Test.YtjmmbgjdfmceeaaSxDh
set_option linter.unusedVariables false
set_option linter.unusedSimpArgs false
namespace Go.Sx
theorem rightS_big {p : List Inst} (h : 1000 < p.length) : rightS p = false := by
  unfold rightS
  rw [decide_eq_false (show ¬ p.length ≤ 1000 by omega)]
  simp
theorem s42_any (p : List Inst) : D.f42F p = some (rightS p) := by
  by_cases hl : p.length ≤ 100000
  · exact s42_eq p hl
  · rw [rightS_big (by omega)]
    unfold D.f42F
    rw [if_neg (by simp only [beq_iff_eq]; omega), if_pos (by rw [decide_eq_true_eq]; omega)]
    rfl
theorem s26_any (p : List Inst) : D.f26F p = some (rightS p) := by
  by_cases hl : p.length ≤ 100000
  · exact s26_eq p hl
  · rw [rightS_big (by omega)]
    unfold D.f26F
    rw [if_neg (by rw [decide_eq_true_eq]; omega), if_pos (by rw [decide_eq_true_eq]; omega)]
    rfl
theorem s15_some (p : List Inst) (hl : p.length ≤ 9223372036854775807) : ∃ b, D.f15F p = some b := by
  unfold D.f15F
  suffices hh : ∃ r, Option.bind _ _ = some r ∧ True by
    obtain ⟨r, h, _⟩ := hh
    exact ⟨r, h⟩
  refine bind_ex (iter_rule (I := fun (s : Int × Int) => ∃ i : Nat, s.2 = (i : Int) ∧ i ≤ p.length) (Q := fun _ => True) (fun s => ((p.length : Int) - s.2).toNat) ?_ _ ⟨0, rfl, Nat.zero_le _⟩) fun e _ => ⟨_, rfl, trivial⟩
  rintro ⟨n, q⟩ ⟨i, hq, hi⟩
  dsimp only at hq ⊢
  subst hq
  by_cases hil : i < p.length
  · rw [if_pos (by rw [decide_eq_true_eq]; omega)]
    simp only [Option.bind_some]
    by_cases hn : n ≤ 1000
    · rw [if_pos (by rw [decide_eq_true_eq]; exact hn), if_pos (by omega), wrap_i64 (x := (i : Int) + 1) (by omega) (by omega)]
      exact .inl ⟨_, rfl, ⟨i + 1, rfl, hil⟩, by show ((p.length : Int) - ((i : Int) + 1)).toNat < ((p.length : Int) - (i : Int)).toNat; omega⟩
    · rw [if_neg (by rw [decide_eq_true_eq]; exact hn)]
      exact .inr ⟨_, rfl, trivial⟩
  · rw [if_neg (by rw [decide_eq_true_eq]; omega)]
    simp only [Option.bind_some, Bool.false_eq_true, if_false]
    exact .inr ⟨_, rfl, trivial⟩
theorem d30_empty (most fl : Int) (S : List StD) : D.f30F ([], most, S, fl) = some false := d30_false (by rfl) (by simp) most fl S
theorem dfaNews_core (p : List Inst) (hl : p.length ≤ 9223372036854775807) (hr : ranged p) (most : Int) : D.f9F (p, most) = some true := by
  unfold D.f9F
  rw [d27_alive]
  simp only [Option.bind_some, Bool.not_true, Bool.false_eq_true, if_false]
  obtain ⟨b, hb⟩ := s15_some p hl
  rw [hb]
  simp only [Option.bind_some]
  cases b with
  | true => rw [if_pos (by rfl)]
  | false =>
  rw [if_neg (by decide), s26_any]
  cases hp : rightS p with
  | false =>
    have h28 : D.f28F (p, most) = some (([], 0, [], 0), 1) := by
      unfold D.f28F
      dsimp only
      rw [s42_any, hp]; rfl
    rw [h28]
    simp only [Option.bind_some, Bool.not_false, if_true]
    rw [if_pos (by decide), d30_empty]
    rfl
  | true =>
    obtain ⟨hp0, _, hp1⟩ := rightS_last hp
    rw [d28_eq (by omega) most, hp]
    simp only [Option.bind_some, Bool.not_true, Bool.false_eq_true, if_false, Bool.true_eq_false]
    by_cases hm : most < 2 ∨ most > 1000
    · rw [if_pos hm]
      have hcond : (if decide (most < 2) = true then some (true, ([] : List Inst), (0 : Int), ([] : List StD), (0 : Int)) else some (decide (most > 1000), [], 0, [], 0)) = some (true, [], 0, [], 0) := by
        by_cases h1 : most < 2
        · rw [if_pos (by rw [decide_eq_true_eq]; exact h1)]
        · rw [if_neg (by rw [decide_eq_true_eq]; exact h1), decide_eq_true (hm.resolve_left h1)]
      dsimp only
      rw [hcond]
      simp only [Option.bind_some, if_true]
      rw [if_pos (by decide), d30_empty]
      rfl
    · rw [if_neg hm]
      have hcond : (if decide (most < 2) = true then some (true, p, most, ([] : List StD), (0 : Int)) else some (decide (most > 1000), p, most, [], 0)) = some (false, p, most, [], 0) := by
        rw [if_neg (by rw [decide_eq_true_eq]; omega), decide_eq_false (by omega)]
      dsimp only
      rw [hcond]
      simp only [Option.bind_some, Bool.false_eq_true, if_false]
      have hz := zero_ok hp
      have hS0 : Small ([] : List StD) 0 := ⟨by simp, fun s hs => by simp at hs, fun s hs => by simp at hs⟩
      have e1 : findS most ([] : List StD) 0 [0] true = ([([0], true, [])], 0, 0, false) := by
        unfold findS
        rw [if_neg (by decide), if_neg (by simp; omega)]
        rfl
      have e2 : findS most [(([0] : List Int), true, ([] : List (Int × Int)))] 0 [0] false = ([([0], true, []), ([0], false, [])], 0, 1, false) := by
        unfold findS
        rw [if_neg (by decide), if_neg (by simp; omega)]
        rfl
      have e3 : findS most [(([0] : List Int), true, ([] : List (Int × Int))), ([0], false, [])] 0 [0] true = ([([0], true, []), ([0], false, [])], 0, 0, false) := by
        unfold findS
        rw [if_pos (by decide)]
        rfl
      obtain ⟨T1, _, _, _, a1, a2, a3, _⟩ := findS_ok (CacheI.nil p) (by simp; omega : (([] : List StD).length : Int) ≤ most) (by omega : 1 ≤ most) 0 (b := true) hz
      rw [e1] at a1
      simp only [Prod.mk.injEq] at a1
      obtain ⟨rfl, _⟩ := a1
      obtain ⟨T2, _, _, _, b1, b2, b3, _⟩ := findS_ok a2 a3 (by omega : 1 ≤ most) 0 (b := false) hz
      rw [e2] at b1
      simp only [Prod.mk.injEq] at b1
      obtain ⟨rfl, _⟩ := b1
      have hS1 : Small [(([0] : List Int), true, ([] : List (Int × Int)))] 0 := ⟨by simp, fun s hs => by simp at hs; subst hs; simp, fun s hs => by simp at hs; subst hs; simp⟩
      have hS2 : Small [(([0] : List Int), true, ([] : List (Int × Int))), ([0], false, [])] 0 := ⟨by simp, fun s hs => by simp at hs; rcases hs with rfl | rfl <;> simp, fun s hs => by simp at hs; rcases hs with rfl | rfl <;> simp⟩
      rw [d31_eq hp hr hS0 (by omega) (by omega) (by omega) (by simp; omega) (CacheI.nil p) hz true, e1]
      simp only [Option.bind_some]
      rw [d31_eq hp hr hS1 (by omega) (by omega) (by omega) a3 a2 hz false, e2]
      simp only [Option.bind_some]
      rw [d31_eq hp hr hS2 (by omega) (by omega) (by omega) b3 b2 hz true, e3]
      simp only [Option.bind_some]
      rw [if_pos (by decide), d30_true hp hr hS0 (by omega) (by omega) (by omega) (by simp; omega) (CacheI.nil p)]
      simp only [Option.bind_some, if_true]
      rw [if_pos (by decide), if_pos (by decide), if_pos (by decide), if_pos (by decide), if_pos (by decide), d33_self (by omega) hr hS2 (by omega)]
      rfl
theorem ranged_of {p : List Inst} (h : ∀ y ∈ p, Ty.wf (.st (.pair (.int .i64) (.pair (.sl (.st (.pair (.int .i64) (.int .i64)))) (.pair (.int .i64) (.int .i64))))) y) : ranged p := fun x hx => (h x hx).2.1.1
theorem dfaNews_pure (x : List Inst × Int) (h : wfTup [.sl (.st (.pair (.int .i64) (.pair (.sl (.st (.pair (.int .i64) (.int .i64)))) (.pair (.int .i64) (.int .i64))))), .int .i64] x) : D.f9F x = some true := by
  obtain ⟨p, most⟩ := x
  exact dfaNews_core p h.1.1 (ranged_of h.1.2) most
end Go.Sx
