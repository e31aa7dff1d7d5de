/- Tour: what the told functions of layer 25 are, of keys that are whole; going round. -/
import Derived.Test.YtpmbmobjnknnhaaSxOc
import Derived.Test.YtpmbmobjnknnhaaSxOd
set_option linter.unusedVariables false
set_option linter.unusedSimpArgs false
namespace Go.Sx
def kOf (p : Int × Int) : Nat × Nat := (fOfInt p.1, fOfInt p.2)
def inK (p : Int × Int) : Prop := 0 ≤ p.1 ∧ p.1 ≤ 65535 ∧ 0 ≤ p.2 ∧ p.2 ≤ 65535
def code (p : Int × Int) : Int := p.1 * 65536 + p.2
theorem code_inj {p q : Int × Int} (hp : inK p) (hq : inK q) (h : code p = code q) : p = q := by
  obtain ⟨a, b⟩ := p
  obtain ⟨c, d⟩ := q
  simp only [code, inK] at *
  rw [Prod.mk.injEq]
  omega
theorem u36_eq {n : Int} (h0 : 0 ≤ n) (h1 : n ≤ 65535) : U.f36F (fOfInt n) = some true := by
  have hi := IV_of (n := n) (by omega)
  have ht := fTrunc_iv hi (by omega)
  unfold U.f36F
  have e1 : (fOrd (fOfInt n) 0 .gt || fOrd (fOfInt n) 0 .eq) = true := by
    rw [fOrd_iv hi IV_zero, fOrd_iv hi IV_zero]
    simp only [Bool.or_eq_true, beq_iff_eq]
    by_cases hn : n = 0
    · right; subst hn; rfl
    · left; exact Int.compare_eq_gt.2 (by omega)
  have e2 : (fOrd (fOfInt n) 4697254411347427328 .lt || fOrd (fOfInt n) 4697254411347427328 .eq) = true := by
    rw [fOrd_iv hi IV_top, fOrd_iv hi IV_top]
    simp only [Bool.or_eq_true, beq_iff_eq]
    left
    exact Int.compare_eq_lt.2 (by omega)
  rw [if_pos e1, if_pos e2]
  have e3 : U.truncF (fOfInt n) = some (fTrunc (fOfInt n)) := by
    unfold U.truncF
    obtain ⟨k, hk⟩ := hi
    rw [hk, if_neg (by simp [Ieee.Datum.isNaN])]
  rw [e3]
  simp only [Option.bind_some]
  have e4 : fOrd (fTrunc (fOfInt n)) (fOfInt n) .eq = true := by
    rw [fOrd_iv ht hi]
    simp
  exact congrArg some e4
theorem u18_eq {p : Int × Int} (h : inK p) : U.f18F (kOf p) = some true := by
  obtain ⟨h1, h2, h3, h4⟩ := h
  unfold U.f18F kOf
  dsimp only
  rw [u36_eq h1 h2]
  simp only [Option.bind_some, if_true]
  rw [u36_eq h3 h4]
  rfl
theorem u27_eq {p q : Int × Int} (hp : inK p) (hq : inK q) : U.f27F (kOf p, kOf q) = some (if code p < code q then -1 else if code p = code q then 0 else 1) := by
  obtain ⟨p1, p2⟩ := p
  obtain ⟨q1, q2⟩ := q
  unfold inK at hp hq
  dsimp only at hp hq
  have a1 := IV_of (n := p1) (by omega)
  have a2 := IV_of (n := p2) (by omega)
  have b1 := IV_of (n := q1) (by omega)
  have b2 := IV_of (n := q2) (by omega)
  obtain ⟨o1, d1⟩ := fDiff_iv b1 a1 (by omega)
  obtain ⟨o2, d2⟩ := fDiff_iv b2 a2 (by omega)
  unfold U.f27F kOf code
  dsimp only
  rw [if_pos ⟨o1, o2⟩]
  have g1 : fOrd (fDiff (fOfInt q1) (fOfInt p1)) 0 .gt = decide (p1 < q1) := by
    rw [fOrd_iv d1 IV_zero, Bool.eq_iff_iff, beq_iff_eq, Int.compare_eq_gt, decide_eq_true_eq]; omega
  have g2 : fOrd (fDiff (fOfInt q1) (fOfInt p1)) 0 .eq = decide (p1 = q1) := by
    rw [fOrd_iv d1 IV_zero, Bool.eq_iff_iff, beq_iff_eq, Int.compare_eq_eq, decide_eq_true_eq]; omega
  have g3 : (Ieee.Format.order Ieee.double (fDiff (fOfInt q2) (fOfInt p2)) 0 == some .gt) = decide (p2 < q2) := by
    show fOrd _ _ .gt = _
    rw [fOrd_iv d2 IV_zero, Bool.eq_iff_iff, beq_iff_eq, Int.compare_eq_gt, decide_eq_true_eq]; omega
  have g4 : fOrd (fDiff (fOfInt q2) (fOfInt p2)) 0 .eq = decide (p2 = q2) := by
    rw [fOrd_iv d2 IV_zero, Bool.eq_iff_iff, beq_iff_eq, Int.compare_eq_eq, decide_eq_true_eq]; omega
  simp only [g1, g2, g3, g4, decide_eq_true_eq, Bool.and_eq_true]
  by_cases h1 : p1 < q1
  · rw [if_pos h1, if_pos (show p1 * 65536 + p2 < q1 * 65536 + q2 by omega)]
    rfl
  · rw [if_neg h1]
    by_cases h2 : p1 = q1
    · subst h2
      rw [if_pos rfl]
      simp only [Option.bind_some, decide_eq_true_eq, true_and]
      have k0 : p1 * 65536 + p2 < p1 * 65536 + q2 ↔ p2 < q2 := by omega
      have k1 : p1 * 65536 + p2 = p1 * 65536 + q2 ↔ p2 = q2 := by omega
      simp only [k0, k1]
      by_cases h3 : p2 < q2
      · rw [if_pos h3, if_pos h3]
      · rw [if_neg h3, if_neg h3]
        by_cases h4 : p2 = q2
        · rw [if_pos h4, if_pos h4]
        · rw [if_neg h4, if_neg h4]
    · rw [if_neg h2]
      simp only [Option.bind_some, Bool.false_eq_true, if_false]
      rw [if_neg (by rintro ⟨h, _⟩; exact h2 h), if_neg (show ¬ p1 * 65536 + p2 < q1 * 65536 + q2 by omega), if_neg (show ¬ p1 * 65536 + p2 = q1 * 65536 + q2 by omega)]
theorem u26_eq {k c : Int × Int} (hk : inK k) (hc : inK c) : U.f26F (kOf k, kOf c) = some (decide (code c < code k), kOf c) := by
  unfold U.f26F
  dsimp only
  rw [u18_eq hc]
  simp only [Option.bind_some, Bool.not_true, Bool.false_eq_true, if_false]
  rw [u27_eq hc hk]
  simp only [Option.bind_some]
  congr 2
  rw [Bool.eq_iff_iff, decide_eq_true_eq, decide_eq_true_eq]
  split
  · simp_all
  · split <;> simp_all
theorem u28_eq {a b : Int × Int} (ha : inK a) (hb : inK b) : U.f28F (kOf a, kOf b) = some (decide (code a < code b)) := by
  unfold U.f28F
  dsimp only
  rw [u27_eq ha hb]
  simp only [Option.bind_some]
  congr 1
  rw [Bool.eq_iff_iff, decide_eq_true_eq, decide_eq_true_eq]
  split
  · simp_all
  · split <;> simp_all
theorem u29_eq {k c : Int × Int} (hk : inK k) (hc : inK c) : U.f29F (kOf k, kOf c) = some (decide (code k < code c), kOf c) := by
  unfold U.f29F
  dsimp only
  rw [u18_eq hc]
  simp only [Option.bind_some, Bool.not_true, Bool.false_eq_true, if_false]
  rw [u27_eq hk hc]
  simp only [Option.bind_some]
  congr 2
  rw [Bool.eq_iff_iff, decide_eq_true_eq, decide_eq_true_eq]
  split
  · simp_all
  · split <;> simp_all
theorem u30_eq {a b : Int × Int} (ha : inK a) (hb : inK b) : U.f30F (kOf a, kOf b) = some (decide (code b ≤ code a)) := by
  unfold U.f30F
  dsimp only
  rw [u27_eq ha hb]
  simp only [Option.bind_some]
  congr 1
  rw [Bool.eq_iff_iff, decide_eq_true_eq, decide_eq_true_eq]
  split
  · simp_all
  · split
    · simp_all
    · simp only [Int.reduceLE, ge_iff_le, true_iff]
      omega
end Go.Sx
